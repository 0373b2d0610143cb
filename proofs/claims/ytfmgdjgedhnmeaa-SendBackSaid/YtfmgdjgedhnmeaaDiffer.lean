/- Where two trees differ: tree.Differ. -/
import Derived.Test.YtfmgdjgedhnmeaaAll
import Derived.Test.YtfmgdjgedhnmeaaTreeGet
import Derived.Test.YtfmgdjgedhnmeaaFileFacts
import Derived.Deep.RegionWith
import Derived.Deep.DeepCutAuto
import Derived.Laws.EntriesVeiled
import Derived.StillTailTactics
namespace Go.Proofs.Ytfmgdjgedhnmeaa
open Go.RowKit
set_option linter.unusedVariables false
set_option linter.unusedSimpArgs false

theorem range_four (p : Nat) : List.range (4 * p) = (List.range 4).flatMap fun k => (List.range p).map (k * p + ·) := by
  have h4 : List.range 4 = [0, 1, 2, 3] := rfl
  rw [h4, show 4 * p = p + (p + (p + p)) from by omega]
  simp only [List.range_add, List.flatMap_cons, List.flatMap_nil, List.map_append, List.map_map, List.append_nil]
  congr 1
  · simp
  · congr 1
    · apply List.map_congr_left
      intro x _
      simp
    · congr 1 <;>
      · apply List.map_congr_left
        intro x _
        simp only [Function.comp]
        omega
def diffL (m : Nat) (s : List Blk) (a b : Int) : List Nat := (List.range (p4n m)).filter fun i => decide (leafB m s a i ≠ leafB m s b i)
def diffF : Nat → List Blk → Int → Int → Int → List Int
  | 0, s, a, b, o => if a = b then [] else if leafB 0 s a 0 = leafB 0 s b 0 then [] else [o]
  | m + 1, s, a, b, o => if a = b then [] else (List.range 4).flatMap fun k => diffF m s (kidF s a k) (kidF s b k) (o + (k : Int) * (p4n m : Nat))
theorem diffL_self (m : Nat) (s : List Blk) (a : Int) : diffL m s a a = [] := by
  unfold diffL
  rw [List.filter_eq_nil_iff]
  intro i _
  simp
theorem diffL_succ (m : Nat) (hm : m < 3) (s : List Blk) (a b : Int) : diffL (m + 1) s a b = (List.range 4).flatMap fun k => (diffL m s (kidF s a k) (kidF s b k)).map (k * p4n m + ·) := by
  have hpp := p4n_pos m
  unfold diffL
  rw [p4n_succ m hm, range_four, List.filter_flatMap]
  congr 1
  funext k
  rw [List.filter_map]
  congr 1
  apply List.filter_congr
  intro i hi
  have hi := List.mem_range.1 hi
  simp only [Function.comp]
  have e1 : (k * p4n m + i) / p4n m = k := by
    rw [Nat.mul_comm, Nat.mul_add_div hpp, Nat.div_eq_of_lt hi]; omega
  have e2 : (k * p4n m + i) % p4n m = i := by
    rw [Nat.mul_comm, Nat.mul_add_mod, Nat.mod_eq_of_lt hi]
  rw [leafB_succ, leafB_succ, e1, e2]
theorem diffF_eq : ∀ (m : Nat) (s : List Blk) (a b o : Int), m ≤ 3 → diffF m s a b o = (diffL m s a b).map fun i : Nat => o + (i : Int) := by
  intro m
  induction m with
  | zero =>
    intro s a b o _
    unfold diffF
    by_cases h : a = b
    · subst h
      rw [if_pos rfl, diffL_self]; rfl
    · rw [if_neg h]
      unfold diffL
      have : List.range (p4n 0) = [0] := rfl
      rw [this]
      by_cases h2 : leafB 0 s a 0 = leafB 0 s b 0
      · rw [if_pos h2, List.filter_cons, if_neg (by simp [h2])]; rfl
      · rw [if_neg h2, List.filter_cons, if_pos (by simp [h2])]; simp
  | succ m ih =>
    intro s a b o hm
    unfold diffF
    by_cases h : a = b
    · subst h
      rw [if_pos rfl, diffL_self]; rfl
    · rw [if_neg h, diffL_succ m (by omega), List.map_flatMap]
      congr 1
      funext k
      rw [ih _ _ _ _ (by omega), List.map_map]
      congr 1
      funext i
      simp only [Function.comp]
      omega

theorem leafV_of {w : World} {ao : Option Addr} {s : List Blk} (hs : StoRow w ao s) {a : Int} (hr : RootAt s 0 a) : ∃ ba bc, LeafV w ao s.length a (.slice ba (leafB 0 s a 0).length bc) ∧ Row .u8 w ba (leafB 0 s a 0) ∧ Capd ba (leafB 0 s a 0).length bc := by
  rcases hr with h0 | ⟨ht, hl⟩
  · have e : leafB 0 s a 0 = [] := by rw [h0, leafB_zero]
    rw [e]
    exact ⟨none, 0, .inl ⟨h0, rfl⟩, .inl rfl, Nat.le_refl _, fun _ => rfl⟩
  · obtain ⟨j, hj, rfl, -⟩ := there_in ht
    have e : leafB 0 s ((j : Int) + 1) 0 = s[j].bytes := by
      unfold leafB leafA
      rw [if_neg (by omega), blk_at s j hj]
    rw [e]
    obtain ⟨b, o, rfl, hB⟩ := hs.at j hj
    obtain ⟨v3, x3, hv3⟩ := (hB j hj).bytes
    obtain ⟨ba, bc, rfl, hbr, hbc⟩ := hv3
    exact ⟨ba, bc, .inr ⟨j, b, o, hj, rfl, rfl, x3⟩, hbr, hbc⟩

set_option maxRecDepth 100000 in
set_option maxHeartbeats 1000000 in
theorem get0_any (w : World) (ao ba : Option Addr) (n cap nb bc : Nat) (s : List Blk) (a : Int) (hn : s.length = n) (h400 : n ≤ 400) (hs : StoRow w ao s) (hv : LeafV w ao n a (.slice ba nb bc)) :
    Calls Try.prog 107 #[.agg #[.slice ao n cap], .int .i64 a, .int .i64 0, .int .i64 0] w fun e w' => e = .returned (.slice ba nb bc) ∧ Below w.heap.size w w' := by
  have HN := Lib.hid hn
  have hb0 : Below w.heap.size w (w.alloc (.cells #[.slice ao n cap] 24)) := (Below.refl _ _).alloc (Nat.le_refl _) _
  have q4 : (w.alloc (.cells #[.slice ao n cap] 24)).heap[w.heap.size]? = some (.cells #[.slice ao n cap] 24 (0, 0)) := heap_alloc_new _ _
  have hv0 := hv.mono hb0
  clear hn hv
  go_enter Try.func107, Try.ntmps107
  go_wp2
  generalize w.alloc (Obj.cells #[Value.slice ao n cap] 24) = W0 at *
  have c4 := cell_of_one q4
  have l4 := lt_heap q4
  go_loopw [1, 2, 3] (fun u v x wr => u = .int .i64 a ∧ v = .int .i64 0 ∧ x = .int .i64 0 ∧ wr = W0) (fun _ v _ _ => (intOf v).toNat)
  case atStart => exact ⟨rfl, rfl, rfl, rfl⟩
  case round =>
    obtain ⟨rfl, rfl, rfl, rfl⟩ := hrel
    rcases hv0 with ⟨rfl, hveq⟩ | ⟨j, b, o, hj, rfl, rfl, hcell⟩
    · simp only [Value.slice.injEq] at hveq
      obtain ⟨rfl, rfl, rfl⟩ := hveq
      go_wp2
      go_ret
      exact ⟨rfl, hb0⟩
    · have hb1 : ((j : Int) + 1 != 0) = true := by rw [bne_iff_ne]; omega
      have hb2 : ((j : Int) + 1 == 0) = false := by rw [beq_eq_false_iff_ne]; omega
      have lB := World.block_lt_of_cell? _ _ hcell
      have hjn : (j : Int) < n := by omega
      go_wp2
      go_ret
      exact ⟨rfl, hb0⟩

set_option maxRecDepth 100000 in
set_option maxHeartbeats 1000000 in
theorem kid_any (w : World) (ao : Option Addr) (n cap sb : Nat) (s : List Blk) (a : Int) (k m : Nat) (hn : s.length = n) (h400 : n ≤ 400) (hs : StoRow w ao s) (hbox : w.heap[sb]? = some (.cells #[.slice ao n cap] 24 (0, 0))) (hf : formsE s s = 0) (hr : RootAt s (m + 1) a) (hk : k < 4) :
    Calls Try.prog 109 #[.int .i64 a, .int .i64 (k : Int), .pointer (some ⟨sb, 0, none⟩)] w fun e w' => e = .returned (.int .i64 (kidF s a k)) ∧ w' = w := by
  have HN := Lib.hid hn
  have c1 := cell_of_one hbox
  have l1 := lt_heap hbox
  clear hn
  rcases hr with rfl | ⟨ht, hl⟩
  · have HK := Lib.hid (kidF_zero s k)
    go_enter Try.func109, Try.ntmps109
    go_wp2
    go_ret
    exact ⟨by rw [HK.out]; rfl, rfl⟩
  · have h4 := four_kids hf ht (by omega)
    obtain ⟨j, hj, rfl, -⟩ := there_in ht
    rw [blk_at s j hj] at h4
    have hkl : k < s[j].kids.length := by omega
    have HK := Lib.hid (show kidF s ((j : Int) + 1) k = s[j].kids[k] by rw [kidF_ne _ _ _ (by omega), blk_at s j hj, List.getElem?_eq_getElem hkl]; rfl)
    have hb2 : ((j : Int) + 1 == 0) = false := by rw [beq_eq_false_iff_ne]; omega
    have hjn : (j : Int) < n := by have := HN.out; omega
    obtain ⟨b, o, rfl, hB⟩ := hs.at j hj
    obtain ⟨v2, x2, hv2⟩ := (hB j hj).kids
    have lB := (hB j hj).lt
    obtain ⟨ka, kc, rfl, hkr, hkc⟩ := hv2
    obtain ⟨kb, ko, rfl, hkk⟩ := hkr.at k hkl
    have xk := hkk k hkl
    have lk := World.block_lt_of_cell? _ _ xk
    rw [h4] at x2
    have hk4 : (k : Int) < 4 := by omega
    clear hB hkr hkk ht hl hkc
    generalize s[j].kids[k] = y at *
    go_enter Try.func109, Try.ntmps109
    go_wp2
    go_ret
    exact ⟨by rw [HK.out]; rfl, rfl⟩

theorem diffF_len (m : Nat) (hm : m ≤ 3) (s : List Blk) (a b o : Int) : (diffF m s a b o).length ≤ p4n m := by
  rw [diffF_eq m s a b o hm, List.length_map]
  unfold diffL
  exact Nat.le_trans (List.length_filter_le _ _) (by rw [List.length_range]; exact Nat.le_refl _)

end Go.Proofs.Ytfmgdjgedhnmeaa

namespace Go.Proofs.Ytfmgdjgedhnmeaa
open Go.RowKit
set_option linter.unusedVariables false

set_option maxRecDepth 100000 in
set_option maxHeartbeats 4000000 in
theorem diff_same (w1 w : World) (ao : Option Addr) (n cap : Nat) (s : List Blk) (sb m : Nat) (L : List Int) (a o : Int) (hD : DiffAt w1 w ao n cap s sb L) :
    Calls Try.prog 106 #[.int .i64 a, .int .i64 a, .int .i64 (m : Int), .int .i64 o, .pointer (some ⟨sb, 0, none⟩), .pointer (some ⟨w1.heap.size, 0, none⟩), .pointer (some ⟨w1.heap.size + 1, 0, none⟩)] w fun e w' =>
      e = .returned (.tuple #[]) ∧ DiffAt w1 w' ao n cap s sb (L ++ diffF m s a a o) := by
  have hF : diffF m s a a o = [] := by cases m <;> simp [diffF]
  rw [hF, List.append_nil]
  have HD := Lib.hid hD
  clear hF hD
  go_enter Try.func106, Try.ntmps106
  go_wp2
  refine bodyPost_ret (v := .tuple #[]) (by simp [results, Try.results106, go_sem]) rfl ⟨rfl, HD.out⟩

set_option maxRecDepth 100000 in
set_option maxHeartbeats 4000000 in
theorem diff_zero (w1 w : World) (ao : Option Addr) (n cap : Nat) (s : List Blk) (sb : Nat) (L : List Int) (a b o : Int) (hD : DiffAt w1 w ao n cap s sb L) (h400 : n ≤ 400) (hwf : WfS s) (hf : formsE s s = 0) (ha : RootAt s 0 a) (hb : RootAt s 0 b) (hab : a ≠ b)
    (ho0 : 0 ≤ o) (ho1 : o ≤ 1000) (hL : L.length ≤ 1000) :
    Calls Try.prog 106 #[.int .i64 a, .int .i64 b, .int .i64 0, .int .i64 o, .pointer (some ⟨sb, 0, none⟩), .pointer (some ⟨w1.heap.size, 0, none⟩), .pointer (some ⟨w1.heap.size + 1, 0, none⟩)] w fun e w' =>
      e = .returned (.tuple #[]) ∧ DiffAt w1 w' ao n cap s sb (L ++ diffF 0 s a b o) := by
  have hab0 : (a == b) = false := by rw [beq_eq_false_iff_ne]; exact hab
  have hs := hD.sto.mono hD.below
  have hbox := (hD.below.block _ (lt_heap hD.sbox)).trans hD.sbox
  have hla := (leafB_len hf 0 a 0 (by omega) ha (by decide)).1
  have hlb := (leafB_len hf 0 b 0 (by omega) hb (by decide)).1
  obtain ⟨va, ca, hva, hra, hca⟩ := leafV_of hs ha
  obtain ⟨vb, cb, hvb, hrb, hcb⟩ := leafV_of hs hb
  rw [hD.len.out] at hva hvb
  have HF : Hid (diffF 0 s a b o = if leafB 0 s a 0 = leafB 0 s b 0 then [] else [o]) := Lib.hid (by unfold diffF; rw [if_neg hab])
  have HG1 := Lib.hid (fun (u : World) (h : Below w.heap.size w u) => get0_any u ao va n cap _ ca s a hD.len.out h400 (hs.mono h) (hva.mono h))
  have HG2 := Lib.hid (fun (u : World) (h : Below w.heap.size w u) => get0_any u ao vb n cap _ cb s b hD.len.out h400 (hs.mono h) (hvb.mono h))
  have HG3 := Lib.hid (fun (u : World) (h : Below w.heap.size w u) => slices_equal_byte va vb _ _ ca cb (leafB 0 s a 0) (leafB 0 s b 0) u rfl rfl (hra.mono h) (hrb.mono h) (by omega))
  have c1 := cell_of_one hbox
  have l1 := lt_heap hbox
  have HD := Lib.hid hD
  have hlf := lt_heap hD.fbox
  clear hs hD hva hvb hra hrb hca hcb ha hb hab hla hlb
  generalize hxa : leafB 0 s a 0 = xa at *
  generalize hxb : leafB 0 s b 0 = xb at *
  replace hxa := Lib.hid hxa
  replace hxb := Lib.hid hxb
  obtain ⟨c, hc⟩ : ∃ c, (xa == xb) = c := ⟨_, rfl⟩
  rw [hc] at HG3
  have HC := Lib.hid hc
  clear hc
  go_enter Try.func106, Try.ntmps106
  go_wp2_with fail
  refine wp_region_mix (by kernel_rfl) (by kernel_rfl) ?_
  repeat (go_big_quiet_step (first
    | (go_at_call 107; refine calls_mix (v := .slice va xa.length ca) ?_; with_reducible exact HG1.out _ (mix_below _ _))
    | (go_at_call 107; refine calls_mix (v := .slice vb xb.length cb) ?_; with_reducible exact HG2.out _ (mix_below _ _))
    | (go_at_call 53; refine calls_mix (v := .bool c) ?_; with_reducible exact HG3.out _ (mix_below _ _))))
  refine wpQuiet_nil ?_
  intro w2 hb2
  have hD2 := HD.out.mono hb2
  clear HG1 HG2 HG3 c1 l1 HD
  obtain ⟨lv, hlv, hown⟩ := hD2.lbox
  obtain ⟨la, lc, rfl, hl1, hl2, hl3, hl4⟩ := hown.shape'
  cases c with
  | true =>
    have he : xa = xb := by have := HC.out; rwa [beq_iff_eq] at this
    have HR := Lib.hid (show DiffAt w1 w2 ao n cap s sb (L ++ diffF 0 s a b o) by rw [HF.out, if_pos he, List.append_nil]; exact hD2)
    clear he HF
    go_wp2
    refine bodyPost_ret (v := .tuple #[]) (by simp [results, Try.results106, go_sem]) rfl ⟨rfl, HR.out⟩
  | false =>
    have he : ¬ xa = xb := by have := HC.out; rwa [beq_eq_false_iff_ne] at this
    have HF2 := Lib.hid (show diffF 0 s a b o = [o] by rw [HF.out, if_neg he])
    have c2 := cell_of_one hlv
    have f2 := free_of_one hlv
    have l2 := lt_heap hlv
    have lf2 := lt_heap hD2.fbox
    have hsz : w1.heap.size + 2 ≤ w2.heap.size := by omega
    have HADD := Lib.hid (fun v' w4 (h1 : Own .i64 3 (w1.heap.size + 2) w4 v' (L ++ [o])) (h2 : Below (w1.heap.size + 2) w2 w4) => hD2.add h2 h1)
    have HLL := Lib.hid hL
    clear he HF hl1 hl2 hl3 hl4 hL
    go_wp2_with (first
      | (at_builtin; refine append_int rfl (.tmp 28) (.tmp 30) _ rfl .i64 3 8 (w1.heap.size + 2) Try.underlying91 info_int _ _ _ rfl hown _ rfl (by simp) ?_ ?_ hsz ?_; rotate_right; intro v' w4 hown4 hbel4; obtain ⟨la', lc', rfl, -, -, -, -⟩ := hown4.shape'; have hlv4 := (hbel4.block _ (by omega)).trans hlv; have c4 := cell_of_one hlv4; have f4 := free_of_one hlv4; have l4 := lt_heap hlv4))
    · refine bodyPost_ret (v := .tuple #[]) (by simp [results, Try.results106, go_sem]) rfl ⟨rfl, by rw [HF2.out]; exact HADD.out _ _ (by simpa only [List.length_append, List.length_cons, List.length_nil, Nat.zero_add] using hown4) hbel4⟩
    · have := HLL.out; unfold maxLen; omega
    · have := HLL.out; omega

/-- what a level has found, after some of its four -/
def diffTo (m : Nat) (s : List Blk) (a b o : Int) (k : Nat) : List Int := (List.range k).flatMap fun q => diffF m s (kidF s a q) (kidF s b q) (o + (q : Int) * (p4n m : Nat))
theorem diffTo_succ (m : Nat) (s : List Blk) (a b o : Int) (k : Nat) : diffTo m s a b o (k + 1) = diffTo m s a b o k ++ diffF m s (kidF s a k) (kidF s b k) (o + (k : Int) * (p4n m : Nat)) := by
  unfold diffTo
  rw [List.range_succ, List.flatMap_append]
  simp
theorem diffTo_len (m : Nat) (hm : m ≤ 3) (s : List Blk) (a b o : Int) : ∀ k, (diffTo m s a b o k).length ≤ k * p4n m := by
  intro k
  induction k with
  | zero => simp [diffTo]
  | succ k ih =>
    rw [diffTo_succ, List.length_append, Nat.succ_mul]
    have := diffF_len m hm s (kidF s a k) (kidF s b k) (o + (k : Int) * (p4n m : Nat))
    omega

def WalkD (m : Nat) : Prop := ∀ (w1 w : World) (ao : Option Addr) (n cap : Nat) (s : List Blk) (sb : Nat) (L : List Int) (a b o : Int), DiffAt w1 w ao n cap s sb L → n ≤ 400 → WfS s → formsE s s = 0 → RootAt s m a → RootAt s m b → 0 ≤ o → o + p4n m ≤ 1000 → L.length + p4n m ≤ 1000 →
    Calls Try.prog 106 #[.int .i64 a, .int .i64 b, .int .i64 (m : Int), .int .i64 o, .pointer (some ⟨sb, 0, none⟩), .pointer (some ⟨w1.heap.size, 0, none⟩), .pointer (some ⟨w1.heap.size + 1, 0, none⟩)] w fun e w' =>
      e = .returned (.tuple #[]) ∧ DiffAt w1 w' ao n cap s sb (L ++ diffF m s a b o)

theorem kidF_root {s : List Blk} (hf : formsE s s = 0) {m : Nat} {a : Int} (hr : RootAt s (m + 1) a) (k : Nat) (hk : k < 4) : RootAt s m (kidF s a k) := by
  rcases hr with rfl | ⟨ht, hl⟩
  · exact .inl (kidF_zero s k)
  · have h4 := four_kids hf ht (by omega)
    have := root_kid hf ht (m := m) (by omega) k (by omega)
    by_cases h0 : a = 0
    · rw [h0, kidF_zero]; exact .inl rfl
    · rw [kidF_ne _ _ _ h0, List.getElem?_eq_getElem (by omega)]
      exact this

set_option maxRecDepth 100000 in
set_option maxHeartbeats 4000000 in
theorem diff_succ (m : Nat) (hm : m ≤ 2) (ih : WalkD m) : WalkD (m + 1) := by
  intro w1 w ao n cap s sb L a b o hD h400 hwf hf ha hb ho0 ho1 hL
  have hps := p4n_succ m (by omega)
  have hpp := p4n_pos m
  have hp16 : p4n m ≤ 16 := by unfold p4n; (repeat' split) <;> omega
  by_cases hab : a = b
  · subst hab
    exact diff_same w1 w ao n cap s sb (m + 1) L a o hD
  have hab0 : (a == b) = false := by rw [beq_eq_false_iff_ne]; exact hab
  have HF : Hid (diffF (m + 1) s a b o = diffTo m s a b o 4) := Lib.hid (by
    show (if a = b then [] else _) = _
    rw [if_neg hab]; rfl)
  have HS := Lib.hid (diffTo_succ m s a b o)
  have HZ : Hid (diffTo m s a b o 0 = []) := Lib.hid rfl
  have HL := Lib.hid (diffTo_len m (by omega) s a b o)
  have hl1 : lvN (m : Int) = (((p4n m : Nat) : Int), 0) := by
    unfold lvN
    rw [if_neg (by omega), ← p4n_int]; rfl
  have hz0 : ((m : Int) + 1 == 0) = false := by rw [beq_eq_false_iff_ne]; omega
  have HLL := Lib.hid hL
  have HD := Lib.hid hD
  have HKA := Lib.hid (fun (u : World) (hu : Below w1.heap.size w1 u) (k : Nat) (hk : k < 4) => kid_any u ao n cap sb s a k m hD.len.out h400 (hD.sto.mono hu) ((hu.block _ (lt_heap hD.sbox)).trans hD.sbox) hf ha hk)
  have HKB := Lib.hid (fun (u : World) (hu : Below w1.heap.size w1 u) (k : Nat) (hk : k < 4) => kid_any u ao n cap sb s b k m hD.len.out h400 (hD.sto.mono hu) ((hu.block _ (lt_heap hD.sbox)).trans hD.sbox) hf hb hk)
  have HRA := Lib.hid (fun k (hk : k < 4) => kidF_root hf ha k hk)
  have HRB := Lib.hid (fun k (hk : k < 4) => kidF_root hf hb k hk)
  have HIH := Lib.hid ih
  clear hL hD ih hab ha hb
  generalize diffTo m s a b o = D at *
  go_enter Try.func106, Try.ntmps106
  go_wp2_with fail
  refine (leaves_any _ _).mono ?_
  rw [hl1]
  rintro e w2 ⟨rfl, rfl⟩
  go_wp2
  go_loopw [39] (fun x wr => ∃ k : Nat, k ≤ 4 ∧ x = .int .i64 k ∧ DiffAt w1 wr ao n cap s sb (L ++ D k)) (fun x _ => 4 - (intOf x).toNat)
  case atStart => exact ⟨0, by omega, rfl, by rw [HZ.out, List.append_nil]; exact HD.out⟩
  case round =>
    obtain ⟨k, hk, rfl, hD⟩ := hrel
    by_cases hlt : k < 4
    · have c6 := cell_of_one hD.fbox
      have l6 := lt_heap hD.fbox
      have HDr := Lib.hid hD
      have hbl := hD.below
      have hkA := HKA.out wr.drew (below_step hbl (Below.refl _ _).drew) k hlt
      have hkB := HKB.out wr.drew (below_step hbl (Below.refl _ _).drew) k hlt
      have hrA := HRA.out k hlt
      have hrB := HRB.out k hlt
      have hs := HS.out k
      generalize kidF s a k = ya at *
      generalize kidF s b k = yb at *
      have hq0 : 0 ≤ (k : Int) * ((p4n m : Nat) : Int) := Int.mul_nonneg (by omega) (by omega)
      have hkq : k * p4n m ≤ 3 * p4n m := Nat.mul_le_mul_right _ (by omega)
      have hq1 : (k : Int) * ((p4n m : Nat) : Int) ≤ 48 := by
        have : ((k * p4n m : Nat) : Int) ≤ 48 := by omega
        simpa using this
      have hDL := HL.out k
      have hwq : IntKind.i64.wrap ((k : Int) * ((p4n m : Nat) : Int)) = (k : Int) * ((p4n m : Nat) : Int) := by
        generalize (k : Int) * ((p4n m : Nat) : Int) = z at hq0 hq1
        have h1 : z % 18446744073709551616 = z := by omega
        simp [IntKind.wrap, IntKind.bits, IntKind.signed, h1]
        omega
      have hop : (k : Int) * ((p4n m : Nat) : Int) + p4n m ≤ p4n (m + 1) := by
        have : k * p4n m + p4n m ≤ p4n (m + 1) := by omega
        have h2 := Int.ofNat_le.2 this
        simpa using h2
      have hDL2 : L.length + (D k).length + p4n m ≤ 1000 := by have := HLL.out; omega
      have HI := Lib.hid (fun u (h : DiffAt w1 u ao n cap s sb (L ++ D k)) => HIH.out w1 u ao n cap s sb (L ++ D k) ya yb (o + (k : Int) * ((p4n m : Nat) : Int)) h h400 hwf hf hrA hrB (by omega) (by omega) (by rw [List.length_append]; omega))
      have HSS := Lib.hid hs
      have ho2 : o + (k : Int) * ((p4n m : Nat) : Int) ≤ 1000 := by omega
      clear hrA hrB hs hbl hDL hop hkq hDL2 hD
      generalize p4n m = qn at *
      go_wp2_with fail
      refine wp_region_still_tail 16 (by kernel_rfl) (by kernel_rfl) ?_
      simp only [List.take_succ_cons, List.take_zero, List.drop_succ_cons, List.drop_zero]
      repeat still_step
      still_call hkA
      repeat still_step
      still_call hkB
      repeat still_step
      refine wpStill_nil ?_
      change wpList _ _ _ _ _ wr.drew
      have hDd := HDr.out.mono (Below.refl wr.heap.size wr).drew
      clear hkA hkB HDr c6
      generalize wr.drew = w3 at *
      go_wp2_with fail
      refine (HI.out _ hDd).mono ?_
      rintro e w4 ⟨rfl, hD4⟩
      have HD4 : Hid (DiffAt w1 w4 ao n cap s sb (L ++ D (k + 1))) := Lib.hid (by rw [HSS.out, ← List.append_assoc]; exact hD4)
      clear hD4 hDd
      go_wp2
      go_roundw
      case rel => exact ⟨k + 1, by omega, by go_num, HD4.out⟩
      case measure => simp [intOf]; omega
    · obtain rfl : k = 4 := by omega
      have HR := Lib.hid hD
      clear hD
      go_wp2
      go_end0
      exact ⟨rfl, by rw [HF.out]; exact HR.out⟩

theorem walkD_any : ∀ m : Nat, m ≤ 3 → WalkD m := by
  intro m
  induction m with
  | zero =>
    intro _ w1 w ao n cap s sb L a b o hD h400 hwf hf ha hb ho0 ho1 hL
    by_cases hab : a = b
    · subst hab
      exact diff_same w1 w ao n cap s sb 0 L a o hD
    · exact diff_zero w1 w ao n cap s sb L a b o hD h400 hwf hf ha hb hab ho0 (by omega) (by omega)
  | succ m ih => intro h; exact diff_succ m (by omega) (ih (by omega))
end Go.Proofs.Ytfmgdjgedhnmeaa

namespace Go.Proofs.Ytfmgdjgedhnmeaa
open Go.RowKit
set_option linter.unusedVariables false

def differR (s : List Blk) (a b l : Int) : List Int × Int :=
  if checkT s a l 0 ≠ 0 then ([], checkT s a l 0) else if checkT s b l 0 ≠ 0 then ([], checkT s b l 0) else (diffF l.toNat s a b 0, 0)

theorem index_two (x y : Int) (u : World) : (Instr.index 182 (.agg #[.int .i64 x, .int .i64 y]) (.int .i64 0)).run Try.prog u = .ok (.int .i64 x) u ∧ (Instr.index 182 (.agg #[.int .i64 x, .int .i64 y]) (.int .i64 1)).run Try.prog u = .ok (.int .i64 y) u := by
  have h : Try.prog.underlying 182 = some (.array 2 3) := Try.underlying182
  constructor
  · simp [Instr.index, asIntOf, run_underlying h, go_sem]
  · simp [Instr.index, asIntOf, run_underlying h, go_sem]

set_option maxRecDepth 100000 in
set_option maxHeartbeats 4000000 in
theorem differ_any (w : World) (ao : Option Addr) (n cap : Nat) (s : List Blk) (a b l : Int) (hn : s.length = n) (hn63 : n ≤ 1152921504606846976) (hs : StoRow w ao s) (hwf : WfS s) :
    Calls Try.prog 66 #[.agg #[.slice ao n cap], .int .i64 a, .int .i64 b, .int .i64 l] w fun e w' => ∃ v, e = .returned (.tuple #[v, .int .i64 (differR s a b l).2]) ∧ Own .i64 3 w.heap.size w' v (differR s a b l).1 ∧ Below w.heap.size w w' := by
  have HN := Lib.hid hn
  have hb0 : Below w.heap.size w (w.alloc (.cells #[.slice ao n cap] 24)) := (Below.refl _ _).alloc (Nat.le_refl _) _
  have q4 : (w.alloc (.cells #[.slice ao n cap] 24)).heap[w.heap.size]? = some (.cells #[.slice ao n cap] 24 (0, 0)) := heap_alloc_new _ _
  clear hn
  go_enter Try.func66, Try.ntmps66
  go_wp2
  generalize w.alloc (Obj.cells #[Value.slice ao n cap] 24) = W0 at *
  go_loopw [18] (fun x wr => Below W0.heap.size W0 wr ∧ (x = .int .i64 0 ∨ (x = .int .i64 1 ∧ checkT s a l 0 = 0) ∨ (x = .int .i64 2 ∧ checkT s a l 0 = 0 ∧ checkT s b l 0 = 0))) (fun x _ => 2 - (intOf x).toNat)
  case atStart => exact ⟨Below.refl _ _, .inl rfl⟩
  case round =>
    obtain ⟨hbel, hx⟩ := hrel
    have p4 := (hbel.block _ (lt_heap q4)).trans q4
    have hbw := below_step hb0 hbel
    have hs1 := hs.mono hbw
    have c4 := cell_of_one p4
    have l4 := lt_heap p4
    obtain ⟨hi0, hi1⟩ := index_two a b wr
    rcases hx with rfl | ⟨rfl, hca⟩ | ⟨rfl, hca, hcb⟩
    · go_wp2_with fail
      refine (treeCheck_any _ _ _ _ s a l 0 HN.out hn63 hs1 hwf).mono ?_
      rintro e w1 ⟨rfl, hb1⟩
      have hbw1 := below_step hbw hb1
      have hbel1 := below_step hbel hb1
      by_cases hc : checkT s a l 0 = 0
      · have HC := Lib.hid hc
        have he1 : (checkT s a l 0 != 0) = false := by rw [hc]; rfl
        clear hc
        generalize hcc : checkT s a l 0 = ca at he1 ⊢
        replace hcc := Lib.hid hcc
        go_wp2
        go_roundw
        case rel => exact ⟨hbel1, .inr (.inl ⟨rfl, HC.out⟩)⟩
        case measure => simp [intOf]
      · have HR := Lib.hid (show differR s a b l = ([], checkT s a l 0) by unfold differR; rw [if_pos hc])
        have he1 : (checkT s a l 0 != 0) = true := by rw [bne_iff_ne]; exact hc
        generalize hcc : checkT s a l 0 = ca at *
        replace hcc := Lib.hid hcc
        clear hc
        go_wp2
        go_ret2
        exact ⟨_, by rw [HR.out]; rfl, by rw [HR.out]; exact Own.nil _ _ _ _, hbw1⟩
    · have HCA := Lib.hid hca
      clear hca
      go_wp2_with fail
      refine (treeCheck_any _ _ _ _ s b l 0 HN.out hn63 hs1 hwf).mono ?_
      rintro e w1 ⟨rfl, hb1⟩
      have hbw1 := below_step hbw hb1
      have hbel1 := below_step hbel hb1
      by_cases hc : checkT s b l 0 = 0
      · have HC := Lib.hid hc
        have he1 : (checkT s b l 0 != 0) = false := by rw [hc]; rfl
        clear hc
        generalize hcc : checkT s b l 0 = cb at he1 ⊢
        replace hcc := Lib.hid hcc
        go_wp2
        go_roundw
        case rel => exact ⟨hbel1, .inr (.inr ⟨rfl, HCA.out, HC.out⟩)⟩
        case measure => simp [intOf]
      · have HR := Lib.hid (show differR s a b l = ([], checkT s b l 0) by unfold differR; rw [if_neg (by simp [HCA.out]), if_pos hc])
        have he1 : (checkT s b l 0 != 0) = true := by rw [bne_iff_ne]; exact hc
        generalize hcc : checkT s b l 0 = cb at *
        replace hcc := Lib.hid hcc
        clear hc
        go_wp2
        go_ret2
        exact ⟨_, by rw [HR.out]; rfl, by rw [HR.out]; exact Own.nil _ _ _ _, hbw1⟩
    · have HR := Lib.hid (show differR s a b l = (diffF l.toNat s a b 0, 0) by unfold differR; rw [if_neg (by simp [hca]), if_neg (by simp [hcb])])
      obtain ⟨hce, m, rfl, hm, hra, -, -⟩ := checkT_ok hca
      obtain ⟨-, m', hmm, -, hrb, -, -⟩ := checkT_ok hcb
      obtain rfl : m = m' := by omega
      have hf := (checkE_zero s hce).2.1
      have h400 : n ≤ 400 := by have := (checkE_zero s hce).1; have := HN.out; omega
      have hp64 : p4n m ≤ 64 := by unfold p4n; (repeat' split) <;> omega
      rw [Int.toNat_natCast] at HR
      clear hca hcb hce hmm c4 l4 hi0 hi1
      go_wp2_with fail
      have hDA : DiffAt wr ((wr.alloc (Obj.cells #[Value.slice none 0 0] 91)).alloc (Obj.cells #[Value.func (Fn.func 106) #[] #[Value.pointer (some ⟨w.heap.size, 0, none⟩), Value.pointer (some ⟨wr.heap.size, 0, none⟩), Value.pointer (some ⟨wr.heap.size + 1, 0, none⟩)]] 184)) ao n cap s w.heap.size [] :=
        ⟨HN, hs1, p4, ((Below.refl _ _).alloc (Nat.le_refl _) _).alloc (by simp) _, heap_alloc2_new _ _ _, .slice none 0 0, heap_alloc2_old _ _ _, Own.nil _ _ _ _⟩
      have hsw := hbw.size
      generalize (wr.alloc (Obj.cells #[Value.slice none 0 0] 91)).alloc (Obj.cells #[Value.func (Fn.func 106) #[] #[Value.pointer (some ⟨w.heap.size, 0, none⟩), Value.pointer (some ⟨wr.heap.size, 0, none⟩), Value.pointer (some ⟨wr.heap.size + 1, 0, none⟩)]] 184) = W3 at *
      refine (walkD_any m hm wr W3 ao n cap s w.heap.size [] a b 0 hDA h400 hwf hf hra hrb (by omega) (by omega) (by simp; omega)).mono ?_
      rintro e w4 ⟨rfl, hD4⟩
      rw [List.nil_append] at hD4
      obtain ⟨lv, hl4, hown4⟩ := hD4.lbox
      obtain ⟨la, lc, rfl, -, -, -, -⟩ := hown4.shape'
      have c4 := cell_of_one hl4
      have l4 := lt_heap hl4
      have hb4 := below_step hbw hD4.below
      have HO := Lib.hid (hown4.weaken (base' := w.heap.size) (by omega))
      clear hown4 hD4 hDA
      go_wp2
      go_ret2
      exact ⟨_, by rw [HR.out]; rfl, by rw [HR.out]; exact HO.out, hb4⟩
end Go.Proofs.Ytfmgdjgedhnmeaa
