/- rookeryref.TurnIn. -/
import Derived.Test.YtodogcokljmkmaaRefFile
import Derived.Test.YtodogcokljmkmaaPutIn
import Derived.Test.YtodogcokljmkmaaDropIn
namespace Go.Proofs.Ytodogcokljmkmaa
open Go.RowKit
set_option linter.unusedVariables false

theorem splice_ints (k : IntKind) (a b : List Int) (i : Nat) : splice (a.map (Value.int k)) i (b.map (Value.int k)) = (splice a i b).map (Value.int k) := by simp [splice]

set_option maxRecDepth 100000 in
set_option maxHeartbeats 2000000 in
theorem leaf_ref (w : World) (bo : Option Addr) (nb bc : Nat) (b : List Int) (i : Nat) (hnb : b.length = nb) (hb : nb ≤ 256) (hi : i < 64) (hbr : Row .u8 w bo b) (hbc : nb ≤ bc) :
    Calls Try.prog 72 #[.slice bo nb bc, .int .i64 i] w fun e w' => e = .returned (.slice (some ⟨w.heap.size, 0, none⟩) 4 4) ∧ w'.heap[w.heap.size]? = some (.cells (icells .u8 (fourAt (pad b) i)) 5 (0, 0)) ∧ Below w.heap.size w w' := by
  have HF := Lib.hid (four_ref b (by omega) i hi)
  have HF0 := Lib.hid (four_none b (by omega) i hi)
  have HN := Lib.hid hnb
  have hmk : ∀ u : World, (Instr.makeSlice 32 (.int .i64 4) (.int .i64 4)).run Try.prog u = .ok (.slice (some ⟨u.heap.size, 0, none⟩) 4 4) (u.alloc (.cells (icells .u8 (zeros 4)) 5)) := fun u =>
    make_ints (P := Try.prog) .u8 32 5 1 Try.underlying32 info_u8 4 (by omega) (by omega) u
  have hszI : (Try.prog.info? 5).map (·.size) = some 1 := by kernel_rfl
  have hA : Below w.heap.size w (w.alloc (.cells (icells .u8 (zeros 4)) 5)) := (Below.refl _ _).alloc (Nat.le_refl _) _
  have pn : (w.alloc (.cells (icells .u8 (zeros 4)) 5)).heap[w.heap.size]? = some (.cells ((zeros 4).map (Value.int .u8)).toArray 5 (0, 0)) := heap_alloc_new _ _
  have HPN := Lib.hid pn
  clear pn hnb
  by_cases h4 : 4 * i < nb
  · have h4i : 4 * (i : Int) < nb := by omega
    have h4c : ¬ bc = 4 * i := by omega
    obtain ⟨gb, ob, rfl, -⟩ := hbr.at 0 (by have := HN.out; omega)
    have hsrc : Row .u8 (w.alloc (.cells (icells .u8 (zeros 4)) 5)) (some ⟨gb, ob + 4 * i, none⟩) ((b.drop (4 * i)).take 4) := by
      obtain ⟨g1, o1, he, hc⟩ := (hbr.mono hA).at 0 (by have := HN.out; omega)
      simp only [Option.some.injEq, Addr.mk.injEq, and_true] at he
      obtain ⟨rfl, rfl⟩ := he
      refine .inr ⟨_, _, rfl, fun j hj => ?_⟩
      have hj2 : 4 * i + j < b.length := by rw [List.length_take, List.length_drop] at hj; omega
      have := hc (4 * i + j) hj2
      rw [Nat.add_assoc, this]
      simp
    have HSRC := Lib.hid hsrc
    obtain ⟨ys, hys⟩ : ∃ ys, (b.drop (4 * i)).take 4 = ys := ⟨_, rfl⟩
    rw [hys] at HSRC HF
    have hyl : ys.length = Nat.min (nb - 4 * i) 4 := by rw [← hys, List.length_take, List.length_drop, HN.out, Nat.min_comm]
    have hcn : (ys.map (Value.int .u8)).length = Nat.min (nb - 4 * i) 4 := by rw [List.length_map]; exact hyl
    have hfit : 0 + (ys.map (Value.int .u8)).length ≤ ((zeros 4).map (Value.int .u8)).length := by
      rw [List.length_map, List.length_map, hyl]
      have : Nat.min (nb - 4 * i) 4 ≤ 4 := Nat.min_le_right _ _
      simp only [zeros, List.length_replicate]
      omega
    have HCN := Lib.hid hcn
    have HFT := Lib.hid hfit
    clear hys hyl hcn hfit hsrc hbr HF0
    go_enter Try.func72, Try.ntmps72
    go_wp2_with (with_reducible refine copy_grown rfl (.tmp 12) (.tmp 16) 32 32 rfl 5 Try.underlying32 hszI (some ⟨w.heap.size, 0, none⟩) (some ⟨gb, ob + 4 * i, none⟩) 4 4 (nb - 4 * i) (bc - 4 * i) rfl rfl w.heap.size 0 ((zeros 4).map (Value.int .u8)) 5 HPN.out (ys.map (Value.int .u8)) HCN.out (fun h => ⟨rfl, row_src HSRC.out (by simpa using h)⟩) HFT.out (ints_one _ _) ?_)
    intro w5 HG5 hg5
    have hG5 := HG5.out
    rw [splice_ints, HF.out] at hG5
    have hb5 := hA.trans (grown_below hg5 (Nat.le_refl _) hA.size)
    have HZ := Lib.hid hG5
    clear HG5 hG5 hg5
    go_wp2
    go_ret
    exact ⟨rfl, HZ.out, hb5⟩
  · have h4i : ¬ (4 * (i : Int) < nb) := by omega
    have HF1 := Lib.hid (HF0.out (by have := HN.out; omega))
    clear hbr HF
    go_enter Try.func72, Try.ntmps72
    go_wp2
    go_ret
    exact ⟨rfl, by rw [HF1.out]; exact HPN.out, hA⟩

set_option maxRecDepth 100000 in
set_option maxHeartbeats 2000000 in
theorem dropIn_zero (w : World) (pb : Nat) : Calls Try.prog 75 #[.pointer (some ⟨pb, 0, none⟩), .int .i64 0] w fun e w' => e = .returned (.tuple #[]) ∧ Below w.heap.size w w' := by
  have hb0 : Below w.heap.size w (w.alloc (.cells #[.int .i64 0] 3)) := (Below.refl _ _).alloc (Nat.le_refl _) _
  have hq0 : Que (w.alloc (.cells #[.int .i64 0] 3)) w.heap.size (.slice (some ⟨w.heap.size, 0, none⟩) 1 1) [0] := Que.one (Nat.le_refl _)
  go_enter Try.func75, Try.ntmps75
  go_wp2
  go_loopg [4] 2 (fun gk v wr => ∃ (q : List Int), gk = 1 + q.length ∧ q.length ≤ 1 ∧ (∀ k ∈ q, k = 0) ∧ Below w.heap.size w wr ∧ Que wr w.heap.size v q)
  case atStart => exact ⟨[0], rfl, by simp, by simp, hb0, hq0⟩
  case round =>
    obtain ⟨q, hgk, hq1, hz, hb1, hq⟩ := hrel
    have HGK := Lib.hid hgk
    clear hgk
    cases q with
    | nil =>
      obtain ⟨qg, qo, qc, rfl, h2, h3', h4, h5, h6, h7⟩ := hq
      clear h6 h7 hz
      go_wp2
      go_end0
      exact ⟨rfl, hb1⟩
    | cons k q =>
      obtain rfl : k = 0 := hz k (List.mem_cons_self ..)
      obtain rfl : q = [] := List.eq_nil_of_length_eq_zero (by simp at hq1; simp [hq1])
      obtain ⟨qg, qo, qc, hveq, _⟩ := id hq
      rw [List.length_cons] at hveq
      subst hveq
      obtain ⟨hqb, hql, hq1', hq2, hq3, hqcell, hqt, hqe⟩ := hq.tail
      clear hq hz hq1
      by_cases hc1 : qc = 1
      · obtain ⟨hqw, -⟩ := hqe hc1
        subst hc1
        clear hqe hqt
        go_wp2
        go_roundg 1
        case measure => have := HGK.out; simp only [List.length_cons, List.length_nil] at this; omega
        case rel => exact ⟨[], rfl, by simp, by simp, hb1, hqw⟩
      · have hqw := hqt
        clear hqe hqt
        simp only [List.length_nil] at *
        go_wp2
        go_roundg 1
        case measure => have := HGK.out; simp only [List.length_cons, List.length_nil] at this; omega
        case rel => exact ⟨[], rfl, by simp, by simp, hb1, hqw⟩

/-- DropIn in a store that lies where one lay -/
theorem dropIn_in {w0 : World} (w : World) (pb base : Nat) (ao : Option Addr) (n cap : Nat) (s t : List Blk) (rt : Int) (hn : s.length = n) (hlt : t.length = n) (h400 : n ≤ 400) (hbox : w.heap[pb]? = some (.cells #[.slice ao n cap] 24 (0, 0)))
    (hI : InAt w0 w base ao n cap s t) (hbs : base ≤ w0.heap.size) (hpn : ∀ g, s ≠ [] → ao = some ⟨g, 0, none⟩ → pb ≠ g) (hlv : Lv t) (h3 : ∀ x ∈ t, x.level ≤ 3) (hl : Live t) (hrb : RefsB t 1000000000) (ha : rt = 0 ∨ (1 ≤ rt ∧ rt ≤ n ∧ (blk t rt).level < (4 : Nat))) (hp : Letting t rt) :
    Calls Try.prog 75 #[.pointer (some ⟨pb, 0, none⟩), .int .i64 rt] w fun e w' => e = .returned (.tuple #[]) ∧ InAt w0 w' base ao n cap s (looseF 4 t rt) := by
  rcases ha with h0 | ha
  · subst h0
    refine (dropIn_zero w pb).mono ?_
    rintro e w6 ⟨rfl, hb6⟩
    exact ⟨rfl, by rw [show looseF 4 t 0 = t from by simp [looseF]]; exact hI.later hb6 hbs⟩
  · have hs : s ≠ [] := fun e => by rw [e] at hn; simp at hn; omega
    have ht : t ≠ [] := fun e => by rw [e] at hlt; simp at hlt; omega
    obtain ⟨ao', cap', hv, hcd, h1 | ⟨g, hg, hR⟩⟩ := hI.own
    · exact absurd h1 ht
    · rw [hlt] at hv hcd
      simp only [Value.slice.injEq, true_and] at hv
      obtain ⟨rfl, rfl⟩ := hv
      subst hg
      have hpg := hpn g hs rfl
      have hle := hR.le
      have hsz := hI.below.size
      have hlow : Low t 4 rt := .inr ⟨ha.1, by omega, ha.2.2⟩
      have hll := (looseOut 4 t rt [] hlv hl hlow hp).sub.len
      refine (dropIn_any w pb base g n cap t rt hlt h400 hbox hR hpg hlv h3 hl hrb (.inr ⟨ha.1, by omega⟩) hp).mono ?_
      rintro e w6 ⟨rfl, hR6, hg6⟩
      refine ⟨rfl, hR6.own (by rw [hll]; exact hlt) hcd.1, hI.below.trans (grown_below hg6 hle (by omega)), fun c hc h => ?_⟩
      exact (hg6.block c (by omega) (by simpa using h g hs rfl)).trans (hI.frame c hc h)
theorem row_same {k : IntKind} {w w' : World} {ao : Option Addr} {xs : List Int} (h : Row k w ao xs) (hb : ∀ g o, ao = some ⟨g, o, none⟩ → g < w.heap.size → w'.heap[g]? = w.heap[g]?) : Row k w' ao xs := by
  rcases h with h | ⟨b, o, rfl, hc⟩
  · exact .inl h
  · by_cases h0 : xs.length = 0
    · exact .inl (List.eq_nil_of_length_eq_zero h0)
    · have hlt := World.block_lt_of_cell? _ _ (hc 0 (by omega))
      exact .inr ⟨b, o, rfl, fun i hi => (World.cell?_of_block (a := ⟨b, o + i, none⟩) (hb b o rfl hlt)).trans (hc i hi)⟩

/-- PutIn of a leaf at the third level in a store that lies where one lay -/
theorem putIn_three {w0 : World} (w : World) (pb base : Nat) (ao ba : Option Addr) (n cap nb bc : Nat) (s0 s : List Blk) (root : Int) (i : Nat) (b : List Int) (M : Int) (hn : s.length = n) (hbox : w.heap[pb]? = some (.cells #[.slice ao n cap] 24 (0, 0))) (hI : InAt w0 w base ao n cap s0 s)
    (hpn : ∀ g, s0 ≠ [] → ao = some ⟨g, 0, none⟩ → pb ≠ g) (h0 : s0.length = n) (hbs : base ≤ w0.heap.size) (hg : Good s M) (hM1 : 1 ≤ M) (hM : M ≤ 700000000) (hr : RootAt s 3 root) (hi : i < 64) (hby : Byt b) (hnb : b.length = nb) (hb4 : nb = 0 ∨ nb = 4) (hbr : Row .u8 w ba b) (hbc : Capd ba nb bc) :
    Calls Try.prog 74 #[.pointer (some ⟨pb, 0, none⟩), .int .i64 root, .int .i64 3, .int .i64 i, .slice ba nb bc] w fun e w' =>
      PutInEnd e w w' base ao n cap s (setF 3 s root i b) ∧ (∀ c, c < w0.heap.size → (∀ g, s0 ≠ [] → ao = some ⟨g, 0, none⟩ → c ≠ g) → w'.heap[c]? = w0.heap[c]?) ∧ Below base w0 w' := by
  have hs := hI.below.size
  have hnil : s0 = [] ↔ s = [] := by
    constructor
    · intro e; rw [e] at h0; exact List.eq_nil_of_length_eq_zero (by rw [hn, ← h0]; rfl)
    · intro e; rw [e] at hn; exact List.eq_nil_of_length_eq_zero (by rw [h0, ← hn]; rfl)
  have h := putIn_any w pb base ao ba n cap nb bc s root 3 i b M hn hbox hI.own (fun g h1 h2 => hpn g (fun e => h1 (hnil.1 e)) h2) (by omega) hg hM1 (by omega) (by omega) hr hi hby hnb (by omega) hbr hbc
  refine Calls.mono (show Calls Try.prog 74 #[.pointer (some ⟨pb, 0, none⟩), .int .i64 root, .int .i64 3, .int .i64 i, .slice ba nb bc] w _ from h) ?_
  intro e w' hP
  refine ⟨hP, fun c hc hh => ?_, hI.below.trans hP.2.1⟩
  exact (hP.2.2.1 c (by omega) (fun g h1 h2 => hh g (fun e => h1 (hnil.1 e)) h2)).trans (hI.frame c hc hh)

set_option maxRecDepth 100000 in
set_option maxHeartbeats 16000000 in
theorem turnIn_any (w : World) (pb base : Nat) (ao ba : Option Addr) (n cap nb bc z : Nat) (s : List Blk) (key root : Int) (b : List Int) (hn : s.length = n) (hbox : w.heap[pb]? = some (.cells #[.slice ao n cap] 24 (0, 0))) (ho : OwnSto w base (.slice ao n cap) s)
    (hpn : ∀ g, s ≠ [] → ao = some ⟨g, 0, none⟩ → pb ≠ g) (hbs : base ≤ w.heap.size) (hwf : WfS s) (hok : fileE s key root z = 0) (hby : Byt b) (hnb : b.length = nb) (hb4 : nb ≤ 256) (hbr : Row .u8 w ba b) (hbc : Capd ba nb bc)
    (hbf : ∀ gb o, ba = some ⟨gb, o, none⟩ → ∀ g, s ≠ [] → ao = some ⟨g, 0, none⟩ → gb ≠ g) :
    Calls Try.prog 30 #[.pointer (some ⟨pb, 0, none⟩), .int .i64 key, .agg #[.int .i64 root, .int .i64 z], .slice ba nb bc] w fun e w' =>
      TurnEnd e w w' base ao n cap nb s (turnTo key (pad (fileB s key root z)) (pad b) (startR s root) 64) := by
  obtain ⟨hk, -, hz256, hc, -⟩ := fileE_ok hok
  obtain ⟨hce, m, hm3, hm, hroot, -, -⟩ := checkT_ok hc
  obtain rfl : m = 3 := by omega
  have h400 : n ≤ 400 := by have := (checkE_zero s hce).1; omega
  have HN := Lib.hid hn
  have HB := Lib.hid hnb
  have hfl : (fileB s key root z).length ≤ 256 := by
    unfold fileB
    rw [List.length_take, bytesTo_len (leaf_four (checkE_zero s hce).2.1 (by omega) hroot)]
    omega
  have hfz : (fileB s key root z).length = z := by
    unfold fileB
    rw [List.length_take, bytesTo_len (leaf_four (checkE_zero s hce).2.1 (by omega) hroot), Int.toNat_natCast]
    omega
  have HKU := Lib.hid (fun (i : Nat) (hi : i < 64) => keyE_up hk hi)
  have HST := Lib.hid (fun was now => turned_start (M0 := 1000000) hce hwf hroot (fun x hx => ((checkE_zero s hce).2.2.2.1 x hx).2) (by omega) (by omega) key was now)
  have HSTP := Lib.hid (fun (was now : List Int) (h1 : now.length = 256) (h2 : Byt now) (L : List (List Int)) (i : Nat) (hi : i < 64) (r : List Blk × Int × Int) (h : Turned 1000000 s key was now L i r) (he : r.2.2 = 0) (he2 : (turnOne key was now i r).2.2 = 0) => turned_step hce hwf h1 h2 hi (by omega) (by omega) h he he2)
  have HLT : Hid (∀ (t : List Blk) (rt M : Int) (i : Nat) (lf : List Int), TurnAt s t rt M → 1 ≤ M → M ≤ 700000000 → i < 64 → Byt lf → lf.length ≤ 4 → (setF 3 t rt i lf).2.2 = 0 → Letting (setF 3 t rt i lf).1 rt) := Lib.hid fun t rt M i lf h h1 h2 h3 h4 h5 h6 => (turn_step hce hwf h h1 h2 h3 h4 h5 h6).2.1
  obtain ⟨RZ, hRZ⟩ : ∃ RZ, turnTo key (pad (fileB s key root z)) (pad b) (startR s root) 64 = RZ := ⟨_, rfl⟩
  rw [hRZ]
  have HRZ := Lib.hid hRZ
  clear hRZ
  have HBB := Lib.hid (fun (u : World) (h : StoRow u ao s) => refBytes_any u ao n cap s key root z hn h hwf hok)
  have HRT := Lib.hid hroot
  have HBY := Lib.hid hby
  obtain ⟨ao', cap', hv', hcd', hsr⟩ := ho.sto
  rw [HN.out] at hv'
  simp only [Value.slice.injEq, true_and] at hv'
  obtain ⟨rfl, rfl⟩ := hv'
  have hlp := lt_heap hbox
  have HHR : Hid ((root = 0 ∨ ∃ k : Nat, ∃ hk : k < s.length, root = (k : Int) + 1 ∧ 0 < s[k].refs ∧ s[k].refs ≤ 1000000)) := Lib.hid (by
    rcases hroot with h0 | ⟨h1, _⟩
    · exact .inl h0
    · obtain ⟨k, hk, rfl, -⟩ := there_in h1
      have h2 := (there_ref h1).2.2
      rw [blk_at s k hk] at h2
      have h3 := (checkE_zero s hce).2.2.2.1 _ (List.getElem_mem hk)
      exact .inr ⟨k, hk, rfl, h2, by omega⟩)
  have HFBY : Hid (Byt (fileB s key root z)) := Lib.hid (by
    intro x hx
    have hx := List.mem_of_mem_take hx
    unfold bytesTo at hx
    rw [List.mem_flatMap] at hx
    obtain ⟨i, -, hx⟩ := hx
    unfold leafBytes at hx
    split at hx
    · simp at hx; omega
    · exact sealed_byt _ _ _ _ x hx)
  clear hn hnb hok hk hc hce hm3 hm hroot hby hwf
  generalize fileB s key root z = FB at *
  have hW1 : Below w.heap.size w ((w.alloc (.cells #[.int .i64 root, .int .i64 z] 26)).alloc (.cells #[.int .i64 0, .int .i64 0] 26)) := ((Below.refl _ _).alloc (Nat.le_refl _) _).alloc (by simp) _
  have pf : ((w.alloc (.cells #[.int .i64 root, .int .i64 z] 26)).alloc (.cells #[.int .i64 0, .int .i64 0] 26)).heap[w.heap.size]? = some (.cells #[.int .i64 root, .int .i64 z] 26 (0, 0)) := heap_alloc2_old _ _ _
  have pr : ((w.alloc (.cells #[.int .i64 root, .int .i64 z] 26)).alloc (.cells #[.int .i64 0, .int .i64 0] 26)).heap[w.heap.size + 1]? = some (.cells #[.int .i64 0, .int .i64 0] 26 (0, 0)) := heap_alloc2_new _ _ _
  have hsW : ((w.alloc (.cells #[.int .i64 root, .int .i64 z] 26)).alloc (.cells #[.int .i64 0, .int .i64 0] 26)).heap.size = w.heap.size + 2 := by simp
  have HFL := Lib.hid hfl
  have HFZ := Lib.hid hfz
  clear hfl hfz
  go_enter Try.func30, Try.ntmps30
  go_upto_region 2 with fail
  generalize (w.alloc (Obj.cells #[Value.int .i64 root, Value.int .i64 z] 26)).alloc (Obj.cells #[Value.int .i64 0, Value.int .i64 0] 26) = W1 at *
  go_cut [11] (fun v wx => ∃ g c, v = .slice (some ⟨g, 0, none⟩) z c ∧ z ≤ c ∧ W1.heap.size ≤ g ∧ g < wx.heap.size ∧ Row .u8 wx (some ⟨g, 0, none⟩) FB ∧ Below W1.heap.size W1 wx)
  case first =>
    have hb1 := (hW1.block _ hlp).trans hbox
    have c1 := cell_of_one hb1
    have l1 := lt_heap hb1
    have cf0 := cell_of_block pf 0
    have cf1 := cell_of_block pf 1
    simp at cf0 cf1
    have lf := lt_heap pf
    have HB2 := Lib.hid (HBB.out W1.drew ((hsr.mono hW1).mono (Below.refl _ _).drew))
    go_region_law (first
      | (go_simp; go_at_call 26; refine HB2.out.mono ?_; rintro e w4 ⟨g4, c4, rfl, hc4, hg4, hl4, hr4, hb4⟩))
    all_goals
      have HZ : Hid (z ≤ c4 ∧ W1.heap.size ≤ g4 ∧ g4 < w4.heap.size ∧ Row .u8 w4 (some ⟨g4, 0, none⟩) FB ∧ Below W1.heap.size W1 w4) := Lib.hid ⟨hc4, hg4, hl4, hr4, (Below.refl _ _).drew.trans hb4⟩
      clear hc4 hg4 hl4 hr4 hb4
      go_wp2_with fail
      go_meet
      exact ⟨g4, c4, rfl, HZ.out⟩
  case rest =>
    obtain ⟨gw, cw, rfl, hcw, hgw1, hgw2, hwr, hbW⟩ := hcut
    clear HBB
    have lf := lt_heap pf
    have lr := lt_heap pr
    have hszW := hW1.size
    have hbx5 := hW1.trans (hbW.mono hszW)
    have pf5 := (hbW.block _ lf).trans pf
    have pr5 := (hbW.block _ lr).trans pr
    have ho5 := ho.mono hbx5
    have hbr5 := hbr.mono hbx5
    have cf0 := cell_of_block pf5 0
    simp at cf0
    have lf5 := lt_heap pf5
    clear pf pr lf lr hbW
    generalize wc = w5 at *
    have HSR0 : Hid (root = 0 → (startR s root).1 = s) := Lib.hid fun h => by unfold startR; rw [if_pos h]
    have HSR1 : Hid (∀ k (hk : k < s.length), root = (k : Int) + 1 → (startR s root).1 = s.set k { s[k] with refs := s[k].refs + 1 }) := Lib.hid fun k hk h => by
      unfold startR
      rw [if_neg (by omega), h, addRef_at s k hk]
    have hbox5 := (hbx5.block _ hlp).trans hbox
    go_upto_if 28 with fail
    go_cut [27] (fun _ wx => InAt w5 wx base ao n cap s (startR s root).1)
    case first =>
      rcases HHR.out with h0 | ⟨k, hk, hrk, hr0, hr1⟩
      · have h1 : (root != 0) = false := by rw [h0]; rfl
        have HO5 : Hid (InAt w5 w5 base ao n cap s (startR s root).1) := Lib.hid (by rw [HSR0.out h0]; exact ⟨ho5, Below.refl _ _, fun _ _ _ => rfl⟩)
        clear h0
        go_wp2_with fail
        go_meet
        exact HO5.out
      · have hs1 := HSR1.out k hk hrk
        obtain ⟨g, cap2, hv2, hR⟩ := ho5.at k hk
        rw [HN.out] at hv2
        simp only [Value.slice.injEq, true_and] at hv2
        obtain ⟨rfl, rfl⟩ := hv2
        have hB := hR.blks k hk
        have c0 := hB.refs
        have f0 := hR.free (k * 4)
        have lg := hR.lt
        have hle := hR.le
        have hR6 := hR.setRefs k hk (s[k].refs + 1)
        have hkn : (k : Int) < n := by have := HN.out; omega
        have hs0 : s ≠ [] := fun e => by rw [e] at hk; simp at hk
        have HI6 : Hid (InAt w5 (w5.setCell ⟨g, k * 4, none⟩ (.int .i64 (s[k].refs + 1))) base (some ⟨g, 0, none⟩) n cap s (startR s root).1) :=
          Lib.hid ⟨by rw [hs1]; exact hR6.own (by rw [List.length_set]; exact HN.out) (by have := hcd'.1; have := HN.out; omega), (Below.refl _ _).setCell (p := ⟨g, k * 4, none⟩) hle _, fun c hc h => Below.heap_setCell _ _ _ _ (h g hs0 rfl)⟩
        have c5 := cell_of_one hbox5
        have l5 := lt_heap hbox5
        have hr2 : (root != 0) = true := by rw [bne_iff_ne]; omega
        clear hB hR hR6 hs1 HSR0 HSR1 HST HRT HHR
        generalize s[k].refs = rk at *
        generalize (startR s root).1 = T0 at *
        subst hrk
        go_wp2_with fail
        go_meet
        exact HI6.out
    case rest =>
      have hI0 := hcut
      clear hcut cf0 lf5 HSR0 HSR1 ho5 hbox5
      have hgw : ∀ g, s ≠ [] → ao = some ⟨g, 0, none⟩ → g < w.heap.size := fun g h1 h2 => own_lt ho h1 h2
      have hsz5' := hbx5.size
      have HFR : Hid (∀ (wr : World) (t : List Blk), InAt w5 wr base ao n cap s t → ∀ c, c < w5.heap.size → (c < base ∨ w.heap.size ≤ c ∨ c = pb) → wr.heap[c]? = w5.heap[c]?) := Lib.hid fun wr t h c hc hcc => by
        rcases hcc with h1 | h1 | h1
        · exact h.below.block c h1
        · exact h.frame c hc fun g h2 h3 e => by have := hgw g h2 h3; omega
        · exact h.frame c hc fun g h2 h3 e => by subst h1; exact hpn g h2 h3 e
      have HBR : Hid (∀ (wr : World) (t : List Blk), InAt w5 wr base ao n cap s t → Row .u8 wr ba b ∧ Row .u8 wr (some ⟨gw, 0, none⟩) FB) := Lib.hid fun wr t h => by
        refine ⟨row_same hbr5 fun g o e hg => h.frame g hg fun g1 h1 h2 => hbf g o e g1 h1 h2, row_same hwr fun g o e hg => ?_⟩
        simp only [Option.some.injEq, Addr.mk.injEq, and_true] at e
        obtain ⟨rfl, rfl⟩ := e
        exact h.frame _ hg fun g1 h1 h2 => by have := hgw g1 h1 h2; omega
      have hwl : (pad FB).length = 256 := pad_len FB HFL.out
      have hnl : (pad b).length = 256 := pad_len b (by have := HB.out; omega)
      have hnby : Byt (pad b) := pad_byt HBY.out
      have hT0 := HST.out (pad FB) (pad b)
      have HSTEP := Lib.hid (fun (i : Nat) (hi : i < 64) (r : List Blk × Int × Int) h he he2 => HSTP.out (pad FB) (pad b) hnl hnby (leavesF 3 s root) i hi r h he he2)
      have HR0 : Hid (turnTo key (pad FB) (pad b) (startR s root) 0 = startR s root) := Lib.hid rfl
      have HRS : Hid (∀ i, turnTo key (pad FB) (pad b) (startR s root) (i + 1) = turnOne key (pad FB) (pad b) i (turnTo key (pad FB) (pad b) (startR s root) i)) := Lib.hid fun i => rfl
      have HBAD := Lib.hid (fun (i : Nat) (hi : i ≤ 64) (he : (turnTo key (pad FB) (pad b) (startR s root) i).2.2 ≠ 0) => turnTo_bad he 64 hi)
      have HS1 : Hid ((startR s root).2.1 = root ∧ (startR s root).2.2 = 0) := Lib.hid ⟨rfl, rfl⟩
      have HWL := Lib.hid hwl
      have HNL := Lib.hid hnl
      have HNBY := Lib.hid hnby
      have HWB := Lib.hid (fun i => fourAt_byt (pad_byt HFBY.out) i)
      have HPR := Lib.hid pr5
      have HT0 := Lib.hid hT0
      have HLX := Lib.hid (fun (u : World) (i : Nat) (hi : i < 64) (h : Row .u8 u (some ⟨gw, 0, none⟩) FB) => leaf_ref u (some ⟨gw, 0, none⟩) z cw FB i HFZ.out (by have := HFL.out; have := HFZ.out; omega) hi h hcw)
      have HLY := Lib.hid (fun (u : World) (i : Nat) (hi : i < 64) (h : Row .u8 u ba b) => leaf_ref u ba nb bc b i HB.out hb4 hi h hbc.1)
      have hbox5 := (hbx5.block _ hlp).trans hbox
      have HBX5 := Lib.hid hbox5
      have hkr5 := lt_heap pr5
      have hkpb := lt_heap hbox5
      clear HST HSTP HRT HHR hwl hnl hnby hT0 pf5 pr5 hbox5 hsr hbr hbr5 hwr
      generalize pad FB = was at *
      generalize pad b = now at *
      generalize leavesF 3 s root = LL at *
      generalize turnTo key was now (startR s root) = R at *
      generalize startR s root = S0 at *
      go_wp2
      go_loopw [12, 41] (fun u x wr => ∃ i : Nat, i ≤ 64 ∧ x = .int .i64 i ∧ u = .int .i64 (R i).2.1 ∧ Hid ((R i).2.2 = 0) ∧ Hid (Turned 1000000 s key was now LL i (R i)) ∧ InAt w5 wr base ao n cap s (R i).1) (fun _ x _ => 64 - (intOf x).toNat)
      case atStart => exact ⟨0, by omega, rfl, by rw [HR0.out, HS1.out.1], Lib.hid (by rw [HR0.out]; exact HS1.out.2), Lib.hid (by rw [HR0.out]; exact HT0.out), by rw [HR0.out]; exact hI0⟩
      case round =>
        clear hI0 HT0
        obtain ⟨i, hi, rfl, rfl, HE, HT, hI⟩ := hrel
        by_cases hlt : i < 64
        · have hRs := HRS.out i
          obtain ⟨hbR, hwR⟩ := HBR.out wr _ hI
          have hTat := HT.out.at_
          have HRSS := Lib.hid hRs
          clear hRs
          generalize R i = r at *
          obtain ⟨t, rt, re⟩ := r
          simp only at HE HT hI hTat ⊢
          obtain rfl := HE.out
          have hi64 : (i : Int) < 64 := by omega
          have HBRR := Lib.hid hbR
          have HWRR := Lib.hid hwR
          clear hbR hwR
          go_wp2_with fail
          refine (HLX.out wr i hlt HWRR.out).mono ?_
          rintro e w6 ⟨rfl, px, hb6⟩
          go_wp2_with fail
          refine (HLY.out w6 i hlt (HBRR.out.mono hb6)).mono ?_
          rintro e w7 ⟨rfl, py, hb7⟩
          have px7 := (hb7.block _ (lt_heap px)).trans px
          have hwx := row_heap px7
          have hny := row_heap py
          have hI7 : InAt w5 w7 base ao n cap s t := (hI.later hb6 (by omega)).later hb7 (by omega)
          have HY4 := Lib.hid (fourAt_byt HNBY.out i)
          have HL4 := Lib.hid (fourAt_len now HNL.out i hlt)
          have hwby := HWB.out i
          obtain ⟨q, hq⟩ : ∃ q, (fourAt was i == fourAt now i) = q := ⟨_, rfl⟩
          have hEQ := bytes_equal_n _ _ 4 4 4 4 (fourAt was i) (fourAt now i) w7 (fourAt_len was HWL.out i hlt) HL4.out hwx hny hwby HY4.out
          rw [hq] at hEQ
          go_wp2_with fail
          refine hEQ.mono ?_
          rintro e w8 ⟨rfl, rfl⟩
          clear hEQ hwby hwx px px7 py
          cases q
          · have hne : fourAt was i ≠ fourAt now i := by simpa using hq
            have HTO : Hid (R (i + 1) = if (setF 3 t rt i (leafOf key i (fourAt now i))).2.2 ≠ 0 then ((setF 3 t rt i (leafOf key i (fourAt now i))).1, 0, (setF 3 t rt i (leafOf key i (fourAt now i))).2.2) else (looseF 4 (setF 3 t rt i (leafOf key i (fourAt now i))).1 rt, (setF 3 t rt i (leafOf key i (fourAt now i))).2.1, 0)) := Lib.hid (by
              rw [HRSS.out]
              unfold turnOne
              rw [if_neg (fun h => h rfl), if_neg hne])
            have HSB : Hid ((turnOne key was now i (t, rt, 0)).2.2 = 0 → Turned 1000000 s key was now LL (i + 1) (turnOne key was now i (t, rt, 0))) := Lib.hid fun h => HSTEP.out i hlt (t, rt, 0) HT.out rfl h
            rw [← HRSS.out] at HSB
            have HTA := Lib.hid hTat
            have HTL := Lib.hid hTat.len
            have HTN := Lib.hid (HTL.out.trans HN.out)
            have HBS5 : Hid (base ≤ w5.heap.size) := Lib.hid (by omega)
            have HM1 : Hid (1 ≤ 1000000 + 1 + 13 * (i : Int)) := Lib.hid (by omega)
            have HM2 : Hid (1000000 + 1 + 13 * (i : Int) ≤ 700000000) := Lib.hid (by omega)
            have hll4 := leafOf_len (key := key) (i := i) HL4.out
            have hlby := leafOf_byt key i (fourAt now i)
            have HZC := Lib.hid (zeroB_count HL4.out)
            have HLZ : Hid (zeroB (fourAt now i) = true → leafOf key i (fourAt now i) = []) := Lib.hid fun h => by unfold leafOf; rw [if_pos h]
            have HLN : Hid (zeroB (fourAt now i) = false → leafOf key i (fourAt now i) = sealed 1 key i (fourAt now i)) := Lib.hid fun h => by unfold leafOf; rw [if_neg (by rw [h]; simp)]; rfl
            have hkk := HKU.out i hlt
            have HKK := Lib.hid hkk
            clear hq hne HRSS hTat hI hkk
            generalize leafOf key i (fourAt now i) = lf at *
            generalize fourAt now i = y4 at *
            have HLF4 := Lib.hid hll4
            have HLFB := Lib.hid hlby
            clear hll4 hlby
            have hA : Below w7.heap.size w7 (w7.alloc (.cells #[.int .u8 0] 5)) := (Below.refl _ _).alloc (Nat.le_refl _) _
            have hA2 : (w7.alloc (.cells #[.int .u8 0] 5)).cell? ⟨w7.heap.size, 0, none⟩ = some (.int .u8 0) := cell_of_one (heap_alloc_new _ _)
            have hnyA := hny.mono hA
            have HNYA := Lib.hid hnyA
            have HCN := Lib.hid (count_any (w7.alloc (.cells #[.int .u8 0] 5)) (some ⟨w6.heap.size, 0, none⟩) 4 4 1 w7.heap.size y4 HL4.out hnyA HY4.out hA2)
            have hI8 := Lib.hid (hI7.later hA (by omega))
            clear hny hnyA hA2 hA
            go_wp2_with fail
            generalize w7.alloc (Obj.cells #[Value.int .u8 0] 5) = W8 at *
            refine HCN.out.mono ?_
            rintro e w9 ⟨rfl, rfl⟩
            obtain ⟨cn, hcn⟩ : ∃ cn, y4.count 0 = cn := ⟨_, rfl⟩
            have hc4 := List.count_le_length (a := (0 : Int)) (l := y4)
            rw [HL4.out, hcn] at hc4
            rw [hcn] at HZC ⊢
            clear hcn HCN
            have HNYB := Lib.hid hI8.out.below.size
            by_cases hz : zeroB y4 = true
            case' pos =>
              obtain ⟨sa, ln, sc, hsv⟩ : ∃ (sa : Option Addr) (ln sc : Nat), sa = none ∧ ln = 0 ∧ sc = 0 := ⟨_, _, _, rfl, rfl, rfl⟩
              have hc44 : cn = 4 := HZC.out.1 hz
              have hsr : Row .u8 w9 sa lf := .inl (HLZ.out hz)
              have hll : lf.length = ln := by rw [HLZ.out hz, hsv.2.1]; rfl
              have hsc : Capd sa ln sc := by rw [hsv.2.1, hsv.2.2]; exact ⟨Nat.le_refl _, fun _ => rfl⟩
              have hI9 := hI8.out
              subst hc44
              obtain ⟨rfl, rfl, rfl⟩ := hsv
              go_wp2_with fail
            case' neg =>
              have hc44 : ¬ cn = 4 := fun e => hz (HZC.out.2 e)
              have hclt : (cn : Int) < 4 := by omega
              have hSE := ref_sealed key i (some ⟨w6.heap.size, 0, none⟩) 4 y4 w9 HKK.out (by rw [HL4.out]; omega) HNYA.out HY4.out
              rw [HL4.out, ← HLN.out (by simpa using hz)] at hSE
              clear hz
              go_wp2_with fail
              refine hSE.mono ?_
              rintro e w10 ⟨v10, rfl, ho10, hb10⟩
              obtain ⟨sa, sc, rfl, hsr, hsc⟩ := own_cap ho10
              have hI9 := hI8.out.later hb10 (by omega)
              clear ho10 hSE
              obtain ⟨ln, hll⟩ : ∃ ln, lf.length = ln := ⟨_, rfl⟩
              rw [hll] at hsc ⊢
              generalize w10 = w9 at *
              go_wp2_with fail
            all_goals
              have hbox9 := (HFR.out w9 _ hI9 pb hkpb (.inr (.inr rfl))).trans HBX5.out
              refine (putIn_three w9 pb base ao _ n cap _ _ s t rt i lf (1000000 + 1 + 13 * (i : Int)) HTN.out hbox9 hI9 hpn HN.out HBS5.out HTA.out.good HM1.out HM2.out HTA.out.rt hlt HLFB.out hll (by have := HLF4.out; omega) hsr hsc).mono ?_
              rintro e w10 ⟨⟨rfl, -, -, hset3⟩, hf10, hb10⟩
              have HF10 := Lib.hid hf10
              have HB10 := Lib.hid hb10
              clear hf10 hb10
              have HSG := Lib.hid (fun h => set_good 3 t rt i lf _ (by omega) HTA.out.good (by omega) (by omega) HTA.out.rt hlt HLFB.out (by have := HLF4.out; omega) h)
              have HSO := Lib.hid (fun h => (set_out 3 t rt i lf _ (by omega) HTA.out.good (by omega) (by omega) HTA.out.rt hlt HLFB.out (by have := HLF4.out; omega) h).1)
              have HSL := Lib.hid (fun h => HLT.out t rt _ i lf HTA.out (by omega) (by omega) hlt HLFB.out (by have := HLF4.out; omega) h)
              have HOW := Lib.hid hset3
              clear hset3 hI9 hbox9 hsr hsc hll
              generalize setF 3 t rt i lf = rr at *
              obtain ⟨t1, k1, e1⟩ := rr
              simp only at HTO HSG HSO HSL HOW ⊢
              by_cases he : e1 = 0
              · subst he
                obtain ⟨hG1, -, hK1⟩ := HSG.out rfl
                have hI10 : InAt w5 w10 base ao n cap s t1 := ⟨HOW.out rfl, HB10.out, HF10.out⟩
                have hbox10 := (HFR.out w10 _ hI10 pb hkpb (.inr (.inr rfl))).trans HBX5.out
                have hRE : R (i + 1) = (looseF 4 t1 rt, k1, 0) := by rw [HTO.out, if_neg (fun h => h rfl)]
                have HTE := Lib.hid (HSB.out (by rw [hRE]))
                have HRE := Lib.hid hRE
                clear HSB HTO hRE
                go_wp2_with fail
                refine (dropIn_in w10 pb base ao n cap s t1 rt HN.out ((HSO.out trivial).trans (HTL.out.trans HN.out)) h400 hbox10 hI10 (by omega) hpn hG1.lv.1 hG1.lv.2 hG1.live (fun x hx => by have := hG1.refs x hx; omega) (by
                  rcases hK1.root HTA.out.rt with h0 | ⟨h1, h2⟩
                  · exact .inl h0
                  · have := there_ref h1
                    have h3 := HSO.out trivial
                    have h4 := HTL.out
                    have h5 := HN.out
                    exact .inr ⟨this.1, by omega, by omega⟩) (HSL.out trivial)).mono ?_
                rintro e w11 ⟨rfl, hI11⟩
                go_wp2
                go_roundw
                case rel => exact ⟨i + 1, by omega, rfl, by rw [HRE.out], Lib.hid (by rw [HRE.out]), Lib.hid HTE.out, by rw [HRE.out]; exact hI11⟩
                case measure => simp [intOf]; omega
              · have he1 : (e1 != 0) = true := by rw [bne_iff_ne]; exact he
                have hRE : R (i + 1) = (t1, 0, e1) := by rw [HTO.out, if_pos he]
                have HR64 : Hid (RZ = (t1, 0, e1)) := Lib.hid (HRZ.out.symm.trans ((HBAD.out (i + 1) (by omega) (by rw [hRE]; exact he)).trans hRE))
                have pr10 := (HF10.out _ hkr5 (fun g h1 h2 => by have := hgw g h1 h2; omega)).trans HPR.out
                have c0 := cell_of_block pr10 0
                have c1 := cell_of_block pr10 1
                simp at c0 c1
                have lr10 := lt_heap pr10
                have f0 := free_of_block pr10 0
                have f1 := free_of_block pr10 1
                have pr12 := file_set pr10 0 0
                have d0 := cell_of_block pr12 0
                have d1 := cell_of_block pr12 1
                simp at d0 d1
                have hbz := ((HB10.out.setCell (p := ⟨w.heap.size + 1, 0, none⟩) (by simp; omega) (.int .i64 0)).setCell (p := ⟨w.heap.size + 1, 1, none⟩) (by simp; omega) (.int .i64 0))
                have HFZ : Hid (∀ c, c < w.heap.size → ((w10.setCell ⟨w.heap.size + 1, 0, none⟩ (.int .i64 0)).setCell ⟨w.heap.size + 1, 1, none⟩ (.int .i64 0)).heap[c]? = w10.heap[c]?) := Lib.hid fun c hc =>
                  (Below.heap_setCell _ _ _ _ (by simp; omega)).trans (Below.heap_setCell _ _ _ _ (by simp; omega))
                clear HSB HTO hRE
                go_wp2_with fail
                refine bodyPost_ret (v := .tuple #[.agg #[.int .i64 0, .int .i64 0], .int .i64 e1]) (by simp [results, Try.results30, go_sem, d0, d1]) rfl ⟨?_, ?_, ?_, ?_⟩
                · rw [HR64.out, if_neg he, if_neg he]
                · exact (hbx5.mono hbs).trans hbz
                · intro c hc hh
                  exact (HFZ.out c hc).trans ((HF10.out c (by omega) hh).trans (hbx5.block c hc))
                · intro h
                  rw [HR64.out] at h
                  exact absurd h he
          · have hT1 : turnOne key was now i (t, rt, 0) = (t, rt, 0) := by
              unfold turnOne
              rw [if_neg (fun h => h rfl), if_pos (by simpa using hq)]
            have HRi : Hid (R (i + 1) = (t, rt, 0)) := Lib.hid (by rw [HRSS.out]; exact hT1)
            have HT1 := Lib.hid (HSTEP.out i hlt (t, rt, 0) HT.out rfl (by rw [hT1]))
            rw [hT1] at HT1
            clear hT1 hq hb6 hb7 hI hTat hny
            go_wp2
            go_roundw
            case rel => exact ⟨i + 1, by omega, rfl, by rw [HRi.out], Lib.hid (by rw [HRi.out]), Lib.hid (by rw [HRi.out]; exact HT1.out), by rw [HRi.out]; exact hI7⟩
            case measure => simp [intOf]; omega
        · obtain rfl : i = 64 := by omega
          have HRY : Hid (RZ = R 64) := Lib.hid HRZ.out.symm
          clear HBAD HRS HSTEP HRZ HLX HLY
          generalize R 64 = r at *
          obtain ⟨t, rt, re⟩ := r
          simp only at HE HT hI ⊢
          obtain rfl := HE.out
          have pr10 := (HFR.out wr _ hI _ hkr5 (.inr (.inl (by omega)))).trans HPR.out
          have lr10 := lt_heap pr10
          have f0 := free_of_block pr10 0
          have f1 := free_of_block pr10 1
          have e0 := cell_of_block pr10 0
          have e1 := cell_of_block pr10 1
          simp at e0 e1
          have pr12 := file_set pr10 rt nb
          have d0 := cell_of_block pr12 0
          have d1 := cell_of_block pr12 1
          simp at d0 d1
          have hbz := ((hI.below.setCell (p := ⟨w.heap.size + 1, 0, none⟩) (by simp; omega) (.int .i64 rt)).setCell (p := ⟨w.heap.size + 1, 1, none⟩) (by simp; omega) (.int .i64 nb))
          have HFZ : Hid (∀ c, c < w.heap.size → ((wr.setCell ⟨w.heap.size + 1, 0, none⟩ (.int .i64 rt)).setCell ⟨w.heap.size + 1, 1, none⟩ (.int .i64 nb)).heap[c]? = wr.heap[c]?) := Lib.hid fun c hc =>
            (Below.heap_setCell _ _ _ _ (by simp; omega)).trans (Below.heap_setCell _ _ _ _ (by simp; omega))
          have HOZ := Lib.hid (own_file hI.own HT.out.at_.good pr10 (fun g h1 h2 => by have := hgw g (fun e => h1 (List.eq_nil_of_length_eq_zero (by rw [HT.out.at_.len, e]; rfl))) h2; omega) rt nb)
          clear HT
          go_wp2_with fail
          refine bodyPost_ret (v := .tuple #[.agg #[.int .i64 rt, .int .i64 nb], .int .i64 0]) (by simp [results, Try.results30, go_sem, d0, d1]) rfl ⟨?_, ?_, ?_, ?_⟩
          · rw [HRY.out]; rfl
          · exact (hbx5.mono hbs).trans hbz
          · intro c hc hh
            exact (HFZ.out c hc).trans ((hI.frame c (by omega) hh).trans (hbx5.block c hc))
          · intro h
            rw [HRY.out]
            exact HOZ.out
end Go.Proofs.Ytodogcokljmkmaa
