/- tree.Set: a level above. -/
import Derived.Test.YtfmgdjgedhnmeaaSetP
namespace Go.Proofs.Ytfmgdjgedhnmeaa
open Go.RowKit
set_option linter.unusedVariables false

theorem OwnSto.len {w : World} {base n cap : Nat} {ao : Option Addr} {s : List Blk} (h : OwnSto w base (.slice ao n cap) s) : s.length = n := by
  obtain ⟨ao', cap', hv, _⟩ := h
  simp only [Value.slice.injEq] at hv
  exact hv.2.1.symm

theorem OwnSto.setFar {w : World} {base n cap : Nat} {ao : Option Addr} {s : List Blk} (h : OwnSto w base (.slice ao n cap) s) {kb : Nat} (ho : ∀ g, s ≠ [] → ao = some ⟨g, 0, Option.none⟩ → RowOff w g n kb ∧ kb ≠ g) (i : Nat) (v : Value) : OwnSto (w.setCell ⟨kb, i, Option.none⟩ v) base (.slice ao n cap) s := by
  have hn := h.len
  obtain ⟨ao', cap', hv, hc, h1⟩ := h
  simp only [Value.slice.injEq] at hv
  obtain ⟨rfl, _, rfl⟩ := hv
  refine ⟨ao, cap, by rw [hn], hc, ?_⟩
  rcases h1 with h1 | ⟨g, hg, hr⟩
  · exact .inl h1
  · by_cases hs : s = []
    · exact .inl hs
    · obtain ⟨o1, o2⟩ := ho g hs hg
      rw [← hn] at o1
      exact .inr ⟨g, hg, hr.setFar o1 o2 i v⟩

theorem OwnSto.own_at {w : World} {base n cap g : Nat} {ao : Option Addr} {s : List Blk} (h : OwnSto w base (.slice ao n cap) s) (hs : s ≠ []) (hg : ao = some ⟨g, 0, Option.none⟩) : OwnR w base g s := by
  obtain ⟨ao', cap', hv, hc, h1 | ⟨g', hg', hr⟩⟩ := h
  · exact absurd h1 hs
  · simp only [Value.slice.injEq] at hv
    obtain ⟨rfl, _, rfl⟩ := hv
    rw [hg] at hg'
    simp only [Option.some.injEq, Addr.mk.injEq, and_true] at hg'
    rw [hg']
    exact hr

/-- a level above: the four, the place among them, what stands below it now -/
def setN (m : Nat) (K : List Int) (d : Nat) (r : List Blk × Int × Int) : List Blk × Int × Int :=
  if r.2.2 ≠ 0 then (r.1, 0, r.2.2)
  else if (K.set d r.2.1).all (fun k => decide (k = 0)) = true then (r.1, 0, 0)
  else (looseF 4 (putR r.1 ((m : Int) + 1) (K.set d r.2.1) []).1 r.2.1, (putR r.1 ((m : Int) + 1) (K.set d r.2.1) []).2.1, (putR r.1 ((m : Int) + 1) (K.set d r.2.1) []).2.2)
theorem setF_succ (m : Nat) (s : List Blk) (root : Int) (i : Nat) (b : List Int) : setF (m + 1) s root i b = setN m (kids0 s root) (i / p4n m) (setF m s ((kids0 s root)[i / p4n m]?.getD 0) (i % p4n m) b) := rfl

def SetAt (m : Nat) : Prop := ∀ (w : World) (pb base : Nat) (ao ba : Option Addr) (n cap nb bc : Nat) (s : List Blk) (root : Int) (i : Nat) (b : List Int) (M : Int), s.length = n → w.heap[pb]? = some (.cells #[.slice ao n cap] 24 (0, 0)) → OwnSto w base (.slice ao n cap) s →
    (∀ g, s ≠ [] → ao = some ⟨g, 0, none⟩ → pb ≠ g) → base ≤ w.heap.size → Good s M → 1 ≤ M → M + 4 * (m + 1) ≤ 800000000 → RootAt s m root → i < p4n m → Byt b → b.length = nb → nb ≤ 4 → Row .u8 w ba b → Capd ba nb bc →
    Calls Try.prog 136 #[.pointer (some ⟨pb, 0, none⟩), .int .i64 root, .int .i64 (m : Int), .int .i64 i, .slice ba nb bc] w fun e w' =>
      e = .returned (.tuple #[.int .i64 (setF m s root i b).2.1, .int .i64 (setF m s root i b).2.2]) ∧ SetDone w w' base ao n cap s (setF m s root i b)

theorem icells4 (K : List Int) (h : K.length = 4) : splice (icells .i64 (zeros 4)).toList 0 (K.map (Value.int .i64)) = (icells .i64 K).toList := by
  unfold splice
  rw [List.take_zero, List.nil_append, List.drop_of_length_le (by simp [icells, zeros, h]), List.append_nil]
  simp [icells]

/-- Loose behind Put: held twice -/
theorem put_twice {s : List Blk} {l : Int} {ks bs : List Int} {f : Nat} (h : PutG s l ks bs f) (j : Nat) (hj : j < s.length) (hk : ((j : Int) + 1) ∈ ks) (ht : thereB s ((j : Int) + 1) = true) (hj' : j < (putM s l ks bs f).length) : 1 < (putM s l ks bs f)[j].refs := by
  obtain ⟨_, _, a3⟩ := there_ref ht
  rw [blk_at s j hj] at a3
  have hjf : j ≠ f := by
    intro e2
    have h3 := h.free
    simp only [← e2] at h3
    rw [h3] at a3
    simp [noBlk] at a3
  have hc : 0 < ks.count ((j : Int) + 1) := List.count_pos_iff.2 hk
  rw [h.get j hj hj', if_neg hjf]
  simp only
  omega

/-- Put that fails changes nothing -/
theorem put_fails {s : List Blk} {l : Int} {ks bs : List Int} (he : (putR s l ks bs).2.2 ≠ 0) : (putR s l ks bs).1 = s := by
  unfold putR at he ⊢
  split
  · rfl
  · split
    · rfl
    · rename_i h1 h2
      rw [if_neg h1, if_neg h2] at he
      simp at he

set_option maxRecDepth 100000 in
set_option maxHeartbeats 8000000 in
theorem set_succ (m : Nat) (hm : m ≤ 2) (ih : SetAt m) : SetAt (m + 1) := by
  intro w pb base ao ba n cap nb bc s root i b M hn hbox ho hpn hbs hg hM1 hM hr hi hby hnb hb4 hbr hbc
  have h400 : n ≤ 400 := by have := hg.few; omega
  have HN := Lib.hid hn
  have HB := Lib.hid hnb
  obtain ⟨hk4, hkr⟩ := kids0_ok hg hr
  have hps := p4n_succ m (by omega)
  have hpp := p4n_pos m
  have hd4 : i / p4n m < 4 := div_lt4 hpp (by omega)
  have hmd : i % p4n m < p4n m := Nat.mod_lt _ hpp
  have hdl : i / p4n m < (kids0 s root).length := by omega
  have hge : (kids0 s root)[i / p4n m]?.getD 0 = (kids0 s root)[i / p4n m] := by rw [List.getElem?_eq_getElem hdl]; rfl
  have hky := hkr _ (List.getElem_mem hdl)
  have hsg := set_good m s (kids0 s root)[i / p4n m] (i % p4n m) b M (by omega) hg hM1 (by omega) hky hmd hby (by omega)
  have hF := setF_succ m s root i b
  rw [hge] at hF
  have HIH := Lib.hid (fun (u : World) (h1 : u.heap[pb]? = some (.cells #[.slice ao n cap] 24 (0, 0))) (h2 : OwnSto u base (.slice ao n cap) s) (h3 : base ≤ u.heap.size) (h4 : Row .u8 u ba b) =>
    ih u pb base ao ba n cap nb bc s (kids0 s root)[i / p4n m] (i % p4n m) b M hn h1 h2 hpn h3 hg hM1 (by omega) hky hmd hby hnb hb4 h4 hbc)
  have hkI : ∀ k ∈ kids0 s root, I64 k := fun k hk => root_I64 hg (hkr k hk)
  have HKR := Lib.hid hkr
  have HKI := Lib.hid hkI
  have hl1 : lvN (m : Int) = (((p4n m : Nat) : Int), 0) := by
    unfold lvN
    rw [if_neg (by omega), ← p4n_int]; rfl
  have hp64 : p4n m ≤ 16 := by unfold p4n; (repeat' split) <;> omega
  have hz0 : ((m : Int) + 1 == 0) = false := by rw [beq_eq_false_iff_ne]; omega
  have hmk : ∀ u : World, (Instr.makeSlice 91 (.int .i64 4) (.int .i64 4)).run Try.prog u = .ok (.slice (some ⟨u.heap.size, 0, none⟩) 4 4) (u.alloc (.cells (icells .i64 (zeros 4)) 3)) := fun u =>
    make_ints (P := Try.prog) .i64 91 3 8 Try.underlying91 info_int 4 (by omega) (by omega) u
  have hsto := ho.sto
  have hrt := hr
  have hg64 := hg
  generalize hKK : kids0 s root = K at *
  replace hKK := Lib.hid hKK
  generalize hrr : setF m s K[i / p4n m] (i % p4n m) b = r at *
  replace hrr := Lib.hid hrr
  obtain ⟨s1, k1, e1⟩ := r
  simp only at hsg
  have HSG := Lib.hid hsg
  have HF := Lib.hid hF
  have HK4 := Lib.hid hk4
  have HG := Lib.hid hg
  clear hn hnb hsg hF hkr hkI hge hk4 hr hg
  clear hky ih hby hg64
  have bA : Below w.heap.size w (w.alloc (.cells (icells .i64 (zeros 4)) 3)) := (Below.refl _ _).alloc (Nat.le_refl _) _
  have qA : (w.alloc (.cells (icells .i64 (zeros 4)) 3)).heap[w.heap.size]? = some (.cells (icells .i64 (zeros 4)) 3 (0, 0)) := heap_alloc_new _ _
  go_enter Try.func136, Try.ntmps136
  go_upto_if 31 with fail
  go_cut [30] (fun _ wx => wx.heap[w.heap.size]? = some (.cells (icells .i64 K) 3 (0, 0)) ∧ Below w.heap.size w wx)
  case first =>
    generalize w.alloc (Obj.cells (icells .i64 (zeros 4)) 3) = W0 at *
    by_cases h0 : root = 0
    · subst h0
      have hK0 : K = zeros 4 := by rw [← hKK.out]; rfl
      go_wp2_with fail
      go_meet
      exact ⟨by rw [hK0]; exact qA, bA⟩
    · obtain ⟨ht, hlv⟩ := hrt.resolve_left h0
      obtain ⟨ao', cap', hv, hcd, hs⟩ := hsto
      simp only [Value.slice.injEq] at hv
      obtain ⟨rfl, _, rfl⟩ := hv
      obtain ⟨q, hq, rfl, -⟩ := there_in ht
      have hqn : (q : Int) < n := by have := HN.out; omega
      have hs0 := hs.mono bA
      obtain ⟨sb, so, rfl, hsB⟩ := hs0.at q hq
      have hB := hsB q hq
      obtain ⟨v2, x2, hv2⟩ := hB.kids
      have lB := hB.lt
      obtain ⟨ka, kc, rfl, hkr, hkc⟩ := hv2
      have hKq : s[q].kids = K := by rw [← hKK.out]; unfold kids0; rw [if_neg h0, blk_at s q hq]
      rw [hKq] at x2 hkr hkc
      have hkl : 0 < K.length := by have := HK4.out; omega
      obtain ⟨kb, ko, rfl, hkk⟩ := hkr.at 0 hkl
      rw [HK4.out] at x2
      have hbox0 := (bA.block _ (lt_heap hbox)).trans hbox
      have c1 := cell_of_one hbox0
      have lp := lt_heap hbox0
      have hszI : (Try.prog.info? 3).map (·.size) = some 1 := by kernel_rfl
      have hb1 : ((q : Int) + 1 != 0) = true := by rw [bne_iff_ne]; exact h0
      have hcn : (K.map (Value.int .i64)).length = Nat.min 4 4 := by rw [List.length_map, HK4.out]; rfl
      have hcs : ∀ j v, (K.map (Value.int .i64))[j]? = some v → W0.cell? ((⟨kb, ko, none⟩ : Addr).add j) = some v := by
        intro j v hv
        rw [List.getElem?_map] at hv
        rcases Nat.lt_or_ge j K.length with hj | hj
        · rw [List.getElem?_eq_getElem hj] at hv
          simp only [Option.map_some, Option.some.injEq] at hv
          subst hv
          have := hkk j hj
          unfold Addr.add
          split
          · rename_i hj0
            subst hj0
            exact this
          · exact this
        · rw [List.getElem?_eq_none hj] at hv
          cases hv
      have hcf : 0 + (K.map (Value.int .i64)).length ≤ (icells .i64 (zeros 4)).toList.length := by simp [icells, zeros, HK4.out]
      have hc1 : ∀ v ∈ K.map (Value.int .i64), v.oneCell' = true := by
        intro v hv
        obtain ⟨x, _, rfl⟩ := List.mem_map.1 hv
        rfl
      have hpos : 0 < (K.map (Value.int .i64)).length → (some (⟨w.heap.size, 0, none⟩ : Addr)) = some ⟨w.heap.size, 0, none⟩ ∧ ∃ ad, some (⟨kb, ko, none⟩ : Addr) = some ad ∧ ∀ j v, (K.map (Value.int .i64))[j]? = some v → W0.cell? (ad.add j) = some v := fun _ => ⟨rfl, _, rfl, hcs⟩
      have qA2 : W0.heap[w.heap.size]? = some (.cells (icells .i64 (zeros 4)).toList.toArray 3 (0, 0)) := qA
      clear hsB hB hs hs0 hcs
      go_wp2_with (with_reducible refine wpList_copy_splice rfl (.tmp 32) (.tmp 41) 91 91 rfl 3 Try.underlying91 hszI (some ⟨w.heap.size, 0, none⟩) (some ⟨kb, ko, none⟩) 4 4 4 kc rfl rfl w.heap.size 0 (icells .i64 (zeros 4)).toList 3 qA2 (K.map (Value.int .i64)) hcn hpos hcf hc1 w.heap.size w bA (Nat.le_refl _) ?_)
      intro w2 HG2 hB2
      have hG2 := HG2.out
      rw [icells4 K HK4.out] at hG2
      clear HG2
      go_wp2_with fail
      go_meet
      exact ⟨hG2, hB2⟩
  case rest =>
    obtain ⟨hKB, hbw⟩ := hcut
    have hkc := cell_of_block hKB (i / p4n m)
    rw [icells_at _ _ _ hdl] at hkc
    have hkf := free_of_block hKB (i / p4n m)
    have lk := lt_heap hKB
    have HKB := Lib.hid hKB
    have HIH2 := Lib.hid (HIH.out _ (((hbw.drew).block _ (lt_heap hbox)).trans hbox) (ho.mono hbw.drew) (Nat.le_trans hbs hbw.drew.size) (hbr.mono hbw.drew))
    have HRR := hrr
    clear HIH hrr hKB hsto hrt hmk qA bA
    generalize K[i / p4n m] = y at *
    have hb1 : 0 ≤ (i : Int) / ((p4n m : Nat) : Int) := Int.natCast_nonneg (i / p4n m)
    have hb2 : (i : Int) / ((p4n m : Nat) : Int) < 4 := Int.ofNat_lt.2 hd4
    have hb3 : 0 ≤ (i : Int) % ((p4n m : Nat) : Int) := Int.natCast_nonneg (i % p4n m)
    have hb5 : (i : Int) % ((p4n m : Nat) : Int) < 64 := Int.ofNat_lt.2 (Nat.lt_of_lt_of_le hmd (Nat.le_trans hp64 (by decide : 16 ≤ 64)))
    have HMM := Lib.hid (show (i : Int) % ((p4n m : Nat) : Int) = ((i % p4n m : Nat) : Int) from rfl)
    have HMT := Lib.hid (show (i : Int).tmod ((p4n m : Nat) : Int) = ((i % p4n m : Nat) : Int) from rfl)
    have hi64 : i < 64 := by omega
    have hq64 : ((p4n m : Nat) : Int) ≤ 64 := Int.ofNat_le.2 (Nat.le_trans hp64 (by decide : 16 ≤ 64))
    have hq1 : 0 < ((p4n m : Nat) : Int) := Int.ofNat_lt.2 hpp
    clear hp64 hi hmd hps hpp
    generalize i % p4n m = mm at HMM HMT HIH2 HRR
    generalize hqq : p4n m = qn at *
    replace hqq := Lib.hid hqq
    have HTN := Lib.hid (show ((i : Int) / (qn : Int)).toNat = i / qn from rfl)
    rw [← HTN.out] at hkc hkf
    have hwq : IntKind.i64.wrap ((i : Int) / (qn : Int)) = (i : Int) / (qn : Int) := by
      generalize (i : Int) / (qn : Int) = z at hb1 hb2
      have h1 : z % 18446744073709551616 = z := by omega
      simp [IntKind.wrap, IntKind.bits, IntKind.signed, h1]
      omega
    go_wp2_with fail
    refine (leaves_any _ _).mono ?_
    rw [hl1]
    rintro e w2 ⟨rfl, rfl⟩
    go_upto_region 9 with fail
    go_cut [15, 16] (fun u v wx => u = .int .i64 k1 ∧ v = .int .i64 e1 ∧ SetDone w2 wx base ao n cap s (s1, k1, e1))
    case first =>
      go_region_with (go_at_call 136; (first | rw [HMT.out] | rw [HMM.out]); refine (HIH2.out).mono ?_; rintro e w3 ⟨rfl, hd⟩)
      all_goals (go_wp2_with fail; go_meet; exact ⟨rfl, rfl, (Below.refl _ _).drew.trans hd.1, hd.2.1, hd.2.2⟩)
    case rest =>
      obtain ⟨rfl, rfl, hdb, hdf, hds⟩ := hcut
      clear HIH2 HMM HMT hb3 hb5 HRR hbr hkc hkf hl1
      have hszw := hbw.size
      have hsn : ∀ g, s ≠ [] → ao = some ⟨g, 0, none⟩ → g < w.heap.size := fun g h1 h2 => own_lt ho h1 h2
      have hbW : ∀ u, Below base w2 u → Below base w u := fun u h => (hbw.mono hbs).trans h
      have hfr : ∀ c, c < w.heap.size → (∀ g, s ≠ [] → ao = some ⟨g, 0, none⟩ → c ≠ g) → wc.heap[c]? = w.heap[c]? := fun c hc h => (hdf c (Nat.lt_of_lt_of_le hc hszw) h).trans (hbw.block c hc)
      by_cases he : e1 = 0
      rotate_left
      · have he1 : (e1 != 0) = true := by rw [bne_iff_ne]; exact he
        have HFF := Lib.hid (show setF (m + 1) s root i b = (s1, 0, e1) by rw [HF.out]; unfold setN; rw [if_pos he])
        clear hdf hds hz0 hb1 hb2 hwq
        go_wp2
        go_ret2
        exact ⟨by rw [HFF.out]; rfl, by rw [HFF.out]; exact ⟨hbW _ hdb, hfr, fun h => absurd h he⟩⟩
      · subst he
        obtain ⟨ho1, hr1⟩ := hds rfl
        obtain ⟨hG1, hk1r, hkeep⟩ := HSG.out rfl
        have HN1 := Lib.hid ho1.len
        have hKB1 : wc.heap[w.heap.size]? = some (.cells (icells .i64 K) 3 (0, 0)) := (hdf _ lk (fun g h1 h2 e => by have := hsn g h1 h2; omega)).trans HKB.out
        have hset := heap_setCell_same' hKB1 (i / qn) (.int .i64 k1)
        rw [icells_set] at hset
        have hk2 := free_of_block hKB1 (i / qn)
        have hkc1 := cell_of_block hKB1 (i / qn)
        obtain ⟨y1, hy1⟩ : ∃ y1, K[i / qn] = y1 := ⟨_, rfl⟩
        rw [icells_at _ _ _ hdl, hy1] at hkc1
        clear hy1
        have hss : s1 ≠ [] → s ≠ [] := fun h e => by
          have h1 := HN.out
          have h2 : s1.length = n := HN1.out
          rw [e, List.length_nil] at h1
          exact h (List.eq_nil_of_length_eq_zero (by omega))
        have hrf : ∀ g, s ≠ [] → ao = some ⟨g, 0, none⟩ → RowFrom w wc g n w2.heap.size := fun g h1 h2 =>
          (RowFrom.same fun j => World.cell?_of_block (w := w) (hbw.block g (hsn g h1 h2))).trans (hr1 g h1 h2)
        have hoff : ∀ g, s1 ≠ [] → ao = some ⟨g, 0, none⟩ → RowOff wc g n w.heap.size ∧ w.heap.size ≠ g := fun g h1 h2 => by
          have hR := ho.own_at (hss h1) h2
          have a1 := hR.off (Nat.le_refl w.heap.size)
          rw [HN.out] at a1
          exact ⟨a1.from (hrf g (hss h1) h2) lk, by have := hsn g (hss h1) h2; omega⟩
        have hoS := ho1.setFar hoff (i / qn) (.int .i64 k1)
        have hbS : Below base w2 (wc.setCell ⟨w.heap.size, i / qn, none⟩ (.int .i64 k1)) := hdb.setCell hbs _
        have hheap : ∀ c, c ≠ w.heap.size → (wc.setCell ⟨w.heap.size, i / qn, none⟩ (.int .i64 k1)).heap[c]? = wc.heap[c]? := fun c hc => Below.heap_setCell _ _ _ _ hc
        have hrS : ∀ g, s ≠ [] → ao = some ⟨g, 0, none⟩ → RowFrom w (wc.setCell ⟨w.heap.size, i / qn, none⟩ (.int .i64 k1)) g n w.heap.size := fun g h1 h2 =>
          ((hrf g h1 h2).lower hszw).trans (.same fun j => World.cell?_of_block (w := wc) (hheap g (by have := hsn g h1 h2; omega)))
        have hszc : w.heap.size < (wc.setCell ⟨w.heap.size, i / qn, none⟩ (.int .i64 k1)).heap.size := lt_heap hset
        have HOF := Lib.hid hoff
        have HKB1 := Lib.hid hKB1
        have HSET := Lib.hid hset
        clear hset hKB1 hoff hds
        have hmem : ∀ x ∈ K.set (i / qn) k1, RootAt s1 m x := fun x hx => by
          rcases List.mem_or_eq_of_mem_set hx with e | e
          · exact hkeep.root (HKR.out x e)
          · rw [e]; exact hk1r
        have hk1m : k1 ∈ K.set (i / qn) k1 := List.mem_set (by omega) _
        have hK2l : (K.set (i / qn) k1).length = 4 := by rw [List.length_set]; exact HK4.out
        have hF2 := HF.out
        unfold setN at hF2
        simp only at hF2
        have HF2 := Lib.hid hF2
        have HMEM := Lib.hid hmem
        have HK1M := Lib.hid hk1m
        have HK2L := Lib.hid hK2l
        clear hF2 hmem hk1m hK2l HF
        generalize hKK2 : K.set (i / qn) k1 = K2 at HF2 HMEM HK1M HK2L HSET
        clear hKK2
        have hxb : ∀ x ∈ K2, 0 ≤ x ∧ x ≤ 1000000 := fun x hx => by
          rcases HMEM.out x hx with h0 | ⟨h1, _⟩
          · omega
          · have := there_ref h1; have := hG1.few; omega
        go_wp2_with fail
        refine (max_int _ _ 4 4 K2 HK2L.out (by omega) (by omega) (row_of_block HSET.out) hxb).mono ?_
        rintro e w4 ⟨r, rfl, hr0, rfl⟩
        by_cases hz : ∀ x ∈ K2, x = 0
        · obtain rfl : r = 0 := hr0.2 hz
          have HFF := Lib.hid (show setF (m + 1) s root i b = (s1, 0, 0) by
            rw [HF2.out, if_neg (fun h => h rfl), if_pos (List.all_eq_true.2 fun x hx => decide_eq_true (hz x hx))])
          have HSD : Hid (SetDone w (wc.setCell ⟨w.heap.size, i / qn, none⟩ (.int .i64 k1)) base ao n cap s (s1, 0, 0)) := Lib.hid ⟨hbW _ hbS, fun c hc h => (hheap c (by omega)).trans (hfr c hc h), fun _ => ⟨hoS, hrS⟩⟩
          clear hfr hheap hrS hz0 hxb hkeep
          go_wp2
          go_ret2
          exact ⟨by rw [HFF.out]; rfl, by rw [HFF.out]; exact HSD.out⟩
        · have hrz : (r == 0) = false := by rw [beq_eq_false_iff_ne]; exact fun e => hz (hr0.1 e)
          obtain ⟨x0, hx0, hx0n⟩ : ∃ x, x ∈ K2 ∧ x ≠ 0 := Classical.byContradiction fun h => hz fun x hx => Classical.byContradiction fun h2 => h ⟨x, hx, h2⟩
          have hs1 : s1 ≠ [] := fun e => by
            rcases HMEM.out x0 hx0 with h | ⟨h, _⟩
            · exact hx0n h
            · have := there_ref h
              rw [e] at this
              simp at this
              omega
          clear hr0 hx0n hx0
          have hboxS := (hheap pb (by have := lt_heap hbox; omega)).trans ((hfr pb (lt_heap hbox) hpn).trans hbox)
          obtain ⟨g, rfl⟩ : ∃ g, ao = some ⟨g, 0, none⟩ := by
            obtain ⟨ao', cap', hv, _, h1 | ⟨g, hg, _⟩⟩ := hoS
            · exact absurd h1 hs1
            · simp only [Value.slice.injEq] at hv
              exact ⟨g, hv.1.trans hg⟩
          have hpg : pb ≠ g := hpn g (hss hs1) rfl
          have hgw : g < w.heap.size := hsn g (hss hs1) rfl
          have hHB : ∀ c, c < w.heap.size → c ≠ g → (wc.setCell ⟨w.heap.size, i / qn, none⟩ (.int .i64 k1)).heap[c]? = w.heap[c]? := fun c hc h => (hheap c (by omega)).trans (hfr c hc fun g' _ h2 => by
            simp only [Option.some.injEq, Addr.mk.injEq, and_true] at h2
            omega)
          have hRS := hrS g (hss hs1) rfl
          have hlp := lt_heap hbox
          have HRS := Lib.hid hRS
          have HHB := Lib.hid hHB
          clear hRS hHB hfr hheap hrS hxb hpn hbox ho hdb hdf hbw hkeep hsn
          generalize wc.setCell ⟨w.heap.size, i / qn, none⟩ (.int .i64 k1) = W2 at *
          have HFF := Lib.hid (show setF (m + 1) s root i b = (looseF 4 (putR s1 ((m : Int) + 1) K2 []).1 k1, (putR s1 ((m : Int) + 1) K2 []).2.1, (putR s1 ((m : Int) + 1) K2 []).2.2) by
            rw [HF2.out, if_neg (fun h => h rfl), if_neg (fun h => hz fun x hx => of_decide_eq_true (List.all_eq_true.1 h x hx))])
          clear HF2 hz
          have HI := Lib.hid (fun k hk => root_I64 hG1 (HMEM.out k hk))
          have hwx : WfB ⟨1, (m : Int) + 1, K2, []⟩ := ⟨by unfold I64; simp only; omega, by unfold I64; simp only; omega, HI.out, (by intro x hx; cases hx), by simp only; have := HK2L.out; omega, by simp⟩
          have HPG := Lib.hid (put_good hG1 (by omega) (by omega) hwx)
          have HPF := Lib.hid (fun (he : (putR s1 ((m : Int) + 1) K2 []).2.2 ≠ 0) => put_fails he)
          have HPW := Lib.hid (fun (he : (putR s1 ((m : Int) + 1) K2 []).2.2 = 0) => put_well hG1 he)
          go_wp2_with fail
          refine (put_frame W2 pb base _ (some ⟨w.heap.size, 0, none⟩) none n cap 4 4 0 0 s1 0 ((m : Int) + 1) K2 [] HN1.out h400 hboxS hoS (fun g' h1 h2 => by
            simp only [Option.some.injEq, Addr.mk.injEq, and_true] at h2
            omega) (by omega) hG1.wf (fun x hx => by have := hG1.refs x hx; omega) HK2L.out rfl (row_of_block HSET.out) (.inl rfl) ⟨Nat.le_refl _, fun h => by cases h⟩ ⟨Nat.le_refl _, fun _ => rfl⟩ HI.out (by omega) (by omega)).mono ?_
          rintro e w5 ⟨rfl, ho5, hb5, hf5, hr5⟩
          have hR5 := hr5 g hs1 rfl
          have hF5 : ∀ c, c < w.heap.size → c ≠ g → w5.heap[c]? = w.heap[c]? := fun c hc h => (hf5 c (by omega) fun g' _ h2 => by
            simp only [Option.some.injEq, Addr.mk.injEq, and_true] at h2
            omega).trans (HHB.out c hc h)
          have hbox5 := (hf5 pb (by omega) fun g' _ h2 => by
            simp only [Option.some.injEq, Addr.mk.injEq, and_true] at h2
            omega).trans hboxS
          have hRW := HRS.out.trans (hR5.lower (Nat.le_of_lt hszc))
          have HRW := Lib.hid hRW
          have HF5 := Lib.hid hF5
          clear hf5 hr5 hR5 hF5 hRW HHB HRS hoS
          generalize putR s1 ((m : Int) + 1) K2 [] = p at *
          obtain ⟨p1, pa, pe⟩ := p
          simp only at ho5 HPF HPG HPW HFF
          have hln := ho5.len
          have HLN := Lib.hid hln
          have hp1 : p1 ≠ [] := fun e => by
            have := HN1.out
            rw [e] at hln
            simp at hln
            exact hs1 (List.eq_nil_of_length_eq_zero (by omega))
          have hR := ho5.own_at hp1 rfl
          have hbg := hR.le
          have hnc : n ≤ cap := by
            obtain ⟨_, _, hv, hc, _⟩ := ho5
            simp only [Value.slice.injEq] at hv
            rw [hv.2.2]
            exact hv.2.1 ▸ hc.1
          clear hln ho5
          by_cases he : pe = 0
          · subst he
            obtain ⟨hPG, hPE⟩ := HPW.out rfl
            simp only [Prod.mk.injEq] at hPE
            have HPE := Lib.hid hPE
            clear hPE
            rcases HMEM.out k1 HK1M.out with h0 | ⟨ht, -⟩
            · subst h0
              go_wp2_with fail
              refine (loose_zero w5 pb).mono ?_
              rintro e w6 ⟨rfl, rfl⟩
              have hLF : looseF 4 p1 0 = p1 := by simp [looseF]
              rw [hLF] at HFF
              go_wp2
              go_ret2
              exact ⟨by rw [HFF.out]; rfl, by rw [HFF.out]; exact ⟨hbW _ (hbS.trans hb5), fun c hc h => HF5.out c hc (h g (hss hs1) rfl), fun _ => ⟨hR.own HLN.out hnc, fun g' _ h2 => by
                simp only [Option.some.injEq, Addr.mk.injEq, and_true] at h2
                subst h2
                exact HRW.out⟩⟩⟩
            · obtain ⟨j, hj, rfl, -⟩ := there_in ht
              have hj' : j < p1.length := by have := HN1.out; have := HLN.out; omega
              have h2r : 1 < p1[j].refs := by
                have := put_twice hPG j hj HK1M.out ht (by rw [putM_length]; exact hj)
                have e1 := HPE.out.1
                subst e1
                exact this
              have hrb := HPG.out.refs _ (List.getElem_mem hj')
              obtain ⟨hlf, -⟩ := less_good HPG.out j hj' h2r
              rw [hlf, addRef_at _ _ hj'] at HFF
              have hR6 := hR.setRefs j hj' (p1[j].refs - 1)
              clear hlf HPW HPF
              go_wp2_with fail
              refine (loose_less w5 pb base g n cap p1 j HLN.out h400 hbox5 hR hpg hj' h2r (by omega)).mono ?_
              rintro e w6 ⟨rfl, rfl⟩
              have hF6 : ∀ c, c < w.heap.size → c ≠ g → (w5.setCell ⟨g, j * 4, none⟩ (.int .i64 (p1[j].refs - 1))).heap[c]? = w.heap[c]? := fun c hc h => (Below.heap_setCell _ _ _ _ h).trans (HF5.out c hc h)
              have hb6 := hb5.setCell (p := ⟨g, j * 4, none⟩) hbg (.int .i64 (p1[j].refs - 1))
              have HRW6 := Lib.hid (HRW.out.refs j (.int .i64 (p1[j].refs - 1)))
              have HF6 := Lib.hid hF6
              clear hF6
              generalize w5.setCell ⟨g, j * 4, none⟩ (.int .i64 (p1[j].refs - 1)) = W6 at *
              go_wp2
              go_ret2
              exact ⟨by rw [HFF.out]; rfl, by rw [HFF.out]; exact ⟨hbW _ (hbS.trans hb6), fun c hc h => HF6.out c hc (h g (hss hs1) rfl), fun _ => ⟨hR6.own (by rw [List.length_set]; exact HLN.out) hnc, fun g' _ h2 => by
                simp only [Option.some.injEq, Addr.mk.injEq, and_true] at h2
                subst h2
                exact HRW6.out⟩⟩⟩
          · have hpp := HPF.out he
            subst hpp
            have hk1lv : k1 = 0 ∨ (1 ≤ k1 ∧ k1 ≤ n ∧ (blk p1 k1).level < (4 : Nat)) := by
              rcases HMEM.out k1 HK1M.out with h0 | ⟨h1, h2⟩
              · exact .inl h0
              · have := there_ref h1
                exact .inr ⟨this.1, by have := HN1.out; omega, by omega⟩
            have hlv := hG1.lv.1
            have hrl := hG1.refsL (by omega)
            go_wp2_with fail
            refine (loose_any 4 w5 pb base g n cap p1 k1 0 (Nat.le_refl _) HN1.out h400 hbox5 hR hpg hlv hrl (Int.le_refl _) (by simp [cost]) hk1lv).mono ?_
            rintro e w6 ⟨rfl, hR6, hg6⟩
            have hb6 := hb5.trans (grown_below hg6 hbg (by have := hb5.size; omega))
            have HF6 := Lib.hid (fun c (hc : c < w.heap.size) (h : c ≠ g) => (hg6.block c (by have := hb5.size; omega) (by simpa using h)).trans (HF5.out c hc h))
            go_wp2
            go_ret2
            exact ⟨by rw [HFF.out]; rfl, by rw [HFF.out]; exact ⟨hbW _ (hbS.trans hb6), fun c hc h => HF6.out c hc (h g (hss hs1) rfl), fun h => absurd h he⟩⟩
end Go.Proofs.Ytfmgdjgedhnmeaa
