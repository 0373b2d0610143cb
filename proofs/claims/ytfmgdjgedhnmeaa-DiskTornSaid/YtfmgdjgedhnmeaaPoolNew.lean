/- pool.New. -/
import Derived.Test.YtfmgdjgedhnmeaaImageS
import Derived.Test.YtfmgdjgedhnmeaaImageB
import Derived.Test.YtfmgdjgedhnmeaaLoose
namespace Go.Proofs.Ytfmgdjgedhnmeaa
open Go.RowKit
set_option linter.unusedVariables false
set_option linter.unusedSimpArgs false

theorem off_box {w : World} {pb b o t : Nat} {cs : Array Value} {k : IntKind} {x : Int} (hp : w.heap[pb]? = some (.cells cs t (0, 0))) (hcs : ∀ v ∈ cs, ∃ a n c, v = .slice a n c) (h : w.cell? ⟨b, o, none⟩ = some (.int k x)) : b ≠ pb := by
  rintro rfl
  rw [cell_of_block hp] at h
  obtain ⟨a, n, c, e⟩ := hcs _ (Array.mem_of_getElem? h)
  cases e
theorem Row.boxed {k : IntKind} {w : World} {ao : Option Addr} {xs : List Int} {pb t i : Nat} {cs : Array Value} {v : Value} (h : Row k w ao xs) (hp : w.heap[pb]? = some (.cells cs t (0, 0))) (hcs : ∀ v ∈ cs, ∃ a n c, v = .slice a n c) : Row k (w.setCell ⟨pb, i, none⟩ v) ao xs := by
  rcases h with h | ⟨b, o, e, h⟩
  · exact .inl h
  · exact .inr ⟨b, o, e, fun j hj => (World.cell?_of_block (w := w) (Below.heap_setCell _ _ _ _ (off_box hp hcs (h j hj)))).trans (h j hj)⟩
theorem Sl.boxed {k : IntKind} {w : World} {u : Value} {xs : List Int} {pb t i : Nat} {cs : Array Value} {v : Value} (h : Sl k w u xs) (hp : w.heap[pb]? = some (.cells cs t (0, 0))) (hcs : ∀ v ∈ cs, ∃ a n c, v = .slice a n c) : Sl k (w.setCell ⟨pb, i, none⟩ v) u xs := by
  obtain ⟨ao, cap, e, h1, h2⟩ := h
  exact ⟨ao, cap, e, h1.boxed hp hcs, h2⟩
theorem StoRow.boxed {w : World} {ao : Option Addr} {s : List Blk} {pb t i : Nat} {cs : Array Value} {v : Value} (h : StoRow w ao s) (hp : w.heap[pb]? = some (.cells cs t (0, 0))) (hcs : ∀ v ∈ cs, ∃ a n c, v = .slice a n c) : StoRow (w.setCell ⟨pb, i, none⟩ v) ao s := by
  rcases h with h | ⟨b, o, e, h⟩
  · exact .inl h
  · refine .inr ⟨b, o, e, fun j hj => ?_⟩
    have hne := off_box hp hcs (h j hj).refs
    have key : ∀ q, (w.setCell ⟨pb, i, none⟩ v).cell? ⟨b, q, none⟩ = w.cell? ⟨b, q, none⟩ := fun q => World.cell?_of_block (w := w) (Below.heap_setCell _ _ _ _ hne)
    obtain ⟨h1, h2, ⟨v1, h3, h4⟩, ⟨v2, h5, h6⟩⟩ := h j hj
    exact ⟨(key _).trans h1, (key _).trans h2, ⟨v1, (key _).trans h3, h4.boxed hp hcs⟩, ⟨v2, (key _).trans h5, h6.boxed hp hcs⟩⟩

theorem below_own {w1 wr w8 : World} {r : Option Nat} (h : Below w1.heap.size w1 wr) (hg : wr.grownBy w8 r) (hr : ∀ g, r = some g → w1.heap.size + 2 ≤ g) : Below w1.heap.size w1 w8 :=
  ⟨hg.os.trans h.os, hg.tape.trans h.tape, hg.output.trans h.output, Nat.le_trans h.size hg.size, fun b hb => (hg.block b (Nat.lt_of_lt_of_le hb h.size) (fun e => by have := hr b e.symm; omega)).trans (h.block b hb)⟩

def mkTens (ks qs : List Int) : List TenV := List.zipWith (fun k q => ⟨k, q, []⟩) ks qs
theorem mkTens_len {ks qs : List Int} (h : ks.length = qs.length) : (mkTens ks qs).length = ks.length := by simp [mkTens, h]
theorem mkTens_take {ks qs : List Int} (i : Nat) (hk : i < ks.length) (hq : i < qs.length) : (mkTens ks qs).take (i + 1) = (mkTens ks qs).take i ++ [⟨ks[i], qs[i], []⟩] := by
  rw [List.take_add_one]
  congr 1
  rw [mkTens, List.getElem?_zipWith, List.getElem?_eq_getElem hk, List.getElem?_eq_getElem hq]
  rfl
/-- make a pool -/
def newPool (n : Int) (ks qs : List Int) : PoolV × Int :=
  if (newR n).2 ≠ 0 then (noPool, (newR n).2) else if ks.length ≠ qs.length then (noPool, 4) else if poolE ⟨(newR n).1, mkTens ks qs⟩ ≠ 0 then (noPool, poolE ⟨(newR n).1, mkTens ks qs⟩) else (⟨(newR n).1, mkTens ks qs⟩, 0)
theorem newR_wf (n : Int) : WfS (newR n).1 ∧ (newR n).1.length ≤ 400 := by
  unfold newR
  split
  · exact ⟨fun x hx => (List.not_mem_nil hx).elim, Nat.zero_le _⟩
  · rename_i h
    refine ⟨fun x hx => ?_, by simp; omega⟩
    rw [List.eq_of_mem_replicate hx]
    refine ⟨⟨by decide, by decide⟩, ⟨by decide, by decide⟩, fun k hk => (List.not_mem_nil hk).elim, fun k hk => (List.not_mem_nil hk).elim, by decide, by decide⟩
theorem mkTens_wf {ks qs : List Int} (hk : ∀ k ∈ ks, I64 k) (hq : ∀ q ∈ qs, I64 q) : ∀ t ∈ mkTens ks qs, WfT t := fun t ht => by
  obtain ⟨i, hi, rfl⟩ := List.mem_iff_getElem.mp ht
  simp only [mkTens, List.getElem_zipWith]
  exact ⟨hk _ (List.getElem_mem _), hq _ (List.getElem_mem _), Nat.zero_le _, fun x hx => (List.not_mem_nil hx).elim⟩
theorem newPool_wf {n : Int} {ks qs : List Int} (hl : ks.length ≤ 100000) (hk : ∀ k ∈ ks, I64 k) (hq : ∀ q ∈ qs, I64 q) : WfP ⟨(newR n).1, mkTens ks qs⟩ := by
  have := (newR_wf n).2
  refine ⟨(newR_wf n).1, by show (newR n).1.length ≤ _; omega, ?_, mkTens_wf hk hq⟩
  show (mkTens ks qs).length ≤ _
  simp only [mkTens, List.length_zipWith]
  omega
/-- a pool as it was handed back -/
def NewEnd (e : Ending) (w w' : World) (z : PoolV × Int) : Prop :=
  ∃ so sn sc ao n cap, e = .returned (.tuple #[.agg #[.slice so sn sc, .slice ao n cap], .int .i64 z.2]) ∧ PoolIn w' so sn sc ao n cap z.1 ∧ WfP z.1 ∧ Below w.heap.size w w'

set_option maxRecDepth 100000 in
set_option maxHeartbeats 16000000 in
theorem new_pool (w : World) (n : Int) (ko qo : Option Addr) (kn kc qn qc : Nat) (ks qs : List Int) (hkl : ks.length = kn) (hql : qs.length = qn) (hkr : Row .i64 w ko ks) (hqr : Row .i64 w qo qs) (hki : ∀ k ∈ ks, I64 k) (hqi : ∀ q ∈ qs, I64 q) (hl : ks.length ≤ 100000) :
    Calls Try.prog 52 #[.int .i64 n, .slice ko kn kc, .slice qo qn qc] w fun e w' => NewEnd e w w' (newPool n ks qs) := by
  have p0 : (w.alloc (.cells #[.slice none 0 0, .slice none 0 0] 49)).heap[w.heap.size]? = some (.cells #[.slice none 0 0, .slice none 0 0] 49 (0, 0)) := heap_alloc_new _ _
  have hb0 : Below w.heap.size w (w.alloc (.cells #[.slice none 0 0, .slice none 0 0] 49)) := (Below.refl _ _).alloc (Nat.le_refl _) _
  have hs0 : (w.alloc (.cells #[.slice none 0 0, .slice none 0 0] 49)).heap.size = w.heap.size + 1 := by simp
  obtain ⟨⟨S, E⟩, hSE⟩ : ∃ z, newR n = z := ⟨_, rfl⟩
  have HSE := Lib.hid hSE
  have HWF := Lib.hid (newPool_wf (n := n) hl hki hqi)
  have HSL := Lib.hid (newR_wf n).2
  have HKL := Lib.hid hkl
  have HQL := Lib.hid hql
  have HKR := Lib.hid (hkr.mono hb0)
  have HQR := Lib.hid (hqr.mono hb0)
  have HL := Lib.hid hl
  clear hSE hkl hql hkr hqr hki hqi hl
  go_enter Try.func52, Try.ntmps52
  go_wp2_with fail
  generalize w.alloc (.cells #[.slice none 0 0, .slice none 0 0] 49) = W0 at *
  refine (new_any W0 n).mono ?_
  rintro e w1 ⟨v, rfl, ho, hb1⟩
  obtain ⟨so, sc, rfl, hsc, hsr⟩ := ho.sto
  rw [HSE.out] at hsc hsr HSL HWF ⊢
  simp only at hsc hsr HSL HWF ⊢
  obtain ⟨sn, hsn⟩ : ∃ sn, S.length = sn := ⟨_, rfl⟩
  rw [hsn] at hsc HSL ⊢
  have HSN := Lib.hid hsn
  have HSC := Lib.hid hsc
  have HSR := Lib.hid hsr
  clear hsn hsc hsr ho
  have hsz := hb1.size
  have p1 := (hb1.block _ (lt_heap p0)).trans p0
  have hbw := below_step hb0 hb1
  clear p0 hb0
  have HKR := Lib.hid (HKR.out.mono hb1)
  have HQR := Lib.hid (HQR.out.mono hb1)
  clear hb1
  have c0 := cell_of_block p1 0
  have c1 := cell_of_block p1 1
  have f0 := free_of_block p1 0
  have f1 := free_of_block p1 1
  have l0 := lt_heap p1
  simp at c0 c1
  by_cases hE : E = 0
  · subst hE
    by_cases hlen : kn = qn
    · subst hlen
      have hb2 : Below w1.heap.size w1 ((w1.alloc (.cells #[.slice so sn sc] 24)).alloc (.cells #[.slice so sn sc, .slice none 0 0] 49)) := ((Below.refl _ _).alloc (Nat.le_refl _) _).alloc (by simp) _
      have b2 := heap_alloc2_new w1 (.cells #[.slice so sn sc] 24) (.cells #[.slice so sn sc, .slice none 0 0] 49)
      have hs2 : ((w1.alloc (.cells #[.slice so sn sc] 24)).alloc (.cells #[.slice so sn sc, .slice none 0 0] 49)).heap.size = w1.heap.size + 2 := by simp
      have HP1 := Lib.hid p1
      clear p1 c0 c1 f0 f1
      go_wp2_with fail
      generalize (w1.alloc (.cells #[.slice so sn sc] 24)).alloc (.cells #[.slice so sn sc, .slice none 0 0] 49) = W2 at *
      go_loopw [33] (fun i wr => ∃ (k : Nat) (ao : Option Addr) (m c : Nat), k ≤ kn ∧ i = .int .i64 k ∧ wr.heap[w1.heap.size + 1]? = some (.cells #[.slice so sn sc, .slice ao m c] 49 (0, 0)) ∧ Hid (tnvRep.Grow wr (w1.heap.size + 2) (.slice ao m c) ((mkTens ks qs).take k)) ∧ w1.heap.size + 2 ≤ wr.heap.size ∧ Below w1.heap.size w1 wr) (fun i _ => kn - (intOf i).toNat)
      case atStart => exact ⟨0, none, 0, 0, Nat.zero_le _, rfl, b2, Lib.hid (Rep.Grow.nil _ _), by omega, hb2⟩
      case round =>
        clear b2 hb2 hs2
        obtain ⟨k, ao, m, c, hkn, rfl, bk, HG, hsk, hbk⟩ := hrel
        by_cases hlt : k < kn
        · have hkl : k < ks.length := by have := HKL.out; omega
          have hql : k < qs.length := by have := HQL.out; omega
          have hlt' : (k : Int) < kn := by omega
          have HLT := Lib.hid hlt
          have hkb : k ≤ 100000 := by have := HL.out; omega
          obtain ⟨b, o, rfl, hq⟩ := (HKR.out.mono hbk).at k hkl
          obtain ⟨b', o', rfl, hq'⟩ := (HQR.out.mono hbk).at k hql
          have c0 := hq k hkl
          have d0 := hq' k hql
          have lb := World.block_lt_of_cell? _ _ c0
          have lb' := World.block_lt_of_cell? _ _ d0
          have HT := Lib.hid (mkTens_take k hkl hql)
          have HLEN : Hid (((mkTens ks qs).take k).length ≤ 100000) := Lib.hid (by rw [List.length_take]; have := HL.out; omega)
          clear hq hq'
          generalize ks[k] = x at *
          generalize qs[k] = y at *
          have e0 := cell_of_block bk 0
          have e1 := cell_of_block bk 1
          have g1 := free_of_block bk 1
          simp at e0 e1
          have lk := lt_heap bk
          have HRB : Hid (tnvRep.R wr (w1.heap.size + 2) ⟨x, y, none, 0, 0⟩ ⟨x, y, []⟩) := Lib.hid ⟨rfl, rfl, Rep.Grow.nil _ _⟩
          have HBX : Hid (w1.heap.size + 2 ≤ wr.heap.size) := Lib.hid hsk
          have HVL := Lib.hid (show ∀ g, (Value.slice ao m c).ownBlock = some g → w1.heap.size + 2 ≤ g from fun g h => (HG.out.block g h).1)
          have HGD : Hid (tnvRep.Grow wr.drew (w1.heap.size + 2) (.slice ao m c) ((mkTens ks qs).take k)) := Lib.hid HG.out
          have HRD : Hid (tnvRep.R wr.drew (w1.heap.size + 2) ⟨x, y, none, 0, 0⟩ ⟨x, y, []⟩) := Lib.hid HRB.out
          have HBD : Hid (w1.heap.size + 2 ≤ wr.drew.heap.size) := Lib.hid HBX.out
          go_wp2_with fail
          go_region_law (refine Rep.step_append (M := tnvRep) (w := wr.drew) (by rfl) _ _ _ (by rfl) (base := w1.heap.size + 2) (l := (mkTens ks qs).take k) (x := ⟨x, y, []⟩) (a := ⟨x, y, none, 0, 0⟩) _ 40 Try.underlying47 info_ten (by rfl) HGD.out HRD.out HLEN.out (by omega) HBD.out _ (by rfl) (by rfl) (by rfl) ?_; intro v8 w8 hG8 hg8 hf8; obtain ⟨ao8, m8, c8, rfl⟩ := hG8.shapeN; have hb8 : Below w1.heap.size w1 w8 := below_own hbk.drew hg8 HVL.out; have q8 := (hg8.block (w1.heap.size + 1) lk (fun e => by have := HVL.out _ e.symm; omega)).trans bk; have z1 := cell_of_block q8 1; have zf := free_of_block q8 1; simp at z1; have l8 := lt_heap q8; have HS8 := Lib.hid (show w1.heap.size + 2 ≤ w8.heap.size from Nat.le_trans HBX.out hg8.size); have HG8 := Lib.hid (hG8.keep (.of_set (c := w1.heap.size + 1) (i := 1) (v := .slice ao8 m8 c8) (.inl (by omega)))); have HB8 := Lib.hid (hb8.setCell (p := ⟨w1.heap.size + 1, 1, none⟩) (by show w1.heap.size ≤ w1.heap.size + 1; omega) (.slice ao8 m8 c8)); have Q9 : Hid ((w8.setCell ⟨w1.heap.size + 1, 1, none⟩ (.slice ao8 m8 c8)).heap[w1.heap.size + 1]? = some (.cells #[.slice so sn sc, .slice ao8 m8 c8] 49 (0, 0))) := Lib.hid (by simpa using heap_setCell_same' q8 1 (.slice ao8 m8 c8)); clear hG8 hg8 hf8 hb8 q8)
          all_goals
            go_wp2
            go_roundw
            case rel => exact ⟨k + 1, ao8, m8, c8, HLT.out, by go_num, Q9.out, Lib.hid (by rw [HT.out]; exact HG8.out), by have := HS8.out; simpa using this, HB8.out⟩
            case measure => have := HLT.out; simp [intOf]; omega
        · have hkk : k = kn := by omega
          subst hkk
          have hlt' : ¬ ((k : Int) < k) := by omega
          have e0 := cell_of_block bk 0
          have e1 := cell_of_block bk 1
          simp at e0 e1
          have lk := lt_heap bk
          have HGA : Hid (tnvRep.Grow wr (w1.heap.size + 2) (.slice ao m c) (mkTens ks qs)) := Lib.hid (by
            have h := HG.out
            rw [List.take_of_length_le (by rw [mkTens_len (by rw [HKL.out, HQL.out])]; exact Nat.le_of_eq HKL.out)] at h
            exact h)
          have p5 := (hbk.block _ l0).trans HP1.out
          have HBK := Lib.hid hbk
          have HIN : Hid (PoolIn wr so sn sc ao m c ⟨S, mkTens ks qs⟩) := Lib.hid (by
            obtain ⟨t1, t2, t3⟩ := tens_of HGA.out
            exact ⟨HSN.out, HSR.out.mono hbk, HSC.out, t1, t2, t3⟩)
          have HBK2 := Lib.hid (bk)
          clear HG hbk bk hlt
          go_wp2_with fail
          refine (poolCheck_any wr so ao sn sc m c _ HIN.out HWF.out).mono ?_
          rintro e w5 ⟨rfl, hb5⟩
          have p6 := (hb5.block _ (lt_heap p5)).trans p5
          have b6 := (hb5.block _ (lt_heap HBK2.out)).trans HBK2.out
          have HGA5 := Lib.hid (HGA.out.mono hb5)
          have HSR5 := Lib.hid (HIN.out.srow.mono hb5)
          have HBW := Lib.hid (hbw.trans ((HBK.out.mono hbw.size).trans (hb5.mono (by have := HBK.out.size; have := hbw.size; omega))))
          clear hb5 p5 HGA HIN HBK HBK2 e0 e1 lk
          have c0 := cell_of_block p6 0
          have c1 := cell_of_block p6 1
          have f0 := free_of_block p6 0
          have f1 := free_of_block p6 1
          have e0 := cell_of_block b6 0
          have e1 := cell_of_block b6 1
          have l5 := lt_heap p6
          have l6 := lt_heap b6
          simp at c0 c1 e0 e1
          have HP6 := Lib.hid p6
          have hne : w1.heap.size + 1 ≠ w.heap.size := by omega
          clear p6 b6
          obtain ⟨F, hF⟩ : ∃ F, poolE ⟨S, mkTens ks qs⟩ = F := ⟨_, rfl⟩
          rw [hF]
          have HF := Lib.hid hF
          clear hF
          by_cases h0 : F = 0
          · subst h0
            have HR : Hid (newPool n ks qs = (⟨S, mkTens ks qs⟩, 0)) := Lib.hid (by
              rw [newPool, HSE.out, if_neg (by simp), if_neg (by rw [HKL.out, HQL.out]; simp), if_neg (by simp only [HF.out]; simp)])
            go_wp2_with fail
            have p7 := heap_setCell_same' HP6.out 0 (.slice so sn sc)
            have p8 := heap_setCell_same' p7 1 (.slice ao m c)
            simp at p7 p8
            have hb8 := (HBW.out.setCell (p := ⟨w.heap.size, 0, none⟩) (Nat.le_refl _) (.slice so sn sc)).setCell (p := ⟨w.heap.size, 1, none⟩) (Nat.le_refl _) (.slice ao m c)
            have hin8 : PoolIn ((w5.setCell ⟨w.heap.size, 0, none⟩ (.slice so sn sc)).setCell ⟨w.heap.size, 1, none⟩ (.slice ao m c)) so sn sc ao m c ⟨S, mkTens ks qs⟩ := by
              obtain ⟨t1, t2, t3⟩ := tens_of ((HGA5.out.keep (.of_set (c := w.heap.size) (i := 0) (v := .slice so sn sc) (.inl (by omega)))).keep (.of_set (c := w.heap.size) (i := 1) (v := .slice ao m c) (.inl (by omega))))
              exact ⟨HSN.out, (HSR5.out.boxed HP6.out (by simp)).boxed p7 (by simp), HSC.out, t1, t2, t3⟩
            generalize (w5.setCell ⟨w.heap.size, 0, none⟩ (.slice so sn sc)).setCell ⟨w.heap.size, 1, none⟩ (.slice ao m c) = W8 at *
            have z0 := cell_of_block p8 0
            have z1 := cell_of_block p8 1
            simp at z0 z1
            refine bodyPost_ret (v := .tuple #[.agg #[.slice so sn sc, .slice ao m c], .int .i64 0]) (by simp [results, Try.results52, go_sem, z0, z1]) rfl ?_
            rw [HR.out]
            exact ⟨_, _, _, _, _, _, rfl, hin8, HWF.out, hb8⟩
          · have HR : Hid (newPool n ks qs = (noPool, F)) := Lib.hid (by
              rw [newPool, HSE.out, if_neg (by simp), if_neg (by rw [HKL.out, HQL.out]; simp)]
              simp only [HF.out]
              exact if_pos h0)
            have q1 : (F == 0) = false := by rw [beq_eq_false_iff_ne]; exact h0
            go_wp2_with fail
            have p8 := heap_setCell_same' (heap_setCell_same' HP6.out 0 (.slice none 0 0)) 1 (.slice none 0 0)
            simp at p8
            have hb8 := (HBW.out.setCell (p := ⟨w.heap.size, 0, none⟩) (Nat.le_refl _) (.slice none 0 0)).setCell (p := ⟨w.heap.size, 1, none⟩) (Nat.le_refl _) (.slice none 0 0)
            generalize (w5.setCell ⟨w.heap.size, 0, none⟩ (.slice none 0 0)).setCell ⟨w.heap.size, 1, none⟩ (.slice none 0 0) = W8 at *
            have z0 := cell_of_block p8 0
            have z1 := cell_of_block p8 1
            simp at z0 z1
            refine bodyPost_ret (v := .tuple #[.agg #[.slice none 0 0, .slice none 0 0], .int .i64 F]) (by simp [results, Try.results52, go_sem, z0, z1]) rfl ?_
            rw [HR.out]
            exact ⟨_, _, _, _, _, _, rfl, noPool_in _, noPool_wf, hb8⟩
    · have hlq : ¬ ((kn : Int) = qn) := by omega
      have HR : Hid (newPool n ks qs = (noPool, 4)) := Lib.hid (by rw [newPool, HSE.out, if_neg (by simp), if_pos]; rw [HKL.out, HQL.out]; exact hlen)
      go_wp2_with fail
      have p4 := heap_setCell_same' (heap_setCell_same' p1 0 (.slice none 0 0)) 1 (.slice none 0 0)
      simp at p4
      have p6 := (Below.heap_alloc _ (.cells #[.slice so sn sc] 24) _ (by simpa using l0)).trans p4
      have hb6 := (((hbw.setCell (p := ⟨w.heap.size, 0, none⟩) (Nat.le_refl _) (.slice none 0 0)).setCell (p := ⟨w.heap.size, 1, none⟩) (Nat.le_refl _) (.slice none 0 0)).alloc (by simp; omega) (.cells #[.slice so sn sc] 24))
      generalize ((w1.setCell ⟨w.heap.size, 0, none⟩ (.slice none 0 0)).setCell ⟨w.heap.size, 1, none⟩ (.slice none 0 0)).alloc (.cells #[.slice so sn sc] 24) = W6 at *
      have z0 := cell_of_block p6 0
      have z1 := cell_of_block p6 1
      simp at z0 z1
      refine bodyPost_ret (v := .tuple #[.agg #[.slice none 0 0, .slice none 0 0], .int .i64 4]) (by simp [results, Try.results52, go_sem, z0, z1]) rfl ?_
      rw [HR.out]
      exact ⟨_, _, _, _, _, _, rfl, noPool_in _, noPool_wf, hb6⟩
  · have q1 : (E == 0) = false := by rw [beq_eq_false_iff_ne]; exact hE
    have HR : Hid (newPool n ks qs = (noPool, E)) := Lib.hid (by rw [newPool, HSE.out]; exact if_pos hE)
    go_wp2_with fail
    have p4 := heap_setCell_same' (heap_setCell_same' p1 0 (.slice none 0 0)) 1 (.slice none 0 0)
    simp at p4
    have p6 := (Below.heap_alloc _ (.cells #[.slice so sn sc] 24) _ (by simpa using l0)).trans p4
    have hb6 := (((hbw.setCell (p := ⟨w.heap.size, 0, none⟩) (Nat.le_refl _) (.slice none 0 0)).setCell (p := ⟨w.heap.size, 1, none⟩) (Nat.le_refl _) (.slice none 0 0)).alloc (by simp; omega) (.cells #[.slice so sn sc] 24))
    generalize ((w1.setCell ⟨w.heap.size, 0, none⟩ (.slice none 0 0)).setCell ⟨w.heap.size, 1, none⟩ (.slice none 0 0)).alloc (.cells #[.slice so sn sc] 24) = W6 at *
    have z0 := cell_of_block p6 0
    have z1 := cell_of_block p6 1
    simp at z0 z1
    refine bodyPost_ret (v := .tuple #[.agg #[.slice none 0 0, .slice none 0 0], .int .i64 E]) (by simp [results, Try.results52, go_sem, z0, z1]) rfl ?_
    rw [HR.out]
    exact ⟨_, _, _, _, _, _, rfl, noPool_in _, noPool_wf, hb6⟩
end Go.Proofs.Ytfmgdjgedhnmeaa
