/- rookeryref.PutIn in plain words: what Set does, from below on. · The leaves below a root, and where two roots differ, in plain words. · What tree.Differ calls: the leaf of a leaf, the block below. · tree.Differ's walk. · tree.Differ. · rookeryref.CheckRoot: the same as tree.check. slices.Max of four. · Rows of byte slices; rookeryref.LeavesOf. · tree.All; slices.EqualFunc over rows of bytes. -/
import Derived.Test.YtfmgdjgedhnmeaaSetS
import Derived.Laws.EntriesVeiled
import Derived.StillTailTactics
import Derived.Deep.AppendLies
import Derived.Deep.Onto
import Derived.Test.YtfmgdjgedhnmeaaTreeGet
namespace Go.Proofs.Ytfmgdjgedhnmeaa
open Go.RowKit
set_option linter.unusedVariables false

/-- MakeIn, and the one below held once less -/
theorem node_less {s : List Blk} {M : Int} (hg : Good s M) (hM : 1 ≤ M) (hM2 : M ≤ 900000000) {m : Nat} (hm : m ≤ 2) {ks : List Int} {k1 : Int} (h4 : ks.length = 4) (hk1 : k1 ∈ ks) (hk1r : RootAt s m k1) (hI : ∀ k ∈ ks, I64 k) (he : (putR s ((m : Int) + 1) ks []).2.2 = 0) :
    looseF 4 (putR s ((m : Int) + 1) ks []).1 k1 = if k1 = 0 then (putR s ((m : Int) + 1) ks []).1 else addRef (putR s ((m : Int) + 1) ks []).1 k1 (-1) := by
  obtain ⟨hp, e⟩ := put_well hg he
  rw [e]
  simp only
  split
  · rename_i h0
    rw [h0]
    simp [looseF]
  · rename_i h0
    obtain ⟨ht, -⟩ := hk1r.resolve_left h0
    obtain ⟨j, hj, rfl, -⟩ := there_in ht
    have hwx : WfB ⟨1, (m : Int) + 1, ks, []⟩ := ⟨by unfold I64; simp only; omega, by unfold I64; simp only; omega, hI, (by intro x hx; cases hx), by simp only; omega, by simp⟩
    have hG := hp.good hg hM hM2 hwx
    have hj' : j < (putM s ((m : Int) + 1) ks [] (freeIx s)).length := by rw [putM_length]; exact hj
    exact (less_good hG j hj' (put_twice hp j hj hk1 ht hj')).1
end Go.Proofs.Ytfmgdjgedhnmeaa

namespace Go.Proofs.Ytfmgdjgedhnmeaa
open Go.RowKit
set_option linter.unusedVariables false

def kidF (s : List Blk) (a : Int) (k : Nat) : Int := (kids0 s a)[k]?.getD 0
theorem kidF_zero (s : List Blk) (k : Nat) : kidF s 0 k = 0 := by
  unfold kidF kids0
  rw [if_pos rfl]
  rcases k with _ | _ | _ | _ | k <;> rfl
theorem kidF_ne (s : List Blk) (a : Int) (k : Nat) (h : a ≠ 0) : kidF s a k = (blk s a).kids[k]?.getD 0 := by
  unfold kidF kids0
  rw [if_neg h]
theorem leafA_succ (m : Nat) (s : List Blk) (a : Int) (i : Nat) : leafA (m + 1) s a i = leafA m s (kidF s a (i / p4n m)) (i % p4n m) := by
  by_cases h : a = 0
  · rw [h, leafA_zero, kidF_zero, leafA_zero]
  · show (if a = 0 then 0 else _) = _
    rw [if_neg h]
    unfold kidF kids0
    rw [if_neg h]
theorem leafB_succ (m : Nat) (s : List Blk) (a : Int) (i : Nat) : leafB (m + 1) s a i = leafB m s (kidF s a (i / p4n m)) (i % p4n m) := by
  unfold leafB
  rw [leafA_succ]
theorem leafB_zero (m : Nat) (s : List Blk) (i : Nat) : leafB m s 0 i = [] := by
  unfold leafB
  rw [leafA_zero, if_pos rfl]

/-- all leaves below a root -/
def leavesF (m : Nat) (s : List Blk) (a : Int) : List (List Int) := (List.range (p4n m)).map (leafB m s a)
/-- what was there has the leaves that it had -/
theorem leaf_keeps {s t : List Blk} {M : Int} (hg : Good s M) (hk : Keeps s t) : ∀ (m : Nat) (a : Int) (i : Nat), m ≤ 3 → RootAt s m a → i < p4n m → leafB m t a i = leafB m s a i := by
  intro m
  induction m with
  | zero =>
    intro a i _ hr _
    unfold leafB leafA
    split
    · rfl
    · rename_i h0
      exact (hk a (hr.resolve_left h0).1).2.2.2.1
  | succ m ih =>
    intro a i hm hr hi
    have hps := p4n_succ m (by omega)
    have hpp := p4n_pos m
    have hd4 : i / p4n m < 4 := div_lt4 hpp (by omega)
    rw [leafB_succ, leafB_succ]
    have e : kidF t a (i / p4n m) = kidF s a (i / p4n m) := by
      unfold kidF kids0
      split
      · rfl
      · rename_i h0
        rw [(hk a (hr.resolve_left h0).1).2.2.1]
    rw [e]
    obtain ⟨h4, hkr⟩ := kids0_ok hg hr
    refine ih _ _ (by omega) ?_ (Nat.mod_lt _ hpp)
    unfold kidF
    rw [List.getElem?_eq_getElem (by omega)]
    exact hkr _ (List.getElem_mem _)

theorem kids_addRef (s : List Blk) (a d b : Int) : (blk (addRef s a d) b).kids = (blk s b).kids := by
  unfold addRef
  rw [blk_set]
  split
  · rename_i h
    have : blk s a = blk s b := by unfold blk; rw [h.1]
    rw [this]
  · rfl

/-- Set: the leaf is there, the others are as they were -/
theorem set_leaf : ∀ (m : Nat) (s : List Blk) (root : Int) (i : Nat) (b : List Int) (M : Int), m ≤ 3 → Good s M → 1 ≤ M → M + 4 * m ≤ 800000000 → RootAt s m root → i < p4n m → Byt b → b.length ≤ 4 → (setF m s root i b).2.2 = 0 →
    ∀ j, j < p4n m → leafB m (setF m s root i b).1 (setF m s root i b).2.1 j = if j = i then b else leafB m s root j := by
  intro m
  induction m with
  | zero =>
    intro s root i b M _ hg hM hM2 hr hi hb hb4 he j hj
    have hp0 : p4n 0 = 1 := rfl
    obtain rfl : j = i := by omega
    rw [if_pos rfl]
    unfold setF at he ⊢
    split
    · rename_i h
      rw [h, leafB_zero]
    · rename_i hne
      rw [if_neg hne] at he
      obtain ⟨hp, e⟩ := put_well hg he
      rw [e]
      obtain ⟨hn1, hn2⟩ := hp.new
      unfold leafB leafA
      simp only
      rw [if_neg (by omega), hn2]
  | succ m ih =>
    intro s root i b M hm hg hM hM2 hr hi hb hb4 he j hj
    obtain ⟨h4, hkr⟩ := kids0_ok hg hr
    have hps := p4n_succ m (by omega)
    have hpp := p4n_pos m
    have hd4 : i / p4n m < 4 := div_lt4 hpp (by omega)
    have hj4 : j / p4n m < 4 := div_lt4 hpp (by omega)
    have hge : (kids0 s root)[i / p4n m]?.getD 0 = (kids0 s root)[i / p4n m]'(by omega) := by rw [List.getElem?_eq_getElem (by omega)]; rfl
    have hij : j = i ↔ j / p4n m = i / p4n m ∧ j % p4n m = i % p4n m := by
      constructor
      · rintro rfl; exact ⟨rfl, rfl⟩
      · rintro ⟨h1, h2⟩
        rw [← Nat.div_add_mod j (p4n m), ← Nat.div_add_mod i (p4n m), h1, h2]
    have hky := hkr _ (List.getElem_mem (show i / p4n m < (kids0 s root).length by omega))
    unfold setF at he ⊢
    split
    · rename_i h; rw [if_pos h] at he; exact absurd he h
    · rename_i h
      rw [if_neg h] at he
      have h0 : (setF m s ((kids0 s root)[i / p4n m]?.getD 0) (i % p4n m) b).2.2 = 0 := by simpa using h
      obtain ⟨g1, g2, g3⟩ := set_good m s _ (i % p4n m) b M (by omega) hg hM (by omega) (by rw [hge]; exact hky) (Nat.mod_lt _ hpp) hb hb4 h0
      have hih := ih s _ (i % p4n m) b M (by omega) hg hM (by omega) (by rw [hge]; exact hky) (Nat.mod_lt _ hpp) hb hb4 h0
      generalize setF m s ((kids0 s root)[i / p4n m]?.getD 0) (i % p4n m) b = r at *
      rw [leafB_succ m s root j]
      -- the leaves of what the four are now, in the inner store
      have hall : ∀ k ∈ (kids0 s root).set (i / p4n m) r.2.1, RootAt r.1 m k := by
        intro k hk
        rcases List.mem_or_eq_of_mem_set hk with e | e
        · exact g3.root (hkr k e)
        · rw [e]; exact g2
      have hleaf : leafB m r.1 (((kids0 s root).set (i / p4n m) r.2.1)[j / p4n m]?.getD 0) (j % p4n m) = if j = i then b else leafB m s (kidF s root (j / p4n m)) (j % p4n m) := by
        have hgj : ((kids0 s root).set (i / p4n m) r.2.1)[j / p4n m]?.getD 0 = if i / p4n m = j / p4n m then r.2.1 else kidF s root (j / p4n m) := by
          rw [List.getElem?_set]
          by_cases e : i / p4n m = j / p4n m
          · rw [if_pos e, if_pos (by omega), if_pos e]; rfl
          · rw [if_neg e, if_neg e]; rfl
        rw [hgj]
        by_cases e : i / p4n m = j / p4n m
        · rw [if_pos e, hih _ (Nat.mod_lt _ hpp)]
          by_cases e2 : j % p4n m = i % p4n m
          · rw [if_pos e2, if_pos (hij.2 ⟨e.symm, e2⟩)]
          · rw [if_neg e2, if_neg (fun h => e2 (hij.1 h).2), ← e]; rfl
        · rw [if_neg e, if_neg (fun h => e (hij.1 h).1.symm)]
          refine leaf_keeps hg g3 m _ _ (by omega) ?_ (Nat.mod_lt _ hpp)
          unfold kidF
          rw [List.getElem?_eq_getElem (by omega)]
          exact hkr _ (List.getElem_mem _)
      split
      · rename_i hz
        rw [leafB_zero]
        have hz0 : ((kids0 s root).set (i / p4n m) r.2.1)[j / p4n m]?.getD 0 = 0 := by
          rw [List.getElem?_eq_getElem (by rw [List.length_set]; omega)]
          exact of_decide_eq_true (List.all_eq_true.1 hz _ (List.getElem_mem _))
        rw [hz0, leafB_zero] at hleaf
        exact hleaf
      · rename_i hz
        rw [if_neg hz] at he
        have hk1 : r.2.1 ∈ (kids0 s root).set (i / p4n m) r.2.1 := List.mem_set (by omega) _
        have hl4 : ((kids0 s root).set (i / p4n m) r.2.1).length = 4 := by rw [List.length_set]; exact h4
        obtain ⟨q1, q2, q3⟩ := node_step g1 (by omega) (by omega) (by omega) hl4 hk1 g2 (fun k hk => root_I64 g1 (hall k hk)) he
        obtain ⟨hp, e⟩ := put_well g1 he
        rw [leafB_succ]
        -- the new one's four
        have hkn : kidF (looseF 4 (putR r.1 ((m : Int) + 1) ((kids0 s root).set (i / p4n m) r.2.1) []).1 r.2.1) (putR r.1 ((m : Int) + 1) ((kids0 s root).set (i / p4n m) r.2.1) []).2.1 (j / p4n m) = ((kids0 s root).set (i / p4n m) r.2.1)[j / p4n m]?.getD 0 := by
          have hkk : (blk (looseF 4 (putR r.1 ((m : Int) + 1) ((kids0 s root).set (i / p4n m) r.2.1) []).1 r.2.1) (putR r.1 ((m : Int) + 1) ((kids0 s root).set (i / p4n m) r.2.1) []).2.1).kids = (kids0 s root).set (i / p4n m) r.2.1 := by
            rw [node_less g1 (by omega) (by omega) (by omega) hl4 hk1 g2 (fun k hk => root_I64 g1 (hall k hk)) he]
            have hn2 := hp.new.2
            rw [e]
            simp only
            split
            · rw [hn2]
            · rw [kids_addRef, hn2]
          rw [kidF_ne _ _ _ (by rw [e]; simp only; omega), hkk]
        simp only
        rw [hkn]
        rw [leaf_keeps g1 q3 m _ _ (by omega) ?_ (Nat.mod_lt _ hpp)]
        · exact hleaf
        · rw [List.getElem?_eq_getElem (by rw [hl4]; exact hj4)]
          exact hall _ (List.getElem_mem _)
end Go.Proofs.Ytfmgdjgedhnmeaa

namespace Go.Proofs.Ytfmgdjgedhnmeaa
open Go.RowKit
set_option linter.unusedVariables false

/-- the value that get gives of a leaf: known ahead -/
def LeafV (w : World) (ao : Option Addr) (n : Nat) (a : Int) (v : Value) : Prop :=
  (a = 0 ∧ v = .slice none 0 0) ∨ ∃ (j b o : Nat), j < n ∧ a = (j : Int) + 1 ∧ ao = some ⟨b, o, none⟩ ∧ w.cell? ⟨b, o + j * 4 + 3, none⟩ = some v

theorem LeafV.mono {w w' : World} {ao : Option Addr} {n : Nat} {a : Int} {v : Value} (h : LeafV w ao n a v) (hb : Below w.heap.size w w') : LeafV w' ao n a v := by
  rcases h with h | ⟨j, b, o, h1, h2, h3, h4⟩
  · exact .inl h
  · exact .inr ⟨j, b, o, h1, h2, h3, ((bcell hb).1 _ _ (World.block_lt_of_cell? _ _ h4)).trans h4⟩

/-- what the walk works with: the store's world, the boxes, what has been found -/
structure DiffAt (w1 w : World) (ao : Option Addr) (n cap : Nat) (s : List Blk) (sb : Nat) (L : List Int) : Prop where
  len : Hid (s.length = n)
  sto : StoRow w1 ao s
  sbox : w1.heap[sb]? = some (.cells #[.slice ao n cap] 24 (0, 0))
  below : Below w1.heap.size w1 w
  fbox : w.heap[w1.heap.size + 1]? = some (.cells #[.func (.func 106) #[] #[.pointer (some ⟨sb, 0, none⟩), .pointer (some ⟨w1.heap.size, 0, none⟩), .pointer (some ⟨w1.heap.size + 1, 0, none⟩)]] 184 (0, 0))
  lbox : ∃ lv, w.heap[w1.heap.size]? = some (.cells #[lv] 91 (0, 0)) ∧ Own .i64 3 (w1.heap.size + 2) w lv L

theorem DiffAt.mono {w1 w w' : World} {ao : Option Addr} {n cap : Nat} {s : List Blk} {sb : Nat} {L : List Int} (h : DiffAt w1 w ao n cap s sb L) (hb : Below w.heap.size w w') : DiffAt w1 w' ao n cap s sb L := by
  obtain ⟨lv, h1, h2⟩ := h.lbox
  exact ⟨h.len, h.sto, h.sbox, below_step h.below hb, (hb.block _ (lt_heap h.fbox)).trans h.fbox, lv, (hb.block _ (lt_heap h1)).trans h1, h2.mono hb⟩

/-- one more is found -/
theorem DiffAt.add {w1 w w' : World} {ao : Option Addr} {n cap : Nat} {s : List Blk} {sb : Nat} {L L' : List Int} {v : Value} (h : DiffAt w1 w ao n cap s sb L) (hb : Below (w1.heap.size + 2) w w') (ho : Own .i64 3 (w1.heap.size + 2) w' v L') : DiffAt w1 (w'.setCell ⟨w1.heap.size, 0, none⟩ v) ao n cap s sb L' := by
  obtain ⟨lv, h1, h2⟩ := h.lbox
  have h1' := (hb.block _ (by omega)).trans h1
  have hf' := (hb.block _ (by omega)).trans h.fbox
  refine ⟨h.len, h.sto, h.sbox, (h.below.trans (hb.mono (by omega))).setCell (p := ⟨w1.heap.size, 0, none⟩) (Nat.le_refl _) _, ?_, v, one_setCell h1', ?_⟩
  · rw [Below.heap_setCell _ _ _ _ (by simp)]; exact hf'
  · exact ownsRow_setCell_below ho (by simp) v
end Go.Proofs.Ytfmgdjgedhnmeaa

namespace Go.Proofs.Ytfmgdjgedhnmeaa
open Go.RowKit
set_option linter.unusedVariables false

end Go.Proofs.Ytfmgdjgedhnmeaa

namespace Go.Proofs.Ytfmgdjgedhnmeaa
open Go.RowKit
set_option linter.unusedVariables false

end Go.Proofs.Ytfmgdjgedhnmeaa

namespace Go.Proofs.Ytfmgdjgedhnmeaa
open Go.RowKit
set_option linter.unusedVariables false

end Go.Proofs.Ytfmgdjgedhnmeaa

namespace Go.Proofs.Ytfmgdjgedhnmeaa
open Go.RowKit
set_option linter.unusedVariables false

theorem info_ys : (Try.prog.info? 38).map (fun i => (i.zero, i.size, i.bytes)) = some (some (.slice none 0 0), 1, 24) := by kernel_rfl

theorem Sl.mono' {k : IntKind} {w w' : World} {v : Value} {xs : List Int} (h : Sl k w v xs) (hb : Below w.heap.size w w') : Sl k w' v xs := by
  obtain ⟨ao, cap, h1, h2, h3⟩ := h
  exact ⟨ao, cap, h1, h2.mono hb, h3⟩
theorem leavesF_len (m : Nat) (s : List Blk) (a : Int) : (leavesF m s a).length = p4n m := by simp [leavesF]
theorem leavesF_get (m : Nat) (s : List Blk) (a : Int) (i : Nat) (h : i < (leavesF m s a).length) : (leavesF m s a)[i] = leafB m s a i := by simp [leavesF]

end Go.Proofs.Ytfmgdjgedhnmeaa

namespace Go.Proofs.Ytfmgdjgedhnmeaa
open Go.RowKit
set_option linter.unusedVariables false

/-- values that read as bytes -/
structure LW (w : World) (vs : List Value) (L : List (List Int)) : Prop where
  len : vs.length = L.length
  each : ∀ i (h : i < vs.length) (h' : i < L.length), Sl .u8 w vs[i] L[i]
/-- a row of byte slices, read -/
def Rows2 (w : World) (ao : Option Addr) (L : List (List Int)) : Prop :=
  L = [] ∨ ∃ b o, ao = some ⟨b, o, none⟩ ∧ ∀ i (h : i < L.length), ∃ u, w.cell? ⟨b, o + i, none⟩ = some u ∧ Sl .u8 w u L[i]
theorem Rows2.mono {w w' : World} {ao : Option Addr} {L : List (List Int)} (h : Rows2 w ao L) (hb : Below w.heap.size w w') : Rows2 w' ao L := by
  rcases h with h | ⟨b, o, rfl, h⟩
  · exact .inl h
  · refine .inr ⟨b, o, rfl, fun i hi => ?_⟩
    obtain ⟨u, h1, h2⟩ := h i hi
    exact ⟨u, ((bcell hb).1 _ _ (World.block_lt_of_cell? _ _ h1)).trans h1, h2.mono' hb⟩
theorem rows2_of {w : World} {base n : Nat} {v : Value} {vs : List Value} {L : List (List Int)} (h : w.ownsRow base 38 1 v n vs) (hn : vs.length = n) (hL : LW w vs L) : ∃ ao cap, v = .slice ao n cap ∧ Rows2 w ao L := by
  have hl := hL.len
  obtain ⟨h1, ⟨rfl, h3⟩ | ⟨g, cap, cur, rfl, hb, hg, hle, hm, hs, ht⟩⟩ := h
  · exact ⟨none, 0, by rw [h3], .inl (List.eq_nil_of_length_eq_zero (by omega))⟩
  · refine ⟨some ⟨g, 0, none⟩, cap, rfl, .inr ⟨g, 0, rfl, fun i hi => ?_⟩⟩
    have hiv : i < vs.length := by omega
    refine ⟨vs[i], ?_, hL.each i hiv hi⟩
    rw [Nat.zero_add, cell_of_block hg]
    have e : (cur.toList.take (n * 1))[i]? = vs[i]? := by rw [ht]
    rw [List.getElem?_take, if_pos (by omega), List.getElem?_eq_getElem hiv] at e
    simpa using e

theorem blk_byt {s : List Blk} (hw : WfS s) (a : Int) : Byt (blk s a).bytes := by
  unfold blk
  cases h : s[(a - 1).toNat]? with
  | none => intro x hx; simp [noBlk] at hx
  | some y => exact (hw y (List.mem_of_getElem? h)).bytes
theorem leafB_byt {s : List Blk} (hw : WfS s) (m : Nat) (a : Int) (i : Nat) : Byt (leafB m s a i) := by
  unfold leafB
  split
  · intro x hx; cases hx
  · exact blk_byt hw _
theorem leavesF_byt {s : List Blk} (hw : WfS s) (m : Nat) (a : Int) : ∀ x ∈ leavesF m s a, Byt x := by
  intro x hx
  obtain ⟨i, _, rfl⟩ := List.mem_map.1 hx
  exact leafB_byt hw m a i

def allR (s : List Blk) (root l : Int) : List (List Int) × Int := if checkT s root l 0 ≠ 0 then ([], checkT s root l 0) else (leavesF l.toNat s root, 0)

/-- values that read as bytes, in no block up to B -/
structure LX (w : World) (B : Nat) (vs : List Value) (L : List (List Int)) : Prop where
  len : vs.length = L.length
  each : ∀ i (h : i < vs.length) (h' : i < L.length), ∀ g, g ≤ B → SlX g .u8 w vs[i] L[i]
/-- a row of clones, as far as it is filled -/
def RowTo (w : World) (kb q k : Nat) (L : Nat → List Int) : Prop :=
  ∃ vs : List Value, vs.length = q ∧ w.heap[kb]? = some (.cells vs.toArray 38 (0, 0)) ∧ ∀ i (h : i < vs.length), i < k → ∀ g, g ≤ kb → SlX g .u8 w vs[i] (L i)

theorem RowTo.mono {w w' : World} {kb q k : Nat} {L : Nat → List Int} (h : RowTo w kb q k L) (hb : Below w.heap.size w w') : RowTo w' kb q k L := by
  obtain ⟨vs, h1, h2, h3⟩ := h
  exact ⟨vs, h1, (hb.block _ (lt_heap h2)).trans h2, fun i hi hk g hg => (h3 i hi hk g hg).keep fun b _ hlt => hb.block b hlt⟩
theorem SlX.setOff {g kb i : Nat} {k : IntKind} {w : World} {v u : Value} {xs : List Int} (h : SlX g k w v xs) (h2 : SlX kb k w v xs) : SlX g k (w.setCell ⟨kb, i, none⟩ u) v xs := by
  obtain ⟨ao, cap, rfl, hf, hc⟩ := h
  obtain ⟨ao', cap', e, hf2, _⟩ := h2
  simp only [Value.slice.injEq, true_and] at e
  obtain ⟨rfl, rfl⟩ := e
  refine ⟨ao, cap, rfl, ?_, hc⟩
  rcases hf with hf | ⟨b, o, rfl, hb, hcell⟩
  · exact .inl hf
  · rcases hf2 with hf2 | ⟨b', o', e, hb', _⟩
    · exact .inl hf2
    · simp only [Option.some.injEq, Addr.mk.injEq, and_true] at e
      obtain ⟨rfl, rfl⟩ := e
      refine .inr ⟨b, o, rfl, hb, fun q hq => ?_⟩
      rw [World.cell?_of_block (a := ⟨b, o + q, none⟩) (Below.heap_setCell _ _ _ _ hb')]
      exact hcell q hq
theorem RowTo.put {w : World} {kb q k : Nat} {L : Nat → List Int} {v : Value} (h : RowTo w kb q k L) (hk : k < q) (hv : ∀ g, g ≤ kb → SlX g .u8 w v (L k)) : RowTo (w.setCell ⟨kb, k, none⟩ v) kb q (k + 1) L := by
  obtain ⟨vs, h1, h2, h3⟩ := h
  refine ⟨vs.set k v, by rw [List.length_set]; exact h1, ?_, fun i hi hik g hg => ?_⟩
  · have := heap_setCell_same' h2 k v
    simpa using this
  · rw [List.length_set] at hi
    rw [List.getElem_set]
    by_cases e : k = i
    · subst e
      rw [if_pos rfl]
      exact (hv g hg).setOff (hv kb (Nat.le_refl _))
    · rw [if_neg e]
      exact (h3 i hi (by omega) g hg).setOff (h3 i hi (by omega) kb (Nat.le_refl _))
theorem RowTo.free {w : World} {kb q k : Nat} {L : Nat → List Int} (h : RowTo w kb q k L) (hk : k < q) : (∃ u, w.cell? ⟨kb, k, none⟩ = some u) ∧ w.frozen? ⟨kb, k, none⟩ = false ∧ kb < w.heap.size := by
  obtain ⟨vs, h1, h2, h3⟩ := h
  refine ⟨⟨vs[k]'(by omega), ?_⟩, free_of_block h2 k, lt_heap h2⟩
  rw [cell_of_block h2]
  simp [h1, hk]
theorem RowTo.done {w : World} {base kb q : Nat} {L : Nat → List Int} (h : RowTo w kb q q L) (hb : base ≤ kb) (hq : q ≤ maxLen) :
    ∃ vs : List Value, vs.length = q ∧ w.ownsRow base 38 1 (.slice (some ⟨kb, 0, none⟩) q q) q vs ∧ LX w base vs ((List.range q).map L) := by
  obtain ⟨vs, h1, h2, h3⟩ := h
  refine ⟨vs, h1, ⟨by simp [h1], .inr ⟨kb, q, vs.toArray, rfl, hb, h2, Nat.le_refl _, hq, by simp [h1], ?_⟩⟩, ⟨by simp [h1], fun i hi hi' g hg => ?_⟩⟩
  · rw [Nat.mul_one, ← h1]
    simp
  · have := h3 i hi (by omega) g (by omega)
    simpa using this

set_option maxRecDepth 100000 in
set_option maxHeartbeats 4000000 in
theorem all_new (w : World) (ao : Option Addr) (n cap : Nat) (s : List Blk) (root l : Int) (hn : s.length = n) (hn63 : n ≤ 1152921504606846976) (hs : StoRow w ao s) (hwf : WfS s) :
    Calls Try.prog 77 #[.agg #[.slice ao n cap], .int .i64 root, .int .i64 l] w fun e w' => ∃ v vs, e = .returned (.tuple #[v, .int .i64 (allR s root l).2]) ∧ w'.ownsRow w.heap.size 38 1 v vs.length vs ∧ LX w' w.heap.size vs (allR s root l).1 ∧ Below w.heap.size w w' := by
  have HN := Lib.hid hn
  have hb0 : Below w.heap.size w (w.alloc (.cells #[.slice ao n cap] 24)) := (Below.refl _ _).alloc (Nat.le_refl _) _
  have q4 : (w.alloc (.cells #[.slice ao n cap] 24)).heap[w.heap.size]? = some (.cells #[.slice ao n cap] 24 (0, 0)) := heap_alloc_new _ _
  clear hn
  go_enter Try.func77, Try.ntmps77
  go_wp2_with fail
  have hs := hs.mono hb0
  generalize w.alloc (Obj.cells #[Value.slice ao n cap] 24) = W0 at *
  refine (treeCheck_any _ _ _ _ s root l 0 HN.out hn63 hs hwf).mono ?_
  rintro e w1 ⟨rfl, hb1⟩
  replace q4 := (hb1.block _ (lt_heap q4)).trans q4
  have hbw := below_step hb0 hb1
  replace hs := hs.mono hb1
  by_cases hc : checkT s root l 0 = 0
  rotate_left
  · have HR := Lib.hid (show allR s root l = ([], checkT s root l 0) by unfold allR; rw [if_pos hc])
    have he1 : (checkT s root l 0 != 0) = true := by rw [bne_iff_ne]; exact hc
    generalize hcc : checkT s root l 0 = ce at *
    replace hcc := Lib.hid hcc
    clear hc hs
    go_wp2
    go_ret2
    exact ⟨_, [], by rw [HR.out]; rfl, World.ownsRow_nil _ _ _ _, by rw [HR.out]; exact ⟨rfl, fun i h => by simp at h⟩, hbw⟩
  · obtain ⟨hce, m, rfl, hm, hroot, -, -⟩ := checkT_ok hc
    have hf := (checkE_zero s hce).2.1
    have h400 : n ≤ 400 := by have := (checkE_zero s hce).1; have := HN.out; omega
    have HR := Lib.hid (show allR s root m = ((List.range (p4n m)).map (leafB m s root), 0) by unfold allR; rw [if_neg (by simp [hc])]; rfl)
    have he1 : (checkT s root m 0 != 0) = false := by rw [hc]; rfl
    have hl1 : lvN (m : Int) = (((p4n m : Nat) : Int), 0) := by
      unfold lvN
      rw [if_neg (by omega), ← p4n_int]; rfl
    have hp64 : p4n m ≤ 64 := by unfold p4n; (repeat' split) <;> omega
    have HGL := Lib.hid (fun i (hi : i < p4n m) => (leafB_len hf m root i hm hroot hi).1)
    have HGT := Lib.hid (fun (u : World) (hu : StoRow u ao s) (i : Nat) (hi : i < p4n m) => treeget_any u ao n cap s root m i HN.out h400 hu hwf hf hm hroot hi)
    clear hc hce
    generalize hcc : checkT s root m 0 = ce at *
    replace hcc := Lib.hid hcc
    go_wp2_with fail
    refine (leaves_any _ _).mono ?_
    rw [hl1]
    rintro e w2 ⟨rfl, rfl⟩
    generalize p4n m = q at *
    generalize leafB m s root = LB at *
    have hmk : (Instr.makeSlice 147 (.int .i64 (q : Int)) (.int .i64 (q : Int))).run Try.prog w2 = .ok (.slice (some ⟨w2.heap.size, 0, none⟩) q q) (w2.alloc (.cells (madeCells #[.slice none 0 0] q) 38)) :=
      run_make_row' 147 38 (.slice none 0 0) 24 Try.underlying147 info_ys rfl .i64 .i64 q (by omega) (by omega) w2
    have hRT : RowTo (w2.alloc (.cells (madeCells #[.slice none 0 0] q) 38)) w2.heap.size q 0 LB := by
      refine ⟨List.replicate q (.slice none 0 0), by simp, ?_, fun i _ h => by omega⟩
      have h := heap_alloc_new w2 (.cells (madeCells #[.slice none 0 0] q) 38)
      rw [h, ← toList_madeCells_one]
    have hbA : Below w2.heap.size w2 (w2.alloc (.cells (madeCells #[.slice none 0 0] q) 38)) := (Below.refl _ _).alloc (Nat.le_refl _) _
    go_wp2
    generalize w2.alloc (Obj.cells (madeCells #[Value.slice none 0 0] q) 38) = W3 at *
    have lq := lt_heap q4
    go_loopw [28] (fun x wr => ∃ k : Nat, k ≤ q ∧ x = .int .i64 k ∧ Below w2.heap.size w2 wr ∧ RowTo wr w2.heap.size q k LB) (fun x _ => q - (intOf x).toNat)
    case atStart => exact ⟨0, Nat.zero_le _, rfl, hbA, hRT⟩
    case round =>
      obtain ⟨k, hk, rfl, hbel, hT⟩ := hrel
      by_cases hlt : k < q
      · have p1 := (hbel.block _ lq).trans q4
        have c1 := cell_of_one p1
        have l1 := lt_heap p1
        have hkq : (k : Int) < q := by omega
        have hll := HGL.out k hlt
        have hG := HGT.out wr (hs.mono hbel) k hlt
        obtain ⟨-, -, hlr⟩ := hT.free hlt
        have HT := Lib.hid hT
        have HBE := Lib.hid hbel
        have hszr := hbel.size
        clear hT hbel
        obtain ⟨xs, hxs⟩ : ∃ xs, LB k = xs := ⟨_, rfl⟩
        rw [hxs] at hll hG
        have HXS := Lib.hid hxs
        clear hxs
        go_wp2_with fail
        refine hG.mono ?_
        rintro e w4 ⟨v4, rfl, hsl, hb4⟩
        obtain ⟨ba, bc, rfl, hbr, hbc⟩ := hsl
        obtain ⟨xn, hxn⟩ : ∃ xn, xs.length = xn := ⟨_, rfl⟩
        rw [hxn] at hbc hll ⊢
        have HXN := Lib.hid hxn
        clear hxn
        have hsz4 := hb4.size
        go_wp2_with fail
        refine (clone_bytes_n _ _ _ xs _ HXN.out hbr hbc.2 (by omega)).mono ?_
        rintro e w5 ⟨v5, rfl, hown5, -, hb5⟩
        obtain ⟨a5, c5, rfl, -, -, -, -⟩ := hown5.shape'
        have hT5 := (HT.out.mono hb4).mono hb5
        obtain ⟨⟨u5, hu5⟩, hf5, hl5⟩ := hT5.free hlt
        have hsx : ∀ g, g ≤ w2.heap.size → SlX g .u8 w5 (.slice a5 xs.length c5) (LB k) := fun g hg => by rw [HXS.out]; exact hown5.slx (by omega)
        rw [HXN.out] at hsx
        have HT6 := Lib.hid (hT5.put hlt hsx)
        rw [HXN.out]
        have hb6 := ((HBE.out.trans (hb4.mono hszr)).trans (hb5.mono (Nat.le_trans hszr hsz4))).setCell (p := ⟨w2.heap.size, k, none⟩) (Nat.le_refl _) (.slice a5 xn c5)
        clear hT5 hsx hown5 hbr hbc hb4 hb5
        go_wp2_with fail
        go_roundw
        case rel => exact ⟨k + 1, by omega, by go_num, hb6, HT6.out⟩
        case measure => simp [intOf]; omega
      · obtain rfl : k = q := by omega
        have hsw := hbw.size
        obtain ⟨vs, hvl, hvo, hvw⟩ := hT.done (base := w.heap.size) hsw (by unfold maxLen; omega)
        have HVO := Lib.hid hvo
        have HVW := Lib.hid hvw
        have HVL := Lib.hid hvl
        have hbz := below_step hbw hbel
        clear hvo hvw hvl hT
        go_wp2
        go_ret2
        exact ⟨_, vs, by rw [HR.out]; rfl, by rw [HVL.out]; exact HVO.out, by rw [HR.out]; exact HVW.out, hbz⟩

theorem all_any (w : World) (ao : Option Addr) (n cap : Nat) (s : List Blk) (root l : Int) (hn : s.length = n) (hn63 : n ≤ 1152921504606846976) (hs : StoRow w ao s) (hwf : WfS s) :
    Calls Try.prog 77 #[.agg #[.slice ao n cap], .int .i64 root, .int .i64 l] w fun e w' => ∃ v vs, e = .returned (.tuple #[v, .int .i64 (allR s root l).2]) ∧ w'.ownsRow w.heap.size 38 1 v vs.length vs ∧ LW w' vs (allR s root l).1 ∧ Below w.heap.size w w' := by
  have hz := all_new w ao n cap s root l hn hn63 hs hwf
  refine hz.mono ?_
  rintro e w' ⟨v, vs, h1, h2, h3, h4⟩
  refine ⟨v, vs, h1, h2, ⟨h3.len, fun i hi hi' => ?_⟩, h4⟩
  exact (h3.each i hi hi' w.heap.size (Nat.le_refl _)).sl
end Go.Proofs.Ytfmgdjgedhnmeaa
