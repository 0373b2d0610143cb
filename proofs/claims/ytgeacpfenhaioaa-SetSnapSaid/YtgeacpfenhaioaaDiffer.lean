/- What tree.Differ calls: the leaf of a leaf, the block below. · tree.Differ's walk. · tree.Differ. -/
import Derived.Test.YtgeacpfenhaioaaSetQ
import Derived.Laws.EntriesVeiled
import Derived.StillTailTactics
namespace Go.Proofs.Ytgeacpfenhaioaa
open Go.RowKit
set_option linter.unusedVariables false

/-- the value that get gives of a leaf: known ahead -/
def LeafV (w : World) (ao : Option Addr) (n : Nat) (a : Int) (v : Value) : Prop :=
  (a = 0 ∧ v = .slice none 0 0) ∨ ∃ (j b o : Nat), j < n ∧ a = (j : Int) + 1 ∧ ao = some ⟨b, o, none⟩ ∧ w.cell? ⟨b, o + j * 4 + 3, none⟩ = some v

theorem LeafV.mono {w w' : World} {ao : Option Addr} {n : Nat} {a : Int} {v : Value} (h : LeafV w ao n a v) (hb : Below w.heap.size w w') : LeafV w' ao n a v := by
  rcases h with h | ⟨j, b, o, h1, h2, h3, h4⟩
  · exact .inl h
  · exact .inr ⟨j, b, o, h1, h2, h3, ((bcell hb).1 _ _ (World.block_lt_of_cell? _ _ h4)).trans h4⟩

theorem leafV_of {w : World} {ao : Option Addr} {s : List Blk} (hs : StoRow w ao s) {a : Int} (hr : RootAt s 0 a) : ∃ ba bc, LeafV w ao s.length a (.slice ba (leafB 0 s a 0).length bc) ∧ Row .u8 w ba (leafB 0 s a 0) ∧ Capd ba (leafB 0 s a 0).length bc := by
  rcases hr with h0 | ⟨ht, hl⟩
  · have e : leafB 0 s a 0 = [] := by rw [h0, leafB_zero]
    rw [e]
    exact ⟨none, 0, .inl ⟨h0, rfl⟩, .inl rfl, Nat.le_refl _, fun _ => rfl⟩
  · obtain ⟨j, hj, rfl, -⟩ := there_in ht
    have e : leafB 0 s ((j : Int) + 1) 0 = s[j].bytes := by
      unfold leafB leafA
      rw [if_neg (by omega), blk_at s j hj]
    rw [e]
    obtain ⟨b, o, rfl, hB⟩ := hs.at j hj
    obtain ⟨v3, x3, hv3⟩ := (hB j hj).bytes
    obtain ⟨ba, bc, rfl, hbr, hbc⟩ := hv3
    exact ⟨ba, bc, .inr ⟨j, b, o, hj, rfl, rfl, x3⟩, hbr, hbc⟩

set_option maxRecDepth 100000 in
set_option maxHeartbeats 1000000 in
theorem get0_any (w : World) (ao ba : Option Addr) (n cap nb bc : Nat) (s : List Blk) (a : Int) (hn : s.length = n) (h400 : n ≤ 400) (hs : StoRow w ao s) (hv : LeafV w ao n a (.slice ba nb bc)) :
    Calls Try.prog 110 #[.agg #[.slice ao n cap], .int .i64 a, .int .i64 0, .int .i64 0] w fun e w' => e = .returned (.slice ba nb bc) ∧ Below w.heap.size w w' := by
  have HN := Lib.hid hn
  have hb0 : Below w.heap.size w (w.alloc (.cells #[.slice ao n cap] 24)) := (Below.refl _ _).alloc (Nat.le_refl _) _
  have q4 : (w.alloc (.cells #[.slice ao n cap] 24)).heap[w.heap.size]? = some (.cells #[.slice ao n cap] 24 (0, 0)) := heap_alloc_new _ _
  have hv0 := hv.mono hb0
  clear hn hv
  go_enter Try.func110, Try.ntmps110
  go_wp2
  generalize w.alloc (Obj.cells #[Value.slice ao n cap] 24) = W0 at *
  have c4 := cell_of_one q4
  have l4 := lt_heap q4
  go_loopw [1, 2, 3] (fun u v x wr => u = .int .i64 a ∧ v = .int .i64 0 ∧ x = .int .i64 0 ∧ wr = W0) (fun _ v _ _ => (intOf v).toNat)
  case atStart => exact ⟨rfl, rfl, rfl, rfl⟩
  case round =>
    obtain ⟨rfl, rfl, rfl, rfl⟩ := hrel
    rcases hv0 with ⟨rfl, hveq⟩ | ⟨j, b, o, hj, rfl, rfl, hcell⟩
    · simp only [Value.slice.injEq] at hveq
      obtain ⟨rfl, rfl, rfl⟩ := hveq
      go_wp2
      go_ret
      exact ⟨rfl, hb0⟩
    · have hb1 : ((j : Int) + 1 != 0) = true := by rw [bne_iff_ne]; omega
      have hb2 : ((j : Int) + 1 == 0) = false := by rw [beq_eq_false_iff_ne]; omega
      have lB := World.block_lt_of_cell? _ _ hcell
      have hjn : (j : Int) < n := by omega
      go_wp2
      go_ret
      exact ⟨rfl, hb0⟩

theorem diffF_len (m : Nat) (hm : m ≤ 3) (s : List Blk) (a b o : Int) : (diffF m s a b o).length ≤ p4n m := by
  rw [diffF_eq m s a b o hm, List.length_map]
  unfold diffL
  exact Nat.le_trans (List.length_filter_le _ _) (by rw [List.length_range]; exact Nat.le_refl _)

end Go.Proofs.Ytgeacpfenhaioaa

namespace Go.Proofs.Ytgeacpfenhaioaa
open Go.RowKit
set_option linter.unusedVariables false

/-- what a level has found, after some of its four -/
def diffTo (m : Nat) (s : List Blk) (a b o : Int) (k : Nat) : List Int := (List.range k).flatMap fun q => diffF m s (kidF s a q) (kidF s b q) (o + (q : Int) * (p4n m : Nat))
theorem diffTo_succ (m : Nat) (s : List Blk) (a b o : Int) (k : Nat) : diffTo m s a b o (k + 1) = diffTo m s a b o k ++ diffF m s (kidF s a k) (kidF s b k) (o + (k : Int) * (p4n m : Nat)) := by
  unfold diffTo
  rw [List.range_succ, List.flatMap_append]
  simp
theorem diffTo_len (m : Nat) (hm : m ≤ 3) (s : List Blk) (a b o : Int) : ∀ k, (diffTo m s a b o k).length ≤ k * p4n m := by
  intro k
  induction k with
  | zero => simp [diffTo]
  | succ k ih =>
    rw [diffTo_succ, List.length_append, Nat.succ_mul]
    have := diffF_len m hm s (kidF s a k) (kidF s b k) (o + (k : Int) * (p4n m : Nat))
    omega

theorem kidF_root {s : List Blk} (hf : formsE s s = 0) {m : Nat} {a : Int} (hr : RootAt s (m + 1) a) (k : Nat) (hk : k < 4) : RootAt s m (kidF s a k) := by
  rcases hr with rfl | ⟨ht, hl⟩
  · exact .inl (kidF_zero s k)
  · have h4 := four_kids hf ht (by omega)
    have := root_kid hf ht (m := m) (by omega) k (by omega)
    by_cases h0 : a = 0
    · rw [h0, kidF_zero]; exact .inl rfl
    · rw [kidF_ne _ _ _ h0, List.getElem?_eq_getElem (by omega)]
      exact this

end Go.Proofs.Ytgeacpfenhaioaa

namespace Go.Proofs.Ytgeacpfenhaioaa
open Go.RowKit
set_option linter.unusedVariables false

def differR (s : List Blk) (a b l : Int) : List Int × Int :=
  if checkT s a l 0 ≠ 0 then ([], checkT s a l 0) else if checkT s b l 0 ≠ 0 then ([], checkT s b l 0) else (diffF l.toNat s a b 0, 0)

end Go.Proofs.Ytgeacpfenhaioaa
