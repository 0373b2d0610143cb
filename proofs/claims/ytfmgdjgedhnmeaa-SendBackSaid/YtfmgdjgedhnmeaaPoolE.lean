/- A pool in memory: tenants and their sets in rows; a pool that came in, opened. · A map of what was seen. · store.Reach: all that is below some blocks. · What is wrong with a pool; what a right pool is. No program in sight. · Two stores that are alike in a part: what is done there keeps them so. No program in sight. · Two stores that are alike in a part: leaves, a turn of a file. No program in sight. · Two stores that are alike in a part: what is asked of a set there. No program in sight. · There is room for a turn where few blocks are used. No program in sight. · Two stores that are alike in a part: what is right, and what is reached, there. No program in sight. · What a tenant asks of a pool, in plain words; a pool stays right. No program in sight. · Each ask of a pool leaves it one. No program in sight. · Rows of sets and of tenants: Clone, Insert, Delete; a set's place. · A pool in memory of its own. · pool.Copy. -/
import Derived.Test.YtfmgdjgedhnmeaaOpenX
import Derived.Maps.OwnOps
import Derived.Maps.OwnSet
import Derived.Laws.EntriesVeiled
import Derived.Test.YtfmgdjgedhnmeaaBackQ
import Derived.Test.YtfmgdjgedhnmeaaPut
import Derived.Test.YtfmgdjgedhnmeaaOutside
import Derived.Test.YtfmgdjgedhnmeaaTreeGet
import Derived.Test.YtfmgdjgedhnmeaaHeld
import Derived.Test.YtfmgdjgedhnmeaaTurnF
import Derived.Test.YtfmgdjgedhnmeaaFileOver
import Derived.Test.YtfmgdjgedhnmeaaHold
import Derived.Test.YtfmgdjgedhnmeaaPlace
import Derived.Lib.SliceRun
import Derived.Lib.Overlaps
import Derived.Shelf.Spec.SlicesInsert
import Derived.Test.YtfmgdjgedhnmeaaGather
namespace Go.Proofs.Ytfmgdjgedhnmeaa
open Go.RowKit Go.ChangeShapes Go.WideShapes Go.Deep Go.Joins
set_option linter.unusedVariables false

/-- a tenant -/
structure TenV where
  key : Int
  quota : Int
  sets : List SetV
/-- a set as it lies in a row -/
structure Stv where
  nm : ByteArray
  fo : Option Addr
  fn : Nat
  fc : Nat
  so : Option Addr
  sn : Nat
  sc : Nat
/-- a tenant as it lies in a row -/
structure Tnv where
  key : Int
  quota : Int
  ao : Option Addr
  n : Nat
  cap : Nat
section
variable {H : Type} {enc : TypeId × Value → H} {w : World} {base : Nat} {spare : Nat → Bool} {held : Bool}

instance : Inhabited SetV := ⟨⟨⟨#[]⟩, [], []⟩⟩
instance : Inhabited TenV := ⟨⟨0, 0, []⟩⟩

end
end Go.Proofs.Ytfmgdjgedhnmeaa

namespace Go.Proofs.Ytfmgdjgedhnmeaa
open Go.RowKit
set_option linter.unusedVariables false

end Go.Proofs.Ytfmgdjgedhnmeaa

namespace Go.Proofs.Ytfmgdjgedhnmeaa
open Go.RowKit
set_option linter.unusedVariables false

end Go.Proofs.Ytfmgdjgedhnmeaa

namespace Go.Proofs.Ytfmgdjgedhnmeaa
open Go.RowKit
set_option linter.unusedVariables false

end Go.Proofs.Ytfmgdjgedhnmeaa

namespace Go.Proofs.Ytfmgdjgedhnmeaa
open Go.RowKit
set_option linter.unusedVariables false
set_option linter.unusedSimpArgs false

section
variable {α β : Type}
variable {R S : α → β → Prop}
end

end Go.Proofs.Ytfmgdjgedhnmeaa

namespace Go.Proofs.Ytfmgdjgedhnmeaa
open Go.RowKit
set_option linter.unusedVariables false
set_option linter.unusedSimpArgs false

end Go.Proofs.Ytfmgdjgedhnmeaa

namespace Go.Proofs.Ytfmgdjgedhnmeaa
open Go.RowKit
set_option linter.unusedVariables false
set_option linter.unusedSimpArgs false

end Go.Proofs.Ytfmgdjgedhnmeaa

namespace Go.Proofs.Ytfmgdjgedhnmeaa
open Go.RowKit
set_option linter.unusedVariables false
set_option linter.unusedSimpArgs false

theorem put_err {s : List Blk} {l : Int} {ks bs : List Int} (h : formE s 1 l ks bs = 0) : (putR s l ks bs).2.2 = 0 ∨ (putR s l ks bs).2.2 = 8 := by
  unfold putR
  rw [if_neg (by simp [h])]
  split
  · exact .inr rfl
  · exact .inl rfl

/-- there is no room, at worst -/
theorem set_err : ∀ (m : Nat) (s : List Blk) (root : Int) (i : Nat) (b : List Int) (M : Int), m ≤ 3 → Good s M → 1 ≤ M → M + 4 * m ≤ 800000000 → RootAt s m root → i < p4n m → Byt b → (b.length = 0 ∨ b.length = 4) →
    (setF m s root i b).2.2 = 0 ∨ (setF m s root i b).2.2 = 8 := by
  intro m
  induction m with
  | zero =>
    intro s root i b M _ hg hM hM2 hr hi hb hb4
    unfold setF
    split
    · exact .inl rfl
    · rename_i hne
      have h4 : b.length = 4 := by
        rcases hb4 with h | h
        · exact absurd (List.eq_nil_of_length_eq_zero h) hne
        · exact h
      exact put_err (formE_leaf s 1 b (by omega) (by omega) h4)
  | succ m ih =>
    intro s root i b M hm hg hM hM2 hr hi hb hb4
    obtain ⟨h4, hkr⟩ := kids0_ok hg hr
    have hps := p4n_succ m (by omega)
    have hpp := p4n_pos m
    have hd4 : i / p4n m < 4 := div_lt4 hpp (by omega)
    have hge : (kids0 s root)[i / p4n m]?.getD 0 = (kids0 s root)[i / p4n m]'(by omega) := by rw [List.getElem?_eq_getElem (by omega)]; rfl
    have hky := hkr _ (List.getElem_mem (show i / p4n m < (kids0 s root).length by omega))
    have hih := ih s ((kids0 s root)[i / p4n m]?.getD 0) (i % p4n m) b M (by omega) hg hM (by omega) (by rw [hge]; exact hky) (Nat.mod_lt _ hpp) hb hb4
    unfold setF
    split
    · rename_i h
      rcases hih with e | e
      · exact absurd e h
      · exact .inr e
    · rename_i h
      have h0 : (setF m s ((kids0 s root)[i / p4n m]?.getD 0) (i % p4n m) b).2.2 = 0 := by simpa using h
      obtain ⟨g1, g2, g3⟩ := set_good m s _ (i % p4n m) b M (by omega) hg hM (by omega) (by rw [hge]; exact hky) (Nat.mod_lt _ hpp) hb (by omega) h0
      clear hih
      generalize setF m s ((kids0 s root)[i / p4n m]?.getD 0) (i % p4n m) b = r at *
      split
      · exact .inl rfl
      · rename_i hz
        refine put_err (formE_node r.1 1 ((m : Int) + 1) _ (by omega) (by omega) (by omega) (by omega) (by rw [List.length_set]; exact h4) ?_ ?_)
        · rw [List.all_eq_true]
          intro k hk
          have hrk : RootAt r.1 m k := by
            rcases List.mem_or_eq_of_mem_set hk with e | e
            · exact g3.root (hkr k e)
            · rw [e]; exact g2
          rcases hrk with e | ⟨e1, e2⟩
          · simp [kidOk, e]
          · simp only [kidOk, e1, Bool.true_and, Bool.or_eq_true, decide_eq_true_eq]
            exact .inr (by omega)
        · simpa using hz

end Go.Proofs.Ytfmgdjgedhnmeaa

namespace Go.Proofs.Ytfmgdjgedhnmeaa
open Go.RowKit
set_option linter.unusedVariables false
set_option linter.unusedSimpArgs false

end Go.Proofs.Ytfmgdjgedhnmeaa

namespace Go.Proofs.Ytfmgdjgedhnmeaa
open Go.RowKit
set_option linter.unusedVariables false
set_option linter.unusedSimpArgs false

end Go.Proofs.Ytfmgdjgedhnmeaa

namespace Go.Proofs.Ytfmgdjgedhnmeaa
open Go.RowKit
set_option linter.unusedVariables false
set_option linter.unusedSimpArgs false

/-- what is there when a set's roots are gone -/
theorem under_base {s : List Blk} {key : Int} {x : SetV} (hw : WfS s) (hf : ∀ y ∈ s, y.refs ≤ 999000) (hR : RightX s key x) (hh : heldE s x = 0) : BaseOk (lessL s (rootsL x)) s ∧ SHold (lessL s (rootsL x)) s s key x 0 3 := by
  have hg := Good.few_ofM hR.chk hw hf
  have hrt : ∀ r ∈ rootsL x, RootAt s 3 r := fun r hr => by
    rcases List.mem_append.1 hr with h1 | h1
    · obtain ⟨e, he, rfl⟩ := List.mem_map.1 h1
      exact file_root (hR.all e (List.mem_append.2 (.inl he)))
    · obtain ⟨y, hy, h2⟩ := List.mem_flatMap.1 h1
      obtain ⟨e, he, rfl⟩ := List.mem_map.1 h2
      exact file_root (hR.all e (List.mem_append.2 (.inr (List.mem_flatMap.2 ⟨y, hy, he⟩))))
  have hlow : ∀ a ∈ rootsL x, Low s 4 a := fun a ha => by
    rcases hrt a ha with h0 | ⟨h1, h2⟩
    · exact .inl h0
    · obtain ⟨i, hi, e, -⟩ := there_in h1
      exact .inr ⟨by omega, by omega, by omega⟩
  have hle := (held_iff hR).1 hh
  have hL : LooseOut s (lessL s (rootsL x)) (rootsL x) := looseOut_fold 4 (looseOut 4) (rootsL x) s [] hg.lv.1 hg.live hlow fun j hj => by simpa using hle j hj
  have hlen := hL.sub.len
  have hnn : ∀ j, j < s.length → 0 ≤ outA (lessL s (rootsL x)) j := fun j hj => by
    rw [hL.out j hj]
    have := hle j hj
    omega
  have hgc := good_sub hg hL.sub hnn
  have hkp := sub_keeps hL.sub hgc
  refine ⟨⟨sub_check s _ hR.chk hL.sub hnn, hgc.wf, hg, hlen.symm, fun j hj => by rw [hL.out j (by omega)]; omega⟩, ⟨hg.weaken (by omega), hlen.symm, hkp, fun j hj => by rw [hL.out j (by omega)]; omega, hrt⟩, hR, liveB s, [], ?_, Nat.le_refl 0, rootsOf_live hrt, fun i hi => ?_⟩
  · have h1 := old_self hg
    refine ⟨h1.live, fun i hi hp => h1.base i hi ?_, h1.closed⟩
    have h2 := (hkp _ (atB_live (by omega) hp)).1
    obtain ⟨q, hq, e, hpos⟩ := there_pos h2
    obtain rfl : q = i := by omega
    exact hpos
  · obtain ⟨h1, h2, h3, -⟩ := newL_mem.1 hi
    unfold liveB at h3
    simp [h1, h2] at h3

end Go.Proofs.Ytfmgdjgedhnmeaa

namespace Go.Proofs.Ytfmgdjgedhnmeaa
open Go.RowKit
set_option linter.unusedVariables false
set_option linter.unusedSimpArgs false

end Go.Proofs.Ytfmgdjgedhnmeaa

namespace Go.Proofs.Ytfmgdjgedhnmeaa
open Go.RowKit
set_option linter.unusedVariables false
set_option linter.unusedSimpArgs false

/-- all but some blocks is as it was -/
structure Kept (bad : Nat → Prop) (w w' : World) : Prop where
  os : w'.os = w.os
  tape : w'.tape = w.tape
  output : w'.output = w.output
  size : w.heap.size ≤ w'.heap.size
  block : ∀ b, b < w.heap.size → ¬ bad b → w'.heap[b]? = w.heap[b]?
theorem Kept.refl (bad : Nat → Prop) (w : World) : Kept bad w w := ⟨rfl, rfl, rfl, Nat.le_refl _, fun _ _ _ => rfl⟩
theorem Kept.of {bad : Nat → Prop} {w w2 : World} (h : Below w.heap.size w w2) : Kept bad w w2 := ⟨h.os, h.tape, h.output, h.size, fun b hl _ => h.block b hl⟩
theorem Kept.set {bad : Nat → Prop} {w w2 : World} (h : Kept bad w w2) {g j : Nat} (hg : w.heap.size ≤ g ∨ bad g) (v : Value) : Kept bad w (w2.setCell ⟨g, j, none⟩ v) :=
  ⟨h.os, h.tape, h.output, by have := h.size; simpa using this, fun b hl hb => (Below.heap_setCell _ _ _ _ (fun e => by
    have e : b = g := e
    rcases hg with hg | hg
    · omega
    · exact hb (by rw [e]; exact hg))).trans (h.block b hl hb)⟩
theorem Kept.below {bad : Nat → Prop} {w w2 : World} (h : Kept bad w w2) {K : Nat} (hK : K ≤ w.heap.size) (hb : ∀ b, b < K → ¬ bad b) : Below K w w2 := ⟨h.os, h.tape, h.output, h.size, fun b hl => h.block b (Nat.lt_of_lt_of_le hl hK) (hb b hl)⟩
section
variable {w w2 : World} {W : Nat} {B B2 : Nat → Prop} {ao : Option Addr} {n cap : Nat} {t : TenV}
end

section
variable {w0 w w2 : World} {K W : Nat} {B : Nat → Prop} {ao : Option Addr} {n cap i : Nat} {l : List TenV} {vs : List Tnv}
end
end Go.Proofs.Ytfmgdjgedhnmeaa
