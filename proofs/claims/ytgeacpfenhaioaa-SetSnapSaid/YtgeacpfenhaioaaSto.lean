/- Regions that draw their order, whose callees may make memory of their own: one walk of the text's order, if what each operation yields does not depend on new memory. · Stores as lists of blocks: what a store reads as, and what is asked of one. No program in sight. · The store's small functions: what they compute. -/
import Derived.Test.YtgeacpfenhaioaaBase
import Derived.Test.YtgeacpfenhaioaaSlices
namespace Go.Proofs.Ytgeacpfenhaioaa
open Go.RowKit
set_option linter.unusedVariables false

open Classical in
/-- x, if it is w with new memory; else w itself -/
noncomputable def mix (w x : World) : World := if Below w.heap.size w x then x else w

theorem mix_below (w x : World) : Below w.heap.size w (mix w x) := by
  unfold mix
  split
  · assumption
  · exact Below.refl _ _

theorem mix_of {w x : World} (h : Below w.heap.size w x) : mix w x = x := by
  unfold mix
  rw [if_pos h]

@[go_sem] theorem mix_cell (w x : World) (b o : Nat) (h : b < w.heap.size) : (mix w x).cell? ⟨b, o, none⟩ = w.cell? ⟨b, o, none⟩ := (bcell (mix_below w x)).1 b o h

@[go_sem] theorem mix_lt (w x : World) (b : Nat) (h : b < w.heap.size) : (b < (mix w x).heap.size) = True := by
  have := (mix_below w x).size
  simp; omega

/-- a callee that makes memory of its own alone -/
theorem calls_mix {P : Program} {f : FuncId} {args : Array Value} {w n : World} {v : Value} (h : Calls P f args (mix w n) fun e w' => e = .returned v ∧ Below (mix w n).heap.size (mix w n) w') :
    Calls P f args (mix w n) fun e w'' => e = .returned v ∧ ∃ x, w'' = mix w x :=
  h.mono fun _ w' ⟨he, hb⟩ => ⟨he, w', (mix_of (below_step (mix_below w n) hb)).symm⟩

theorem wp_region_mix {P : Program} {id : Nat} {Q : Exit → Act → World → Prop} {a : Act} {w : World} {l : List Oper} (hm : P.follows .mixedOrders = true) (hB : Region.lexB .any l.toArray = true)
    (h : wpQuiet P l.toArray (fun w' => ∃ x, w' = mix w x) (fun a' => ∀ w', Below w.heap.size w w' → Q .normal a' w') l a) : (Code.region id l.toArray true).wp P Q a w := by
  have hd : Below w.heap.size w { w with drawn := w.drawn + 1 } := ⟨rfl, rfl, rfl, Nat.le_refl _, fun _ _ => rfl⟩
  refine wp_region_quiet (C := fun w' => ∃ x, w' = mix w x) hm hB ⟨{ w with drawn := w.drawn + 1 }, (mix_of hd).symm⟩ ?_
  have e : (fun a' => ∀ w', (∃ x, w' = mix w x) → Q .normal a' w') = (fun a' => ∀ w', Below w.heap.size w w' → Q .normal a' w') := by
    funext a'
    refine propext ⟨fun h w' hb => h w' ⟨w', (mix_of hb).symm⟩, fun h w' ⟨x, hx⟩ => ?_⟩
    subst hx
    exact h _ (mix_below w x)
  rw [e]
  simpa using h
end Go.Proofs.Ytgeacpfenhaioaa

namespace Go.Proofs.Ytgeacpfenhaioaa
open Go.RowKit
set_option linter.unusedVariables false

structure Blk where
  refs : Int
  level : Int
  kids : List Int
  bytes : List Int
  deriving DecidableEq

def noBlk : Blk := ⟨0, 0, [], []⟩

/-- the block at an address -/
def blk (s : List Blk) (a : Int) : Blk := (s[(a - 1).toNat]?).getD noBlk

/-- is there a block? -/
def thereB (s : List Blk) (a : Int) : Bool := decide (1 ≤ a) && (decide (a ≤ s.length) && decide (0 < (blk s a).refs))

theorem blk_at (s : List Blk) (k : Nat) (h : k < s.length) : blk s ((k : Int) + 1) = s[k] := by
  unfold blk
  rw [show ((k : Int) + 1 - 1).toNat = k from by omega]
  simp [h]

theorem there_at (s : List Blk) (k : Nat) (h : k < s.length) : thereB s ((k : Int) + 1) = decide (0 < s[k].refs) := by
  unfold thereB
  rw [blk_at s k h, decide_eq_true (show (1 : Int) ≤ k + 1 by omega), decide_eq_true (show (k : Int) + 1 ≤ s.length by omega)]
  simp

theorem there_low (s : List Blk) (a : Int) (h : a < 1) : thereB s a = false := by
  unfold thereB
  rw [decide_eq_false (show ¬ 1 ≤ a by omega)]
  rfl

theorem there_high (s : List Blk) (a : Int) (h : (s.length : Int) < a) : thereB s a = false := by
  unfold thereB
  rw [decide_eq_false (show ¬ a ≤ s.length by omega)]
  simp

theorem there_in {s : List Blk} {a : Int} (h : thereB s a = true) : ∃ k : Nat, k < s.length ∧ a = k + 1 ∧ 0 < (s[k]?.getD noBlk).refs := by
  unfold thereB at h
  simp only [Bool.and_eq_true, decide_eq_true_eq] at h
  refine ⟨(a - 1).toNat, by omega, by omega, h.2.2⟩

def I64 (x : Int) : Prop := -9223372036854775808 ≤ x ∧ x ≤ 9223372036854775807

/-- a block's numbers fit their kinds; its lists are no longer than memory -/
structure WfB (x : Blk) : Prop where
  refs : I64 x.refs
  level : I64 x.level
  kids : ∀ k ∈ x.kids, I64 k
  bytes : Byt x.bytes
  klen : x.kids.length ≤ 17592186044416
  blen : x.bytes.length ≤ 140737488351232

def Capd (ao : Option Addr) (n cap : Nat) : Prop := n ≤ cap ∧ (ao = none → cap = 0)

/-- a slice of integers, as a value -/
def Sl (k : IntKind) (w : World) (v : Value) (xs : List Int) : Prop := ∃ ao cap, v = .slice ao xs.length cap ∧ Row k w ao xs ∧ Capd ao xs.length cap

theorem Sl.mono {k : IntKind} {w w' : World} {v : Value} {xs : List Int} (h : Sl k w v xs) (hb : Below w.heap.size w w') : Sl k w' v xs := by
  obtain ⟨ao, cap, hv, hr, hc⟩ := h
  exact ⟨ao, cap, hv, hr.mono hb, hc⟩

theorem Own.sl {k : IntKind} {e base : Nat} {w : World} {v : Value} {xs : List Int} (h : Own k e base w v xs) : Sl k w v xs := by
  obtain ⟨ao, cap, hv, hl, _, hr, h0⟩ := h.shape'
  exact ⟨ao, cap, hv, hr, hl, h0⟩

/-- a block lies there -/
structure BlkAt (w : World) (b o : Nat) (x : Blk) : Prop where
  refs : w.cell? ⟨b, o, none⟩ = some (.int .i64 x.refs)
  level : w.cell? ⟨b, o + 1, none⟩ = some (.int .i64 x.level)
  kids : ∃ v, w.cell? ⟨b, o + 2, none⟩ = some v ∧ Sl .i64 w v x.kids
  bytes : ∃ v, w.cell? ⟨b, o + 3, none⟩ = some v ∧ Sl .u8 w v x.bytes

theorem BlkAt.lt {w : World} {b o : Nat} {x : Blk} (h : BlkAt w b o x) : b < w.heap.size := World.block_lt_of_cell? _ _ h.refs

theorem BlkAt.mono {w w' : World} {b o : Nat} {x : Blk} (h : BlkAt w b o x) (hb : Below w.heap.size w w') : BlkAt w' b o x := by
  have hc := (bcell hb).1 b
  have hl := h.lt
  obtain ⟨v, h1, h2⟩ := h.kids
  obtain ⟨u, h3, h4⟩ := h.bytes
  exact ⟨(hc _ hl).trans h.refs, (hc _ hl).trans h.level, ⟨v, (hc _ hl).trans h1, h2.mono hb⟩, ⟨u, (hc _ hl).trans h3, h4.mono hb⟩⟩

/-- a store's blocks lie there -/
def StoRow (w : World) (ao : Option Addr) (s : List Blk) : Prop := s = [] ∨ ∃ b o, ao = some ⟨b, o, none⟩ ∧ ∀ i (h : i < s.length), BlkAt w b (o + i * 4) s[i]

theorem StoRow.at {w : World} {ao : Option Addr} {s : List Blk} (h : StoRow w ao s) (i : Nat) (hi : i < s.length) : ∃ b o, ao = some ⟨b, o, none⟩ ∧ ∀ i (h : i < s.length), BlkAt w b (o + i * 4) s[i] := by
  rcases h with rfl | h
  · simp at hi
  · exact h

theorem StoRow.mono {w w' : World} {ao : Option Addr} {s : List Blk} (h : StoRow w ao s) (hb : Below w.heap.size w w') : StoRow w' ao s := by
  rcases h with rfl | ⟨b, o, rfl, h⟩
  · exact .inl rfl
  · exact .inr ⟨b, o, rfl, fun i hi => (h i hi).mono hb⟩

def WfS (s : List Blk) : Prop := ∀ x ∈ s, WfB x

theorem WfS.at {s : List Blk} (h : WfS s) (i : Nat) (hi : i < s.length) : WfB s[i] := h _ (List.getElem_mem hi)

theorem Sl.at {k : IntKind} {w : World} {ao : Option Addr} {n cap : Nat} {xs : List Int} (h : Sl k w (.slice ao n cap) xs) : n = xs.length ∧ Row k w ao xs ∧ Capd ao xs.length cap := by
  obtain ⟨ao', cap', hv, hr, hc⟩ := h
  simp only [Value.slice.injEq] at hv
  obtain ⟨rfl, rfl, rfl⟩ := hv
  exact ⟨rfl, hr, hc⟩

/-- what is wrong with a block by itself -/
def kidOk (s : List Blk) (l k : Int) : Bool := decide (k = 0) || (thereB s k && decide ((blk s k).level = l - 1))
def formE (s : List Blk) (r l : Int) (ks bs : List Int) : Int :=
  if r = 0 then (if l ≠ 0 ∨ 0 < ks.length + bs.length then 4 else 0)
  else if r < 0 ∨ 1000000 < r ∨ l < 0 ∨ 3 < l then 3
  else if l = 0 then (if 0 < ks.length ∨ bs.length ≠ 4 then 4 else 0)
  else if ks.length ≠ 4 ∨ 0 < bs.length then 4
  else if ks.all (kidOk s l) = false then 5
  else if ks.all (fun k => decide (k = 0)) then 4 else 0

def formB (s : List Blk) (x : Blk) : Int := formE s x.refs x.level x.kids x.bytes

/-- how often an address stands among the kids of all -/
def kidsOf (s : List Blk) : List Int := s.flatMap Blk.kids
def belowN (s : List Blk) (i : Nat) : Int := ((kidsOf s).count ((i : Int) + 1) : Nat)
def belowL (s : List Blk) : List Int := (List.range s.length).map (belowN s)
def outL (s : List Blk) : List Int := (List.range s.length).map fun i => (s[i]?.getD noBlk).refs - belowN s i

/-- the first error among the blocks -/
def formsE (s : List Blk) : List Blk → Int
  | [] => 0
  | x :: l => if formB s x = 0 then formsE s l else formB s x

def checkE (s : List Blk) : Int :=
  if 400 < s.length then 2
  else if formsE s s ≠ 0 then formsE s s
  else if (outL s).any (fun n => decide (n < 0)) then 7 else 0
end Go.Proofs.Ytgeacpfenhaioaa

namespace Go.Proofs.Ytgeacpfenhaioaa
open Go.RowKit
set_option linter.unusedVariables false

theorem there_any (w : World) (ao : Option Addr) (n cap : Nat) (s : List Blk) (a : Int) (hn : s.length = n) (hs : n ≤ 1152921504606846976) (hr : StoRow w ao s) :
    Calls Try.prog 107 #[.agg #[.slice ao n cap], .int .i64 a] w fun e w' => e = .returned (.bool (thereB s a)) ∧ Below w.heap.size w w' := by
  subst hn
  rcases (show a < 1 ∨ (1 ≤ a ∧ (s.length : Int) < a) ∨ (1 ≤ a ∧ a ≤ s.length) from by omega) with h | ⟨h1, h2⟩ | ⟨h1, h2⟩
  · have ht := Lib.hid (there_low s a h)
    go_enter Try.func107, Try.ntmps107
    go_wp2
    go_ret
    exact ⟨ret_bool ht.out.symm, (Below.refl _ _).alloc (Nat.le_refl _) _⟩
  · have ht := Lib.hid (there_high s a h2)
    go_enter Try.func107, Try.ntmps107
    go_wp2
    go_ret
    exact ⟨ret_bool ht.out.symm, (Below.refl _ _).alloc (Nat.le_refl _) _⟩
  · obtain ⟨k, rfl⟩ : ∃ k : Nat, a = k + 1 := ⟨(a - 1).toNat, by omega⟩
    have hk : k < s.length := by omega
    have ht := Lib.hid (there_at s k hk)
    obtain ⟨b, o, rfl, hb⟩ := hr.at k hk
    have hc := (hb k hk).refs
    have hl := (hb k hk).lt
    clear hr hb
    go_enter Try.func107, Try.ntmps107
    go_wp2
    go_ret
    exact ⟨ret_bool ht.out.symm, (Below.refl _ _).alloc (Nat.le_refl _) _⟩

theorem there_any_is (w : World) (ao : Option Addr) (n cap : Nat) (s : List Blk) (a : Int) (v : Bool) (hv : thereB s a = v) (hn : s.length = n) (hs : n ≤ 1152921504606846976) (hr : StoRow w ao s) :
    Calls Try.prog 107 #[.agg #[.slice ao n cap], .int .i64 a] w fun e w' => e = .returned (.bool v) ∧ Below w.heap.size w w' := by
  subst hv
  exact there_any w ao n cap s a hn hs hr

end Go.Proofs.Ytgeacpfenhaioaa
