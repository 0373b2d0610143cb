/- What set.Do answers. No program in sight. · What set.Do, Clone and Destroy leave, and how the results are laid. No walk. · set.at's snaps: one is forgotten, or gone back to. · set.Do does what is asked of a set. · What set.Look, Clone and Destroy answer; a row of texts; an answer in memory. No walk. · A region that draws its order: it reads, makes one call, and takes that call's answer apart: one walk. · set.Look looks at a set. · rookerylaw.gathered: a closed fact. -/
import Derived.Deep.CutBlock
import Derived.StillTail
import Derived.StillTactics
import Derived.KernelRfl
import Derived.Test.YtfmgdjgedhnmeaaFileOver
import Derived.Test.YtfmgdjgedhnmeaaSnapsP
import Derived.Test.YtfmgdjgedhnmeaaWrite
import Derived.Test.YtfmgdjgedhnmeaaFileFacts
import Derived.Test.YtfmgdjgedhnmeaaAtDo
import Derived.Test.YtfmgdjgedhnmeaaFileWrite
import Derived.Test.YtfmgdjgedhnmeaaFiled
namespace Go.Proofs.Ytfmgdjgedhnmeaa
open Go.RowKit
set_option linter.unusedVariables false

def noSet : SetV := ⟨⟨#[]⟩, [], []⟩
/-- a set's answer, with an error nothing; wr: what write does -/
def askR (wr : List Blk → Int → List Ent → AskV → List Blk × List Ent × Int) (s : List Blk) (key : Int) (x : SetV) (a : AskV) : List Blk × SetV × Int :=
  if a.kind = 3 ∨ a.kind = 4 then ((wr s key x.files a).1, { x with files := (wr s key x.files a).2.1 }, (wr s key x.files a).2.2)
  else if a.kind = 5 ∨ a.kind = 6 then ((moveR s x.files a).1, { x with files := (moveR s x.files a).2.1 }, (moveR s x.files a).2.2)
  else if a.kind = 7 ∨ a.kind = 8 ∨ a.kind = 9 then snapsR s x a else (s, x, 4)
def doR (wr : List Blk → Int → List Ent → AskV → List Blk × List Ent × Int) (s : List Blk) (key : Int) (x : SetV) (a : AskV) : List Blk × SetV × Int :=
  if setE s key x ≠ 0 then ([], noSet, setE s key x) else if heldE s x ≠ 0 then ([], noSet, heldE s x)
  else if (askR wr s key x a).2.2 ≠ 0 then ([], noSet, (askR wr s key x a).2.2) else askR wr s key x a
end Go.Proofs.Ytfmgdjgedhnmeaa

namespace Go.Proofs.Ytfmgdjgedhnmeaa
open Go.RowKit
set_option linter.unusedVariables false

theorem noInt {w : World} {p : Nat} (h : ∀ o k x, w.cell? ⟨p, o, none⟩ ≠ some (.int k x)) : NoKid w p ∧ NoEnt w p := ⟨⟨fun o x y z hx _ _ => h _ _ _ hx, fun o x => h _ _ _⟩, fun j q x y _ hx _ => h _ _ _ hx⟩
theorem one_noInt {w : World} {p t l c : Nat} {a : Option Addr} (hp : w.heap[p]? = some (.cells #[.slice a l c] t (0, 0))) : NoKid w p ∧ NoEnt w p := noInt fun o k x hx => by
  rw [cell_of_block hp] at hx
  rcases (show o = 0 ∨ 1 ≤ o from by omega) with rfl | e
  · simp at hx
  · rw [Array.getElem?_eq_none (by simp; omega)] at hx; cases hx
theorem set_noInt {w : World} {p t fn fc sn sc : Nat} {nm : ByteArray} {fo so : Option Addr} (hp : w.heap[p]? = some (.cells #[.string nm, .slice fo fn fc, .slice so sn sc] t (0, 0))) : NoKid w p ∧ NoEnt w p := noInt fun o k x hx => by
  rw [cell_of_block hp] at hx
  rcases (show o = 0 ∨ o = 1 ∨ o = 2 ∨ 3 ≤ o from by omega) with rfl | rfl | rfl | e
  · simp at hx
  · simp at hx
  · simp at hx
  · rw [Array.getElem?_eq_none (by simp; omega)] at hx; cases hx

/-- a box ahead of it all is written -/
theorem AtIn.low {w w' : World} {B P base bx : Nat} {key : Int} {ao : Option Addr} {n cap : Nat} {s : List Blk} {fo : Option Addr} {fn fc : Nat} {so : Option Addr} {sn sc : Nat} {x : SetV} {vs : List Snv} {p : Nat} (h : AtIn w B P base bx key ao n cap s fo fn fc so sn sc x vs) (hk : NoKid w p ∧ NoEnt w p)
    (hp : p < base) (hpP : p ≠ P) (hkeep : ∀ b, b ≠ p → w'.heap[b]? = w.heap[b]?) (hs : w'.heap.size = w.heap.size) : AtIn w' B P base bx key ao n cap s fo fn fc so sn sc x vs := by
  have hP := h.hP
  have hB := h.hB
  refine ⟨(hkeep B (by omega)).trans h.abox, (hkeep P (Ne.symm hpP)).trans h.sbox, ownSto_off h.own h.kid4 hk.1 (fun g h1 h2 => by have := (h.own.own_at h1 h2).le; omega) (fun b hb _ => hkeep b hb), OwnXb.off h.ox (.inl hk.2) (fun e => by have := (h.fge p e).1; omega) (fun e => by have := (h.sge p e).1; omega) (by rw [hs]; exact Nat.le_refl _) (fun b hb _ => hkeep b hb), h.slen, h.n4, h.kid4, h.hP, h.hPx, h.hB, by rw [hs]; exact h.hbx, h.row, h.fB, h.sB⟩

/-- the results are written -/
def putW (X : World) (k2 k3 : Nat) (v u0 u1 u2 : Value) : World := (((X.setCell ⟨k2, 0, none⟩ v).setCell ⟨k3, 0, none⟩ u0).setCell ⟨k3, 1, none⟩ u1).setCell ⟨k3, 2, none⟩ u2
theorem put_set {X : World} {k2 k3 t2 t3 l c fn fc sn sc : Nat} {x0 fo so : Option Addr} {nm : ByteArray} (p3 : X.heap[k2]? = some (.cells #[.slice x0 l c] t2 (0, 0))) (p4 : X.heap[k3]? = some (.cells #[.string nm, .slice fo fn fc, .slice so sn sc] t3 (0, 0))) (h23 : k2 ≠ k3) (v u0 u1 u2 : Value) :
    (putW X k2 k3 v u0 u1 u2).heap[k2]? = some (.cells #[v] t2 (0, 0)) ∧ (putW X k2 k3 v u0 u1 u2).heap[k3]? = some (.cells #[u0, u1, u2] t3 (0, 0)) ∧ (∀ B w0, Below B w0 X → B ≤ k2 → B ≤ k3 → Below B w0 (putW X k2 k3 v u0 u1 u2)) ∧
    (∀ (B P base bx : Nat) (key : Int) (ao : Option Addr) (n cap : Nat) (s : List Blk) (fo : Option Addr) (fn fc : Nat) (so : Option Addr) (sn sc : Nat) (x : SetV) (vs : List Snv), AtIn X B P base bx key ao n cap s fo fn fc so sn sc x vs → k2 < base → k3 < base → k2 ≠ P → k3 ≠ P → AtIn (putW X k2 k3 v u0 u1 u2) B P base bx key ao n cap s fo fn fc so sn sc x vs) := by
  have q3 := one_setCell (u := v) p3
  have q4 : (X.setCell ⟨k2, 0, none⟩ v).heap[k3]? = _ := heap_setCell_ne p4 (Ne.symm h23)
  have r0 := heap_setCell_same' q4 0 u0
  have r1 := heap_setCell_same' r0 1 u1
  have r2 := heap_setCell_same' r1 2 u2
  simp only [List.setIfInBounds_toArray, List.set_cons_zero, List.set_cons_succ] at r2
  have hne : ∀ b, b ≠ k3 → (putW X k2 k3 v u0 u1 u2).heap[b]? = (X.setCell ⟨k2, 0, none⟩ v).heap[b]? := fun b hb => ((Below.heap_setCell _ _ _ _ hb).trans (Below.heap_setCell _ _ _ _ hb)).trans (Below.heap_setCell _ _ _ _ hb)
  refine ⟨(hne k2 h23).trans q3, r2, fun B w0 h h1 h2 => ?_, fun B P base bx key ao n cap s fo fn fc so sn sc x vs h h1 h2 h3 h4 => ?_⟩
  · exact (((h.setCell (p := ⟨k2, 0, none⟩) h1 _).setCell (p := ⟨k3, 0, none⟩) h2 _).setCell (p := ⟨k3, 1, none⟩) h2 _).setCell (p := ⟨k3, 2, none⟩) h2 _
  · have hA1 := h.low (w' := X.setCell ⟨k2, 0, none⟩ v) (one_noInt p3) h1 h3 (fun b hb => Below.heap_setCell _ _ _ _ hb) (by simp)
    exact hA1.low (set_noInt q4) h2 h4 hne (by simp [putW])

/-- a set in memory of its own hangs on nothing else -/
theorem OwnX.since {w w' : World} {base : Nat} {fo : Option Addr} {fn fc : Nat} {so : Option Addr} {sn sc : Nat} {x : SetV} {vs : List Snv} (h : OwnX w base fo fn fc so sn sc x vs) (hk : ∀ b, base ≤ b → b < w.heap.size → w'.heap[b]? = w.heap[b]?) (hs : w.heap.size ≤ w'.heap.size) : OwnX w' base fo fn fc so sn sc x vs := by
  have hf : ∀ g, fo = some ⟨g, 0, none⟩ → base ≤ g := fun g hg => by have := h.files; rw [hg] at this; exact this.ge.1
  have hso : ∀ g, so = some ⟨g, 0, none⟩ → base ≤ g := fun g hg => by have := h.snaps; rw [hg] at this; exact this.ge.1
  refine ⟨h.vlen, h.files.other fun g hg hl => hk g (hf g hg) hl, h.snaps.other fun g hg hl => hk g (hso g hg) hl, h.apart, fun i h1 h2 => ?_⟩
  obtain ⟨i1, i2, i3, i4⟩ := h.each i h1 h2
  exact ⟨i1, i2, i3.keep hs (fun b hb hl => hk b (Nat.le_of_not_lt fun h3 => hb (.inl h3)) hl), i4⟩
/-- a set that hangs on what lies from a place on alone -/
def SetFrom (K : Nat) (w : World) (fo : Option Addr) (fn fc : Nat) (so : Option Addr) (sn sc : Nat) (x : SetV) : Prop :=
  SetIn w fo fn fc so sn sc x ∧ ∀ w', w.heap.size ≤ w'.heap.size → (∀ b, K ≤ b → b < w.heap.size → w'.heap[b]? = w.heap[b]?) → SetIn w' fo fn fc so sn sc x
theorem SetFrom.go {K : Nat} {w w' : World} {fo : Option Addr} {fn fc : Nat} {so : Option Addr} {sn sc : Nat} {x : SetV} (h : SetFrom K w fo fn fc so sn sc x) (hs : w.heap.size ≤ w'.heap.size) (hk : ∀ b, K ≤ b → b < w.heap.size → w'.heap[b]? = w.heap[b]?) : SetFrom K w' fo fn fc so sn sc x :=
  ⟨h.2 w' hs hk, fun w2 h1 h2 => h.2 w2 (Nat.le_trans hs h1) fun b hb hl => (h2 b hb (Nat.lt_of_lt_of_le hl hs)).trans (hk b hb hl)⟩
theorem SetFrom.mono {K : Nat} {w w' : World} {fo : Option Addr} {fn fc : Nat} {so : Option Addr} {sn sc : Nat} {x : SetV} (h : SetFrom K w fo fn fc so sn sc x) (hb : Below w.heap.size w w') : SetFrom K w' fo fn fc so sn sc x := h.go hb.size fun b _ hl => hb.block b hl
theorem SetFrom.weaken {K K' : Nat} {w : World} {fo : Option Addr} {fn fc : Nat} {so : Option Addr} {sn sc : Nat} {x : SetV} (h : SetFrom K w fo fn fc so sn sc x) (hK : K' ≤ K) : SetFrom K' w fo fn fc so sn sc x :=
  ⟨h.1, fun w2 h1 h2 => h.2 w2 h1 fun b hb hl => h2 b (Nat.le_trans hK hb) hl⟩
theorem OwnX.from_ {w : World} {base K : Nat} {fo : Option Addr} {fn fc : Nat} {so : Option Addr} {sn sc : Nat} {x : SetV} {vs : List Snv} (h : OwnX w base fo fn fc so sn sc x vs) (hK : K ≤ base) : SetFrom K w fo fn fc so sn sc x :=
  ⟨OwnXb.is h, fun w2 h1 h2 => OwnXb.is (h.since (fun b hb hl => h2 b (Nat.le_trans hK hb) hl) h1)⟩
/-- a block without numbers is written -/
theorem sto_off {w w' : World} {p : Nat} {ao : Option Addr} {s : List Blk} (h : StoRow w ao s) (hp : ∀ o k x, w.cell? ⟨p, o, none⟩ ≠ some (.int k x)) (hk : ∀ b, b ≠ p → w'.heap[b]? = w.heap[b]?) : StoRow w' ao s := by
  have hrow : ∀ (k : IntKind) ao xs, Row k w ao xs → Row k w' ao xs := fun k ao xs hr => by
    rcases Nat.eq_zero_or_pos xs.length with h0 | h0
    · exact .inl (List.eq_nil_of_length_eq_zero h0)
    · obtain ⟨b, o, rfl, hc⟩ := hr.at 0 h0
      have hne : b ≠ p := by
        rintro rfl
        exact hp _ _ _ (hc 0 h0)
      exact .inr ⟨b, o, rfl, fun i hi => (World.cell?_of_block (a := ⟨b, o + i, none⟩) (hk b hne)).trans (hc i hi)⟩
  have hsl : ∀ (k : IntKind) v xs, Sl k w v xs → Sl k w' v xs := fun k v xs ⟨ao, cap, hv, hr, hc⟩ => ⟨ao, cap, hv, hrow k ao xs hr, hc⟩
  rcases h with rfl | ⟨b, o, rfl, h⟩
  · exact .inl rfl
  · refine .inr ⟨b, o, rfl, fun i hi => ?_⟩
    have hB := h i hi
    have hne : b ≠ p := by
      rintro rfl
      exact hp _ _ _ hB.refs
    have hc : ∀ j, w'.cell? ⟨b, j, none⟩ = w.cell? ⟨b, j, none⟩ := fun j => World.cell?_of_block (a := ⟨b, j, none⟩) (hk b hne)
    obtain ⟨v, h1, h2⟩ := hB.kids
    obtain ⟨u, h3, h4⟩ := hB.bytes
    exact ⟨(hc _).trans hB.refs, (hc _).trans hB.level, ⟨v, (hc _).trans h1, hsl _ _ _ h2⟩, ⟨u, (hc _).trans h3, hsl _ _ _ h4⟩⟩
/-- a store's and a set's box are written: another store stays -/
theorem put_sto {X : World} {k2 k3 t2 t3 l c fn fc sn sc : Nat} {x0 fo so : Option Addr} {nm : ByteArray} (p3 : X.heap[k2]? = some (.cells #[.slice x0 l c] t2 (0, 0))) (p4 : X.heap[k3]? = some (.cells #[.string nm, .slice fo fn fc, .slice so sn sc] t3 (0, 0))) (h23 : k2 ≠ k3) (v u0 u1 u2 : Value) {ao : Option Addr} {s : List Blk} (h : StoRow X ao s) :
    StoRow (putW X k2 k3 v u0 u1 u2) ao s := by
  have q4 : (X.setCell ⟨k2, 0, none⟩ v).heap[k3]? = _ := heap_setCell_ne p4 (Ne.symm h23)
  have h1 := sto_off (w' := X.setCell ⟨k2, 0, none⟩ v) h (fun o k x hx => by
    rw [cell_of_block p3] at hx
    rcases (show o = 0 ∨ 1 ≤ o from by omega) with rfl | e
    · simp at hx
    · rw [Array.getElem?_eq_none (by simp; omega)] at hx; cases hx) (fun b hb => Below.heap_setCell _ _ _ _ hb)
  exact sto_off (p := k3) h1 (fun o k x hx => by
    rw [cell_of_block q4] at hx
    rcases (show o = 0 ∨ o = 1 ∨ o = 2 ∨ 3 ≤ o from by omega) with rfl | rfl | rfl | e
    · simp at hx
    · simp at hx
    · simp at hx
    · rw [Array.getElem?_eq_none (by simp; omega)] at hx; cases hx) (fun b hb => ((Below.heap_setCell _ _ _ _ hb).trans (Below.heap_setCell _ _ _ _ hb)).trans (Below.heap_setCell _ _ _ _ hb))
theorem put_other {X : World} {k2 k3 : Nat} {v u0 u1 u2 : Value} (b : Nat) (h2 : b ≠ k2) (h3 : b ≠ k3) : (putW X k2 k3 v u0 u1 u2).heap[b]? = X.heap[b]? :=
  (((Below.heap_setCell _ _ _ _ h3).trans (Below.heap_setCell _ _ _ _ h3)).trans (Below.heap_setCell _ _ _ _ h3)).trans (Below.heap_setCell _ _ _ _ h2)
theorem put_size {X : World} {k2 k3 : Nat} {v u0 u1 u2 : Value} : (putW X k2 k3 v u0 u1 u2).heap.size = X.heap.size := by simp [putW]

/-- a store whose row lies from a place on -/
def StoAt (K : Nat) (w : World) (ao : Option Addr) (s : List Blk) : Prop := StoRow w ao s ∧ ∀ g o, ao = some ⟨g, o, none⟩ → s ≠ [] → K ≤ g
/-- what Do answers -/
def DoEnd (e : Ending) (w w' : World) (r : List Blk × SetV × Int) : Prop :=
  ∃ (ao : Option Addr) (n cap : Nat) (fo : Option Addr) (fn fc : Nat) (so : Option Addr) (sn sc : Nat), e = .returned (.tuple #[.agg #[.slice ao n cap], .agg #[.string r.2.1.nm, .slice fo fn fc, .slice so sn sc], .int .i64 r.2.2]) ∧ Below w.heap.size w w' ∧ r.1.length = n ∧ StoAt w.heap.size w' ao r.1 ∧ Capd ao n cap ∧ SetFrom w.heap.size w' fo fn fc so sn sc r.2.1
theorem noSet_in (w : World) : SetIn w none 0 0 none 0 0 noSet := ⟨rfl, rfl, .inl rfl, ⟨[], rfl, .inl rfl, fun i h => absurd h (by simp)⟩, ⟨Nat.le_refl _, fun _ => rfl⟩, ⟨Nat.le_refl _, fun _ => rfl⟩⟩
theorem doEnd_bad {w w' : World} {ce : Int} (hb : Below w.heap.size w w') : DoEnd (.returned (.tuple #[.agg #[.slice none 0 0], .agg #[.string ⟨#[]⟩, .slice none 0 0, .slice none 0 0], .int .i64 ce])) w w' ([], noSet, ce) :=
  ⟨none, 0, 0, none, 0, 0, none, 0, 0, rfl, hb, rfl, ⟨.inl rfl, fun _ _ _ h => absurd rfl h⟩, ⟨Nat.le_refl _, fun _ => rfl⟩, noSet_in w', fun w2 _ _ => noSet_in w2⟩

theorem OwnSto.read {w : World} {base n cap : Nat} {ao : Option Addr} {s : List Blk} (h : OwnSto w base (.slice ao n cap) s) : s.length = n ∧ StoRow w ao s ∧ Capd ao n cap := by
  obtain ⟨a', c', h1, h2, h3⟩ := h.sto
  simp only [Value.slice.injEq] at h1
  obtain ⟨rfl, rfl, rfl⟩ := h1
  exact ⟨rfl, h3, h2⟩
theorem OwnSto.from_ {w : World} {base n cap : Nat} {ao : Option Addr} {s : List Blk} (h : OwnSto w base (.slice ao n cap) s) : ∀ g o, ao = some ⟨g, o, Option.none⟩ → s ≠ [] → base ≤ g := by
  obtain ⟨ao', cap', e1, -, h⟩ := h
  simp only [Value.slice.injEq] at e1
  obtain ⟨rfl, -, -⟩ := e1
  intro g o e hs
  rcases h with h | ⟨g', e2, hr⟩
  · exact absurd h hs
  · rw [e2] at e
    simp only [Option.some.injEq, Addr.mk.injEq] at e
    have := hr.le
    omega

theorem five_allocs (w : World) (a b c d f : Obj) :
    Below w.heap.size w (((((w.alloc a).alloc b).alloc c).alloc d).alloc f) ∧ (((((w.alloc a).alloc b).alloc c).alloc d).alloc f).heap[w.heap.size]? = some a ∧ (((((w.alloc a).alloc b).alloc c).alloc d).alloc f).heap[w.heap.size + 1]? = some b ∧ (((((w.alloc a).alloc b).alloc c).alloc d).alloc f).heap[w.heap.size + 1 + 1]? = some c ∧
      (((((w.alloc a).alloc b).alloc c).alloc d).alloc f).heap[w.heap.size + 1 + 1 + 1]? = some d ∧ (((((w.alloc a).alloc b).alloc c).alloc d).alloc f).heap[w.heap.size + 1 + 1 + 1 + 1]? = some f ∧ (((((w.alloc a).alloc b).alloc c).alloc d).alloc f).heap.size = w.heap.size + 5 := by
  obtain ⟨h0, h1, h2, h3, h4, h5⟩ := four_allocs w a b c d
  refine ⟨h0.alloc (by omega) _, ?_, ?_, ?_, ?_, ?_, by simp⟩
  · rw [Below.heap_alloc _ _ _ (by omega)]; exact h1
  · rw [Below.heap_alloc _ _ _ (by omega)]; exact h2
  · rw [Below.heap_alloc _ _ _ (by omega)]; exact h3
  · rw [Below.heap_alloc _ _ _ (by omega)]; exact h4
  · have := heap_alloc_new ((((w.alloc a).alloc b).alloc c).alloc d) f
    rw [h5] at this
    exact this

end Go.Proofs.Ytfmgdjgedhnmeaa

namespace Go.Proofs.Ytfmgdjgedhnmeaa
open Go.RowKit
set_option linter.unusedVariables false

theorem loose_len (f : Nat) : ∀ (s : List Blk) (a : Int), (looseF f s a).length = s.length := by
  induction f with
  | zero => intro s a; rfl
  | succ f ih =>
    intro s a
    unfold looseF
    split
    · rfl
    · split
      · exact addRef_length _ _ _
      · have h : ∀ (ks : List Int) (t : List Blk), (ks.foldl (looseF f) t).length = t.length := by
          intro ks
          induction ks with
          | nil => intro t; rfl
          | cons k ks ik => intro t; rw [List.foldl_cons, ik, ih]
        rw [h, List.length_set]
theorem lessL_len (s : List Blk) (ks : List Int) : (lessL s ks).length = s.length := by
  unfold lessL
  induction ks generalizing s with
  | nil => rfl
  | cons k ks ih => rw [List.foldl_cons, ih, loose_len]

section
variable {w w1 : World} {B P base bx : Nat} {key : Int} {ao : Option Addr} {n cap : Nat} {s : List Blk} {fo : Option Addr} {fn fc : Nat} {so : Option Addr} {sn sc : Nat} {x : SetV} {vs : List Snv} {p : Nat}
/-- the snaps' row goes shorter -/
theorem AtIn.goneS (h : AtIn w B P base bx key ao n cap s fo fn fc so sn sc x vs) (k : Nat) (ho : snvK.Own w1 bx (.slice so p sc) (vs.eraseIdx k)) (hb : Below bx w w1) (hk : ∀ b, b < w.heap.size → so ≠ some ⟨b, 0, none⟩ → w1.heap[b]? = w.heap[b]?) :
    AtIn (w1.setCell ⟨B, 4, none⟩ (.slice so p sc)) B P base bx key ao n cap s fo fn fc so p sc { x with snaps := x.snaps.eraseIdx k } (vs.eraseIdx k) := by
  have ab := (hk B (lt_heap h.abox) h.sB).trans h.abox
  have hb2 := heap_setCell_same' ab 4 (.slice so p sc)
  simp only [List.setIfInBounds_toArray, List.set_cons_zero, List.set_cons_succ] at hb2
  have hboth : Both (fun (u : Snv) (y : Snp) => u.nm = y.nm ∧ u.n = y.files.length ∧ EntFar (badX bx fo so) w1 u.ao y.files ∧ Capd u.ao u.n u.cap) vs x.snaps := by
    refine ⟨h.ox.vlen, fun i h1 h2 => ?_⟩
    obtain ⟨i1, i2, i3, i4⟩ := h.ox.each i h1 h2
    exact ⟨i1, i2, i3.keep hb.size fun b hb2 hl => hk b hl fun e => hb2 (.inr (.inr e)), i4⟩
  have he := Both.erase k hboth
  exact h.snapsRow (w1 := w1) hk hb.size ho (fun g hg => .inl hg) he.1 he.2 hb2 (fun b hb => Below.heap_setCell _ _ _ _ hb) (by simp)
/-- the files are others -/
theorem AtIn.filesNew (h : AtIn w B P base bx key ao n cap s fo fn fc so sn sc x vs) {a5 : Option Addr} {n5 c5 : Nat} {l : List Ent} (ho : entK.Own w1 w.heap.size (.slice a5 n5 c5) l) (hb : Below w.heap.size w w1) :
    AtIn (w1.setCell ⟨B, 3, none⟩ (.slice a5 n5 c5)) B P base bx key ao n cap s a5 n5 c5 so sn sc { x with files := l } vs := by
  have ab := (hb.block B (lt_heap h.abox)).trans h.abox
  have hb2 := heap_setCell_same' ab 3 (.slice a5 n5 c5)
  simp only [List.setIfInBounds_toArray, List.set_cons_zero, List.set_cons_succ] at hb2
  exact h.files (w1 := w1) (fun b hl _ => hb.block b hl) hb.size (ho.weaken h.hbx) (fun g hg => .inr (by subst hg; exact ho.ge.1)) hb2 (fun b hb => Below.heap_setCell _ _ _ _ hb) (by simp)
end

set_option maxRecDepth 100000 in
set_option maxHeartbeats 16000000 in
theorem snap_old (w : World) (B P base bx n cap fn fc sn sc bn bc : Nat) (key : Int) (ao fo so ba : Option Addr) (s : List Blk) (x : SetV) (vs : List Snv) (a : AskV) (hA : AtIn w B P base bx key ao n cap s fo fn fc so sn sc x vs) (hsm : SmallX x) (hrise : Rising (x.snaps.map Snp.nm))
    (hlv : Lv s) (hri : RefsIn s) (hlow : RootsLow s (rootsF x.files)) (hlows : ∀ y ∈ x.snaps, RootsLow s (rootsF y.files)) (hk7 : ¬ a.kind = 7) :
    Calls Try.prog 71 #[.pointer (some ⟨B, 0, none⟩), .agg #[.int .i64 a.kind, .string a.sname, .string a.file, .string a.dest, .int .i64 a.at_, .int .i64 a.n, .slice ba bn bc]] w fun e w' => e = .returned (.int .i64 (snapsR s x a).2.2) ∧ SnEnd w w' B P base bx key ao n cap (snapsR s x a) := by
  have hbase : base ≤ w.heap.size := by have := hA.hP; have := hA.hPx; have := hA.hbx; omega
  have hbxw := hA.hbx
  have hfgw := hA.fge
  have hsgw := hA.sge
  have hBw := lt_heap hA.abox
  have hfl := hA.ox.len.1
  have hsl := hA.ox.len.2
  have hf6 : fn ≤ 6 := by have := hsm.files; omega
  have hs3 : sn ≤ 3 := by have := hsm.snaps; omega
  have hf6' : (fn : Int) ≤ 6 := by omega
  have hs3' : (sn : Int) ≤ 3 := by omega
  obtain ⟨kind, aset, afile, ato, aat, an, abytes⟩ := a
  have hb0 : Below w.heap.size w (w.alloc (.cells #[.int .i64 kind, .string aset, .string afile, .string ato, .int .i64 aat, .int .i64 an, .slice ba bn bc] 67)) := (Below.refl _ _).alloc (Nat.le_refl _) _
  have q0 : (w.alloc (.cells #[.int .i64 kind, .string aset, .string afile, .string ato, .int .i64 aat, .int .i64 an, .slice ba bn bc] 67)).heap[w.heap.size]? = some (.cells #[.int .i64 kind, .string aset, .string afile, .string ato, .int .i64 aat, .int .i64 an, .slice ba bn bc] 67 (0, 0)) := heap_alloc_new _ _
  have hA1 := hA.mono hb0
  obtain ⟨RD, hRD⟩ : ∃ RD, snapsR s x ⟨kind, aset, afile, ato, aat, an, abytes⟩ = RD := ⟨_, rfl⟩
  rw [hRD]
  unfold snapsR at hRD
  simp only at hRD
  obtain ⟨PN, hPN⟩ : ∃ PN, placeN (x.snaps.map Snp.nm) ato = PN := ⟨_, rfl⟩
  obtain ⟨PB, hPB⟩ : ∃ PB, placeB (x.snaps.map Snp.nm) ato = PB := ⟨_, rfl⟩
  have hple : PN ≤ sn := by rw [← hPN, hsl]; have := placeN_le (x.snaps.map Snp.nm) ato; rwa [List.length_map] at this
  have hplt : PB = true → PN < sn := fun h => by rw [← hPN, hsl]; have := (placeB_lt (hPB.trans h)).1; rwa [List.length_map] at this
  have HPLT := Lib.hid hplt
  have HFL := Lib.hid hfl
  have HSL := Lib.hid hsl
  have HNM := Lib.hid hA.ox.names
  have HVL : Hid (vs.length = sn) := Lib.hid (hA.ox.vlen.trans hsl.symm)
  have HP1 := Lib.hid (fun (u : World) (hr : snvK.Row u so vs) => snap_any u x.nm fo so fn fc sn sc vs ato HVL.out (by omega) hr (by rw [HNM.out]; exact hrise))
  rw [HNM.out, hPN, hPB] at HP1
  rw [hPN, hPB] at hRD
  have HRD := Lib.hid hRD
  have HFGW := Lib.hid hfgw
  have HSGW := Lib.hid hsgw
  have HLOW := Lib.hid hlow
  have HLOWS := Lib.hid hlows
  have HLV := Lib.hid hlv
  have HRI := Lib.hid hri
  have HSM := Lib.hid hsm
  clear hRD hPN hPB hplt hfl hsl hrise hA hfgw hsgw hlow hlows hlv hri hsm HNM
  have hA1' := hA1
  go_enter Try.func71, Try.ntmps71
  go_wp2_with fail
  generalize w.alloc (Obj.cells #[Value.int IntKind.i64 kind, Value.string aset, Value.string afile, Value.string ato, Value.int IntKind.i64 aat, Value.int IntKind.i64 an, Value.slice ba bn bc] 67) = W0 at *
  refine (name_any _ _).mono ?_
  rintro e w' ⟨rfl, rfl⟩
  have hbw0 : Below base w w' := hb0.mono hbase
  cases hnb : nameB ato with
  | false =>
    have HR : Hid (RD = (s, x, 1)) := Lib.hid (HRD.out.symm.trans (if_pos hnb))
    clear hA1 hA1' HRD HP1
    go_wp2
    go_ret
    rw [HR.out]
    exact ⟨rfl, hbw0, fun h => by simp at h⟩
  | true =>
    have hR := HRD.out.symm
    rw [if_neg (by rw [hnb]; simp)] at hR
    have HR0 := Lib.hid hR
    clear hR HRD hA1'
    replace hnb := Lib.hid hnb
    have a2 := cell_of_block hA1.abox 2
    have a3 := cell_of_block hA1.abox 3
    have a4 := cell_of_block hA1.abox 4
    have k3 := cell_of_block q0 3
    simp only [List.getElem?_toArray, List.getElem?_cons_succ, List.getElem?_cons_zero] at a2 a3 a4 k3
    have lA := lt_heap hA1.abox
    have lK := lt_heap q0
    obtain ⟨sa, scc, hsv, hsr, -, -⟩ := hA1.ox.snaps.row
    simp only [Value.slice.injEq] at hsv
    obtain ⟨rfl, -, rfl⟩ := hsv
    have HPM := Lib.hid (fun v => HP1.out (mix w' v) (hsr.mono (mix_below _ _)))
    clear hsr HP1
    go_wp2_with fail
    refine wp_region_mix (by kernel_rfl) (by kernel_rfl) ?_
    repeat (go_big_quiet_step (first
      | (go_at_call 72; refine calls_mix (v := .tuple #[.int .i64 PN, .bool PB]) ?_; with_reducible exact HPM.out _)))
    refine wpQuiet_nil ?_
    intro w2 hb2
    have hA2 := hA1.mono hb2
    have q2 := (hb2.block _ (lt_heap q0)).trans q0
    have hbw2 : Below base w w2 := hbw0.trans (hb2.mono (by have := hA1.hP; have := hA1.hPx; have := hA1.hbx; omega))
    have hsz2 : w.heap.size < w2.heap.size := lt_heap q2
    clear a2 a3 a4 k3 lA lK HPM hA1 q0 hb2 hbw0 hb0
    have a0 := cell_of_block hA2.abox 0
    have a3 := cell_of_block hA2.abox 3
    have a4 := cell_of_block hA2.abox 4
    have k0 := cell_of_block q2 0
    have k3 := cell_of_block q2 3
    simp only [List.getElem?_toArray, List.getElem?_cons_succ, List.getElem?_cons_zero] at a0 a3 a4 k0 k3
    have lA := lt_heap hA2.abox
    have lK := lt_heap q2
    have h7 : ¬ kind = 7 := hk7
    have h7' : (kind == 7) = false := by rw [beq_eq_false_iff_ne]; exact h7
    have hR := HR0.out
    rw [if_neg h7] at hR
    clear hk7
    cases PB with
    | false =>
      have HR : Hid (RD = (s, x, 5)) := Lib.hid (hR.trans (if_pos rfl))
      clear hA2 HR0 hR
      go_wp2
      go_ret
      rw [HR.out]
      exact ⟨rfl, hbw2, fun h => by simp at h⟩
    | true =>
      rw [if_neg (by simp)] at hR
      have hlt := HPLT.out rfl
      have hkv : PN < vs.length := by have := HVL.out; omega
      have hkx : PN < x.snaps.length := by have := HSL.out; omega
      have hea : snpAt x.snaps PN = x.snaps[PN] := by unfold snpAt; rw [List.getElem?_eq_getElem hkx]; rfl
      rw [hea] at hR
      obtain ⟨gs, hgs, hgb, hgl, hgz, hE⟩ := hA2.ox.snapAt PN hkv
      obtain ⟨-, i2, -, i4⟩ := hA2.ox.each PN hkv hkx
      have hfar := hA2.snapFar PN hkv hkx
      have hlf := HLOWS.out _ (List.getElem_mem hkx)
      have h6 := HSM.out.each _ (List.getElem_mem hkx)
      have d0 := hE.nm
      have d1 := hE.sl
      obtain ⟨fls, hfls⟩ : ∃ fls, x.snaps[PN].files = fls := ⟨_, rfl⟩
      obtain ⟨u, hu⟩ : ∃ u, vs[PN] = u := ⟨_, rfl⟩
      rw [hfls] at hR i2 hfar hlf h6
      rw [hu] at d0 d1 i2 i4 hfar
      obtain ⟨unm, uo, un, uc⟩ := u
      simp only at d0 d1 i2 i4 hfar
      have HUN := Lib.hid i2
      have HUC := Lib.hid i4
      have HLF := Lib.hid hlf
      have hun6 : un ≤ 6 := by omega
      have hPN' : (PN : Int) < sn := by omega
      have hbase2 : base ≤ w2.heap.size := Nat.le_trans hbase (Nat.le_of_lt hsz2)
      subst hgs
      have HA2 := Lib.hid hA2
      have HQ2 := Lib.hid q2
      have hAD : Hid (∀ ks, RootsLow s ks → Adr s ks) := Lib.hid fun ks h => Adr.of hA2.slen (h.in_ hA2.slen)
      clear hfls hu hE i2 i4 hlf h6 hea HR0 HLOWS HSM
      by_cases h8 : kind = 8
      · rw [if_pos h8] at hR
        have HR := Lib.hid hR
        have h8' : (kind == 8) = true := by rw [beq_iff_eq]; exact h8
        subst h8
        clear hR hA2
        go_wp2_with fail
        have hA2 := HA2.out
        refine (keep_less w2 P base ao uo n cap un uc s fls 0 hA2.slen hA2.n4 hA2.sbox hA2.own hbase2 (fun g h1 h2 => Ne.symm (hA2.row g h1 h2).2) HLV.out (fun y hy => by have := HRI.out y hy; omega) (Int.le_refl _) (by omega) HUN.out.symm hun6 hfar HLF.out).mono ?_
        rintro e w3 ⟨rfl, hI3⟩
        have hA3 := hA2.store hI3 ((lessL_len _ _).trans hA2.slen) (hA2.kid4.less _)
        have hbw3 : Below base w w3 := hbw2.trans hI3.below
        have a4' := cell_of_block hA3.abox 4
        simp only [List.getElem?_toArray, List.getElem?_cons_succ, List.getElem?_cons_zero] at a4'
        have lA3 := lt_heap hA3.abox
        have e1 : sn - 1 + 1 = sn := by omega
        have hdel := delete_snvs w3 bx (some ⟨gs, 0, none⟩) (sn - 1) sc PN vs (by rw [HVL.out]; omega) (by omega) (by omega) (by rw [e1]; exact hA3.ox.snaps)
        rw [e1] at hdel
        have HDEL := Lib.hid hdel
        have HA3 := Lib.hid hA3
        clear hA2 HA2 hfar d0 d1 hI3 hdel a0 a3 a4 k0 k3 lA lK hA3
        go_wp2_with fail
        refine HDEL.out.mono ?_
        rintro e w4 ⟨rfl, ho4, hb4, hk4⟩
        have hA4 := HA3.out.goneS PN ho4 hb4 hk4
        have ab4 := (hk4 B lA3 HA3.out.sB).trans HA3.out.abox
        have y4 := cell_of_block ab4 4
        simp only [List.getElem?_toArray, List.getElem?_cons_succ, List.getElem?_cons_zero] at y4
        have yf := free_of_block ab4 4
        have y1 := lt_heap ab4
        have hFIN : Hid (AtEnd w (w4.setCell ⟨B, 4, none⟩ (.slice (some ⟨gs, 0, none⟩) (sn - 1) sc)) B P base bx key ao n cap (lessL s (rootsF fls)) x.nm x.files (x.snaps.eraseIdx PN) 0) := Lib.hid
          ⟨(hbw3.trans (hb4.mono (by have := HA3.out.hP; have := HA3.out.hPx; omega))).setCell (by show base ≤ B; have := HA3.out.hP; have := HA3.out.hPx; have := HA3.out.hB; omega) _, fun _ => ⟨_, _, _, _, _, _, _, hA4⟩⟩
        clear HA3 HDEL ho4 hb4 hk4 hA4 ab4 a4' lA3
        go_wp2
        go_ret
        rw [HR.out]
        exact ⟨rfl, hFIN.out⟩
      · rw [if_neg h8] at hR
        have HR := Lib.hid hR
        have h8' : (kind == 8) = false := by rw [beq_eq_false_iff_ne]; exact h8
        clear hR hA2
        go_wp2_with fail
        have hA2 := HA2.out
        refine (keep_more w2 P base ao uo n cap un uc s fls hA2.slen hA2.n4 hA2.sbox hA2.own hbase2 (fun g h1 h2 => Ne.symm (hA2.row g h1 h2).2) (fun y hy => by have := HRI.out y hy; omega) HUN.out.symm hun6 hfar (HLF.out.in_ hA2.slen)).mono ?_
        rintro e w3 ⟨rfl, hI3⟩
        have hA3 := hA2.store hI3 ((bump_length _ _).trans hA2.slen) (hA2.kid4.bump _)
        have hbw3 : Below base w w3 := hbw2.trans hI3.below
        have her3 := hfar.keep hI3.below.size (fun b hb hl => hI3.frame b hl (fun g h1 h2 h3 => hb ⟨h1, by rw [h3]; exact h2⟩))
        have her3d := her3.keep (w' := w3.drew) (Nat.le_refl _) (fun _ _ _ => rfl)
        have HER := Lib.hid her3d
        have HA3 := Lib.hid (hA3.mono (Below.refl w3.heap.size w3).drew)
        have HB3 : Hid (Below base w w3.drew) := Lib.hid hbw3.drew
        have a0' := cell_of_block hA3.abox 0
        have a3' := cell_of_block hA3.abox 3
        simp only [List.getElem?_toArray, List.getElem?_cons_succ, List.getElem?_cons_zero] at a0' a3'
        have lA3 := lt_heap hA3.abox
        clear hA2 HA2 hfar d0 d1 hI3 her3 her3d hA3 hbw3 a0 a3 a4 k0 k3 lA lK hbw2 q2 HQ2
        go_wp2_with fail
        go_still_tail 9, (by kernel_rfl)
        change wpList _ _ _ _ _ w3.drew
        clear a0' a3' lA3
        generalize w3.drew = w4 at *
        go_wp2_with fail
        have hA4 := HA3.out
        refine (keep_less w4 P base ao fo n cap fn fc (bump s (rootsF fls)) x.files 0 hA4.slen hA4.n4 hA4.sbox hA4.own (Nat.le_trans hbase HB3.out.size) (fun g h1 h2 => Ne.symm (hA4.row g h1 h2).2) (HLV.out.bump _) (refsL_bump HRI.out _ (hAD.out _ HLF.out) (by rw [rootsF_len]; have := HUN.out; omega)) (Int.le_refl _) (by omega) HFL.out.symm hf6 hA4.filesFar HLOW.out.bump).mono ?_
        rintro e w5 ⟨rfl, hI5⟩
        have hA5 := hA4.store hI5 ((lessL_len _ _).trans hA4.slen) (hA4.kid4.less _)
        have hbw5 : Below base w w5 := HB3.out.trans hI5.below
        have hnn : s ≠ [] ↔ bump s (rootsF fls) ≠ [] := by rw [← List.length_pos_iff, ← List.length_pos_iff, bump_length]
        have her5 := (HER.out.keep hI5.below.size (fun b hb hl => hI5.frame b hl (fun g h1 h2 h3 => hb ⟨hnn.2 h1, by rw [h3]; exact h2⟩))).row
        have HCL := Lib.hid (clone_ents w5 uo un uc fls HUN.out.symm her5 HUC.out (by omega))
        have a3' := cell_of_block hA5.abox 3
        simp only [List.getElem?_toArray, List.getElem?_cons_succ, List.getElem?_cons_zero] at a3'
        have HA5 := Lib.hid hA5
        clear hA4 HA3 HB3 hI5 hA5 her5 HER hnn
        go_wp2_with fail
        refine HCL.out.mono ?_
        rintro e w6 ⟨v6, rfl, ho6, hb6⟩
        obtain ⟨a6, c6, rfl, -, -, -⟩ := ho6.row
        have ab6 := (hb6.block B (lt_heap HA5.out.abox)).trans HA5.out.abox
        have y3 := cell_of_block ab6 3
        simp only [List.getElem?_toArray, List.getElem?_cons_succ, List.getElem?_cons_zero] at y3
        have yf := free_of_block ab6 3
        have y1 := lt_heap ab6
        have hA6 := HA5.out.filesNew ho6 hb6
        have hFIN : Hid (AtEnd w (w6.setCell ⟨B, 3, none⟩ (.slice a6 fls.length c6)) B P base bx key ao n cap (lessL (bump s (rootsF fls)) (rootsF x.files)) x.nm fls x.snaps 0) := Lib.hid
          ⟨(hbw5.trans (hb6.mono (by have := HA5.out.hP; have := HA5.out.hPx; have := HA5.out.hbx; omega))).setCell (by show base ≤ B; have := HA5.out.hP; have := HA5.out.hPx; have := HA5.out.hB; omega) _, fun _ => ⟨_, _, _, _, _, _, _, hA6⟩⟩
        clear HA5 HCL ho6 hb6 hA6 ab6 a3' hbw5
        go_wp2
        go_ret
        rw [HR.out]
        exact ⟨rfl, hFIN.out⟩
end Go.Proofs.Ytfmgdjgedhnmeaa

namespace Go.Proofs.Ytfmgdjgedhnmeaa
open Go.RowKit
set_option linter.unusedVariables false

set_option maxRecDepth 100000 in
set_option maxHeartbeats 16000000 in
theorem do_any (w : World) (ao fo so ba : Option Addr) (n cap fn fc sn sc bn bc : Nat) (s : List Blk) (key : Int) (x : SetV) (a : AskV) (hn : s.length = n) (h41 : n ≤ 2199023255552) (hs : StoRow w ao s) (hwf : WfS s) (hc : Capd ao n cap) (hx : SetIn w fo fn fc so sn sc x) (hwx : WfX x)
    (hbl : a.bytes.length = bn) (hbr : Row .u8 w ba a.bytes) (hbc : Capd ba bn bc) (hby : Byt a.bytes) (hb47 : bn ≤ 140737488351232) :
    Calls Try.prog 32 #[.agg #[.slice ao n cap], .int .i64 key, .agg #[.string x.nm, .slice fo fn fc, .slice so sn sc], .agg #[.int .i64 a.kind, .string a.sname, .string a.file, .string a.dest, .int .i64 a.at_, .int .i64 a.n, .slice ba bn bc]] w fun e w' => DoEnd e w w' (doR writeW s key x a) := by
  have HN := Lib.hid hn
  have HC := Lib.hid hc
  have HX0 := Lib.hid hx
  have HWX := Lib.hid hwx
  have HBL := Lib.hid hbl
  have HBC := Lib.hid hbc
  have HBY := Lib.hid hby
  obtain ⟨RD, hRD⟩ : ∃ RD, doR writeW s key x a = RD := ⟨_, rfl⟩
  rw [hRD]
  have HRD := Lib.hid hRD
  obtain ⟨kind, aset, afile, ato, aat, an, abytes⟩ := a
  simp only at hbl hbr hby
  obtain ⟨hb0, p0, p1, p2, p3, p4, hz5⟩ := five_allocs w (.cells #[.slice ao n cap] 24) (.cells #[.string x.nm, .slice fo fn fc, .slice so sn sc] 28) (.cells #[.int .i64 kind, .string aset, .string afile, .string ato, .int .i64 aat, .int .i64 an, .slice ba bn bc] 67) (.cells #[.slice none 0 0] 24) (.cells #[.string ⟨#[]⟩, .slice none 0 0, .slice none 0 0] 28)
  have HZ5 := Lib.hid hz5
  clear hn hc hx hwx hbl hbc hby hRD hz5
  go_enter Try.func32, Try.ntmps32
  go_wp2_with fail
  have hs := hs.mono hb0
  have hbr0 := hbr
  have hbr := hbr.mono hb0
  have HX := Lib.hid (HX0.out.mono hb0)
  generalize ((((w.alloc (Obj.cells #[Value.slice ao n cap] 24)).alloc (Obj.cells #[Value.string x.nm, Value.slice fo fn fc, Value.slice so sn sc] 28)).alloc (Obj.cells #[Value.int IntKind.i64 kind, Value.string aset, Value.string afile, Value.string ato, Value.int IntKind.i64 aat, Value.int IntKind.i64 an, Value.slice ba bn bc] 67)).alloc (Obj.cells #[Value.slice none 0 0] 24)).alloc (Obj.cells #[Value.string ⟨#[]⟩, Value.slice none 0 0, Value.slice none 0 0] 28) = W0 at *
  refine (setCheck_any _ _ _ _ _ _ _ _ _ _ s key x HN.out (by omega) hs hwf HX.out HWX.out).mono ?_
  rintro e w1 ⟨rfl, hb1⟩
  have p0 := (hb1.block _ (lt_heap p0)).trans p0
  have p1 := (hb1.block _ (lt_heap p1)).trans p1
  have p2 := (hb1.block _ (lt_heap p2)).trans p2
  have p3 := (hb1.block _ (lt_heap p3)).trans p3
  have p4 := (hb1.block _ (lt_heap p4)).trans p4
  have hs := hs.mono hb1
  have HX := Lib.hid (HX.out.mono hb1)
  have hbw := below_step hb0 hb1
  have c0 := cell_of_one p0
  have c10 := cell_of_block p1 0
  have c11 := cell_of_block p1 1
  have c12 := cell_of_block p1 2
  simp at c10 c11 c12
  have l0 := lt_heap p0
  have l1 := lt_heap p1
  have c3 := cell_of_one p3
  have f3 := free_of_one p3
  have c40 := cell_of_block p4 0
  have c41 := cell_of_block p4 1
  have c42 := cell_of_block p4 2
  simp at c40 c41 c42
  have f40 := free_of_block p4 0
  have f41 := free_of_block p4 1
  have f42 := free_of_block p4 2
  by_cases hce : setE s key x = 0
  rotate_left
  · have HR : Hid (RD = ([], noSet, setE s key x)) := Lib.hid (by rw [← HRD.out]; unfold doR; rw [if_pos hce])
    have he1 : (setE s key x != 0) = true := by rw [bne_iff_ne]; exact hce
    generalize setE s key x = ce at *
    clear hce hs hbr HX HX0 HWX hb1 hwf HRD
    obtain ⟨z3, z4, zb, -⟩ := put_set p3 p4 (by omega) (.slice none 0 0) (.string ⟨#[]⟩) (.slice none 0 0) (.slice none 0 0)
    have hbz := zb _ _ hbw (by omega) (by omega)
    unfold putW at z3 z4 hbz
    have v3 := cell_of_one z3
    have v40 := cell_of_block z4 0
    have v41 := cell_of_block z4 1
    have v42 := cell_of_block z4 2
    simp at v40 v41 v42
    go_wp2_with fail
    refine bodyPost_ret (v := .tuple #[.agg #[.slice none 0 0], .agg #[.string ⟨#[]⟩, .slice none 0 0, .slice none 0 0], .int .i64 ce]) (by simp [results, Try.results32, go_sem, v3, v40, v41, v42]) rfl ?_
    rw [HR.out]
    exact doEnd_bad hbz
  rw [hce]
  have HCE := Lib.hid hce
  go_wp2_with fail
  refine (held_any _ _ _ _ _ _ _ _ _ _ s key x HN.out hs hwf HX.out hce).mono ?_
  rintro e w2 ⟨rfl, hb2⟩
  clear c0 c10 c11 c12 l0 l1 c3 f3 c40 c41 c42 f40 f41 f42
  have p0 := (hb2.block _ (lt_heap p0)).trans p0
  have p1 := (hb2.block _ (lt_heap p1)).trans p1
  have p2 := (hb2.block _ (lt_heap p2)).trans p2
  have p3 := (hb2.block _ (lt_heap p3)).trans p3
  have p4 := (hb2.block _ (lt_heap p4)).trans p4
  have hs := hs.mono hb2
  have hbw := below_step hbw hb2
  have c0 := cell_of_one p0
  have c10 := cell_of_block p1 0
  have c11 := cell_of_block p1 1
  have c12 := cell_of_block p1 2
  simp at c10 c11 c12
  have l0 := lt_heap p0
  have l1 := lt_heap p1
  have c3 := cell_of_one p3
  have f3 := free_of_one p3
  have c40 := cell_of_block p4 0
  have c41 := cell_of_block p4 1
  have c42 := cell_of_block p4 2
  simp at c40 c41 c42
  have f40 := free_of_block p4 0
  have f41 := free_of_block p4 1
  have f42 := free_of_block p4 2
  by_cases hhe : heldE s x = 0
  rotate_left
  · have HR : Hid (RD = ([], noSet, heldE s x)) := Lib.hid (by rw [← HRD.out]; unfold doR; rw [if_neg (fun h => h HCE.out), if_pos hhe])
    have he1 : (heldE s x != 0) = true := by rw [bne_iff_ne]; exact hhe
    generalize heldE s x = ce at *
    clear hce hhe hs hbr HX HX0 HWX hb1 hb2 hwf HRD
    obtain ⟨z3, z4, zb, -⟩ := put_set p3 p4 (by omega) (.slice none 0 0) (.string ⟨#[]⟩) (.slice none 0 0) (.slice none 0 0)
    have hbz := zb _ _ hbw (by omega) (by omega)
    unfold putW at z3 z4 hbz
    have v3 := cell_of_one z3
    have v40 := cell_of_block z4 0
    have v41 := cell_of_block z4 1
    have v42 := cell_of_block z4 2
    simp at v40 v41 v42
    go_wp2_with fail
    refine bodyPost_ret (v := .tuple #[.agg #[.slice none 0 0], .agg #[.string ⟨#[]⟩, .slice none 0 0, .slice none 0 0], .int .i64 ce]) (by simp [results, Try.results32, go_sem, v3, v40, v41, v42]) rfl ?_
    rw [HR.out]
    exact doEnd_bad hbz
  rw [hhe]
  have hAR : RD = if (askR writeW s key x ⟨kind, aset, afile, ato, aat, an, abytes⟩).2.2 ≠ 0 then ([], noSet, (askR writeW s key x ⟨kind, aset, afile, ato, aat, an, abytes⟩).2.2) else askR writeW s key x ⟨kind, aset, afile, ato, aat, an, abytes⟩ := by rw [← HRD.out]; unfold doR; rw [if_neg (fun h => h hce), if_neg (fun h => h hhe)]
  have HAR := Lib.hid hAR
  have HRX := Lib.hid (setE_ok hce)
  have hz2 : w.heap.size + 5 ≤ w2.heap.size := by have h1 := hb1.size; have h2 := hb2.size; have h3 := HZ5.out; omega
  have HZW : Hid (w.heap.size ≤ w2.heap.size) := Lib.hid (by omega)
  clear hce hhe hAR HRD hb1 hb2 HX
  go_wp2_with fail
  refine (copy_any _ _ _ _ s HN.out hs hwf HC.out (by omega)).mono ?_
  rintro e w3 ⟨v, rfl, ho, hb3⟩
  clear c0 c10 c11 c12 l0 l1 c3 f3 c40 c41 c42 f40 f41 f42
  have p0 := (hb3.block _ (lt_heap p0)).trans p0
  have p1 := (hb3.block _ (lt_heap p1)).trans p1
  have p2 := (hb3.block _ (lt_heap p2)).trans p2
  have p3 := (hb3.block _ (lt_heap p3)).trans p3
  have p4 := (hb3.block _ (lt_heap p4)).trans p4
  have hbw3 := below_step hbw hb3
  have ho := ho.box p0 (by omega) v
  obtain ⟨a1, cap1, hv1, hc1, hr1⟩ := ho.sto
  rw [HN.out] at hv1 hc1
  subst hv1
  have c0 := cell_of_one p0
  have f0 := free_of_one p0
  have l0 := lt_heap p0
  have q0 := one_setCell (u := .slice a1 n cap1) p0
  have q1 : (w3.setCell ⟨w.heap.size, 0, none⟩ (.slice a1 n cap1)).heap[w.heap.size + 1]? = _ := heap_setCell_ne p1 (by simp)
  have q2 : (w3.setCell ⟨w.heap.size, 0, none⟩ (.slice a1 n cap1)).heap[w.heap.size + 1 + 1]? = _ := heap_setCell_ne p2 (by simp; omega)
  have q3 : (w3.setCell ⟨w.heap.size, 0, none⟩ (.slice a1 n cap1)).heap[w.heap.size + 1 + 1 + 1]? = _ := heap_setCell_ne p3 (by simp; omega)
  have q4 : (w3.setCell ⟨w.heap.size, 0, none⟩ (.slice a1 n cap1)).heap[w.heap.size + 1 + 1 + 1 + 1]? = _ := heap_setCell_ne p4 (by simp; omega)
  have hbw4 := hbw3.setCell (p := ⟨w.heap.size, 0, none⟩) (Nat.le_refl _) (.slice a1 n cap1)
  have hz4 : w2.heap.size ≤ (w3.setCell ⟨w.heap.size, 0, none⟩ (.slice a1 n cap1)).heap.size := by have := hb3.size; simpa using this
  have d0 := cell_of_block q1 0
  have d1 := cell_of_block q1 1
  have d2 := cell_of_block q1 2
  simp at d0 d1 d2
  have m1 := lt_heap q1
  clear hr1 hb3 p0 p1 p2 p3 p4 hs hbr hc1
  go_wp2_with fail
  generalize w3.setCell ⟨w.heap.size, 0, none⟩ (.slice a1 n cap1) = W4 at *
  refine (setCopy_any _ _ _ _ _ _ _ x (HX0.out.mono hbw4) HRX.out.small).mono ?_
  rintro e w5 ⟨fo2, fc2, so2, sc2, vs, rfl, hox, hb5⟩
  have q0 := (hb5.block _ (lt_heap q0)).trans q0
  have q1 := (hb5.block _ (lt_heap q1)).trans q1
  have q2 := (hb5.block _ (lt_heap q2)).trans q2
  have q3 := (hb5.block _ (lt_heap q3)).trans q3
  have q4 := (hb5.block _ (lt_heap q4)).trans q4
  have ho5 := ho.mono hb5
  have hb6 : Below w5.heap.size w5 (w5.alloc (.cells #[.pointer (some ⟨w.heap.size, 0, none⟩), .int .i64 key, .string x.nm, .slice fo2 fn fc2, .slice so2 sn sc2] 141)) := (Below.refl _ _).alloc (Nat.le_refl _) _
  have hn4 : n ≤ 400 := by have := (checkE_zero s HRX.out.chk).1; have := HN.out; omega
  have hA6 : AtIn (w5.alloc (.cells #[.pointer (some ⟨w.heap.size, 0, none⟩), .int .i64 key, .string x.nm, .slice fo2 fn fc2, .slice so2 sn sc2] 141)) w5.heap.size w.heap.size w2.heap.size W4.heap.size key a1 n cap1 s fo2 fn fc2 so2 sn sc2 x vs := by
    have hz5 := hb5.size
    have hz6 := hb6.size
    have hq0 := lt_heap q0
    refine ⟨heap_alloc_new w5 _, (hb6.block _ hq0).trans q0, ho5.mono hb6, OwnXb.mono hox hb6, HN.out, hn4, (Good.of_check HRX.out.chk hwf).kid4, hz4, by omega, hz5, by omega, fun g h1 h2 => ?_, fun e => ?_, fun e => ?_⟩
    · have h3 := ho.own_at h1 h2
      exact ⟨h3.lt, by have := h3.le; omega⟩
    · have h3 := hox.files
      rw [e] at h3
      have := h3.ge.2
      omega
    · have h3 := hox.snaps
      rw [e] at h3
      have := h3.ge.2
      omega
  have hbw6 := below_step (below_step hbw4 hb5) hb6
  have r2 := (hb6.block _ (lt_heap q2)).trans q2
  have r3 := (hb6.block _ (lt_heap q3)).trans q3
  have r4 := (hb6.block _ (lt_heap q4)).trans q4
  have k0 := cell_of_block q2 0
  simp only [List.getElem?_toArray, List.getElem?_cons_zero] at k0
  have lK := lt_heap q2
  have HZX : Hid (w.heap.size ≤ W4.heap.size) := Lib.hid hbw4.size
  clear hox hb5 ho ho5 q0 q1 q3 q4 d0 d1 d2 m1 c0 f0 l0 hb6
  go_upto_block 0 with fail
  generalize w5.alloc (Obj.cells #[Value.pointer (some ⟨w.heap.size, 0, none⟩), Value.int IntKind.i64 key, Value.string x.nm, Value.slice fo2 fn fc2, Value.slice so2 sn sc2] 141) = W6 at *
  have HA6 := Lib.hid hA6
  have HR2 := Lib.hid r2
  have HR3 := Lib.hid r3
  have HR4 := Lib.hid r4
  have HB6 := Lib.hid hbw6
  have HGD := Lib.hid (Good.of_check HRX.out.chk hwf)
  have HBR : Hid (Row .u8 W6 ba abytes) := Lib.hid (hbr0.mono hbw6)
  have hzb : w.heap.size + 5 ≤ w2.heap.size := hz2
  clear hA6 r3 r4 q2 k0 lK hbw6 hbw4 hbw3 hbw hbr0
  go_cut [14] from 41 to 59 (fun u wx => ∃ er t x7, u = .int .i64 er ∧ Hid (AtEnd W6 wx w5.heap.size w.heap.size w2.heap.size W4.heap.size key a1 n cap1 t x7.nm x7.files x7.snaps er) ∧ Hid (askR writeW s key x ⟨kind, aset, afile, ato, aat, an, abytes⟩ = (t, x7, er)))
  case first =>
    have k0 := cell_of_block HR2.out 0
    have k1 := cell_of_block HR2.out 1
    have k2 := cell_of_block HR2.out 2
    have k3 := cell_of_block HR2.out 3
    have k4 := cell_of_block HR2.out 4
    have k5 := cell_of_block HR2.out 5
    have k6 := cell_of_block HR2.out 6
    simp only [List.getElem?_toArray, List.getElem?_cons_succ, List.getElem?_cons_zero] at k0 k1 k2 k3 k4 k5 k6
    have lK := lt_heap HR2.out
    clear r2
    have HLV := Lib.hid HGD.out.lv.1
    have HRL := Lib.hid (HGD.out.refsL (by omega))
    have HLW := Lib.hid (HGD.out.low rfl (entsOk_roots HRX.out.files))
    have HRF := Lib.hid ((checkE_zero s HRX.out.chk).2.2.2.1)
    have HLWS : Hid (∀ y ∈ x.snaps, RootsLow s (rootsF y.files)) := Lib.hid fun y hy => HGD.out.low rfl (entsOk_roots (HRX.out.snaps y hy).2)
    have HF0 : Hid (fileE s key 0 0 = 0) := Lib.hid (file_empty HRX.out.chk HRX.out.kok).1
    rcases (show kind = 3 ∨ kind = 4 ∨ kind = 5 ∨ kind = 6 ∨ kind = 7 ∨ kind = 8 ∨ kind = 9 ∨ (kind ≠ 3 ∧ kind ≠ 4 ∧ kind ≠ 5 ∧ kind ≠ 6 ∧ kind ≠ 7 ∧ kind ≠ 8 ∧ kind ≠ 9) from by omega) with rfl | rfl | rfl | rfl | rfl | rfl | rfl | ⟨n3, n4, n5, n6, n7, n8, n9⟩
    · have HCL := Lib.hid (write_any2 _ _ _ _ _ _ _ _ _ _ _ bn bc key _ _ _ ba s x vs ⟨3, aset, afile, ato, aat, an, abytes⟩ HA6.out HRX.out.files.len HRX.out.files.rise hwf (fun y hy => (HRX.out.files.each y hy).2) HF0.out HBL.out HBR.out HBC.out HBY.out hb47)
      obtain ⟨WR, hWR⟩ : ∃ WR, writeW s key x.files ⟨3, aset, afile, ato, aat, an, abytes⟩ = WR := ⟨_, rfl⟩
      rw [hWR] at HCL
      have HWR := Lib.hid hWR
      clear hWR
      go_wp2_with fail
      refine HCL.out.mono ?_
      rintro e w7 ⟨rfl, hend⟩
      have HEND := Lib.hid hend
      clear hend k0 k1 k2 k3 k4 k5 k6 lK HCL
      go_wp2_with fail
      go_meet
      have h0 := HWR.out
      exact ⟨WR.2.2, WR.1, { x with files := WR.2.1 }, rfl, HEND, Lib.hid (by unfold askR; rw [if_pos (by simp), h0])⟩
    · have HCL := Lib.hid (write_any2 _ _ _ _ _ _ _ _ _ _ _ bn bc key _ _ _ ba s x vs ⟨4, aset, afile, ato, aat, an, abytes⟩ HA6.out HRX.out.files.len HRX.out.files.rise hwf (fun y hy => (HRX.out.files.each y hy).2) HF0.out HBL.out HBR.out HBC.out HBY.out hb47)
      obtain ⟨WR, hWR⟩ : ∃ WR, writeW s key x.files ⟨4, aset, afile, ato, aat, an, abytes⟩ = WR := ⟨_, rfl⟩
      rw [hWR] at HCL
      have HWR := Lib.hid hWR
      clear hWR
      go_wp2_with fail
      refine HCL.out.mono ?_
      rintro e w7 ⟨rfl, hend⟩
      have HEND := Lib.hid hend
      clear hend k0 k1 k2 k3 k4 k5 k6 lK HCL
      go_wp2_with fail
      go_meet
      have h0 := HWR.out
      exact ⟨WR.2.2, WR.1, { x with files := WR.2.1 }, rfl, HEND, Lib.hid (by unfold askR; rw [if_pos (by simp), h0])⟩
    · have HCL := Lib.hid (move_any _ _ _ _ _ _ _ _ _ _ _ bn bc key _ _ _ ba s x vs ⟨5, aset, afile, ato, aat, an, abytes⟩ HA6.out HRX.out.files.len HRX.out.files.rise HLV.out HRL.out HLW.out)
      obtain ⟨WR, hWR⟩ : ∃ WR, moveR s x.files ⟨5, aset, afile, ato, aat, an, abytes⟩ = WR := ⟨_, rfl⟩
      rw [hWR] at HCL
      have HWR := Lib.hid hWR
      clear hWR
      go_wp2_with fail
      refine HCL.out.mono ?_
      rintro e w7 ⟨rfl, hend⟩
      have HEND := Lib.hid hend
      clear hend k0 k1 k2 k3 k4 k5 k6 lK HCL
      go_wp2_with fail
      go_meet
      have h0 := HWR.out
      exact ⟨WR.2.2, WR.1, { x with files := WR.2.1 }, rfl, HEND, Lib.hid (by unfold askR; rw [if_neg (by simp), if_pos (by simp), h0])⟩
    · have HCL := Lib.hid (move_any _ _ _ _ _ _ _ _ _ _ _ bn bc key _ _ _ ba s x vs ⟨6, aset, afile, ato, aat, an, abytes⟩ HA6.out HRX.out.files.len HRX.out.files.rise HLV.out HRL.out HLW.out)
      obtain ⟨WR, hWR⟩ : ∃ WR, moveR s x.files ⟨6, aset, afile, ato, aat, an, abytes⟩ = WR := ⟨_, rfl⟩
      rw [hWR] at HCL
      have HWR := Lib.hid hWR
      clear hWR
      go_wp2_with fail
      refine HCL.out.mono ?_
      rintro e w7 ⟨rfl, hend⟩
      have HEND := Lib.hid hend
      clear hend k0 k1 k2 k3 k4 k5 k6 lK HCL
      go_wp2_with fail
      go_meet
      have h0 := HWR.out
      exact ⟨WR.2.2, WR.1, { x with files := WR.2.1 }, rfl, HEND, Lib.hid (by unfold askR; rw [if_neg (by simp), if_pos (by simp), h0])⟩
    · have HCL := Lib.hid (snap_new _ _ _ _ _ _ _ _ _ _ _ bn bc key _ _ _ ba s x vs ⟨7, aset, afile, ato, aat, an, abytes⟩ HA6.out HRX.out.small HRX.out.rise HLV.out HRF.out HLW.out HLWS.out (by simp))
      obtain ⟨WR, hWR⟩ : ∃ WR, snapsR s x ⟨7, aset, afile, ato, aat, an, abytes⟩ = WR := ⟨_, rfl⟩
      rw [hWR] at HCL
      have HWR := Lib.hid hWR
      clear hWR
      go_wp2_with fail
      refine HCL.out.mono ?_
      rintro e w7 ⟨rfl, hend⟩
      have HEND := Lib.hid hend
      clear hend k0 k1 k2 k3 k4 k5 k6 lK HCL
      go_wp2_with fail
      go_meet
      have h0 := HWR.out
      exact ⟨WR.2.2, WR.1, WR.2.1, rfl, HEND, Lib.hid (by unfold askR; rw [if_neg (by simp), if_neg (by simp), if_pos (by simp), h0])⟩
    · have HCL := Lib.hid (snap_old _ _ _ _ _ _ _ _ _ _ _ bn bc key _ _ _ ba s x vs ⟨8, aset, afile, ato, aat, an, abytes⟩ HA6.out HRX.out.small HRX.out.rise HLV.out HRF.out HLW.out HLWS.out (by simp))
      obtain ⟨WR, hWR⟩ : ∃ WR, snapsR s x ⟨8, aset, afile, ato, aat, an, abytes⟩ = WR := ⟨_, rfl⟩
      rw [hWR] at HCL
      have HWR := Lib.hid hWR
      clear hWR
      go_wp2_with fail
      refine HCL.out.mono ?_
      rintro e w7 ⟨rfl, hend⟩
      have HEND := Lib.hid hend
      clear hend k0 k1 k2 k3 k4 k5 k6 lK HCL
      go_wp2_with fail
      go_meet
      have h0 := HWR.out
      exact ⟨WR.2.2, WR.1, WR.2.1, rfl, HEND, Lib.hid (by unfold askR; rw [if_neg (by simp), if_neg (by simp), if_pos (by simp), h0])⟩
    · have HCL := Lib.hid (snap_old _ _ _ _ _ _ _ _ _ _ _ bn bc key _ _ _ ba s x vs ⟨9, aset, afile, ato, aat, an, abytes⟩ HA6.out HRX.out.small HRX.out.rise HLV.out HRF.out HLW.out HLWS.out (by simp))
      obtain ⟨WR, hWR⟩ : ∃ WR, snapsR s x ⟨9, aset, afile, ato, aat, an, abytes⟩ = WR := ⟨_, rfl⟩
      rw [hWR] at HCL
      have HWR := Lib.hid hWR
      clear hWR
      go_wp2_with fail
      refine HCL.out.mono ?_
      rintro e w7 ⟨rfl, hend⟩
      have HEND := Lib.hid hend
      clear hend k0 k1 k2 k3 k4 k5 k6 lK HCL
      go_wp2_with fail
      go_meet
      have h0 := HWR.out
      exact ⟨WR.2.2, WR.1, WR.2.1, rfl, HEND, Lib.hid (by unfold askR; rw [if_neg (by simp), if_neg (by simp), if_pos (by simp), h0])⟩
    · have m3 : (kind == 3) = false := by rw [beq_eq_false_iff_ne]; exact n3
      have m4 : (kind == 4) = false := by rw [beq_eq_false_iff_ne]; exact n4
      have m5 : (kind == 5) = false := by rw [beq_eq_false_iff_ne]; exact n5
      have m6 : (kind == 6) = false := by rw [beq_eq_false_iff_ne]; exact n6
      have m7 : (kind == 7) = false := by rw [beq_eq_false_iff_ne]; exact n7
      have m8 : (kind == 8) = false := by rw [beq_eq_false_iff_ne]; exact n8
      have m9 : (kind == 9) = false := by rw [beq_eq_false_iff_ne]; exact n9
      have HAK : Hid (askR writeW s key x ⟨kind, aset, afile, ato, aat, an, abytes⟩ = (s, x, 4)) := Lib.hid (by unfold askR; rw [if_neg (by simp only; omega), if_neg (by simp only; omega), if_neg (by simp only; omega)])
      clear n3 n4 n5 n6 n7 n8 n9
      go_wp2_with fail
      go_meet
      exact ⟨4, s, x, rfl, Lib.hid ⟨Below.refl _ _, fun h => by simp at h⟩, HAK⟩
  case rest =>
    clear r2
    obtain ⟨er, t, x7, rfl, hend, hask⟩ := hcut
    have hbw : Below w.heap.size w wc := HB6.out.trans (hend.out.1.mono (by omega))
    have p3 := (hend.out.1.block _ (by omega)).trans HR3.out
    have p4 := (hend.out.1.block _ (by omega)).trans HR4.out
    have c3 := cell_of_one p3
    have f3 := free_of_one p3
    have c40 := cell_of_block p4 0
    have c41 := cell_of_block p4 1
    have c42 := cell_of_block p4 2
    simp at c40 c41 c42
    have f40 := free_of_block p4 0
    have f41 := free_of_block p4 1
    have f42 := free_of_block p4 2
    by_cases he : er = 0
    rotate_left
    · have HR : Hid (RD = ([], noSet, er)) := Lib.hid (by rw [HAR.out, hask.out]; exact if_pos he)
      have he1 : (er != 0) = true := by rw [bne_iff_ne]; exact he
      clear hend hask he
      obtain ⟨z3, z4, zb, -⟩ := put_set p3 p4 (by omega) (.slice none 0 0) (.string ⟨#[]⟩) (.slice none 0 0) (.slice none 0 0)
      have hbz := zb _ _ hbw (by omega) (by omega)
      unfold putW at z3 z4 hbz
      have v3 := cell_of_one z3
      have v40 := cell_of_block z4 0
      have v41 := cell_of_block z4 1
      have v42 := cell_of_block z4 2
      simp at v40 v41 v42
      go_wp2_with fail
      refine bodyPost_ret (v := .tuple #[.agg #[.slice none 0 0], .agg #[.string ⟨#[]⟩, .slice none 0 0, .slice none 0 0], .int .i64 er]) (by simp [results, Try.results32, go_sem, v3, v40, v41, v42]) rfl ?_
      rw [HR.out]
      exact doEnd_bad hbz
    · subst he
      have HR : Hid (RD = (t, x7, 0)) := Lib.hid (by rw [HAR.out, hask.out]; exact if_neg (by simp))
      obtain ⟨-, hat⟩ := hend.out
      obtain ⟨fo7, fn7, fc7, so7, sn7, sc7, vs7, hA7⟩ := hat rfl
      obtain ⟨xn, xf, xs⟩ := x7
      simp only at hA7
      obtain ⟨z3, z4, zb, za⟩ := put_set p3 p4 (by omega) (.slice a1 n cap1) (.string xn) (.slice fo7 fn7 fc7) (.slice so7 sn7 sc7)
      have hbz := zb _ _ hbw (by omega) (by omega)
      have hA8 := za _ _ _ _ _ _ _ _ _ _ _ _ _ _ _ _ _ hA7 (by omega) (by omega) (by omega) (by omega)
      unfold putW at z3 z4 hbz hA8
      have a0 := cell_of_one hA7.sbox
      have b2 := cell_of_block hA7.abox 2
      have b3 := cell_of_block hA7.abox 3
      have b4 := cell_of_block hA7.abox 4
      simp only [List.getElem?_toArray, List.getElem?_cons_succ, List.getElem?_cons_zero] at b2 b3 b4
      have lA := lt_heap hA7.abox
      have lP := lt_heap hA7.sbox
      have v3 := cell_of_one z3
      have v40 := cell_of_block z4 0
      have v41 := cell_of_block z4 1
      have v42 := cell_of_block z4 2
      simp at v40 v41 v42
      have HA8 := Lib.hid hA8
      have HZB := Lib.hid hbz
      clear hend hask hat hA7 hA8 za zb hbz
      go_wp2_with fail
      go_region_with fail
      all_goals
        go_wp2_with fail
        refine bodyPost_ret (v := .tuple #[.agg #[.slice a1 n cap1], .agg #[.string xn, .slice fo7 fn7 fc7, .slice so7 sn7 sc7], .int .i64 0]) (by simp [results, Try.results32, go_sem, v3, v40, v41, v42]) rfl ?_
        rw [HR.out]
        have hA9 := HA8.out.mono (Below.refl _ _).drew
        obtain ⟨j1, j2, j3⟩ := hA9.own.read
        exact ⟨a1, n, cap1, fo7, fn7, fc7, so7, sn7, sc7, rfl, HZB.out.drew, j1, ⟨j2, fun g o e h => Nat.le_trans HZW.out (hA9.own.from_ g o e h)⟩, j3, OwnX.from_ hA9.ox HZX.out⟩
end Go.Proofs.Ytfmgdjgedhnmeaa

namespace Go.Proofs.Ytfmgdjgedhnmeaa
open Go.RowKit
set_option linter.unusedVariables false

def cloneR (s : List Blk) (key : Int) (x : SetV) (frm name : ByteArray) : List Blk × SetV × Int :=
  if setE s key x ≠ 0 then ([], noSet, setE s key x) else if heldE s x ≠ 0 then ([], noSet, heldE s x)
  else if nameB name = false then ([], noSet, 1) else if placeB (x.snaps.map Snp.nm) frm = false then ([], noSet, 5)
  else (bump s (rootsF (snpAt x.snaps (placeN (x.snaps.map Snp.nm) frm)).files), ⟨name, (snpAt x.snaps (placeN (x.snaps.map Snp.nm) frm)).files, []⟩, 0)
end Go.Proofs.Ytfmgdjgedhnmeaa

namespace Go.Proofs.Ytfmgdjgedhnmeaa
open Go
set_option linter.unusedVariables false

section
variable {P : Program} {md : Region.Mode} {w : World}

end
end Go.Proofs.Ytfmgdjgedhnmeaa

namespace Go.Proofs.Ytfmgdjgedhnmeaa
open Go.RowKit
set_option linter.unusedVariables false

end Go.Proofs.Ytfmgdjgedhnmeaa

namespace Go.Proofs.Ytfmgdjgedhnmeaa
open Go.RowKit
set_option linter.unusedVariables false

end Go.Proofs.Ytfmgdjgedhnmeaa
