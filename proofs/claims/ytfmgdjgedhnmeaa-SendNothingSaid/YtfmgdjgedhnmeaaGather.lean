/- What set.Do answers. No program in sight. · What set.Do, Clone and Destroy leave, and how the results are laid. No walk. · set.at's snaps: one is forgotten, or gone back to. · set.Do does what is asked of a set. · What set.Look, Clone and Destroy answer; a row of texts; an answer in memory. No walk. · A region that draws its order: it reads, makes one call, and takes that call's answer apart: one walk. · set.Look looks at a set. · rookerylaw.gathered: a closed fact. -/
import Derived.Deep.CutBlock
import Derived.StillTail
import Derived.StillTactics
import Derived.KernelRfl
import Derived.Test.YtfmgdjgedhnmeaaFileOver
import Derived.Test.YtfmgdjgedhnmeaaSnapsP
import Derived.Test.YtfmgdjgedhnmeaaWrite
import Derived.Test.YtfmgdjgedhnmeaaFileFacts
import Derived.Test.YtfmgdjgedhnmeaaAtDo
import Derived.Test.YtfmgdjgedhnmeaaSnapNew
import Derived.Test.YtfmgdjgedhnmeaaFileWrite
import Derived.Test.YtfmgdjgedhnmeaaFiled
namespace Go.Proofs.Ytfmgdjgedhnmeaa
open Go.RowKit
set_option linter.unusedVariables false

def noSet : SetV := ⟨⟨#[]⟩, [], []⟩
/-- a set's answer, with an error nothing; wr: what write does -/
def askR (wr : List Blk → Int → List Ent → AskV → List Blk × List Ent × Int) (s : List Blk) (key : Int) (x : SetV) (a : AskV) : List Blk × SetV × Int :=
  if a.kind = 3 ∨ a.kind = 4 then ((wr s key x.files a).1, { x with files := (wr s key x.files a).2.1 }, (wr s key x.files a).2.2)
  else if a.kind = 5 ∨ a.kind = 6 then ((moveR s x.files a).1, { x with files := (moveR s x.files a).2.1 }, (moveR s x.files a).2.2)
  else if a.kind = 7 ∨ a.kind = 8 ∨ a.kind = 9 then snapsR s x a else (s, x, 4)
def doR (wr : List Blk → Int → List Ent → AskV → List Blk × List Ent × Int) (s : List Blk) (key : Int) (x : SetV) (a : AskV) : List Blk × SetV × Int :=
  if setE s key x ≠ 0 then ([], noSet, setE s key x) else if heldE s x ≠ 0 then ([], noSet, heldE s x)
  else if (askR wr s key x a).2.2 ≠ 0 then ([], noSet, (askR wr s key x a).2.2) else askR wr s key x a
end Go.Proofs.Ytfmgdjgedhnmeaa

namespace Go.Proofs.Ytfmgdjgedhnmeaa
open Go.RowKit
set_option linter.unusedVariables false

theorem noInt {w : World} {p : Nat} (h : ∀ o k x, w.cell? ⟨p, o, none⟩ ≠ some (.int k x)) : NoKid w p ∧ NoEnt w p := ⟨⟨fun o x y z hx _ _ => h _ _ _ hx, fun o x => h _ _ _⟩, fun j q x y _ hx _ => h _ _ _ hx⟩
theorem one_noInt {w : World} {p t l c : Nat} {a : Option Addr} (hp : w.heap[p]? = some (.cells #[.slice a l c] t (0, 0))) : NoKid w p ∧ NoEnt w p := noInt fun o k x hx => by
  rw [cell_of_block hp] at hx
  rcases (show o = 0 ∨ 1 ≤ o from by omega) with rfl | e
  · simp at hx
  · rw [Array.getElem?_eq_none (by simp; omega)] at hx; cases hx
theorem set_noInt {w : World} {p t fn fc sn sc : Nat} {nm : ByteArray} {fo so : Option Addr} (hp : w.heap[p]? = some (.cells #[.string nm, .slice fo fn fc, .slice so sn sc] t (0, 0))) : NoKid w p ∧ NoEnt w p := noInt fun o k x hx => by
  rw [cell_of_block hp] at hx
  rcases (show o = 0 ∨ o = 1 ∨ o = 2 ∨ 3 ≤ o from by omega) with rfl | rfl | rfl | e
  · simp at hx
  · simp at hx
  · simp at hx
  · rw [Array.getElem?_eq_none (by simp; omega)] at hx; cases hx

/-- a box ahead of it all is written -/
theorem AtIn.low {w w' : World} {B P base bx : Nat} {key : Int} {ao : Option Addr} {n cap : Nat} {s : List Blk} {fo : Option Addr} {fn fc : Nat} {so : Option Addr} {sn sc : Nat} {x : SetV} {vs : List Snv} {p : Nat} (h : AtIn w B P base bx key ao n cap s fo fn fc so sn sc x vs) (hk : NoKid w p ∧ NoEnt w p)
    (hp : p < base) (hpP : p ≠ P) (hkeep : ∀ b, b ≠ p → w'.heap[b]? = w.heap[b]?) (hs : w'.heap.size = w.heap.size) : AtIn w' B P base bx key ao n cap s fo fn fc so sn sc x vs := by
  have hP := h.hP
  have hB := h.hB
  refine ⟨(hkeep B (by omega)).trans h.abox, (hkeep P (Ne.symm hpP)).trans h.sbox, ownSto_off h.own h.kid4 hk.1 (fun g h1 h2 => by have := (h.own.own_at h1 h2).le; omega) (fun b hb _ => hkeep b hb), OwnXb.off h.ox (.inl hk.2) (fun e => by have := (h.fge p e).1; omega) (fun e => by have := (h.sge p e).1; omega) (by rw [hs]; exact Nat.le_refl _) (fun b hb _ => hkeep b hb), h.slen, h.n4, h.kid4, h.hP, h.hPx, h.hB, by rw [hs]; exact h.hbx, h.row, h.fB, h.sB⟩

/-- the results are written -/
def putW (X : World) (k2 k3 : Nat) (v u0 u1 u2 : Value) : World := (((X.setCell ⟨k2, 0, none⟩ v).setCell ⟨k3, 0, none⟩ u0).setCell ⟨k3, 1, none⟩ u1).setCell ⟨k3, 2, none⟩ u2
theorem put_set {X : World} {k2 k3 t2 t3 l c fn fc sn sc : Nat} {x0 fo so : Option Addr} {nm : ByteArray} (p3 : X.heap[k2]? = some (.cells #[.slice x0 l c] t2 (0, 0))) (p4 : X.heap[k3]? = some (.cells #[.string nm, .slice fo fn fc, .slice so sn sc] t3 (0, 0))) (h23 : k2 ≠ k3) (v u0 u1 u2 : Value) :
    (putW X k2 k3 v u0 u1 u2).heap[k2]? = some (.cells #[v] t2 (0, 0)) ∧ (putW X k2 k3 v u0 u1 u2).heap[k3]? = some (.cells #[u0, u1, u2] t3 (0, 0)) ∧ (∀ B w0, Below B w0 X → B ≤ k2 → B ≤ k3 → Below B w0 (putW X k2 k3 v u0 u1 u2)) ∧
    (∀ (B P base bx : Nat) (key : Int) (ao : Option Addr) (n cap : Nat) (s : List Blk) (fo : Option Addr) (fn fc : Nat) (so : Option Addr) (sn sc : Nat) (x : SetV) (vs : List Snv), AtIn X B P base bx key ao n cap s fo fn fc so sn sc x vs → k2 < base → k3 < base → k2 ≠ P → k3 ≠ P → AtIn (putW X k2 k3 v u0 u1 u2) B P base bx key ao n cap s fo fn fc so sn sc x vs) := by
  have q3 := one_setCell (u := v) p3
  have q4 : (X.setCell ⟨k2, 0, none⟩ v).heap[k3]? = _ := heap_setCell_ne p4 (Ne.symm h23)
  have r0 := heap_setCell_same' q4 0 u0
  have r1 := heap_setCell_same' r0 1 u1
  have r2 := heap_setCell_same' r1 2 u2
  simp only [List.setIfInBounds_toArray, List.set_cons_zero, List.set_cons_succ] at r2
  have hne : ∀ b, b ≠ k3 → (putW X k2 k3 v u0 u1 u2).heap[b]? = (X.setCell ⟨k2, 0, none⟩ v).heap[b]? := fun b hb => ((Below.heap_setCell _ _ _ _ hb).trans (Below.heap_setCell _ _ _ _ hb)).trans (Below.heap_setCell _ _ _ _ hb)
  refine ⟨(hne k2 h23).trans q3, r2, fun B w0 h h1 h2 => ?_, fun B P base bx key ao n cap s fo fn fc so sn sc x vs h h1 h2 h3 h4 => ?_⟩
  · exact (((h.setCell (p := ⟨k2, 0, none⟩) h1 _).setCell (p := ⟨k3, 0, none⟩) h2 _).setCell (p := ⟨k3, 1, none⟩) h2 _).setCell (p := ⟨k3, 2, none⟩) h2 _
  · have hA1 := h.low (w' := X.setCell ⟨k2, 0, none⟩ v) (one_noInt p3) h1 h3 (fun b hb => Below.heap_setCell _ _ _ _ hb) (by simp)
    exact hA1.low (set_noInt q4) h2 h4 hne (by simp [putW])

/-- a set in memory of its own hangs on nothing else -/
theorem OwnX.since {w w' : World} {base : Nat} {fo : Option Addr} {fn fc : Nat} {so : Option Addr} {sn sc : Nat} {x : SetV} {vs : List Snv} (h : OwnX w base fo fn fc so sn sc x vs) (hk : ∀ b, base ≤ b → b < w.heap.size → w'.heap[b]? = w.heap[b]?) (hs : w.heap.size ≤ w'.heap.size) : OwnX w' base fo fn fc so sn sc x vs := by
  have hf : ∀ g, fo = some ⟨g, 0, none⟩ → base ≤ g := fun g hg => by have := h.files; rw [hg] at this; exact this.ge.1
  have hso : ∀ g, so = some ⟨g, 0, none⟩ → base ≤ g := fun g hg => by have := h.snaps; rw [hg] at this; exact this.ge.1
  refine ⟨h.vlen, h.files.other fun g hg hl => hk g (hf g hg) hl, h.snaps.other fun g hg hl => hk g (hso g hg) hl, h.apart, fun i h1 h2 => ?_⟩
  obtain ⟨i1, i2, i3, i4⟩ := h.each i h1 h2
  exact ⟨i1, i2, i3.keep hs (fun b hb hl => hk b (Nat.le_of_not_lt fun h3 => hb (.inl h3)) hl), i4⟩
/-- a set that hangs on what lies from a place on alone -/
def SetFrom (K : Nat) (w : World) (fo : Option Addr) (fn fc : Nat) (so : Option Addr) (sn sc : Nat) (x : SetV) : Prop :=
  SetIn w fo fn fc so sn sc x ∧ ∀ w', w.heap.size ≤ w'.heap.size → (∀ b, K ≤ b → b < w.heap.size → w'.heap[b]? = w.heap[b]?) → SetIn w' fo fn fc so sn sc x
theorem SetFrom.go {K : Nat} {w w' : World} {fo : Option Addr} {fn fc : Nat} {so : Option Addr} {sn sc : Nat} {x : SetV} (h : SetFrom K w fo fn fc so sn sc x) (hs : w.heap.size ≤ w'.heap.size) (hk : ∀ b, K ≤ b → b < w.heap.size → w'.heap[b]? = w.heap[b]?) : SetFrom K w' fo fn fc so sn sc x :=
  ⟨h.2 w' hs hk, fun w2 h1 h2 => h.2 w2 (Nat.le_trans hs h1) fun b hb hl => (h2 b hb (Nat.lt_of_lt_of_le hl hs)).trans (hk b hb hl)⟩
theorem SetFrom.mono {K : Nat} {w w' : World} {fo : Option Addr} {fn fc : Nat} {so : Option Addr} {sn sc : Nat} {x : SetV} (h : SetFrom K w fo fn fc so sn sc x) (hb : Below w.heap.size w w') : SetFrom K w' fo fn fc so sn sc x := h.go hb.size fun b _ hl => hb.block b hl
theorem SetFrom.weaken {K K' : Nat} {w : World} {fo : Option Addr} {fn fc : Nat} {so : Option Addr} {sn sc : Nat} {x : SetV} (h : SetFrom K w fo fn fc so sn sc x) (hK : K' ≤ K) : SetFrom K' w fo fn fc so sn sc x :=
  ⟨h.1, fun w2 h1 h2 => h.2 w2 h1 fun b hb hl => h2 b (Nat.le_trans hK hb) hl⟩
theorem OwnX.from_ {w : World} {base K : Nat} {fo : Option Addr} {fn fc : Nat} {so : Option Addr} {sn sc : Nat} {x : SetV} {vs : List Snv} (h : OwnX w base fo fn fc so sn sc x vs) (hK : K ≤ base) : SetFrom K w fo fn fc so sn sc x :=
  ⟨OwnXb.is h, fun w2 h1 h2 => OwnXb.is (h.since (fun b hb hl => h2 b (Nat.le_trans hK hb) hl) h1)⟩
/-- a block without numbers is written -/
theorem sto_off {w w' : World} {p : Nat} {ao : Option Addr} {s : List Blk} (h : StoRow w ao s) (hp : ∀ o k x, w.cell? ⟨p, o, none⟩ ≠ some (.int k x)) (hk : ∀ b, b ≠ p → w'.heap[b]? = w.heap[b]?) : StoRow w' ao s := by
  have hrow : ∀ (k : IntKind) ao xs, Row k w ao xs → Row k w' ao xs := fun k ao xs hr => by
    rcases Nat.eq_zero_or_pos xs.length with h0 | h0
    · exact .inl (List.eq_nil_of_length_eq_zero h0)
    · obtain ⟨b, o, rfl, hc⟩ := hr.at 0 h0
      have hne : b ≠ p := by
        rintro rfl
        exact hp _ _ _ (hc 0 h0)
      exact .inr ⟨b, o, rfl, fun i hi => (World.cell?_of_block (a := ⟨b, o + i, none⟩) (hk b hne)).trans (hc i hi)⟩
  have hsl : ∀ (k : IntKind) v xs, Sl k w v xs → Sl k w' v xs := fun k v xs ⟨ao, cap, hv, hr, hc⟩ => ⟨ao, cap, hv, hrow k ao xs hr, hc⟩
  rcases h with rfl | ⟨b, o, rfl, h⟩
  · exact .inl rfl
  · refine .inr ⟨b, o, rfl, fun i hi => ?_⟩
    have hB := h i hi
    have hne : b ≠ p := by
      rintro rfl
      exact hp _ _ _ hB.refs
    have hc : ∀ j, w'.cell? ⟨b, j, none⟩ = w.cell? ⟨b, j, none⟩ := fun j => World.cell?_of_block (a := ⟨b, j, none⟩) (hk b hne)
    obtain ⟨v, h1, h2⟩ := hB.kids
    obtain ⟨u, h3, h4⟩ := hB.bytes
    exact ⟨(hc _).trans hB.refs, (hc _).trans hB.level, ⟨v, (hc _).trans h1, hsl _ _ _ h2⟩, ⟨u, (hc _).trans h3, hsl _ _ _ h4⟩⟩
/-- a store's and a set's box are written: another store stays -/
theorem put_sto {X : World} {k2 k3 t2 t3 l c fn fc sn sc : Nat} {x0 fo so : Option Addr} {nm : ByteArray} (p3 : X.heap[k2]? = some (.cells #[.slice x0 l c] t2 (0, 0))) (p4 : X.heap[k3]? = some (.cells #[.string nm, .slice fo fn fc, .slice so sn sc] t3 (0, 0))) (h23 : k2 ≠ k3) (v u0 u1 u2 : Value) {ao : Option Addr} {s : List Blk} (h : StoRow X ao s) :
    StoRow (putW X k2 k3 v u0 u1 u2) ao s := by
  have q4 : (X.setCell ⟨k2, 0, none⟩ v).heap[k3]? = _ := heap_setCell_ne p4 (Ne.symm h23)
  have h1 := sto_off (w' := X.setCell ⟨k2, 0, none⟩ v) h (fun o k x hx => by
    rw [cell_of_block p3] at hx
    rcases (show o = 0 ∨ 1 ≤ o from by omega) with rfl | e
    · simp at hx
    · rw [Array.getElem?_eq_none (by simp; omega)] at hx; cases hx) (fun b hb => Below.heap_setCell _ _ _ _ hb)
  exact sto_off (p := k3) h1 (fun o k x hx => by
    rw [cell_of_block q4] at hx
    rcases (show o = 0 ∨ o = 1 ∨ o = 2 ∨ 3 ≤ o from by omega) with rfl | rfl | rfl | e
    · simp at hx
    · simp at hx
    · simp at hx
    · rw [Array.getElem?_eq_none (by simp; omega)] at hx; cases hx) (fun b hb => ((Below.heap_setCell _ _ _ _ hb).trans (Below.heap_setCell _ _ _ _ hb)).trans (Below.heap_setCell _ _ _ _ hb))
theorem put_other {X : World} {k2 k3 : Nat} {v u0 u1 u2 : Value} (b : Nat) (h2 : b ≠ k2) (h3 : b ≠ k3) : (putW X k2 k3 v u0 u1 u2).heap[b]? = X.heap[b]? :=
  (((Below.heap_setCell _ _ _ _ h3).trans (Below.heap_setCell _ _ _ _ h3)).trans (Below.heap_setCell _ _ _ _ h3)).trans (Below.heap_setCell _ _ _ _ h2)
theorem put_size {X : World} {k2 k3 : Nat} {v u0 u1 u2 : Value} : (putW X k2 k3 v u0 u1 u2).heap.size = X.heap.size := by simp [putW]

/-- a store whose row lies from a place on -/
def StoAt (K : Nat) (w : World) (ao : Option Addr) (s : List Blk) : Prop := StoRow w ao s ∧ ∀ g o, ao = some ⟨g, o, none⟩ → s ≠ [] → K ≤ g
/-- what Do answers -/
def DoEnd (e : Ending) (w w' : World) (r : List Blk × SetV × Int) : Prop :=
  ∃ (ao : Option Addr) (n cap : Nat) (fo : Option Addr) (fn fc : Nat) (so : Option Addr) (sn sc : Nat), e = .returned (.tuple #[.agg #[.slice ao n cap], .agg #[.string r.2.1.nm, .slice fo fn fc, .slice so sn sc], .int .i64 r.2.2]) ∧ Below w.heap.size w w' ∧ r.1.length = n ∧ StoAt w.heap.size w' ao r.1 ∧ Capd ao n cap ∧ SetFrom w.heap.size w' fo fn fc so sn sc r.2.1
theorem noSet_in (w : World) : SetIn w none 0 0 none 0 0 noSet := ⟨rfl, rfl, .inl rfl, ⟨[], rfl, .inl rfl, fun i h => absurd h (by simp)⟩, ⟨Nat.le_refl _, fun _ => rfl⟩, ⟨Nat.le_refl _, fun _ => rfl⟩⟩
theorem doEnd_bad {w w' : World} {ce : Int} (hb : Below w.heap.size w w') : DoEnd (.returned (.tuple #[.agg #[.slice none 0 0], .agg #[.string ⟨#[]⟩, .slice none 0 0, .slice none 0 0], .int .i64 ce])) w w' ([], noSet, ce) :=
  ⟨none, 0, 0, none, 0, 0, none, 0, 0, rfl, hb, rfl, ⟨.inl rfl, fun _ _ _ h => absurd rfl h⟩, ⟨Nat.le_refl _, fun _ => rfl⟩, noSet_in w', fun w2 _ _ => noSet_in w2⟩

theorem OwnSto.read {w : World} {base n cap : Nat} {ao : Option Addr} {s : List Blk} (h : OwnSto w base (.slice ao n cap) s) : s.length = n ∧ StoRow w ao s ∧ Capd ao n cap := by
  obtain ⟨a', c', h1, h2, h3⟩ := h.sto
  simp only [Value.slice.injEq] at h1
  obtain ⟨rfl, rfl, rfl⟩ := h1
  exact ⟨rfl, h3, h2⟩
theorem OwnSto.from_ {w : World} {base n cap : Nat} {ao : Option Addr} {s : List Blk} (h : OwnSto w base (.slice ao n cap) s) : ∀ g o, ao = some ⟨g, o, Option.none⟩ → s ≠ [] → base ≤ g := by
  obtain ⟨ao', cap', e1, -, h⟩ := h
  simp only [Value.slice.injEq] at e1
  obtain ⟨rfl, -, -⟩ := e1
  intro g o e hs
  rcases h with h | ⟨g', e2, hr⟩
  · exact absurd h hs
  · rw [e2] at e
    simp only [Option.some.injEq, Addr.mk.injEq] at e
    have := hr.le
    omega

theorem five_allocs (w : World) (a b c d f : Obj) :
    Below w.heap.size w (((((w.alloc a).alloc b).alloc c).alloc d).alloc f) ∧ (((((w.alloc a).alloc b).alloc c).alloc d).alloc f).heap[w.heap.size]? = some a ∧ (((((w.alloc a).alloc b).alloc c).alloc d).alloc f).heap[w.heap.size + 1]? = some b ∧ (((((w.alloc a).alloc b).alloc c).alloc d).alloc f).heap[w.heap.size + 1 + 1]? = some c ∧
      (((((w.alloc a).alloc b).alloc c).alloc d).alloc f).heap[w.heap.size + 1 + 1 + 1]? = some d ∧ (((((w.alloc a).alloc b).alloc c).alloc d).alloc f).heap[w.heap.size + 1 + 1 + 1 + 1]? = some f ∧ (((((w.alloc a).alloc b).alloc c).alloc d).alloc f).heap.size = w.heap.size + 5 := by
  obtain ⟨h0, h1, h2, h3, h4, h5⟩ := four_allocs w a b c d
  refine ⟨h0.alloc (by omega) _, ?_, ?_, ?_, ?_, ?_, by simp⟩
  · rw [Below.heap_alloc _ _ _ (by omega)]; exact h1
  · rw [Below.heap_alloc _ _ _ (by omega)]; exact h2
  · rw [Below.heap_alloc _ _ _ (by omega)]; exact h3
  · rw [Below.heap_alloc _ _ _ (by omega)]; exact h4
  · have := heap_alloc_new ((((w.alloc a).alloc b).alloc c).alloc d) f
    rw [h5] at this
    exact this

end Go.Proofs.Ytfmgdjgedhnmeaa

namespace Go.Proofs.Ytfmgdjgedhnmeaa
open Go.RowKit
set_option linter.unusedVariables false

theorem loose_len (f : Nat) : ∀ (s : List Blk) (a : Int), (looseF f s a).length = s.length := by
  induction f with
  | zero => intro s a; rfl
  | succ f ih =>
    intro s a
    unfold looseF
    split
    · rfl
    · split
      · exact addRef_length _ _ _
      · have h : ∀ (ks : List Int) (t : List Blk), (ks.foldl (looseF f) t).length = t.length := by
          intro ks
          induction ks with
          | nil => intro t; rfl
          | cons k ks ik => intro t; rw [List.foldl_cons, ik, ih]
        rw [h, List.length_set]
theorem lessL_len (s : List Blk) (ks : List Int) : (lessL s ks).length = s.length := by
  unfold lessL
  induction ks generalizing s with
  | nil => rfl
  | cons k ks ih => rw [List.foldl_cons, ih, loose_len]

section
variable {w w1 : World} {B P base bx : Nat} {key : Int} {ao : Option Addr} {n cap : Nat} {s : List Blk} {fo : Option Addr} {fn fc : Nat} {so : Option Addr} {sn sc : Nat} {x : SetV} {vs : List Snv} {p : Nat}
/-- the snaps' row goes shorter -/
theorem AtIn.goneS (h : AtIn w B P base bx key ao n cap s fo fn fc so sn sc x vs) (k : Nat) (ho : snvK.Own w1 bx (.slice so p sc) (vs.eraseIdx k)) (hb : Below bx w w1) (hk : ∀ b, b < w.heap.size → so ≠ some ⟨b, 0, none⟩ → w1.heap[b]? = w.heap[b]?) :
    AtIn (w1.setCell ⟨B, 4, none⟩ (.slice so p sc)) B P base bx key ao n cap s fo fn fc so p sc { x with snaps := x.snaps.eraseIdx k } (vs.eraseIdx k) := by
  have ab := (hk B (lt_heap h.abox) h.sB).trans h.abox
  have hb2 := heap_setCell_same' ab 4 (.slice so p sc)
  simp only [List.setIfInBounds_toArray, List.set_cons_zero, List.set_cons_succ] at hb2
  have hboth : Both (fun (u : Snv) (y : Snp) => u.nm = y.nm ∧ u.n = y.files.length ∧ EntFar (badX bx fo so) w1 u.ao y.files ∧ Capd u.ao u.n u.cap) vs x.snaps := by
    refine ⟨h.ox.vlen, fun i h1 h2 => ?_⟩
    obtain ⟨i1, i2, i3, i4⟩ := h.ox.each i h1 h2
    exact ⟨i1, i2, i3.keep hb.size fun b hb2 hl => hk b hl fun e => hb2 (.inr (.inr e)), i4⟩
  have he := Both.erase k hboth
  exact h.snapsRow (w1 := w1) hk hb.size ho (fun g hg => .inl hg) he.1 he.2 hb2 (fun b hb => Below.heap_setCell _ _ _ _ hb) (by simp)
/-- the files are others -/
theorem AtIn.filesNew (h : AtIn w B P base bx key ao n cap s fo fn fc so sn sc x vs) {a5 : Option Addr} {n5 c5 : Nat} {l : List Ent} (ho : entK.Own w1 w.heap.size (.slice a5 n5 c5) l) (hb : Below w.heap.size w w1) :
    AtIn (w1.setCell ⟨B, 3, none⟩ (.slice a5 n5 c5)) B P base bx key ao n cap s a5 n5 c5 so sn sc { x with files := l } vs := by
  have ab := (hb.block B (lt_heap h.abox)).trans h.abox
  have hb2 := heap_setCell_same' ab 3 (.slice a5 n5 c5)
  simp only [List.setIfInBounds_toArray, List.set_cons_zero, List.set_cons_succ] at hb2
  exact h.files (w1 := w1) (fun b hl _ => hb.block b hl) hb.size (ho.weaken h.hbx) (fun g hg => .inr (by subst hg; exact ho.ge.1)) hb2 (fun b hb => Below.heap_setCell _ _ _ _ hb) (by simp)
end

set_option maxRecDepth 100000 in
set_option maxHeartbeats 16000000 in
theorem snap_old (w : World) (B P base bx n cap fn fc sn sc bn bc : Nat) (key : Int) (ao fo so ba : Option Addr) (s : List Blk) (x : SetV) (vs : List Snv) (a : AskV) (hA : AtIn w B P base bx key ao n cap s fo fn fc so sn sc x vs) (hsm : SmallX x) (hrise : Rising (x.snaps.map Snp.nm))
    (hlv : Lv s) (hri : RefsIn s) (hlow : RootsLow s (rootsF x.files)) (hlows : ∀ y ∈ x.snaps, RootsLow s (rootsF y.files)) (hk7 : ¬ a.kind = 7) :
    Calls Try.prog 71 #[.pointer (some ⟨B, 0, none⟩), .agg #[.int .i64 a.kind, .string a.sname, .string a.file, .string a.dest, .int .i64 a.at_, .int .i64 a.n, .slice ba bn bc]] w fun e w' => e = .returned (.int .i64 (snapsR s x a).2.2) ∧ SnEnd w w' B P base bx key ao n cap (snapsR s x a) := by
  have hbase : base ≤ w.heap.size := by have := hA.hP; have := hA.hPx; have := hA.hbx; omega
  have hbxw := hA.hbx
  have hfgw := hA.fge
  have hsgw := hA.sge
  have hBw := lt_heap hA.abox
  have hfl := hA.ox.len.1
  have hsl := hA.ox.len.2
  have hf6 : fn ≤ 6 := by have := hsm.files; omega
  have hs3 : sn ≤ 3 := by have := hsm.snaps; omega
  have hf6' : (fn : Int) ≤ 6 := by omega
  have hs3' : (sn : Int) ≤ 3 := by omega
  obtain ⟨kind, aset, afile, ato, aat, an, abytes⟩ := a
  have hb0 : Below w.heap.size w (w.alloc (.cells #[.int .i64 kind, .string aset, .string afile, .string ato, .int .i64 aat, .int .i64 an, .slice ba bn bc] 67)) := (Below.refl _ _).alloc (Nat.le_refl _) _
  have q0 : (w.alloc (.cells #[.int .i64 kind, .string aset, .string afile, .string ato, .int .i64 aat, .int .i64 an, .slice ba bn bc] 67)).heap[w.heap.size]? = some (.cells #[.int .i64 kind, .string aset, .string afile, .string ato, .int .i64 aat, .int .i64 an, .slice ba bn bc] 67 (0, 0)) := heap_alloc_new _ _
  have hA1 := hA.mono hb0
  obtain ⟨RD, hRD⟩ : ∃ RD, snapsR s x ⟨kind, aset, afile, ato, aat, an, abytes⟩ = RD := ⟨_, rfl⟩
  rw [hRD]
  unfold snapsR at hRD
  simp only at hRD
  obtain ⟨PN, hPN⟩ : ∃ PN, placeN (x.snaps.map Snp.nm) ato = PN := ⟨_, rfl⟩
  obtain ⟨PB, hPB⟩ : ∃ PB, placeB (x.snaps.map Snp.nm) ato = PB := ⟨_, rfl⟩
  have hple : PN ≤ sn := by rw [← hPN, hsl]; have := placeN_le (x.snaps.map Snp.nm) ato; rwa [List.length_map] at this
  have hplt : PB = true → PN < sn := fun h => by rw [← hPN, hsl]; have := (placeB_lt (hPB.trans h)).1; rwa [List.length_map] at this
  have HPLT := Lib.hid hplt
  have HFL := Lib.hid hfl
  have HSL := Lib.hid hsl
  have HNM := Lib.hid hA.ox.names
  have HVL : Hid (vs.length = sn) := Lib.hid (hA.ox.vlen.trans hsl.symm)
  have HP1 := Lib.hid (fun (u : World) (hr : snvK.Row u so vs) => snap_any u x.nm fo so fn fc sn sc vs ato HVL.out (by omega) hr (by rw [HNM.out]; exact hrise))
  rw [HNM.out, hPN, hPB] at HP1
  rw [hPN, hPB] at hRD
  have HRD := Lib.hid hRD
  have HFGW := Lib.hid hfgw
  have HSGW := Lib.hid hsgw
  have HLOW := Lib.hid hlow
  have HLOWS := Lib.hid hlows
  have HLV := Lib.hid hlv
  have HRI := Lib.hid hri
  have HSM := Lib.hid hsm
  clear hRD hPN hPB hplt hfl hsl hrise hA hfgw hsgw hlow hlows hlv hri hsm HNM
  have hA1' := hA1
  go_enter Try.func71, Try.ntmps71
  go_wp2_with fail
  generalize w.alloc (Obj.cells #[Value.int IntKind.i64 kind, Value.string aset, Value.string afile, Value.string ato, Value.int IntKind.i64 aat, Value.int IntKind.i64 an, Value.slice ba bn bc] 67) = W0 at *
  refine (name_any _ _).mono ?_
  rintro e w' ⟨rfl, rfl⟩
  have hbw0 : Below base w w' := hb0.mono hbase
  cases hnb : nameB ato with
  | false =>
    have HR : Hid (RD = (s, x, 1)) := Lib.hid (HRD.out.symm.trans (if_pos hnb))
    clear hA1 hA1' HRD HP1
    go_wp2
    go_ret
    rw [HR.out]
    exact ⟨rfl, hbw0, fun h => by simp at h⟩
  | true =>
    have hR := HRD.out.symm
    rw [if_neg (by rw [hnb]; simp)] at hR
    have HR0 := Lib.hid hR
    clear hR HRD hA1'
    replace hnb := Lib.hid hnb
    have a2 := cell_of_block hA1.abox 2
    have a3 := cell_of_block hA1.abox 3
    have a4 := cell_of_block hA1.abox 4
    have k3 := cell_of_block q0 3
    simp only [List.getElem?_toArray, List.getElem?_cons_succ, List.getElem?_cons_zero] at a2 a3 a4 k3
    have lA := lt_heap hA1.abox
    have lK := lt_heap q0
    obtain ⟨sa, scc, hsv, hsr, -, -⟩ := hA1.ox.snaps.row
    simp only [Value.slice.injEq] at hsv
    obtain ⟨rfl, -, rfl⟩ := hsv
    have HPM := Lib.hid (fun v => HP1.out (mix w' v) (hsr.mono (mix_below _ _)))
    clear hsr HP1
    go_wp2_with fail
    refine wp_region_mix (by kernel_rfl) (by kernel_rfl) ?_
    repeat (go_big_quiet_step (first
      | (go_at_call 72; refine calls_mix (v := .tuple #[.int .i64 PN, .bool PB]) ?_; with_reducible exact HPM.out _)))
    refine wpQuiet_nil ?_
    intro w2 hb2
    have hA2 := hA1.mono hb2
    have q2 := (hb2.block _ (lt_heap q0)).trans q0
    have hbw2 : Below base w w2 := hbw0.trans (hb2.mono (by have := hA1.hP; have := hA1.hPx; have := hA1.hbx; omega))
    have hsz2 : w.heap.size < w2.heap.size := lt_heap q2
    clear a2 a3 a4 k3 lA lK HPM hA1 q0 hb2 hbw0 hb0
    have a0 := cell_of_block hA2.abox 0
    have a3 := cell_of_block hA2.abox 3
    have a4 := cell_of_block hA2.abox 4
    have k0 := cell_of_block q2 0
    have k3 := cell_of_block q2 3
    simp only [List.getElem?_toArray, List.getElem?_cons_succ, List.getElem?_cons_zero] at a0 a3 a4 k0 k3
    have lA := lt_heap hA2.abox
    have lK := lt_heap q2
    have h7 : ¬ kind = 7 := hk7
    have h7' : (kind == 7) = false := by rw [beq_eq_false_iff_ne]; exact h7
    have hR := HR0.out
    rw [if_neg h7] at hR
    clear hk7
    cases PB with
    | false =>
      have HR : Hid (RD = (s, x, 5)) := Lib.hid (hR.trans (if_pos rfl))
      clear hA2 HR0 hR
      go_wp2
      go_ret
      rw [HR.out]
      exact ⟨rfl, hbw2, fun h => by simp at h⟩
    | true =>
      rw [if_neg (by simp)] at hR
      have hlt := HPLT.out rfl
      have hkv : PN < vs.length := by have := HVL.out; omega
      have hkx : PN < x.snaps.length := by have := HSL.out; omega
      have hea : snpAt x.snaps PN = x.snaps[PN] := by unfold snpAt; rw [List.getElem?_eq_getElem hkx]; rfl
      rw [hea] at hR
      obtain ⟨gs, hgs, hgb, hgl, hgz, hE⟩ := hA2.ox.snapAt PN hkv
      obtain ⟨-, i2, -, i4⟩ := hA2.ox.each PN hkv hkx
      have hfar := hA2.snapFar PN hkv hkx
      have hlf := HLOWS.out _ (List.getElem_mem hkx)
      have h6 := HSM.out.each _ (List.getElem_mem hkx)
      have d0 := hE.nm
      have d1 := hE.sl
      obtain ⟨fls, hfls⟩ : ∃ fls, x.snaps[PN].files = fls := ⟨_, rfl⟩
      obtain ⟨u, hu⟩ : ∃ u, vs[PN] = u := ⟨_, rfl⟩
      rw [hfls] at hR i2 hfar hlf h6
      rw [hu] at d0 d1 i2 i4 hfar
      obtain ⟨unm, uo, un, uc⟩ := u
      simp only at d0 d1 i2 i4 hfar
      have HUN := Lib.hid i2
      have HUC := Lib.hid i4
      have HLF := Lib.hid hlf
      have hun6 : un ≤ 6 := by omega
      have hPN' : (PN : Int) < sn := by omega
      have hbase2 : base ≤ w2.heap.size := Nat.le_trans hbase (Nat.le_of_lt hsz2)
      subst hgs
      have HA2 := Lib.hid hA2
      have HQ2 := Lib.hid q2
      have hAD : Hid (∀ ks, RootsLow s ks → Adr s ks) := Lib.hid fun ks h => Adr.of hA2.slen (h.in_ hA2.slen)
      clear hfls hu hE i2 i4 hlf h6 hea HR0 HLOWS HSM
      by_cases h8 : kind = 8
      · rw [if_pos h8] at hR
        have HR := Lib.hid hR
        have h8' : (kind == 8) = true := by rw [beq_iff_eq]; exact h8
        subst h8
        clear hR hA2
        go_wp2_with fail
        have hA2 := HA2.out
        refine (keep_less w2 P base ao uo n cap un uc s fls 0 hA2.slen hA2.n4 hA2.sbox hA2.own hbase2 (fun g h1 h2 => Ne.symm (hA2.row g h1 h2).2) HLV.out (fun y hy => by have := HRI.out y hy; omega) (Int.le_refl _) (by omega) HUN.out.symm hun6 hfar HLF.out).mono ?_
        rintro e w3 ⟨rfl, hI3⟩
        have hA3 := hA2.store hI3 ((lessL_len _ _).trans hA2.slen) (hA2.kid4.less _)
        have hbw3 : Below base w w3 := hbw2.trans hI3.below
        have a4' := cell_of_block hA3.abox 4
        simp only [List.getElem?_toArray, List.getElem?_cons_succ, List.getElem?_cons_zero] at a4'
        have lA3 := lt_heap hA3.abox
        have e1 : sn - 1 + 1 = sn := by omega
        have hdel := delete_snvs w3 bx (some ⟨gs, 0, none⟩) (sn - 1) sc PN vs (by rw [HVL.out]; omega) (by omega) (by omega) (by rw [e1]; exact hA3.ox.snaps)
        rw [e1] at hdel
        have HDEL := Lib.hid hdel
        have HA3 := Lib.hid hA3
        clear hA2 HA2 hfar d0 d1 hI3 hdel a0 a3 a4 k0 k3 lA lK hA3
        go_wp2_with fail
        refine HDEL.out.mono ?_
        rintro e w4 ⟨rfl, ho4, hb4, hk4⟩
        have hA4 := HA3.out.goneS PN ho4 hb4 hk4
        have ab4 := (hk4 B lA3 HA3.out.sB).trans HA3.out.abox
        have y4 := cell_of_block ab4 4
        simp only [List.getElem?_toArray, List.getElem?_cons_succ, List.getElem?_cons_zero] at y4
        have yf := free_of_block ab4 4
        have y1 := lt_heap ab4
        have hFIN : Hid (AtEnd w (w4.setCell ⟨B, 4, none⟩ (.slice (some ⟨gs, 0, none⟩) (sn - 1) sc)) B P base bx key ao n cap (lessL s (rootsF fls)) x.nm x.files (x.snaps.eraseIdx PN) 0) := Lib.hid
          ⟨(hbw3.trans (hb4.mono (by have := HA3.out.hP; have := HA3.out.hPx; omega))).setCell (by show base ≤ B; have := HA3.out.hP; have := HA3.out.hPx; have := HA3.out.hB; omega) _, fun _ => ⟨_, _, _, _, _, _, _, hA4⟩⟩
        clear HA3 HDEL ho4 hb4 hk4 hA4 ab4 a4' lA3
        go_wp2
        go_ret
        rw [HR.out]
        exact ⟨rfl, hFIN.out⟩
      · rw [if_neg h8] at hR
        have HR := Lib.hid hR
        have h8' : (kind == 8) = false := by rw [beq_eq_false_iff_ne]; exact h8
        clear hR hA2
        go_wp2_with fail
        have hA2 := HA2.out
        refine (keep_more w2 P base ao uo n cap un uc s fls hA2.slen hA2.n4 hA2.sbox hA2.own hbase2 (fun g h1 h2 => Ne.symm (hA2.row g h1 h2).2) (fun y hy => by have := HRI.out y hy; omega) HUN.out.symm hun6 hfar (HLF.out.in_ hA2.slen)).mono ?_
        rintro e w3 ⟨rfl, hI3⟩
        have hA3 := hA2.store hI3 ((bump_length _ _).trans hA2.slen) (hA2.kid4.bump _)
        have hbw3 : Below base w w3 := hbw2.trans hI3.below
        have her3 := hfar.keep hI3.below.size (fun b hb hl => hI3.frame b hl (fun g h1 h2 h3 => hb ⟨h1, by rw [h3]; exact h2⟩))
        have her3d := her3.keep (w' := w3.drew) (Nat.le_refl _) (fun _ _ _ => rfl)
        have HER := Lib.hid her3d
        have HA3 := Lib.hid (hA3.mono (Below.refl w3.heap.size w3).drew)
        have HB3 : Hid (Below base w w3.drew) := Lib.hid hbw3.drew
        have a0' := cell_of_block hA3.abox 0
        have a3' := cell_of_block hA3.abox 3
        simp only [List.getElem?_toArray, List.getElem?_cons_succ, List.getElem?_cons_zero] at a0' a3'
        have lA3 := lt_heap hA3.abox
        clear hA2 HA2 hfar d0 d1 hI3 her3 her3d hA3 hbw3 a0 a3 a4 k0 k3 lA lK hbw2 q2 HQ2
        go_wp2_with fail
        go_still_tail 9, (by kernel_rfl)
        change wpList _ _ _ _ _ w3.drew
        clear a0' a3' lA3
        generalize w3.drew = w4 at *
        go_wp2_with fail
        have hA4 := HA3.out
        refine (keep_less w4 P base ao fo n cap fn fc (bump s (rootsF fls)) x.files 0 hA4.slen hA4.n4 hA4.sbox hA4.own (Nat.le_trans hbase HB3.out.size) (fun g h1 h2 => Ne.symm (hA4.row g h1 h2).2) (HLV.out.bump _) (refsL_bump HRI.out _ (hAD.out _ HLF.out) (by rw [rootsF_len]; have := HUN.out; omega)) (Int.le_refl _) (by omega) HFL.out.symm hf6 hA4.filesFar HLOW.out.bump).mono ?_
        rintro e w5 ⟨rfl, hI5⟩
        have hA5 := hA4.store hI5 ((lessL_len _ _).trans hA4.slen) (hA4.kid4.less _)
        have hbw5 : Below base w w5 := HB3.out.trans hI5.below
        have hnn : s ≠ [] ↔ bump s (rootsF fls) ≠ [] := by rw [← List.length_pos_iff, ← List.length_pos_iff, bump_length]
        have her5 := (HER.out.keep hI5.below.size (fun b hb hl => hI5.frame b hl (fun g h1 h2 h3 => hb ⟨hnn.2 h1, by rw [h3]; exact h2⟩))).row
        have HCL := Lib.hid (clone_ents w5 uo un uc fls HUN.out.symm her5 HUC.out (by omega))
        have a3' := cell_of_block hA5.abox 3
        simp only [List.getElem?_toArray, List.getElem?_cons_succ, List.getElem?_cons_zero] at a3'
        have HA5 := Lib.hid hA5
        clear hA4 HA3 HB3 hI5 hA5 her5 HER hnn
        go_wp2_with fail
        refine HCL.out.mono ?_
        rintro e w6 ⟨v6, rfl, ho6, hb6⟩
        obtain ⟨a6, c6, rfl, -, -, -⟩ := ho6.row
        have ab6 := (hb6.block B (lt_heap HA5.out.abox)).trans HA5.out.abox
        have y3 := cell_of_block ab6 3
        simp only [List.getElem?_toArray, List.getElem?_cons_succ, List.getElem?_cons_zero] at y3
        have yf := free_of_block ab6 3
        have y1 := lt_heap ab6
        have hA6 := HA5.out.filesNew ho6 hb6
        have hFIN : Hid (AtEnd w (w6.setCell ⟨B, 3, none⟩ (.slice a6 fls.length c6)) B P base bx key ao n cap (lessL (bump s (rootsF fls)) (rootsF x.files)) x.nm fls x.snaps 0) := Lib.hid
          ⟨(hbw5.trans (hb6.mono (by have := HA5.out.hP; have := HA5.out.hPx; have := HA5.out.hbx; omega))).setCell (by show base ≤ B; have := HA5.out.hP; have := HA5.out.hPx; have := HA5.out.hB; omega) _, fun _ => ⟨_, _, _, _, _, _, _, hA6⟩⟩
        clear HA5 HCL ho6 hb6 hA6 ab6 a3' hbw5
        go_wp2
        go_ret
        rw [HR.out]
        exact ⟨rfl, hFIN.out⟩
end Go.Proofs.Ytfmgdjgedhnmeaa

namespace Go.Proofs.Ytfmgdjgedhnmeaa
open Go.RowKit
set_option linter.unusedVariables false

set_option maxRecDepth 100000 in
set_option maxHeartbeats 16000000 in
theorem do_any (w : World) (ao fo so ba : Option Addr) (n cap fn fc sn sc bn bc : Nat) (s : List Blk) (key : Int) (x : SetV) (a : AskV) (hn : s.length = n) (h41 : n ≤ 2199023255552) (hs : StoRow w ao s) (hwf : WfS s) (hc : Capd ao n cap) (hx : SetIn w fo fn fc so sn sc x) (hwx : WfX x)
    (hbl : a.bytes.length = bn) (hbr : Row .u8 w ba a.bytes) (hbc : Capd ba bn bc) (hby : Byt a.bytes) (hb47 : bn ≤ 140737488351232) :
    Calls Try.prog 32 #[.agg #[.slice ao n cap], .int .i64 key, .agg #[.string x.nm, .slice fo fn fc, .slice so sn sc], .agg #[.int .i64 a.kind, .string a.sname, .string a.file, .string a.dest, .int .i64 a.at_, .int .i64 a.n, .slice ba bn bc]] w fun e w' => DoEnd e w w' (doR writeW s key x a) := by
  have HN := Lib.hid hn
  have HC := Lib.hid hc
  have HX0 := Lib.hid hx
  have HWX := Lib.hid hwx
  have HBL := Lib.hid hbl
  have HBC := Lib.hid hbc
  have HBY := Lib.hid hby
  obtain ⟨RD, hRD⟩ : ∃ RD, doR writeW s key x a = RD := ⟨_, rfl⟩
  rw [hRD]
  have HRD := Lib.hid hRD
  obtain ⟨kind, aset, afile, ato, aat, an, abytes⟩ := a
  simp only at hbl hbr hby
  obtain ⟨hb0, p0, p1, p2, p3, p4, hz5⟩ := five_allocs w (.cells #[.slice ao n cap] 24) (.cells #[.string x.nm, .slice fo fn fc, .slice so sn sc] 28) (.cells #[.int .i64 kind, .string aset, .string afile, .string ato, .int .i64 aat, .int .i64 an, .slice ba bn bc] 67) (.cells #[.slice none 0 0] 24) (.cells #[.string ⟨#[]⟩, .slice none 0 0, .slice none 0 0] 28)
  have HZ5 := Lib.hid hz5
  clear hn hc hx hwx hbl hbc hby hRD hz5
  go_enter Try.func32, Try.ntmps32
  go_wp2_with fail
  have hs := hs.mono hb0
  have hbr0 := hbr
  have hbr := hbr.mono hb0
  have HX := Lib.hid (HX0.out.mono hb0)
  generalize ((((w.alloc (Obj.cells #[Value.slice ao n cap] 24)).alloc (Obj.cells #[Value.string x.nm, Value.slice fo fn fc, Value.slice so sn sc] 28)).alloc (Obj.cells #[Value.int IntKind.i64 kind, Value.string aset, Value.string afile, Value.string ato, Value.int IntKind.i64 aat, Value.int IntKind.i64 an, Value.slice ba bn bc] 67)).alloc (Obj.cells #[Value.slice none 0 0] 24)).alloc (Obj.cells #[Value.string ⟨#[]⟩, Value.slice none 0 0, Value.slice none 0 0] 28) = W0 at *
  refine (setCheck_any _ _ _ _ _ _ _ _ _ _ s key x HN.out (by omega) hs hwf HX.out HWX.out).mono ?_
  rintro e w1 ⟨rfl, hb1⟩
  have p0 := (hb1.block _ (lt_heap p0)).trans p0
  have p1 := (hb1.block _ (lt_heap p1)).trans p1
  have p2 := (hb1.block _ (lt_heap p2)).trans p2
  have p3 := (hb1.block _ (lt_heap p3)).trans p3
  have p4 := (hb1.block _ (lt_heap p4)).trans p4
  have hs := hs.mono hb1
  have HX := Lib.hid (HX.out.mono hb1)
  have hbw := below_step hb0 hb1
  have c0 := cell_of_one p0
  have c10 := cell_of_block p1 0
  have c11 := cell_of_block p1 1
  have c12 := cell_of_block p1 2
  simp at c10 c11 c12
  have l0 := lt_heap p0
  have l1 := lt_heap p1
  have c3 := cell_of_one p3
  have f3 := free_of_one p3
  have c40 := cell_of_block p4 0
  have c41 := cell_of_block p4 1
  have c42 := cell_of_block p4 2
  simp at c40 c41 c42
  have f40 := free_of_block p4 0
  have f41 := free_of_block p4 1
  have f42 := free_of_block p4 2
  by_cases hce : setE s key x = 0
  rotate_left
  · have HR : Hid (RD = ([], noSet, setE s key x)) := Lib.hid (by rw [← HRD.out]; unfold doR; rw [if_pos hce])
    have he1 : (setE s key x != 0) = true := by rw [bne_iff_ne]; exact hce
    generalize setE s key x = ce at *
    clear hce hs hbr HX HX0 HWX hb1 hwf HRD
    obtain ⟨z3, z4, zb, -⟩ := put_set p3 p4 (by omega) (.slice none 0 0) (.string ⟨#[]⟩) (.slice none 0 0) (.slice none 0 0)
    have hbz := zb _ _ hbw (by omega) (by omega)
    unfold putW at z3 z4 hbz
    have v3 := cell_of_one z3
    have v40 := cell_of_block z4 0
    have v41 := cell_of_block z4 1
    have v42 := cell_of_block z4 2
    simp at v40 v41 v42
    go_wp2_with fail
    refine bodyPost_ret (v := .tuple #[.agg #[.slice none 0 0], .agg #[.string ⟨#[]⟩, .slice none 0 0, .slice none 0 0], .int .i64 ce]) (by simp [results, Try.results32, go_sem, v3, v40, v41, v42]) rfl ?_
    rw [HR.out]
    exact doEnd_bad hbz
  rw [hce]
  have HCE := Lib.hid hce
  go_wp2_with fail
  refine (held_any _ _ _ _ _ _ _ _ _ _ s key x HN.out hs hwf HX.out hce).mono ?_
  rintro e w2 ⟨rfl, hb2⟩
  clear c0 c10 c11 c12 l0 l1 c3 f3 c40 c41 c42 f40 f41 f42
  have p0 := (hb2.block _ (lt_heap p0)).trans p0
  have p1 := (hb2.block _ (lt_heap p1)).trans p1
  have p2 := (hb2.block _ (lt_heap p2)).trans p2
  have p3 := (hb2.block _ (lt_heap p3)).trans p3
  have p4 := (hb2.block _ (lt_heap p4)).trans p4
  have hs := hs.mono hb2
  have hbw := below_step hbw hb2
  have c0 := cell_of_one p0
  have c10 := cell_of_block p1 0
  have c11 := cell_of_block p1 1
  have c12 := cell_of_block p1 2
  simp at c10 c11 c12
  have l0 := lt_heap p0
  have l1 := lt_heap p1
  have c3 := cell_of_one p3
  have f3 := free_of_one p3
  have c40 := cell_of_block p4 0
  have c41 := cell_of_block p4 1
  have c42 := cell_of_block p4 2
  simp at c40 c41 c42
  have f40 := free_of_block p4 0
  have f41 := free_of_block p4 1
  have f42 := free_of_block p4 2
  by_cases hhe : heldE s x = 0
  rotate_left
  · have HR : Hid (RD = ([], noSet, heldE s x)) := Lib.hid (by rw [← HRD.out]; unfold doR; rw [if_neg (fun h => h HCE.out), if_pos hhe])
    have he1 : (heldE s x != 0) = true := by rw [bne_iff_ne]; exact hhe
    generalize heldE s x = ce at *
    clear hce hhe hs hbr HX HX0 HWX hb1 hb2 hwf HRD
    obtain ⟨z3, z4, zb, -⟩ := put_set p3 p4 (by omega) (.slice none 0 0) (.string ⟨#[]⟩) (.slice none 0 0) (.slice none 0 0)
    have hbz := zb _ _ hbw (by omega) (by omega)
    unfold putW at z3 z4 hbz
    have v3 := cell_of_one z3
    have v40 := cell_of_block z4 0
    have v41 := cell_of_block z4 1
    have v42 := cell_of_block z4 2
    simp at v40 v41 v42
    go_wp2_with fail
    refine bodyPost_ret (v := .tuple #[.agg #[.slice none 0 0], .agg #[.string ⟨#[]⟩, .slice none 0 0, .slice none 0 0], .int .i64 ce]) (by simp [results, Try.results32, go_sem, v3, v40, v41, v42]) rfl ?_
    rw [HR.out]
    exact doEnd_bad hbz
  rw [hhe]
  have hAR : RD = if (askR writeW s key x ⟨kind, aset, afile, ato, aat, an, abytes⟩).2.2 ≠ 0 then ([], noSet, (askR writeW s key x ⟨kind, aset, afile, ato, aat, an, abytes⟩).2.2) else askR writeW s key x ⟨kind, aset, afile, ato, aat, an, abytes⟩ := by rw [← HRD.out]; unfold doR; rw [if_neg (fun h => h hce), if_neg (fun h => h hhe)]
  have HAR := Lib.hid hAR
  have HRX := Lib.hid (setE_ok hce)
  have hz2 : w.heap.size + 5 ≤ w2.heap.size := by have h1 := hb1.size; have h2 := hb2.size; have h3 := HZ5.out; omega
  have HZW : Hid (w.heap.size ≤ w2.heap.size) := Lib.hid (by omega)
  clear hce hhe hAR HRD hb1 hb2 HX
  go_wp2_with fail
  refine (copy_any _ _ _ _ s HN.out hs hwf HC.out (by omega)).mono ?_
  rintro e w3 ⟨v, rfl, ho, hb3⟩
  clear c0 c10 c11 c12 l0 l1 c3 f3 c40 c41 c42 f40 f41 f42
  have p0 := (hb3.block _ (lt_heap p0)).trans p0
  have p1 := (hb3.block _ (lt_heap p1)).trans p1
  have p2 := (hb3.block _ (lt_heap p2)).trans p2
  have p3 := (hb3.block _ (lt_heap p3)).trans p3
  have p4 := (hb3.block _ (lt_heap p4)).trans p4
  have hbw3 := below_step hbw hb3
  have ho := ho.box p0 (by omega) v
  obtain ⟨a1, cap1, hv1, hc1, hr1⟩ := ho.sto
  rw [HN.out] at hv1 hc1
  subst hv1
  have c0 := cell_of_one p0
  have f0 := free_of_one p0
  have l0 := lt_heap p0
  have q0 := one_setCell (u := .slice a1 n cap1) p0
  have q1 : (w3.setCell ⟨w.heap.size, 0, none⟩ (.slice a1 n cap1)).heap[w.heap.size + 1]? = _ := heap_setCell_ne p1 (by simp)
  have q2 : (w3.setCell ⟨w.heap.size, 0, none⟩ (.slice a1 n cap1)).heap[w.heap.size + 1 + 1]? = _ := heap_setCell_ne p2 (by simp; omega)
  have q3 : (w3.setCell ⟨w.heap.size, 0, none⟩ (.slice a1 n cap1)).heap[w.heap.size + 1 + 1 + 1]? = _ := heap_setCell_ne p3 (by simp; omega)
  have q4 : (w3.setCell ⟨w.heap.size, 0, none⟩ (.slice a1 n cap1)).heap[w.heap.size + 1 + 1 + 1 + 1]? = _ := heap_setCell_ne p4 (by simp; omega)
  have hbw4 := hbw3.setCell (p := ⟨w.heap.size, 0, none⟩) (Nat.le_refl _) (.slice a1 n cap1)
  have hz4 : w2.heap.size ≤ (w3.setCell ⟨w.heap.size, 0, none⟩ (.slice a1 n cap1)).heap.size := by have := hb3.size; simpa using this
  have d0 := cell_of_block q1 0
  have d1 := cell_of_block q1 1
  have d2 := cell_of_block q1 2
  simp at d0 d1 d2
  have m1 := lt_heap q1
  clear hr1 hb3 p0 p1 p2 p3 p4 hs hbr hc1
  go_wp2_with fail
  generalize w3.setCell ⟨w.heap.size, 0, none⟩ (.slice a1 n cap1) = W4 at *
  refine (setCopy_any _ _ _ _ _ _ _ x (HX0.out.mono hbw4) HRX.out.small).mono ?_
  rintro e w5 ⟨fo2, fc2, so2, sc2, vs, rfl, hox, hb5⟩
  have q0 := (hb5.block _ (lt_heap q0)).trans q0
  have q1 := (hb5.block _ (lt_heap q1)).trans q1
  have q2 := (hb5.block _ (lt_heap q2)).trans q2
  have q3 := (hb5.block _ (lt_heap q3)).trans q3
  have q4 := (hb5.block _ (lt_heap q4)).trans q4
  have ho5 := ho.mono hb5
  have hb6 : Below w5.heap.size w5 (w5.alloc (.cells #[.pointer (some ⟨w.heap.size, 0, none⟩), .int .i64 key, .string x.nm, .slice fo2 fn fc2, .slice so2 sn sc2] 141)) := (Below.refl _ _).alloc (Nat.le_refl _) _
  have hn4 : n ≤ 400 := by have := (checkE_zero s HRX.out.chk).1; have := HN.out; omega
  have hA6 : AtIn (w5.alloc (.cells #[.pointer (some ⟨w.heap.size, 0, none⟩), .int .i64 key, .string x.nm, .slice fo2 fn fc2, .slice so2 sn sc2] 141)) w5.heap.size w.heap.size w2.heap.size W4.heap.size key a1 n cap1 s fo2 fn fc2 so2 sn sc2 x vs := by
    have hz5 := hb5.size
    have hz6 := hb6.size
    have hq0 := lt_heap q0
    refine ⟨heap_alloc_new w5 _, (hb6.block _ hq0).trans q0, ho5.mono hb6, OwnXb.mono hox hb6, HN.out, hn4, (Good.of_check HRX.out.chk hwf).kid4, hz4, by omega, hz5, by omega, fun g h1 h2 => ?_, fun e => ?_, fun e => ?_⟩
    · have h3 := ho.own_at h1 h2
      exact ⟨h3.lt, by have := h3.le; omega⟩
    · have h3 := hox.files
      rw [e] at h3
      have := h3.ge.2
      omega
    · have h3 := hox.snaps
      rw [e] at h3
      have := h3.ge.2
      omega
  have hbw6 := below_step (below_step hbw4 hb5) hb6
  have r2 := (hb6.block _ (lt_heap q2)).trans q2
  have r3 := (hb6.block _ (lt_heap q3)).trans q3
  have r4 := (hb6.block _ (lt_heap q4)).trans q4
  have k0 := cell_of_block q2 0
  simp only [List.getElem?_toArray, List.getElem?_cons_zero] at k0
  have lK := lt_heap q2
  have HZX : Hid (w.heap.size ≤ W4.heap.size) := Lib.hid hbw4.size
  clear hox hb5 ho ho5 q0 q1 q3 q4 d0 d1 d2 m1 c0 f0 l0 hb6
  go_upto_block 0 with fail
  generalize w5.alloc (Obj.cells #[Value.pointer (some ⟨w.heap.size, 0, none⟩), Value.int IntKind.i64 key, Value.string x.nm, Value.slice fo2 fn fc2, Value.slice so2 sn sc2] 141) = W6 at *
  have HA6 := Lib.hid hA6
  have HR2 := Lib.hid r2
  have HR3 := Lib.hid r3
  have HR4 := Lib.hid r4
  have HB6 := Lib.hid hbw6
  have HGD := Lib.hid (Good.of_check HRX.out.chk hwf)
  have HBR : Hid (Row .u8 W6 ba abytes) := Lib.hid (hbr0.mono hbw6)
  have hzb : w.heap.size + 5 ≤ w2.heap.size := hz2
  clear hA6 r3 r4 q2 k0 lK hbw6 hbw4 hbw3 hbw hbr0
  go_cut [14] from 41 to 59 (fun u wx => ∃ er t x7, u = .int .i64 er ∧ Hid (AtEnd W6 wx w5.heap.size w.heap.size w2.heap.size W4.heap.size key a1 n cap1 t x7.nm x7.files x7.snaps er) ∧ Hid (askR writeW s key x ⟨kind, aset, afile, ato, aat, an, abytes⟩ = (t, x7, er)))
  case first =>
    have k0 := cell_of_block HR2.out 0
    have k1 := cell_of_block HR2.out 1
    have k2 := cell_of_block HR2.out 2
    have k3 := cell_of_block HR2.out 3
    have k4 := cell_of_block HR2.out 4
    have k5 := cell_of_block HR2.out 5
    have k6 := cell_of_block HR2.out 6
    simp only [List.getElem?_toArray, List.getElem?_cons_succ, List.getElem?_cons_zero] at k0 k1 k2 k3 k4 k5 k6
    have lK := lt_heap HR2.out
    clear r2
    have HLV := Lib.hid HGD.out.lv.1
    have HRL := Lib.hid (HGD.out.refsL (by omega))
    have HLW := Lib.hid (HGD.out.low rfl (entsOk_roots HRX.out.files))
    have HRF := Lib.hid ((checkE_zero s HRX.out.chk).2.2.2.1)
    have HLWS : Hid (∀ y ∈ x.snaps, RootsLow s (rootsF y.files)) := Lib.hid fun y hy => HGD.out.low rfl (entsOk_roots (HRX.out.snaps y hy).2)
    have HF0 : Hid (fileE s key 0 0 = 0) := Lib.hid (file_empty HRX.out.chk HRX.out.kok).1
    rcases (show kind = 3 ∨ kind = 4 ∨ kind = 5 ∨ kind = 6 ∨ kind = 7 ∨ kind = 8 ∨ kind = 9 ∨ (kind ≠ 3 ∧ kind ≠ 4 ∧ kind ≠ 5 ∧ kind ≠ 6 ∧ kind ≠ 7 ∧ kind ≠ 8 ∧ kind ≠ 9) from by omega) with rfl | rfl | rfl | rfl | rfl | rfl | rfl | ⟨n3, n4, n5, n6, n7, n8, n9⟩
    · have HCL := Lib.hid (write_any2 _ _ _ _ _ _ _ _ _ _ _ bn bc key _ _ _ ba s x vs ⟨3, aset, afile, ato, aat, an, abytes⟩ HA6.out HRX.out.files.len HRX.out.files.rise hwf (fun y hy => (HRX.out.files.each y hy).2) HF0.out HBL.out HBR.out HBC.out HBY.out hb47)
      obtain ⟨WR, hWR⟩ : ∃ WR, writeW s key x.files ⟨3, aset, afile, ato, aat, an, abytes⟩ = WR := ⟨_, rfl⟩
      rw [hWR] at HCL
      have HWR := Lib.hid hWR
      clear hWR
      go_wp2_with fail
      refine HCL.out.mono ?_
      rintro e w7 ⟨rfl, hend⟩
      have HEND := Lib.hid hend
      clear hend k0 k1 k2 k3 k4 k5 k6 lK HCL
      go_wp2_with fail
      go_meet
      have h0 := HWR.out
      exact ⟨WR.2.2, WR.1, { x with files := WR.2.1 }, rfl, HEND, Lib.hid (by unfold askR; rw [if_pos (by simp), h0])⟩
    · have HCL := Lib.hid (write_any2 _ _ _ _ _ _ _ _ _ _ _ bn bc key _ _ _ ba s x vs ⟨4, aset, afile, ato, aat, an, abytes⟩ HA6.out HRX.out.files.len HRX.out.files.rise hwf (fun y hy => (HRX.out.files.each y hy).2) HF0.out HBL.out HBR.out HBC.out HBY.out hb47)
      obtain ⟨WR, hWR⟩ : ∃ WR, writeW s key x.files ⟨4, aset, afile, ato, aat, an, abytes⟩ = WR := ⟨_, rfl⟩
      rw [hWR] at HCL
      have HWR := Lib.hid hWR
      clear hWR
      go_wp2_with fail
      refine HCL.out.mono ?_
      rintro e w7 ⟨rfl, hend⟩
      have HEND := Lib.hid hend
      clear hend k0 k1 k2 k3 k4 k5 k6 lK HCL
      go_wp2_with fail
      go_meet
      have h0 := HWR.out
      exact ⟨WR.2.2, WR.1, { x with files := WR.2.1 }, rfl, HEND, Lib.hid (by unfold askR; rw [if_pos (by simp), h0])⟩
    · have HCL := Lib.hid (move_any _ _ _ _ _ _ _ _ _ _ _ bn bc key _ _ _ ba s x vs ⟨5, aset, afile, ato, aat, an, abytes⟩ HA6.out HRX.out.files.len HRX.out.files.rise HLV.out HRL.out HLW.out)
      obtain ⟨WR, hWR⟩ : ∃ WR, moveR s x.files ⟨5, aset, afile, ato, aat, an, abytes⟩ = WR := ⟨_, rfl⟩
      rw [hWR] at HCL
      have HWR := Lib.hid hWR
      clear hWR
      go_wp2_with fail
      refine HCL.out.mono ?_
      rintro e w7 ⟨rfl, hend⟩
      have HEND := Lib.hid hend
      clear hend k0 k1 k2 k3 k4 k5 k6 lK HCL
      go_wp2_with fail
      go_meet
      have h0 := HWR.out
      exact ⟨WR.2.2, WR.1, { x with files := WR.2.1 }, rfl, HEND, Lib.hid (by unfold askR; rw [if_neg (by simp), if_pos (by simp), h0])⟩
    · have HCL := Lib.hid (move_any _ _ _ _ _ _ _ _ _ _ _ bn bc key _ _ _ ba s x vs ⟨6, aset, afile, ato, aat, an, abytes⟩ HA6.out HRX.out.files.len HRX.out.files.rise HLV.out HRL.out HLW.out)
      obtain ⟨WR, hWR⟩ : ∃ WR, moveR s x.files ⟨6, aset, afile, ato, aat, an, abytes⟩ = WR := ⟨_, rfl⟩
      rw [hWR] at HCL
      have HWR := Lib.hid hWR
      clear hWR
      go_wp2_with fail
      refine HCL.out.mono ?_
      rintro e w7 ⟨rfl, hend⟩
      have HEND := Lib.hid hend
      clear hend k0 k1 k2 k3 k4 k5 k6 lK HCL
      go_wp2_with fail
      go_meet
      have h0 := HWR.out
      exact ⟨WR.2.2, WR.1, { x with files := WR.2.1 }, rfl, HEND, Lib.hid (by unfold askR; rw [if_neg (by simp), if_pos (by simp), h0])⟩
    · have HCL := Lib.hid (snap_new _ _ _ _ _ _ _ _ _ _ _ bn bc key _ _ _ ba s x vs ⟨7, aset, afile, ato, aat, an, abytes⟩ HA6.out HRX.out.small HRX.out.rise HLV.out HRF.out HLW.out HLWS.out (by simp))
      obtain ⟨WR, hWR⟩ : ∃ WR, snapsR s x ⟨7, aset, afile, ato, aat, an, abytes⟩ = WR := ⟨_, rfl⟩
      rw [hWR] at HCL
      have HWR := Lib.hid hWR
      clear hWR
      go_wp2_with fail
      refine HCL.out.mono ?_
      rintro e w7 ⟨rfl, hend⟩
      have HEND := Lib.hid hend
      clear hend k0 k1 k2 k3 k4 k5 k6 lK HCL
      go_wp2_with fail
      go_meet
      have h0 := HWR.out
      exact ⟨WR.2.2, WR.1, WR.2.1, rfl, HEND, Lib.hid (by unfold askR; rw [if_neg (by simp), if_neg (by simp), if_pos (by simp), h0])⟩
    · have HCL := Lib.hid (snap_old _ _ _ _ _ _ _ _ _ _ _ bn bc key _ _ _ ba s x vs ⟨8, aset, afile, ato, aat, an, abytes⟩ HA6.out HRX.out.small HRX.out.rise HLV.out HRF.out HLW.out HLWS.out (by simp))
      obtain ⟨WR, hWR⟩ : ∃ WR, snapsR s x ⟨8, aset, afile, ato, aat, an, abytes⟩ = WR := ⟨_, rfl⟩
      rw [hWR] at HCL
      have HWR := Lib.hid hWR
      clear hWR
      go_wp2_with fail
      refine HCL.out.mono ?_
      rintro e w7 ⟨rfl, hend⟩
      have HEND := Lib.hid hend
      clear hend k0 k1 k2 k3 k4 k5 k6 lK HCL
      go_wp2_with fail
      go_meet
      have h0 := HWR.out
      exact ⟨WR.2.2, WR.1, WR.2.1, rfl, HEND, Lib.hid (by unfold askR; rw [if_neg (by simp), if_neg (by simp), if_pos (by simp), h0])⟩
    · have HCL := Lib.hid (snap_old _ _ _ _ _ _ _ _ _ _ _ bn bc key _ _ _ ba s x vs ⟨9, aset, afile, ato, aat, an, abytes⟩ HA6.out HRX.out.small HRX.out.rise HLV.out HRF.out HLW.out HLWS.out (by simp))
      obtain ⟨WR, hWR⟩ : ∃ WR, snapsR s x ⟨9, aset, afile, ato, aat, an, abytes⟩ = WR := ⟨_, rfl⟩
      rw [hWR] at HCL
      have HWR := Lib.hid hWR
      clear hWR
      go_wp2_with fail
      refine HCL.out.mono ?_
      rintro e w7 ⟨rfl, hend⟩
      have HEND := Lib.hid hend
      clear hend k0 k1 k2 k3 k4 k5 k6 lK HCL
      go_wp2_with fail
      go_meet
      have h0 := HWR.out
      exact ⟨WR.2.2, WR.1, WR.2.1, rfl, HEND, Lib.hid (by unfold askR; rw [if_neg (by simp), if_neg (by simp), if_pos (by simp), h0])⟩
    · have m3 : (kind == 3) = false := by rw [beq_eq_false_iff_ne]; exact n3
      have m4 : (kind == 4) = false := by rw [beq_eq_false_iff_ne]; exact n4
      have m5 : (kind == 5) = false := by rw [beq_eq_false_iff_ne]; exact n5
      have m6 : (kind == 6) = false := by rw [beq_eq_false_iff_ne]; exact n6
      have m7 : (kind == 7) = false := by rw [beq_eq_false_iff_ne]; exact n7
      have m8 : (kind == 8) = false := by rw [beq_eq_false_iff_ne]; exact n8
      have m9 : (kind == 9) = false := by rw [beq_eq_false_iff_ne]; exact n9
      have HAK : Hid (askR writeW s key x ⟨kind, aset, afile, ato, aat, an, abytes⟩ = (s, x, 4)) := Lib.hid (by unfold askR; rw [if_neg (by simp only; omega), if_neg (by simp only; omega), if_neg (by simp only; omega)])
      clear n3 n4 n5 n6 n7 n8 n9
      go_wp2_with fail
      go_meet
      exact ⟨4, s, x, rfl, Lib.hid ⟨Below.refl _ _, fun h => by simp at h⟩, HAK⟩
  case rest =>
    clear r2
    obtain ⟨er, t, x7, rfl, hend, hask⟩ := hcut
    have hbw : Below w.heap.size w wc := HB6.out.trans (hend.out.1.mono (by omega))
    have p3 := (hend.out.1.block _ (by omega)).trans HR3.out
    have p4 := (hend.out.1.block _ (by omega)).trans HR4.out
    have c3 := cell_of_one p3
    have f3 := free_of_one p3
    have c40 := cell_of_block p4 0
    have c41 := cell_of_block p4 1
    have c42 := cell_of_block p4 2
    simp at c40 c41 c42
    have f40 := free_of_block p4 0
    have f41 := free_of_block p4 1
    have f42 := free_of_block p4 2
    by_cases he : er = 0
    rotate_left
    · have HR : Hid (RD = ([], noSet, er)) := Lib.hid (by rw [HAR.out, hask.out]; exact if_pos he)
      have he1 : (er != 0) = true := by rw [bne_iff_ne]; exact he
      clear hend hask he
      obtain ⟨z3, z4, zb, -⟩ := put_set p3 p4 (by omega) (.slice none 0 0) (.string ⟨#[]⟩) (.slice none 0 0) (.slice none 0 0)
      have hbz := zb _ _ hbw (by omega) (by omega)
      unfold putW at z3 z4 hbz
      have v3 := cell_of_one z3
      have v40 := cell_of_block z4 0
      have v41 := cell_of_block z4 1
      have v42 := cell_of_block z4 2
      simp at v40 v41 v42
      go_wp2_with fail
      refine bodyPost_ret (v := .tuple #[.agg #[.slice none 0 0], .agg #[.string ⟨#[]⟩, .slice none 0 0, .slice none 0 0], .int .i64 er]) (by simp [results, Try.results32, go_sem, v3, v40, v41, v42]) rfl ?_
      rw [HR.out]
      exact doEnd_bad hbz
    · subst he
      have HR : Hid (RD = (t, x7, 0)) := Lib.hid (by rw [HAR.out, hask.out]; exact if_neg (by simp))
      obtain ⟨-, hat⟩ := hend.out
      obtain ⟨fo7, fn7, fc7, so7, sn7, sc7, vs7, hA7⟩ := hat rfl
      obtain ⟨xn, xf, xs⟩ := x7
      simp only at hA7
      obtain ⟨z3, z4, zb, za⟩ := put_set p3 p4 (by omega) (.slice a1 n cap1) (.string xn) (.slice fo7 fn7 fc7) (.slice so7 sn7 sc7)
      have hbz := zb _ _ hbw (by omega) (by omega)
      have hA8 := za _ _ _ _ _ _ _ _ _ _ _ _ _ _ _ _ _ hA7 (by omega) (by omega) (by omega) (by omega)
      unfold putW at z3 z4 hbz hA8
      have a0 := cell_of_one hA7.sbox
      have b2 := cell_of_block hA7.abox 2
      have b3 := cell_of_block hA7.abox 3
      have b4 := cell_of_block hA7.abox 4
      simp only [List.getElem?_toArray, List.getElem?_cons_succ, List.getElem?_cons_zero] at b2 b3 b4
      have lA := lt_heap hA7.abox
      have lP := lt_heap hA7.sbox
      have v3 := cell_of_one z3
      have v40 := cell_of_block z4 0
      have v41 := cell_of_block z4 1
      have v42 := cell_of_block z4 2
      simp at v40 v41 v42
      have HA8 := Lib.hid hA8
      have HZB := Lib.hid hbz
      clear hend hask hat hA7 hA8 za zb hbz
      go_wp2_with fail
      go_region_with fail
      all_goals
        go_wp2_with fail
        refine bodyPost_ret (v := .tuple #[.agg #[.slice a1 n cap1], .agg #[.string xn, .slice fo7 fn7 fc7, .slice so7 sn7 sc7], .int .i64 0]) (by simp [results, Try.results32, go_sem, v3, v40, v41, v42]) rfl ?_
        rw [HR.out]
        have hA9 := HA8.out.mono (Below.refl _ _).drew
        obtain ⟨j1, j2, j3⟩ := hA9.own.read
        exact ⟨a1, n, cap1, fo7, fn7, fc7, so7, sn7, sc7, rfl, HZB.out.drew, j1, ⟨j2, fun g o e h => Nat.le_trans HZW.out (hA9.own.from_ g o e h)⟩, j3, OwnX.from_ hA9.ox HZX.out⟩
end Go.Proofs.Ytfmgdjgedhnmeaa

namespace Go.Proofs.Ytfmgdjgedhnmeaa
open Go.RowKit
set_option linter.unusedVariables false

/-- an answer -/
structure AnsV where
  e : Int
  n : Int
  names : List ByteArray
  bytes : List Int
def noAns : AnsV := ⟨0, 0, [], []⟩
def lookR (s : List Blk) (key : Int) (x : SetV) (a : AskV) : AnsV × Int :=
  if setE s key x ≠ 0 then (noAns, setE s key x)
  else if a.kind = 11 then
    (if placeB (x.files.map Ent.nm) a.file = false then (⟨5, 0, [], []⟩, 0)
     else if (readR s key (entAt x.files (placeN (x.files.map Ent.nm) a.file)).root (entAt x.files (placeN (x.files.map Ent.nm) a.file)).size a.at_ a.n).2 ≠ 0 then (⟨(readR s key (entAt x.files (placeN (x.files.map Ent.nm) a.file)).root (entAt x.files (placeN (x.files.map Ent.nm) a.file)).size a.at_ a.n).2, 0, [], []⟩, 0)
     else (⟨0, (entAt x.files (placeN (x.files.map Ent.nm) a.file)).size, [], (readR s key (entAt x.files (placeN (x.files.map Ent.nm) a.file)).root (entAt x.files (placeN (x.files.map Ent.nm) a.file)).size a.at_ a.n).1⟩, 0))
  else if a.kind = 12 then (⟨0, x.files.length, x.files.map Ent.nm, []⟩, 0)
  else (noAns, 4)
def cloneR (s : List Blk) (key : Int) (x : SetV) (frm name : ByteArray) : List Blk × SetV × Int :=
  if setE s key x ≠ 0 then ([], noSet, setE s key x) else if heldE s x ≠ 0 then ([], noSet, heldE s x)
  else if nameB name = false then ([], noSet, 1) else if placeB (x.snaps.map Snp.nm) frm = false then ([], noSet, 5)
  else (bump s (rootsF (snpAt x.snaps (placeN (x.snaps.map Snp.nm) frm)).files), ⟨name, (snpAt x.snaps (placeN (x.snaps.map Snp.nm) frm)).files, []⟩, 0)
def destroyR (s : List Blk) (key : Int) (x : SetV) : List Blk × Int :=
  if setE s key x ≠ 0 then ([], setE s key x) else if heldE s x ≠ 0 then ([], heldE s x) else (lessL s (rootsL x), 0)

/-- texts, side by side -/
def StrRow (w : World) (ao : Option Addr) (xs : List ByteArray) : Prop := xs = [] ∨ ∃ b o, ao = some ⟨b, o, none⟩ ∧ ∀ i (h : i < xs.length), w.cell? ⟨b, o + i, none⟩ = some (.string xs[i])
theorem StrRow.mono {w w' : World} {ao : Option Addr} {xs : List ByteArray} (h : StrRow w ao xs) (hb : Below w.heap.size w w') : StrRow w' ao xs := by
  rcases h with h | ⟨b, o, rfl, h⟩
  · exact .inl h
  · exact .inr ⟨b, o, rfl, fun i hi => by
      have hlt := World.block_lt_of_cell? _ _ (h i hi)
      exact (World.cell?_of_block (a := ⟨b, o + i, none⟩) (hb.block b hlt)).trans (h i hi)⟩

def OwnS (e base : Nat) (w : World) (v : Value) (xs : List ByteArray) : Prop := w.ownsRow base e 1 v xs.length (xs.map Value.string)
theorem OwnS.nil (e base : Nat) (w : World) : OwnS e base w (.slice none 0 0) [] := World.ownsRow_nil _ _ _ _
theorem OwnS.block {e base : Nat} {w : World} {v : Value} {xs : List ByteArray} (h : OwnS e base w v xs) :
    (v = .slice none 0 0 ∧ xs = []) ∨ ∃ g cap cur, v = .slice (some ⟨g, 0, none⟩) xs.length cap ∧ base ≤ g ∧ w.heap[g]? = some (.cells cur e (0, 0)) ∧ xs.length ≤ cap ∧ cap ≤ maxLen ∧ cur.size = cap ∧
      cur.toList.take xs.length = xs.map Value.string := by
  obtain ⟨h1, h2⟩ := h
  rcases h2 with ⟨h2, h3⟩ | ⟨g, cap, cur, hv, hg, hh, hn, hc, hs, ht⟩
  · exact .inl ⟨h2, List.eq_nil_of_length_eq_zero h3⟩
  · exact .inr ⟨g, cap, cur, hv, hg, hh, hn, hc, by simpa using hs, by simpa using ht⟩
theorem OwnS.keep {e base : Nat} {w w' : World} {v : Value} {xs : List ByteArray} (h : OwnS e base w v xs) (hk : ∀ b, base ≤ b → b < w.heap.size → w'.heap[b]? = w.heap[b]?) : OwnS e base w' v xs := by
  obtain ⟨h1, h2⟩ := h
  refine ⟨h1, ?_⟩
  rcases h2 with h2 | ⟨g, cap, cur, hv, hg, hh, r⟩
  · exact .inl h2
  · exact .inr ⟨g, cap, cur, hv, hg, by rw [hk g hg (lt_heap hh)]; exact hh, r⟩
theorem OwnS.mono {e base : Nat} {w w' : World} {v : Value} {xs : List ByteArray} (h : OwnS e base w v xs) (hb : Below w.heap.size w w') : OwnS e base w' v xs := h.keep fun b _ hl => hb.block b hl
theorem OwnS.shape {e base : Nat} {w : World} {v : Value} {xs : List ByteArray} (h : OwnS e base w v xs) : ∃ ao cap, v = .slice ao xs.length cap ∧ Capd ao xs.length cap ∧ StrRow w ao xs := by
  rcases h.block with ⟨rfl, rfl⟩ | ⟨g, cap, cur, rfl, hg, hh, hn, hc, hs, ht⟩
  · exact ⟨none, 0, rfl, ⟨Nat.le_refl _, fun _ => rfl⟩, .inl rfl⟩
  · refine ⟨_, cap, rfl, ⟨hn, fun h => by cases h⟩, .inr ⟨g, 0, rfl, fun i hi => ?_⟩⟩
    rw [Nat.zero_add, cell_of_block hh]
    have e1 : (cur.toList.take xs.length)[i]? = (xs.map Value.string)[i]? := by rw [ht]
    rw [List.getElem?_take, if_pos hi] at e1
    simp [hi] at e1
    simpa using e1

/-- append(xs, y) onto texts of the call's own -/
theorem append_str {P : Program} {w : World} {ops : Array Oper} {rest : List Oper} {o : Oper} {a : Act} {Q : Exit → Act → World → Prop} (hgd : o.guard = none) (s x : Operand) (t : TypeId)
    (ho : o.op = .call { callee := .builtin .append, args := #[s, x], argTypes := #[t, t] })
    (e bytes base : Nat) (ht : P.underlying t = some (.slice e)) (hinfo : (P.info? e).map (fun i => (i.zero, i.size, i.bytes)) = some (some (.string ⟨#[]⟩), 1, bytes))
    (v : Value) (xs : List ByteArray) (y : ByteArray) (hs : a.eval s = v) (hown : OwnS e base w v xs) (g : Nat) (hx : a.eval x = .slice (some ⟨g, 0, none⟩) 1 1) (hg : g = w.heap.size)
    (h63 : xs.length + 1 ≤ maxLen) (hbytes : (xs.length + 1) * bytes ≤ 140737488355328) (hbase : base ≤ w.heap.size)
    (h : ∀ v' w', OwnS e base w' v' (xs ++ [y]) → Below base w w' → wpList P ops Q rest (a.put o.dst v') w') :
    wpList P ops Q (o :: rest) a (w.alloc (.cells #[.string y] e)) := by
  subst hg
  obtain ⟨i0, hi, hz0, hz1, hz2⟩ := info_parts hinfo
  refine wpList_append_own _ hgd s x t ho base e i0 (.string ⟨#[]⟩) 1 bytes ht hi hz0 hz1 hz2 rfl (by decide) v _ _ hs (World.ownsRow.alloc hown _) ⟨w.heap.size, 0, none⟩ 1 1 [.string y] hx rfl ?_ ?_ h63 hbytes (by simp; omega) ?_
  · intro j u hj
    match j, hj with
    | 0, hj => simp at hj; subst hj; simp [Addr.add]
  · intro u hu; simp at hu; subst hu; rfl
  · intro v' w' hown' hg _
    refine h v' w' (by unfold OwnS; simpa using hown') ?_
    have h1 : Below base w (w.alloc (.cells #[.string y] e)) := (Below.refl _ _).alloc hbase _
    refine h1.grown hg (by simp; omega) fun j hj => ?_
    exact (World.ownsRow.lt hown j hj).1
theorem info_str : (Try.prog.info? 9).map (fun i => (i.zero, i.size, i.bytes)) = some (some (.string ⟨#[]⟩), 1, 16) := by kernel_rfl

/-- what Look answers -/
def LookEnd (e : Ending) (w w' : World) (r : AnsV × Int) : Prop :=
  ∃ (na : Option Addr) (nn nc : Nat) (ba : Option Addr) (bn bc : Nat), e = .returned (.tuple #[.agg #[.int .i64 r.1.e, .int .i64 r.1.n, .slice na nn nc, .slice ba bn bc], .int .i64 r.2]) ∧ Below w.heap.size w w' ∧ r.1.names.length = nn ∧ r.1.bytes.length = bn ∧ StrRow w' na r.1.names ∧ Row .u8 w' ba r.1.bytes ∧ Capd na nn nc ∧ Capd ba bn bc
theorem lookEnd_none {w w' : World} {e n c : Int} (hb : Below w.heap.size w w') : LookEnd (.returned (.tuple #[.agg #[.int .i64 e, .int .i64 n, .slice none 0 0, .slice none 0 0], .int .i64 c])) w w' (⟨e, n, [], []⟩, c) :=
  ⟨none, 0, 0, none, 0, 0, rfl, hb, rfl, rfl, .inl rfl, .inl rfl, ⟨Nat.le_refl _, fun _ => rfl⟩, ⟨Nat.le_refl _, fun _ => rfl⟩⟩

/-- an answer is written -/
def putA (X : World) (k : Nat) (u0 u1 u2 u3 : Value) : World := (((X.setCell ⟨k, 0, none⟩ u0).setCell ⟨k, 1, none⟩ u1).setCell ⟨k, 2, none⟩ u2).setCell ⟨k, 3, none⟩ u3
theorem put_ans {X : World} {k t nn nc bn bc : Nat} {a b : Int} {na ba : Option Addr} (p : X.heap[k]? = some (.cells #[.int .i64 a, .int .i64 b, .slice na nn nc, .slice ba bn bc] t (0, 0))) (u0 u1 u2 u3 : Value) :
    (putA X k u0 u1 u2 u3).heap[k]? = some (.cells #[u0, u1, u2, u3] t (0, 0)) ∧ (∀ B w0, Below B w0 X → B ≤ k → Below B w0 (putA X k u0 u1 u2 u3)) ∧ (∀ b, b ≠ k → (putA X k u0 u1 u2 u3).heap[b]? = X.heap[b]?) ∧ (putA X k u0 u1 u2 u3).heap.size = X.heap.size ∧
    (∀ ao xs, Row .u8 X ao xs → Row .u8 (putA X k u0 u1 u2 u3) ao xs) ∧ (∀ ao xs, StrRow X ao xs → StrRow (putA X k u0 u1 u2 u3) ao xs) := by
  have r0 := heap_setCell_same' p 0 u0
  have r1 := heap_setCell_same' r0 1 u1
  have r2 := heap_setCell_same' r1 2 u2
  have r3 := heap_setCell_same' r2 3 u3
  simp only [List.setIfInBounds_toArray, List.set_cons_zero, List.set_cons_succ] at r3
  have hne : ∀ b, b ≠ k → (putA X k u0 u1 u2 u3).heap[b]? = X.heap[b]? := fun b hb => (((Below.heap_setCell _ _ _ _ hb).trans (Below.heap_setCell _ _ _ _ hb)).trans (Below.heap_setCell _ _ _ _ hb)).trans (Below.heap_setCell _ _ _ _ hb)
  have key0 : ∀ o v, X.cell? ⟨k, o, none⟩ = some v → (∃ x, v = .int .i64 x) ∨ ∃ p q r, v = .slice p q r := by
    intro o v hv
    rw [cell_of_block p] at hv
    rcases (show o = 0 ∨ o = 1 ∨ o = 2 ∨ o = 3 ∨ 4 ≤ o from by omega) with rfl | rfl | rfl | rfl | e
    · simp at hv; exact .inl ⟨a, hv.symm⟩
    · simp at hv; exact .inl ⟨b, hv.symm⟩
    · simp at hv; exact .inr ⟨_, _, _, hv.symm⟩
    · simp at hv; exact .inr ⟨_, _, _, hv.symm⟩
    · rw [Array.getElem?_eq_none (by simp; omega)] at hv; cases hv
  refine ⟨r3, fun B w0 h h1 => (((h.setCell (p := ⟨k, 0, none⟩) h1 _).setCell (p := ⟨k, 1, none⟩) h1 _).setCell (p := ⟨k, 2, none⟩) h1 _).setCell (p := ⟨k, 3, none⟩) h1 _, hne, by simp [putA], fun ao xs h => ?_, fun ao xs h => ?_⟩
  · rcases Nat.eq_zero_or_pos xs.length with h0 | h0
    · exact .inl (List.eq_nil_of_length_eq_zero h0)
    · obtain ⟨b, o, rfl, hc⟩ := h.at 0 h0
      have hb : b ≠ k := by
        rintro rfl
        rcases key0 _ _ (hc 0 h0) with ⟨x, e⟩ | ⟨p, q, r, e⟩ <;> cases e
      exact .inr ⟨b, o, rfl, fun i hi => (World.cell?_of_block (a := ⟨b, o + i, none⟩) (hne b hb)).trans (hc i hi)⟩
  · rcases h with h | ⟨b, o, rfl, hc⟩
    · exact .inl h
    · rcases Nat.eq_zero_or_pos xs.length with h0 | h0
      · exact .inl (List.eq_nil_of_length_eq_zero h0)
      · have hb : b ≠ k := by
          rintro rfl
          rcases key0 _ _ (hc 0 h0) with ⟨x, e⟩ | ⟨p, q, r, e⟩ <;> cases e
        exact .inr ⟨b, o, rfl, fun i hi => (World.cell?_of_block (a := ⟨b, o + i, none⟩) (hne b hb)).trans (hc i hi)⟩
end Go.Proofs.Ytfmgdjgedhnmeaa

namespace Go.Proofs.Ytfmgdjgedhnmeaa
open Go
set_option linter.unusedVariables false

section
variable {P : Program} {md : Region.Mode} {w : World}

/-- each of the first n waits for earlier ones only, and is not guarded -/
def lowB (md : Region.Mode) (ops : Array Oper) (n : Nat) : Bool :=
  (List.range n).all fun i => match ops[i]? with
    | some o => o.guard.isNone && o.after.all fun e => !Region.binds md e || decide (e.on < i)
    | none => false
/-- each one behind the n-th waits for one from the n-th on -/
def upB (md : Region.Mode) (ops : Array Oper) (n : Nat) : Bool :=
  (List.range ops.size).all fun t => decide (t ≤ n) || (List.range t).any fun j => decide (n ≤ j) && Region.waitsFor md ops t j

theorem low_at {ops : Array Oper} {n i : Nat} (h : lowB md ops n = true) (hi : i < n) : ∃ o, ops[i]? = some o ∧ o.guard = none ∧ ∀ e ∈ o.after, Region.binds md e = true → e.on < i := by
  have h1 := List.all_eq_true.1 h i (List.mem_range.2 hi)
  cases ho : ops[i]? with
  | none => rw [ho] at h1; cases h1
  | some o =>
    rw [ho] at h1
    simp only [Bool.and_eq_true, Option.isNone_iff_eq_none] at h1
    refine ⟨o, rfl, h1.1, fun e he hb => ?_⟩
    have h2 := Array.all_eq_true_iff_forall_mem.1 h1.2 e he
    simpa [hb] using h2

theorem not_yet {ops : Array Oper} {n i : Nat} {listed : Array Bool} (hs : Region.sinkB md ops n = true) (hu : upB md ops n = true) (inv : HeadInv md ops n listed) (hi : i < n) (hun : listed.getD i true = false) :
    ∀ t, n ≤ t → t ∉ Region.ready md ops listed := by
  intro t ht hr
  obtain ⟨hut, ot, hot, hall⟩ := mem_ready.1 hr
  have htl : t < ops.size := (Array.getElem?_eq_some_iff.1 hot).1
  rcases Nat.eq_or_lt_of_le ht with rfl | hgt
  · have H : ∀ d k, n - k = d → k < n → listed.getD k false = true := by
      intro d
      induction d using Nat.strongRecOn with
      | _ d ih =>
        intro k hd hk
        obtain ⟨j, hj, hj2⟩ := List.any_eq_true.1 (List.all_eq_true.1 hs k (List.mem_range.2 hk))
        simp only [Bool.and_eq_true, decide_eq_true_eq] at hj2
        have hjn := List.mem_range.1 hj
        obtain ⟨oj, hoj, e, he, hb, rfl⟩ := Region.waitsFor_spec hj2.2
        by_cases hjt : j = n
        · subst hjt
          rw [hoj] at hot
          cases hot
          exact hall e he hb
        · exact inv.closed j oj hoj (ih (n - j) (by omega) j rfl (by omega)) e he hb
    have := H _ i rfl hi
    rw [getD_both hun] at this
    cases this
  · have h1 := List.all_eq_true.1 hu t (List.mem_range.2 htl)
    simp only [Bool.or_eq_true, decide_eq_true_eq] at h1
    obtain ⟨j, hj, hj2⟩ := List.any_eq_true.1 (h1.resolve_left (by omega))
    simp only [Bool.and_eq_true, decide_eq_true_eq] at hj2
    obtain ⟨oj, hoj, e, he, hb, rfl⟩ := Region.waitsFor_spec hj2.2
    rw [hot] at hoj
    cases hoj
    have h2 := hall e he hb
    rw [getD_both (inv.tail e.on hj2.1 (by have := List.mem_range.1 hj; omega))] at h2
    cases h2

theorem some_ready {ops : Array Oper} {n : Nat} {listed : Array Bool} (hl : lowB md ops n = true) (hsz : listed.size = ops.size) (hn : n ≤ ops.size) : ∀ i, i < n → listed.getD i true = false → ∃ j, j < n ∧ j ∈ Region.ready md ops listed := by
  intro i
  induction i using Nat.strongRecOn with
  | _ i ih =>
    intro hi hun
    obtain ⟨o, ho, -, hlow⟩ := low_at hl hi
    by_cases hall : ∀ e ∈ o.after, Region.binds md e = true → listed.getD e.on false = true
    · exact ⟨i, hi, mem_ready.2 ⟨hun, o, ho, hall⟩⟩
    · obtain ⟨e, he⟩ := Classical.not_forall.1 hall
      obtain ⟨he1, he2⟩ := Classical.not_imp.1 he
      obtain ⟨hb, hf⟩ := Classical.not_imp.1 he2
      have hlt := hlow e he1 hb
      have hu2 : listed.getD e.on true = false := by
        have hin : e.on < listed.size := by omega
        cases hg : listed.getD e.on true with
        | false => rfl
        | true =>
          refine absurd ?_ hf
          simp [hin] at hg ⊢
          exact hg
      exact ih e.on hlt (by omega) hu2

/-- the first n as a region of their own -/
structure Halves (n : Nat) (listed half : Array Bool) : Prop where
  size : half.size = n
  eq : ∀ j, j < n → ∀ d, listed.getD j d = half.getD j d
theorem Halves.set {n i : Nat} {listed half : Array Bool} (h : Halves n listed half) (hi : i < n) (hl : n ≤ listed.size) : Halves n (listed.setIfInBounds i true) (half.setIfInBounds i true) := by
  refine ⟨by simp [h.size], fun j hj d => ?_⟩
  have hs := h.size
  by_cases hij : i = j
  · subst hij
    have h1 : i < listed.size := by omega
    have h2 : i < half.size := by omega
    simp [h1, h2]
  · rw [getD_set_ne d hij, getD_set_ne d hij]
    exact h.eq j hj d

theorem half_get {l : List Oper} {n i : Nat} (hi : i < n) : (l.take n).toArray[i]? = l.toArray[i]? := by simp [hi]
theorem half_ready {l : List Oper} {n i : Nat} {listed half : Array Bool} (hl : lowB md l.toArray n = true) (h : Halves n listed half) (hi : i < n) (hr : i ∈ Region.ready md l.toArray listed) : i ∈ Region.ready md (l.take n).toArray half := by
  obtain ⟨hu, o, ho, hall⟩ := mem_ready.1 hr
  obtain ⟨o', ho', -, hlow⟩ := low_at hl hi
  rw [ho] at ho'
  cases ho'
  exact mem_ready.2 ⟨by rw [← h.eq i hi]; exact hu, o, by rw [half_get hi]; exact ho, fun e he hb => by rw [← h.eq e.on (by have := hlow e he hb; omega)]; exact hall e he hb⟩

theorem stOp_half {l : List Oper} {n i : Nat} {K : Act → Prop} {a : Act} (hl : lowB md l.toArray n = true) (hi : i < n) (h : stOp P (l.take n).toArray w i K a) : stOp P l.toArray w i K a := by
  obtain ⟨o, ho, hg, -⟩ := low_at hl hi
  unfold stOp at h ⊢
  rw [half_get hi, ho] at h
  rw [ho]
  simp only [Region.wanted, hg] at h ⊢
  exact h

theorem any_of_half {l : List Oper} {n g : Nat} {Lq : Act → Prop} {Q' : Exit → Act → World → Prop} (hl : lowB md l.toArray n = true) (hs : Region.sinkB md l.toArray n = true) (hu : upB md l.toArray n = true) (hn : n < l.length)
    (hL : ∀ listed a, listed.size = l.length → (∀ j, j < n → listed.getD j true = true) → (∀ t, n ≤ t → t < l.length → listed.getD t true = false) → Lq a → wpAny P md l.toArray Q' g listed a w) :
    ∀ (f : Nat) (listed half : Array Bool) (a : Act), HeadInv md l.toArray n listed → Halves n listed half → half.toList.countP (fun b => !b) = f → wpAnyS P md (l.take n).toArray w Lq f half a → wpAny P md l.toArray Q' (f + g) listed a w := by
  intro f
  induction f with
  | zero =>
    intro listed half a inv hh hc h
    rw [Nat.zero_add]
    refine hL listed a (by rw [inv.size]; simp) (fun j hj => ?_) (fun t h1 h2 => inv.tail t h1 (by simpa using h2)) h.2
    have hjs : j < half.size := by rw [hh.size]; exact hj
    have h1 := List.countP_eq_zero.1 hc half[j] (Array.getElem_mem_toList hjs)
    rw [hh.eq j hj true]
    simp [hjs]
    simpa using h1
  | succ f ih =>
    intro listed half a inv hh hc h
    have hsz : listed.size = l.length := by rw [inv.size]; simp
    obtain ⟨i0, hi0, hun0⟩ : ∃ i, i < n ∧ listed.getD i true = false := by
      obtain ⟨b, hb, hb2⟩ := List.countP_pos_iff.1 (show 0 < half.toList.countP (fun b => !b) by omega)
      obtain ⟨i, hi, rfl⟩ := List.getElem_of_mem hb
      have hi2 : i < half.size := by simpa using hi
      refine ⟨i, by rw [← hh.size]; exact hi2, ?_⟩
      rw [hh.eq i (by rw [← hh.size]; exact hi2) true]
      simp [hi2]
      simpa using hb2
    obtain ⟨j0, hj0, hr0⟩ := some_ready hl (by rw [inv.size]) (by simp; omega) i0 hi0 hun0
    rw [show f + 1 + g = (f + g) + 1 by omega]
    refine ⟨fun h0 => (by rw [h0] at hr0; cases hr0), fun i hi => ?_⟩
    have hin : i < n := by
      rcases Nat.lt_or_ge i n with h1 | h1
      · exact h1
      · exact absurd hi (not_yet hs hu inv hi0 hun0 i h1)
    have hih := half_ready hl hh hin hi
    refine wpOp_of_stOp (fun a' h' => ih _ _ a' (inv.set hi hin) (hh.set hin (by omega)) ?_ h') (stOp_half hl hin (h.2 i hih))
    have hlt : i < half.toList.length := by rw [Array.length_toList, hh.size]; exact hin
    have hu1 : half.toList[i] = false := by
      have := (mem_ready.1 hih).1
      have hi2 : i < half.size := by rw [hh.size]; exact hin
      simp [hi2] at this
      simpa using this
    rw [Array.toList_setIfInBounds, List.countP_set hlt, hu1, hc]
    simp

/-- the n-th alone is next, and then the rest in any order -/
def midB (l : List Oper) (n : Nat) : Bool :=
  decide (n < l.length) && (lowB .any l.toArray n && (Region.sinkB .any l.toArray n && (upB .any l.toArray n && (Region.lexB .any (l.take n).toArray && (Region.noSelect l.toArray && ((l[n]?.bind (·.guard)).isNone &&
    (decide (Region.ready .any l.toArray (Array.replicate n true ++ Array.replicate (l.length - n) false) = [n]) && Region.lexFrom .any l.toArray (l.length - (n + 1)) (n + 1) (Array.replicate (n + 1) true ++ Array.replicate (l.length - (n + 1)) false))))))))

theorem wp_region_mid {id : Nat} {Q : Exit → Act → World → Prop} {a : Act} {l : List Oper} (n : Nat) (o : Oper) (ho : l[n]? = some o) (hm : P.follows .mixedOrders = true) (hB : midB l n = true)
    (h : wpStill P (l.take n).toArray { w with drawn := w.drawn + 1 } (fun a' => ∀ K : Act → World → Prop, (∀ a2 w2, wpStill P l.toArray w2 (fun a3 => Q .normal a3 w2) (l.drop (n + 1)) a2 → K a2 w2) → o.wp P a' { w with drawn := w.drawn + 1 } K Q) (l.take n) a) :
    (Code.region id l.toArray true).wp P Q a w := by
  simp only [midB, Bool.and_eq_true, decide_eq_true_eq] at hB
  obtain ⟨hn, hl, hs, hu, hx, hsel, hg, hrd, hlx⟩ := hB
  simp only [Region.lexB, Bool.and_eq_true] at hx
  have htl : (l.take n).length = n := by simp; omega
  have hS := wpAnyS_lex (md := .any) hx.1 (l.take n) 0 (Array.replicate n false) a (fun j => by simp) (by have := hx.2; simp only [List.size_toArray, htl] at this; rw [htl]; exact this) h
  rw [htl] at hS
  have inv0 : HeadInv .any l.toArray n (Array.replicate l.length false) :=
    ⟨by simp, fun j oj _ hl => (by rw [getD_replicate_false] at hl; cases hl), fun t _ ht => getD_in (by simpa using ht) (getD_replicate_false _ _)⟩
  have hh0 : Halves n (Array.replicate l.length false) (Array.replicate n false) := ⟨by simp, fun j hj d => by
    have h1 : j < l.length := by omega
    simp [hj, h1]⟩
  have hmain := any_of_half (P := P) (w := { w with drawn := w.drawn + 1 }) (Q' := Q) (g := (l.length - (n + 1)) + 1) hl hs hu hn (fun listed a' hsz hlo hhi hL => ?_) n _ _ a inv0 hh0 (by simp [List.countP_replicate]) hS
  · refine wp_region_any hm ?_
    rw [show n + ((l.length - (n + 1)) + 1) = l.toArray.size by simp; omega] at hmain
    simpa using hmain
  · have he : listed = Array.replicate n true ++ Array.replicate (l.length - n) false := by
      refine Array.ext (by simp [hsz]; omega) fun j h1 h2 => ?_
      have hjl : j < l.length := by omega
      rcases Nat.lt_or_ge j n with h3 | h3
      · have := hlo j h3
        simp [h1] at this
        rw [this, Array.getElem_append_left (by simpa using h3)]
        simp
      · have := hhi j h3 hjl
        simp [h1] at this
        rw [this, Array.getElem_append_right (by simpa using h3)]
        simp
    have he2 : listed.setIfInBounds n true = Array.replicate (n + 1) true ++ Array.replicate (l.length - (n + 1)) false := by
      rw [he]
      refine Array.ext (by simp; omega) fun j h1 h2 => ?_
      have hjl : j < l.length := by simp at h1; omega
      rw [Array.getElem_setIfInBounds (by simpa using h1)]
      rcases Nat.lt_trichotomy j n with h3 | h3 | h3
      · rw [if_neg (by omega), Array.getElem_append_left (by simpa using h3), Array.getElem_append_left (by simp; omega)]
        simp
      · rw [if_pos h3.symm, Array.getElem_append_left (by simp; omega)]
        simp
      · rw [if_neg (by omega), Array.getElem_append_right (by simp; omega), Array.getElem_append_right (by simp; omega)]
        simp
    rw [← he] at hrd
    refine ⟨fun h0 => (by rw [hrd] at h0; cases h0), fun i hi => ?_⟩
    rw [hrd] at hi
    obtain rfl : i = n := by simpa using hi
    have hoa : l.toArray[i]? = some o := by simpa using ho
    have hgo : o.guard = none := by rw [ho] at hg; simpa using hg
    have hK := hL (wpAny P .any l.toArray Q (l.length - (i + 1)) (listed.setIfInBounds i true)) fun a2 w2 h2 => by
      rw [he2]
      have hdl : (l.drop (i + 1)).length = l.length - (i + 1) := by simp
      have := wpAnyS_lex (P := P) (w := w2) (md := .any) hsel (l.drop (i + 1)) (i + 1) (Array.replicate (i + 1) true ++ Array.replicate (l.length - (i + 1)) false) a2 (fun j => by simp [List.getElem?_drop]) (by rw [hdl]; exact hlx) h2
      rw [hdl] at this
      exact wpAny_of_still (fun _ h => h) _ _ _ this
    unfold wpOp
    simp only [hoa]
    rw [if_pos (by simp [Region.wanted, hgo])]
    exact .inl hK
end
end Go.Proofs.Ytfmgdjgedhnmeaa

namespace Go.Proofs.Ytfmgdjgedhnmeaa
open Go.RowKit
set_option linter.unusedVariables false

theorem names_take (l : List Ent) (k : Nat) (h : k < l.length) : (l.take (k + 1)).map Ent.nm = (l.take k).map Ent.nm ++ [l[k].nm] := by
  rw [List.take_succ_eq_append_getElem h, List.map_append]
  rfl

set_option maxRecDepth 100000 in
set_option maxHeartbeats 16000000 in
theorem look_any (w : World) (ao fo so ba : Option Addr) (n cap fn fc sn sc bn bc : Nat) (s : List Blk) (key : Int) (x : SetV) (a : AskV) (hn : s.length = n) (h41 : n ≤ 1152921504606846976) (hs : StoRow w ao s) (hwf : WfS s) (hc : Capd ao n cap) (hx : SetIn w fo fn fc so sn sc x) (hwx : WfX x) :
    Calls Try.prog 101 #[.agg #[.slice ao n cap], .int .i64 key, .agg #[.string x.nm, .slice fo fn fc, .slice so sn sc], .agg #[.int .i64 a.kind, .string a.sname, .string a.file, .string a.dest, .int .i64 a.at_, .int .i64 a.n, .slice ba bn bc]] w fun e w' => LookEnd e w w' (lookR s key x a) := by
  have HN := Lib.hid hn
  have HC := Lib.hid hc
  have HX0 := Lib.hid hx
  have HWX := Lib.hid hwx
  obtain ⟨RD, hRD⟩ : ∃ RD, lookR s key x a = RD := ⟨_, rfl⟩
  rw [hRD]
  obtain ⟨kind, aset, afile, ato, aat, an, abytes⟩ := a
  unfold lookR at hRD
  simp only at hRD
  have HRD := Lib.hid hRD
  obtain ⟨hb0, p0, p1, p2, p3, hz4⟩ := four_allocs w (.cells #[.slice ao n cap] 24) (.cells #[.string x.nm, .slice fo fn fc, .slice so sn sc] 28) (.cells #[.int .i64 kind, .string aset, .string afile, .string ato, .int .i64 aat, .int .i64 an, .slice ba bn bc] 67) (.cells #[.int .i64 0, .int .i64 0, .slice none 0 0, .slice none 0 0] 70)
  have HZ4 := Lib.hid hz4
  clear hn hc hx hwx hRD hz4
  go_enter Try.func101, Try.ntmps101
  go_wp2_with fail
  have hs0 := Lib.hid hs
  have hs := hs.mono hb0
  have HX := Lib.hid (HX0.out.mono hb0)
  generalize (((w.alloc (Obj.cells #[Value.slice ao n cap] 24)).alloc (Obj.cells #[Value.string x.nm, Value.slice fo fn fc, Value.slice so sn sc] 28)).alloc (Obj.cells #[Value.int IntKind.i64 kind, Value.string aset, Value.string afile, Value.string ato, Value.int IntKind.i64 aat, Value.int IntKind.i64 an, Value.slice ba bn bc] 67)).alloc (Obj.cells #[Value.int IntKind.i64 0, Value.int IntKind.i64 0, Value.slice none 0 0, Value.slice none 0 0] 70) = W0 at *
  refine (setCheck_any _ _ _ _ _ _ _ _ _ _ s key x HN.out (by omega) hs hwf HX.out HWX.out).mono ?_
  rintro e w1 ⟨rfl, hb1⟩
  have p0 := (hb1.block _ (lt_heap p0)).trans p0
  have p1 := (hb1.block _ (lt_heap p1)).trans p1
  have p2 := (hb1.block _ (lt_heap p2)).trans p2
  have p3 := (hb1.block _ (lt_heap p3)).trans p3
  have hbw := below_step hb0 hb1
  have c0 := cell_of_one p0
  have c10 := cell_of_block p1 0
  have c11 := cell_of_block p1 1
  have c12 := cell_of_block p1 2
  have k0 := cell_of_block p2 0
  have k2 := cell_of_block p2 2
  have k4 := cell_of_block p2 4
  have k5 := cell_of_block p2 5
  have c30 := cell_of_block p3 0
  have c31 := cell_of_block p3 1
  have c32 := cell_of_block p3 2
  have c33 := cell_of_block p3 3
  simp only [List.getElem?_toArray, List.getElem?_cons_succ, List.getElem?_cons_zero] at c10 c11 c12 k0 k2 k4 k5 c30 c31 c32 c33
  have l0 := lt_heap p0
  have l1 := lt_heap p1
  have l2 := lt_heap p2
  have l3 := lt_heap p3
  have f3 := fun j => free_of_block p3 j
  have HP3 := Lib.hid p3
  have HBW := Lib.hid hbw
  have HPUT := Lib.hid (fun (X : World) (hX : Below w1.heap.size w1 X) (e n c : Int) => put_ans ((hX.block _ l3).trans p3) (.int .i64 e) (.int .i64 n) (.slice none 0 0) (.slice none 0 0))
  by_cases hce : setE s key x = 0
  rotate_left
  · have HR : Hid (RD = (noAns, setE s key x)) := Lib.hid (by rw [← HRD.out, if_pos hce])
    have he1 : (setE s key x != 0) = true := by rw [bne_iff_ne]; exact hce
    generalize setE s key x = ce at *
    clear hs hce HX HX0 HWX hb1 hwf HRD hs0 HPUT
    obtain ⟨z3, zb, -⟩ := put_ans p3 (.int .i64 0) (.int .i64 0) (.slice none 0 0) (.slice none 0 0)
    have hbz := zb _ _ hbw (by omega)
    unfold putA at z3 hbz
    have v0 := cell_of_block z3 0
    have v1 := cell_of_block z3 1
    have v2 := cell_of_block z3 2
    have v3 := cell_of_block z3 3
    simp only [List.getElem?_toArray, List.getElem?_cons_succ, List.getElem?_cons_zero] at v0 v1 v2 v3
    clear zb
    go_wp2_with fail
    refine bodyPost_ret (v := .tuple #[.agg #[.int .i64 0, .int .i64 0, .slice none 0 0, .slice none 0 0], .int .i64 ce]) (by simp [results, Try.results101, go_sem, v0, v1, v2, v3]) rfl ?_
    rw [HR.out]
    exact lookEnd_none hbz
  have HR0 := HRD.out.symm
  rw [if_neg (fun h => h hce)] at HR0
  have HR1 := Lib.hid HR0
  have HRX := Lib.hid (setE_ok hce)
  have HS1 := Lib.hid (hs.mono hb1)
  have HX1 := Lib.hid (HX0.out.mono hbw)
  rw [hce]
  clear hs hce HX HX0 hb1 HRD hs0 HR0
  by_cases h11 : kind = 11
  · subst h11
    have hR := HR1.out
    rw [if_pos rfl] at hR
    obtain ⟨PN, hPN⟩ : ∃ PN, placeN (x.files.map Ent.nm) afile = PN := ⟨_, rfl⟩
    obtain ⟨PB, hPB⟩ : ∃ PB, placeB (x.files.map Ent.nm) afile = PB := ⟨_, rfl⟩
    have HPLT : Hid (PB = true → PN < fn) := Lib.hid fun h => by rw [← hPN, ← HX1.out.flen]; have := (placeB_lt (hPB.trans h)).1; rwa [List.length_map] at this
    have HPL := Lib.hid (place_any w1 fo fn fc x.files afile HX1.out.flen (by have := HRX.out.files.len; have := HX1.out.flen; omega) HX1.out.frow HRX.out.files.rise)
    rw [hPN, hPB] at HPL hR
    have HR2 := Lib.hid hR
    clear hPN hPB hR HR1
    go_wp2_with fail
    refine HPL.out.mono ?_
    rintro e w2 ⟨rfl, hb2⟩
    have hbw2 := below_step hbw hb2
    have HS2 := Lib.hid (HS1.out.mono hb2)
    have HX2 := Lib.hid (HX1.out.mono hb2)
    have p0 := (hb2.block _ l0).trans p0
    have p1 := (hb2.block _ l1).trans p1
    have p2 := (hb2.block _ l2).trans p2
    have p3 := (hb2.block _ l3).trans p3
    clear c0 c10 c11 c12 k0 k2 k4 k5 c30 c31 c32 c33 l0 l1 l2 l3 f3 HS1 HX1 HPL hb2 HP3 HBW HPUT
    have c0 := cell_of_one p0
    have c11 := cell_of_block p1 1
    have k4 := cell_of_block p2 4
    have k5 := cell_of_block p2 5
    have c30 := cell_of_block p3 0
    have c31 := cell_of_block p3 1
    have c32 := cell_of_block p3 2
    have c33 := cell_of_block p3 3
    simp only [List.getElem?_toArray, List.getElem?_cons_succ, List.getElem?_cons_zero] at c11 k4 k5 c30 c31 c32 c33
    have l0 := lt_heap p0
    have l1 := lt_heap p1
    have l2 := lt_heap p2
    have l3 := lt_heap p3
    have f3 := fun j => free_of_block p3 j
    cases PB with
    | false =>
      have HR : Hid (RD = (⟨5, 0, [], []⟩, 0)) := Lib.hid (by rw [HR2.out, if_pos rfl])
      obtain ⟨z3, zb, -⟩ := put_ans p3 (.int .i64 5) (.int .i64 0) (.slice none 0 0) (.slice none 0 0)
      have hbz := zb _ _ hbw2 (by omega)
      unfold putA at z3 hbz
      have v0 := cell_of_block z3 0
      have v1 := cell_of_block z3 1
      have v2 := cell_of_block z3 2
      have v3 := cell_of_block z3 3
      simp only [List.getElem?_toArray, List.getElem?_cons_succ, List.getElem?_cons_zero] at v0 v1 v2 v3
      clear zb HR2
      go_wp2_with fail
      refine bodyPost_ret (v := .tuple #[.agg #[.int .i64 5, .int .i64 0, .slice none 0 0, .slice none 0 0], .int .i64 0]) (by simp [results, Try.results101, go_sem, v0, v1, v2, v3]) rfl ?_
      rw [HR.out]
      exact lookEnd_none hbz
    | true =>
      have hlt := HPLT.out rfl
      have hkl : PN < x.files.length := by have := HX2.out.flen; omega
      have hlt' : (PN : Int) < fn := by omega
      have hea : entAt x.files PN = x.files[PN] := by unfold entAt; rw [List.getElem?_eq_getElem hkl]; rfl
      have hR := HR2.out
      rw [if_neg (by simp), hea] at hR
      obtain ⟨b, o, rfl, hq⟩ := HX2.out.frow.at PN hkl
      have hE := hq PN hkl
      have d1 := hE.root
      have d2 := hE.size
      have lb := hE.lt
      have hIz := (HWX.out.files _ (List.getElem_mem hkl)).2
      generalize x.files[PN] = y at *
      obtain ⟨ynm, yr, yz⟩ := y
      simp only at d1 d2 hR hIz
      obtain ⟨RR, hRR⟩ : ∃ RR, readR s key yr yz aat an = RR := ⟨_, rfl⟩
      have HRDC : Hid (∀ u, Below w2.heap.size w2 u → Calls Try.prog 12 #[.agg #[.slice ao n cap], .int .i64 key, .agg #[.int .i64 yr, .int .i64 yz], .int .i64 aat, .int .i64 an] u fun e w' => SlEnd e u w' RR) := Lib.hid fun u hu => by rw [← hRR]; exact read_any u ao n cap s key yr yz aat an HN.out h41 (HS2.out.mono hu) hwf hIz HC.out
      rw [hRR] at hR
      have HR3 := Lib.hid hR
      have HB2 := Lib.hid hbw2
      have HP1 := Lib.hid p1
      have HP3 := Lib.hid p3
      have HE := Lib.hid hE
      clear hE hq hea hR hRR HR2 HPLT hIz p0 p2
      go_upto_region 9 with fail
      refine wp_region_mid 12 _ rfl (by kernel_rfl) (by kernel_rfl) ?_
      simp only [List.take_succ_cons, List.take_zero, List.drop_succ_cons, List.drop_zero]
      repeat still_step
      refine wpStill_nil ?_
      intro K hK
      go_simp
      refine (HRDC.out _ (Below.refl _ _).drew).mono ?_
      rintro e w3 ⟨ra, rn, rc, rfl, g1, g2, g3, g4'⟩
      have g4 := undrew g4'
      refine hK _ _ ?_
      clear hK K g4'
      repeat still_step
      refine wpStill_nil ?_
      · have hbw3 := below_step HB2.out g4
        have p1 := (g4.block _ l1).trans HP1.out
        have p3 := (g4.block _ l3).trans HP3.out
        have d2 := (HE.out.mono g4).size
        simp only at d2
        clear c0 c11 c30 c31 c32 c33 l0 l1 l2 l3 f3 k4 k5 d1 lb
        have lb := (HE.out.mono g4).lt
        have c11 := cell_of_block p1 1
        have c30 := cell_of_block p3 0
        have c31 := cell_of_block p3 1
        have c32 := cell_of_block p3 2
        have c33 := cell_of_block p3 3
        simp only [List.getElem?_toArray, List.getElem?_cons_succ, List.getElem?_cons_zero] at c11 c30 c31 c32 c33
        have l1 := lt_heap p1
        have l3 := lt_heap p3
        have f3 := fun j => free_of_block p3 j
        obtain ⟨rl, re⟩ := RR
        simp only at g1 g2 g3
        by_cases he : re = 0
        rotate_left
        · have HR : Hid (RD = (⟨re, 0, [], []⟩, 0)) := Lib.hid (by rw [HR3.out, if_pos he])
          have he1 : (re != 0) = true := by rw [bne_iff_ne]; exact he
          obtain ⟨z3, zb, -⟩ := put_ans p3 (.int .i64 re) (.int .i64 0) (.slice none 0 0) (.slice none 0 0)
          have hbz := zb _ _ hbw3 (by omega)
          unfold putA at z3 hbz
          have v0 := cell_of_block z3 0
          have v1 := cell_of_block z3 1
          have v2 := cell_of_block z3 2
          have v3 := cell_of_block z3 3
          simp only [List.getElem?_toArray, List.getElem?_cons_succ, List.getElem?_cons_zero] at v0 v1 v2 v3
          clear zb HR3 g1 g2 g3 g4 he HRDC
          go_wp2_with fail
          refine bodyPost_ret (v := .tuple #[.agg #[.int .i64 re, .int .i64 0, .slice none 0 0, .slice none 0 0], .int .i64 0]) (by simp [results, Try.results101, go_sem, v0, v1, v2, v3]) rfl ?_
          rw [HR.out]
          exact lookEnd_none hbz
        · subst he
          have HR : Hid (RD = (⟨0, yz, [], rl⟩, 0)) := Lib.hid (by rw [HR3.out, if_neg (by simp)])
          obtain ⟨z3, zb, -, -, zr, -⟩ := put_ans p3 (.int .i64 0) (.int .i64 yz) (.slice none 0 0) (.slice ra rn rc)
          have hbz := zb _ _ hbw3 (by omega)
          have hrz := zr _ _ g2
          unfold putA at z3 hbz hrz
          have v0 := cell_of_block z3 0
          have v1 := cell_of_block z3 1
          have v2 := cell_of_block z3 2
          have v3 := cell_of_block z3 3
          simp only [List.getElem?_toArray, List.getElem?_cons_succ, List.getElem?_cons_zero] at v0 v1 v2 v3
          have G1 := Lib.hid g1
          have GR := Lib.hid hrz
          clear zb zr HR3 g1 g2 g4 HRDC hrz
          go_wp2_with fail
          refine bodyPost_ret (v := .tuple #[.agg #[.int .i64 0, .int .i64 yz, .slice none 0 0, .slice ra rn rc], .int .i64 0]) (by simp [results, Try.results101, go_sem, v0, v1, v2, v3]) rfl ?_
          rw [HR.out]
          exact ⟨none, 0, 0, ra, rn, rc, rfl, hbz, rfl, G1.out, .inl rfl, GR.out, ⟨Nat.le_refl _, fun _ => rfl⟩, g3⟩
  · have m11 : (kind == 11) = false := by rw [beq_eq_false_iff_ne]; exact h11
    have hR := HR1.out
    rw [if_neg h11] at hR
    by_cases h12 : kind = 12
    · subst h12
      rw [if_pos rfl] at hR
      have HR2 := Lib.hid hR
      have hfl := HX1.out.flen
      have hf6 : fn ≤ 6 := by have := HRX.out.files.len; omega
      have hf6' : (fn : Int) ≤ 6 := by omega
      have HFL := Lib.hid hfl
      have hb2 : Below w1.heap.size w1 (w1.alloc (.cells #[.int .i64 0, .int .i64 fn, .slice none 0 0, .slice none 0 0] 70)) := (Below.refl _ _).alloc (Nat.le_refl _) _
      have qa : (w1.alloc (.cells #[.int .i64 0, .int .i64 fn, .slice none 0 0, .slice none 0 0] 70)).heap[w1.heap.size]? = some (.cells #[.int .i64 0, .int .i64 fn, .slice none 0 0, .slice none 0 0] 70 (0, 0)) := heap_alloc_new _ _
      have d11 := ((bcell hb2).1 _ _ l1).trans c11
      have hsz2 : w1.heap.size < (w1.alloc (.cells #[.int .i64 0, .int .i64 fn, .slice none 0 0, .slice none 0 0] 70)).heap.size := by simp
      have hl3 : w.heap.size + 3 < w1.heap.size := by omega
      have HL3 := Lib.hid hl3
      clear hR HR1 hfl HS1 HBW HPUT hl3
      go_wp2_with fail
      generalize w1.alloc (.cells #[.int .i64 0, .int .i64 fn, .slice none 0 0, .slice none 0 0] 70) = W2 at *
      clear c0 c10 c11 c12 k0 k2 k4 k5 c30 c31 c32 c33 l0 l1 l2 l3 f3 p0 p1 p2 p3 d11
      have HBW := Lib.hid hbw
      clear hbw
      go_loopw [79] (fun i wr => ∃ k : Nat, k ≤ fn ∧ i = .int .i64 k ∧ ∃ va vc, OwnS 9 (w1.heap.size + 1) wr (.slice va k vc) ((x.files.take k).map Ent.nm) ∧ wr.heap[w1.heap.size]? = some (.cells #[.int .i64 0, .int .i64 fn, .slice va k vc, .slice none 0 0] 70 (0, 0)) ∧ Below w1.heap.size w1 wr) (fun i _ => fn - (intOf i).toNat)
      case atStart => exact ⟨0, Nat.zero_le _, rfl, none, 0, OwnS.nil _ _ _, qa, hb2⟩
      case round =>
        clear qa hb2 hsz2
        obtain ⟨k, hkn, rfl, va, vc, hown, hbx, hbel⟩ := hrel
        by_cases hlt : k < fn
        · have hkl : k < x.files.length := by have := HFL.out; omega
          have hlt' : (k : Int) < fn := by omega
          have hk6 : k ≤ 6 := by omega
          obtain ⟨b, o, rfl, hq⟩ := (HX1.out.frow.mono hbel).at k hkl
          have hE := hq k hkl
          have c0 := hE.nm
          have c1 := hE.root
          have c2 := hE.size
          have lb := hE.lt
          have HKT := Lib.hid (names_take x.files k hkl)
          have HLEN : Hid (((x.files.take k).map Ent.nm).length = k) := Lib.hid (by rw [List.length_map, List.length_take]; omega)
          clear hq hE
          generalize x.files[k] = y at *
          obtain ⟨nm, root, size⟩ := y
          simp only at c0 c1 c2
          have hb2 : Below wr.heap.size wr (wr.alloc (.cells #[.string nm, .int .i64 root, .int .i64 size] 37)) := (Below.refl _ _).alloc (Nat.le_refl _) _
          have hown2 := hown.mono hb2
          have hbel2 := below_step hbel hb2
          have qx := (hb2.block _ (lt_heap hbx)).trans hbx
          have y2 := cell_of_block qx 2
          have q2 : (wr.alloc (.cells #[.string nm, .int .i64 root, .int .i64 size] 37)).heap[wr.heap.size]? = some (.cells #[.string nm, .int .i64 root, .int .i64 size] 37 (0, 0)) := heap_alloc_new _ _
          have d0 := cell_of_block q2 0
          simp only [List.getElem?_toArray, List.getElem?_cons_succ, List.getElem?_cons_zero] at y2 d0
          have ly := lt_heap qx
          have HQX := Lib.hid qx
          have hsz3 : w1.heap.size + 1 ≤ (wr.alloc (.cells #[.string nm, .int .i64 root, .int .i64 size] 37)).heap.size := ly
          have HB2 := Lib.hid hbel2
          clear hown hb2 q2 hbx qx hbel
          go_wp2_with (first
            | (at_builtin; refine append_str rfl (.tmp 84) (.tmp 87) _ rfl 9 16 (w1.heap.size + 1) Try.underlying68 info_str _ _ _ rfl hown2 _ rfl (by simp) ?_ ?_ hsz3 ?_; rotate_right; intro v' w4 hown4 hbel4; obtain ⟨va4, vc4, hv4, -, -⟩ := hown4.shape; rw [List.length_append, HLEN.out] at hv4; simp only [List.length_cons, List.length_nil, Nat.zero_add] at hv4; subst hv4; have q4 := (hbel4.block _ (Nat.lt_succ_self _)).trans HQX.out; have z2 := cell_of_block q4 2; simp only [List.getElem?_toArray, List.getElem?_cons_succ, List.getElem?_cons_zero] at z2; have zf := fun j => free_of_block q4 j; have lz := lt_heap q4))
          · go_roundw
            case rel =>
              have hset := heap_setCell_same' q4 2 (.slice va4 (k + 1) vc4)
              simp only [List.setIfInBounds_toArray, List.set_cons_zero, List.set_cons_succ] at hset
              refine ⟨k + 1, by omega, by go_num, va4, vc4, ?_, hset, ((HB2.out.trans (hbel4.mono (Nat.le_succ _))).setCell (p := ⟨w1.heap.size, 2, none⟩) (Nat.le_refl _) _)⟩
              rw [HKT.out]
              exact hown4.keep fun b hb _ => Below.heap_setCell _ _ _ _ (by show b ≠ w1.heap.size; omega)
            case measure => simp [intOf]; omega
          · unfold maxLen; omega
          · omega
        · obtain rfl : k = fn := by omega
          have ht : x.files.take k = x.files := List.take_of_length_le (by have := HFL.out; omega)
          rw [ht] at hown
          clear ht
          have HR : Hid (RD = (⟨0, k, x.files.map Ent.nm, []⟩, 0)) := Lib.hid (by rw [HR2.out, HFL.out])
          have HNL : Hid ((x.files.map Ent.nm).length = k) := Lib.hid (by rw [List.length_map, HFL.out])
          have hlt' : ¬ (k : Int) < k := by omega
          have p3 := (hbel.block _ (by have := HL3.out; omega)).trans HP3.out
          have hbw3 : Below w.heap.size w wr := below_step HBW.out hbel
          obtain ⟨va5, vc5, hv5, hcap5, hrow5⟩ := hown.shape
          rw [HNL.out] at hv5 hcap5
          simp only [Value.slice.injEq, true_and] at hv5
          obtain ⟨rfl, rfl⟩ := hv5
          obtain ⟨z3, zb, -, -, -, zs⟩ := put_ans p3 (.int .i64 0) (.int .i64 k) (.slice va k vc) (.slice none 0 0)
          have hbz := zb _ _ hbw3 (by omega)
          have hrz := zs _ _ hrow5
          unfold putA at z3 hbz hrz
          have v0 := cell_of_block z3 0
          have v1 := cell_of_block z3 1
          have v2 := cell_of_block z3 2
          have v3 := cell_of_block z3 3
          have x0 := cell_of_block hbx 0
          have x1 := cell_of_block hbx 1
          have x2 := cell_of_block hbx 2
          have x3 := cell_of_block hbx 3
          have c30 := cell_of_block p3 0
          have c31 := cell_of_block p3 1
          have c32 := cell_of_block p3 2
          have c33 := cell_of_block p3 3
          simp only [List.getElem?_toArray, List.getElem?_cons_succ, List.getElem?_cons_zero] at v0 v1 v2 v3 x0 x1 x2 x3 c30 c31 c32 c33
          have l3 := lt_heap p3
          have lx := lt_heap hbx
          have f3 := fun j => free_of_block p3 j
          have GR := Lib.hid hrz
          have GC := Lib.hid hcap5
          clear zb zs hrz hown hcap5 hrow5 hbel HR2
          go_wp2_with fail
          refine bodyPost_ret (v := .tuple #[.agg #[.int .i64 0, .int .i64 k, .slice va k vc, .slice none 0 0], .int .i64 0]) (by simp [results, Try.results101, go_sem, v0, v1, v2, v3]) rfl ?_
          rw [HR.out]
          exact ⟨va, k, vc, none, 0, 0, rfl, hbz, HNL.out, rfl, GR.out, .inl rfl, GC.out, ⟨Nat.le_refl _, fun _ => rfl⟩⟩
    · have m12 : (kind == 12) = false := by rw [beq_eq_false_iff_ne]; exact h12
      have HR : Hid (RD = (noAns, 4)) := Lib.hid (by rw [hR, if_neg h12])
      obtain ⟨z3, zb, -⟩ := put_ans p3 (.int .i64 0) (.int .i64 0) (.slice none 0 0) (.slice none 0 0)
      have hbz := zb _ _ hbw (by omega)
      unfold putA at z3 hbz
      have v0 := cell_of_block z3 0
      have v1 := cell_of_block z3 1
      have v2 := cell_of_block z3 2
      have v3 := cell_of_block z3 3
      simp only [List.getElem?_toArray, List.getElem?_cons_succ, List.getElem?_cons_zero] at v0 v1 v2 v3
      clear zb hR HR1 HS1 HX1 HPUT HBW
      go_wp2_with fail
      refine bodyPost_ret (v := .tuple #[.agg #[.int .i64 0, .int .i64 0, .slice none 0 0, .slice none 0 0], .int .i64 4]) (by simp [results, Try.results101, go_sem, v0, v1, v2, v3]) rfl ?_
      rw [HR.out]
      exact lookEnd_none hbz
end Go.Proofs.Ytfmgdjgedhnmeaa

namespace Go.Proofs.Ytfmgdjgedhnmeaa
open Go.RowKit
set_option linter.unusedVariables false

theorem put_row {X : World} {k2 k3 t2 t3 l c fn fc sn sc : Nat} {x0 fo so : Option Addr} {nm : ByteArray} (p3 : X.heap[k2]? = some (.cells #[.slice x0 l c] t2 (0, 0))) (p4 : X.heap[k3]? = some (.cells #[.string nm, .slice fo fn fc, .slice so sn sc] t3 (0, 0))) (h23 : k2 ≠ k3) (v u0 u1 u2 : Value) {ao : Option Addr} {xs : List Int} (h : Row .u8 X ao xs) :
    Row .u8 (putW X k2 k3 v u0 u1 u2) ao xs := by
  rcases Nat.eq_zero_or_pos xs.length with h0 | h0
  · exact .inl (List.eq_nil_of_length_eq_zero h0)
  · obtain ⟨b, o, rfl, hc⟩ := h.at 0 h0
    have h2 : b ≠ k2 := by
      rintro rfl
      exact (one_noInt p3).1.2 _ _ (hc 0 h0)
    have h3 : b ≠ k3 := by
      rintro rfl
      exact (set_noInt p4).1.2 _ _ (hc 0 h0)
    exact .inr ⟨b, o, rfl, fun i hi => (World.cell?_of_block (a := ⟨b, o + i, none⟩) (put_other b h2 h3)).trans (hc i hi)⟩

end Go.Proofs.Ytfmgdjgedhnmeaa
