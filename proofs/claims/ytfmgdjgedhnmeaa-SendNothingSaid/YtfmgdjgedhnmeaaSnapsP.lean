/- set.at's snaps: what they do, and what lies there. No program in sight. -/
import Derived.Test.YtfmgdjgedhnmeaaMove
namespace Go.Proofs.Ytfmgdjgedhnmeaa
open Go.RowKit
set_option linter.unusedVariables false

def snpAt (l : List Snp) (k : Nat) : Snp := (l[k]?).getD ⟨⟨#[]⟩, []⟩
def snapsR (s : List Blk) (x : SetV) (a : AskV) : List Blk × SetV × Int :=
  if nameB a.dest = false then (s, x, 1)
  else if a.kind = 7 then
    (if placeB (x.snaps.map Snp.nm) a.dest = true then (s, x, 6) else if x.snaps.length = 3 then (s, x, 2)
     else (bump s (rootsF x.files), { x with snaps := insL x.snaps (placeN (x.snaps.map Snp.nm) a.dest) ⟨a.dest, x.files⟩ }, 0))
  else if placeB (x.snaps.map Snp.nm) a.dest = false then (s, x, 5)
  else if a.kind = 8 then (lessL s (rootsF (snpAt x.snaps (placeN (x.snaps.map Snp.nm) a.dest)).files), { x with snaps := x.snaps.eraseIdx (placeN (x.snaps.map Snp.nm) a.dest) }, 0)
  else (lessL (bump s (rootsF (snpAt x.snaps (placeN (x.snaps.map Snp.nm) a.dest)).files)) (rootsF x.files), { x with files := (snpAt x.snaps (placeN (x.snaps.map Snp.nm) a.dest)).files }, 0)

theorem Lv.bump {s : List Blk} (h : Lv s) (ks : List Int) : Lv (bump s ks) := by
  unfold Go.Proofs.Ytfmgdjgedhnmeaa.bump
  induction ks generalizing s with
  | nil => exact h
  | cons k ks ih =>
    rw [List.foldl_cons]
    refine ih ?_
    split
    · exact h.addRef k 1
    · exact h
theorem lev_bump (s : List Blk) (ks : List Int) (b : Int) : (blk (bump s ks) b).level = (blk s b).level := by
  unfold bump
  induction ks generalizing s with
  | nil => rfl
  | cons k ks ih =>
    rw [List.foldl_cons, ih]
    split
    · exact lev_addRef _ _ _ _
    · rfl
theorem refsL_bump {s : List Blk} (h : RefsIn s) (ks : List Int) (ha : Adr s ks) (hk : ks.length ≤ 1000) : RefsL (bump s ks) 0 := by
  intro x hx
  obtain ⟨j, hj, rfl⟩ := List.getElem_of_mem hx
  have hj2 : j < s.length := by rw [bump_length] at hj; exact hj
  have h1 := bump_get ks s j hj2 hj ha
  have h2 := h _ (List.getElem_mem hj2)
  have h3 := List.count_le_length (a := ((j : Int) + 1)) (l := ks)
  rw [h1]
  simp only
  omega
theorem Adr.of {s : List Blk} {ks : List Int} {n : Nat} (hn : s.length = n) (h : RootsIn n ks) : Adr s ks := fun k hk => by rw [hn]; exact h k hk
theorem RootsLow.in_ {s : List Blk} {ks : List Int} {n : Nat} (hn : s.length = n) (h : RootsLow s ks) : RootsIn n ks := fun a ha => by
  rcases h a ha with h1 | ⟨h1, h2, _⟩
  · exact .inl h1
  · exact .inr ⟨h1, by rw [← hn]; exact h2⟩
theorem RootsLow.bump {s : List Blk} {ks l : List Int} (h : RootsLow s l) : RootsLow (bump s ks) l := fun a ha => by
  rcases h a ha with h1 | ⟨h1, h2, h3⟩
  · exact .inl h1
  · exact .inr ⟨h1, by rw [bump_length]; exact h2, by rw [lev_bump]; exact h3⟩

theorem OwnXb.names {bad : Nat → Nat → Prop} {w : World} {base : Nat} {fo : Option Addr} {fn fc : Nat} {so : Option Addr} {sn sc : Nat} {x : SetV} {vs : List Snv} (h : OwnXb bad w base fo fn fc so sn sc x vs) : vs.map Snv.nm = x.snaps.map Snp.nm := by
  apply List.ext_getElem
  · rw [List.length_map, List.length_map, h.vlen]
  · intro i h1 h2
    rw [List.getElem_map, List.getElem_map]
    exact (h.each i (by simpa using h1) (by simpa using h2)).1

/-- two lists go together -/
def Both {α β : Type} (R : α → β → Prop) (l : List α) (m : List β) : Prop := l.length = m.length ∧ ∀ i (h : i < l.length) (h' : i < m.length), R l[i] m[i]
theorem Both.cons {α β : Type} {R : α → β → Prop} {a : α} {b : β} {l : List α} {m : List β} (h : R a b) (k : Both R l m) : Both R (a :: l) (b :: m) := by
  refine ⟨by simp [k.1], fun i h1 h2 => ?_⟩
  cases i with
  | zero => exact h
  | succ i => exact k.2 i (by simpa using h1) (by simpa using h2)
theorem Both.tail {α β : Type} {R : α → β → Prop} {a : α} {b : β} {l : List α} {m : List β} (h : Both R (a :: l) (b :: m)) : R a b ∧ Both R l m :=
  ⟨h.2 0 (by simp) (by simp), by simpa using h.1, fun i h1 h2 => h.2 (i + 1) (by simpa using h1) (by simpa using h2)⟩
theorem Both.ins {α β : Type} {R : α → β → Prop} {x : α} {y : β} (hxy : R x y) : ∀ (k : Nat) {l : List α} {m : List β}, Both R l m → Both R (insL l k x) (insL m k y)
  | 0, l, m, h => by simpa [insL] using Both.cons hxy h
  | k + 1, [], [], h => by simpa [insL] using Both.cons hxy h
  | k + 1, a :: l, b :: m, h => by
    obtain ⟨h1, h2⟩ := h.tail
    simpa [insL] using Both.cons h1 (Both.ins hxy k h2)
  | k + 1, [], b :: m, h => by have := h.1; simp at this
  | k + 1, a :: l, [], h => by have := h.1; simp at this
theorem Both.erase {α β : Type} {R : α → β → Prop} : ∀ (k : Nat) {l : List α} {m : List β}, Both R l m → Both R (l.eraseIdx k) (m.eraseIdx k)
  | _, [], [], h => by simpa using h
  | 0, a :: l, b :: m, h => by simpa using h.tail.2
  | k + 1, a :: l, b :: m, h => by
    obtain ⟨h1, h2⟩ := h.tail
    simpa using Both.cons h1 (Both.erase k h2)
  | _, [], b :: m, h => by have := h.1; simp at this
  | _, a :: l, [], h => by have := h.1; simp at this

section
variable {w : World} {B P base bx : Nat} {key : Int} {ao : Option Addr} {n cap : Nat} {s : List Blk} {fo : Option Addr} {fn fc : Nat} {so : Option Addr} {sn sc : Nat} {x : SetV} {vs : List Snv}
theorem AtIn.filesFar (h : AtIn w B P base bx key ao n cap s fo fn fc so sn sc x vs) : EntFar (fun b => s ≠ [] ∧ ao = some ⟨b, 0, none⟩) w fo x.files := by
  rcases Nat.eq_zero_or_pos x.files.length with h0 | h0
  · exact .inl (List.eq_nil_of_length_eq_zero h0)
  · obtain ⟨g, hg, hgb, hgl, -, hc⟩ := h.ox.files.blk h0
    exact .inr ⟨g, 0, hg, fun ⟨h1, h2⟩ => by have := h.row g h1 h2; omega, hgl, fun j v hj => by rw [Nat.zero_add]; exact hc j v hj⟩
theorem AtIn.snapFar (h : AtIn w B P base bx key ao n cap s fo fn fc so sn sc x vs) (i : Nat) (h1 : i < vs.length) (h2 : i < x.snaps.length) : EntFar (fun b => s ≠ [] ∧ ao = some ⟨b, 0, none⟩) w vs[i].ao x.snaps[i].files :=
  (h.ox.each i h1 h2).2.2.1.weaken fun b hb => .inl (h.row b hb.1 hb.2).1
end

/-- a snap that was made lies there -/
theorem snapNew_end {w0 w5 w6 U v : World} {B P base bx : Nat} {key : Int} {ao : Option Addr} {n cap : Nat} {t : List Blk} {fo : Option Addr} {fn fc : Nat} {so : Option Addr} {sn sc : Nat} {x : SetV} {vs : List Snv} {a5 so6 : Option Addr} {c5 sc6 PN : Nat} {ato : ByteArray}
    (hA : AtIn w0 B P base bx key ao n cap t fo fn fc so sn sc x vs) (hb5 : Below w0.heap.size w0 w5) (ho5 : entK.Own w5 w0.heap.size (.slice a5 x.files.length c5) x.files) (hc5 : x.files.length ≤ c5) (hz5 : a5 = none → c5 = 0) (hbU : Below w5.heap.size w5 U)
    (ho6 : snvK.Own w6 bx (.slice so6 (vs.length + 1) sc6) (insL vs PN ⟨ato, a5, x.files.length, c5⟩)) (hb6 : Below bx U w6) (hk6 : ∀ b, b < U.heap.size → so ≠ some ⟨b, 0, none⟩ → w6.heap[b]? = U.heap[b]?) (hnew6 : ∀ g, so6 = some ⟨g, 0, none⟩ → so = some ⟨g, 0, none⟩ ∨ U.heap.size ≤ g)
    (hB : Below base v w0) : AtEnd v (w6.setCell ⟨B, 4, none⟩ (.slice so6 (vs.length + 1) sc6)) B P base bx key ao n cap t x.nm x.files (insL x.snaps PN ⟨ato, x.files⟩) 0 := by
  have hAU := (hA.mono hb5).mono hbU
  have ab6 := (hk6 B (lt_heap hAU.abox) hA.sB).trans hAU.abox
  have hb2 := heap_setCell_same' ab6 4 (.slice so6 (vs.length + 1) sc6)
  simp only [List.setIfInBounds_toArray, List.set_cons_zero, List.set_cons_succ] at hb2
  have hbx2 : base ≤ bx := by have := hA.hP; have := hA.hPx; omega
  have hz1 := hb5.size
  have hz2 := hbU.size
  have hbx0 := hA.hbx
  have hsg := hA.sge
  have hfg := hA.fge
  have hboth : Both (fun (u : Snv) (y : Snp) => u.nm = y.nm ∧ u.n = y.files.length ∧ EntFar (badX bx fo so6) w6 u.ao y.files ∧ Capd u.ao u.n u.cap) vs x.snaps := by
    refine ⟨hA.ox.vlen, fun i h1 h2 => ?_⟩
    obtain ⟨i1, i2, i3, i4⟩ := hAU.ox.each i h1 h2
    refine ⟨i1, i2, ?_, i4⟩
    rcases i3 with hz | ⟨b, o, j1, j2, j3, j4⟩
    · exact .inl hz
    · have hbs : so ≠ some ⟨b, 0, none⟩ := fun e => j2 (.inr (.inr e))
      refine .inr ⟨b, o, j1, ?_, Nat.lt_of_lt_of_le j3 hb6.size, fun j u hj => (World.cell?_of_block (a := ⟨b, o + j, none⟩) (hk6 b j3 hbs)).trans (j4 j u hj)⟩
      rintro (e | e | e)
      · exact j2 (.inl e)
      · exact j2 (.inr (.inl e))
      · rcases hnew6 b e with e1 | e1
        · exact hbs e1
        · omega
  have hone : (⟨ato, a5, x.files.length, c5⟩ : Snv).nm = (⟨ato, x.files⟩ : Snp).nm ∧ (⟨ato, a5, x.files.length, c5⟩ : Snv).n = (⟨ato, x.files⟩ : Snp).files.length ∧ EntFar (badX bx fo so6) w6 (⟨ato, a5, x.files.length, c5⟩ : Snv).ao (⟨ato, x.files⟩ : Snp).files ∧ Capd (⟨ato, a5, x.files.length, c5⟩ : Snv).ao (⟨ato, a5, x.files.length, c5⟩ : Snv).n (⟨ato, a5, x.files.length, c5⟩ : Snv).cap := by
    refine ⟨rfl, rfl, ?_, hc5, hz5⟩
    rcases Nat.eq_zero_or_pos x.files.length with h0 | h0
    · exact .inl (List.eq_nil_of_length_eq_zero h0)
    · obtain ⟨g, hg, hgb, hgl, -, hc⟩ := ho5.blk h0
      have hgU : g < U.heap.size := by omega
      have hgs : so ≠ some ⟨g, 0, none⟩ := fun e => by have := (hsg g e).2; omega
      refine .inr ⟨g, 0, hg, ?_, Nat.lt_of_lt_of_le hgU hb6.size, fun j u hj => ?_⟩
      · rintro (e | e | e)
        · omega
        · have := (hfg g e).2; omega
        · rcases hnew6 g e with e1 | e1
          · exact hgs e1
          · omega
      · rw [Nat.zero_add]
        exact (World.cell?_of_block (a := ⟨g, j, none⟩) (hk6 g hgU hgs)).trans (((bcell hbU).1 g j hgl).trans (hc j u hj))
  have hins := Both.ins (R := fun (u : Snv) (y : Snp) => u.nm = y.nm ∧ u.n = y.files.length ∧ EntFar (badX bx fo so6) w6 u.ao y.files ∧ Capd u.ao u.n u.cap) (x := ⟨ato, a5, x.files.length, c5⟩) (y := ⟨ato, x.files⟩) hone PN hboth
  refine ⟨((hB.trans ((hb5.mono (by have := hB.size; have := hA.hP; have := hA.hPx; omega)).trans (hbU.mono (by have := hA.hP; have := hA.hPx; omega)))).trans (hb6.mono hbx2)).setCell (by show base ≤ B; have := hA.hB; omega) _, fun _ => ⟨fo, fn, fc, so6, vs.length + 1, sc6, insL vs PN ⟨ato, a5, x.files.length, c5⟩, ?_⟩⟩
  exact hAU.snapsRow (w1 := w6) hk6 hb6.size ho6 hnew6 hins.1 hins.2 hb2 (fun b hb => Below.heap_setCell _ _ _ _ hb) (by simp)

/-- what the method leaves -/
def SnEnd (w w' : World) (B P base bx : Nat) (key : Int) (ao : Option Addr) (n cap : Nat) (r : List Blk × SetV × Int) : Prop := AtEnd w w' B P base bx key ao n cap r.1 r.2.1.nm r.2.1.files r.2.1.snaps r.2.2

end Go.Proofs.Ytfmgdjgedhnmeaa
