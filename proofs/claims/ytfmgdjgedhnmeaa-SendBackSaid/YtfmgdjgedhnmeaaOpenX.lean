/- A store that came in, opened. · rookeryref.SameSet: are two sets the same? · A set that came in, opened. -/
import Derived.Deep.Slices
import Derived.Lib.SmallJoins
import Derived.SizedLaws
import Derived.Test.YtfmgdjgedhnmeaaPut
import Derived.Test.YtfmgdjgedhnmeaaRows
import Derived.StillTactics
import Derived.Laws.StructEq
import Derived.Deep.Strs
import Derived.Test.YtfmgdjgedhnmeaaSetCheck
import Derived.Test.YtfmgdjgedhnmeaaHeld
namespace Go.Proofs.Ytfmgdjgedhnmeaa
open Go.RowKit Go.ChangeShapes Go.WideShapes Go.Deep Go.Joins
set_option linter.unusedVariables false

theorem addr_plain {w : World} {x : Addr} {v : Value} (h : w.cell? (x.add 0) = some v) : ∃ b o, x = ⟨b, o, none⟩ := by
  obtain ⟨b, o, s⟩ := x
  have hs : s = none := by
    unfold World.cell? Addr.add at h
    simp only [if_true] at h
    split at h
    · split at h
      · cases h
      · rename_i hn; simpa using hn
    · cases h
  subst hs
  exact ⟨b, o, rfl⟩

theorem add_plain (b o k : Nat) : (⟨b, o, none⟩ : Addr).add k = ⟨b, o + k, none⟩ := by unfold Addr.add; split <;> simp_all

section
variable {H : Type} {enc : TypeId × Value → H} {w : World} {base : Nat} {spare : Nat → Bool} {held : Bool}

/-- a slice of integers that lies in a cell -/
theorem open_sl {t e : TypeId} {k : IntKind} {fuel : Nat} {v : Value} {x : DataW H × List MemPlace} (ht : Try.prog.underlying t = some (.slice e)) (he : Try.prog.underlying e = some (.int k)) (hc : Try.prog.cellsOf e = 1)
    (h : DataW.trod enc Try.prog w base spare held fuel t [v] = some x) : ∃ xs, Sl k w v xs ∧ (∀ n ∈ xs, (Lit.int k n).wf = true) ∧ ((∀ n ∈ x.1.weights Try.prog t, n ≤ reachBytes) → xs.length * Try.prog.bytesOf e ≤ reachBytes) := by
  rcases open_ints ht he hc h with ⟨hcs, _⟩ | ⟨a, l, c, zs, hcs, _, hl, hm, hz, hx, hcell, hwz⟩
  · simp at hcs
    subst hcs
    exact ⟨[], ⟨none, 0, rfl, .inl rfl, Nat.le_refl _, fun _ => rfl⟩, by simp, fun _ => by simp⟩
  · simp at hcs
    subst hcs
    have hlz : l ≤ zs.length := by rw [hz]; split <;> omega
    have hlen : (zs.take l).length = l := by simp; omega
    refine ⟨zs.take l, ⟨some a, c, by rw [hlen], row_open hcell, by rw [hlen]; exact hl, fun h => by cases h⟩, fun n hn => hwz n (List.mem_of_mem_take hn), ?_⟩
    intro hw
    rw [hx] at hw
    have h1 := hw (((lits (H := H) k (zs.take l)).length + (lits (H := H) k (zs.drop l)).length) * Try.prog.bytesOf e) (by simp [DataW.weights, ht])
    have h2 : (zs.take l).length ≤ (lits (H := H) k (zs.take l)).length + (lits (H := H) k (zs.drop l)).length := by simp [lits]
    exact Nat.le_trans (Nat.mul_le_mul_right _ h2) h1

theorem i64_of {n : Int} (h : (Lit.int .i64 n).wf = true) : I64 n := by
  simpa [I64, Lit.wf, IntKind.min, IntKind.max, IntKind.signed, IntKind.bits] using h
theorem byt_of {xs : List Int} (h : ∀ n ∈ xs, (Lit.int .u8 n).wf = true) : Byt xs := by
  intro x hx
  simpa [Lit.wf, IntKind.min, IntKind.max, IntKind.signed, IntKind.bits] using h x hx

set_option maxRecDepth 100000 in
/-- a block that lies in cells -/
theorem open_blk {n b o : Nat} {cs : List Value} {y : DataW H × List MemPlace} (h : DataW.trod enc Try.prog w base spare held n 93 cs = some y) (hcl : cs.length = 4) (hc : ∀ j, j < 4 → w.cell? ⟨b, o + j, none⟩ = cs[j]?) (hw : ∀ n ∈ y.1.weights Try.prog 93, n ≤ reachBytes) :
    ∃ x : Blk, BlkAt w b o x ∧ WfB x := by
  obtain ⟨y0, y1, y2, y3, m, hx, _, h0, h1, h2, h3⟩ := trod_struct4 Try.underlying93 h
  match cs, hcl with
  | [v0, v1, v2, v3], _ =>
    have c0 := hc 0 (by omega)
    have c1 := hc 1 (by omega)
    have c2 := hc 2 (by omega)
    have c3 := hc 3 (by omega)
    replace h0 : DataW.trod enc Try.prog w base spare held m 3 [v0] = some y0 := h0
    replace h1 : DataW.trod enc Try.prog w base spare held m 3 [v1] = some y1 := h1
    replace h2 : DataW.trod enc Try.prog w base spare held m 91 [v2] = some y2 := h2
    replace h3 : DataW.trod enc Try.prog w base spare held m 38 [v3] = some y3 := h3
    obtain ⟨r, e0, _, w0⟩ := DataW.trod_int Try.underlying3 h0
    obtain ⟨l, e1, _, w1⟩ := DataW.trod_int Try.underlying3 h1
    obtain ⟨ks, s2, w2, b2⟩ := open_sl Try.underlying91 Try.underlying3 (by kernel_rfl) h2
    obtain ⟨bs, s3, w3, b3⟩ := open_sl Try.underlying38 Try.underlying5 (by kernel_rfl) h3
    simp at e0 e1
    subst e0 e1
    rw [hx] at hw
    have hk := b2 (fun n hn => hw n (by simp [DataW.weights, DataW.weightsEach, Try.underlying93, hn]))
    have hbs := b3 (fun n hn => hw n (by simp [DataW.weights, DataW.weightsEach, Try.underlying93, hn]))
    have e8 : Try.prog.bytesOf 3 = 8 := by kernel_rfl
    have e1' : Try.prog.bytesOf 5 = 1 := by kernel_rfl
    rw [e8] at hk
    rw [e1'] at hbs
    have hR : reachBytes = 140737488351232 := rfl
    exact ⟨⟨r, l, ks, bs⟩, ⟨c0, c1, ⟨_, c2, s2⟩, ⟨_, c3, s3⟩⟩, i64_of w0, i64_of w1, fun k hk => i64_of (w2 k hk), byt_of w3, by simp only; omega, by simp only; omega⟩

theorem weights_all {e : TypeId} {d : DataW H} {l : List (DataW H)} (h : d ∈ l) {n : Nat} (hn : n ∈ d.weights Try.prog e) : n ∈ DataW.weightsAll Try.prog e l := by
  induction l with
  | nil => cases h
  | cons y l ih =>
    simp only [DataW.weightsAll, List.mem_append]
    rcases List.mem_cons.1 h with rfl | h
    · exact .inl hn
    · exact .inr (ih h)

set_option maxRecDepth 100000 in
theorem open_store {r : Reach} {b0 : Nat} {v : Value} {d : DataW H} {p : List MemPlace} (hv : Value.okWide Try.prog w r b0 24 v) (h : DataW.Trod enc Try.prog w base spare held 24 v d p) (hb : ∀ n ∈ d.weights Try.prog 24, n ≤ reachBytes) :
    ∃ ao n cap s, v = .agg #[.slice ao n cap] ∧ s.length = n ∧ StoRow w ao s ∧ WfS s ∧ Capd ao n cap ∧ n ≤ 2199023255552 := by
  obtain ⟨cs, rfl, hsz⟩ := okWide_struct Try.underlying24 hv
  obtain ⟨l⟩ := cs
  have hsz1 : l.length = 1 := hsz.trans (by kernel_rfl)
  match l, hsz1 with
  | [c0], _ =>
    obtain ⟨fuel, hf⟩ := h
    obtain ⟨y0, m, hx, _, h0⟩ := trod_struct1 Try.underlying24 hf
    replace h0 : DataW.trod enc Try.prog w base spare held m 22 [c0] = some y0 := h0
    have hd : d = .agg [y0.1] := by have := congrArg Prod.fst hx; simpa using this
    subst hd
    have hb0 : ∀ n ∈ y0.1.weights Try.prog 22, n ≤ reachBytes := fun n hn => hb n (by simp [DataW.weights, DataW.weightsEach, Try.underlying24, hn])
    rcases open_slice Try.underlying22 h0 with ⟨hcs, _⟩ | ⟨a, len, cap, mm, q, D, Pl, hcs, _, hl, hm, hmm, hx0, hi⟩
    · simp at hcs
      subst hcs
      exact ⟨none, 0, 0, [], rfl, rfl, .inl rfl, (by intro x hx; cases hx), ⟨Nat.le_refl _, fun _ => rfl⟩, by omega⟩
    · simp at hcs
      subst hcs
      have hlm : len ≤ mm := by rw [hmm]; split <;> omega
      have hcell : Try.prog.cellsOf 93 = 4 := by kernel_rfl
      rw [hcell] at hi
      rw [hx0] at hb0
      have hbd : ∀ i, i < len → ∀ n ∈ (D i).weights Try.prog 93, n ≤ reachBytes := fun i hi n hn => hb0 n (by
        simp only [DataW.weights, Try.underlying22, List.mem_cons, List.mem_append]
        exact .inr (.inl (weights_all (List.mem_map.2 ⟨i, List.mem_range.2 hi, rfl⟩) hn)))
      have hlen : len ≤ 2199023255552 := by
        have h1 := hb0 ((((List.range len).map D).length + ((List.range (mm - len)).map fun j => D (len + j)).length) * Try.prog.bytesOf 93) (by simp [DataW.weights, Try.underlying22])
        have e64 : Try.prog.bytesOf 93 = 64 := by kernel_rfl
        rw [e64] at h1
        simp at h1
        have hR : reachBytes = 140737488351232 := rfl
        omega
      rcases Nat.eq_zero_or_pos len with hz | hz
      · subst hz
        exact ⟨some a, 0, cap, [], rfl, rfl, .inl rfl, (by intro x hx; cases hx), ⟨Nat.zero_le _, fun h => by cases h⟩, by omega⟩
      have hpl : ∃ b o, a = ⟨b, o, none⟩ := by
        obtain ⟨cs', hc, _⟩ := hi 0 (by omega)
        obtain ⟨_, hcl, hat⟩ := World.cells?_some hc
        have h00 := hat 0 (by omega)
        rw [List.getElem?_eq_getElem (by omega), Nat.zero_mul] at h00
        have e : (a.add 0).add 0 = a.add 0 := by unfold Addr.add; simp
        rw [e] at h00
        exact addr_plain h00
      obtain ⟨b, o, rfl⟩ := hpl
      have hex : ∀ i, ∃ x : Blk, i < len → (BlkAt w b (o + i * 4) x ∧ WfB x) := by
        intro i
        by_cases hlt : i < len
        · obtain ⟨cs', hc, ht⟩ := hi i (by omega)
          obtain ⟨_, hcl, hat⟩ := World.cells?_some hc
          obtain ⟨x, hxx⟩ := open_blk (b := b) (o := o + i * 4) ht hcl (fun j hj => by
            have := hat j hj
            rw [add_plain, add_plain] at this
            exact this) (hbd i hlt)
          exact ⟨x, fun _ => hxx⟩
        · exact ⟨noBlk, fun h => absurd h hlt⟩
      have hf : ∀ i, i < len → _ := fun i => Classical.choose_spec (hex i)
      refine ⟨some ⟨b, o, none⟩, len, cap, (List.range len).map fun i => Classical.choose (hex i), rfl, by simp, .inr ⟨b, o, rfl, fun i hi => ?_⟩, ?_, ⟨hl, fun h => by cases h⟩, by omega⟩
      · have hi' : i < len := by simpa using hi
        simpa using (hf i hi').1
      · intro x hx
        obtain ⟨i, hi, rfl⟩ := List.mem_map.1 hx
        have hi' := List.mem_range.1 hi
        exact (hf i hi').2

end
end Go.Proofs.Ytfmgdjgedhnmeaa

namespace Go.Proofs.Ytfmgdjgedhnmeaa
open Go.RowKit
set_option linter.unusedVariables false

/-- are they the same? -/
noncomputable def isB {α : Type} (a b : α) : Bool := @decide (a = b) (Classical.propDecidable _)
theorem isB_iff {α : Type} (a b : α) : isB a b = true ↔ a = b := by unfold isB; exact @decide_eq_true_iff _ (Classical.propDecidable _)
theorem isB_self {α : Type} (a : α) : isB a a = true := (isB_iff a a).2 rfl
theorem isB_not {α : Type} {a b : α} (h : a ≠ b) : isB a b = false := by
  cases e : isB a b with
  | false => rfl
  | true => exact absurd ((isB_iff a b).1 e) h

theorem take_ne {α : Type} {l m : List α} (k : Nat) (h1 : k < l.length) (h2 : k < m.length) (h : l[k] ≠ m[k]) : l ≠ m := by
  rintro rfl
  exact h rfl
theorem take_snoc {α : Type} {l m : List α} (k : Nat) (h1 : k < l.length) (h2 : k < m.length) (h : l[k] = m[k]) (ht : l.take k = m.take k) : l.take (k + 1) = m.take (k + 1) := by
  rw [List.take_succ_eq_append_getElem h1, List.take_succ_eq_append_getElem h2, ht, h]

theorem str_eq {a b : ByteArray} (h : a = b) : (a.toList == b.toList) = true ∧ (a == b) = true := by subst h; exact ⟨by simp, by rw [beq_toListBytes]; simp⟩
theorem str_ne {a b : ByteArray} (h : a ≠ b) : (a.toList == b.toList) = false ∧ (a == b) = false := by
  have h1 : (a.toList == b.toList) = false := by rw [beq_eq_false_iff_ne]; exact fun e => h (toList_inj e)
  exact ⟨h1, by rw [beq_toListBytes]; exact h1⟩

/-- no row is too long -/
def FitX (x : SetV) : Prop := x.files.length ≤ 1152921504606846976 ∧ x.snaps.length ≤ 1152921504606846976 ∧ ∀ y ∈ x.snaps, y.files.length ≤ 1152921504606846976

end Go.Proofs.Ytfmgdjgedhnmeaa

namespace Go.Proofs.Ytfmgdjgedhnmeaa
open Go.RowKit Go.ChangeShapes Go.WideShapes Go.Deep Go.Joins
set_option linter.unusedVariables false

theorem kind_row {α : Type} (K : Kind α) {w : World} {b o : Nat} {l : List α} (h : ∀ i (hi : i < l.length) j, j < K.k → w.cell? ⟨b, o + i * K.k + j, none⟩ = (K.cells l[i])[j]?) : K.Row w (some ⟨b, o, none⟩) l := by
  refine .inr ⟨b, o, rfl, fun j v hv => ?_⟩
  have hjl : j < l.length * K.k := by
    have := (List.getElem?_eq_some_iff.1 hv).1
    rwa [K.all_len] at this
  have hp := K.pos
  have hi : j / K.k < l.length := Nat.div_lt_of_lt_mul (by rwa [Nat.mul_comm] at hjl)
  have hm : j % K.k < K.k := Nat.mod_lt _ hp
  have hj : j / K.k * K.k + j % K.k = j := by rw [Nat.mul_comm]; exact Nat.div_add_mod j K.k
  have h1 := h (j / K.k) hi (j % K.k) hm
  have h2 := K.all_at l (j / K.k) hi (j % K.k) hm
  rw [hj, hv] at h2
  rw [show o + j / K.k * K.k + j % K.k = o + j from by omega] at h1
  rw [h1, h2]

section
variable {H : Type} {enc : TypeId × Value → H} {w : World} {base : Nat} {spare : Nat → Bool} {held : Bool}

set_option maxRecDepth 100000 in
/-- an entry that lies in cells -/
theorem open_ent {n b o : Nat} {cs : List Value} {y : DataW H × List MemPlace} (h : DataW.trod enc Try.prog w base spare held n 37 cs = some y) (hcl : cs.length = 3) (hc : ∀ j, j < 3 → w.cell? ⟨b, o + j, none⟩ = cs[j]?) :
    ∃ x : Ent, (∀ j, j < 3 → w.cell? ⟨b, o + j, none⟩ = (entK.cells x)[j]?) ∧ I64 x.root ∧ I64 x.size := by
  obtain ⟨y0, y1, m, hx, _, h0, h1⟩ := trod_struct2 Try.underlying37 h
  match cs, hcl with
  | [v0, v1, v2], _ =>
    replace h0 : DataW.trod enc Try.prog w base spare held m 9 [v0] = some y0 := h0
    replace h1 : DataW.trod enc Try.prog w base spare held m 35 [v1, v2] = some y1 := h1
    obtain ⟨z0, z1, m1, hx1, _, g0, g1⟩ := trod_struct2 Try.underlying35 h1
    replace g0 : DataW.trod enc Try.prog w base spare held m1 3 [v1] = some z0 := g0
    replace g1 : DataW.trod enc Try.prog w base spare held m1 3 [v2] = some z1 := g1
    obtain ⟨q, e0, _, _⟩ := DataW.trod_string Try.underlying9 h0
    obtain ⟨r, e1, _, w1⟩ := DataW.trod_int Try.underlying3 g0
    obtain ⟨s, e2, _, w2⟩ := DataW.trod_int Try.underlying3 g1
    simp at e0 e1 e2
    subst e0 e1 e2
    exact ⟨⟨q, r, s⟩, hc, i64_of w1, i64_of w2⟩

set_option maxRecDepth 100000 in
/-- entries -/
theorem open_ents {m : Nat} {c0 : Value} {y0 : DataW H × List MemPlace} (h0 : DataW.trod enc Try.prog w base spare held m 25 [c0] = some y0) (hb0 : ∀ n ∈ y0.1.weights Try.prog 25, n ≤ reachBytes) :
    ∃ ao n cap l, c0 = .slice ao n cap ∧ l.length = n ∧ EntRow w ao l ∧ WfL l ∧ Capd ao n cap ∧ n ≤ 4398046511104 := by
  rcases open_slice Try.underlying25 h0 with ⟨hcs, _⟩ | ⟨a, len, cap, mm, q, D, Pl, hcs, _, hl, hm, hmm, hx0, hi⟩
  · simp at hcs
    subst hcs
    exact ⟨none, 0, 0, [], rfl, rfl, .inl rfl, (by intro x hx; cases hx), ⟨Nat.le_refl _, fun _ => rfl⟩, by omega⟩
  · simp at hcs
    subst hcs
    have hlm : len ≤ mm := by rw [hmm]; split <;> omega
    have hcell : Try.prog.cellsOf 37 = 3 := by kernel_rfl
    rw [hcell] at hi
    rw [hx0] at hb0
    have hlen : len ≤ 4398046511104 := by
      have h1 := hb0 ((((List.range len).map D).length + ((List.range (mm - len)).map fun j => D (len + j)).length) * Try.prog.bytesOf 37) (by simp [DataW.weights, Try.underlying25])
      have e32 : Try.prog.bytesOf 37 = 32 := by kernel_rfl
      rw [e32] at h1
      simp at h1
      have hR : reachBytes = 140737488351232 := rfl
      omega
    rcases Nat.eq_zero_or_pos len with hz | hz
    · subst hz
      exact ⟨some a, 0, cap, [], rfl, rfl, .inl rfl, (by intro x hx; cases hx), ⟨Nat.zero_le _, fun h => by cases h⟩, by omega⟩
    have hpl : ∃ b o, a = ⟨b, o, none⟩ := by
      obtain ⟨cs', hc, _⟩ := hi 0 (by omega)
      obtain ⟨_, hcl, hat⟩ := World.cells?_some hc
      have h00 := hat 0 (by omega)
      rw [List.getElem?_eq_getElem (by omega), Nat.zero_mul] at h00
      have e : (a.add 0).add 0 = a.add 0 := by unfold Addr.add; simp
      rw [e] at h00
      exact addr_plain h00
    obtain ⟨b, o, rfl⟩ := hpl
    have hex : ∀ i, ∃ x : Ent, i < len → ((∀ j, j < 3 → w.cell? ⟨b, o + i * 3 + j, none⟩ = (entK.cells x)[j]?) ∧ I64 x.root ∧ I64 x.size) := by
      intro i
      by_cases hlt : i < len
      · obtain ⟨cs', hc, ht⟩ := hi i (by omega)
        obtain ⟨_, hcl, hat⟩ := World.cells?_some hc
        obtain ⟨x, hxx⟩ := open_ent (b := b) (o := o + i * 3) ht hcl (fun j hj => by
          have := hat j hj
          rw [add_plain, add_plain] at this
          exact this)
        exact ⟨x, fun _ => hxx⟩
      · exact ⟨⟨⟨#[]⟩, 0, 0⟩, fun h => absurd h hlt⟩
    have hf : ∀ i, i < len → _ := fun i => Classical.choose_spec (hex i)
    refine ⟨some ⟨b, o, none⟩, len, cap, (List.range len).map fun i => Classical.choose (hex i), rfl, by simp, kind_row entK fun i hi j hj => ?_, ?_, ⟨hl, fun h => by cases h⟩, by omega⟩
    · have hi' : i < len := by simpa using hi
      show w.cell? ⟨b, o + i * 3 + j, none⟩ = _
      simpa using (hf i hi').1 j hj
    · intro x hx
      obtain ⟨i, hi, rfl⟩ := List.mem_map.1 hx
      exact (hf i (List.mem_range.1 hi)).2

set_option maxRecDepth 100000 in
/-- a snap that lies in cells -/
theorem open_snv {n b o : Nat} {cs : List Value} {y : DataW H × List MemPlace} (h : DataW.trod enc Try.prog w base spare held n 105 cs = some y) (hcl : cs.length = 2) (hc : ∀ j, j < 2 → w.cell? ⟨b, o + j, none⟩ = cs[j]?) (hw : ∀ n ∈ y.1.weights Try.prog 105, n ≤ reachBytes) :
    ∃ (v : Snv) (x : Snp), (∀ j, j < 2 → w.cell? ⟨b, o + j, none⟩ = (snvK.cells v)[j]?) ∧ v.Is w x ∧ WfL x.files ∧ x.files.length ≤ 4398046511104 := by
  obtain ⟨y0, y1, m, hx, _, h0, h1⟩ := trod_struct2 Try.underlying105 h
  match cs, hcl with
  | [v0, v1], _ =>
    replace h0 : DataW.trod enc Try.prog w base spare held m 9 [v0] = some y0 := h0
    replace h1 : DataW.trod enc Try.prog w base spare held m 25 [v1] = some y1 := h1
    obtain ⟨q, e0, _, _⟩ := DataW.trod_string Try.underlying9 h0
    simp at e0
    subst e0
    rw [hx] at hw
    obtain ⟨ao, n, cap, l, rfl, hn, hr, hwf, hcp, hle⟩ := open_ents h1 (fun n hn => hw n (by simp [DataW.weights, DataW.weightsEach, Try.underlying105, hn]))
    exact ⟨⟨q, ao, n, cap⟩, ⟨q, l⟩, hc, ⟨rfl, hn.symm, hr, hcp⟩, hwf, by simp only; omega⟩

set_option maxRecDepth 100000 in
/-- snaps -/
theorem open_snvs {m : Nat} {c0 : Value} {y0 : DataW H × List MemPlace} (h0 : DataW.trod enc Try.prog w base spare held m 26 [c0] = some y0) (hb0 : ∀ n ∈ y0.1.weights Try.prog 26, n ≤ reachBytes) :
    ∃ ao n cap l, c0 = .slice ao n cap ∧ l.length = n ∧ SnpRow w ao l ∧ (∀ y ∈ l, WfL y.files ∧ y.files.length ≤ 4398046511104) ∧ Capd ao n cap ∧ n ≤ 4398046511104 := by
  rcases open_slice Try.underlying26 h0 with ⟨hcs, _⟩ | ⟨a, len, cap, mm, q, D, Pl, hcs, _, hl, hm, hmm, hx0, hi⟩
  · simp at hcs
    subst hcs
    exact ⟨none, 0, 0, [], rfl, rfl, ⟨[], rfl, .inl rfl, fun i h => absurd h (by simp)⟩, (by intro x hx; cases hx), ⟨Nat.le_refl _, fun _ => rfl⟩, by omega⟩
  · simp at hcs
    subst hcs
    have hlm : len ≤ mm := by rw [hmm]; split <;> omega
    have hcell : Try.prog.cellsOf 105 = 2 := by kernel_rfl
    rw [hcell] at hi
    rw [hx0] at hb0
    have hbd : ∀ i, i < len → ∀ n ∈ (D i).weights Try.prog 105, n ≤ reachBytes := fun i hi n hn => hb0 n (by
      simp only [DataW.weights, Try.underlying26, List.mem_cons, List.mem_append]
      exact .inr (.inl (weights_all (List.mem_map.2 ⟨i, List.mem_range.2 hi, rfl⟩) hn)))
    have hlen : len ≤ 4398046511104 := by
      have h1 := hb0 ((((List.range len).map D).length + ((List.range (mm - len)).map fun j => D (len + j)).length) * Try.prog.bytesOf 105) (by simp [DataW.weights, Try.underlying26])
      have e40 : Try.prog.bytesOf 105 = 40 := by kernel_rfl
      rw [e40] at h1
      simp at h1
      have hR : reachBytes = 140737488351232 := rfl
      omega
    rcases Nat.eq_zero_or_pos len with hz | hz
    · subst hz
      exact ⟨some a, 0, cap, [], rfl, rfl, ⟨[], rfl, .inl rfl, fun i h => absurd h (by simp)⟩, (by intro x hx; cases hx), ⟨Nat.zero_le _, fun h => by cases h⟩, by omega⟩
    have hpl : ∃ b o, a = ⟨b, o, none⟩ := by
      obtain ⟨cs', hc, _⟩ := hi 0 (by omega)
      obtain ⟨_, hcl, hat⟩ := World.cells?_some hc
      have h00 := hat 0 (by omega)
      rw [List.getElem?_eq_getElem (by omega), Nat.zero_mul] at h00
      have e : (a.add 0).add 0 = a.add 0 := by unfold Addr.add; simp
      rw [e] at h00
      exact addr_plain h00
    obtain ⟨b, o, rfl⟩ := hpl
    have hex : ∀ i, ∃ z : Snv × Snp, i < len → ((∀ j, j < 2 → w.cell? ⟨b, o + i * 2 + j, none⟩ = (snvK.cells z.1)[j]?) ∧ z.1.Is w z.2 ∧ WfL z.2.files ∧ z.2.files.length ≤ 4398046511104) := by
      intro i
      by_cases hlt : i < len
      · obtain ⟨cs', hc, ht⟩ := hi i (by omega)
        obtain ⟨_, hcl, hat⟩ := World.cells?_some hc
        obtain ⟨v, x, hxx⟩ := open_snv (b := b) (o := o + i * 2) ht hcl (fun j hj => by
          have := hat j hj
          rw [add_plain, add_plain] at this
          exact this) (hbd i hlt)
        exact ⟨(v, x), fun _ => hxx⟩
      · exact ⟨(⟨⟨#[]⟩, none, 0, 0⟩, ⟨⟨#[]⟩, []⟩), fun h => absurd h hlt⟩
    have hf : ∀ i, i < len → _ := fun i => Classical.choose_spec (hex i)
    refine ⟨some ⟨b, o, none⟩, len, cap, (List.range len).map fun i => (Classical.choose (hex i)).2, rfl, by simp, ⟨(List.range len).map fun i => (Classical.choose (hex i)).1, by simp, kind_row snvK fun i hi j hj => ?_, fun i h1 h2 => ?_⟩, ?_, ⟨hl, fun h => by cases h⟩, by omega⟩
    · have hi' : i < len := by simpa using hi
      show w.cell? ⟨b, o + i * 2 + j, none⟩ = _
      simpa using (hf i hi').1 j hj
    · have hi' : i < len := by simpa using h1
      simpa using (hf i hi').2.1
    · intro x hx
      obtain ⟨i, hi, rfl⟩ := List.mem_map.1 hx
      exact (hf i (List.mem_range.1 hi)).2.2

set_option maxRecDepth 100000 in
/-- a set by value -/
theorem open_set {r : Reach} {b0 : Nat} {v : Value} {d : DataW H} {p : List MemPlace} (hv : Value.okWide Try.prog w r b0 28 v) (h : DataW.Trod enc Try.prog w base spare held 28 v d p) (hw : ∀ n ∈ d.weights Try.prog 28, n ≤ reachBytes) :
    ∃ fo fn fc so sn sc x, v = .agg #[.string x.nm, .slice fo fn fc, .slice so sn sc] ∧ SetIn w fo fn fc so sn sc x ∧ WfX x ∧ FitX x := by
  obtain ⟨cs, rfl, hsz⟩ := okWide_struct Try.underlying28 hv
  obtain ⟨cl⟩ := cs
  have hsz1 : cl.length = 3 := hsz.trans (by kernel_rfl)
  match cl, hsz1 with
  | [v0, v1, v2], _ =>
    obtain ⟨fuel, hf⟩ := h
    obtain ⟨y0, y1, y2, m, hx, _, h0, h1, h2⟩ := trod_struct3 Try.underlying28 hf
    replace h0 : DataW.trod enc Try.prog w base spare held m 9 [v0] = some y0 := h0
    replace h1 : DataW.trod enc Try.prog w base spare held m 25 [v1] = some y1 := h1
    replace h2 : DataW.trod enc Try.prog w base spare held m 26 [v2] = some y2 := h2
    have hd : d = .agg [y0.1, y1.1, y2.1] := by have := congrArg Prod.fst hx; simpa using this
    subst hd
    obtain ⟨q, e0, _, _⟩ := DataW.trod_string Try.underlying9 h0
    simp at e0
    subst e0
    obtain ⟨fo, fn, fc, l, rfl, hfn, hfr, hfw, hfc, hfl⟩ := open_ents h1 (fun n hn => hw n (by simp [DataW.weights, DataW.weightsEach, Try.underlying28, hn]))
    obtain ⟨so, sn, sc, ss, rfl, hsn, hsr, hsw, hsc, hsl⟩ := open_snvs h2 (fun n hn => hw n (by simp [DataW.weights, DataW.weightsEach, Try.underlying28, hn]))
    exact ⟨fo, fn, fc, so, sn, sc, ⟨q, l, ss⟩, rfl, ⟨hfn, hsn, hfr, hsr, hfc, hsc⟩, ⟨hfw, fun y hy => (hsw y hy).1⟩, by simp only; omega, by simp only; omega, fun y hy => by have := (hsw y hy).2; omega⟩
end
end Go.Proofs.Ytfmgdjgedhnmeaa
