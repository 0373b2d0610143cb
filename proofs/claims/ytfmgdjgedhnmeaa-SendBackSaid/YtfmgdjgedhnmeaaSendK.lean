/- Rows of changes that grow: what is appended, one or many. -/
import Derived.ArgAppend
import Derived.Deep.Upon
import Derived.Test.YtfmgdjgedhnmeaaEntsP
import Derived.Test.YtfmgdjgedhnmeaaSto
namespace Go.Proofs.Ytfmgdjgedhnmeaa
open Go.RowKit
set_option linter.unusedVariables false
set_option linter.unusedSimpArgs false

theorem add_start (b j : Nat) : (⟨b, 0, none⟩ : Addr).add j = ⟨b, 0 + j, none⟩ := by
  unfold Addr.add
  split <;> simp_all
/-- append of elements onto a row that is known whole -/
theorem Kind.run_appends {α : Type} {M : Kind α} {P : Program} (w : World) (base : Nat) (t : TypeId) (i0 : TypeInfo) (z : Value) (bytes : Nat) (ht : P.underlying t = some (.slice M.elem)) (hi : P.info? M.elem = some i0) (hz0 : i0.zero = some z) (hsz : i0.size = M.k) (hby : i0.bytes = bytes)
    (hzc : z.cells = (M.cells M.zero).toArray) {v : Value} {l ms : List α} (hm : 0 < ms.length) (h : M.Own w base v l) (sa : Addr) (sc : Nat) (hnews : ∀ j u, (M.all ms)[j]? = some u → w.cell? (sa.add j) = some u) (hlen : l.length + ms.length ≤ 1000) (hb2 : bytes ≤ 1000) (hbase : base ≤ w.heap.size) :
    ∃ v' w', (∀ ty, (Builtin.append_ #[t, t] ty #[v, .slice (some sa) ms.length sc]).run P w = .ok v' w') ∧ M.Own w' base v' (l ++ ms) ∧ w.grownBy w' v.ownBlock ∧ (v'.ownBlock = v.ownBlock ∨ v'.ownBlock = some w.heap.size) := by
  have hl : (M.all ms).length = ms.length * i0.size := by rw [M.all_len, hsz]
  have hbig : (l.length + ms.length) * bytes ≤ 1000 * 1000 := Nat.mul_le_mul (by omega) hb2
  have hbig2 : ms.length * bytes ≤ 1000 * 1000 := Nat.mul_le_mul (by omega) hb2
  rcases h with ⟨rfl, rfl⟩ | ⟨g, cap, sp, rfl, hg, hcap, hh⟩
  · have hr := fun ty => run_append_nil (P := P) w t ty M.elem i0 z ht hi hz0 sa ms.length sc (M.all ms) hl hnews hm (by omega) (by rw [hby]; omega)
    have hge := grownCap_ge w ms.length 0 M.elem
    refine ⟨_, _, hr, .inr ⟨w.heap.size, _, List.replicate (grownCap w ms.length 0 M.elem - ms.length) M.zero, rfl, hbase, by simp; omega, ?_⟩, ⟨rfl, rfl, rfl, by simp, fun k hk _ => heap_alloc_old w.drew _ hk⟩, .inr rfl⟩
    have := heap_alloc_new w.drew (.cells ((M.all ms).toArray ++ Builtin.zeroCells z.cells (grownCap w ms.length 0 M.elem - ms.length)) M.elem)
    rw [Kind.zeros z hzc, List.append_toArray] at this
    rw [Kind.zeros z hzc, List.append_toArray, List.nil_append, M.all_append]
    exact this
  · have hal : (M.all l).length = l.length * i0.size := by rw [M.all_len, hsz]
    have holds : ∀ j u, (M.all l)[j]? = some u → w.cell? ((⟨g, 0, none⟩ : Addr).add j) = some u := fun j u hj => by
      rw [add_start, cell_of_block hh, Nat.zero_add, List.getElem?_toArray, M.all_append, List.getElem?_append_left (List.getElem?_eq_some_iff.1 hj).1]
      exact hj
    by_cases hroom : l.length + ms.length ≤ cap
    · have hsp : cap = l.length + sp.length := by simpa using hcap
      have hall : M.all (l ++ sp) = M.all l ++ (M.all (sp.take ms.length) ++ M.all (sp.drop ms.length)) := by rw [← M.all_append, ← M.all_append, List.take_append_drop]
      have hsl : (M.all (l ++ sp)).length = (l.length + sp.length) * M.k := by rw [M.all_len, List.length_append]
      have hfit : l.length * M.k + ms.length * M.k ≤ (l.length + sp.length) * M.k := by rw [← Nat.add_mul]; exact Nat.mul_le_mul_right _ (by omega)
      have hxl : (M.all ms).length = ms.length * M.k := M.all_len ms
      have hr := fun ty => run_append_room_cells (P := P) w t ty M.elem i0 ht hi g 0 l.length cap sa ms.length sc (M.all ms) hl hnews (M.all_one ms) (by omega) (fun j hj => by
        rw [cell_of_block hh, List.getElem?_toArray, Nat.zero_add, hsz, List.getElem?_eq_getElem (by rw [hsl]; omega)]
        rfl) (fun j _ => free_of_block hh _)
      simp only [Nat.zero_add, hsz] at hr
      have hH := heap_setCells (M.all ms) (l.length * M.k) w (M.all (l ++ sp)) hh (by rw [hsl]; omega)
      have htk : (sp.take ms.length).length = ms.length := by rw [List.length_take]; omega
      refine ⟨_, _, hr, .inr ⟨g, cap, sp.drop ms.length, by simp, hg, by simp; omega, ?_⟩, ?_, .inl rfl⟩
      · rw [hH]
        congr 3
        unfold Go.splice
        have hlk : (M.all l).length = l.length * M.k := M.all_len l
        have htl : (M.all (sp.take ms.length)).length = ms.length * M.k := by rw [M.all_len, htk]
        rw [hall, List.take_left' hlk, hxl, M.all_append, M.all_append, ← List.append_assoc (M.all l) (M.all (sp.take ms.length)), List.drop_left' (by rw [List.length_append, hlk, htl]), List.append_assoc]
      · have hb := below_setCells (base := 0) (g := g) (w := w) (w0 := w) ⟨rfl, rfl, rfl, Nat.le_refl _, fun _ h => absurd h (Nat.not_lt_zero _)⟩ (Nat.zero_le _) (M.all ms) (l.length * M.k)
        exact ⟨hb.os, hb.tape, hb.output, hb.size, fun b _ hr => setCells_other _ _ _ (fun e => hr (by rw [e]; rfl))⟩
    · have hr := fun ty => run_append_grow (P := P) w t ty M.elem i0 z ht hi hz0 ⟨g, 0, none⟩ l.length cap (M.all l) hal holds sa ms.length sc (M.all ms) hl hnews (by omega) (by omega) (growslice_fits (by omega) (by rw [hby]; omega))
      have hge := grownCap_ge w (l.length + ms.length) cap M.elem
      refine ⟨_, _, hr, .inr ⟨w.heap.size, grownCap w (l.length + ms.length) cap M.elem, List.replicate (grownCap w (l.length + ms.length) cap M.elem - (l.length + ms.length)) M.zero, by simp, hbase, by simp; omega, ?_⟩, ⟨rfl, rfl, rfl, by simp, fun k hk _ => heap_alloc_old w.drew _ hk⟩, .inr rfl⟩
      have := heap_alloc_new w.drew (.cells ((M.all l).toArray ++ (M.all ms).toArray ++ Builtin.zeroCells z.cells (grownCap w (l.length + ms.length) cap M.elem - (l.length + ms.length))) M.elem)
      rw [Kind.zeros z hzc, List.append_toArray, List.append_toArray] at this
      rw [Kind.zeros z hzc, List.append_toArray, List.append_toArray, M.all_append, M.all_append]
      exact this

/-- a change, in plain words -/
structure ChgV where
  kind : Int
  nm : ByteArray
  n : Int
  bytes : List Int
/-- a change as it lies in a row -/
structure Chv where
  kind : Int
  nm : ByteArray
  n : Int
  ba : Option Addr
  bn : Nat
  bc : Nat
def chvK : Kind Chv where
  cells x := [.int .i64 x.kind, .string x.nm, .int .i64 x.n, .slice x.ba x.bn x.bc]
  k := 4
  zero := ⟨0, ⟨#[]⟩, 0, none, 0, 0⟩
  elem := 81
  pos := by omega
  len _ := rfl
  one x v hv := by
    simp only [List.mem_cons, List.not_mem_nil, or_false] at hv
    rcases hv with rfl | rfl | rfl | rfl <;> rfl
theorem info_chg : (Try.prog.info? 81).map (fun i => (i.zero, i.size, i.bytes)) = some (some (.agg #[.int .i64 0, .string ⟨#[]⟩, .int .i64 0, .slice none 0 0]), 4, 56) := by kernel_rfl
theorem zero_chvs : ∃ (i0 : TypeInfo) (z : Value), Try.prog.info? chvK.elem = some i0 ∧ i0.zero = some z ∧ i0.size = chvK.k ∧ i0.bytes = 56 ∧ z.cells = (chvK.cells chvK.zero).toArray := by
  obtain ⟨i0, hi, hz0, hz1, hz2⟩ := info_parts info_chg
  exact ⟨i0, _, hi, hz0, hz1, hz2, by rfl⟩
/-- no byte lies in a row of changes -/
theorem chv_cells {w : World} {g t : Nat} {L : List Chv} (h : w.heap[g]? = some (.cells (chvK.all L).toArray t (0, 0))) : ∀ o v, w.cell? ⟨g, o, none⟩ = some v → ∀ x, v ≠ .int .u8 x := fun o v hv x e => by
  rw [cell_of_block h, List.getElem?_toArray] at hv
  have hlt : o < L.length * 4 := by
    have := (List.getElem?_eq_some_iff.1 hv).1
    rw [chvK.all_len] at this
    exact this
  have h2 := chvK.all_at L (o / 4) (by omega) (o % 4) (by show o % 4 < 4; omega)
  rw [show o / 4 * chvK.k + o % 4 = o from by show o / 4 * 4 + o % 4 = o; omega, hv, e] at h2
  rcases (show o % 4 = 0 ∨ o % 4 = 1 ∨ o % 4 = 2 ∨ o % 4 = 3 from by omega) with e | e | e | e
  all_goals
    rw [e] at h2
    cases (Option.some.inj h2)
/-- a change in memory -/
structure ChIn (w : World) (v : Chv) (c : ChgV) : Prop where
  kind : v.kind = c.kind
  nm : v.nm = c.nm
  n : v.n = c.n
  len : c.bytes.length = v.bn
  row : Row .u8 w v.ba c.bytes
  cap : Capd v.ba v.bn v.bc
theorem ChIn.mono {w w' : World} {v : Chv} {c : ChgV} (h : ChIn w v c) (hb : Below w.heap.size w w') : ChIn w' v c := ⟨h.kind, h.nm, h.n, h.len, h.row.mono hb, h.cap⟩
/-- a row of changes that is written behind: their bytes stay -/
theorem ChIn.grown {w w' : World} {v : Chv} {c : ChgV} (h : ChIn w v c) {r : Option Nat} (hg : w.grownBy w' r) (hr : ∀ g, r = some g → ∀ o v, w.cell? ⟨g, o, none⟩ = some v → ∀ x, v ≠ .int .u8 x) : ChIn w' v c := by
  refine ⟨h.kind, h.nm, h.n, h.len, ?_, h.cap⟩
  rcases h.row with h0 | ⟨b, o, e, h1⟩
  · exact .inl h0
  · refine .inr ⟨b, o, e, fun i hi => ?_⟩
    have hv := h1 i hi
    have hlt := World.block_lt_of_cell? _ _ hv
    exact (World.cell?_of_block (w := w) (hg.block b hlt fun e2 => hr b e2.symm _ _ hv _ rfl)).trans hv
/-- a list of changes, of its own from 'base' on -/
def ChsIn (w : World) (base : Nat) (v : Value) (l : List ChgV) : Prop := ∃ vs : List Chv, chvK.Own w base v vs ∧ vs.length = l.length ∧ ∀ i (h : i < vs.length) (h' : i < l.length), ChIn w vs[i] l[i]
theorem ChsIn.nil (w : World) (base : Nat) : ChsIn w base (.slice none 0 0) [] := ⟨[], .inl ⟨rfl, rfl⟩, rfl, fun i h => absurd h (by simp)⟩
theorem ChsIn.mono {w w' : World} {base : Nat} {v : Value} {l : List ChgV} (h : ChsIn w base v l) (hb : Below w.heap.size w w') : ChsIn w' base v l := by
  obtain ⟨vs, h1, h2, h3⟩ := h
  exact ⟨vs, h1.mono hb, h2, fun i a b => (h3 i a b).mono hb⟩
theorem ChsIn.weaken {w : World} {base base2 : Nat} {v : Value} {l : List ChgV} (h : ChsIn w base v l) (hb : base2 ≤ base) : ChsIn w base2 v l := by
  obtain ⟨vs, h1, h2, h3⟩ := h
  exact ⟨vs, h1.weaken hb, h2, h3⟩
theorem ChsIn.shape {w : World} {base : Nat} {v : Value} {l : List ChgV} (h : ChsIn w base v l) : ∃ a c, v = .slice a l.length c ∧ l.length ≤ c ∧ (a = none → c = 0) := by
  obtain ⟨vs, h1, h2, -⟩ := h
  obtain ⟨a, c, e, -, h4, h5⟩ := h1.row
  rw [h2] at e h4
  exact ⟨a, c, e, h4, h5⟩
/-- changes more, out of a row that lies somewhere -/
theorem ChsIn.append {w : World} {base : Nat} {v : Value} {l : List ChgV} (h : ChsIn w base v l) {ms : List Chv} {cs : List ChgV} (hm : 0 < ms.length) (hms : ms.length = cs.length) (hcs : ∀ i (h : i < ms.length) (h' : i < cs.length), ChIn w ms[i] cs[i]) (sa : Addr) (sc : Nat)
    (hnews : ∀ j u, (chvK.all ms)[j]? = some u → w.cell? (sa.add j) = some u) (hlen : l.length + ms.length ≤ 1000) (hbase : base ≤ w.heap.size) :
    ∃ a n c w', (∀ ty, (Builtin.append_ #[29, 29] ty #[v, .slice (some sa) ms.length sc]).run Try.prog w = .ok (.slice a n c) w') ∧ ChsIn w' base (.slice a n c) (l ++ cs) ∧ w.grownBy w' v.ownBlock ∧ (∀ g, v.ownBlock = some g → (base ≤ g ∧ ∀ o v, w.cell? ⟨g, o, none⟩ = some v → ∀ x, v ≠ .int .u8 x) ∧ ∃ cs, w.heap[g]? = some (.cells cs chvK.elem (0, 0))) := by
  obtain ⟨i0, z, hi0, hz0, hsz, hby, hzc⟩ := zero_chvs
  obtain ⟨vs, h1, h2, h3⟩ := h
  obtain ⟨v', w', hrun, hown, hg, hat⟩ := Kind.run_appends (M := chvK) (P := Try.prog) w base 29 i0 z 56 Try.underlying29 hi0 hz0 hsz hby hzc hm h1 sa sc hnews (by omega) (by omega) hbase
  have hblk : ∀ g, v.ownBlock = some g → (base ≤ g ∧ ∀ o v, w.cell? ⟨g, o, none⟩ = some v → ∀ x, v ≠ .int .u8 x) ∧ ∃ cs, w.heap[g]? = some (.cells cs chvK.elem (0, 0)) := fun g e => by
    rcases h1 with ⟨-, e1⟩ | ⟨g', cap, sp, e1, hg, -, hh⟩
    · rw [e1] at e
      cases e
    · rw [e1] at e
      simp only [Value.ownBlock, Option.some.injEq] at e
      subst e
      exact ⟨⟨hg, chv_cells hh⟩, _, hh⟩
  obtain ⟨a, c, rfl, -⟩ := hown.row
  refine ⟨_, _, _, w', hrun, ⟨vs ++ ms, hown, by simp [h2, hms], fun i p q => ?_⟩, hg, hblk⟩
  by_cases hlt : i < vs.length
  · rw [List.getElem_append_left hlt, List.getElem_append_left (by omega)]
    exact (h3 i hlt (by omega)).grown hg fun g e => (hblk g e).1.2
  · rw [List.getElem_append_right (by omega), List.getElem_append_right (by omega)]
    have := hcs (i - vs.length) (by simp at p; omega) (by simp at q; omega)
    simp only [h2] at this ⊢
    exact this.grown hg fun g e => (hblk g e).1.2
end Go.Proofs.Ytfmgdjgedhnmeaa
