/- slices.Clone at entries and at snaps. -/
import Derived.Test.YtgeacpfenhaioaaEntsP
import Derived.Lib.SliceRun
namespace Go.Proofs.Ytgeacpfenhaioaa
open Go.RowKit
set_option linter.unusedVariables false

/-- append, at the operation, by what it does -/
theorem app_run {P : Program} {w w' : World} {ops : Array Oper} {rest : List Oper} {o : Oper} {a : Act} {Q : Exit → Act → World → Prop} (hgd : o.guard = none) (s x : Operand) (t u : TypeId) (ho : o.op = .call { callee := .builtin .append, args := #[s, x], argTypes := #[t, u] })
    {vs vx v : Value} (hs : a.eval s = vs) (hx : a.eval x = vx) (hrun : ∀ ty, (Builtin.append_ #[t, u] ty #[vs, vx]).run P w = .ok v w') (hK : wpList P ops Q rest (a.put o.dst v) w') : wpList P ops Q (o :: rest) a w := by
  refine wpList_plain hgd fun K' hK' => ?_
  unfold Oper.wp execOp
  simp only [ho, resolve, invoke, builtin, Sem.run_bind, Sem.run_pure, Result.andThen_ok, List.map_toArray, List.map_cons, List.map_nil, hs, hx, hrun]
  exact hK' _ _ hK

/-- append of nothing -/
theorem run_app_none {P : Program} (w : World) (t ty e : TypeId) (i : TypeInfo) (ht : P.underlying t = some (.slice e)) (hi : P.info? e = some i) (g c c' : Nat) (a : Addr) :
    (Builtin.append_ #[t, t] ty #[.slice (some ⟨g, 0, none⟩) 0 c, .slice (some a) 0 c']).run P w = .ok (.slice (some ⟨g, 0, none⟩) 0 c) w := by
  have h := run_append_room_src w t t ty e i ht hi g 0 0 c (.slice (some a) 0 c') 0 [] (Src.ofSlice w ht a 0 c' [] (by simp) (by simp) (by simp)) (Nat.zero_le _) (by simp) (by simp)
  simpa [World.setCells] using h

theorem info_ent : (Try.prog.info? 47).map (fun i => (i.zero, i.size, i.bytes)) = some (some (.agg #[.string ⟨#[]⟩, .int .i64 0, .int .i64 0]), 3, 32) := by kernel_rfl
theorem ents_zero : (.agg #[.string ⟨#[]⟩, .int .i64 0, .int .i64 0] : Value).cells = (entK.cells entK.zero).toArray := by simp [Value.cells, entK]

set_option maxRecDepth 100000 in
theorem clone_ents (w : World) (ao : Option Addr) (m c : Nat) (l : List Ent) (hm : l.length = m) (he : entK.Row w ao l) (hc : Capd ao m c) (hl : m ≤ 1000000) :
    Calls Try.prog 58 #[.slice ao m c] w fun e w' => ∃ v, e = .returned v ∧ entK.Own w' w.heap.size v l ∧ Below w.heap.size w w' := by
  have hn := fun w a n c => Lib.run_eql_slice_nil (P := Try.prog) w 25 47 a n c 0 0 Try.underlying25
  cases ao with
  | none =>
    obtain rfl := hc.2 rfl
    obtain rfl : m = 0 := by have := hc.1; omega
    obtain rfl : l = [] := List.eq_nil_of_length_eq_zero hm
    clear hc hl hm
    go_enter Try.func58, Try.ntmps58
    go_wp2
    go_ret
    exact ⟨_, rfl, .inl ⟨rfl, rfl⟩, Below.refl _ _⟩
  | some a =>
    have hb0 : Below w.heap.size w (w.alloc (.cells #[] 47)) := (Below.refl _ _).alloc (Nat.le_refl _) _
    have hz : (w.alloc (.cells #[] 47)).heap.size = w.heap.size + 1 := by simp
    obtain ⟨i0, hi, hz0, hz1, hz2⟩ := info_parts info_ent
    have HM := Lib.hid hm
    have HL := Lib.hid hl
    rcases Nat.eq_zero_or_pos m with h0 | h0
    · subst h0
      obtain rfl : l = [] := List.eq_nil_of_length_eq_zero hm
      have p0 : (w.alloc (.cells #[] 47)).heap[w.heap.size]? = some (.cells #[] 47 (0, 0)) := heap_alloc_new _ _
      have hrun := fun ty => run_app_none (P := Try.prog) (w.alloc (.cells #[] 47)) 25 ty 47 i0 Try.underlying25 hi w.heap.size 0 c a
      clear hl hm hz hz2 hz0 hz1 hi hc he
      obtain ⟨b, o, sp⟩ := a
      go_enter Try.func58, Try.ntmps58
      go_wp2_with (at_builtin; refine app_run rfl (.tmp 5) (.tmp 6) _ _ rfl rfl rfl hrun ?_)
      go_ret
      exact ⟨_, rfl, .inr ⟨_, 0, [], rfl, Nat.le_refl _, rfl, p0⟩, hb0⟩
    · obtain ⟨b, o, ha, -, hcl⟩ := Kind.Row.at (he.mono hb0) (by omega)
      obtain rfl : a = ⟨b, o, none⟩ := by simpa using ha
      have hrun : ∃ cap sp, (∀ ty, (Builtin.append_ #[25, 25] ty #[.slice (some ⟨w.heap.size, 0, none⟩) 0 0, .slice (some ⟨b, o, none⟩) m c]).run Try.prog (w.alloc (.cells #[] 47)) = .ok (.slice (some ⟨(w.alloc (.cells #[] 47)).heap.size, 0, none⟩) m cap) ((w.alloc (.cells #[] 47)).drew.alloc (.cells (entK.all (l ++ sp)).toArray 47))) ∧ cap = l.length + sp.length := by
        obtain ⟨cap, sp, h1, h2⟩ := Kind.run_clone (K := entK) (P := Try.prog) (w.alloc (.cells #[] 47)) 25 25 i0 _ 32 Try.underlying25 hi hz0 hz1 hz2 ents_zero w.heap.size b o c l (by omega) (by have := HL.out; have := HM.out; omega) (by have := HL.out; have := HM.out; omega) hcl
        rw [hm] at h1
        exact ⟨cap, sp, fun ty => h1, h2⟩
      obtain ⟨cap, sp, hrun, hcap⟩ := hrun
      have hq : ((w.alloc (.cells #[] 47)).drew.alloc (.cells (entK.all (l ++ sp)).toArray 47)).heap[w.heap.size + 1]? = some (.cells (entK.all (l ++ sp)).toArray 47 (0, 0)) := by
        have := heap_alloc_new ((w.alloc (.cells #[] 47)).drew) (.cells (entK.all (l ++ sp)).toArray 47)
        rw [show (w.alloc (.cells #[] 47)).drew.heap.size = w.heap.size + 1 from hz] at this
        exact this
      have hb : Below w.heap.size w ((w.alloc (.cells #[] 47)).drew.alloc (.cells (entK.all (l ++ sp)).toArray 47)) := hb0.drew.alloc (by show w.heap.size ≤ (w.alloc (.cells #[] 47)).heap.size; omega) _
      have HCAP := Lib.hid hcap
      rw [hz] at hrun
      clear hl hm hz hz2 hz0 hz1 hi hc he hcl hcap
      go_enter Try.func58, Try.ntmps58
      go_wp2_with (at_builtin; refine app_run rfl (.tmp 5) (.tmp 6) _ _ rfl rfl rfl hrun ?_)
      go_ret
      exact ⟨.slice (some ⟨w.heap.size + 1, 0, none⟩) m cap, rfl, .inr ⟨w.heap.size + 1, cap, sp, by rw [HM.out], Nat.le_add_right _ _, HCAP.out, hq⟩, hb⟩

theorem info_snv : (Try.prog.info? 95).map (fun i => (i.zero, i.size, i.bytes)) = some (some (.agg #[.string ⟨#[]⟩, .slice none 0 0]), 2, 40) := by kernel_rfl
theorem snvs_zero : (.agg #[.string ⟨#[]⟩, .slice none 0 0] : Value).cells = (snvK.cells snvK.zero).toArray := by simp [Value.cells, snvK]

set_option maxRecDepth 100000 in
theorem clone_snvs (w : World) (ao : Option Addr) (m c : Nat) (l : List Snv) (hm : l.length = m) (he : snvK.Row w ao l) (hc : Capd ao m c) (hl : m ≤ 1000000) :
    Calls Try.prog 74 #[.slice ao m c] w fun e w' => ∃ v, e = .returned v ∧ snvK.Own w' w.heap.size v l ∧ Below w.heap.size w w' := by
  have hn := fun w a n c => Lib.run_eql_slice_nil (P := Try.prog) w 26 95 a n c 0 0 Try.underlying26
  cases ao with
  | none =>
    obtain rfl := hc.2 rfl
    obtain rfl : m = 0 := by have := hc.1; omega
    obtain rfl : l = [] := List.eq_nil_of_length_eq_zero hm
    clear hc hl hm
    go_enter Try.func74, Try.ntmps74
    go_wp2
    go_ret
    exact ⟨_, rfl, .inl ⟨rfl, rfl⟩, Below.refl _ _⟩
  | some a =>
    have hb0 : Below w.heap.size w (w.alloc (.cells #[] 95)) := (Below.refl _ _).alloc (Nat.le_refl _) _
    have hz : (w.alloc (.cells #[] 95)).heap.size = w.heap.size + 1 := by simp
    obtain ⟨i0, hi, hz0, hz1, hz2⟩ := info_parts info_snv
    have HM := Lib.hid hm
    have HL := Lib.hid hl
    rcases Nat.eq_zero_or_pos m with h0 | h0
    · subst h0
      obtain rfl : l = [] := List.eq_nil_of_length_eq_zero hm
      have p0 : (w.alloc (.cells #[] 95)).heap[w.heap.size]? = some (.cells #[] 95 (0, 0)) := heap_alloc_new _ _
      have hrun := fun ty => run_app_none (P := Try.prog) (w.alloc (.cells #[] 95)) 26 ty 95 i0 Try.underlying26 hi w.heap.size 0 c a
      clear hl hm hz hz2 hz0 hz1 hi hc he
      obtain ⟨b, o, sp⟩ := a
      go_enter Try.func74, Try.ntmps74
      go_wp2_with (at_builtin; refine app_run rfl (.tmp 5) (.tmp 6) _ _ rfl rfl rfl hrun ?_)
      go_ret
      exact ⟨_, rfl, .inr ⟨_, 0, [], rfl, Nat.le_refl _, rfl, p0⟩, hb0⟩
    · obtain ⟨b, o, ha, -, hcl⟩ := Kind.Row.at (he.mono hb0) (by omega)
      obtain rfl : a = ⟨b, o, none⟩ := by simpa using ha
      have hrun : ∃ cap sp, (∀ ty, (Builtin.append_ #[26, 26] ty #[.slice (some ⟨w.heap.size, 0, none⟩) 0 0, .slice (some ⟨b, o, none⟩) m c]).run Try.prog (w.alloc (.cells #[] 95)) = .ok (.slice (some ⟨(w.alloc (.cells #[] 95)).heap.size, 0, none⟩) m cap) ((w.alloc (.cells #[] 95)).drew.alloc (.cells (snvK.all (l ++ sp)).toArray 95))) ∧ cap = l.length + sp.length := by
        obtain ⟨cap, sp, h1, h2⟩ := Kind.run_clone (K := snvK) (P := Try.prog) (w.alloc (.cells #[] 95)) 26 26 i0 _ 40 Try.underlying26 hi hz0 hz1 hz2 snvs_zero w.heap.size b o c l (by omega) (by have := HL.out; have := HM.out; omega) (by have := HL.out; have := HM.out; omega) hcl
        rw [hm] at h1
        exact ⟨cap, sp, fun ty => h1, h2⟩
      obtain ⟨cap, sp, hrun, hcap⟩ := hrun
      have hq : ((w.alloc (.cells #[] 95)).drew.alloc (.cells (snvK.all (l ++ sp)).toArray 95)).heap[w.heap.size + 1]? = some (.cells (snvK.all (l ++ sp)).toArray 95 (0, 0)) := by
        have := heap_alloc_new ((w.alloc (.cells #[] 95)).drew) (.cells (snvK.all (l ++ sp)).toArray 95)
        rw [show (w.alloc (.cells #[] 95)).drew.heap.size = w.heap.size + 1 from hz] at this
        exact this
      have hb : Below w.heap.size w ((w.alloc (.cells #[] 95)).drew.alloc (.cells (snvK.all (l ++ sp)).toArray 95)) := hb0.drew.alloc (by show w.heap.size ≤ (w.alloc (.cells #[] 95)).heap.size; omega) _
      have HCAP := Lib.hid hcap
      rw [hz] at hrun
      clear hl hm hz hz2 hz0 hz1 hi hc he hcl hcap
      go_enter Try.func74, Try.ntmps74
      go_wp2_with (at_builtin; refine app_run rfl (.tmp 5) (.tmp 6) _ _ rfl rfl rfl hrun ?_)
      go_ret
      exact ⟨.slice (some ⟨w.heap.size + 1, 0, none⟩) m cap, rfl, .inr ⟨w.heap.size + 1, cap, sp, by rw [HM.out], Nat.le_add_right _ _, HCAP.out, hq⟩, hb⟩
end Go.Proofs.Ytgeacpfenhaioaa
