/- set.at's lay. -/
import Derived.Test.YtgeacpfenhaioaaAtIn
import Derived.StillTailTactics
namespace Go.Proofs.Ytgeacpfenhaioaa
open Go.RowKit
set_option linter.unusedVariables false

def entAt (l : List Ent) (k : Nat) : Ent := (l[k]?).getD ⟨⟨#[]⟩, 0, 0⟩
/-- what lay does -/
def layR (s : List Blk) (l : List Ent) (nm : ByteArray) (root size : Int) : List Blk × List Ent × Int :=
  if placeB (l.map Ent.nm) nm = true then (looseF 4 s (entAt l (placeN (l.map Ent.nm) nm)).root, l.set (placeN (l.map Ent.nm) nm) ⟨(entAt l (placeN (l.map Ent.nm) nm)).nm, root, size⟩, 0)
  else if l.length = 6 then (s, l, 2) else (s, insL l (placeN (l.map Ent.nm) nm) ⟨nm, root, size⟩, 0)

theorem placeB_lt {l : List ByteArray} {nm : ByteArray} (h : placeB l nm = true) : placeN l nm < l.length ∧ ∃ hl : placeN l nm < l.length, l[placeN l nm] = nm := by
  unfold placeB at h
  cases e : l[placeN l nm]? with
  | none => rw [e] at h; cases h
  | some y =>
    rw [e] at h
    obtain ⟨hl, hy⟩ := List.getElem?_eq_some_iff.1 e
    simp only [beq_iff_eq] at h
    exact ⟨hl, hl, by rw [hy]; exact toList_inj h⟩

/-- what a method leaves -/
def AtEnd (w w' : World) (B P base bx : Nat) (key : Int) (ao : Option Addr) (n cap : Nat) (t : List Blk) (nm : ByteArray) (files : List Ent) (snaps : List Snp) (er : Int) : Prop :=
  Below base w w' ∧ (er = 0 → ∃ fo fn fc so sn sc vs, AtIn w' B P base bx key ao n cap t fo fn fc so sn sc ⟨nm, files, snaps⟩ vs)

set_option maxRecDepth 100000 in
set_option maxHeartbeats 8000000 in
theorem lay_any (w : World) (B P base bx n cap fn fc sn sc : Nat) (key root size : Int) (nm : ByteArray) (ao fo so : Option Addr) (s : List Blk) (x : SetV) (vs : List Snv) (hA : AtIn w B P base bx key ao n cap s fo fn fc so sn sc x vs) (hsm : x.files.length ≤ 6) (hrise : Rising (x.files.map Ent.nm))
    (hlv : Lv s) (hrl : RefsL s 0) (hlow : RootsLow s (rootsF x.files)) :
    Calls Try.prog 78 #[.pointer (some ⟨B, 0, none⟩), .string nm, .agg #[.int .i64 root, .int .i64 size]] w fun e w' => e = .returned (.int .i64 (layR s x.files nm root size).2.2) ∧ AtEnd w w' B P base bx key ao n cap (layR s x.files nm root size).1 x.nm (layR s x.files nm root size).2.1 x.snaps (layR s x.files nm root size).2.2 := by
  have hbase : base ≤ w.heap.size := by have := hA.hP; have := hA.hPx; have := hA.hbx; omega
  have hbxw := hA.hbx
  have hfl := hA.ox.len.1
  have hf6 : fn ≤ 6 := by omega
  have hf6' : (fn : Int) ≤ 6 := by omega
  have hb0 : Below w.heap.size w (w.alloc (.cells #[.int .i64 root, .int .i64 size] 45)) := (Below.refl _ _).alloc (Nat.le_refl _) _
  have q0 : (w.alloc (.cells #[.int .i64 root, .int .i64 size] 45)).heap[w.heap.size]? = some (.cells #[.int .i64 root, .int .i64 size] 45 (0, 0)) := heap_alloc_new _ _
  have hA1 := hA.mono hb0
  have aw := cell_of_block hA.abox 3
  have lw := lt_heap hA.abox
  simp only [List.getElem?_toArray, List.getElem?_cons_succ, List.getElem?_cons_zero] at aw
  obtain ⟨fa, fcc, hfv, hfr, hfc, hfz⟩ := hA1.ox.files.row
  simp only [Value.slice.injEq] at hfv
  obtain ⟨rfl, -, rfl⟩ := hfv
  have HPL := Lib.hid (fun (u : World) (hr : entK.Row u fo x.files) => place_any u fo fn fc x.files nm hfl.symm (by omega) hr hrise)
  obtain ⟨PN, hPN⟩ : ∃ PN, placeN (x.files.map Ent.nm) nm = PN := ⟨_, rfl⟩
  obtain ⟨PB, hPB⟩ : ∃ PB, placeB (x.files.map Ent.nm) nm = PB := ⟨_, rfl⟩
  have hple : PN ≤ fn := by rw [← hPN, hfl]; have := placeN_le (x.files.map Ent.nm) nm; rwa [List.length_map] at this
  have hplt : PB = true → PN < fn := fun h => by rw [← hPN, hfl]; have := (placeB_lt (hPB.trans h)).1; rwa [List.length_map] at this
  have HPLT := Lib.hid hplt
  rw [hPN, hPB] at HPL
  have HRES : Hid (layR s x.files nm root size = if PB = true then (looseF 4 s (entAt x.files PN).root, x.files.set PN ⟨(entAt x.files PN).nm, root, size⟩, 0) else if x.files.length = 6 then (s, x.files, 2) else (s, insL x.files PN ⟨nm, root, size⟩, 0)) := Lib.hid (by unfold layR; rw [hPN, hPB])
  obtain ⟨RD, hRD⟩ : ∃ RD, layR s x.files nm root size = RD := ⟨_, rfl⟩
  rw [hRD] at HRES ⊢
  clear hRD hPN hPB hplt hA
  have HFL := Lib.hid hfl
  clear hfl
  have HA := Lib.hid hA1
  go_enter Try.func78, Try.ntmps78
  go_wp2_with fail
  have hfr1 := hfr
  generalize w.alloc (Obj.cells #[Value.int IntKind.i64 root, Value.int IntKind.i64 size] 45) = W0 at *
  refine (HPL.out W0 hfr).mono ?_
  rintro e w1 ⟨rfl, hb1⟩
  have hA2 := hA1.mono hb1
  have hbw := below_step hb0 hb1
  have q1 := (hb1.block _ (lt_heap q0)).trans q0
  have hfr2 := hfr.mono hb1
  clear hfr hfr1 aw lw HPL hb1 q0
  have a0 := cell_of_block hA2.abox 0
  have a3 := cell_of_block hA2.abox 3
  have c0 := cell_of_block q1 0
  have c1 := cell_of_block q1 1
  simp only [List.getElem?_toArray, List.getElem?_cons_succ, List.getElem?_cons_zero] at a0 a3 c0 c1
  have l1 := lt_heap hA2.abox
  have l3 := lt_heap q1
  have HA2 := Lib.hid hA2
  have hbase1 : base ≤ w1.heap.size := Nat.le_trans hbase hbw.size
  clear hA1 HA
  cases PB with
  | true =>
    have hlt := HPLT.out rfl
    have hR := HRES.out
    rw [if_pos rfl] at hR
    have HR := Lib.hid hR
    clear hR HRES HPLT
    have hkl : PN < x.files.length := by have := HFL.out; omega
    have hea : entAt x.files PN = x.files[PN] := by unfold entAt; rw [List.getElem?_eq_getElem hkl]; rfl
    rw [hea] at HR
    obtain ⟨gf, hgf, hgb, hgl, hgfz, hgc⟩ := hA2.ox.files.blk (by omega)
    have hE := ent_cells (b := gf) (o := 0) (fun j v hj => by rw [Nat.zero_add]; exact hgc j v hj) PN hkl
    rw [Nat.zero_add] at hE
    have d0 := hE.nm
    have d1 := hE.root
    have d2 := hE.size
    have hrt := hlow x.files[PN].root (List.mem_map.2 ⟨_, List.getElem_mem hkl, rfl⟩)
    have hPN' : (PN : Int) < fn := by omega
    subst hgf
    have HLV := Lib.hid hlv
    have HRL := Lib.hid hrl
    have HRT := Lib.hid hrt
    have HHS := Lib.hid hA2.slen
    have hI0 : InAt w1.drew w1.drew base ao n cap s s := ⟨hA2.own.mono (Below.refl _ _).drew, Below.refl _ _, fun _ _ _ => rfl⟩
    have HI0 := Lib.hid hI0
    have HAD := Lib.hid (hA2.mono (Below.refl w1.heap.size w1).drew)
    have HBD : Hid (Below w.heap.size w w1.drew) := Lib.hid hbw.drew
    have qd : w1.drew.heap[w.heap.size]? = some (.cells #[.int .i64 root, .int .i64 size] 45 (0, 0)) := q1
    have HQD := Lib.hid qd
    clear hgc hE hlow hrise hlv hrl hrt hI0 hfr2 hple hA2 qd
    go_wp2_with fail
    go_still_tail 14, (by kernel_rfl)
    change wpList _ _ _ _ _ w1.drew
    clear a0 a3 c0 c1 d0 d1 d2 l1 l3 q1 HA2 hbw hgl hgfz
    generalize w1.drew = w2 at *
    go_wp2_with fail
    have hA3 := HAD.out
    refine (loose_inL _ P base ao n cap s s x.files[PN].root 0 HHS.out HHS.out hA3.n4 hA3.sbox HI0.out (Nat.le_trans hbase HBD.out.size) (fun g h1 h2 => Ne.symm (hA3.row g h1 h2).2) HLV.out HRL.out (Int.le_refl _) (by omega) (by rcases HRT.out with h | ⟨h1, h2, h3⟩; exact .inl h; exact .inr ⟨h1, by rw [← HHS.out]; exact h2, h3⟩)).mono ?_
    rintro e w3 ⟨rfl, hI3, -⟩
    have hlen3 := (loosed 4 s x.files[PN].root 0 HLV.out HRL.out (Int.le_refl _)).len
    have hA4 := hA3.store hI3 (hlen3.trans HHS.out) (hA3.kid4.loose 4 _)
    have hbw3 : Below base w w3 := (HBD.out.mono hbase).trans hI3.below
    have q3 := (hI3.frame _ (lt_heap HQD.out) (fun g h1 h2 => by have := (hA3.row g h1 h2).1; omega)).trans HQD.out
    obtain ⟨gf', hgf', -, hgl, hgfz, hgc⟩ := hA4.ox.files.blk (by omega)
    obtain rfl : gf = gf' := by simpa using hgf'
    have hE := ent_cells (b := gf) (o := 0) (fun j v hj => by rw [Nat.zero_add]; exact hgc j v hj) PN hkl
    rw [Nat.zero_add] at hE
    have d0 := hE.nm
    have d1 := hE.root
    have d2 := hE.size
    have a3 := cell_of_block hA4.abox 3
    have c0 := cell_of_block q3 0
    have c1 := cell_of_block q3 1
    simp only [List.getElem?_toArray, List.getElem?_cons_succ, List.getElem?_cons_zero] at a3 c0 c1
    have l1 := lt_heap hA4.abox
    have l3 := lt_heap q3
    have hlw := lt_heap HQD.out
    -- what is left behind
    have hFIN : Hid (AtEnd w (((w3.drew.setCell ⟨gf, PN * 3 + 1, none⟩ (.int .i64 root)).setCell ⟨gf, PN * 3 + 2, none⟩ (.int .i64 size))) B P base bx key ao n cap (looseF 4 s x.files[PN].root) x.nm (x.files.set PN ⟨x.files[PN].nm, root, size⟩) x.snaps 0) := Lib.hid (by
      have hA5 := hA4.mono (Below.refl w3.heap.size w3).drew
      refine ⟨((hbw3.trans (Below.refl _ _).drew).setCell (by show base ≤ gf; have := hA4.hP; have := hA4.hPx; omega) _).setCell (by show base ≤ gf; have := hA4.hP; have := hA4.hPx; omega) _, fun _ => ⟨some ⟨gf, 0, none⟩, fn, fc, so, sn, sc, vs, ?_⟩⟩
      have o1 := Kind.Own.setCell (K := entK) hA5.ox.files PN 1 (.int .i64 root) ⟨x.files[PN].nm, root, x.files[PN].size⟩ hkl (by decide) rfl
      have o2 := Kind.Own.setCell (K := entK) o1 PN 2 (.int .i64 size) ⟨x.files[PN].nm, root, size⟩ (by rw [List.length_set]; exact hkl) (by decide) (by rw [List.getElem_set_self]; rfl)
      rw [List.set_set] at o2
      have kk : ∀ b, b ≠ gf → ((w3.drew.setCell ⟨gf, PN * 3 + 1, none⟩ (.int .i64 root)).setCell ⟨gf, PN * 3 + 2, none⟩ (.int .i64 size)).heap[b]? = w3.drew.heap[b]? := fun b hb => (Below.heap_setCell _ _ _ _ hb).trans (Below.heap_setCell _ _ _ _ hb)
      have hBg : B ≠ gf := fun e => hA5.fB (by rw [e])
      exact hA5.files (w1 := (w3.drew.setCell ⟨gf, PN * 3 + 1, none⟩ (.int .i64 root)).setCell ⟨gf, PN * 3 + 2, none⟩ (.int .i64 size)) (fun b _ hb => kk b (fun e => hb (by rw [e]))) (by simp) o2 (fun g hg => .inl hg) ((kk B hBg).trans hA5.abox) (fun _ _ => rfl) rfl)
    clear hA3 hA4 hI3 hlen3 hbw3 q3 HAD HI0 HBD HQD hgc hE
    go_wp2_with fail
    go_region
    all_goals
      go_wp2
      go_ret
      rw [HR.out]
      exact ⟨rfl, hFIN.out⟩
  | false =>
    have hR := HRES.out
    rw [if_neg (by simp)] at hR
    have hbwB : Below base w w1 := hbw.mono hbase
    by_cases h6 : fn = 6
    · rw [if_pos (by rw [← HFL.out]; exact h6)] at hR
      have HR := Lib.hid hR
      subst h6
      clear hR HRES HPLT hA2 HA2 hfr2 hrise hlow hlv hrl
      go_wp2
      go_ret
      rw [HR.out]
      exact ⟨rfl, hbwB, fun h => by simp at h⟩
    · rw [if_neg (by rw [← HFL.out]; exact h6)] at hR
      have HR := Lib.hid hR
      have h6' : ((fn : Int) == 6) = false := by rw [beq_eq_false_iff_ne]; omega
      have h6'' : ¬ ((fn : Int) = 6) := by omega
      have hq : ∀ o : Obj, Below w1.drew.heap.size w1.drew (w1.drew.alloc o) := fun o => (Below.refl _ _).alloc (Nat.le_refl _) _
      have hA3 := (hA2.mono (Below.refl w1.heap.size w1).drew).mono (hq (.cells #[.string nm, .int .i64 root, .int .i64 size] 47))
      have hv : (w1.drew.alloc (.cells #[.string nm, .int .i64 root, .int .i64 size] 47)).heap[w1.heap.size]? = some (.cells (entK.cells ⟨nm, root, size⟩).toArray 47 (0, 0)) := heap_alloc_new w1.drew _
      have hvb : fo ≠ some ⟨w1.heap.size, 0, none⟩ := fun e => by have := (hA2.fge _ e).2; omega
      have HINS := Lib.hid (insert_ents (w1.drew.alloc (.cells #[.string nm, .int .i64 root, .int .i64 size] 47)) bx fo fn fc PN w1.heap.size x.files ⟨nm, root, size⟩ HFL.out.symm (by omega) hple hA3.ox.files hA3.hbx hv hvb)
      have HA3 := Lib.hid hA3
      have HBW : Hid (Below base w (w1.drew.alloc (.cells #[.string nm, .int .i64 root, .int .i64 size] 47))) := Lib.hid ((hbwB.drew).alloc hbase1 _)
      clear hR HRES HPLT HA2 hfr2 hrise hlow hlv hrl hA3 hv hvb hq hbwB
      go_wp2_with fail
      have l1a : B < (w1.drew.alloc (.cells #[.string nm, .int .i64 root, .int .i64 size] 47)).heap.size := lt_heap HA3.out.abox
      have HFB := Lib.hid hA2.fB
      clear hA2
      go_region_with (go_at_call 104; refine HINS.out.mono ?_; rintro e w4 ⟨fo4, fc4, rfl, hown4, hb4, hk4, hnew4⟩; have ab4 := (hk4 B l1a HFB.out).trans HA3.out.abox; have y3 := cell_of_block ab4 3; simp only [List.getElem?_toArray, List.getElem?_cons_succ, List.getElem?_cons_zero] at y3; have yf := fun j => free_of_block ab4 j; have y1 := lt_heap ab4)
      all_goals
        have hFIN : Hid (AtEnd w (w4.setCell ⟨B, 3, none⟩ (.slice fo4 (x.files.length + 1) fc4)) B P base bx key ao n cap s x.nm (insL x.files PN ⟨nm, root, size⟩) x.snaps 0) := Lib.hid (by
          have hA3 := HA3.out
          have hbx2 : base ≤ bx := by have := hA3.hP; have := hA3.hPx; omega
          refine ⟨(HBW.out.trans (hb4.mono hbx2)).setCell (by show base ≤ B; have := hA3.hB; omega) _, fun _ => ⟨fo4, x.files.length + 1, fc4, so, sn, sc, vs, ?_⟩⟩
          have hb2 := heap_setCell_same' ab4 3 (.slice fo4 (x.files.length + 1) fc4)
          simp only [List.setIfInBounds_toArray, List.set_cons_zero, List.set_cons_succ] at hb2
          exact hA3.files (w1 := w4) hk4 hb4.size hown4 hnew4 hb2 (fun b hb => Below.heap_setCell _ _ _ _ hb) (by simp))
        clear hown4 hb4 hk4 hnew4 ab4 y3 yf y1 HINS HA3 HBW a0 a3 c0 c1
        go_wp2
        go_ret
        rw [HR.out]
        exact ⟨rfl, hFIN.out⟩
end Go.Proofs.Ytgeacpfenhaioaa
