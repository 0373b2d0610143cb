/- set.at's lay. · set.at's move: a file goes, or has another name. -/
import Derived.StillTailTactics
import Derived.Test.YtfmgdjgedhnmeaaAtIn
namespace Go.Proofs.Ytfmgdjgedhnmeaa
open Go.RowKit
set_option linter.unusedVariables false

def entAt (l : List Ent) (k : Nat) : Ent := (l[k]?).getD ⟨⟨#[]⟩, 0, 0⟩
/-- what lay does -/
def layR (s : List Blk) (l : List Ent) (nm : ByteArray) (root size : Int) : List Blk × List Ent × Int :=
  if placeB (l.map Ent.nm) nm = true then (looseF 4 s (entAt l (placeN (l.map Ent.nm) nm)).root, l.set (placeN (l.map Ent.nm) nm) ⟨(entAt l (placeN (l.map Ent.nm) nm)).nm, root, size⟩, 0)
  else if l.length = 6 then (s, l, 2) else (s, insL l (placeN (l.map Ent.nm) nm) ⟨nm, root, size⟩, 0)

theorem placeB_lt {l : List ByteArray} {nm : ByteArray} (h : placeB l nm = true) : placeN l nm < l.length ∧ ∃ hl : placeN l nm < l.length, l[placeN l nm] = nm := by
  unfold placeB at h
  cases e : l[placeN l nm]? with
  | none => rw [e] at h; cases h
  | some y =>
    rw [e] at h
    obtain ⟨hl, hy⟩ := List.getElem?_eq_some_iff.1 e
    simp only [beq_iff_eq] at h
    exact ⟨hl, hl, by rw [hy]; exact toList_inj h⟩

/-- what a method leaves -/
def AtEnd (w w' : World) (B P base bx : Nat) (key : Int) (ao : Option Addr) (n cap : Nat) (t : List Blk) (nm : ByteArray) (files : List Ent) (snaps : List Snp) (er : Int) : Prop :=
  Below base w w' ∧ (er = 0 → ∃ fo fn fc so sn sc vs, AtIn w' B P base bx key ao n cap t fo fn fc so sn sc ⟨nm, files, snaps⟩ vs)

set_option maxRecDepth 100000 in
set_option maxHeartbeats 8000000 in
theorem lay_any (w : World) (B P base bx n cap fn fc sn sc : Nat) (key root size : Int) (nm : ByteArray) (ao fo so : Option Addr) (s : List Blk) (x : SetV) (vs : List Snv) (hA : AtIn w B P base bx key ao n cap s fo fn fc so sn sc x vs) (hsm : x.files.length ≤ 6) (hrise : Rising (x.files.map Ent.nm))
    (hlv : Lv s) (hrl : RefsL s 0) (hlow : RootsLow s (rootsF x.files)) :
    Calls Try.prog 115 #[.pointer (some ⟨B, 0, none⟩), .string nm, .agg #[.int .i64 root, .int .i64 size]] w fun e w' => e = .returned (.int .i64 (layR s x.files nm root size).2.2) ∧ AtEnd w w' B P base bx key ao n cap (layR s x.files nm root size).1 x.nm (layR s x.files nm root size).2.1 x.snaps (layR s x.files nm root size).2.2 := by
  have hbase : base ≤ w.heap.size := by have := hA.hP; have := hA.hPx; have := hA.hbx; omega
  have hbxw := hA.hbx
  have hfl := hA.ox.len.1
  have hf6 : fn ≤ 6 := by omega
  have hf6' : (fn : Int) ≤ 6 := by omega
  have hb0 : Below w.heap.size w (w.alloc (.cells #[.int .i64 root, .int .i64 size] 35)) := (Below.refl _ _).alloc (Nat.le_refl _) _
  have q0 : (w.alloc (.cells #[.int .i64 root, .int .i64 size] 35)).heap[w.heap.size]? = some (.cells #[.int .i64 root, .int .i64 size] 35 (0, 0)) := heap_alloc_new _ _
  have hA1 := hA.mono hb0
  have aw := cell_of_block hA.abox 3
  have lw := lt_heap hA.abox
  simp only [List.getElem?_toArray, List.getElem?_cons_succ, List.getElem?_cons_zero] at aw
  obtain ⟨fa, fcc, hfv, hfr, hfc, hfz⟩ := hA1.ox.files.row
  simp only [Value.slice.injEq] at hfv
  obtain ⟨rfl, -, rfl⟩ := hfv
  have HPL := Lib.hid (fun (u : World) (hr : entK.Row u fo x.files) => place_any u fo fn fc x.files nm hfl.symm (by omega) hr hrise)
  obtain ⟨PN, hPN⟩ : ∃ PN, placeN (x.files.map Ent.nm) nm = PN := ⟨_, rfl⟩
  obtain ⟨PB, hPB⟩ : ∃ PB, placeB (x.files.map Ent.nm) nm = PB := ⟨_, rfl⟩
  have hple : PN ≤ fn := by rw [← hPN, hfl]; have := placeN_le (x.files.map Ent.nm) nm; rwa [List.length_map] at this
  have hplt : PB = true → PN < fn := fun h => by rw [← hPN, hfl]; have := (placeB_lt (hPB.trans h)).1; rwa [List.length_map] at this
  have HPLT := Lib.hid hplt
  rw [hPN, hPB] at HPL
  have HRES : Hid (layR s x.files nm root size = if PB = true then (looseF 4 s (entAt x.files PN).root, x.files.set PN ⟨(entAt x.files PN).nm, root, size⟩, 0) else if x.files.length = 6 then (s, x.files, 2) else (s, insL x.files PN ⟨nm, root, size⟩, 0)) := Lib.hid (by unfold layR; rw [hPN, hPB])
  obtain ⟨RD, hRD⟩ : ∃ RD, layR s x.files nm root size = RD := ⟨_, rfl⟩
  rw [hRD] at HRES ⊢
  clear hRD hPN hPB hplt hA
  have HFL := Lib.hid hfl
  clear hfl
  have HA := Lib.hid hA1
  go_enter Try.func115, Try.ntmps115
  go_wp2_with fail
  have hfr1 := hfr
  generalize w.alloc (Obj.cells #[Value.int IntKind.i64 root, Value.int IntKind.i64 size] 35) = W0 at *
  refine (HPL.out W0 hfr).mono ?_
  rintro e w1 ⟨rfl, hb1⟩
  have hA2 := hA1.mono hb1
  have hbw := below_step hb0 hb1
  have q1 := (hb1.block _ (lt_heap q0)).trans q0
  have hfr2 := hfr.mono hb1
  clear hfr hfr1 aw lw HPL hb1 q0
  have a0 := cell_of_block hA2.abox 0
  have a3 := cell_of_block hA2.abox 3
  have c0 := cell_of_block q1 0
  have c1 := cell_of_block q1 1
  simp only [List.getElem?_toArray, List.getElem?_cons_succ, List.getElem?_cons_zero] at a0 a3 c0 c1
  have l1 := lt_heap hA2.abox
  have l3 := lt_heap q1
  have HA2 := Lib.hid hA2
  have hbase1 : base ≤ w1.heap.size := Nat.le_trans hbase hbw.size
  clear hA1 HA
  cases PB with
  | true =>
    have hlt := HPLT.out rfl
    have hR := HRES.out
    rw [if_pos rfl] at hR
    have HR := Lib.hid hR
    clear hR HRES HPLT
    have hkl : PN < x.files.length := by have := HFL.out; omega
    have hea : entAt x.files PN = x.files[PN] := by unfold entAt; rw [List.getElem?_eq_getElem hkl]; rfl
    rw [hea] at HR
    obtain ⟨gf, hgf, hgb, hgl, hgfz, hgc⟩ := hA2.ox.files.blk (by omega)
    have hE := ent_cells (b := gf) (o := 0) (fun j v hj => by rw [Nat.zero_add]; exact hgc j v hj) PN hkl
    rw [Nat.zero_add] at hE
    have d0 := hE.nm
    have d1 := hE.root
    have d2 := hE.size
    have hrt := hlow x.files[PN].root (List.mem_map.2 ⟨_, List.getElem_mem hkl, rfl⟩)
    have hPN' : (PN : Int) < fn := by omega
    subst hgf
    have HLV := Lib.hid hlv
    have HRL := Lib.hid hrl
    have HRT := Lib.hid hrt
    have HHS := Lib.hid hA2.slen
    have hI0 : InAt w1.drew w1.drew base ao n cap s s := ⟨hA2.own.mono (Below.refl _ _).drew, Below.refl _ _, fun _ _ _ => rfl⟩
    have HI0 := Lib.hid hI0
    have HAD := Lib.hid (hA2.mono (Below.refl w1.heap.size w1).drew)
    have HBD : Hid (Below w.heap.size w w1.drew) := Lib.hid hbw.drew
    have qd : w1.drew.heap[w.heap.size]? = some (.cells #[.int .i64 root, .int .i64 size] 35 (0, 0)) := q1
    have HQD := Lib.hid qd
    clear hgc hE hlow hrise hlv hrl hrt hI0 hfr2 hple hA2 qd
    go_wp2_with fail
    go_still_tail 14, (by kernel_rfl)
    change wpList _ _ _ _ _ w1.drew
    clear a0 a3 c0 c1 d0 d1 d2 l1 l3 q1 HA2 hbw hgl hgfz
    generalize w1.drew = w2 at *
    go_wp2_with fail
    have hA3 := HAD.out
    refine (loose_inL _ P base ao n cap s s x.files[PN].root 0 HHS.out HHS.out hA3.n4 hA3.sbox HI0.out (Nat.le_trans hbase HBD.out.size) (fun g h1 h2 => Ne.symm (hA3.row g h1 h2).2) HLV.out HRL.out (Int.le_refl _) (by omega) (by rcases HRT.out with h | ⟨h1, h2, h3⟩; exact .inl h; exact .inr ⟨h1, by rw [← HHS.out]; exact h2, h3⟩)).mono ?_
    rintro e w3 ⟨rfl, hI3, -⟩
    have hlen3 := (loosed 4 s x.files[PN].root 0 HLV.out HRL.out (Int.le_refl _)).len
    have hA4 := hA3.store hI3 (hlen3.trans HHS.out) (hA3.kid4.loose 4 _)
    have hbw3 : Below base w w3 := (HBD.out.mono hbase).trans hI3.below
    have q3 := (hI3.frame _ (lt_heap HQD.out) (fun g h1 h2 => by have := (hA3.row g h1 h2).1; omega)).trans HQD.out
    obtain ⟨gf', hgf', -, hgl, hgfz, hgc⟩ := hA4.ox.files.blk (by omega)
    obtain rfl : gf = gf' := by simpa using hgf'
    have hE := ent_cells (b := gf) (o := 0) (fun j v hj => by rw [Nat.zero_add]; exact hgc j v hj) PN hkl
    rw [Nat.zero_add] at hE
    have d0 := hE.nm
    have d1 := hE.root
    have d2 := hE.size
    have a3 := cell_of_block hA4.abox 3
    have c0 := cell_of_block q3 0
    have c1 := cell_of_block q3 1
    simp only [List.getElem?_toArray, List.getElem?_cons_succ, List.getElem?_cons_zero] at a3 c0 c1
    have l1 := lt_heap hA4.abox
    have l3 := lt_heap q3
    have hlw := lt_heap HQD.out
    -- what is left behind
    have hFIN : Hid (AtEnd w (((w3.drew.setCell ⟨gf, PN * 3 + 1, none⟩ (.int .i64 root)).setCell ⟨gf, PN * 3 + 2, none⟩ (.int .i64 size))) B P base bx key ao n cap (looseF 4 s x.files[PN].root) x.nm (x.files.set PN ⟨x.files[PN].nm, root, size⟩) x.snaps 0) := Lib.hid (by
      have hA5 := hA4.mono (Below.refl w3.heap.size w3).drew
      refine ⟨((hbw3.trans (Below.refl _ _).drew).setCell (by show base ≤ gf; have := hA4.hP; have := hA4.hPx; omega) _).setCell (by show base ≤ gf; have := hA4.hP; have := hA4.hPx; omega) _, fun _ => ⟨some ⟨gf, 0, none⟩, fn, fc, so, sn, sc, vs, ?_⟩⟩
      have o1 := Kind.Own.setCell (K := entK) hA5.ox.files PN 1 (.int .i64 root) ⟨x.files[PN].nm, root, x.files[PN].size⟩ hkl (by decide) rfl
      have o2 := Kind.Own.setCell (K := entK) o1 PN 2 (.int .i64 size) ⟨x.files[PN].nm, root, size⟩ (by rw [List.length_set]; exact hkl) (by decide) (by rw [List.getElem_set_self]; rfl)
      rw [List.set_set] at o2
      have kk : ∀ b, b ≠ gf → ((w3.drew.setCell ⟨gf, PN * 3 + 1, none⟩ (.int .i64 root)).setCell ⟨gf, PN * 3 + 2, none⟩ (.int .i64 size)).heap[b]? = w3.drew.heap[b]? := fun b hb => (Below.heap_setCell _ _ _ _ hb).trans (Below.heap_setCell _ _ _ _ hb)
      have hBg : B ≠ gf := fun e => hA5.fB (by rw [e])
      exact hA5.files (w1 := (w3.drew.setCell ⟨gf, PN * 3 + 1, none⟩ (.int .i64 root)).setCell ⟨gf, PN * 3 + 2, none⟩ (.int .i64 size)) (fun b _ hb => kk b (fun e => hb (by rw [e]))) (by simp) o2 (fun g hg => .inl hg) ((kk B hBg).trans hA5.abox) (fun _ _ => rfl) rfl)
    clear hA3 hA4 hI3 hlen3 hbw3 q3 HAD HI0 HBD HQD hgc hE
    go_wp2_with fail
    go_region
    all_goals
      go_wp2
      go_ret
      rw [HR.out]
      exact ⟨rfl, hFIN.out⟩
  | false =>
    have hR := HRES.out
    rw [if_neg (by simp)] at hR
    have hbwB : Below base w w1 := hbw.mono hbase
    by_cases h6 : fn = 6
    · rw [if_pos (by rw [← HFL.out]; exact h6)] at hR
      have HR := Lib.hid hR
      subst h6
      clear hR HRES HPLT hA2 HA2 hfr2 hrise hlow hlv hrl
      go_wp2
      go_ret
      rw [HR.out]
      exact ⟨rfl, hbwB, fun h => by simp at h⟩
    · rw [if_neg (by rw [← HFL.out]; exact h6)] at hR
      have HR := Lib.hid hR
      have h6' : ((fn : Int) == 6) = false := by rw [beq_eq_false_iff_ne]; omega
      have h6'' : ¬ ((fn : Int) = 6) := by omega
      have hq : ∀ o : Obj, Below w1.drew.heap.size w1.drew (w1.drew.alloc o) := fun o => (Below.refl _ _).alloc (Nat.le_refl _) _
      have hA3 := (hA2.mono (Below.refl w1.heap.size w1).drew).mono (hq (.cells #[.string nm, .int .i64 root, .int .i64 size] 37))
      have hv : (w1.drew.alloc (.cells #[.string nm, .int .i64 root, .int .i64 size] 37)).heap[w1.heap.size]? = some (.cells (entK.cells ⟨nm, root, size⟩).toArray 37 (0, 0)) := heap_alloc_new w1.drew _
      have hvb : fo ≠ some ⟨w1.heap.size, 0, none⟩ := fun e => by have := (hA2.fge _ e).2; omega
      have HINS := Lib.hid (insert_ents (w1.drew.alloc (.cells #[.string nm, .int .i64 root, .int .i64 size] 37)) bx fo fn fc PN w1.heap.size x.files ⟨nm, root, size⟩ HFL.out.symm (by omega) hple hA3.ox.files hA3.hbx hv hvb)
      have HA3 := Lib.hid hA3
      have HBW : Hid (Below base w (w1.drew.alloc (.cells #[.string nm, .int .i64 root, .int .i64 size] 37))) := Lib.hid ((hbwB.drew).alloc hbase1 _)
      clear hR HRES HPLT HA2 hfr2 hrise hlow hlv hrl hA3 hv hvb hq hbwB
      go_wp2_with fail
      have l1a : B < (w1.drew.alloc (.cells #[.string nm, .int .i64 root, .int .i64 size] 37)).heap.size := lt_heap HA3.out.abox
      have HFB := Lib.hid hA2.fB
      clear hA2
      go_region_with (go_at_call 137; refine HINS.out.mono ?_; rintro e w4 ⟨fo4, fc4, rfl, hown4, hb4, hk4, hnew4⟩; have ab4 := (hk4 B l1a HFB.out).trans HA3.out.abox; have y3 := cell_of_block ab4 3; simp only [List.getElem?_toArray, List.getElem?_cons_succ, List.getElem?_cons_zero] at y3; have yf := fun j => free_of_block ab4 j; have y1 := lt_heap ab4)
      all_goals
        have hFIN : Hid (AtEnd w (w4.setCell ⟨B, 3, none⟩ (.slice fo4 (x.files.length + 1) fc4)) B P base bx key ao n cap s x.nm (insL x.files PN ⟨nm, root, size⟩) x.snaps 0) := Lib.hid (by
          have hA3 := HA3.out
          have hbx2 : base ≤ bx := by have := hA3.hP; have := hA3.hPx; omega
          refine ⟨(HBW.out.trans (hb4.mono hbx2)).setCell (by show base ≤ B; have := hA3.hB; omega) _, fun _ => ⟨fo4, x.files.length + 1, fc4, so, sn, sc, vs, ?_⟩⟩
          have hb2 := heap_setCell_same' ab4 3 (.slice fo4 (x.files.length + 1) fc4)
          simp only [List.setIfInBounds_toArray, List.set_cons_zero, List.set_cons_succ] at hb2
          exact hA3.files (w1 := w4) hk4 hb4.size hown4 hnew4 hb2 (fun b hb => Below.heap_setCell _ _ _ _ hb) (by simp))
        clear hown4 hb4 hk4 hnew4 ab4 y3 yf y1 HINS HA3 HBW a0 a3 c0 c1
        go_wp2
        go_ret
        rw [HR.out]
        exact ⟨rfl, hFIN.out⟩
end Go.Proofs.Ytfmgdjgedhnmeaa

namespace Go.Proofs.Ytfmgdjgedhnmeaa
open Go.RowKit
set_option linter.unusedVariables false

/-- what is asked -/
structure AskV where
  kind : Int
  sname : ByteArray
  file : ByteArray
  dest : ByteArray
  at_ : Int
  n : Int
  bytes : List Int

def moveR (s : List Blk) (l : List Ent) (a : AskV) : List Blk × List Ent × Int :=
  if placeB (l.map Ent.nm) a.file = false then (s, l, 5)
  else if a.kind = 6 then
    (if nameB a.dest = false then (s, l, 1) else if placeB (l.map Ent.nm) a.dest = true then (s, l, 6)
     else layR s (l.eraseIdx (placeN (l.map Ent.nm) a.file)) a.dest (entAt l (placeN (l.map Ent.nm) a.file)).root (entAt l (placeN (l.map Ent.nm) a.file)).size)
  else (looseF 4 s (entAt l (placeN (l.map Ent.nm) a.file)).root, l.eraseIdx (placeN (l.map Ent.nm) a.file), 0)

theorem Rising.erase {l : List ByteArray} (h : Rising l) (i : Nat) : Rising (l.eraseIdx i) := List.Pairwise.sublist (List.eraseIdx_sublist _ _) h
theorem RootsLow.erase {s : List Blk} {l : List Ent} (h : RootsLow s (rootsF l)) (i : Nat) : RootsLow s (rootsF (l.eraseIdx i)) := fun a ha => by
  obtain ⟨x, hx, rfl⟩ := List.mem_map.1 ha
  exact h _ (List.mem_map.2 ⟨x, (List.eraseIdx_sublist _ _).mem hx, rfl⟩)

/-- a row goes shorter -/
theorem AtIn.gone {w w1 : World} {B P base bx : Nat} {key : Int} {ao : Option Addr} {n cap : Nat} {s : List Blk} {fo : Option Addr} {fn fc : Nat} {so : Option Addr} {sn sc : Nat} {x : SetV} {vs : List Snv} {p : Nat} {l' : List Ent} (h : AtIn w B P base bx key ao n cap s fo fn fc so sn sc x vs)
    (ho : entK.Own w1 bx (.slice fo p fc) l') (hb : Below bx w w1) (hk : ∀ b, b < w.heap.size → fo ≠ some ⟨b, 0, none⟩ → w1.heap[b]? = w.heap[b]?) :
    AtIn (w1.setCell ⟨B, 3, none⟩ (.slice fo p fc)) B P base bx key ao n cap s fo p fc so sn sc { x with files := l' } vs := by
  have ab := (hk B (lt_heap h.abox) h.fB).trans h.abox
  have hb2 := heap_setCell_same' ab 3 (.slice fo p fc)
  simp only [List.setIfInBounds_toArray, List.set_cons_zero, List.set_cons_succ] at hb2
  exact h.files (w1 := w1) hk hb.size ho (fun g hg => .inl hg) hb2 (fun b hb => Below.heap_setCell _ _ _ _ hb) (by simp)

set_option maxRecDepth 100000 in
set_option maxHeartbeats 8000000 in
theorem move_any (w : World) (B P base bx n cap fn fc sn sc bn bc : Nat) (key : Int) (ao fo so ba : Option Addr) (s : List Blk) (x : SetV) (vs : List Snv) (a : AskV) (hA : AtIn w B P base bx key ao n cap s fo fn fc so sn sc x vs) (hsm : x.files.length ≤ 6) (hrise : Rising (x.files.map Ent.nm))
    (hlv : Lv s) (hrl : RefsL s 0) (hlow : RootsLow s (rootsF x.files)) :
    Calls Try.prog 70 #[.pointer (some ⟨B, 0, none⟩), .agg #[.int .i64 a.kind, .string a.sname, .string a.file, .string a.dest, .int .i64 a.at_, .int .i64 a.n, .slice ba bn bc]] w fun e w' => e = .returned (.int .i64 (moveR s x.files a).2.2) ∧ AtEnd w w' B P base bx key ao n cap (moveR s x.files a).1 x.nm (moveR s x.files a).2.1 x.snaps (moveR s x.files a).2.2 := by
  have hbase : base ≤ w.heap.size := by have := hA.hP; have := hA.hPx; have := hA.hbx; omega
  have hbxw := hA.hbx
  have hfgw := hA.fge
  have hBw := lt_heap hA.abox
  have hfl := hA.ox.len.1
  have hf6 : fn ≤ 6 := by omega
  have hf6' : (fn : Int) ≤ 6 := by omega
  obtain ⟨kind, aset, afile, ato, aat, an, abytes⟩ := a
  have hb0 : Below w.heap.size w (w.alloc (.cells #[.int .i64 kind, .string aset, .string afile, .string ato, .int .i64 aat, .int .i64 an, .slice ba bn bc] 67)) := (Below.refl _ _).alloc (Nat.le_refl _) _
  have q0 : (w.alloc (.cells #[.int .i64 kind, .string aset, .string afile, .string ato, .int .i64 aat, .int .i64 an, .slice ba bn bc] 67)).heap[w.heap.size]? = some (.cells #[.int .i64 kind, .string aset, .string afile, .string ato, .int .i64 aat, .int .i64 an, .slice ba bn bc] 67 (0, 0)) := heap_alloc_new _ _
  have hA1 := hA.mono hb0
  obtain ⟨RD, hRD⟩ : ∃ RD, moveR s x.files ⟨kind, aset, afile, ato, aat, an, abytes⟩ = RD := ⟨_, rfl⟩
  rw [hRD]
  unfold moveR at hRD
  simp only at hRD
  obtain ⟨PN, hPN⟩ : ∃ PN, placeN (x.files.map Ent.nm) afile = PN := ⟨_, rfl⟩
  obtain ⟨PB, hPB⟩ : ∃ PB, placeB (x.files.map Ent.nm) afile = PB := ⟨_, rfl⟩
  have hplt : PB = true → PN < fn := fun h => by rw [← hPN, hfl]; have := (placeB_lt (hPB.trans h)).1; rwa [List.length_map] at this
  have HPLT := Lib.hid hplt
  have HFL := Lib.hid hfl
  have HRISE := Lib.hid hrise
  have HP0 : Hid (∀ (u : World) (nm : ByteArray), entK.Row u fo x.files → Calls Try.prog 111 #[.slice fo fn fc, .string nm] u fun e w' => e = .returned (.tuple #[.int .i64 (placeN (x.files.map Ent.nm) nm), .bool (placeB (x.files.map Ent.nm) nm)]) ∧ Below u.heap.size u w') :=
    Lib.hid fun u nm hr => by
      refine place_any u fo fn fc x.files nm HFL.out.symm (by omega) hr HRISE.out
  have HP1 := Lib.hid (fun (u : World) (hr : entK.Row u fo x.files) => HP0.out u afile hr)
  rw [hPN, hPB] at HP1
  rw [hPN, hPB] at hRD
  have HRD := Lib.hid hRD
  have HFGW := Lib.hid hfgw
  clear hRD hPN hPB hplt hfl hrise hA hfgw
  have HLOW := Lib.hid hlow
  have HLV := Lib.hid hlv
  have HRL := Lib.hid hrl
  clear hlow hlv hrl
  go_enter Try.func70, Try.ntmps70
  go_wp2_with fail
  generalize w.alloc (Obj.cells #[Value.int IntKind.i64 kind, Value.string aset, Value.string afile, Value.string ato, Value.int IntKind.i64 aat, Value.int IntKind.i64 an, Value.slice ba bn bc] 67) = W0 at *
  have a3 := cell_of_block hA1.abox 3
  have c2 := cell_of_block q0 2
  simp only [List.getElem?_toArray, List.getElem?_cons_succ, List.getElem?_cons_zero] at a3 c2
  have l1 := lt_heap hA1.abox
  have l3 := lt_heap q0
  have hfr : entK.Row W0 fo x.files := hA1.ox.is.frow
  have HPM := Lib.hid (fun v => HP1.out (mix W0 v) (hfr.mono (mix_below _ _)))
  clear hfr HP1
  refine wp_region_mix (by kernel_rfl) (by kernel_rfl) ?_
  repeat (go_big_quiet_step (first
    | (go_at_call 111; refine calls_mix (v := .tuple #[.int .i64 PN, .bool PB]) ?_; with_reducible exact HPM.out _)))
  refine wpQuiet_nil ?_
  intro w2 hb2
  have hA2 := hA1.mono hb2
  have q2 := (hb2.block _ (lt_heap q0)).trans q0
  have hbw := below_step hb0 hb2
  clear a3 c2 l1 l3 HPM hA1 q0 hb2
  have a3 := cell_of_block hA2.abox 3
  have c0 := cell_of_block q2 0
  have c2 := cell_of_block q2 2
  have c3 := cell_of_block q2 3
  simp only [List.getElem?_toArray, List.getElem?_cons_succ, List.getElem?_cons_zero] at a3 c0 c2 c3
  have l1 := lt_heap hA2.abox
  have l3 := lt_heap q2
  have hbwB : Below base w w2 := hbw.mono hbase
  cases PB with
  | false =>
    have HR : Hid (RD = (s, x.files, 5)) := Lib.hid (HRD.out.symm.trans (if_pos rfl))
    clear hA2
    go_wp2
    go_ret
    rw [HR.out]
    exact ⟨rfl, hbwB, fun h => by simp at h⟩
  | true =>
    have hlt := HPLT.out rfl
    have hR := HRD.out.symm
    rw [if_neg (by simp)] at hR
    have HR0 := Lib.hid hR
    clear hR HRD HPLT
    have hkl : PN < x.files.length := by have := HFL.out; omega
    have hea : entAt x.files PN = x.files[PN] := by unfold entAt; rw [List.getElem?_eq_getElem hkl]; rfl
    rw [hea] at HR0
    obtain ⟨gf, hgf, hgb, hgl, hgfz, hgc⟩ := hA2.ox.files.blk (by omega)
    have hE := ent_cells (b := gf) (o := 0) (fun j v hj => by rw [Nat.zero_add]; exact hgc j v hj) PN hkl
    rw [Nat.zero_add] at hE
    have d0 := hE.nm
    have d1 := hE.root
    have d2 := hE.size
    have hPN' : (PN : Int) < fn := by omega
    obtain ⟨fr, hfr⟩ : ∃ fr, x.files[PN].root = fr := ⟨_, rfl⟩
    obtain ⟨fz, hfz⟩ : ∃ fz, x.files[PN].size = fz := ⟨_, rfl⟩
    rw [hfr, hfz] at HR0
    rw [hfr] at d1
    rw [hfz] at d2
    have HFR : Hid (fr = 0 ∨ (1 ≤ fr ∧ fr ≤ s.length ∧ (blk s fr).level < (4 : Nat))) := Lib.hid (by rw [← hfr]; exact HLOW.out _ (List.mem_map.2 ⟨_, List.getElem_mem hkl, rfl⟩))
    clear hea hgc hE hfr hfz
    subst hgf
    -- the file's box
    have hb3 : Below w2.heap.size w2 (w2.alloc (.cells #[.int .i64 fr, .int .i64 fz] 35)) := (Below.refl _ _).alloc (Nat.le_refl _) _
    have qf : (w2.alloc (.cells #[.int .i64 fr, .int .i64 fz] 35)).heap[w2.heap.size]? = some (.cells #[.int .i64 fr, .int .i64 fz] 35 (0, 0)) := heap_alloc_new _ _
    have hA3 := hA2.mono hb3
    have q3 := (hb3.block _ (lt_heap q2)).trans q2
    have hbw3 := hbwB.trans (hb3.mono (Nat.le_trans hbase hbw.size))
    have hbase3 : base ≤ w2.heap.size := Nat.le_trans hbase hbw.size
    have hfbw : w.heap.size ≤ w2.heap.size := hbw.size
    -- Delete, whatever the world
    have HDEL : Hid (∀ (u : World) (B' P' : Nat), AtIn u B P base bx key ao n cap s (some ⟨gf, 0, none⟩) fn fc so sn sc x vs → Calls Try.prog 116 #[.slice (some ⟨gf, 0, none⟩) fn fc, .int .i64 PN, .int .i64 ((PN : Int) + 1)] u fun e w' => e = .returned (.slice (some ⟨gf, 0, none⟩) (fn - 1) fc) ∧ entK.Own w' bx (.slice (some ⟨gf, 0, none⟩) (fn - 1) fc) (x.files.eraseIdx PN) ∧ Below bx u w' ∧ ∀ b, b < u.heap.size → (some ⟨gf, 0, none⟩ : Option Addr) ≠ some ⟨b, 0, none⟩ → w'.heap[b]? = u.heap[b]?) := Lib.hid fun u _ _ hu => by
      have e1 : fn - 1 + 1 = fn := by omega
      have h := delete_ents u bx (some ⟨gf, 0, none⟩) (fn - 1) fc PN x.files (by rw [← HFL.out]; omega) (by omega) (by omega) (by rw [e1]; exact hu.ox.files)
      rw [e1] at h
      exact h
    by_cases hk6 : kind = 6
    · have hR := HR0.out
      rw [if_pos hk6] at hR
      have HR1 := Lib.hid hR
      have hk6' : (kind == 6) = true := by rw [beq_iff_eq]; exact hk6
      subst hk6
      clear hR HR0 hA2 hbwB hb3
      go_wp2_with fail
      generalize w2.alloc (Obj.cells #[Value.int IntKind.i64 fr, Value.int IntKind.i64 fz] 35) = W3 at *
      generalize w2.heap.size = fb at *
      refine (name_any _ _).mono ?_
      rintro e w' ⟨rfl, rfl⟩
      cases hnb : nameB ato with
      | false =>
        have HR : Hid (RD = (s, x.files, 1)) := Lib.hid (HR1.out.trans (if_pos hnb))
        clear hA3 HDEL HR1
        go_wp2
        go_ret
        rw [HR.out]
        exact ⟨rfl, hbw3, fun h => by simp at h⟩
      | true =>
        have hR := HR1.out
        rw [if_neg (by rw [hnb]; simp)] at hR
        obtain ⟨P2, hP2⟩ : ∃ P2, placeB (x.files.map Ent.nm) ato = P2 := ⟨_, rfl⟩
        obtain ⟨N2, hN2⟩ : ∃ N2, placeN (x.files.map Ent.nm) ato = N2 := ⟨_, rfl⟩
        have HP2 := Lib.hid (fun (u : World) (hr : entK.Row u (some ⟨gf, 0, none⟩) x.files) => HP0.out u ato hr)
        rw [hP2, hN2] at HP2
        rw [hP2] at hR
        have HR2 := Lib.hid hR
        clear hR HR1 hP2 hN2 HP0
        replace hnb := Lib.hid hnb
        have a3 := cell_of_block hA3.abox 3
        have k3 := cell_of_block q3 3
        simp only [List.getElem?_toArray, List.getElem?_cons_succ, List.getElem?_cons_zero] at a3 k3
        have lA := lt_heap hA3.abox
        have lK := lt_heap q3
        have hfr : entK.Row w' (some ⟨gf, 0, none⟩) x.files := hA3.ox.is.frow
        have HPM := Lib.hid (fun v => HP2.out (mix w' v) (hfr.mono (mix_below _ _)))
        clear hfr HP2 c0 c2 c3 d0 d1 d2 l1 l3
        go_wp2_with fail
        refine wp_region_mix (by kernel_rfl) (by kernel_rfl) ?_
        repeat (go_big_quiet_step (first
          | (go_at_call 111; refine calls_mix (v := .tuple #[.int .i64 N2, .bool P2]) ?_; with_reducible exact HPM.out _)))
        refine wpQuiet_nil ?_
        intro w4 hb4
        have hA4 := hA3.mono hb4
        have q4 := (hb4.block _ (lt_heap q3)).trans q3
        have qf4 := (hb4.block _ (lt_heap qf)).trans qf
        have hbw4 := hbw3.trans (hb4.mono (by have := hA3.hP; have := hA3.hPx; have := hA3.hbx; omega))
        clear a3 k3 lA lK HPM hA3 q3 qf hbw3
        have a3 := cell_of_block hA4.abox 3
        simp only [List.getElem?_toArray, List.getElem?_cons_succ, List.getElem?_cons_zero] at a3
        have lA := lt_heap hA4.abox
        cases P2 with
        | true =>
          have HR : Hid (RD = (s, x.files, 6)) := Lib.hid (HR2.out.trans (if_pos rfl))
          clear hA4 HDEL HR2
          go_wp2
          go_ret
          rw [HR.out]
          exact ⟨rfl, hbw4, fun h => by simp at h⟩
        | false =>
          have hR := HR2.out
          rw [if_neg (by simp)] at hR
          have HR := Lib.hid hR
          clear hR HR2
          have ab0 := hA4.abox
          have hne : (some ⟨gf, 0, none⟩ : Option Addr) ≠ some ⟨B, 0, none⟩ := hA4.fB
          go_wp2_with fail
          refine (HDEL.out w4 0 0 hA4).mono ?_
          rintro e w5 ⟨rfl, ho5, hb5, hk5⟩
          have hgfx : bx ≤ gf ∧ gf < w4.heap.size := hA4.fge gf rfl
          have hA5 := hA4.gone ho5 hb5 hk5
          have ab5 := (hk5 B lA hne).trans ab0
          have y3 := cell_of_block ab5 3
          simp only [List.getElem?_toArray, List.getElem?_cons_succ, List.getElem?_cons_zero] at y3
          have yf := free_of_block ab5 3
          have y1 := lt_heap ab5
          have hgfw := HFGW.out gf rfl
          have hfb : gf ≠ fb := by omega
          have hfB : B ≠ fb := by omega
          have qa5 := (hk5 _ (lt_heap q4) (by intro e; simp only [Option.some.injEq, Addr.mk.injEq, and_true] at e; omega)).trans q4
          have qf5 := (hk5 _ (lt_heap qf4) (by intro e; simp only [Option.some.injEq, Addr.mk.injEq, and_true] at e; omega)).trans qf4
          have qa6 : (w5.setCell ⟨B, 3, none⟩ (.slice (some ⟨gf, 0, none⟩) (fn - 1) fc)).heap[w.heap.size]? = _ := heap_setCell_ne qa5 (by show w.heap.size ≠ B; omega)
          have qf6 : (w5.setCell ⟨B, 3, none⟩ (.slice (some ⟨gf, 0, none⟩) (fn - 1) fc)).heap[fb]? = _ := heap_setCell_ne qf5 (Ne.symm hfB)
          have k0 := cell_of_block qa6 0
          have k3 := cell_of_block qa6 3
          have g0 := cell_of_block qf6 0
          have g1 := cell_of_block qf6 1
          simp only [List.getElem?_toArray, List.getElem?_cons_succ, List.getElem?_cons_zero] at k0 k3 g0 g1
          have la := lt_heap qa6
          have lf := lt_heap qf6
          have HA5 := Lib.hid hA5
          have HB5 : Hid (Below base w (w5.setCell ⟨B, 3, none⟩ (.slice (some ⟨gf, 0, none⟩) (fn - 1) fc))) := Lib.hid ((hbw4.trans (hb5.mono (by have := hA4.hP; have := hA4.hPx; omega))).setCell (by show base ≤ B; have := hA4.hP; have := hA4.hPx; have := hA4.hB; omega) _)
          clear hA4 q4 qf4 hbw4 ab0 ho5 hb5 hk5 hA5 ab5 qa5 qf5 qa6 qf6 HDEL a3
          have yk : ∀ v, (w5.setCell ⟨B, 3, none⟩ v).heap.size = w5.heap.size := fun v => by simp
          go_wp2_with fail
          generalize w5.setCell ⟨B, 3, none⟩ (.slice (some ⟨gf, 0, none⟩) (fn - 1) fc) = w6 at *
          refine (lay_any w6 B P base bx n cap (fn - 1) fc sn sc key fr fz ato ao (some ⟨gf, 0, none⟩) so s _ vs HA5.out (by show (x.files.eraseIdx PN).length ≤ 6; rw [List.length_eraseIdx]; split <;> omega) (by show Rising ((x.files.eraseIdx PN).map Ent.nm); rw [List.eraseIdx_eq_take_drop_succ, List.map_append, List.map_take, List.map_drop, ← List.eraseIdx_eq_take_drop_succ]; exact HRISE.out.erase PN) HLV.out HRL.out (HLOW.out.erase PN)).mono ?_
          rintro e w7 ⟨rfl, he7⟩
          have HE7 := Lib.hid he7
          clear he7
          go_wp2
          go_ret
          rw [HR.out]
          exact ⟨rfl, HB5.out.trans HE7.out.1, HE7.out.2⟩
    · have hR := HR0.out
      rw [if_neg hk6] at hR
      have HR := Lib.hid hR
      have hk6' : (kind == 6) = false := by rw [beq_eq_false_iff_ne]; exact hk6
      clear hR HR0 hA2 hbwB hb3
      go_wp2_with fail
      generalize w2.alloc (Obj.cells #[Value.int IntKind.i64 fr, Value.int IntKind.i64 fz] 35) = W3 at *
      generalize w2.heap.size = fb at *
      have ab0 := hA3.abox
      have hne : (some ⟨gf, 0, none⟩ : Option Addr) ≠ some ⟨B, 0, none⟩ := hA3.fB
      have l1a := lt_heap ab0
      refine (HDEL.out W3 0 0 hA3).mono ?_
      rintro e w4 ⟨rfl, ho4, hb4, hk4⟩
      have hgfx : bx ≤ gf ∧ gf < W3.heap.size := hA3.fge gf rfl
      have hA4 := hA3.gone ho4 hb4 hk4
      have ab4 := (hk4 B l1a hne).trans ab0
      have y3 := cell_of_block ab4 3
      simp only [List.getElem?_toArray, List.getElem?_cons_succ, List.getElem?_cons_zero] at y3
      have yf := free_of_block ab4 3
      have y1 := lt_heap ab4
      have hgfw := HFGW.out gf rfl
      have hfb : gf ≠ fb := by omega
      have hfB : B ≠ fb := by omega
      have qa4 := (hk4 _ (lt_heap q3) (by intro e; simp only [Option.some.injEq, Addr.mk.injEq, and_true] at e; omega)).trans q3
      have qf4 := (hk4 _ (lt_heap qf) (by intro e; simp only [Option.some.injEq, Addr.mk.injEq, and_true] at e; omega)).trans qf
      have qa5 : (w4.setCell ⟨B, 3, none⟩ (.slice (some ⟨gf, 0, none⟩) (fn - 1) fc)).heap[w.heap.size]? = _ := heap_setCell_ne qa4 (by show w.heap.size ≠ B; omega)
      have qf5 : (w4.setCell ⟨B, 3, none⟩ (.slice (some ⟨gf, 0, none⟩) (fn - 1) fc)).heap[fb]? = _ := heap_setCell_ne qf4 (Ne.symm hfB)
      have k0 := cell_of_block qa5 0
      have a0 := cell_of_block hA4.abox 0
      have g0 := cell_of_block qf5 0
      simp only [List.getElem?_toArray, List.getElem?_cons_zero] at k0 a0 g0
      have la := lt_heap qa5
      have lf := lt_heap qf5
      have lb := lt_heap hA4.abox
      have HA4 := Lib.hid hA4
      have HB4 : Hid (Below base w (w4.setCell ⟨B, 3, none⟩ (.slice (some ⟨gf, 0, none⟩) (fn - 1) fc))) := Lib.hid ((hbw3.trans (hb4.mono (by have := hA3.hP; have := hA3.hPx; omega))).setCell (by show base ≤ B; have := hA3.hP; have := hA3.hPx; have := hA3.hB; omega) _)
      clear hA3 q3 qf hbw3 ab0 ho4 hb4 hk4 hA4 ab4 qa4 qf4 qa5 qf5 HDEL
      have yk : ∀ v, (w4.setCell ⟨B, 3, none⟩ v).heap.size = w4.heap.size := fun v => by simp
      go_wp2_with fail
      generalize w4.setCell ⟨B, 3, none⟩ (.slice (some ⟨gf, 0, none⟩) (fn - 1) fc) = w5 at *
      go_still_tail 6, (by kernel_rfl)
      change wpList _ _ _ _ _ w5.drew
      have HA5 := Lib.hid (HA4.out.mono (Below.refl w5.heap.size w5).drew)
      have HB5 := Lib.hid (HB4.out.drew)
      clear k0 a0 g0 la lf lb HA4 HB4 y3 yf y1 yk
      generalize w5.drew = w6 at *
      go_wp2_with fail
      have hA5 := HA5.out
      refine (loose_inL _ P base ao n cap s s fr 0 hA5.slen hA5.slen hA5.n4 hA5.sbox ⟨hA5.own, Below.refl _ _, fun _ _ _ => rfl⟩ (Nat.le_trans hbase HB5.out.size) (fun g h1 h2 => Ne.symm (hA5.row g h1 h2).2) HLV.out HRL.out (Int.le_refl _) (by omega) (by rcases HFR.out with h | ⟨h1, h2, h3⟩; exact .inl h; exact .inr ⟨h1, by rw [← hA5.slen]; exact h2, h3⟩)).mono ?_
      rintro e w7 ⟨rfl, hI7, -⟩
      have hlen7 := (loosed 4 s fr 0 HLV.out HRL.out (Int.le_refl _)).len
      have hA7 := hA5.store hI7 (hlen7.trans hA5.slen) (hA5.kid4.loose 4 _)
      have hFIN : Hid (AtEnd w w7 B P base bx key ao n cap (looseF 4 s fr) x.nm (x.files.eraseIdx PN) x.snaps 0) := Lib.hid ⟨HB5.out.trans hI7.below, fun _ => ⟨_, _, _, _, _, _, _, hA7⟩⟩
      clear hA5 hA7 hI7 hlen7 HA5 HB5
      go_wp2
      go_ret
      rw [HR.out]
      exact ⟨rfl, hFIN.out⟩
end Go.Proofs.Ytfmgdjgedhnmeaa
