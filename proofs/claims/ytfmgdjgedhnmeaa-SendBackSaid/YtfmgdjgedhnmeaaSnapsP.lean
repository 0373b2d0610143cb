/- set.at's snaps: what they do, and what lies there. No program in sight. · set.at's snaps: one is made. -/
import Derived.Test.YtfmgdjgedhnmeaaMove
namespace Go.Proofs.Ytfmgdjgedhnmeaa
open Go.RowKit
set_option linter.unusedVariables false

def snpAt (l : List Snp) (k : Nat) : Snp := (l[k]?).getD ⟨⟨#[]⟩, []⟩
def snapsR (s : List Blk) (x : SetV) (a : AskV) : List Blk × SetV × Int :=
  if nameB a.dest = false then (s, x, 1)
  else if a.kind = 7 then
    (if placeB (x.snaps.map Snp.nm) a.dest = true then (s, x, 6) else if x.snaps.length = 3 then (s, x, 2)
     else (bump s (rootsF x.files), { x with snaps := insL x.snaps (placeN (x.snaps.map Snp.nm) a.dest) ⟨a.dest, x.files⟩ }, 0))
  else if placeB (x.snaps.map Snp.nm) a.dest = false then (s, x, 5)
  else if a.kind = 8 then (lessL s (rootsF (snpAt x.snaps (placeN (x.snaps.map Snp.nm) a.dest)).files), { x with snaps := x.snaps.eraseIdx (placeN (x.snaps.map Snp.nm) a.dest) }, 0)
  else (lessL (bump s (rootsF (snpAt x.snaps (placeN (x.snaps.map Snp.nm) a.dest)).files)) (rootsF x.files), { x with files := (snpAt x.snaps (placeN (x.snaps.map Snp.nm) a.dest)).files }, 0)

theorem Lv.bump {s : List Blk} (h : Lv s) (ks : List Int) : Lv (bump s ks) := by
  unfold Go.Proofs.Ytfmgdjgedhnmeaa.bump
  induction ks generalizing s with
  | nil => exact h
  | cons k ks ih =>
    rw [List.foldl_cons]
    refine ih ?_
    split
    · exact h.addRef k 1
    · exact h
theorem lev_bump (s : List Blk) (ks : List Int) (b : Int) : (blk (bump s ks) b).level = (blk s b).level := by
  unfold bump
  induction ks generalizing s with
  | nil => rfl
  | cons k ks ih =>
    rw [List.foldl_cons, ih]
    split
    · exact lev_addRef _ _ _ _
    · rfl
theorem refsL_bump {s : List Blk} (h : RefsIn s) (ks : List Int) (ha : Adr s ks) (hk : ks.length ≤ 1000) : RefsL (bump s ks) 0 := by
  intro x hx
  obtain ⟨j, hj, rfl⟩ := List.getElem_of_mem hx
  have hj2 : j < s.length := by rw [bump_length] at hj; exact hj
  have h1 := bump_get ks s j hj2 hj ha
  have h2 := h _ (List.getElem_mem hj2)
  have h3 := List.count_le_length (a := ((j : Int) + 1)) (l := ks)
  rw [h1]
  simp only
  omega
theorem Adr.of {s : List Blk} {ks : List Int} {n : Nat} (hn : s.length = n) (h : RootsIn n ks) : Adr s ks := fun k hk => by rw [hn]; exact h k hk
theorem RootsLow.in_ {s : List Blk} {ks : List Int} {n : Nat} (hn : s.length = n) (h : RootsLow s ks) : RootsIn n ks := fun a ha => by
  rcases h a ha with h1 | ⟨h1, h2, _⟩
  · exact .inl h1
  · exact .inr ⟨h1, by rw [← hn]; exact h2⟩
theorem RootsLow.bump {s : List Blk} {ks l : List Int} (h : RootsLow s l) : RootsLow (bump s ks) l := fun a ha => by
  rcases h a ha with h1 | ⟨h1, h2, h3⟩
  · exact .inl h1
  · exact .inr ⟨h1, by rw [bump_length]; exact h2, by rw [lev_bump]; exact h3⟩

theorem OwnXb.names {bad : Nat → Nat → Prop} {w : World} {base : Nat} {fo : Option Addr} {fn fc : Nat} {so : Option Addr} {sn sc : Nat} {x : SetV} {vs : List Snv} (h : OwnXb bad w base fo fn fc so sn sc x vs) : vs.map Snv.nm = x.snaps.map Snp.nm := by
  apply List.ext_getElem
  · rw [List.length_map, List.length_map, h.vlen]
  · intro i h1 h2
    rw [List.getElem_map, List.getElem_map]
    exact (h.each i (by simpa using h1) (by simpa using h2)).1

/-- two lists go together -/
def Both {α β : Type} (R : α → β → Prop) (l : List α) (m : List β) : Prop := l.length = m.length ∧ ∀ i (h : i < l.length) (h' : i < m.length), R l[i] m[i]
theorem Both.cons {α β : Type} {R : α → β → Prop} {a : α} {b : β} {l : List α} {m : List β} (h : R a b) (k : Both R l m) : Both R (a :: l) (b :: m) := by
  refine ⟨by simp [k.1], fun i h1 h2 => ?_⟩
  cases i with
  | zero => exact h
  | succ i => exact k.2 i (by simpa using h1) (by simpa using h2)
theorem Both.tail {α β : Type} {R : α → β → Prop} {a : α} {b : β} {l : List α} {m : List β} (h : Both R (a :: l) (b :: m)) : R a b ∧ Both R l m :=
  ⟨h.2 0 (by simp) (by simp), by simpa using h.1, fun i h1 h2 => h.2 (i + 1) (by simpa using h1) (by simpa using h2)⟩
theorem Both.ins {α β : Type} {R : α → β → Prop} {x : α} {y : β} (hxy : R x y) : ∀ (k : Nat) {l : List α} {m : List β}, Both R l m → Both R (insL l k x) (insL m k y)
  | 0, l, m, h => by simpa [insL] using Both.cons hxy h
  | k + 1, [], [], h => by simpa [insL] using Both.cons hxy h
  | k + 1, a :: l, b :: m, h => by
    obtain ⟨h1, h2⟩ := h.tail
    simpa [insL] using Both.cons h1 (Both.ins hxy k h2)
  | k + 1, [], b :: m, h => by have := h.1; simp at this
  | k + 1, a :: l, [], h => by have := h.1; simp at this
theorem Both.erase {α β : Type} {R : α → β → Prop} : ∀ (k : Nat) {l : List α} {m : List β}, Both R l m → Both R (l.eraseIdx k) (m.eraseIdx k)
  | _, [], [], h => by simpa using h
  | 0, a :: l, b :: m, h => by simpa using h.tail.2
  | k + 1, a :: l, b :: m, h => by
    obtain ⟨h1, h2⟩ := h.tail
    simpa using Both.cons h1 (Both.erase k h2)
  | _, [], b :: m, h => by have := h.1; simp at this
  | _, a :: l, [], h => by have := h.1; simp at this

section
variable {w : World} {B P base bx : Nat} {key : Int} {ao : Option Addr} {n cap : Nat} {s : List Blk} {fo : Option Addr} {fn fc : Nat} {so : Option Addr} {sn sc : Nat} {x : SetV} {vs : List Snv}
theorem AtIn.filesFar (h : AtIn w B P base bx key ao n cap s fo fn fc so sn sc x vs) : EntFar (fun b => s ≠ [] ∧ ao = some ⟨b, 0, none⟩) w fo x.files := by
  rcases Nat.eq_zero_or_pos x.files.length with h0 | h0
  · exact .inl (List.eq_nil_of_length_eq_zero h0)
  · obtain ⟨g, hg, hgb, hgl, -, hc⟩ := h.ox.files.blk h0
    exact .inr ⟨g, 0, hg, fun ⟨h1, h2⟩ => by have := h.row g h1 h2; omega, hgl, fun j v hj => by rw [Nat.zero_add]; exact hc j v hj⟩
theorem AtIn.snapFar (h : AtIn w B P base bx key ao n cap s fo fn fc so sn sc x vs) (i : Nat) (h1 : i < vs.length) (h2 : i < x.snaps.length) : EntFar (fun b => s ≠ [] ∧ ao = some ⟨b, 0, none⟩) w vs[i].ao x.snaps[i].files :=
  (h.ox.each i h1 h2).2.2.1.weaken fun b hb => .inl (h.row b hb.1 hb.2).1
end

/-- a snap that was made lies there -/
theorem snapNew_end {w0 w5 w6 U v : World} {B P base bx : Nat} {key : Int} {ao : Option Addr} {n cap : Nat} {t : List Blk} {fo : Option Addr} {fn fc : Nat} {so : Option Addr} {sn sc : Nat} {x : SetV} {vs : List Snv} {a5 so6 : Option Addr} {c5 sc6 PN : Nat} {ato : ByteArray}
    (hA : AtIn w0 B P base bx key ao n cap t fo fn fc so sn sc x vs) (hb5 : Below w0.heap.size w0 w5) (ho5 : entK.Own w5 w0.heap.size (.slice a5 x.files.length c5) x.files) (hc5 : x.files.length ≤ c5) (hz5 : a5 = none → c5 = 0) (hbU : Below w5.heap.size w5 U)
    (ho6 : snvK.Own w6 bx (.slice so6 (vs.length + 1) sc6) (insL vs PN ⟨ato, a5, x.files.length, c5⟩)) (hb6 : Below bx U w6) (hk6 : ∀ b, b < U.heap.size → so ≠ some ⟨b, 0, none⟩ → w6.heap[b]? = U.heap[b]?) (hnew6 : ∀ g, so6 = some ⟨g, 0, none⟩ → so = some ⟨g, 0, none⟩ ∨ U.heap.size ≤ g)
    (hB : Below base v w0) : AtEnd v (w6.setCell ⟨B, 4, none⟩ (.slice so6 (vs.length + 1) sc6)) B P base bx key ao n cap t x.nm x.files (insL x.snaps PN ⟨ato, x.files⟩) 0 := by
  have hAU := (hA.mono hb5).mono hbU
  have ab6 := (hk6 B (lt_heap hAU.abox) hA.sB).trans hAU.abox
  have hb2 := heap_setCell_same' ab6 4 (.slice so6 (vs.length + 1) sc6)
  simp only [List.setIfInBounds_toArray, List.set_cons_zero, List.set_cons_succ] at hb2
  have hbx2 : base ≤ bx := by have := hA.hP; have := hA.hPx; omega
  have hz1 := hb5.size
  have hz2 := hbU.size
  have hbx0 := hA.hbx
  have hsg := hA.sge
  have hfg := hA.fge
  have hboth : Both (fun (u : Snv) (y : Snp) => u.nm = y.nm ∧ u.n = y.files.length ∧ EntFar (badX bx fo so6) w6 u.ao y.files ∧ Capd u.ao u.n u.cap) vs x.snaps := by
    refine ⟨hA.ox.vlen, fun i h1 h2 => ?_⟩
    obtain ⟨i1, i2, i3, i4⟩ := hAU.ox.each i h1 h2
    refine ⟨i1, i2, ?_, i4⟩
    rcases i3 with hz | ⟨b, o, j1, j2, j3, j4⟩
    · exact .inl hz
    · have hbs : so ≠ some ⟨b, 0, none⟩ := fun e => j2 (.inr (.inr e))
      refine .inr ⟨b, o, j1, ?_, Nat.lt_of_lt_of_le j3 hb6.size, fun j u hj => (World.cell?_of_block (a := ⟨b, o + j, none⟩) (hk6 b j3 hbs)).trans (j4 j u hj)⟩
      rintro (e | e | e)
      · exact j2 (.inl e)
      · exact j2 (.inr (.inl e))
      · rcases hnew6 b e with e1 | e1
        · exact hbs e1
        · omega
  have hone : (⟨ato, a5, x.files.length, c5⟩ : Snv).nm = (⟨ato, x.files⟩ : Snp).nm ∧ (⟨ato, a5, x.files.length, c5⟩ : Snv).n = (⟨ato, x.files⟩ : Snp).files.length ∧ EntFar (badX bx fo so6) w6 (⟨ato, a5, x.files.length, c5⟩ : Snv).ao (⟨ato, x.files⟩ : Snp).files ∧ Capd (⟨ato, a5, x.files.length, c5⟩ : Snv).ao (⟨ato, a5, x.files.length, c5⟩ : Snv).n (⟨ato, a5, x.files.length, c5⟩ : Snv).cap := by
    refine ⟨rfl, rfl, ?_, hc5, hz5⟩
    rcases Nat.eq_zero_or_pos x.files.length with h0 | h0
    · exact .inl (List.eq_nil_of_length_eq_zero h0)
    · obtain ⟨g, hg, hgb, hgl, -, hc⟩ := ho5.blk h0
      have hgU : g < U.heap.size := by omega
      have hgs : so ≠ some ⟨g, 0, none⟩ := fun e => by have := (hsg g e).2; omega
      refine .inr ⟨g, 0, hg, ?_, Nat.lt_of_lt_of_le hgU hb6.size, fun j u hj => ?_⟩
      · rintro (e | e | e)
        · omega
        · have := (hfg g e).2; omega
        · rcases hnew6 g e with e1 | e1
          · exact hgs e1
          · omega
      · rw [Nat.zero_add]
        exact (World.cell?_of_block (a := ⟨g, j, none⟩) (hk6 g hgU hgs)).trans (((bcell hbU).1 g j hgl).trans (hc j u hj))
  have hins := Both.ins (R := fun (u : Snv) (y : Snp) => u.nm = y.nm ∧ u.n = y.files.length ∧ EntFar (badX bx fo so6) w6 u.ao y.files ∧ Capd u.ao u.n u.cap) (x := ⟨ato, a5, x.files.length, c5⟩) (y := ⟨ato, x.files⟩) hone PN hboth
  refine ⟨((hB.trans ((hb5.mono (by have := hB.size; have := hA.hP; have := hA.hPx; omega)).trans (hbU.mono (by have := hA.hP; have := hA.hPx; omega)))).trans (hb6.mono hbx2)).setCell (by show base ≤ B; have := hA.hB; omega) _, fun _ => ⟨fo, fn, fc, so6, vs.length + 1, sc6, insL vs PN ⟨ato, a5, x.files.length, c5⟩, ?_⟩⟩
  exact hAU.snapsRow (w1 := w6) hk6 hb6.size ho6 hnew6 hins.1 hins.2 hb2 (fun b hb => Below.heap_setCell _ _ _ _ hb) (by simp)

/-- what the method leaves -/
def SnEnd (w w' : World) (B P base bx : Nat) (key : Int) (ao : Option Addr) (n cap : Nat) (r : List Blk × SetV × Int) : Prop := AtEnd w w' B P base bx key ao n cap r.1 r.2.1.nm r.2.1.files r.2.1.snaps r.2.2

end Go.Proofs.Ytfmgdjgedhnmeaa

namespace Go.Proofs.Ytfmgdjgedhnmeaa
open Go.RowKit
set_option linter.unusedVariables false

set_option maxRecDepth 100000 in
set_option maxHeartbeats 16000000 in
theorem snap_new (w : World) (B P base bx n cap fn fc sn sc bn bc : Nat) (key : Int) (ao fo so ba : Option Addr) (s : List Blk) (x : SetV) (vs : List Snv) (a : AskV) (hA : AtIn w B P base bx key ao n cap s fo fn fc so sn sc x vs) (hsm : SmallX x) (hrise : Rising (x.snaps.map Snp.nm))
    (hlv : Lv s) (hri : RefsIn s) (hlow : RootsLow s (rootsF x.files)) (hlows : ∀ y ∈ x.snaps, RootsLow s (rootsF y.files)) (hk7 : a.kind = 7) :
    Calls Try.prog 71 #[.pointer (some ⟨B, 0, none⟩), .agg #[.int .i64 a.kind, .string a.sname, .string a.file, .string a.dest, .int .i64 a.at_, .int .i64 a.n, .slice ba bn bc]] w fun e w' => e = .returned (.int .i64 (snapsR s x a).2.2) ∧ SnEnd w w' B P base bx key ao n cap (snapsR s x a) := by
  have hbase : base ≤ w.heap.size := by have := hA.hP; have := hA.hPx; have := hA.hbx; omega
  have hbxw := hA.hbx
  have hfgw := hA.fge
  have hsgw := hA.sge
  have hBw := lt_heap hA.abox
  have hfl := hA.ox.len.1
  have hsl := hA.ox.len.2
  have hf6 : fn ≤ 6 := by have := hsm.files; omega
  have hs3 : sn ≤ 3 := by have := hsm.snaps; omega
  have hf6' : (fn : Int) ≤ 6 := by omega
  have hs3' : (sn : Int) ≤ 3 := by omega
  obtain ⟨kind, aset, afile, ato, aat, an, abytes⟩ := a
  have HK7 : Hid (kind = 7) := Lib.hid hk7
  clear hk7
  have hb0 : Below w.heap.size w (w.alloc (.cells #[.int .i64 kind, .string aset, .string afile, .string ato, .int .i64 aat, .int .i64 an, .slice ba bn bc] 67)) := (Below.refl _ _).alloc (Nat.le_refl _) _
  have q0 : (w.alloc (.cells #[.int .i64 kind, .string aset, .string afile, .string ato, .int .i64 aat, .int .i64 an, .slice ba bn bc] 67)).heap[w.heap.size]? = some (.cells #[.int .i64 kind, .string aset, .string afile, .string ato, .int .i64 aat, .int .i64 an, .slice ba bn bc] 67 (0, 0)) := heap_alloc_new _ _
  have hA1 := hA.mono hb0
  obtain ⟨RD, hRD⟩ : ∃ RD, snapsR s x ⟨kind, aset, afile, ato, aat, an, abytes⟩ = RD := ⟨_, rfl⟩
  rw [hRD]
  unfold snapsR at hRD
  simp only at hRD
  obtain ⟨PN, hPN⟩ : ∃ PN, placeN (x.snaps.map Snp.nm) ato = PN := ⟨_, rfl⟩
  obtain ⟨PB, hPB⟩ : ∃ PB, placeB (x.snaps.map Snp.nm) ato = PB := ⟨_, rfl⟩
  have hple : PN ≤ sn := by rw [← hPN, hsl]; have := placeN_le (x.snaps.map Snp.nm) ato; rwa [List.length_map] at this
  have hplt : PB = true → PN < sn := fun h => by rw [← hPN, hsl]; have := (placeB_lt (hPB.trans h)).1; rwa [List.length_map] at this
  have HPLT := Lib.hid hplt
  have HFL := Lib.hid hfl
  have HSL := Lib.hid hsl
  have HNM := Lib.hid hA.ox.names
  have HVL : Hid (vs.length = sn) := Lib.hid (hA.ox.vlen.trans hsl.symm)
  have HP1 := Lib.hid (fun (u : World) (hr : snvK.Row u so vs) => snap_any u x.nm fo so fn fc sn sc vs ato HVL.out (by omega) hr (by rw [HNM.out]; exact hrise))
  rw [HNM.out, hPN, hPB] at HP1
  rw [hPN, hPB] at hRD
  have HRD := Lib.hid hRD
  have HFGW := Lib.hid hfgw
  have HSGW := Lib.hid hsgw
  have HLOW := Lib.hid hlow
  have HLOWS := Lib.hid hlows
  have HLV := Lib.hid hlv
  have HRI := Lib.hid hri
  have HSM := Lib.hid hsm
  clear hRD hPN hPB hplt hfl hsl hrise hA hfgw hsgw hlow hlows hlv hri hsm HNM
  have hA1' := hA1
  go_enter Try.func71, Try.ntmps71
  go_wp2_with fail
  generalize w.alloc (Obj.cells #[Value.int IntKind.i64 kind, Value.string aset, Value.string afile, Value.string ato, Value.int IntKind.i64 aat, Value.int IntKind.i64 an, Value.slice ba bn bc] 67) = W0 at *
  refine (name_any _ _).mono ?_
  rintro e w' ⟨rfl, rfl⟩
  have hbw0 : Below base w w' := hb0.mono hbase
  cases hnb : nameB ato with
  | false =>
    have HR : Hid (RD = (s, x, 1)) := Lib.hid (HRD.out.symm.trans (if_pos hnb))
    clear hA1 hA1' HRD HP1
    go_wp2
    go_ret
    rw [HR.out]
    exact ⟨rfl, hbw0, fun h => by simp at h⟩
  | true =>
    have hR := HRD.out.symm
    rw [if_neg (by rw [hnb]; simp)] at hR
    have HR0 := Lib.hid hR
    clear hR HRD hA1'
    replace hnb := Lib.hid hnb
    have a2 := cell_of_block hA1.abox 2
    have a3 := cell_of_block hA1.abox 3
    have a4 := cell_of_block hA1.abox 4
    have k3 := cell_of_block q0 3
    simp only [List.getElem?_toArray, List.getElem?_cons_succ, List.getElem?_cons_zero] at a2 a3 a4 k3
    have lA := lt_heap hA1.abox
    have lK := lt_heap q0
    obtain ⟨sa, scc, hsv, hsr, -, -⟩ := hA1.ox.snaps.row
    simp only [Value.slice.injEq] at hsv
    obtain ⟨rfl, -, rfl⟩ := hsv
    have HPM := Lib.hid (fun v => HP1.out (mix w' v) (hsr.mono (mix_below _ _)))
    clear hsr HP1
    go_wp2_with fail
    refine wp_region_mix (by kernel_rfl) (by kernel_rfl) ?_
    repeat (go_big_quiet_step (first
      | (go_at_call 72; refine calls_mix (v := .tuple #[.int .i64 PN, .bool PB]) ?_; with_reducible exact HPM.out _)))
    refine wpQuiet_nil ?_
    intro w2 hb2
    have hA2 := hA1.mono hb2
    have q2 := (hb2.block _ (lt_heap q0)).trans q0
    have hbw2 : Below base w w2 := hbw0.trans (hb2.mono (by have := hA1.hP; have := hA1.hPx; have := hA1.hbx; omega))
    have hsz2 : w.heap.size < w2.heap.size := lt_heap q2
    clear a2 a3 a4 k3 lA lK HPM hA1 q0 hb2 hbw0 hb0
    have a0 := cell_of_block hA2.abox 0
    have a3 := cell_of_block hA2.abox 3
    have a4 := cell_of_block hA2.abox 4
    have k0 := cell_of_block q2 0
    have k3 := cell_of_block q2 3
    simp only [List.getElem?_toArray, List.getElem?_cons_succ, List.getElem?_cons_zero] at a0 a3 a4 k0 k3
    have lA := lt_heap hA2.abox
    have lK := lt_heap q2
    have h7 : kind = 7 := HK7.out
    all_goals
      have hR := HR0.out
      rw [if_pos h7] at hR
      have h7' : (kind == 7) = true := by rw [beq_iff_eq]; exact h7
      subst h7
      cases PB with
      | true =>
        have HR : Hid (RD = (s, x, 6)) := Lib.hid (hR.trans (if_pos rfl))
        clear hA2 HR0 hR
        go_wp2
        go_ret
        rw [HR.out]
        exact ⟨rfl, hbw2, fun h => by simp at h⟩
      | false =>
        rw [if_neg (by simp)] at hR
        by_cases h3 : sn = 3
        · rw [if_pos (by rw [← HSL.out]; exact h3)] at hR
          have HR := Lib.hid hR
          subst h3
          clear hA2 HR0 hR
          go_wp2
          go_ret
          rw [HR.out]
          exact ⟨rfl, hbw2, fun h => by simp at h⟩
        · rw [if_neg (by rw [← HSL.out]; exact h3)] at hR
          have HR := Lib.hid hR
          have h3' : ((sn : Int) == 3) = false := by rw [beq_eq_false_iff_ne]; omega
          have h3'' : ¬ ((sn : Int) = 3) := by omega
          clear HR0 hR
          have HA3 := Lib.hid (hA2.mono (Below.refl w2.heap.size w2).drew)
          have HB3 : Hid (Below base w w2.drew) := Lib.hid hbw2.drew
          have q3 : w2.drew.heap[w.heap.size]? = _ := q2
          have HQ3 := Lib.hid q3
          clear hA2 hbw2 q2 q3
          go_wp2_with fail
          go_still_tail 9, (by kernel_rfl)
          change wpList _ _ _ _ _ w2.drew
          clear a0 a3 a4 k0 k3 lA lK
          generalize w2.drew = w3 at *
          go_wp2_with fail
          have hA3 := HA3.out
          refine (keep_more w3 P base ao fo n cap fn fc s x.files hA3.slen hA3.n4 hA3.sbox hA3.own (Nat.le_trans hbase HB3.out.size) (fun g h1 h2 => Ne.symm (hA3.row g h1 h2).2) (fun y hy => by have := HRI.out y hy; omega) HFL.out.symm hf6 hA3.filesFar (HLOW.out.in_ hA3.slen)).mono ?_
          rintro e w4 ⟨rfl, hI4⟩
          have hA4 := hA3.store hI4 ((bump_length _ _).trans hA3.slen) (hA3.kid4.bump _)
          have hbw4 : Below base w w4 := HB3.out.trans hI4.below
          have q4 := (hI4.frame _ (lt_heap HQ3.out) (fun g h1 h2 => by have := (hA3.row g h1 h2).1; omega)).trans HQ3.out
          clear hA3 HA3 HB3 HQ3 hI4
          have HSG : Hid (∀ g, so = some ⟨g, 0, none⟩ → g < w4.heap.size) := Lib.hid fun g hg => (hA4.sge g hg).2
          have HFG : Hid (∀ g, fo = some ⟨g, 0, none⟩ → g < w4.heap.size) := Lib.hid fun g hg => (hA4.fge g hg).2
          have hAd := hA4.mono (Below.refl w4.heap.size w4).drew
          have HA4 := Lib.hid hAd
          have a3 := cell_of_block hA4.abox 3
          have a4 := cell_of_block hA4.abox 4
          have k3 := cell_of_block q4 3
          simp only [List.getElem?_toArray, List.getElem?_cons_succ, List.getElem?_cons_zero] at a3 a4 k3
          have lA := lt_heap hA4.abox
          have lK := lt_heap q4
          have HCL := Lib.hid (clone_ents w4.drew fo fn fc x.files HFL.out.symm hAd.ox.is.frow hAd.ox.is.fcap (by omega))
          have HINS : Hid (∀ (u : World) (vb : Nat) (y : Snv), AtIn u B P base bx key ao n cap (bump s (rootsF x.files)) fo fn fc so sn sc x vs → u.heap[vb]? = some (.cells (snvK.cells y).toArray 105 (0, 0)) → so ≠ some ⟨vb, 0, none⟩ → Calls Try.prog 118 #[.slice so sn sc, .int .i64 PN, .slice (some ⟨vb, 0, none⟩) 1 1] u fun e w' => InsEnd snvK u w' bx so vs PN y e) :=
            Lib.hid fun u vb y hu hv hvb => insert_snvs u bx so sn sc PN vb vs y HVL.out (by omega) hple hu.ox.snaps hu.hbx hv hvb
          have HB4 := Lib.hid hbw4.drew
          clear hA4 hAd q4 hbw4
          go_wp2_with fail
          go_region_with (first
            | (go_at_call 73; refine HCL.out.mono ?_; rintro e w5 ⟨v5, rfl, ho5, hb5⟩; obtain ⟨a5, c5, rfl, -, hc5, hz5⟩ := ho5.row; have u3 := ((bcell hb5).1 _ _ lA).trans a3; have u4 := ((bcell hb5).1 _ _ lA).trans a4; have uk := ((bcell hb5).1 _ _ lK).trans k3; have zA := Nat.lt_of_lt_of_le lA hb5.size; have zK := Nat.lt_of_lt_of_le lK hb5.size)
            | (go_at_call 118; refine (HINS.out _ w5.heap.size ⟨ato, a5, x.files.length, c5⟩ ((HA4.out.mono hb5).mono ((Below.refl _ _).alloc (Nat.le_refl _) _)) (heap_alloc_new _ _) (fun e => by have := HSG.out _ e; have h9 : w4.heap.size ≤ w5.heap.size := hb5.size; omega)).mono ?_; rintro e w6 ⟨so6, sc6, rfl, ho6, hb6, hk6, hnew6⟩; have ab6 := (hk6 B (by have := zA; simp; omega) HA4.out.sB).trans ((HA4.out.mono hb5).mono ((Below.refl _ _).alloc (Nat.le_refl _) _)).abox; have y4 := cell_of_block ab6 4; simp only [List.getElem?_toArray, List.getElem?_cons_succ, List.getElem?_cons_zero] at y4; have yf := fun j => free_of_block ab6 j; have y1 := lt_heap ab6))
          all_goals
            have hFIN := Lib.hid (snapNew_end HA4.out hb5 ho5 hc5 hz5 ((Below.refl _ _).alloc (Nat.le_refl _) _) ho6 hb6 hk6 hnew6 HB4.out)
            clear ho5 hb5 hc5 hz5 ho6 hb6 hk6 hnew6 ab6 y4 yf y1 u3 u4 uk zA zK a3 a4 k3 lA lK HCL HINS HA4
            go_wp2
            go_ret
            rw [HR.out]
            exact ⟨rfl, hFIN.out⟩
end Go.Proofs.Ytfmgdjgedhnmeaa
