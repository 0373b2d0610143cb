/- rookerylaw.FileWrites: the walk. -/
import Derived.Test.YtodogcokljmkmaaFiled
import Derived.Test.YtodogcokljmkmaaTurnIn
import Derived.Test.YtodogcokljmkmaaRefOver
import Derived.Test.YtodogcokljmkmaaOwnStore
import Derived.Test.YtodogcokljmkmaaSame
import Derived.Test.YtodogcokljmkmaaAppZ
namespace Go.Proofs.Ytodogcokljmkmaa
open Go.RowKit
set_option linter.unusedVariables false

theorem sameS_self (s : List Blk) : sameS s s = true := by simp [sameS]
theorem WfS.nil : WfS [] := fun x hx => by cases hx

theorem writeR_cases (s : List Blk) (key root size at_ : Int) (b : List Int) :
    (fileE s key root size ≠ 0 ∧ writeR s key root size at_ b = ([], (0, 0), fileE s key root size)) ∨ (fileE s key root size = 0 ∧ ∃ z : Nat, size = z ∧ z ≤ 256 ∧ (fileB s key root z).length = z ∧ fileE s key root z = 0 ∧
      (((overR (fileB s key root z) at_ b).2 ≠ 0 ∧ writeR s key root size at_ b = ([], (0, 0), (overR (fileB s key root z) at_ b).2)) ∨ ((overR (fileB s key root z) at_ b).2 = 0 ∧ writeR s key root size at_ b = turnedR s key root z (overR (fileB s key root z) at_ b).1))) := by
  unfold writeR
  by_cases h : fileE s key root size = 0
  · right
    obtain ⟨-, hz0, hz1, -, -⟩ := fileE_ok h
    obtain ⟨z, rfl⟩ : ∃ z : Nat, size = z := ⟨size.toNat, by omega⟩
    refine ⟨h, z, rfl, by omega, fileB_len h, h, ?_⟩
    rw [if_neg (fun h1 => h1 h)]
    by_cases h1 : (overR (fileB s key root z) at_ b).2 = 0
    · exact .inr ⟨h1, by rw [if_neg (fun h2 => h2 h1)]⟩
    · exact .inl ⟨h1, by rw [if_pos h1]⟩
  · exact .inl ⟨h, by rw [if_pos h]⟩
theorem cutR_cases (s : List Blk) (key root size tz : Int) :
    (fileE s key root size ≠ 0 ∧ cutR s key root size tz = ([], (0, 0), fileE s key root size)) ∨ (fileE s key root size = 0 ∧ (tz < 0 ∨ 256 < tz) ∧ cutR s key root size tz = ([], (0, 0), 3)) ∨
      (fileE s key root size = 0 ∧ ∃ k : Nat, tz = k ∧ k ≤ 256 ∧ cutR s key root size tz = turnedR s key root size (cutL (fileB s key root size) k)) := by
  unfold cutR
  by_cases h : fileE s key root size = 0
  · right
    rw [if_neg (fun h1 => h1 h)]
    by_cases h1 : tz < 0 ∨ 256 < tz
    · exact .inl ⟨h, h1, by rw [if_pos h1]⟩
    · obtain ⟨k, rfl⟩ : ∃ k : Nat, tz = k := ⟨tz.toNat, by omega⟩
      exact .inr ⟨h, k, rfl, by omega, by rw [if_neg h1]; rfl⟩
  · exact .inl ⟨h, by rw [if_pos h]⟩
theorem overR_bad {b more : List Int} {at_ : Int} (h : (overR b at_ more).2 ≠ 0) : (overR b at_ more).1 = [] := by
  unfold overR at h ⊢
  split
  · rfl
  · rename_i h1
    rw [if_neg h1] at h
    split
    · rfl
    · rename_i h2
      rw [if_neg h2] at h
      exact absurd rfl h
theorem cutL_app (b : List Int) (k : Nat) (hk : k ≤ 256) (hb : b.length ≤ 256) : (b ++ zeros 256).take k = cutL b k := by
  refine ext_getD (by rw [List.length_take, List.length_append, cutL_len]; simp only [zeros, List.length_replicate]; omega) fun j hj => ?_
  rw [List.length_take] at hj
  unfold cutL
  rw [take_getD, if_pos (by omega), append_zeros_getD, append_zeros_getD, take_getD, if_pos (by omega)]

/-- append as one step of a region that draws its order, by what it does there -/
theorem step_append_run {P : Program} {ops : Array Oper} {o : Oper} {a : Act} {w w' : World} {K : Act → World → Prop} {Q : Exit → Act → World → Prop} {E : Prop} (hgd : o.guard = none) (s x : Operand) (t u ty : TypeId) (hty : o.type = ty) (ho : o.op = .call { callee := .builtin .append, args := #[s, x], argTypes := #[t, u] })
    {vs vx v : Value} (hs : a.eval s = vs) (hx : a.eval x = vx) (hrun : (Builtin.append_ #[t, u] ty #[vs, vx]).run P w = .ok v w') (h : K (a.put o.dst v) w') :
    if Region.wanted o (yielded ops a.tmps) = true then Oper.wp P o a w K Q else E := by
  have hw : Region.wanted o (yielded ops a.tmps) = true := by simp [Region.wanted, hgd]
  rw [if_pos hw]
  unfold Oper.wp execOp
  simp only [ho, hty, resolve, invoke, builtin, Sem.run_bind, Sem.run_pure, Result.andThen_ok, List.map_toArray, List.map_cons, List.map_nil, hs, hx, hrun]
  exact h

/-- the boxes of the law's variables -/
structure WBox (u : World) (k : Nat) (w1 w2 w3 : Nat) (ao mo co : Option Addr) (n cap mn mc cn cc : Nat) (key root size gr gz hr hz : Int) (ml cl s : List Blk) : Prop where
  s0 : u.heap[k]? = some (.cells #[.slice ao n cap] 24 (0, 0))
  k0 : u.heap[k + 1]? = some (.cells #[.int .i64 key] 3 (0, 0))
  f0 : u.heap[k + 1 + 1]? = some (.cells #[.int .i64 root, .int .i64 size] 26 (0, 0))
  m0 : u.heap[w1]? = some (.cells #[.slice mo mn mc] 24 (0, 0))
  g0 : u.heap[w1 + 1]? = some (.cells #[.int .i64 gr, .int .i64 gz] 26 (0, 0))
  c0 : u.heap[w2]? = some (.cells #[.slice co cn cc] 24 (0, 0))
  h0 : u.heap[w2 + 1]? = some (.cells #[.int .i64 hr, .int .i64 hz] 26 (0, 0))
  x0 : u.heap[w3]? = some (.cells #[.slice none 0 0] 24 (0, 0))
  ms : StoRow u mo ml
  cs : StoRow u co cl
  ss : StoRow u ao s
theorem WBox.mono {u u' : World} {k w1 w2 w3 : Nat} {ao mo co : Option Addr} {n cap mn mc cn cc : Nat} {key root size gr gz hr hz : Int} {ml cl s : List Blk} (h : WBox u k w1 w2 w3 ao mo co n cap mn mc cn cc key root size gr gz hr hz ml cl s) (hb : Below u.heap.size u u') : WBox u' k w1 w2 w3 ao mo co n cap mn mc cn cc key root size gr gz hr hz ml cl s :=
  have t : ∀ {i : Nat} {o : Obj}, u.heap[i]? = some o → u'.heap[i]? = some o := fun h => (hb.block _ (lt_heap h)).trans h
  ⟨t h.s0, t h.k0, t h.f0, t h.m0, t h.g0, t h.c0, t h.h0, t h.x0, h.ms.mono hb, h.cs.mono hb, h.ss.mono hb⟩

set_option maxRecDepth 100000 in
set_option maxHeartbeats 16000000 in
theorem turns_any (w : World) (sb kb fb xb : Nat) (ao mo ba : Option Addr) (n cap mn mc nb bc z : Nat) (s ml : List Blk) (key root : Int) (b : List Int) (gr gz er bad : Int) (hn : s.length = n) (h41 : n ≤ 2199023255552)
    (ps : w.heap[sb]? = some (.cells #[.slice ao n cap] 24 (0, 0))) (pk : w.heap[kb]? = some (.cells #[.int .i64 key] 3 (0, 0))) (pf : w.heap[fb]? = some (.cells #[.int .i64 root, .int .i64 z] 26 (0, 0))) (px : w.heap[xb]? = some (.cells #[.slice none 0 0] 24 (0, 0)))
    (hs : StoRow w ao s) (hwf : WfS s) (hm : ml.length = mn) (hmr : StoRow w mo ml) (hok : fileE s key root z = 0) (hby : Byt b) (hnb : b.length = nb) (hb4 : nb ≤ 256) (hbr : Row .u8 w ba b) (hbc : Capd ba nb bc) (hbb : ∀ g o, ba = some ⟨g, o, none⟩ → g < w.heap.size)
    (hcase : (bad ≠ 0 ∧ ml = [] ∧ gr = 0 ∧ gz = 0 ∧ er = bad) ∨ (bad = 0 ∧ turnedR s key root z b = (ml, (gr, gz), er))) :
    Calls Try.prog 28 #[.agg #[.slice mo mn mc], .agg #[.int .i64 gr, .int .i64 gz], .int .i64 er, .slice ba nb bc, .int .i64 bad, .pointer (some ⟨sb, 0, none⟩), .pointer (some ⟨kb, 0, none⟩), .pointer (some ⟨fb, 0, none⟩), .pointer (some ⟨xb, 0, none⟩)] w
      fun e w' => e = .returned (.bool true) ∧ Below w.heap.size w w' := by
  have HN := Lib.hid hn
  have HM := Lib.hid hm
  have hb0 : Below w.heap.size w ((w.alloc (.cells #[.slice mo mn mc] 24)).alloc (.cells #[.int .i64 gr, .int .i64 gz] 26)) := ((Below.refl _ _).alloc (Nat.le_refl _) _).alloc (by simp) _
  have p9 : ((w.alloc (.cells #[.slice mo mn mc] 24)).alloc (.cells #[.int .i64 gr, .int .i64 gz] 26)).heap[w.heap.size]? = some (.cells #[.slice mo mn mc] 24 (0, 0)) := heap_alloc2_old _ _ _
  have p10 : ((w.alloc (.cells #[.slice mo mn mc] 24)).alloc (.cells #[.int .i64 gr, .int .i64 gz] 26)).heap[w.heap.size + 1]? = some (.cells #[.int .i64 gr, .int .i64 gz] 26 (0, 0)) := heap_alloc2_new _ _ _
  have hz0 : ((w.alloc (.cells #[.slice mo mn mc] 24)).alloc (.cells #[.int .i64 gr, .int .i64 gz] 26)).heap.size = w.heap.size + 2 := by simp
  have HTI := Lib.hid (fun (u : World) (pb base : Nat) (a1 : Option Addr) (c1 : Nat) (hbox : u.heap[pb]? = some (.cells #[.slice a1 n c1] 24 (0, 0))) (ho : OwnSto u base (.slice a1 n c1) s) (hpn : ∀ g, s ≠ [] → a1 = some ⟨g, 0, none⟩ → pb ≠ g) (hbs : base ≤ u.heap.size) (hbr : Row .u8 u ba b) (hbf : ∀ gb o, ba = some ⟨gb, o, none⟩ → ∀ g, s ≠ [] → a1 = some ⟨g, 0, none⟩ → gb ≠ g) =>
    (show Calls Try.prog 30 #[.pointer (some ⟨pb, 0, none⟩), .int .i64 key, .agg #[.int .i64 root, .int .i64 z], .slice ba nb bc] u fun e w' => TurnEnd e u w' base a1 n c1 nb s (turnR s key root z b) from
      turnIn_any u pb base a1 ba n c1 nb bc z s key root b hn hbox ho hpn hbs hwf hok hby hnb hb4 hbr hbc hbf))
  have HTG := Lib.hid (fun h => turnR_good (z := (z : Int)) hok hwf hby (by omega) h)
  have HTD : Hid (turnedR s key root z b = if (turnR s key root z b).2.2 = 0 then ((turnR s key root z b).1, ((turnR s key root z b).2.1, (nb : Int)), 0) else ([], (0, 0), (turnR s key root z b).2.2)) := Lib.hid (by unfold turnedR; rw [hnb])
  have HCASE := Lib.hid hcase
  have HOS := Lib.hid (fun (u : World) (h : Below w.heap.size w u) => ownStore_any u ao n cap s hn h41 (hs.mono h) hwf)
  have HWF := Lib.hid hwf
  have HMR := Lib.hid hmr
  have HBB := Lib.hid hbb
  clear hn hm hok hby hnb hcase hs hwf hmr hbb
  generalize turnedR s key root z b = RD at *
  generalize turnR s key root z b = RT at *
  have ls := lt_heap ps
  have lk := lt_heap pk
  have lf := lt_heap pf
  have lx := lt_heap px
  have ps0 := (hb0.block _ ls).trans ps
  have cs0 := cell_of_one ps0
  have ls0 := lt_heap ps0
  go_enter Try.func28, Try.ntmps28
  go_wp2_with fail
  generalize (w.alloc (.cells #[.slice mo mn mc] 24)).alloc (.cells #[.int .i64 gr, .int .i64 gz] 26) = W0 at *
  refine (HOS.out W0 hb0).mono ?_
  rintro e w1 ⟨v1, rfl, ho1, hb1⟩
  obtain ⟨a1, c1, rfl, hc1, -⟩ := ho1.sto
  rw [HN.out] at hc1 ho1 ⊢
  have hbw1 := below_step hb0 hb1
  have hA : Below w1.heap.size w1 ((w1.alloc (.cells #[.slice a1 n c1] 24)).alloc (.cells #[.int .i64 0, .int .i64 0] 26)) := ((Below.refl _ _).alloc (Nat.le_refl _) _).alloc (by simp) _
  have p15 : ((w1.alloc (.cells #[.slice a1 n c1] 24)).alloc (.cells #[.int .i64 0, .int .i64 0] 26)).heap[w1.heap.size]? = some (.cells #[.slice a1 n c1] 24 (0, 0)) := heap_alloc2_old _ _ _
  have p16 : ((w1.alloc (.cells #[.slice a1 n c1] 24)).alloc (.cells #[.int .i64 0, .int .i64 0] 26)).heap[w1.heap.size + 1]? = some (.cells #[.int .i64 0, .int .i64 0] 26 (0, 0)) := heap_alloc2_new _ _ _
  have hbw2 := below_step hbw1 hA
  have pk2 := (hbw2.block _ lk).trans pk
  have pf2 := (hbw2.block _ lf).trans pf
  have px2 := (hbw2.block _ lx).trans px
  have p92 := (hA.block _ (lt_heap ((hb1.block _ (lt_heap p9)).trans p9))).trans ((hb1.block _ (lt_heap p9)).trans p9)
  have p102 := (hA.block _ (lt_heap ((hb1.block _ (lt_heap p10)).trans p10))).trans ((hb1.block _ (lt_heap p10)).trans p10)
  have ho2 := ho1.mono hA
  have hz1 := hb1.size
  have hlt1 : ∀ g, s ≠ [] → a1 = some ⟨g, 0, none⟩ → W0.heap.size ≤ g ∧ g < w1.heap.size := fun g h1 h2 => ⟨(ho1.own_at h1 h2).le, own_lt ho1 h1 h2⟩
  have hbr2 := hbr.mono hbw2
  have ck2 := cell_of_one pk2
  have lk2 := lt_heap pk2
  have cf20 := cell_of_block pf2 0
  have cf21 := cell_of_block pf2 1
  simp at cf20 cf21
  have lf2 := lt_heap pf2
  have cx2 := cell_of_one px2
  have lx2 := lt_heap px2
  have c92 := cell_of_one p92
  have l92 := lt_heap p92
  have c100 := cell_of_block p102 0
  have c101 := cell_of_block p102 1
  simp at c100 c101
  have l102 := lt_heap p102
  clear cs0 ls0 ps0 ho1 hb1 p9 p10
  rcases HCASE.out with ⟨hbad, rfl, rfl, rfl, rfl⟩ | ⟨hbad, hRD⟩
  · have e1 : (er == 0) = false := by rw [beq_eq_false_iff_ne]; exact hbad
    have e2 : (er != 0) = true := by rw [bne_iff_ne]; exact hbad
    obtain rfl : mn = 0 := by have := HM.out; simpa using this.symm
    clear hbad HTI HTG
    go_wp2_with fail
    generalize (w1.alloc (.cells #[.slice a1 n c1] 24)).alloc (.cells #[.int .i64 0, .int .i64 0] 26) = W2 at *
    have hSS := sameStore_any W2 mo none 0 mc 0 0 [] [] rfl rfl (by omega) (by omega) (.inl rfl) (.inl rfl) WfS.nil WfS.nil
    rw [sameS_self] at hSS
    refine hSS.mono ?_
    rintro e w3 ⟨rfl, hb3⟩
    have p103 := (hb3.block _ l102).trans p102
    have hbw3 := below_step hbw2 hb3
    clear c100 c101 l102
    have c100 := cell_of_block p103 0
    have c101 := cell_of_block p103 1
    simp at c100 c101
    have l103 := lt_heap p103
    go_wp2_with fail
    go_ret
    exact ⟨rfl, hbw3⟩
  · subst hbad
    go_wp2_with fail
    generalize (w1.alloc (.cells #[.slice a1 n c1] 24)).alloc (.cells #[.int .i64 0, .int .i64 0] 26) = W2 at *
    have hbs2 : W0.heap.size ≤ W2.heap.size := by have := hA.size; omega
    have hne15 : ∀ g, s ≠ [] → a1 = some ⟨g, 0, none⟩ → w1.heap.size ≠ g := fun g h1 h2 => by have := hlt1 g h1 h2; omega
    refine (HTI.out W2 w1.heap.size W0.heap.size a1 c1 p15 ho2 hne15 hbs2 hbr2 (fun gb o h g h1 h2 => by have := HBB.out gb o h; have := hlt1 g h1 h2; have := hb0.size; omega)).mono ?_
    rintro e w3 ⟨rfl, hb3, hf3, hs3⟩
    have hlo : ∀ c, c < W0.heap.size → w3.heap[c]? = W2.heap[c]? := fun c hc => hb3.block c hc
    have hbw3 : Below w.heap.size w w3 := hbw2.trans (hb3.mono (by omega))
    have p93 := (hlo _ (by omega)).trans p92
    have p103 := (hlo _ (by omega)).trans p102
    have px3 := (hlo _ (by have := hb0.size; omega)).trans px2
    have p153 := (hf3 _ (lt_heap p15) hne15).trans p15
    have p163 := (hf3 _ (lt_heap p16) (fun g h1 h2 => by have := hlt1 g h1 h2; omega)).trans p16
    clear hlo hf3 hb3 ck2 lk2 cf20 cf21 lf2 cx2 lx2 c92 l92 c100 c101 l102 pk2 pf2 px2 p92 p102
    obtain ⟨t, rt, re⟩ := RT
    simp only at HTG HTD hs3 ⊢
    have l16 := lt_heap p163
    have f160 := free_of_block p163 0
    have f161 := free_of_block p163 1
    have c160 := cell_of_block p163 0
    have c161 := cell_of_block p163 1
    simp at c160 c161
    have l9 := lt_heap p93
    have l10 := lt_heap p103
    have l15 := lt_heap p153
    have lx3 := lt_heap px3
    by_cases he : re = 0
    · subst he
      have hO := hs3 rfl
      have hG := HTG.out rfl
      have hlen := hO.len
      rw [HTD.out, if_pos rfl] at hRD
      simp only [Prod.mk.injEq] at hRD
      obtain ⟨rfl, ⟨rfl, rfl⟩, rfl⟩ := hRD
      simp only [if_true]
      have hOF := own_file hO hG p163 (fun g h1 h2 => by have := own_lt hO h1 h2; have := (hO.own_at h1 h2).le; have := hlt1 g (fun e => h1 (List.eq_nil_of_length_eq_zero (by rw [hlen, ← HN.out, e]; rfl))) h2; omega) rt nb
      have hbX := (hbw3.setCell (p := ⟨w1.heap.size + 1, 0, none⟩) (by simp; omega) (.int .i64 rt)).setCell (p := ⟨w1.heap.size + 1, 1, none⟩) (by simp; omega) (.int .i64 nb)
      have q9 := heap_setCell_ne (a := ⟨w1.heap.size + 1, 1, none⟩) (v := .int .i64 nb) (heap_setCell_ne (a := ⟨w1.heap.size + 1, 0, none⟩) (v := .int .i64 rt) p93 (by simp; omega)) (by simp; omega)
      have q10 := heap_setCell_ne (a := ⟨w1.heap.size + 1, 1, none⟩) (v := .int .i64 nb) (heap_setCell_ne (a := ⟨w1.heap.size + 1, 0, none⟩) (v := .int .i64 rt) p103 (by simp; omega)) (by simp; omega)
      have q15 := heap_setCell_ne (a := ⟨w1.heap.size + 1, 1, none⟩) (v := .int .i64 nb) (heap_setCell_ne (a := ⟨w1.heap.size + 1, 0, none⟩) (v := .int .i64 rt) p153 (by simp)) (by simp)
      have q16 := file_set p163 rt nb
      have d9 := cell_of_one q9
      have d100 := cell_of_block q10 0
      have d101 := cell_of_block q10 1
      simp at d100 d101
      have d15 := cell_of_one q15
      have d160 := cell_of_block q16 0
      have d161 := cell_of_block q16 1
      simp at d160 d161
      clear p93 p103 px3 p153 p163 hs3 hO HTG HTD HTI
      go_wp2_with fail
      generalize (w3.setCell ⟨w1.heap.size + 1, 0, none⟩ (.int .i64 rt)).setCell ⟨w1.heap.size + 1, 1, none⟩ (.int .i64 nb) = X at *
      have hmn : mn = n := HM.out.symm.trans hlen
      have hSS := sameStore_any X mo a1 mn mc n c1 t t HM.out hlen (by omega) (by omega) (HMR.out.mono hbX) hOF.row hG.wf hG.wf
      rw [sameS_self] at hSS
      refine hSS.mono ?_
      rintro e w4 ⟨rfl, hb4'⟩
      have hbw4 := below_step hbX hb4'
      go_wp2_with fail
      go_ret
      exact ⟨rfl, hbw4⟩
    · have he1 : (re != 0) = true := by rw [bne_iff_ne]; exact he
      rw [HTD.out, if_neg he] at hRD
      simp only [Prod.mk.injEq] at hRD
      obtain ⟨rfl, ⟨rfl, rfl⟩, rfl⟩ := hRD
      simp only [if_neg he]
      obtain rfl : mn = 0 := by have := HM.out; simpa using this.symm
      have hbX := (hbw3.setCell (p := ⟨w1.heap.size + 1, 0, none⟩) (by simp; omega) (.int .i64 0)).setCell (p := ⟨w1.heap.size + 1, 1, none⟩) (by simp; omega) (.int .i64 0)
      have q9 := heap_setCell_ne (a := ⟨w1.heap.size + 1, 1, none⟩) (v := .int .i64 0) (heap_setCell_ne (a := ⟨w1.heap.size + 1, 0, none⟩) (v := .int .i64 0) p93 (by simp; omega)) (by simp; omega)
      have q10 := heap_setCell_ne (a := ⟨w1.heap.size + 1, 1, none⟩) (v := .int .i64 0) (heap_setCell_ne (a := ⟨w1.heap.size + 1, 0, none⟩) (v := .int .i64 0) p103 (by simp; omega)) (by simp; omega)
      have qx := heap_setCell_ne (a := ⟨w1.heap.size + 1, 1, none⟩) (v := .int .i64 0) (heap_setCell_ne (a := ⟨w1.heap.size + 1, 0, none⟩) (v := .int .i64 0) px3 (by simp; omega)) (by simp; omega)
      have d9 := cell_of_one q9
      have dx := cell_of_one qx
      clear he p93 p103 px3 p153 p163 hs3 HTG HTD HTI
      go_wp2_with fail
      generalize (w3.setCell ⟨w1.heap.size + 1, 0, none⟩ (.int .i64 0)).setCell ⟨w1.heap.size + 1, 1, none⟩ (.int .i64 0) = X at *
      have hSS := sameStore_any X mo none 0 mc 0 0 [] [] rfl rfl (by omega) (by omega) (.inl rfl) (.inl rfl) WfS.nil WfS.nil
      rw [sameS_self] at hSS
      refine hSS.mono ?_
      rintro e w4 ⟨rfl, hb4'⟩
      have hbw4 := below_step hbX hb4'
      have q104 := (hb4'.block _ (lt_heap q10)).trans q10
      have d100 := cell_of_block q104 0
      have d101 := cell_of_block q104 1
      simp at d100 d101
      have ld := lt_heap q104
      go_wp2_with fail
      go_ret
      exact ⟨rfl, hbw4⟩

set_option maxRecDepth 100000 in
set_option maxHeartbeats 16000000 in
theorem law_writes (w : World) (ao ba : Option Addr) (n cap nb bc : Nat) (s : List Blk) (key root size at_ tz : Int) (b : List Int) (hn : s.length = n) (h41 : n ≤ 2199023255552) (hs : StoRow w ao s) (hwf : WfS s) (hc : Capd ao n cap) (hz : I64 size) (ht : I64 tz)
    (hnb : b.length = nb) (hbr : Row .u8 w ba b) (hby : Byt b) (hb47 : nb ≤ 140737488351232) (hbc : Capd ba nb bc) :
    Calls Try.prog 7 #[.agg #[.slice ao n cap], .int .i64 key, .agg #[.int .i64 root, .int .i64 size], .int .i64 at_, .slice ba nb bc, .int .i64 tz] w fun e w' => e = .returned (.bool true) ∧ Below w.heap.size w w' := by
  have HN := Lib.hid hn
  have hb0 : Below w.heap.size w (((w.alloc (.cells #[.slice ao n cap] 24)).alloc (.cells #[.int .i64 key] 3)).alloc (.cells #[.int .i64 root, .int .i64 size] 26)) := (((Below.refl _ _).alloc (Nat.le_refl _) _).alloc (by simp) _).alloc (by simp; omega) _
  have ps : (((w.alloc (.cells #[.slice ao n cap] 24)).alloc (.cells #[.int .i64 key] 3)).alloc (.cells #[.int .i64 root, .int .i64 size] 26)).heap[w.heap.size]? = some (.cells #[.slice ao n cap] 24 (0, 0)) := by
    rw [Below.heap_alloc _ _ _ (by simp; omega)]; exact heap_alloc2_old _ _ _
  have pk : (((w.alloc (.cells #[.slice ao n cap] 24)).alloc (.cells #[.int .i64 key] 3)).alloc (.cells #[.int .i64 root, .int .i64 size] 26)).heap[w.heap.size + 1]? = some (.cells #[.int .i64 key] 3 (0, 0)) := by
    rw [Below.heap_alloc _ _ _ (by simp)]; exact heap_alloc2_new _ _ _
  have pf : (((w.alloc (.cells #[.slice ao n cap] 24)).alloc (.cells #[.int .i64 key] 3)).alloc (.cells #[.int .i64 root, .int .i64 size] 26)).heap[w.heap.size + 1 + 1]? = some (.cells #[.int .i64 root, .int .i64 size] 26 (0, 0)) := by
    have h := heap_alloc_new ((w.alloc (.cells #[.slice ao n cap] 24)).alloc (.cells #[.int .i64 key] 3)) (.cells #[.int .i64 root, .int .i64 size] 26)
    rw [show ((w.alloc (.cells #[.slice ao n cap] 24)).alloc (.cells #[.int .i64 key] 3)).heap.size = w.heap.size + 1 + 1 from by simp] at h
    exact h
  have HWR := Lib.hid (fun (u : World) (h : Below w.heap.size w u) => write_any u ao ba n cap nb bc s key root size at_ b hn (by omega) (hs.mono h) hwf hz hc hnb (hbr.mono h) hbc hby hb47)
  have HCT := Lib.hid (fun (u : World) (h : Below w.heap.size w u) => cut_any u ao n cap s key root size tz hn (by omega) (hs.mono h) hwf hz hc ht)
  have HRC := Lib.hid (fun (u : World) (h : Below w.heap.size w u) => refCheckFile_any u ao n cap s key root size hn (by omega) (hs.mono h) hwf hz)
  have HRB := Lib.hid (fun (z : Nat) (h0 : fileE s key root z = 0) (u : World) (h : Below w.heap.size w u) => refBytes_any u ao n cap s key root z hn (hs.mono h) hwf h0)
  have HRO := Lib.hid (fun (fb : List Int) (fa : Option Addr) (fn fc : Nat) (h1 : fb.length = fn) (h2 : fn ≤ 256) (u : World) (h : Below w.heap.size w u) (hr : Row .u8 u fa fb) (hc : Capd fa fn fc) => refOver_any u fa ba fn fc nb bc fb b at_ h1 hnb hr (hbr.mono h) hc hbc hby (by omega) hb47)
  have HOB := Lib.hid (fun (fb : List Int) (h1 : Byt fb) => overR_byt (at_ := at_) h1 hby)
  have HOLn := Lib.hid (fun (fb : List Int) (h : (overR fb at_ b).2 = 0) (h1 : fb.length ≤ 256) => overR_len h h1)
  have HFY := Lib.hid (fun (z : Nat) => fileB_byt s key root z)
  have hwc := writeR_cases s key root size at_ b
  have hcc := cutR_cases s key root size tz
  have HWF := Lib.hid hwf
  have HSW := Lib.hid (hs.mono hb0)
  clear hn hs hwf hc hz ht hnb hbr hby hb47 hbc
  generalize writeR s key root size at_ b = WR at *
  generalize cutR s key root size tz = CR at *
  obtain ⟨ml, ⟨gr, gz⟩, we⟩ := WR
  obtain ⟨cl, ⟨hr, hz⟩, ce⟩ := CR
  obtain ⟨fe, hfe⟩ : ∃ fe, fileE s key root size = fe := ⟨_, rfl⟩
  rw [hfe] at HRC hwc hcc
  have HFE := Lib.hid hfe
  have HWC := Lib.hid hwc
  have HCC := Lib.hid hcc
  clear hfe hwc hcc
  go_enter Try.func7, Try.ntmps7
  go_wp2_with fail
  generalize ((w.alloc (.cells #[.slice ao n cap] 24)).alloc (.cells #[.int .i64 key] 3)).alloc (.cells #[.int .i64 root, .int .i64 size] 26) = W0 at *
  refine (HWR.out W0 hb0).mono ?_
  rintro e w1 ⟨v1, rfl, ho1, hb1⟩
  simp only at ho1 ⊢
  obtain ⟨mo, mc, rfl, -, hms⟩ := ho1.sto
  obtain ⟨mn, hmn⟩ : ∃ mn, ml.length = mn := ⟨_, rfl⟩
  rw [hmn]
  have HMN := Lib.hid hmn
  have hbw1 := below_step hb0 hb1
  clear hmn ho1
  have hA1 : Below w1.heap.size w1 ((w1.alloc (.cells #[.slice mo mn mc] 24)).alloc (.cells #[.int .i64 gr, .int .i64 gz] 26)) := ((Below.refl _ _).alloc (Nat.le_refl _) _).alloc (by simp) _
  have q13 : ((w1.alloc (.cells #[.slice mo mn mc] 24)).alloc (.cells #[.int .i64 gr, .int .i64 gz] 26)).heap[w1.heap.size]? = some (.cells #[.slice mo mn mc] 24 (0, 0)) := heap_alloc2_old _ _ _
  have q14 : ((w1.alloc (.cells #[.slice mo mn mc] 24)).alloc (.cells #[.int .i64 gr, .int .i64 gz] 26)).heap[w1.heap.size + 1]? = some (.cells #[.int .i64 gr, .int .i64 gz] 26 (0, 0)) := heap_alloc2_new _ _ _
  have hB1 := hb1.trans (hA1.mono hb1.size)
  have hbW1 := below_step hbw1 hA1
  have ps1 := (hB1.block _ (lt_heap ps)).trans ps
  have pk1 := (hB1.block _ (lt_heap pk)).trans pk
  have pf1 := (hB1.block _ (lt_heap pf)).trans pf
  have cs1 := cell_of_one ps1
  have ck1 := cell_of_one pk1
  have cf10 := cell_of_block pf1 0
  have cf11 := cell_of_block pf1 1
  simp at cf10 cf11
  have ls1 := lt_heap ps1
  have lk1 := lt_heap pk1
  have lf1 := lt_heap pf1
  go_wp2_with fail
  clear cs1 ck1 cf10 cf11 ls1 lk1 lf1 ps pk pf
  replace hms := hms.mono hA1
  replace HSW := Lib.hid (HSW.out.mono hB1)
  generalize (w1.alloc (.cells #[.slice mo mn mc] 24)).alloc (.cells #[.int .i64 gr, .int .i64 gz] 26) = W1 at *
  refine (HCT.out W1 hbW1).mono ?_
  rintro e w2 ⟨v2, rfl, ho2, hb2⟩
  simp only at ho2 ⊢
  obtain ⟨co, cc, rfl, -, hcs⟩ := ho2.sto
  obtain ⟨cn, hcn⟩ : ∃ cn, cl.length = cn := ⟨_, rfl⟩
  rw [hcn]
  have HCN := Lib.hid hcn
  have hbw2 := below_step hbW1 hb2
  clear hcn ho2 hB1 hA1 hb1
  have hA2 : Below w2.heap.size w2 ((w2.alloc (.cells #[.slice co cn cc] 24)).alloc (.cells #[.int .i64 hr, .int .i64 hz] 26)) := ((Below.refl _ _).alloc (Nat.le_refl _) _).alloc (by simp) _
  have q16 : ((w2.alloc (.cells #[.slice co cn cc] 24)).alloc (.cells #[.int .i64 hr, .int .i64 hz] 26)).heap[w2.heap.size]? = some (.cells #[.slice co cn cc] 24 (0, 0)) := heap_alloc2_old _ _ _
  have q17 : ((w2.alloc (.cells #[.slice co cn cc] 24)).alloc (.cells #[.int .i64 hr, .int .i64 hz] 26)).heap[w2.heap.size + 1]? = some (.cells #[.int .i64 hr, .int .i64 hz] 26 (0, 0)) := heap_alloc2_new _ _ _
  have hB2 := hb2.trans (hA2.mono hb2.size)
  have hbW2 := below_step hbw2 hA2
  replace ps1 := (hB2.block _ (lt_heap ps1)).trans ps1
  replace pk1 := (hB2.block _ (lt_heap pk1)).trans pk1
  replace pf1 := (hB2.block _ (lt_heap pf1)).trans pf1
  replace q13 := (hB2.block _ (lt_heap q13)).trans q13
  replace q14 := (hB2.block _ (lt_heap q14)).trans q14
  replace hms := hms.mono hB2
  replace hcs := hcs.mono hA2
  replace HSW := Lib.hid (HSW.out.mono hB2)
  have cs1 := cell_of_one ps1
  have ck1 := cell_of_one pk1
  have cf10 := cell_of_block pf1 0
  have cf11 := cell_of_block pf1 1
  simp at cf10 cf11
  have ls1 := lt_heap ps1
  have lk1 := lt_heap pk1
  have lf1 := lt_heap pf1
  go_wp2_with fail
  clear cs1 ck1 cf10 cf11 ls1 lk1 lf1 hb2
  generalize (w2.alloc (.cells #[.slice co cn cc] 24)).alloc (.cells #[.int .i64 hr, .int .i64 hz] 26) = W2 at *
  refine (HRC.out W2 hbW2).mono ?_
  rintro e w3 ⟨rfl, hb3⟩
  have hbw3 := below_step hbW2 hb3
  have hA3 : Below w3.heap.size w3 (w3.alloc (.cells #[.slice none 0 0] 24)) := (Below.refl _ _).alloc (Nat.le_refl _) _
  have q20 : (w3.alloc (.cells #[.slice none 0 0] 24)).heap[w3.heap.size]? = some (.cells #[.slice none 0 0] 24 (0, 0)) := heap_alloc_new _ _
  have hB3 := hb3.trans (hA3.mono hb3.size)
  have hbW3 := below_step hbw3 hA3
  have hX : WBox (w3.alloc (.cells #[.slice none 0 0] 24)) w.heap.size w1.heap.size w2.heap.size w3.heap.size ao mo co n cap mn mc cn cc key root size gr gz hr hz ml cl s :=
    ⟨(hB3.block _ (lt_heap ps1)).trans ps1, (hB3.block _ (lt_heap pk1)).trans pk1, (hB3.block _ (lt_heap pf1)).trans pf1, (hB3.block _ (lt_heap q13)).trans q13, (hB3.block _ (lt_heap q14)).trans q14, (hB3.block _ (lt_heap q16)).trans q16, (hB3.block _ (lt_heap q17)).trans q17, q20,
      hms.mono hB3, hcs.mono hB3, HSW.out.mono hB3⟩
  clear ps1 pk1 pf1 q13 q14 q16 q17 q20 hms hcs HSW hB2 hA2 hb3 hA3 hB3
  go_wp2_with fail
  generalize w3.alloc (.cells #[.slice none 0 0] 24) = W3 at *
  refine (filed_any W3).mono ?_
  rintro e w4 ⟨rfl, hb4⟩
  have hbw4 := below_step hbW3 hb4
  replace hX := hX.mono hb4
  rcases HWC.out with ⟨h0, h1⟩ | ⟨h0, z, rfl, hz1, hFL, hF0, hwr⟩
  · have h2 : (cl, (hr, hz), ce) = (([] : List Blk), ((0 : Int), (0 : Int)), fe) := by
      rcases HCC.out with ⟨-, h⟩ | ⟨h, -⟩ | ⟨h, -⟩
      · exact h
      · exact absurd h h0
      · exact absurd h h0
    simp only [Prod.mk.injEq] at h1 h2
    obtain ⟨rfl, ⟨rfl, rfl⟩, rfl⟩ := h1
    obtain ⟨rfl, ⟨rfl, rfl⟩, rfl⟩ := h2
    obtain rfl : mn = 0 := by have := HMN.out; simpa using this.symm
    obtain rfl : cn = 0 := by have := HCN.out; simpa using this.symm
    have e1 : (ce != 0) = true := by rw [bne_iff_ne]; exact h0
    clear h0
    go_wp2_with fail
    refine (filed_any w4).mono ?_
    rintro e w5 ⟨rfl, hb5⟩
    have hbw5 := below_step hbw4 hb5
    replace hX := hX.mono hb5
    have cm := cell_of_one hX.m0
    have lm := lt_heap hX.m0
    have cx := cell_of_one hX.x0
    have lx := lt_heap hX.x0
    have HX := Lib.hid hX
    clear hX
    go_wp2_with fail
    have hS1 := sameStore_any w5 mo none 0 mc 0 0 [] [] rfl rfl (by omega) (by omega) (.inl rfl) (.inl rfl) WfS.nil WfS.nil
    rw [sameS_self] at hS1
    refine hS1.mono ?_
    rintro e w6 ⟨rfl, hb6⟩
    have hbw6 := below_step hbw5 hb6
    have hX6 := HX.out.mono hb6
    clear cm lm cx lx hS1
    have cm := cell_of_one hX6.c0
    have lm := lt_heap hX6.c0
    have cx := cell_of_one hX6.x0
    have lx := lt_heap hX6.x0
    have HX6 := Lib.hid hX6
    clear hX6
    go_wp2_with fail
    have hS2 := sameStore_any w6 co none 0 cc 0 0 [] [] rfl rfl (by omega) (by omega) (.inl rfl) (.inl rfl) WfS.nil WfS.nil
    rw [sameS_self] at hS2
    refine hS2.mono ?_
    rintro e w7 ⟨rfl, hb7⟩
    have hbw7 := below_step hbw6 hb7
    have hX7 := HX6.out.mono hb7
    clear cm lm cx lx hS2
    have cg0 := cell_of_block hX7.g0 0
    have cg1 := cell_of_block hX7.g0 1
    have ch0 := cell_of_block hX7.h0 0
    have ch1 := cell_of_block hX7.h0 1
    simp at cg0 cg1 ch0 ch1
    have lg := lt_heap hX7.g0
    have lh := lt_heap hX7.h0
    clear hX7
    go_wp2_with fail
    go_ret
    exact ⟨rfl, hbw7⟩
  · subst h0
    have cs1 := cell_of_one hX.s0
    have ck1 := cell_of_one hX.k0
    have cf10 := cell_of_block hX.f0 0
    have cf11 := cell_of_block hX.f0 1
    simp at cf10 cf11
    have ls1 := lt_heap hX.s0
    have lk1 := lt_heap hX.k0
    have lf1 := lt_heap hX.f0
    have HX := Lib.hid hX
    clear hX
    go_wp2_with fail
    refine (HRB.out z hF0 w4 hbw4).mono ?_
    rintro e w5 ⟨wg, wc', rfl, hzc, hg1, hg2, hwr5, hb5⟩
    have hbw5 := below_step hbw4 hb5
    have HX5 := Lib.hid (HX.out.mono hb5)
    have HFYZ := Lib.hid (HFY.out z)
    generalize hFB : fileB s key root z = FB at *
    replace hFB := Lib.hid hFB
    have HOBB := Lib.hid (HOB.out FB HFYZ.out)
    have HOLL := Lib.hid (fun h => HOLn.out FB h (by omega))
    have HOBD := Lib.hid (fun h => overR_bad (b := FB) (at_ := at_) (more := b) h)
    have HFL := Lib.hid hFL
    clear cs1 ck1 cf10 cf11 ls1 lk1 lf1 HX HRB HOB HOLn HFY
    go_wp2_with fail
    refine (HRO.out FB (some ⟨wg, 0, none⟩) z wc' HFL.out hz1 w5 hbw5 hwr5 ⟨hzc, fun h => by cases h⟩).mono ?_
    clear HRO
    generalize overR FB at_ b = RO at *
    obtain ⟨ol, oe⟩ := RO
    rintro e w6 ⟨oa, on, oc, rfl, hon, hor, hoc, hb6, hon6⟩
    simp only at hon hor hwr HOBB HOLL HOBD ⊢
    have hbw6 := below_step hbw5 hb6
    have HX6 := Lib.hid (HX5.out.mono hb6)
    replace hwr5 := hwr5.mono hb6
    have hX6 := HX6.out
    have cm := cell_of_one hX6.m0
    have cg0 := cell_of_block hX6.g0 0
    have cg1 := cell_of_block hX6.g0 1
    simp at cg0 cg1
    have lm := lt_heap hX6.m0
    have lg := lt_heap hX6.g0
    have hcase : (oe ≠ 0 ∧ ml = [] ∧ gr = 0 ∧ gz = 0 ∧ we = oe) ∨ (oe = 0 ∧ turnedR s key root z ol = (ml, (gr, gz), we)) := by
      rcases hwr with ⟨h1, h2⟩ | ⟨h1, h2⟩
      · simp only [Prod.mk.injEq] at h2
        exact .inl ⟨h1, h2.1, h2.2.1.1, h2.2.1.2, h2.2.2⟩
      · exact .inr ⟨h1, h2.symm⟩
    have hon256 : on ≤ 256 := by
      by_cases h : oe = 0
      · have := HOLL.out h; omega
      · have := HOBD.out h; rw [this] at hon; simp at hon; omega
    have hT1 := turns_any w6 w.heap.size (w.heap.size + 1) (w.heap.size + 1 + 1) w3.heap.size ao mo oa n cap mn mc on oc z s ml key root ol gr gz we oe HN.out h41 hX6.s0 hX6.k0 hX6.f0 hX6.x0 hX6.ss HWF.out HMN.out hX6.ms hF0 HOBB.out hon hon256 hor hoc (fun g o h => (hon6 g o h).2) hcase
    clear hX6 hcase hon hor hoc hon6 hwr HOBB HOLL HOBD
    go_wp2_with fail
    refine hT1.mono ?_
    rintro e w7 ⟨rfl, hb7⟩
    have hbw7 := below_step hbw6 hb7
    have HX7 := Lib.hid (HX6.out.mono hb7)
    replace hwr5 := hwr5.mono hb7
    clear cm cg0 cg1 lm lg hT1 HX6 HX5
    have hX7 := HX7.out
    have cc0 := cell_of_one hX7.c0
    have ch0 := cell_of_block hX7.h0 0
    have ch1 := cell_of_block hX7.h0 1
    simp at ch0 ch1
    have lc := lt_heap hX7.c0
    have lh := lt_heap hX7.h0
    rcases HCC.out with ⟨h, -⟩ | ⟨-, h1, h2⟩ | ⟨-, k, rfl, hk, h2⟩
    · exact absurd rfl h
    · have h2' : cl = [] ∧ hr = 0 ∧ hz = 0 ∧ ce = 3 := by
        simp only [Prod.mk.injEq] at h2
        exact ⟨h2.1, h2.2.1.1, h2.2.1.2, h2.2.2⟩
      have hT2 := turns_any w7 w.heap.size (w.heap.size + 1) (w.heap.size + 1 + 1) w3.heap.size ao co none n cap cn cc 0 0 z s cl key root [] hr hz ce 3 HN.out h41 hX7.s0 hX7.k0 hX7.f0 hX7.x0 hX7.ss HWF.out HCN.out hX7.cs hF0 (fun x hx => by cases hx) rfl (by omega) (.inl rfl) ⟨Nat.le_refl _, fun _ => rfl⟩ (fun g o h => by cases h) (.inl ⟨by omega, h2'.1, h2'.2.1, h2'.2.2.1, h2'.2.2.2⟩)
      clear hX7 h2 h2' hwr5
      by_cases c1 : tz < 0
      · clear h1
        go_wp2_with fail
        refine hT2.mono ?_
        rintro e w8 ⟨rfl, hb8⟩
        have hbw8 := below_step hbw7 hb8
        go_wp2_with fail
        go_ret
        exact ⟨rfl, hbw8⟩
      · have c2 : 256 < tz := by omega
        clear h1
        go_wp2_with fail
        refine hT2.mono ?_
        rintro e w8 ⟨rfl, hb8⟩
        have hbw8 := below_step hbw7 hb8
        go_wp2_with fail
        go_ret
        exact ⟨rfl, hbw8⟩
    · have c1 : ¬ ((k : Int) < 0) := by omega
      have c2 : ¬ ((256 : Int) < k) := by omega
      have HCL := Lib.hid (clone_bytes_n (some ⟨wg, 0, none⟩) z wc' FB w7.drew HFL.out (hwr5.mono (Below.refl _ _).drew) (fun h => by cases h) (by omega))
      have HDR : Hid (WBox w7.drew w.heap.size w1.heap.size w2.heap.size w3.heap.size ao mo co n cap mn mc cn cc key root z gr gz hr hz ml cl s) := Lib.hid (hX7.mono (Below.refl _ _).drew)
      have HTT : Hid (∀ (u : World) (b2 : List Int) (a2 : Option Addr) (cc2 : Nat), WBox u w.heap.size w1.heap.size w2.heap.size w3.heap.size ao mo co n cap mn mc cn cc key root z gr gz hr hz ml cl s → b2 = cutL FB k → Row .u8 u a2 b2 → Capd a2 k cc2 → (∀ g o, a2 = some ⟨g, o, none⟩ → g < u.heap.size) →
          Calls Try.prog 28 #[.agg #[.slice co cn cc], .agg #[.int .i64 hr, .int .i64 hz], .int .i64 ce, .slice a2 k cc2, .int .i64 0, .pointer (some ⟨w.heap.size, 0, none⟩), .pointer (some ⟨w.heap.size + 1, 0, none⟩), .pointer (some ⟨w.heap.size + 1 + 1, 0, none⟩), .pointer (some ⟨w3.heap.size, 0, none⟩)] u
            fun e w' => e = .returned (.bool true) ∧ Below u.heap.size u w') := Lib.hid fun u b2 a2 cc2 hU hb2 hr2 hc2 hlt => by
        subst hb2
        exact turns_any u w.heap.size (w.heap.size + 1) (w.heap.size + 1 + 1) w3.heap.size ao co a2 n cap cn cc k cc2 z s cl key root (cutL FB k) hr hz ce 0 HN.out h41 hU.s0 hU.k0 hU.f0 hU.x0 hU.ss HWF.out HCN.out hU.cs hF0 (cutL_byt HFYZ.out k) (cutL_len FB k) hk hr2 hc2 hlt (.inr ⟨rfl, by rw [← h2]⟩)
      clear hX7 h2 hwr5
      go_wp2_with fail
      go_region_law (first
        | (go_simp; go_at_call 31; refine HCL.out.mono ?_; rintro e w8 ⟨v8, rfl, ho8, -, hb8⟩;
           obtain ⟨v9, w9, hrun, ho9, hb9⟩ := app_zeros w8 32 w7.heap.size v8 FB 256 (by omega) ho8 (by rw [HFL.out]; omega) hb8.size;
           have hl9 : (FB ++ zeros 256).length = z + 256 := (by rw [List.length_append, HFL.out]; simp only [zeros, List.length_replicate]);
           obtain ⟨g9, c9, rfl, hg9, -, -, hgl9⟩ := ho9.at 0 (by rw [hl9]; omega);
           obtain ⟨a99, c99, hv99, hcc9, -, hr9, -⟩ := ho9.shape';
           simp only [Value.slice.injEq, true_and] at hv99; obtain ⟨rfl, rfl⟩ := hv99;
           rw [hl9] at hrun hcc9;
           obtain ⟨a8, c8, rfl, -, -, -⟩ := own_new ho8;
           rw [HFL.out] at hrun;
           have HRUN := Lib.hid hrun;
           have hX8 := Lib.hid (HDR.out.mono hb8);
           have hX9 := Lib.hid (HDR.out.mono (hb8.trans (hb9.mono (by simp))));
           have hbw9 := Lib.hid (below_step hbw7 (((Below.refl _ _).drew.trans hb8).trans hb9));
           have HR9 := Lib.hid (hr9.take k);
           have hT9 := Lib.hid (HTT.out w9 _ (some ⟨g9, 0, none⟩) c9 hX9.out (cutL_app FB k hk (by rw [HFL.out]; omega)) HR9.out ⟨by omega, fun h => by cases h⟩ (fun g o h => by cases h; exact hgl9));
           have hkc : (k : Int) ≤ c9 := by omega;
           clear hrun ho8 ho9 hr9 hl9 hg9 hgl9 hcc9 hb8 hb9;
           have u1 := cell_of_one hX8.out.c0; have u20 := cell_of_block hX8.out.h0 0; have u21 := cell_of_block hX8.out.h0 1; simp at u20 u21; have u3 := lt_heap hX8.out.c0; have u4 := lt_heap hX8.out.h0;
           have t1 := cell_of_one hX9.out.c0; have t20 := cell_of_block hX9.out.h0 0; have t21 := cell_of_block hX9.out.h0 1; simp at t20 t21; have t3 := lt_heap hX9.out.c0; have t4 := lt_heap hX9.out.h0;
           rw [HFL.out])
        | (refine step_append_run (by rfl) (.tmp 122) (.const (.int .i64 256)) 32 3 32 (by rfl) (by rfl) (by rfl) (by rfl) HRUN.out ?_)
        | (go_simp; go_at_call 28; refine hT9.out.mono ?_; rintro e w10 ⟨rfl, hb10⟩))
      all_goals
        have hbw10 := below_step hbw9.out hb10
        clear hX8 hX9 hT9 HR9 HRUN
        go_wp2_with fail
        go_ret
        exact ⟨rfl, hbw10⟩
end Go.Proofs.Ytodogcokljmkmaa
