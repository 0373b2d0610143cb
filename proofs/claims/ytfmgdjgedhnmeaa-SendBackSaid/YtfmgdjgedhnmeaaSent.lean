/- rookerylaw.sent: a closed fact. -/
import Derived.Lib.SlBytesConst
import Derived.Laws.BytesArg
import Derived.Test.YtfmgdjgedhnmeaaSentP
import Derived.Test.YtfmgdjgedhnmeaaSendD
import Derived.Test.YtfmgdjgedhnmeaaSameC
import Derived.Test.YtfmgdjgedhnmeaaLoose
namespace Go.Proofs.Ytfmgdjgedhnmeaa
open Go.RowKit
set_option linter.unusedVariables false
set_option linter.unusedSimpArgs false

theorem zd_new : newR 40 = (zd0, 0) := by decide
theorem conv_lit (w : World) (C : Array Value) (n c g : Nat) (hg : g = w.heap.size) :
    (convert 38 38 (.slice (some ⟨g, 0, none⟩) n c)).run Try.prog (w.alloc (.cells C 5)) = .ok (.slice (some ⟨g, 0, none⟩) n c) (w.alloc (.cells C 5 (C.size, C.size + 1))) := by
  subst hg
  exact Lib.run_convert_bytes_const w 38 5 C n c Try.underlying38 Try.underlying5
/-- bytes that are marked -/
theorem row_lit {k : IntKind} {w : World} {g : Nat} {xs : List Int} {t : TypeId} {fr : Nat × Nat} (h : w.heap[g]? = some (.cells (icells k xs) t fr)) : Row k w (some ⟨g, 0, none⟩) xs :=
  .inr ⟨g, 0, rfl, fun i hi => by
    rw [cell_of_row w g (0 + i) _ t fr h, Nat.zero_add]
    exact icells_at k xs i hi⟩
set_option maxRecDepth 100000 in
set_option maxHeartbeats 16000000 in
theorem sent_any (w : World) : Calls Try.prog 11 #[] w fun e w' => e = .returned (.bool true) ∧ Below w.heap.size w w' := by
  go_enter Try.func11, Try.ntmps11
  go_wp2_with fail
  refine (new_any w 40).mono ?_
  rintro e w1 ⟨v, rfl, ho, hb1⟩
  rw [zd_new] at ho
  simp only [zd_new]
  obtain ⟨ao0, cap0, rfl, hc0, hs0⟩ := ho.sto
  clear ho
  simp only [show zd0.length = 40 from rfl] at *
  obtain ⟨bs, hbs⟩ : ∃ bs, w1.heap.size = bs := ⟨_, rfl⟩
  have hwb : w.heap.size ≤ bs := by rw [← hbs]; exact hb1.size
  have HBS := Lib.hid hbs
  have hbA : Below w1.heap.size w1 ((w1.alloc (.cells #[.slice ao0 40 cap0] 24)).alloc (.cells #[.string ⟨#[97]⟩, .slice none 0 0, .slice none 0 0] 28)) := ((Below.refl _ _).alloc (Nat.le_refl _) _).alloc (by simp) _
  have pS := heap_alloc2_old w1 (.cells #[.slice ao0 40 cap0] 24) (.cells #[.string ⟨#[97]⟩, .slice none 0 0, .slice none 0 0] 28)
  have pX := heap_alloc2_new w1 (.cells #[.slice ao0 40 cap0] 24) (.cells #[.string ⟨#[97]⟩, .slice none 0 0, .slice none 0 0] 28)
  have hzA : ((w1.alloc (.cells #[.slice ao0 40 cap0] 24)).alloc (.cells #[.string ⟨#[97]⟩, .slice none 0 0, .slice none 0 0] 28)).heap.size = w1.heap.size + 1 + 1 := by simp
  go_upto_region 3 with fail
  replace hs0 := hs0.mono hbA
  have hbw := below_step hb1 hbA
  generalize (w1.alloc (Obj.cells #[Value.slice ao0 40 cap0] 24)).alloc (Obj.cells #[Value.string ⟨#[97]⟩, Value.slice none 0 0, Value.slice none 0 0] 28) = W0 at *
  rw [hbs] at pS pX hzA
  try simp only [hbs]
  have hK : bs + 2 ≤ W0.heap.size := by omega
  have hx0 : SetFrom (bs + 2) W0 none 0 0 none 0 0 zx0 := ⟨⟨rfl, rfl, .inl rfl, ⟨[], rfl, .inl rfl, fun i h => absurd h (by simp)⟩, ⟨Nat.le_refl _, fun _ => rfl⟩, ⟨Nat.le_refl _, fun _ => rfl⟩⟩, fun w2 _ _ => ⟨rfl, rfl, .inl rfl, ⟨[], rfl, .inl rfl, fun i h => absurd h (by simp)⟩, ⟨Nat.le_refl _, fun _ => rfl⟩, ⟨Nat.le_refl _, fun _ => rfl⟩⟩⟩
  have HX0 := Lib.hid hx0
  have HS0 := Lib.hid hs0
  have HC0 := Lib.hid hc0
  clear hbA hzA hs0 hx0 hc0 hb1
  have cS := cell_of_one pS
  have cX0 := cell_of_block pX 0
  have cX1 := cell_of_block pX 1
  have cX2 := cell_of_block pX 2
  simp only [List.getElem?_toArray, List.getElem?_cons_succ, List.getElem?_cons_zero] at cX0 cX1 cX2
  have lS := lt_heap pS
  have lX := lt_heap pX
  have kc := conv_lit W0 #[.int .u8 97, .int .u8 98, .int .u8 99, .int .u8 100] 4 4 W0.heap.size rfl
  simp only [List.size_toArray, List.length_cons, List.length_nil] at kc
  have hbB : Below W0.heap.size W0 (W0.alloc (.cells #[.int .u8 97, .int .u8 98, .int .u8 99, .int .u8 100] 5 (4, 5))) := (Below.refl _ _).alloc (Nat.le_refl _) _
  have rB := heap_alloc_new W0 (.cells #[.int .u8 97, .int .u8 98, .int .u8 99, .int .u8 100] 5 (4, 5))
  have HDO := Lib.hid (do_any (W0.alloc (.cells #[.int .u8 97, .int .u8 98, .int .u8 99, .int .u8 100] 5 (4, 5))) ao0 none none (some ⟨W0.heap.size, 0, none⟩) 40 cap0 0 0 0 0 4 4 zd0 1 zx0 za1 rfl (by omega) (HS0.out.mono hbB) zd0_wf HC0.out (HX0.out.mono hbB).1 zx0_wf rfl (row_lit rB) ⟨Nat.le_refl _, fun h => by cases h⟩ (by simp [za1, Byt]) (by omega))
  rw [zd_1] at HDO
  go_wp2_with fail
  refine HDO.out.mono ?_
  rintro e w2 ⟨ao1, n2, cap1, fo1, fn1, fc1, so1, sn1, sc1, rfl, hb2, hn2, hs2, hc2, hx2⟩
  obtain rfl : n2 = 40 := by rw [← hn2]; rfl
  have hb3 := below_step hbB hb2
  have hzw : W0.heap.size ≤ w2.heap.size := hb3.size
  have hbw2 := below_step hbw hb3
  replace pS := (hb3.block _ lS).trans pS
  replace pX := (hb3.block _ lX).trans pX
  have hx3 := hx2.weaken (show bs + 2 ≤ _ from Nat.le_trans hK hbB.size)
  obtain ⟨z3, z4, zb, -⟩ := put_set pS pX (show bs ≠ bs + 1 by omega) (.slice ao1 40 cap1) (.string zx1.nm) (.slice fo1 fn1 fc1) (.slice so1 sn1 sc1)
  have hbz := zb _ _ hbw2 hwb (by omega)
  have hsz := put_sto pS pX (show bs ≠ bs + 1 by omega) (.slice ao1 40 cap1) (.string zx1.nm) (.slice fo1 fn1 fc1) (.slice so1 sn1 sc1) hs2.1
  have hxz := hx3.go (w' := putW w2 bs (bs + 1) (.slice ao1 40 cap1) (.string zx1.nm) (.slice fo1 fn1 fc1) (.slice so1 sn1 sc1)) (by rw [put_size]; exact Nat.le_refl _) (fun b hb _ => put_other b (by omega) (by omega))
  have hK2 : bs + 2 ≤ (putW w2 bs (bs + 1) (.slice ao1 40 cap1) (.string zx1.nm) (.slice fo1 fn1 fc1) (.slice so1 sn1 sc1)).heap.size := by rw [put_size]; omega
  unfold putW at z3 z4 hbz hsz hxz hK2
  have HS1 := Lib.hid hsz
  have HC1 := Lib.hid hc2
  have HX1 := Lib.hid hxz
  clear cS cX0 cX1 cX2 lS lX kc rB hbB HDO zb hsz hxz hx2 hx3 hs2 hc2 hb2 hb3 hn2 hbw hK
  have cS := cell_of_one pS
  have cX0 := cell_of_block pX 0
  have cX1 := cell_of_block pX 1
  have cX2 := cell_of_block pX 2
  simp only [List.getElem?_toArray, List.getElem?_cons_succ, List.getElem?_cons_zero] at cX0 cX1 cX2
  have lS := lt_heap pS
  have lX := lt_heap pX
  have fS := free_of_one pS
  have fX0 := free_of_block pX 0
  have fX1 := free_of_block pX 1
  have fX2 := free_of_block pX 2
  go_upto_region 4 with fail
  clear cS cX0 cX1 cX2 lS lX fS fX0 fX1 fX2 pS pX hbw2 hzw
  generalize (((w2.setCell ⟨bs, 0, none⟩ (.slice ao1 40 cap1)).setCell ⟨bs + 1, 0, none⟩ (.string zx1.nm)).setCell ⟨bs + 1, 1, none⟩ (.slice fo1 fn1 fc1)).setCell ⟨bs + 1, 2, none⟩ (.slice so1 sn1 sc1) = W1 at *
  clear HS0 HX0 HC0
  have pS := z3
  have pX := z4
  have hbw := hbz
  have hK := hK2
  clear z3 z4 hbz hK2
  have cS := cell_of_one pS
  have cX0 := cell_of_block pX 0
  have cX1 := cell_of_block pX 1
  have cX2 := cell_of_block pX 2
  simp only [List.getElem?_toArray, List.getElem?_cons_succ, List.getElem?_cons_zero] at cX0 cX1 cX2
  have lS := lt_heap pS
  have lX := lt_heap pX
  have hbB : Below W1.heap.size W1 W1 := Below.refl _ _
  have HDO := Lib.hid (do_any W1 ao1 fo1 so1 none 40 cap1 fn1 fc1 sn1 sc1 0 0 zd1 1 zx1 za2 rfl (by omega) HS1.out zd1_wf HC1.out HX1.out.1 zx1_wf rfl (.inl rfl) ⟨Nat.le_refl _, fun _ => rfl⟩ (by simp [za2, Byt]) (by omega))
  rw [zd_2] at HDO
  go_wp2_with fail
  refine HDO.out.mono ?_
  rintro e w2 ⟨ao2, n2, cap2, fo2, fn2, fc2, so2, sn2, sc2, rfl, hb2, hn2, hs2, hc2, hx2⟩
  obtain rfl : n2 = 40 := by rw [← hn2]; rfl
  have hb3 := below_step hbB hb2
  have hzw : W1.heap.size ≤ w2.heap.size := hb3.size
  have hbw2 := below_step hbw hb3
  replace pS := (hb3.block _ lS).trans pS
  replace pX := (hb3.block _ lX).trans pX
  have hx3 := hx2.weaken (show bs + 2 ≤ _ from Nat.le_trans hK hbB.size)
  obtain ⟨z3, z4, zb, -⟩ := put_set pS pX (show bs ≠ bs + 1 by omega) (.slice ao2 40 cap2) (.string zx2.nm) (.slice fo2 fn2 fc2) (.slice so2 sn2 sc2)
  have hbz := zb _ _ hbw2 hwb (by omega)
  have hsz := put_sto pS pX (show bs ≠ bs + 1 by omega) (.slice ao2 40 cap2) (.string zx2.nm) (.slice fo2 fn2 fc2) (.slice so2 sn2 sc2) hs2.1
  have hxz := hx3.go (w' := putW w2 bs (bs + 1) (.slice ao2 40 cap2) (.string zx2.nm) (.slice fo2 fn2 fc2) (.slice so2 sn2 sc2)) (by rw [put_size]; exact Nat.le_refl _) (fun b hb _ => put_other b (by omega) (by omega))
  have hK2 : bs + 2 ≤ (putW w2 bs (bs + 1) (.slice ao2 40 cap2) (.string zx2.nm) (.slice fo2 fn2 fc2) (.slice so2 sn2 sc2)).heap.size := by rw [put_size]; omega
  unfold putW at z3 z4 hbz hsz hxz hK2
  have HS2 := Lib.hid hsz
  have HC2 := Lib.hid hc2
  have HX2 := Lib.hid hxz
  clear cS cX0 cX1 cX2 lS lX hbB HDO zb hsz hxz hx2 hx3 hs2 hc2 hb2 hb3 hn2 hbw hK
  have cS := cell_of_one pS
  have cX0 := cell_of_block pX 0
  have cX1 := cell_of_block pX 1
  have cX2 := cell_of_block pX 2
  simp only [List.getElem?_toArray, List.getElem?_cons_succ, List.getElem?_cons_zero] at cX0 cX1 cX2
  have lS := lt_heap pS
  have lX := lt_heap pX
  have fS := free_of_one pS
  have fX0 := free_of_block pX 0
  have fX1 := free_of_block pX 1
  have fX2 := free_of_block pX 2
  go_upto_region 5 with fail
  clear cS cX0 cX1 cX2 lS lX fS fX0 fX1 fX2 pS pX hbw2 hzw
  generalize (((w2.setCell ⟨bs, 0, none⟩ (.slice ao2 40 cap2)).setCell ⟨bs + 1, 0, none⟩ (.string zx2.nm)).setCell ⟨bs + 1, 1, none⟩ (.slice fo2 fn2 fc2)).setCell ⟨bs + 1, 2, none⟩ (.slice so2 sn2 sc2) = W2 at *
  clear HS1 HX1 HC1
  have pS := z3
  have pX := z4
  have hbw := hbz
  have hK := hK2
  clear z3 z4 hbz hK2
  have cS := cell_of_one pS
  have cX0 := cell_of_block pX 0
  have cX1 := cell_of_block pX 1
  have cX2 := cell_of_block pX 2
  simp only [List.getElem?_toArray, List.getElem?_cons_succ, List.getElem?_cons_zero] at cX0 cX1 cX2
  have lS := lt_heap pS
  have lX := lt_heap pX
  have HCL := Lib.hid (clone_any W2 ao2 fo2 so2 40 cap2 fn2 fc2 sn2 sc2 zd2 1 zx2 ⟨#[115]⟩ ⟨#[98]⟩ rfl (by omega) HS2.out zd2_wf HC2.out HX2.out.1 zx2_wf)
  rw [zd_3] at HCL
  have fS := free_of_one pS
  go_wp2_with fail
  refine HCL.out.mono ?_
  rintro e w2 ⟨ao3, n2, cap3, fo3, fn3, fc3, so3, sn3, sc3, rfl, hb2, hn2, hs2, hc2, hx2⟩
  obtain rfl : n2 = 40 := by rw [← hn2]; rfl
  have HPP := Lib.hid (And.intro pS pX)
  clear HCL
  replace pS := (hb2.block _ lS).trans pS
  replace pX := (hb2.block _ lX).trans pX
  have cS := cell_of_one pS
  have fS := free_of_one pS
  have lS := lt_heap pS
  go_upto_region 6 with fail
  obtain ⟨bx, hbx⟩ : ∃ bx, w2.heap.size = bx := ⟨_, rfl⟩
  have hbxle : W2.heap.size ≤ bx := by have := hb2.size; omega
  have hbsx : bs + 1 < bx := by omega
  clear cS fS lS cX0 cX1 cX2 lX
  have q3 := one_setCell (u := .slice ao3 40 cap3) pS
  have qA : (w2.setCell ⟨bs, 0, none⟩ (.slice ao3 40 cap3)).heap[bs + 1]? = _ := heap_setCell_ne pX (by simp)
  have hzc : (w2.setCell ⟨bs, 0, none⟩ (.slice ao3 40 cap3)).heap.size = bx := by rw [← hbx]; simp
  have pS3 := (heap_alloc_old (w2.setCell ⟨bs, 0, none⟩ (.slice ao3 40 cap3)) (.cells #[.string zx3.nm, .slice fo3 fn3 fc3, .slice so3 sn3 sc3] 28) (by rw [hzc]; omega)).trans q3
  have pA := (heap_alloc_old (w2.setCell ⟨bs, 0, none⟩ (.slice ao3 40 cap3)) (.cells #[.string zx3.nm, .slice fo3 fn3 fc3, .slice so3 sn3 sc3] 28) (by rw [hzc]; omega)).trans qA
  have pX3 := heap_alloc_new (w2.setCell ⟨bs, 0, none⟩ (.slice ao3 40 cap3)) (.cells #[.string zx3.nm, .slice fo3 fn3 fc3, .slice so3 sn3 sc3] 28)
  rw [hzc] at pX3
  have hz3 : ((w2.setCell ⟨bs, 0, none⟩ (.slice ao3 40 cap3)).alloc (.cells #[.string zx3.nm, .slice fo3 fn3 fc3, .slice so3 sn3 sc3] 28)).heap.size = bx + 1 := by simp; omega
  have hk3 : ∀ b, b ≠ bs → b < w2.heap.size → ((w2.setCell ⟨bs, 0, none⟩ (.slice ao3 40 cap3)).alloc (.cells #[.string zx3.nm, .slice fo3 fn3 fc3, .slice so3 sn3 sc3] 28)).heap[b]? = w2.heap[b]? := fun b h1 h2 => (heap_alloc_old _ _ (by rw [hzc]; omega)).trans (Below.heap_setCell _ _ _ _ h1)
  have hs3 : StoRow (w2.setCell ⟨bs, 0, none⟩ (.slice ao3 40 cap3)) ao3 zd3 := sto_off (w' := w2.setCell ⟨bs, 0, none⟩ (.slice ao3 40 cap3)) hs2.1 (fun o k x hx => by
    rw [cell_of_block pS] at hx
    rcases (show o = 0 ∨ 1 ≤ o from by omega) with rfl | e
    · simp at hx
    · rw [Array.getElem?_eq_none (by simp; omega)] at hx; cases hx) (fun b hb => Below.heap_setCell _ _ _ _ hb)
  have HS3 := Lib.hid (hs3.mono (((Below.refl _ _).alloc (Nat.le_refl _) (.cells #[.string zx3.nm, .slice fo3 fn3 fc3, .slice so3 sn3 sc3] 28)) : Below _ _ ((w2.setCell ⟨bs, 0, none⟩ (.slice ao3 40 cap3)).alloc (.cells #[.string zx3.nm, .slice fo3 fn3 fc3, .slice so3 sn3 sc3] 28))))
  have HX3 : Hid (SetFrom W2.heap.size ((w2.setCell ⟨bs, 0, none⟩ (.slice ao3 40 cap3)).alloc (.cells #[.string zx3.nm, .slice fo3 fn3 fc3, .slice so3 sn3 sc3] 28)) fo3 fn3 fc3 so3 sn3 sc3 zx3) := Lib.hid (hx2.go (by rw [hz3]; omega) fun b h1 h2 => hk3 b (by omega) h2)
  have HC3 := Lib.hid hc2
  have HKB := Lib.hid (fun (b : Nat) (h1 : bs + 2 ≤ b) (h2 : b < W2.heap.size) => (hk3 b (by omega) (Nat.lt_of_lt_of_le h2 hb2.size)).trans (hb2.block b h2))
  have HWZ : Hid (W2.heap.size ≤ ((w2.setCell ⟨bs, 0, none⟩ (.slice ao3 40 cap3)).alloc (.cells #[.string zx3.nm, .slice fo3 fn3 fc3, .slice so3 sn3 sc3] 28)).heap.size) := Lib.hid (by rw [hz3]; omega)
  have hbw3 := ((below_step hbw hb2).setCell (p := ⟨bs, 0, none⟩) hwb (.slice ao3 40 cap3)).alloc (by rw [hzc]; have := hbw.size; omega) (.cells #[.string zx3.nm, .slice fo3 fn3 fc3, .slice so3 sn3 sc3] 28)
  clear hs2 hx2 hc2 hn2 q3 qA hk3 hs3 hbw pS pX HPP hK
  generalize (w2.setCell ⟨bs, 0, none⟩ (.slice ao3 40 cap3)).alloc (.cells #[.string zx3.nm, .slice fo3 fn3 fc3, .slice so3 sn3 sc3] 28) = W3 at *
  have pS := pS3
  have pX := pX3
  have hbw := hbw3
  have hK : bx + 1 ≤ W3.heap.size := by omega
  rw [hbx]
  clear pS3 pX3 hbw3 hzc hz3 hb2 HS2
  have cS := cell_of_one pS
  have cX0 := cell_of_block pX 0
  have cX1 := cell_of_block pX 1
  have cX2 := cell_of_block pX 2
  simp only [List.getElem?_toArray, List.getElem?_cons_succ, List.getElem?_cons_zero] at cX0 cX1 cX2
  have lS := lt_heap pS
  have lX := lt_heap pX
  have kc := conv_lit W3 #[.int .u8 101] 1 1 W3.heap.size rfl
  simp only [List.size_toArray, List.length_cons, List.length_nil] at kc
  have hbB : Below W3.heap.size W3 (W3.alloc (.cells #[.int .u8 101] 5 (1, 2))) := (Below.refl _ _).alloc (Nat.le_refl _) _
  have rB := heap_alloc_new W3 (.cells #[.int .u8 101] 5 (1, 2))
  have HDO := Lib.hid (do_any (W3.alloc (.cells #[.int .u8 101] 5 (1, 2))) ao3 fo3 so3 (some ⟨W3.heap.size, 0, none⟩) 40 cap3 fn3 fc3 sn3 sc3 1 1 zd3 1 zx3 za3 rfl (by omega) (HS3.out.mono hbB) zd3_wf HC3.out (HX3.out.mono hbB).1 zx3_wf rfl (row_lit rB) ⟨Nat.le_refl _, fun h => by cases h⟩ (by simp [za3, Byt]) (by omega))
  rw [zd_4] at HDO
  go_wp2_with fail
  refine HDO.out.mono ?_
  rintro e w2 ⟨ao4, n2, cap4, fo4, fn4, fc4, so4, sn4, sc4, rfl, hb2, hn2, hs2, hc2, hx2⟩
  obtain rfl : n2 = 40 := by rw [← hn2]; rfl
  have hb3 := below_step hbB hb2
  have hzw : W3.heap.size ≤ w2.heap.size := hb3.size
  have hbw2 := below_step hbw hb3
  replace pS := (hb3.block _ lS).trans pS
  replace pX := (hb3.block _ lX).trans pX
  have hx3 := hx2.weaken (show bx + 1 ≤ _ from Nat.le_trans hK hbB.size)
  obtain ⟨z3, z4, zb, -⟩ := put_set pS pX (show bs ≠ bx by omega) (.slice ao4 40 cap4) (.string zx4.nm) (.slice fo4 fn4 fc4) (.slice so4 sn4 sc4)
  have hbz := zb _ _ hbw2 hwb (by omega)
  have hsz := put_sto pS pX (show bs ≠ bx by omega) (.slice ao4 40 cap4) (.string zx4.nm) (.slice fo4 fn4 fc4) (.slice so4 sn4 sc4) hs2.1
  have hxz := hx3.go (w' := putW w2 bs bx (.slice ao4 40 cap4) (.string zx4.nm) (.slice fo4 fn4 fc4) (.slice so4 sn4 sc4)) (by rw [put_size]; exact Nat.le_refl _) (fun b hb _ => put_other b (by omega) (by omega))
  have hK2 : bx + 1 ≤ (putW w2 bs bx (.slice ao4 40 cap4) (.string zx4.nm) (.slice fo4 fn4 fc4) (.slice so4 sn4 sc4)).heap.size := by rw [put_size]; omega
  have HKB := Lib.hid (fun (b : Nat) (h1 : bs + 2 ≤ b) (h2 : b < W2.heap.size) => (put_other (v := .slice ao4 40 cap4) (u0 := .string zx4.nm) (u1 := .slice fo4 fn4 fc4) (u2 := .slice so4 sn4 sc4) b (show b ≠ bs by omega) (show b ≠ bx by omega)).trans ((hb3.block b (Nat.lt_of_lt_of_le h2 HWZ.out)).trans (HKB.out b h1 h2)))
  have pA := (put_other (v := .slice ao4 40 cap4) (u0 := .string zx4.nm) (u1 := .slice fo4 fn4 fc4) (u2 := .slice so4 sn4 sc4) (bs + 1) (show bs + 1 ≠ bs by omega) (show bs + 1 ≠ bx by omega)).trans ((hb3.block _ (lt_heap pA)).trans pA)
  unfold putW at HKB pA
  unfold putW at z3 z4 hbz hsz hxz hK2
  have HS4 := Lib.hid hsz
  have HC4 := Lib.hid hc2
  have HX4 := Lib.hid hxz
  clear cS cX0 cX1 cX2 lS lX kc rB hbB HDO zb hsz hxz hx2 hx3 hs2 hc2 hb2 hb3 hn2 hbw hK
  have cS := cell_of_one pS
  have cX0 := cell_of_block pX 0
  have cX1 := cell_of_block pX 1
  have cX2 := cell_of_block pX 2
  simp only [List.getElem?_toArray, List.getElem?_cons_succ, List.getElem?_cons_zero] at cX0 cX1 cX2
  have lS := lt_heap pS
  have lX := lt_heap pX
  have fS := free_of_one pS
  have fX0 := free_of_block pX 0
  have fX1 := free_of_block pX 1
  have fX2 := free_of_block pX 2
  go_upto_region 7 with fail
  clear cS cX0 cX1 cX2 lS lX fS fX0 fX1 fX2 pS pX hbw2 hzw
  generalize (((w2.setCell ⟨bs, 0, none⟩ (.slice ao4 40 cap4)).setCell ⟨bx, 0, none⟩ (.string zx4.nm)).setCell ⟨bx, 1, none⟩ (.slice fo4 fn4 fc4)).setCell ⟨bx, 2, none⟩ (.slice so4 sn4 sc4) = W4 at *
  have pS := z3
  have pX := z4
  have hbw := hbz
  have hK := hK2
  clear z3 z4 hbz hK2
  have HX2A : SetIn W4 fo2 fn2 fc2 so2 sn2 sc2 zx2 := HX2.out.2 W4 (by omega) (fun b h1 h2 => HKB.out b h1 h2)
  have cS := cell_of_one pS
  have cX0 := cell_of_block pX 0
  have cX1 := cell_of_block pX 1
  have cX2 := cell_of_block pX 2
  simp only [List.getElem?_toArray, List.getElem?_cons_succ, List.getElem?_cons_zero] at cX0 cX1 cX2
  have lS := lt_heap pS
  have lX := lt_heap pX
  have cA0 := cell_of_block pA 0
  have cA1 := cell_of_block pA 1
  have cA2 := cell_of_block pA 2
  simp only [List.getElem?_toArray, List.getElem?_cons_succ, List.getElem?_cons_zero] at cA0 cA1 cA2
  have lA := lt_heap pA
  have HDF := Lib.hid (diff_any W4 ao4 fo2 so2 fo4 so4 40 cap4 fn2 fc2 sn2 sc2 fn4 fc4 sn4 sc4 zd4 1 zx2 zx4 rfl (by omega) HS4.out zd4_wf HC4.out HX2A zx2_wf HX4.out.1 zx4_wf)
  rw [zd_5] at HDF
  clear HX2A
  go_wp2_with fail
  refine HDF.out.mono ?_
  rintro e w5 ⟨v5, rfl, hch5, hb5⟩
  obtain ⟨a5, c5, rfl, hcl, hca⟩ := hch5.shape
  obtain ⟨-, hr5, hcp5⟩ := hch5.row
  have kc := conv_lit w5 #[.int .u8 101] 1 1 w5.heap.size rfl
  simp only [List.size_toArray, List.length_cons, List.length_nil] at kc
  have hbA : Below w5.heap.size w5 ((w5.alloc (.cells #[.int .u8 101] 5 (1, 2))).alloc (.cells #[.int .i64 2, .string ⟨#[102]⟩, .int .i64 5, .slice none 0 0, .int .i64 3, .string ⟨#[102]⟩, .int .i64 4, .slice (some ⟨w5.heap.size, 0, none⟩) 1 1] 81)) := ((Below.refl _ _).alloc (Nat.le_refl _) _).alloc (by simp) _
  have hrl : ChRow ((w5.alloc (.cells #[.int .u8 101] 5 (1, 2))).alloc (.cells #[.int .i64 2, .string ⟨#[102]⟩, .int .i64 5, .slice none 0 0, .int .i64 3, .string ⟨#[102]⟩, .int .i64 4, .slice (some ⟨w5.heap.size, 0, none⟩) 1 1] 81)) (some ⟨w5.heap.size + 1, 0, none⟩) [⟨2, ⟨#[102]⟩, 5, []⟩, ⟨3, ⟨#[102]⟩, 4, [101]⟩] :=
    ⟨[⟨2, ⟨#[102]⟩, 5, none, 0, 0⟩, ⟨3, ⟨#[102]⟩, 4, some ⟨w5.heap.size, 0, none⟩, 1, 1⟩], rfl, .inr ⟨_, 0, rfl, fun j u hj => by
      rw [Nat.zero_add, cell_of_block (heap_alloc2_new w5 _ _), List.getElem?_toArray]
      simpa [Kind.all, chvK] using hj⟩, fun i h h' => by
      rcases (show i = 0 ∨ i = 1 from by simp at h; omega) with rfl | rfl
      · exact ⟨rfl, rfl, rfl, rfl, .inl rfl, ⟨Nat.le_refl _, fun _ => rfl⟩⟩
      · exact ⟨rfl, rfl, rfl, rfl, row_lit (heap_alloc2_old w5 _ _), ⟨Nat.le_refl _, fun h => by cases h⟩⟩⟩
  have HSC := Lib.hid (sameChanges_any _ a5 (some ⟨w5.heap.size + 1, 0, none⟩) 2 c5 2 2 [⟨2, ⟨#[102]⟩, 5, []⟩, ⟨3, ⟨#[102]⟩, 4, [101]⟩] [⟨2, ⟨#[102]⟩, 5, []⟩, ⟨3, ⟨#[102]⟩, 4, [101]⟩] rfl rfl (by omega) (by omega) (hr5.mono hbA) hrl (by simp [Byt]) (by simp [Byt]))
  rw [isB_self] at HSC
  have HBZ := Lib.hid (below_step (below_step hbw hb5) hbA)
  go_upto_region 8 with fail
  clear hbA hrl hr5 hch5 hb5 hbw HDF
  go_wp2_with fail
  refine HSC.out.mono ?_
  rintro e w6 ⟨rfl, hb6⟩
  go_wp2_with fail
  go_ret
  exact ⟨rfl, below_step HBZ.out hb6⟩
end Go.Proofs.Ytfmgdjgedhnmeaa
