/- rookerylaw.TreePut: the walk. -/
import Derived.Test.YtpfopbkaddjjcaaRooted
import Derived.Test.YtpfopbkaddjjcaaPutIn
import Derived.Test.YtpfopbkaddjjcaaTreeRef
import Derived.Test.YtpfopbkaddjjcaaOwnStore
import Derived.Test.YtpfopbkaddjjcaaSame
namespace Go.Proofs.Ytpfopbkaddjjcaa
open Go.RowKit
set_option linter.unusedVariables false

theorem same_self (s : List Blk) : sameS s s = true := by simp [sameS]

set_option maxRecDepth 100000 in
set_option maxHeartbeats 4000000 in
theorem law_put_bad (w : World) (ao ba : Option Addr) (n cap nb bc : Nat) (s : List Blk) (root l i : Int) (b : List Int) (hn : s.length = n) (h41 : n ≤ 2199023255552) (hs : StoRow w ao s) (hwf : WfS s) (hc : Capd ao n cap)
    (hnb : b.length = nb) (hbr : Row .u8 w ba b) (hbc : Capd ba nb bc) (hby : Byt b) (hb47 : nb ≤ 140737488351232) (hct : checkT s root l i ≠ 0) :
    Calls Try.prog 11 #[.agg #[.slice ao n cap], .int .i64 root, .int .i64 l, .int .i64 i, .slice ba nb bc] w fun e w' => e = .returned (.bool true) ∧ Below w.heap.size w w' := by
  have HN := Lib.hid hn
  have HC := Lib.hid hc
  have HB := Lib.hid hnb
  have HBA := Lib.hid hbc
  have HT := Lib.hid (show tputR s root l i b = ([], 0, checkT s root l i) by unfold tputR; rw [if_pos hct])
  have hb0 : Below w.heap.size w (w.alloc (.cells #[.slice ao n cap] 40)) := (Below.refl _ _).alloc (Nat.le_refl _) _
  have p0 : (w.alloc (.cells #[.slice ao n cap] 40)).heap[w.heap.size]? = some (.cells #[.slice ao n cap] 40 (0, 0)) := heap_alloc_new _ _
  have hct0 : (checkT s root l i == 0) = false := by rw [beq_eq_false_iff_ne]; exact hct
  have hct1 : (checkT s root l i != 0) = true := by rw [bne_iff_ne]; exact hct
  clear hn hc hnb hbc hct
  go_enter Try.func11, Try.ntmps11
  go_wp2_with fail
  generalize w.alloc (Obj.cells #[Value.slice ao n cap] 40) = W0 at *
  refine (treePut_any W0 ao ba n cap nb bc s root l i b HN.out (by omega) (hs.mono hb0) hwf HC.out HB.out (hbr.mono hb0) HBA.out hby hb47).mono ?_
  rw [HT.out]
  rintro e w1 ⟨v, rfl, ho, hb1⟩
  obtain ⟨a1, c1, rfl, hc1, hs1⟩ := ho.sto
  simp only [List.length_nil] at *
  replace p0 := (hb1.block _ (lt_heap p0)).trans p0
  have hbw := below_step hb0 hb1
  have c0 := cell_of_one p0
  have l0 := lt_heap p0
  have HCR := fun (u : World) (h : Below w.heap.size w u) => checkRoot_any u ao n cap s root l i HN.out (by omega) (hs.mono h) hwf
  have HCR := Lib.hid HCR
  generalize checkT s root l i = ct at *
  have hb2 : Below w1.heap.size w1 (w1.alloc (.cells #[.slice a1 0 c1] 40)) := (Below.refl _ _).alloc (Nat.le_refl _) _
  have p1 : (w1.alloc (.cells #[.slice a1 0 c1] 40)).heap[w1.heap.size]? = some (.cells #[.slice a1 0 c1] 40 (0, 0)) := heap_alloc_new _ _
  have hs2 := hs1.mono hb2
  have hbw2 := below_step hbw hb2
  clear ho hs1 hs
  go_wp2_with fail
  generalize w1.alloc (Obj.cells #[Value.slice a1 0 c1] 40) = W2 at *
  refine (HCR.out W2 hbw2).mono ?_
  rintro e w3 ⟨rfl, hb3⟩
  replace p1 := (hb3.block _ (lt_heap p1)).trans p1
  replace hs2 := hs2.mono hb3
  have hbw3 := below_step hbw2 hb3
  go_wp2_with fail
  refine (rooted_any _).mono ?_
  rintro e w4 ⟨rfl, hb4⟩
  replace p1 := (hb4.block _ (lt_heap p1)).trans p1
  replace hs2 := hs2.mono hb4
  have hbw4 := below_step hbw3 hb4
  go_wp2_with fail
  refine (rooted_any _).mono ?_
  rintro e w5 ⟨rfl, hb5⟩
  replace p1 := (hb5.block _ (lt_heap p1)).trans p1
  replace hs2 := hs2.mono hb5
  have hbw5 := below_step hbw4 hb5
  have c1' := cell_of_one p1
  have l1 := lt_heap p1
  go_wp2_with fail
  refine (sameStore_any _ _ _ 0 _ 0 _ [] [] rfl rfl (by omega) (by omega) hs2 (.inl rfl) (fun x hx => by cases hx) (fun x hx => by cases hx)).mono ?_
  rw [same_self]
  rintro e w6 ⟨rfl, hb6⟩
  have hbw6 := below_step hbw5 hb6
  go_wp2
  go_ret
  exact ⟨rfl, hbw6⟩
set_option maxRecDepth 100000 in
set_option maxHeartbeats 4000000 in
theorem law_put_many (w : World) (ao ba : Option Addr) (n cap nb bc : Nat) (s : List Blk) (root l i : Int) (b : List Int) (hn : s.length = n) (h41 : n ≤ 2199023255552) (hs : StoRow w ao s) (hwf : WfS s) (hc : Capd ao n cap)
    (hnb : b.length = nb) (hbr : Row .u8 w ba b) (hbc : Capd ba nb bc) (hby : Byt b) (hb47 : nb ≤ 140737488351232) (hct : checkT s root l i = 0) (h0 : nb ≠ 0) (h4 : nb ≠ 4) :
    Calls Try.prog 11 #[.agg #[.slice ao n cap], .int .i64 root, .int .i64 l, .int .i64 i, .slice ba nb bc] w fun e w' => e = .returned (.bool true) ∧ Below w.heap.size w w' := by
  have HN := Lib.hid hn
  have HC := Lib.hid hc
  have HB := Lib.hid hnb
  have HBA := Lib.hid hbc
  have HT := Lib.hid (show tputR s root l i b = ([], 0, 2) by unfold tputR; rw [if_neg (by simp [hct]), if_pos (by omega)])
  have hb0 : Below w.heap.size w (w.alloc (.cells #[.slice ao n cap] 40)) := (Below.refl _ _).alloc (Nat.le_refl _) _
  have p0 : (w.alloc (.cells #[.slice ao n cap] 40)).heap[w.heap.size]? = some (.cells #[.slice ao n cap] 40 (0, 0)) := heap_alloc_new _ _
  have hm0 : ((nb : Int) != 0) = true := by rw [bne_iff_ne]; omega
  have hm4 : ((nb : Int) != 4) = true := by rw [bne_iff_ne]; omega
  have HCT := Lib.hid hct
  clear hn hc hnb hbc hct
  go_enter Try.func11, Try.ntmps11
  go_wp2_with fail
  generalize w.alloc (Obj.cells #[Value.slice ao n cap] 40) = W0 at *
  refine (treePut_any W0 ao ba n cap nb bc s root l i b HN.out (by omega) (hs.mono hb0) hwf HC.out HB.out (hbr.mono hb0) HBA.out hby hb47).mono ?_
  rw [HT.out]
  rintro e w1 ⟨v, rfl, ho, hb1⟩
  obtain ⟨a1, c1, rfl, hc1, hs1⟩ := ho.sto
  simp only [List.length_nil] at *
  replace p0 := (hb1.block _ (lt_heap p0)).trans p0
  have hbw := below_step hb0 hb1
  have c0 := cell_of_one p0
  have l0 := lt_heap p0
  have HCR := fun (u : World) (h : Below w.heap.size w u) => checkRoot_any u ao n cap s root l i HN.out (by omega) (hs.mono h) hwf
  rw [HCT.out] at HCR
  have HCR := Lib.hid HCR
  have hb2 : Below w1.heap.size w1 (w1.alloc (.cells #[.slice a1 0 c1] 40)) := (Below.refl _ _).alloc (Nat.le_refl _) _
  have p1 : (w1.alloc (.cells #[.slice a1 0 c1] 40)).heap[w1.heap.size]? = some (.cells #[.slice a1 0 c1] 40 (0, 0)) := heap_alloc_new _ _
  have hs2 := hs1.mono hb2
  have hbw2 := below_step hbw hb2
  clear ho hs1 hs
  go_wp2_with fail
  generalize w1.alloc (Obj.cells #[Value.slice a1 0 c1] 40) = W2 at *
  refine (HCR.out W2 hbw2).mono ?_
  rintro e w3 ⟨rfl, hb3⟩
  replace p1 := (hb3.block _ (lt_heap p1)).trans p1
  replace hs2 := hs2.mono hb3
  have hbw3 := below_step hbw2 hb3
  go_wp2_with fail
  refine (rooted_any _).mono ?_
  rintro e w4 ⟨rfl, hb4⟩
  replace p1 := (hb4.block _ (lt_heap p1)).trans p1
  replace hs2 := hs2.mono hb4
  have hbw4 := below_step hbw3 hb4
  go_wp2_with fail
  refine (rooted_any _).mono ?_
  rintro e w5 ⟨rfl, hb5⟩
  replace p1 := (hb5.block _ (lt_heap p1)).trans p1
  replace hs2 := hs2.mono hb5
  have hbw5 := below_step hbw4 hb5
  have c1' := cell_of_one p1
  have l1 := lt_heap p1
  go_wp2_with fail
  refine (sameStore_any _ _ _ 0 _ 0 _ [] [] rfl rfl (by omega) (by omega) hs2 (.inl rfl) (fun x hx => by cases hx) (fun x hx => by cases hx)).mono ?_
  rw [same_self]
  rintro e w6 ⟨rfl, hb6⟩
  have hbw6 := below_step hbw5 hb6
  go_wp2
  go_ret
  exact ⟨rfl, hbw6⟩
set_option maxRecDepth 100000 in
set_option maxHeartbeats 4000000 in
theorem law_put_ok (w : World) (ao ba : Option Addr) (n cap nb bc : Nat) (s : List Blk) (root l i : Int) (b : List Int) (hn : s.length = n) (h41 : n ≤ 2199023255552) (hs : StoRow w ao s) (hwf : WfS s) (hc : Capd ao n cap)
    (hnb : b.length = nb) (hbr : Row .u8 w ba b) (hbc : Capd ba nb bc) (hby : Byt b) (hct : checkT s root l i = 0) (hmany : nb = 0 ∨ nb = 4) :
    Calls Try.prog 11 #[.agg #[.slice ao n cap], .int .i64 root, .int .i64 l, .int .i64 i, .slice ba nb bc] w fun e w' => e = .returned (.bool true) ∧ Below w.heap.size w w' := by
  obtain ⟨hce0, m, rfl, hm, hroot, hi0, him⟩ := checkT_ok hct
  obtain ⟨j, rfl⟩ : ∃ j : Nat, i = j := ⟨i.toNat, by omega⟩
  have hjm : j < p4n m := by rw [p4n_int] at him; omega
  have hG := Good.of_check hce0 hwf
  have hb4 : nb ≤ 4 := by omega
  have HT := Lib.hid (show tputR s root m j b = if (setF m s root j b).2.2 ≠ 0 then ([], 0, (setF m s root j b).2.2) else setF m s root j b by
    unfold tputR
    rw [if_neg (by simp [hct]), if_neg (by omega)]
    rfl)
  have HSG := Lib.hid (fun he => set_good m s root j b 1000000 hm hG (by omega) (by omega) hroot hjm hby (by omega) he)
  have HN := Lib.hid hn
  have HC := Lib.hid hc
  have HB := Lib.hid hnb
  have HBA := Lib.hid hbc
  have HCT := Lib.hid hct
  have hb0 : Below w.heap.size w (w.alloc (.cells #[.slice ao n cap] 40)) := (Below.refl _ _).alloc (Nat.le_refl _) _
  have p0 : (w.alloc (.cells #[.slice ao n cap] 40)).heap[w.heap.size]? = some (.cells #[.slice ao n cap] 40 (0, 0)) := heap_alloc_new _ _
  clear hn hc hnb hbc hct hi0 him hce0
  go_enter Try.func11, Try.ntmps11
  go_wp2_with fail
  generalize w.alloc (Obj.cells #[Value.slice ao n cap] 40) = W0 at *
  refine (treePut_any W0 ao ba n cap nb bc s root m j b HN.out (by omega) (hs.mono hb0) hwf HC.out HB.out (hbr.mono hb0) HBA.out hby (by omega)).mono ?_
  rw [HT.out]
  rintro e w1 ⟨v, rfl, ho, hb1⟩
  replace p0 := (hb1.block _ (lt_heap p0)).trans p0
  have hbw := below_step hb0 hb1
  have c0 := cell_of_one p0
  have l0 := lt_heap p0
  have HCR := fun (u : World) (h : Below w.heap.size w u) => checkRoot_any u ao n cap s root m j HN.out (by omega) (hs.mono h) hwf
  rw [HCT.out] at HCR
  have HCR := Lib.hid HCR
  have HOS := Lib.hid (fun (u : World) (h : Below w.heap.size w u) => ownStore_any u ao n cap s HN.out h41 (hs.mono h) hwf)
  have HPI := Lib.hid (fun (u : World) (pb base : Nat) (ax : Option Addr) (cx : Nat) (h : Below w.heap.size w u) (hbox : u.heap[pb]? = some (.cells #[.slice ax n cx] 40 (0, 0))) (hox : OwnSto u base (.slice ax n cx) s) (hpn : ∀ g, s ≠ [] → ax = some ⟨g, 0, none⟩ → pb ≠ g) (hbs : base ≤ u.heap.size) =>
    putIn_any u pb base ax ba n cx nb bc s root m j b 1000000 HN.out hbox hox hpn hbs hG (by omega) (by omega) hm hroot hjm hby HB.out hb4 (hbr.mono h) HBA.out)
  generalize setF m s root j b = r at *
  obtain ⟨s1, k1, e1⟩ := r
  by_cases he : e1 = 0
  rotate_left
  · rw [if_pos (by exact he)] at ho ⊢
    have he0 : (e1 == 0) = false := by rw [beq_eq_false_iff_ne]; exact he
    have he1 : (e1 != 0) = true := by rw [bne_iff_ne]; exact he
    obtain ⟨a1, c1, rfl, hc1, hs1⟩ := ho.sto
    simp only [List.length_nil] at *
    clear ho he
    have hb2 : Below w1.heap.size w1 (w1.alloc (.cells #[.slice a1 0 c1] 40)) := (Below.refl _ _).alloc (Nat.le_refl _) _
    have p1 : (w1.alloc (.cells #[.slice a1 0 c1] 40)).heap[w1.heap.size]? = some (.cells #[.slice a1 0 c1] 40 (0, 0)) := heap_alloc_new _ _
    have hs2 := hs1.mono hb2
    have hbw2 := below_step hbw hb2
    have p0 := (hb2.block _ (lt_heap p0)).trans p0
    go_wp2_with fail
    generalize w1.alloc (Obj.cells #[Value.slice a1 0 c1] 40) = W2 at *
    refine (HCR.out W2 hbw2).mono ?_
    rintro e w3 ⟨rfl, hb3⟩
    replace p1 := (hb3.block _ (lt_heap p1)).trans p1
    replace p0 := (hb3.block _ (lt_heap p0)).trans p0
    replace hs2 := hs2.mono hb3
    have hbw3 := below_step hbw2 hb3
    have HSM := Lib.hid (fun (u : World) (h : StoRow u a1 []) => sameStore_any u a1 none 0 c1 0 0 [] [] rfl rfl (by omega) (by omega) h (.inl rfl) (fun x hx => by cases hx) (fun x hx => by cases hx))
    rw [same_self] at HSM
    clear HCR HSG HT hb2 hs1
    rcases hmany with hnb | hnb
    all_goals
      subst hnb
      go_wp2_with fail
      refine (rooted_any _).mono ?_
      rintro e w4 ⟨rfl, hb4⟩
      have p14 := (hb4.block _ (lt_heap p1)).trans p1
      have p04 := (hb4.block _ (lt_heap p0)).trans p0
      have hs4 := hs2.mono hb4
      have hbw4 := below_step hbw3 hb4
      have c04 := cell_of_one p04
      have l04 := lt_heap p04
      go_wp2_with fail
      refine (HOS.out w4 hbw4).mono ?_
      rintro e w5 ⟨v5, rfl, ho5, hb5⟩
      have p15 := (hb5.block _ (lt_heap p14)).trans p14
      have hs5 := hs4.mono hb5
      have hbw5 := below_step hbw4 hb5
      obtain ⟨a5, c5, rfl, hc5, -⟩ := ho5.sto
      rw [HN.out] at ho5 hc5 ⊢
      have hA : Below w5.heap.size w5 (w5.alloc (.cells #[.slice a5 n c5] 40)) := (Below.refl _ _).alloc (Nat.le_refl _) _
      have p6 : (w5.alloc (.cells #[.slice a5 n c5] 40)).heap[w5.heap.size]? = some (.cells #[.slice a5 n c5] 40 (0, 0)) := heap_alloc_new _ _
      have ho6 := ho5.mono hA
      have hpn : ∀ g, s ≠ [] → a5 = some ⟨g, 0, none⟩ → w5.heap.size ≠ g := fun g h1 h2 => by have := own_lt ho5 h1 h2; omega
      have p16 := (hA.block _ (lt_heap p15)).trans p15
      have hs6 := hs5.mono hA
      have hbw6 := below_step hbw5 hA
      have hsz4 := hb5.size
      have hl4 := lt_heap p14
      have hsz5 := hA.size
      clear c04 l04 ho5
      go_wp2_with fail
      generalize w5.alloc (Obj.cells #[Value.slice a5 n c5] 40) = W6 at *
      refine (HPI.out W6 w5.heap.size w4.heap.size a5 c5 hbw6 p6 ho6 hpn (by omega)).mono ?_
      rintro e w7 ⟨rfl, hb7, hf7, -⟩
      have hb47 : Below w4.heap.size w4 w7 := (hb5.trans (hA.mono hsz4)).trans hb7
      have p17 := (hb47.block _ hl4).trans p14
      have hs7 := hs4.mono hb47
      have hbw7 := below_step hbw4 hb47
      rw [if_neg (by intro h; simp only at h; rw [h] at he1; cases he1)]
      have c17 := cell_of_one p17
      have l17 := lt_heap p17
      clear hf7 p16 hs6
      go_wp2_with fail
      refine (HSM.out _ hs7).mono ?_
      rintro e w8 ⟨rfl, hb8⟩
      have hbw8 := below_step hbw7 hb8
      go_wp2
      go_ret
      exact ⟨rfl, hbw8⟩
  · subst he
    rw [if_neg (fun h => h rfl)] at ho ⊢
    obtain ⟨hG1, -, -⟩ := HSG.out rfl
    obtain ⟨a1, c1, rfl, hc1, hs1⟩ := ho.sto
    obtain ⟨n1, hn1⟩ : ∃ n1, s1.length = n1 := ⟨_, rfl⟩
    rw [hn1] at ho ⊢
    have HN1 := Lib.hid hn1
    have h400 : n1 ≤ 400 := by have := hG1.few; simp only at this; omega
    clear ho hn1
    have hb2 : Below w1.heap.size w1 (w1.alloc (.cells #[.slice a1 n1 c1] 40)) := (Below.refl _ _).alloc (Nat.le_refl _) _
    have p1 : (w1.alloc (.cells #[.slice a1 n1 c1] 40)).heap[w1.heap.size]? = some (.cells #[.slice a1 n1 c1] 40 (0, 0)) := heap_alloc_new _ _
    have hs2 := hs1.mono hb2
    have hbw2 := below_step hbw hb2
    have p0 := (hb2.block _ (lt_heap p0)).trans p0
    go_wp2_with fail
    generalize w1.alloc (Obj.cells #[Value.slice a1 n1 c1] 40) = W2 at *
    refine (HCR.out W2 hbw2).mono ?_
    rintro e w3 ⟨rfl, hb3⟩
    replace p1 := (hb3.block _ (lt_heap p1)).trans p1
    replace p0 := (hb3.block _ (lt_heap p0)).trans p0
    replace hs2 := hs2.mono hb3
    have hbw3 := below_step hbw2 hb3
    have HWF := Lib.hid hG1.wf
    clear HCR HSG HT hb2 hs1 hc1 hG1
    rcases hmany with hnb | hnb
    all_goals
      subst hnb
      go_wp2_with fail
      refine (rooted_any _).mono ?_
      rintro e w4 ⟨rfl, hb4⟩
      have p14 := (hb4.block _ (lt_heap p1)).trans p1
      have p04 := (hb4.block _ (lt_heap p0)).trans p0
      have hs4 := hs2.mono hb4
      have hbw4 := below_step hbw3 hb4
      have c04 := cell_of_one p04
      have l04 := lt_heap p04
      go_wp2_with fail
      refine (HOS.out w4 hbw4).mono ?_
      rintro e w5 ⟨v5, rfl, ho5, hb5⟩
      have p15 := (hb5.block _ (lt_heap p14)).trans p14
      have hbw5 := below_step hbw4 hb5
      obtain ⟨a5, c5, rfl, hc5, -⟩ := ho5.sto
      rw [HN.out] at ho5 hc5 ⊢
      have hA : Below w5.heap.size w5 (w5.alloc (.cells #[.slice a5 n c5] 40)) := (Below.refl _ _).alloc (Nat.le_refl _) _
      have p6 : (w5.alloc (.cells #[.slice a5 n c5] 40)).heap[w5.heap.size]? = some (.cells #[.slice a5 n c5] 40 (0, 0)) := heap_alloc_new _ _
      have ho6 := ho5.mono hA
      have hpn : ∀ g, s ≠ [] → a5 = some ⟨g, 0, none⟩ → w5.heap.size ≠ g := fun g h1 h2 => by have := own_lt ho5 h1 h2; omega
      have hbw6 := below_step hbw5 hA
      have hsz4 := hb5.size
      have hl4 := lt_heap p14
      have hsz5 := hA.size
      clear c04 l04 ho5
      go_wp2_with fail
      generalize w5.alloc (Obj.cells #[Value.slice a5 n c5] 40) = W6 at *
      refine (HPI.out W6 w5.heap.size w4.heap.size a5 c5 hbw6 p6 ho6 hpn (by omega)).mono ?_
      rintro e w7 ⟨rfl, hb7, hf7, hx7⟩
      have p67 := (hf7 _ (lt_heap p6) hpn).trans p6
      have ho7 := hx7 rfl
      have hn7 := ho7.len
      obtain ⟨a7, c7, hv7, hc7, hr7⟩ := ho7.sto
      simp only at hn7 hv7 hr7
      rw [hn7] at hv7
      simp only [Value.slice.injEq, true_and] at hv7
      obtain ⟨rfl, rfl⟩ := hv7
      have HN7 := Lib.hid hn7
      have hb47 : Below w4.heap.size w4 w7 := (hb5.trans (hA.mono hsz4)).trans hb7
      have p17 := (hb47.block _ hl4).trans p14
      have hs7 := hs4.mono hb47
      have hbw7 := below_step hbw4 hb47
      rw [if_pos rfl]
      have c17 := cell_of_one p17
      have l17 := lt_heap p17
      have c67 := cell_of_one p67
      have l67 := lt_heap p67
      clear hf7 hx7 ho7 hn7 ho6 hpn hc7
      go_wp2_with fail
      refine (sameStore_any w7 a1 a5 n1 c1 n c5 s1 s1 HN1.out HN7.out (by omega) (by omega) hs7 hr7 HWF.out HWF.out).mono ?_
      rw [same_self]
      rintro e w8 ⟨rfl, hb8⟩
      have hbw8 := below_step hbw7 hb8
      go_wp2
      go_ret
      exact ⟨rfl, hbw8⟩
end Go.Proofs.Ytpfopbkaddjjcaa
