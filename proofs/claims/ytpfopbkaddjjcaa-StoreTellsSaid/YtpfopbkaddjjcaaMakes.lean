/- rookerylaw.StoreMakes: the walk. -/
import Derived.Test.YtpfopbkaddjjcaaMakeIn
import Derived.Test.YtpfopbkaddjjcaaDropIn
import Derived.Test.YtpfopbkaddjjcaaOwnStore
import Derived.Test.YtpfopbkaddjjcaaSame
import Derived.Test.YtpfopbkaddjjcaaCheckRef
import Derived.Test.YtpfopbkaddjjcaaFrees
import Derived.Test.YtpfopbkaddjjcaaBackP
namespace Go.Proofs.Ytpfopbkaddjjcaa
open Go.RowKit
set_option linter.unusedVariables false

theorem sameS_self (s : List Blk) : sameS s s = true := by simp [sameS]
theorem cell_not_box {w : World} {pb b o : Nat} {k : IntKind} {x : Int} {a : Option Addr} {n c : Nat} {t : TypeId} (h : w.cell? ⟨b, o, none⟩ = some (.int k x)) (hp : w.heap[pb]? = some (.cells #[.slice a n c] t (0, 0))) : b ≠ pb := by
  intro e
  subst e
  rw [cell_of_block hp] at h
  rcases Nat.eq_zero_or_pos o with h0 | h0
  · rw [h0] at h; simp at h
  · rw [Array.getElem?_eq_none (by simp; omega)] at h; cases h
theorem cell_keep {w : World} {pb b o : Nat} {v u : Value} (h : w.cell? ⟨b, o, none⟩ = some v) (hne : b ≠ pb) : (w.setCell ⟨pb, 0, none⟩ u).cell? ⟨b, o, none⟩ = some v := by
  rw [World.cell?_of_block (a := ⟨b, o, none⟩) (Below.heap_setCell _ _ _ _ (show b ≠ pb from hne))]; exact h
theorem Sl.box {k : IntKind} {w : World} {v : Value} {xs : List Int} {pb : Nat} {a : Option Addr} {n c : Nat} {t : TypeId} (h : Sl k w v xs) (hp : w.heap[pb]? = some (.cells #[.slice a n c] t (0, 0))) (u : Value) : Sl k (w.setCell ⟨pb, 0, none⟩ u) v xs := by
  obtain ⟨ao, cap, h1, h2, h3⟩ := h
  refine ⟨ao, cap, h1, ?_, h3⟩
  rcases h2 with h2 | ⟨b, o, rfl, hc⟩
  · exact .inl h2
  · exact .inr ⟨b, o, rfl, fun i hi => cell_keep (hc i hi) (cell_not_box (hc i hi) hp)⟩
/-- a box is written: a store elsewhere reads as before -/
theorem StoRow.box {w : World} {ao : Option Addr} {s : List Blk} {pb : Nat} {a : Option Addr} {n c : Nat} {t : TypeId} (h : StoRow w ao s) (hp : w.heap[pb]? = some (.cells #[.slice a n c] t (0, 0))) (u : Value) : StoRow (w.setCell ⟨pb, 0, none⟩ u) ao s := by
  rcases h with h | ⟨b, o, rfl, h⟩
  · exact .inl h
  · refine .inr ⟨b, o, rfl, fun i hi => ?_⟩
    have hB := h i hi
    have hne := cell_not_box hB.refs hp
    obtain ⟨v, h1, h2⟩ := hB.kids
    obtain ⟨x, h3, h4⟩ := hB.bytes
    exact ⟨cell_keep hB.refs hne, cell_keep hB.level hne, ⟨v, cell_keep h1 hne, h2.box hp u⟩, ⟨x, cell_keep h3 hne, h4.box hp u⟩⟩
theorem wf_set {s : List Blk} (h : WfS s) (k : Nat) (x : Blk) (hx : WfB x) : WfS (s.set k x) := by
  intro y hy
  rcases List.mem_or_eq_of_mem_set hy with h1 | h1
  · exact h y h1
  · rw [h1]; exact hx
theorem wf_more {s : List Blk} (h : WfS s) (hr : RefsB s 1000000000) (a : Int) : WfS (addRef s a 1) := by
  unfold addRef
  by_cases hlt : (a - 1).toNat < s.length
  · refine wf_set h _ _ ?_
    have hx := h _ (List.getElem_mem hlt)
    have hy := hr _ (List.getElem_mem hlt)
    have e : blk s a = s[(a - 1).toNat] := by unfold blk; rw [List.getElem?_eq_getElem hlt]; rfl
    rw [e]
    exact ⟨by unfold I64; simp only; omega, hx.level, hx.kids, hx.bytes, hx.klen, hx.blen⟩
  · rw [List.set_eq_of_length_le (by omega)]; exact h
theorem wf_bump (ks : List Int) : ∀ (s : List Blk) (M : Int), WfS s → RefsB s M → 0 ≤ M → M + ks.length ≤ 1000000000 → WfS (bump s ks) := by
  induction ks with
  | nil => intro s M h _ _ _; exact h
  | cons k ks ih =>
    intro s M h hr h0 hm
    simp only [List.length_cons] at hm
    have e : bump s (k :: ks) = bump (if 0 < k then addRef s k 1 else s) ks := rfl
    rw [e]
    split
    · exact ih _ (M + 1) (wf_more h (fun x hx => by have := hr x hx; omega) k) (addRef_refsB hr k h0) (by omega) (by omega)
    · exact ih _ (M + 1) h (fun x hx => by have := hr x hx; omega) (by omega) (by omega)
theorem wf_putR {s : List Blk} {l : Int} {ks bs : List Int} (h : WfS s) (hr : RefsB s 1000000) (hx : WfB ⟨1, l, ks, bs⟩) : WfS (putR s l ks bs).1 := by
  unfold putR
  split
  · exact h
  · rename_i hf
    split
    · exact h
    · have hk4 := (form_kids s l ks bs (by simpa using hf)).1
      refine wf_bump ks _ 1000000 (wf_set h _ _ hx) (fun x hx => ?_) (by omega) (by omega)
      rcases List.mem_or_eq_of_mem_set hx with h1 | h1
      · exact hr x h1
      · rw [h1]; simp
theorem refsB_chk {s : List Blk} (h : checkE s = 0) : RefsB s 1000000 := fun x hx => by
  have := (checkE_zero s h).2.2.2.1 x hx
  omega
theorem same_yes (w : World) (ao bo : Option Addr) (n cap m cap' : Nat) (s : List Blk) (hn : s.length = n) (hm : s.length = m) (h63 : n ≤ 1152921504606846976) (hs : StoRow w ao s) (ht : StoRow w bo s) (ws : WfS s) :
    Calls Try.prog 37 #[.agg #[.slice ao n cap], .agg #[.slice bo m cap']] w fun e w' => e = .returned (.bool true) ∧ Below w.heap.size w w' := by
  have h := sameStore_any w ao bo n cap m cap' s s hn hm h63 (by omega) hs ht ws ws
  rwa [sameS_self] at h
theorem StoRow.keep2 {w w' : World} {ao : Option Addr} {s : List Blk} {pb : Nat} {a : Option Addr} {n c : Nat} {t : TypeId} (h : StoRow w ao s) (hp : w.heap[pb]? = some (.cells #[.slice a n c] t (0, 0))) (hk : ∀ b, b < w.heap.size → b ≠ pb → w'.heap[b]? = w.heap[b]?) : StoRow w' ao s := by
  have one : ∀ {b o : Nat} {v : Value}, w.cell? ⟨b, o, none⟩ = some v → b ≠ pb → w'.cell? ⟨b, o, none⟩ = some v := by
    intro b o v hc hne
    rw [World.cell?_of_block (w := w) (hk b (World.block_lt_of_cell? _ _ hc) hne)]; exact hc
  have sl : ∀ {k : IntKind} {v : Value} {xs : List Int}, Sl k w v xs → Sl k w' v xs := by
    rintro k v xs ⟨ao, cap, h1, h2, h3⟩
    refine ⟨ao, cap, h1, ?_, h3⟩
    rcases h2 with h2 | ⟨b, o, rfl, hc⟩
    · exact .inl h2
    · exact .inr ⟨b, o, rfl, fun i hi => one (hc i hi) (cell_not_box (hc i hi) hp)⟩
  rcases h with h | ⟨b, o, rfl, h⟩
  · exact .inl h
  · refine .inr ⟨b, o, rfl, fun i hi => ?_⟩
    have hB := h i hi
    have hne := cell_not_box hB.refs hp
    obtain ⟨v, h1, h2⟩ := hB.kids
    obtain ⟨x, h3, h4⟩ := hB.bytes
    exact ⟨one hB.refs hne, one hB.level hne, ⟨v, one h1 hne, sl h2⟩, ⟨x, one h3 hne, sl h4⟩⟩
theorem letting_one {s : List Blk} (hc : checkE s = 0) (k : Nat) (ho : 0 < outA s k) : Letting s ((k : Int) + 1) := by
  intro j hj
  have := out_nn hc j hj
  by_cases e : j = k
  · subst e; simp; omega
  · rw [List.count_cons_of_ne (by omega)]; simpa using this
theorem wf_nil : WfS [] := fun x hx => by cases hx
theorem none_yes (w : World) (ao bo : Option Addr) (n cap m cap' : Nat) (hn : ([] : List Blk).length = n) (hm : ([] : List Blk).length = m) :
    Calls Try.prog 37 #[.agg #[.slice ao n cap], .agg #[.slice bo m cap']] w fun e w' => e = .returned (.bool true) ∧ Below w.heap.size w w' :=
  same_yes w ao bo n cap m cap' [] hn hm (by simp at hn; omega) (.inl rfl) (.inl rfl) wf_nil

set_option maxRecDepth 100000 in
set_option maxHeartbeats 8000000 in
theorem law_makes_bad (w : World) (ao ka ba : Option Addr) (n cap nk kc nb bc : Nat) (s : List Blk) (r0 l a : Int) (ks bs : List Int) (hn : s.length = n) (h41 : n ≤ 2199023255552) (hs : StoRow w ao s) (hwf : WfS s) (hc : Capd ao n cap)
    (hk : ks.length = nk) (hb : bs.length = nb) (hkr : Row .i64 w ka ks) (hbr : Row .u8 w ba bs) (hka : Capd ka nk kc) (hba : Capd ba nb bc) (hwb : WfB ⟨r0, l, ks, bs⟩) (hnk : nk ≤ 17592186044416) (hnb : nb ≤ 140737488351232) (hce : checkE s ≠ 0) :
    Calls Try.prog 8 #[.agg #[.slice ao n cap], .agg #[.int .i64 r0, .int .i64 l, .slice ka nk kc, .slice ba nb bc], .int .i64 a] w fun e w' => e = .returned (.bool true) ∧ Below w.heap.size w w' := by
  obtain ⟨mL, hmr, hml⟩ : ∃ mL : List Blk, makeR s l ks bs = (mL, 0, checkE s) ∧ mL.length = 0 := ⟨[], by unfold makeR; rw [if_pos hce], rfl⟩
  obtain ⟨hL, hhr, hhl⟩ : ∃ hL : List Blk, keepR s a = (hL, checkE s) ∧ hL.length = 0 := ⟨[], by unfold keepR; rw [if_pos hce], rfl⟩
  obtain ⟨dL, hdr, hdl⟩ : ∃ dL : List Blk, dropR s a = (dL, checkE s) ∧ dL.length = 0 := ⟨[], by unfold dropR; rw [if_pos hce], rfl⟩
  have he1 : (checkE s != 0) = true := by rw [bne_iff_ne]; exact hce
  have he0 : (checkE s == 0) = false := by rw [beq_eq_false_iff_ne]; exact hce
  replace hml := Lib.hid hml
  replace hhl := Lib.hid hhl
  replace hdl := Lib.hid hdl
  clear hce
  have HN := Lib.hid hn
  have HC := Lib.hid hc
  have HK := Lib.hid hk
  have HB := Lib.hid hb
  have HNK := Lib.hid hnk
  have HNB := Lib.hid hnb
  have HKA := Lib.hid hka
  have HBA := Lib.hid hba
  have hs0 := hs
  have hn63 : n ≤ 1152921504606846976 := by omega
  have hkw := hwb.kids
  clear hn hc hk hb hnk hnb hka hba hs
  have hbw : Below w.heap.size w ((w.alloc (.cells #[.slice ao n cap] 40)).alloc (.cells #[.int .i64 r0, .int .i64 l, .slice ka nk kc, .slice ba nb bc] 50)) := ((Below.refl _ _).alloc (Nat.le_refl _) _).alloc (by simp) _
  have p3 : ((w.alloc (.cells #[.slice ao n cap] 40)).alloc (.cells #[.int .i64 r0, .int .i64 l, .slice ka nk kc, .slice ba nb bc] 50)).heap[w.heap.size]? = some (.cells #[.slice ao n cap] 40 (0, 0)) := heap_alloc2_old _ _ _
  have p4 : ((w.alloc (.cells #[.slice ao n cap] 40)).alloc (.cells #[.int .i64 r0, .int .i64 l, .slice ka nk kc, .slice ba nb bc] 50)).heap[w.heap.size + 1]? = some (.cells #[.int .i64 r0, .int .i64 l, .slice ka nk kc, .slice ba nb bc] 50 (0, 0)) := heap_alloc2_new _ _ _
  go_enter Try.func8, Try.ntmps8
  go_wp2_with fail
  generalize (w.alloc (Obj.cells #[Value.slice ao n cap] 40)).alloc (Obj.cells #[Value.int .i64 r0, Value.int .i64 l, Value.slice ka nk kc, Value.slice ba nb bc] 50) = W0 at *
  have hs := hs0.mono hbw
  refine (ownStore_any _ _ _ _ s HN.out h41 hs hwf).mono ?_
  rintro e w1 ⟨v, rfl, ho, hb1⟩
  replace p3 := (hb1.block _ (lt_heap p3)).trans p3
  replace p4 := (hb1.block _ (lt_heap p4)).trans p4
  replace hbw := below_step hbw hb1
  obtain ⟨a1, c1, hv, hcd1, hs1⟩ := ho.sto
  rw [HN.out] at hv hcd1
  subst hv
  clear ho
  have e0 := cell_of_block p4 0
  have e1 := cell_of_block p4 1
  have e2 := cell_of_block p4 2
  have e3 := cell_of_block p4 3
  simp at e0 e1 e2 e3
  have e4 := lt_heap p4
  go_wp2_with fail
  clear e0 e1 e2 e3 e4
  have hA : Below w1.heap.size w1 (w1.alloc (.cells #[.slice a1 n c1] 40)) := (Below.refl _ _).alloc (Nat.le_refl _) _
  have p7 : (w1.alloc (.cells #[.slice a1 n c1] 40)).heap[w1.heap.size]? = some (.cells #[.slice a1 n c1] 40 (0, 0)) := heap_alloc_new _ _
  replace p3 := (hA.block _ (lt_heap p3)).trans p3
  replace p4 := (hA.block _ (lt_heap p4)).trans p4
  replace hs1 := hs1.mono hA
  replace hbw := below_step hbw hA
  generalize w1.alloc (Obj.cells #[Value.slice a1 n c1] 40) = W1 at *
  clear hA
  have HM := make_any W1 a1 ka ba n c1 nk kc nb bc s r0 l ks bs HN.out hn63 hs1 hwf hcd1 HK.out HB.out (hkr.mono hbw) (hbr.mono hbw) HKA.out HBA.out hkw HNK.out HNB.out
  rw [hmr] at HM
  refine HM.mono ?_
  rintro e w2 ⟨v2, rfl, ho, hb2⟩
  clear HM
  replace p3 := (hb2.block _ (lt_heap p3)).trans p3
  replace p4 := (hb2.block _ (lt_heap p4)).trans p4
  replace p7 := (hb2.block _ (lt_heap p7)).trans p7
  replace hs1 := hs1.mono hb2
  replace hbw := below_step hbw hb2
  obtain ⟨am, cm, hv, hcm, hsm⟩ := ho.sto
  rw [hml.out] at hv hcm
  subst hv
  clear ho
  have cp7 := cell_of_one p7
  have lp7 := lt_heap p7
  go_wp2_with fail
  clear cp7 lp7
  have hA : Below w2.heap.size w2 (w2.alloc (.cells #[.slice am 0 cm] 40)) := (Below.refl _ _).alloc (Nat.le_refl _) _
  have p8 : (w2.alloc (.cells #[.slice am 0 cm] 40)).heap[w2.heap.size]? = some (.cells #[.slice am 0 cm] 40 (0, 0)) := heap_alloc_new _ _
  replace p3 := (hA.block _ (lt_heap p3)).trans p3
  replace p4 := (hA.block _ (lt_heap p4)).trans p4
  replace p7 := (hA.block _ (lt_heap p7)).trans p7
  replace hs1 := hs1.mono hA
  replace hsm := hsm.mono hA
  replace hbw := below_step hbw hA
  generalize w2.alloc (Obj.cells #[Value.slice am 0 cm] 40) = W2 at *
  clear hA
  have HM := keep_any W2 a1 n c1 s a HN.out hn63 hs1 hwf hcd1
  rw [hhr] at HM
  refine HM.mono ?_
  rintro e w3 ⟨v3, rfl, ho, hb3⟩
  clear HM
  replace p3 := (hb3.block _ (lt_heap p3)).trans p3
  replace p4 := (hb3.block _ (lt_heap p4)).trans p4
  replace p7 := (hb3.block _ (lt_heap p7)).trans p7
  replace p8 := (hb3.block _ (lt_heap p8)).trans p8
  replace hs1 := hs1.mono hb3
  replace hsm := hsm.mono hb3
  replace hbw := below_step hbw hb3
  obtain ⟨ah, ch, hv, hch, hsh⟩ := ho.sto
  rw [hhl.out] at hv hch
  subst hv
  clear ho
  have cp7 := cell_of_one p7
  have lp7 := lt_heap p7
  go_wp2_with fail
  clear cp7 lp7
  have hA : Below w3.heap.size w3 (w3.alloc (.cells #[.slice ah 0 ch] 40)) := (Below.refl _ _).alloc (Nat.le_refl _) _
  have p11 : (w3.alloc (.cells #[.slice ah 0 ch] 40)).heap[w3.heap.size]? = some (.cells #[.slice ah 0 ch] 40 (0, 0)) := heap_alloc_new _ _
  replace p3 := (hA.block _ (lt_heap p3)).trans p3
  replace p4 := (hA.block _ (lt_heap p4)).trans p4
  replace p7 := (hA.block _ (lt_heap p7)).trans p7
  replace p8 := (hA.block _ (lt_heap p8)).trans p8
  replace hs1 := hs1.mono hA
  replace hsm := hsm.mono hA
  replace hsh := hsh.mono hA
  replace hbw := below_step hbw hA
  generalize w3.alloc (Obj.cells #[Value.slice ah 0 ch] 40) = W3 at *
  clear hA
  have HM := drop_any W3 a1 n c1 s a HN.out hn63 hs1 hwf hcd1
  rw [hdr] at HM
  refine HM.mono ?_
  rintro e w4 ⟨v4, rfl, ho, hb4⟩
  clear HM
  replace p3 := (hb4.block _ (lt_heap p3)).trans p3
  replace p4 := (hb4.block _ (lt_heap p4)).trans p4
  replace p7 := (hb4.block _ (lt_heap p7)).trans p7
  replace p8 := (hb4.block _ (lt_heap p8)).trans p8
  replace p11 := (hb4.block _ (lt_heap p11)).trans p11
  replace hs1 := hs1.mono hb4
  replace hsm := hsm.mono hb4
  replace hsh := hsh.mono hb4
  replace hbw := below_step hbw hb4
  obtain ⟨ad, cd, hv, hcd, hsd⟩ := ho.sto
  rw [hdl.out] at hv hcd
  subst hv
  clear ho
  have cp3 := cell_of_one p3
  have lp3 := lt_heap p3
  go_wp2_with fail
  clear cp3 lp3
  have p13 : (w4.alloc (.cells #[.slice ad 0 cd] 40)).heap[w4.heap.size]? = some (.cells #[.slice ad 0 cd] 40 (0, 0)) := heap_alloc_new _ _
  have hA : Below w4.heap.size w4 (w4.alloc (.cells #[.slice ad 0 cd] 40)) := (Below.refl _ _).alloc (Nat.le_refl _) _
  replace p3 := (hA.block _ (lt_heap p3)).trans p3
  replace p4 := (hA.block _ (lt_heap p4)).trans p4
  replace p7 := (hA.block _ (lt_heap p7)).trans p7
  replace p8 := (hA.block _ (lt_heap p8)).trans p8
  replace p11 := (hA.block _ (lt_heap p11)).trans p11
  replace hs1 := hs1.mono hA
  replace hsm := hsm.mono hA
  replace hsh := hsh.mono hA
  replace hsd := hsd.mono hA
  replace hbw := below_step hbw hA
  clear hA
  have hz13 : (w4.alloc (.cells #[.slice ad 0 cd] 40)).heap.size = w4.heap.size + 1 := by simp
  generalize w4.alloc (Obj.cells #[Value.slice ad 0 cd] 40) = W4 at *
  have p15 : (W4.alloc (.cells #[.slice none 0 0] 40)).heap[w4.heap.size + 1]? = some (.cells #[.slice none 0 0] 40 (0, 0)) := by rw [← hz13]; exact heap_alloc_new _ _
  have hA : Below W4.heap.size W4 (W4.alloc (.cells #[.slice none 0 0] 40)) := (Below.refl _ _).alloc (Nat.le_refl _) _
  replace p3 := (hA.block _ (lt_heap p3)).trans p3
  replace p4 := (hA.block _ (lt_heap p4)).trans p4
  replace p7 := (hA.block _ (lt_heap p7)).trans p7
  replace p8 := (hA.block _ (lt_heap p8)).trans p8
  replace p11 := (hA.block _ (lt_heap p11)).trans p11
  replace p13 := (hA.block _ (lt_heap p13)).trans p13
  replace hs1 := hs1.mono hA
  replace hsm := hsm.mono hA
  replace hsh := hsh.mono hA
  replace hsd := hsd.mono hA
  replace hbw := below_step hbw hA
  clear hA hz13
  generalize W4.alloc (Obj.cells #[Value.slice none 0 0] 40) = W5 at *
  have hs := hs0.mono hbw
  refine (checkStore_any _ _ _ _ s HN.out hn63 hs hwf).mono ?_
  rintro e w5 ⟨rfl, hb5⟩
  replace p3 := (hb5.block _ (lt_heap p3)).trans p3
  replace p4 := (hb5.block _ (lt_heap p4)).trans p4
  replace p7 := (hb5.block _ (lt_heap p7)).trans p7
  replace p8 := (hb5.block _ (lt_heap p8)).trans p8
  replace p11 := (hb5.block _ (lt_heap p11)).trans p11
  replace p13 := (hb5.block _ (lt_heap p13)).trans p13
  replace p15 := (hb5.block _ (lt_heap p15)).trans p15
  replace hs1 := hs1.mono hb5
  replace hsm := hsm.mono hb5
  replace hsh := hsh.mono hb5
  replace hsd := hsd.mono hb5
  replace hbw := below_step hbw hb5
  go_wp2_with fail
  refine (stored_any w5).mono ?_
  rintro e w6 ⟨rfl, hb6⟩
  replace p3 := (hb6.block _ (lt_heap p3)).trans p3
  replace p4 := (hb6.block _ (lt_heap p4)).trans p4
  replace p7 := (hb6.block _ (lt_heap p7)).trans p7
  replace p8 := (hb6.block _ (lt_heap p8)).trans p8
  replace p11 := (hb6.block _ (lt_heap p11)).trans p11
  replace p13 := (hb6.block _ (lt_heap p13)).trans p13
  replace p15 := (hb6.block _ (lt_heap p15)).trans p15
  replace hs1 := hs1.mono hb6
  replace hsm := hsm.mono hb6
  replace hsh := hsh.mono hb6
  replace hsd := hsd.mono hb6
  replace hbw := below_step hbw hb6
  have cp3 := cell_of_one p3
  have lp3 := lt_heap p3
  have cp7 := cell_of_one p7
  have lp7 := lt_heap p7
  have hs := hs0.mono hbw
  go_wp2_with fail
  clear cp3 lp3 cp7 lp7
  refine (same_yes _ _ _ _ _ _ _ s HN.out HN.out hn63 hs1 hs hwf).mono ?_
  rintro e w7 ⟨rfl, hb7⟩
  replace p3 := (hb7.block _ (lt_heap p3)).trans p3
  replace p4 := (hb7.block _ (lt_heap p4)).trans p4
  replace p7 := (hb7.block _ (lt_heap p7)).trans p7
  replace p8 := (hb7.block _ (lt_heap p8)).trans p8
  replace p11 := (hb7.block _ (lt_heap p11)).trans p11
  replace p13 := (hb7.block _ (lt_heap p13)).trans p13
  replace p15 := (hb7.block _ (lt_heap p15)).trans p15
  replace hsm := hsm.mono hb7
  replace hsh := hsh.mono hb7
  replace hsd := hsd.mono hb7
  replace hbw := below_step hbw hb7
  clear hs1 hs p7 hb1 hb2 hb3 hb4 hb5 hb6 hb7
  obtain rfl := List.eq_nil_of_length_eq_zero hml.out
  obtain rfl := List.eq_nil_of_length_eq_zero hhl.out
  obtain rfl := List.eq_nil_of_length_eq_zero hdl.out
  generalize checkE s = ce at *
  have cp8 := cell_of_one p8
  have lp8 := lt_heap p8
  have cp15 := cell_of_one p15
  have lp15 := lt_heap p15
  go_wp2_with fail
  clear cp8 lp8 cp15 lp15
  refine (none_yes _ _ _ _ _ _ _ rfl rfl).mono ?_
  rintro e w8 ⟨rfl, hb8⟩
  replace p11 := (hb8.block _ (lt_heap p11)).trans p11
  replace p13 := (hb8.block _ (lt_heap p13)).trans p13
  replace p15 := (hb8.block _ (lt_heap p15)).trans p15
  replace hbw := below_step hbw hb8
  have cp11 := cell_of_one p11
  have lp11 := lt_heap p11
  have cp15 := cell_of_one p15
  have lp15 := lt_heap p15
  go_wp2_with fail
  clear cp11 lp11 cp15 lp15
  refine (none_yes _ _ _ _ _ _ _ rfl rfl).mono ?_
  rintro e w9 ⟨rfl, hb9⟩
  replace p13 := (hb9.block _ (lt_heap p13)).trans p13
  replace p15 := (hb9.block _ (lt_heap p15)).trans p15
  replace hbw := below_step hbw hb9
  have cp13 := cell_of_one p13
  have lp13 := lt_heap p13
  have cp15 := cell_of_one p15
  have lp15 := lt_heap p15
  go_wp2_with fail
  clear cp13 lp13 cp15 lp15
  refine (none_yes _ _ _ _ _ _ _ rfl rfl).mono ?_
  rintro e w10 ⟨rfl, hb10⟩
  have hbw := below_step hbw hb10
  go_wp2
  go_ret
  exact ⟨rfl, hbw⟩
  
set_option maxRecDepth 100000 in
set_option maxHeartbeats 8000000 in
theorem law_makes_ok (w : World) (ao ka ba : Option Addr) (n cap nk kc nb bc : Nat) (s : List Blk) (r0 l a : Int) (ks bs : List Int) (hn : s.length = n) (h41 : n ≤ 2199023255552) (hs : StoRow w ao s) (hwf : WfS s) (hc : Capd ao n cap)
    (hk : ks.length = nk) (hb : bs.length = nb) (hkr : Row .i64 w ka ks) (hbr : Row .u8 w ba bs) (hka : Capd ka nk kc) (hba : Capd ba nb bc) (hwb : WfB ⟨r0, l, ks, bs⟩) (hnk : nk ≤ 17592186044416) (hnb : nb ≤ 140737488351232) (hce : checkE s = 0) :
    Calls Try.prog 8 #[.agg #[.slice ao n cap], .agg #[.int .i64 r0, .int .i64 l, .slice ka nk kc, .slice ba nb bc], .int .i64 a] w fun e w' => e = .returned (.bool true) ∧ Below w.heap.size w w' := by
  obtain ⟨mL, mk, me, hmr, hmf⟩ : ∃ mL mk me, makeR s l ks bs = (mL, mk, me) ∧ (((putR s l ks bs).2.2 ≠ 0 ∧ mL = [] ∧ mk = 0 ∧ me = (putR s l ks bs).2.2) ∨ ((putR s l ks bs).2.2 = 0 ∧ mL = (putR s l ks bs).1 ∧ mk = (putR s l ks bs).2.1 ∧ me = 0)) := by
    by_cases hp : (putR s l ks bs).2.2 = 0
    · exact ⟨_, _, _, by unfold makeR; rw [if_neg (by simp [hce]), if_neg (by simp [hp])], .inr ⟨hp, rfl, rfl, hp⟩⟩
    · exact ⟨_, _, _, by unfold makeR; rw [if_neg (by simp [hce]), if_pos hp], .inl ⟨hp, rfl, rfl, rfl⟩⟩
  obtain ⟨hL, he, dL, de, hhr, hdr, hf⟩ : ∃ hL he dL de, keepR s a = (hL, he) ∧ dropR s a = (dL, de) ∧ ((thereB s a = false ∧ hL = [] ∧ he = 5 ∧ dL = [] ∧ de = 5) ∨ (thereB s a = true ∧ hL = addRef s a 1 ∧ he = 0 ∧ outA s (a - 1).toNat = 0 ∧ dL = [] ∧ de = 7) ∨ (thereB s a = true ∧ hL = addRef s a 1 ∧ he = 0 ∧ outA s (a - 1).toNat ≠ 0 ∧ dL = looseF 4 s a ∧ de = 0)) := by
    cases ht : thereB s a with
    | false => exact ⟨[], 5, [], 5, by unfold keepR; rw [if_neg (by simp [hce]), if_pos ht], by unfold dropR; rw [if_neg (by simp [hce]), if_pos ht], .inl ⟨rfl, rfl, rfl, rfl, rfl⟩⟩
    | true =>
      obtain ⟨g1, g2, g3⟩ := there_ref ht
      by_cases hout : outA s (a - 1).toNat = 0
      · exact ⟨_, _, [], 7, by unfold keepR; rw [if_neg (by simp [hce]), if_neg (by simp [ht])], by unfold dropR; rw [if_neg (by simp [hce]), if_neg (by simp [ht]), if_pos (by rw [outL_get a g1 g2]; exact hout)], .inr (.inl ⟨rfl, rfl, rfl, hout, rfl, rfl⟩)⟩
      · exact ⟨_, _, _, _, by unfold keepR; rw [if_neg (by simp [hce]), if_neg (by simp [ht])], by unfold dropR; rw [if_neg (by simp [hce]), if_neg (by simp [ht]), if_neg (by rw [outL_get a g1 g2]; exact hout)], .inr (.inr ⟨rfl, rfl, rfl, hout, rfl, rfl⟩)⟩
  obtain ⟨nm, hml⟩ : ∃ nm, mL.length = nm := ⟨_, rfl⟩
  obtain ⟨nh, hhl⟩ : ∃ nh, hL.length = nh := ⟨_, rfl⟩
  obtain ⟨nd, hdl⟩ : ∃ nd, dL.length = nd := ⟨_, rfl⟩
  replace hml := Lib.hid hml
  replace hhl := Lib.hid hhl
  replace hdl := Lib.hid hdl
  have h400 : n ≤ 400 := by have := (checkE_zero s hce).1; omega
  have hrb := refsB_chk hce
  have hrb9 : RefsB s 1000000000 := fun x hx => by have := hrb x hx; omega
  have he1 : (checkE s != 0) = false := by rw [hce]; rfl
  have he0 : (checkE s == 0) = true := by rw [hce]; rfl
  have HCE := Lib.hid hce
  have HF := Lib.hid hf
  have HMF := Lib.hid hmf
  clear hce hf hmf
  have HN := Lib.hid hn
  have HC := Lib.hid hc
  have HK := Lib.hid hk
  have HB := Lib.hid hb
  have HNK := Lib.hid hnk
  have HNB := Lib.hid hnb
  have HKA := Lib.hid hka
  have HBA := Lib.hid hba
  have hs0 := hs
  have hn63 : n ≤ 1152921504606846976 := by omega
  have hkw := hwb.kids
  clear hn hc hk hb hnk hnb hka hba hs
  have hbw : Below w.heap.size w ((w.alloc (.cells #[.slice ao n cap] 40)).alloc (.cells #[.int .i64 r0, .int .i64 l, .slice ka nk kc, .slice ba nb bc] 50)) := ((Below.refl _ _).alloc (Nat.le_refl _) _).alloc (by simp) _
  have p3 : ((w.alloc (.cells #[.slice ao n cap] 40)).alloc (.cells #[.int .i64 r0, .int .i64 l, .slice ka nk kc, .slice ba nb bc] 50)).heap[w.heap.size]? = some (.cells #[.slice ao n cap] 40 (0, 0)) := heap_alloc2_old _ _ _
  have p4 : ((w.alloc (.cells #[.slice ao n cap] 40)).alloc (.cells #[.int .i64 r0, .int .i64 l, .slice ka nk kc, .slice ba nb bc] 50)).heap[w.heap.size + 1]? = some (.cells #[.int .i64 r0, .int .i64 l, .slice ka nk kc, .slice ba nb bc] 50 (0, 0)) := heap_alloc2_new _ _ _
  go_enter Try.func8, Try.ntmps8
  go_wp2_with fail
  generalize (w.alloc (Obj.cells #[Value.slice ao n cap] 40)).alloc (Obj.cells #[Value.int .i64 r0, Value.int .i64 l, Value.slice ka nk kc, Value.slice ba nb bc] 50) = W0 at *
  have hs := hs0.mono hbw
  refine (ownStore_any _ _ _ _ s HN.out h41 hs hwf).mono ?_
  rintro e w1 ⟨v, rfl, ho, hb1⟩
  replace p3 := (hb1.block _ (lt_heap p3)).trans p3
  replace p4 := (hb1.block _ (lt_heap p4)).trans p4
  replace hbw := below_step hbw hb1
  obtain ⟨a1, c1, hv, hcd1, hs1⟩ := ho.sto
  rw [HN.out] at hv hcd1
  subst hv
  clear ho
  have e0 := cell_of_block p4 0
  have e1 := cell_of_block p4 1
  have e2 := cell_of_block p4 2
  have e3 := cell_of_block p4 3
  simp at e0 e1 e2 e3
  have e4 := lt_heap p4
  go_wp2_with fail
  clear e0 e1 e2 e3 e4
  have hA : Below w1.heap.size w1 (w1.alloc (.cells #[.slice a1 n c1] 40)) := (Below.refl _ _).alloc (Nat.le_refl _) _
  have p7 : (w1.alloc (.cells #[.slice a1 n c1] 40)).heap[w1.heap.size]? = some (.cells #[.slice a1 n c1] 40 (0, 0)) := heap_alloc_new _ _
  replace p3 := (hA.block _ (lt_heap p3)).trans p3
  replace p4 := (hA.block _ (lt_heap p4)).trans p4
  replace hs1 := hs1.mono hA
  replace hbw := below_step hbw hA
  generalize w1.alloc (Obj.cells #[Value.slice a1 n c1] 40) = W1 at *
  clear hA
  have HM := make_any W1 a1 ka ba n c1 nk kc nb bc s r0 l ks bs HN.out hn63 hs1 hwf hcd1 HK.out HB.out (hkr.mono hbw) (hbr.mono hbw) HKA.out HBA.out hkw HNK.out HNB.out
  rw [hmr] at HM
  refine HM.mono ?_
  rintro e w2 ⟨v2, rfl, ho, hb2⟩
  clear HM
  replace p3 := (hb2.block _ (lt_heap p3)).trans p3
  replace p4 := (hb2.block _ (lt_heap p4)).trans p4
  replace p7 := (hb2.block _ (lt_heap p7)).trans p7
  replace hs1 := hs1.mono hb2
  replace hbw := below_step hbw hb2
  obtain ⟨am, cm, hv, hcm, hsm⟩ := ho.sto
  rw [hml.out] at hv hcm
  subst hv
  clear ho
  have cp7 := cell_of_one p7
  have lp7 := lt_heap p7
  go_wp2_with fail
  clear cp7 lp7
  have hA : Below w2.heap.size w2 (w2.alloc (.cells #[.slice am nm cm] 40)) := (Below.refl _ _).alloc (Nat.le_refl _) _
  have p8 : (w2.alloc (.cells #[.slice am nm cm] 40)).heap[w2.heap.size]? = some (.cells #[.slice am nm cm] 40 (0, 0)) := heap_alloc_new _ _
  replace p3 := (hA.block _ (lt_heap p3)).trans p3
  replace p4 := (hA.block _ (lt_heap p4)).trans p4
  replace p7 := (hA.block _ (lt_heap p7)).trans p7
  replace hs1 := hs1.mono hA
  replace hsm := hsm.mono hA
  replace hbw := below_step hbw hA
  generalize w2.alloc (Obj.cells #[Value.slice am nm cm] 40) = W2 at *
  clear hA
  have HM := keep_any W2 a1 n c1 s a HN.out hn63 hs1 hwf hcd1
  rw [hhr] at HM
  refine HM.mono ?_
  rintro e w3 ⟨v3, rfl, ho, hb3⟩
  clear HM
  replace p3 := (hb3.block _ (lt_heap p3)).trans p3
  replace p4 := (hb3.block _ (lt_heap p4)).trans p4
  replace p7 := (hb3.block _ (lt_heap p7)).trans p7
  replace p8 := (hb3.block _ (lt_heap p8)).trans p8
  replace hs1 := hs1.mono hb3
  replace hsm := hsm.mono hb3
  replace hbw := below_step hbw hb3
  obtain ⟨ah, ch, hv, hch, hsh⟩ := ho.sto
  rw [hhl.out] at hv hch
  subst hv
  clear ho
  have cp7 := cell_of_one p7
  have lp7 := lt_heap p7
  go_wp2_with fail
  clear cp7 lp7
  have hA : Below w3.heap.size w3 (w3.alloc (.cells #[.slice ah nh ch] 40)) := (Below.refl _ _).alloc (Nat.le_refl _) _
  have p11 : (w3.alloc (.cells #[.slice ah nh ch] 40)).heap[w3.heap.size]? = some (.cells #[.slice ah nh ch] 40 (0, 0)) := heap_alloc_new _ _
  replace p3 := (hA.block _ (lt_heap p3)).trans p3
  replace p4 := (hA.block _ (lt_heap p4)).trans p4
  replace p7 := (hA.block _ (lt_heap p7)).trans p7
  replace p8 := (hA.block _ (lt_heap p8)).trans p8
  replace hs1 := hs1.mono hA
  replace hsm := hsm.mono hA
  replace hsh := hsh.mono hA
  replace hbw := below_step hbw hA
  generalize w3.alloc (Obj.cells #[Value.slice ah nh ch] 40) = W3 at *
  clear hA
  have HM := drop_any W3 a1 n c1 s a HN.out hn63 hs1 hwf hcd1
  rw [hdr] at HM
  refine HM.mono ?_
  rintro e w4 ⟨v4, rfl, ho, hb4⟩
  clear HM
  replace p3 := (hb4.block _ (lt_heap p3)).trans p3
  replace p4 := (hb4.block _ (lt_heap p4)).trans p4
  replace p7 := (hb4.block _ (lt_heap p7)).trans p7
  replace p8 := (hb4.block _ (lt_heap p8)).trans p8
  replace p11 := (hb4.block _ (lt_heap p11)).trans p11
  replace hs1 := hs1.mono hb4
  replace hsm := hsm.mono hb4
  replace hsh := hsh.mono hb4
  replace hbw := below_step hbw hb4
  obtain ⟨ad, cd, hv, hcd, hsd⟩ := ho.sto
  rw [hdl.out] at hv hcd
  subst hv
  clear ho
  have cp3 := cell_of_one p3
  have lp3 := lt_heap p3
  go_wp2_with fail
  clear cp3 lp3
  have p13 : (w4.alloc (.cells #[.slice ad nd cd] 40)).heap[w4.heap.size]? = some (.cells #[.slice ad nd cd] 40 (0, 0)) := heap_alloc_new _ _
  have hA : Below w4.heap.size w4 (w4.alloc (.cells #[.slice ad nd cd] 40)) := (Below.refl _ _).alloc (Nat.le_refl _) _
  replace p3 := (hA.block _ (lt_heap p3)).trans p3
  replace p4 := (hA.block _ (lt_heap p4)).trans p4
  replace p7 := (hA.block _ (lt_heap p7)).trans p7
  replace p8 := (hA.block _ (lt_heap p8)).trans p8
  replace p11 := (hA.block _ (lt_heap p11)).trans p11
  replace hs1 := hs1.mono hA
  replace hsm := hsm.mono hA
  replace hsh := hsh.mono hA
  replace hsd := hsd.mono hA
  replace hbw := below_step hbw hA
  clear hA
  have hz13 : (w4.alloc (.cells #[.slice ad nd cd] 40)).heap.size = w4.heap.size + 1 := by simp
  generalize w4.alloc (Obj.cells #[Value.slice ad nd cd] 40) = W4 at *
  have p15 : (W4.alloc (.cells #[.slice none 0 0] 40)).heap[w4.heap.size + 1]? = some (.cells #[.slice none 0 0] 40 (0, 0)) := by rw [← hz13]; exact heap_alloc_new _ _
  have hA : Below W4.heap.size W4 (W4.alloc (.cells #[.slice none 0 0] 40)) := (Below.refl _ _).alloc (Nat.le_refl _) _
  replace p3 := (hA.block _ (lt_heap p3)).trans p3
  replace p4 := (hA.block _ (lt_heap p4)).trans p4
  replace p7 := (hA.block _ (lt_heap p7)).trans p7
  replace p8 := (hA.block _ (lt_heap p8)).trans p8
  replace p11 := (hA.block _ (lt_heap p11)).trans p11
  replace p13 := (hA.block _ (lt_heap p13)).trans p13
  replace hs1 := hs1.mono hA
  replace hsm := hsm.mono hA
  replace hsh := hsh.mono hA
  replace hsd := hsd.mono hA
  replace hbw := below_step hbw hA
  clear hA hz13
  generalize W4.alloc (Obj.cells #[Value.slice none 0 0] 40) = W5 at *
  have hs := hs0.mono hbw
  refine (checkStore_any _ _ _ _ s HN.out hn63 hs hwf).mono ?_
  rintro e w5 ⟨rfl, hb5⟩
  replace p3 := (hb5.block _ (lt_heap p3)).trans p3
  replace p4 := (hb5.block _ (lt_heap p4)).trans p4
  replace p7 := (hb5.block _ (lt_heap p7)).trans p7
  replace p8 := (hb5.block _ (lt_heap p8)).trans p8
  replace p11 := (hb5.block _ (lt_heap p11)).trans p11
  replace p13 := (hb5.block _ (lt_heap p13)).trans p13
  replace p15 := (hb5.block _ (lt_heap p15)).trans p15
  replace hs1 := hs1.mono hb5
  replace hsm := hsm.mono hb5
  replace hsh := hsh.mono hb5
  replace hsd := hsd.mono hb5
  replace hbw := below_step hbw hb5
  go_wp2_with fail
  refine (stored_any w5).mono ?_
  rintro e w6 ⟨rfl, hb6⟩
  replace p3 := (hb6.block _ (lt_heap p3)).trans p3
  replace p4 := (hb6.block _ (lt_heap p4)).trans p4
  replace p7 := (hb6.block _ (lt_heap p7)).trans p7
  replace p8 := (hb6.block _ (lt_heap p8)).trans p8
  replace p11 := (hb6.block _ (lt_heap p11)).trans p11
  replace p13 := (hb6.block _ (lt_heap p13)).trans p13
  replace p15 := (hb6.block _ (lt_heap p15)).trans p15
  replace hs1 := hs1.mono hb6
  replace hsm := hsm.mono hb6
  replace hsh := hsh.mono hb6
  replace hsd := hsd.mono hb6
  replace hbw := below_step hbw hb6
  have cp3 := cell_of_one p3
  have lp3 := lt_heap p3
  have cp7 := cell_of_one p7
  have lp7 := lt_heap p7
  have hs := hs0.mono hbw
  go_wp2_with fail
  clear cp3 lp3 cp7 lp7
  refine (same_yes _ _ _ _ _ _ _ s HN.out HN.out hn63 hs1 hs hwf).mono ?_
  rintro e w7 ⟨rfl, hb7⟩
  replace p3 := (hb7.block _ (lt_heap p3)).trans p3
  replace p4 := (hb7.block _ (lt_heap p4)).trans p4
  replace p7 := (hb7.block _ (lt_heap p7)).trans p7
  replace p8 := (hb7.block _ (lt_heap p8)).trans p8
  replace p11 := (hb7.block _ (lt_heap p11)).trans p11
  replace p13 := (hb7.block _ (lt_heap p13)).trans p13
  replace p15 := (hb7.block _ (lt_heap p15)).trans p15
  replace hsm := hsm.mono hb7
  replace hsh := hsh.mono hb7
  replace hsd := hsd.mono hb7
  replace hbw := below_step hbw hb7
  clear hs1 hs p7 hb1 hb2 hb3 hb4 hb5 hb6 hb7
  have hs := hs0.mono hbw
  have cp3 := cell_of_one p3
  have lp3 := lt_heap p3
  go_wp2_with fail
  clear cp3 lp3
  refine (ownStore_any _ _ _ _ s HN.out h41 hs hwf).mono ?_
  rintro e w8 ⟨v, rfl, ho, hb8⟩
  have q4 := (hb8.block _ (lt_heap p4)).trans p4
  obtain ⟨ax, cx, hv, hcx, _⟩ := ho.sto
  rw [HN.out] at hv hcx
  subst hv
  have hgx : ∀ g, s ≠ [] → ax = some ⟨g, 0, none⟩ → w7.heap.size ≤ g ∧ g < w8.heap.size := by
    intro g hne hg
    subst hg
    obtain ⟨_, _, e1, _, e3⟩ := ho
    simp only [Value.slice.injEq] at e1
    obtain ⟨e1, _, _⟩ := e1
    rcases e3 with e3 | ⟨g2, e4, e5⟩
    · exact absurd e3 hne
    · rw [e4] at e1
      simp only [Option.some.injEq, Addr.mk.injEq] at e1
      rw [e1.1]
      exact ⟨e5.le, e5.lt⟩
  have e0 := cell_of_block q4 0
  have e1 := cell_of_block q4 1
  have e2 := cell_of_block q4 2
  have e3 := cell_of_block q4 3
  simp at e0 e1 e2 e3
  have e4 := lt_heap q4
  go_wp2_with fail
  clear e0 e1 e2 e3 e4 q4
  have p17 : (w8.alloc (.cells #[.slice ax n cx] 40)).heap[w8.heap.size]? = some (.cells #[.slice ax n cx] 40 (0, 0)) := heap_alloc_new _ _
  have hA : Below w8.heap.size w8 (w8.alloc (.cells #[.slice ax n cx] 40)) := (Below.refl _ _).alloc (Nat.le_refl _) _
  have ho := ho.mono hA
  have hbx := below_step hb8 hA
  generalize w8.alloc (Obj.cells #[Value.slice ax n cx] 40) = W8 at *
  have hbwx := below_step hbw hbx
  have n3 : w.heap.size ≠ w8.heap.size := by have := lt_heap p3; have := hb8.size; omega
  have n11 : w3.heap.size ≠ w8.heap.size := by have := lt_heap p11; have := hb8.size; omega
  have n13 : w4.heap.size ≠ w8.heap.size := by have := lt_heap p13; have := hb8.size; omega
  have n15 : w4.heap.size + 1 ≠ w8.heap.size := by have := lt_heap p15; have := hb8.size; omega
  have n17 : w.heap.size ≤ w8.heap.size := by have := hbw.size; have := hb8.size; omega
  --MK
  refine (makeIn_any W8 w8.heap.size w7.heap.size ax ka ba n cx nk kc nb bc s r0 l ks bs HN.out h400 p17 ho (fun g hn hg => by have := (hgx g hn hg).2; omega) hbx.size hwf hrb9 HK.out HB.out (fun g hn hg => (hkr.far (by have := (hgx g hn hg).1; have := hbw.size; omega)).keep fun b _ hl => hbwx.block b hl) (fun g hn hg => (hbr.far (by have := (hgx g hn hg).1; have := hbw.size; omega)).keep fun b _ hl => hbwx.block b hl) (hkr.mono hbwx) (hbr.mono hbwx) HKA.out HBA.out hkw HNK.out HNB.out).mono ?_
  rintro e w9 ⟨rfl, ho9, hb9, hfr⟩
  replace p17 := (hfr _ (lt_heap p17) (fun g hn hg => by have := (hgx g hn hg).2; omega)).trans p17
  have hball := hbx.trans hb9
  replace p3 := (hball.block _ (lt_heap p3)).trans p3
  replace p8 := (hball.block _ (lt_heap p8)).trans p8
  replace p11 := (hball.block _ (lt_heap p11)).trans p11
  replace p13 := (hball.block _ (lt_heap p13)).trans p13
  replace p15 := (hball.block _ (lt_heap p15)).trans p15
  replace hsm := hsm.mono hball
  replace hsh := hsh.mono hball
  replace hsd := hsd.mono hball
  replace hbw := below_step hbw hball
  obtain ⟨ax9, cx9, hv, _, hsx⟩ := ho9.sto
  simp only [Value.slice.injEq] at hv
  obtain ⟨rfl, hpl, rfl⟩ := hv
  replace hpl := Lib.hid hpl.symm
  clear ho9 hb8 hb9 hA hbx hball hbwx hfr ho hgx p4 hs
  have hwp := wf_putR hwf hrb (l := l) (ks := ks) (bs := bs) ⟨by unfold I64; simp only; omega, hwb.level, hwb.kids, hwb.bytes, hwb.klen, hwb.blen⟩
  rcases HMF.out with ⟨hpe, rfl, rfl, rfl⟩ | ⟨hpe, rfl, rfl, rfl⟩
  · -- err
    have hq : ((putR s l ks bs).2.2 != 0) = true := by rw [bne_iff_ne]; exact hpe
    have hq2 : ((putR s l ks bs).2.2 == 0) = false := by rw [beq_eq_false_iff_ne]; exact hpe
    have cp8 := cell_of_one p8
    have lp8 := lt_heap p8
    have cp15 := cell_of_one p15
    have lp15 := lt_heap p15
    clear hpe
    go_wp2_with fail
    clear cp8 lp8 cp15 lp15
    refine (none_yes _ _ _ _ _ _ _ hml.out rfl).mono ?_
    rintro e w10 ⟨rfl, hb10⟩
    replace p3 := (hb10.block _ (lt_heap p3)).trans p3
    replace p11 := (hb10.block _ (lt_heap p11)).trans p11
    replace p13 := (hb10.block _ (lt_heap p13)).trans p13
    replace p15 := (hb10.block _ (lt_heap p15)).trans p15
    replace p17 := (hb10.block _ (lt_heap p17)).trans p17
    replace hsh := hsh.mono hb10
    replace hsd := hsd.mono hb10
    replace hbw := below_step hbw hb10
    clear hsm hsx hwp p8 hb10 hq hq2 HMF hmr hhr hdr hpl hml
    have cp3 := cell_of_one p3
    have lp3 := lt_heap p3
    have hs := hs0.mono hbw
    go_wp2_with fail
    clear cp3 lp3
    refine (ref_there _ _ _ _ s a HN.out hn63 hs).mono ?_
    rintro e w11 ⟨rfl, hb11⟩
    replace p3 := (hb11.block _ (lt_heap p3)).trans p3
    replace p11 := (hb11.block _ (lt_heap p11)).trans p11
    replace p13 := (hb11.block _ (lt_heap p13)).trans p13
    replace p15 := (hb11.block _ (lt_heap p15)).trans p15
    replace p17 := (hb11.block _ (lt_heap p17)).trans p17
    replace hsh := hsh.mono hb11
    replace hsd := hsd.mono hb11
    replace hbw := below_step hbw hb11
    clear hs hb11
    rcases HF.out with ⟨ht, rfl, rfl, rfl, rfl⟩ | ⟨ht, rfl, rfl, hout, rfl, rfl⟩ | ⟨ht, rfl, rfl, hout, rfl, rfl⟩
    · rw [ht]
      clear HF
      have cp11 := cell_of_one p11
      have lp11 := lt_heap p11
      have cp15 := cell_of_one p15
      have lp15 := lt_heap p15
      go_wp2_with fail
      clear cp11 lp11 cp15 lp15
      refine (none_yes _ _ _ _ _ _ _ hhl.out rfl).mono ?_
      rintro e w12 ⟨rfl, hb12⟩
      replace p13 := (hb12.block _ (lt_heap p13)).trans p13
      replace p15 := (hb12.block _ (lt_heap p15)).trans p15
      replace hbw := below_step hbw hb12
      have cp13 := cell_of_one p13
      have lp13 := lt_heap p13
      have cp15 := cell_of_one p15
      have lp15 := lt_heap p15
      go_wp2_with fail
      clear cp13 lp13 cp15 lp15
      refine (none_yes _ _ _ _ _ _ _ hdl.out rfl).mono ?_
      rintro e w13 ⟨rfl, hb13⟩
      have hbw := below_step hbw hb13
      go_wp2
      go_ret
      exact ⟨rfl, hbw⟩
    · rw [ht]
      clear HF
      obtain ⟨k, hk, hak, _⟩ := there_in ht
      subst hak
      have hkn : (k : Int) < n := by have := HN.out; omega
      have hk0 : (0 : Int) ≤ k := by omega
      have hkN : k < n := by omega
      rw [show ((k : Int) + 1 - 1).toNat = k from by omega] at hout
      have cp3 := cell_of_one p3
      have lp3 := lt_heap p3
      have hs := hs0.mono hbw
      go_wp2_with fail
      clear cp3 lp3
      refine (ownStore_any _ _ _ _ s HN.out h41 hs hwf).mono ?_
      rintro e w12 ⟨v, rfl, ho, hb12⟩
      clear hs
      have hsz11 := hbw.size
      have l17 := lt_heap p17
      have p17a := p17
      replace p17 := (hb12.block _ (lt_heap p17)).trans p17
      obtain ⟨g, cx, hv, hR⟩ := ho.at k hk
      rw [HN.out] at hv
      have hcx : n ≤ cx := by
        obtain ⟨ao', cap2, e1, e2, _⟩ := ho
        rw [HN.out] at e1 e2
        rw [hv] at e1
        simp only [Value.slice.injEq] at e1
        rw [e1.2.2]; exact e2.1
      subst hv
      have hle := hR.le
      have hpg : w8.heap.size ≠ g := by omega
      have c17 := cell_of_one p17
      have l17b := lt_heap p17
      have f17 := free_of_one p17
      have hR2 := hR.box p17 hpg (.slice (some ⟨g, 0, none⟩) n cx)
      have x5 := (hR2.blks k hk).refs
      have fx := hR2.free (k * 4)
      have lg := hR2.lt
      have hrk := hrb _ (List.getElem_mem hk)
      have hr1 := hrk.1
      have hr2 := hrk.2
      have hR3 := hR2.setRefs k hk (s[k].refs + 1)
      rw [← addRef_at s k hk 1] at hR3
      have q17 := one_setCell (u := .slice (some ⟨g, 0, none⟩) n cx) p17
      have d17 := cell_of_one q17
      have hkp : ∀ b, b < w11.heap.size → b ≠ w8.heap.size → ((w12.setCell ⟨w8.heap.size, 0, none⟩ (.slice (some ⟨g, 0, none⟩) n cx)).setCell ⟨g, k * 4, none⟩ (.int .i64 (s[k].refs + 1))).heap[b]? = w11.heap[b]? := fun b hb hn => by
        rw [Below.heap_setCell _ _ _ _ (show b ≠ g by omega), Below.heap_setCell _ _ _ _ hn, hb12.block b hb]
      replace p3 := (hkp _ (lt_heap p3) n3).trans p3
      replace p11 := (hkp _ (lt_heap p11) n11).trans p11
      replace p13 := (hkp _ (lt_heap p13) n13).trans p13
      replace p15 := (hkp _ (lt_heap p15) n15).trans p15
      replace hsh := hsh.keep2 p17a hkp
      replace hsd := hsd.keep2 p17a hkp
      have hr6 : s[k].refs + 1 ≤ 1000001 := by omega
      replace p17 := (heap_setCell_ne (a := ⟨g, k * 4, none⟩) (v := .int .i64 (s[k].refs + 1)) q17 hpg)
      replace hbw := ((below_step hbw hb12).setCell (p := ⟨w8.heap.size, 0, none⟩) n17 (.slice (some ⟨g, 0, none⟩) n cx)).setCell (p := ⟨g, k * 4, none⟩) (show w.heap.size ≤ g by omega) (.int .i64 (s[k].refs + 1))
      clear ho hR hR2 hb12 hkp p17a
      have cp11 := cell_of_one p11
      have lp11 := lt_heap p11
      have cp17 := cell_of_one p17
      have lp17 := lt_heap p17
      clear q17
      go_wp2_with fail
      clear cp11 lp11 cp17 lp17
      clear c17 l17b f17 x5 fx d17 lg
      refine (same_yes _ _ _ _ _ _ _ (addRef s ((k : Int) + 1) 1) hhl.out ((addRef_length _ _ _).trans HN.out) (by have := hhl.out; have := addRef_length s ((k : Int) + 1) 1; have := HN.out; omega) hsh hR3.row (wf_more hwf hrb9 _)).mono ?_
      rintro e w14 ⟨rfl, hb14⟩
      clear hR3 hsh p11
      replace p3 := (hb14.block _ (lt_heap p3)).trans p3
      replace p13 := (hb14.block _ (lt_heap p13)).trans p13
      replace p15 := (hb14.block _ (lt_heap p15)).trans p15
      replace p17 := (hb14.block _ (lt_heap p17)).trans p17
      replace hsd := hsd.mono hb14
      replace hbw := below_step hbw hb14
      have cp3 := cell_of_one p3
      have lp3 := lt_heap p3
      have hs := hs0.mono hbw
      go_wp2_with fail
      clear cp3 lp3
      obtain ⟨_, _, hki, hri, _⟩ := checkE_zero s HCE.out
      refine (outsideOf_any _ _ _ _ s HN.out h400 hs hki hri).mono ?_
      rintro e w15 ⟨v, rfl, hown, hb15⟩
      clear hs hki hri
      replace p3 := (hb15.block _ (lt_heap p3)).trans p3
      replace p13 := (hb15.block _ (lt_heap p13)).trans p13
      replace p15 := (hb15.block _ (lt_heap p15)).trans p15
      replace p17 := (hb15.block _ (lt_heap p17)).trans p17
      replace hsd := hsd.mono hb15
      replace hbw := below_step hbw hb15
      obtain ⟨qo, qc, hqv, _, _, hqr, _⟩ := hown.shape'
      rw [outL_length, HN.out] at hqv
      subst hqv
      clear hown
      have hko : k < (outL s).length := by rw [outL_length]; exact hk
      obtain ⟨qb, qf, rfl, hq⟩ : ∃ b o, qo = some ⟨b, o, none⟩ ∧ ∀ i (h : i < (outL s).length), w15.cell? ⟨b, o + i, none⟩ = some (.int .i64 (outL s)[i]) := by
        rcases hqr with h | h
        · rw [h] at hko; simp at hko
        · exact h
      have hck := hq k hko
      have lq := World.block_lt_of_cell? _ _ hck
      rw [outA_eq s k hk hko] at hck
      clear hq hqr hko
      rw [hout] at hck
      clear hout
      have cp13 := cell_of_one p13
      have lp13 := lt_heap p13
      have cp15 := cell_of_one p15
      have lp15 := lt_heap p15
      go_wp2_with fail
      clear cp13 lp13 cp15 lp15
      refine (none_yes _ _ _ _ _ _ _ hdl.out rfl).mono ?_
      rintro e w16 ⟨rfl, hb16⟩
      have hbw := below_step hbw hb16
      go_wp2
      go_ret
      exact ⟨rfl, hbw⟩
    · rw [ht]
      clear HF
      obtain ⟨k, hk, hak, _⟩ := there_in ht
      subst hak
      have hkn : (k : Int) < n := by have := HN.out; omega
      have hk0 : (0 : Int) ≤ k := by omega
      have hkN : k < n := by omega
      rw [show ((k : Int) + 1 - 1).toNat = k from by omega] at hout
      have cp3 := cell_of_one p3
      have lp3 := lt_heap p3
      have hs := hs0.mono hbw
      go_wp2_with fail
      clear cp3 lp3
      refine (ownStore_any _ _ _ _ s HN.out h41 hs hwf).mono ?_
      rintro e w12 ⟨v, rfl, ho, hb12⟩
      clear hs
      have hsz11 := hbw.size
      have l17 := lt_heap p17
      have p17a := p17
      replace p17 := (hb12.block _ (lt_heap p17)).trans p17
      obtain ⟨g, cx, hv, hR⟩ := ho.at k hk
      rw [HN.out] at hv
      have hcx : n ≤ cx := by
        obtain ⟨ao', cap2, e1, e2, _⟩ := ho
        rw [HN.out] at e1 e2
        rw [hv] at e1
        simp only [Value.slice.injEq] at e1
        rw [e1.2.2]; exact e2.1
      subst hv
      have hle := hR.le
      have hpg : w8.heap.size ≠ g := by omega
      have c17 := cell_of_one p17
      have l17b := lt_heap p17
      have f17 := free_of_one p17
      have hR2 := hR.box p17 hpg (.slice (some ⟨g, 0, none⟩) n cx)
      have x5 := (hR2.blks k hk).refs
      have fx := hR2.free (k * 4)
      have lg := hR2.lt
      have hrk := hrb _ (List.getElem_mem hk)
      have hr1 := hrk.1
      have hr2 := hrk.2
      have hR3 := hR2.setRefs k hk (s[k].refs + 1)
      rw [← addRef_at s k hk 1] at hR3
      have q17 := one_setCell (u := .slice (some ⟨g, 0, none⟩) n cx) p17
      have d17 := cell_of_one q17
      have hkp : ∀ b, b < w11.heap.size → b ≠ w8.heap.size → ((w12.setCell ⟨w8.heap.size, 0, none⟩ (.slice (some ⟨g, 0, none⟩) n cx)).setCell ⟨g, k * 4, none⟩ (.int .i64 (s[k].refs + 1))).heap[b]? = w11.heap[b]? := fun b hb hn => by
        rw [Below.heap_setCell _ _ _ _ (show b ≠ g by omega), Below.heap_setCell _ _ _ _ hn, hb12.block b hb]
      replace p3 := (hkp _ (lt_heap p3) n3).trans p3
      replace p11 := (hkp _ (lt_heap p11) n11).trans p11
      replace p13 := (hkp _ (lt_heap p13) n13).trans p13
      replace p15 := (hkp _ (lt_heap p15) n15).trans p15
      replace hsh := hsh.keep2 p17a hkp
      replace hsd := hsd.keep2 p17a hkp
      have hr6 : s[k].refs + 1 ≤ 1000001 := by omega
      replace p17 := (heap_setCell_ne (a := ⟨g, k * 4, none⟩) (v := .int .i64 (s[k].refs + 1)) q17 hpg)
      replace hbw := ((below_step hbw hb12).setCell (p := ⟨w8.heap.size, 0, none⟩) n17 (.slice (some ⟨g, 0, none⟩) n cx)).setCell (p := ⟨g, k * 4, none⟩) (show w.heap.size ≤ g by omega) (.int .i64 (s[k].refs + 1))
      clear ho hR hR2 hb12 hkp p17a
      have cp11 := cell_of_one p11
      have lp11 := lt_heap p11
      have cp17 := cell_of_one p17
      have lp17 := lt_heap p17
      clear q17
      go_wp2_with fail
      clear cp11 lp11 cp17 lp17
      clear c17 l17b f17 x5 fx d17 lg
      refine (same_yes _ _ _ _ _ _ _ (addRef s ((k : Int) + 1) 1) hhl.out ((addRef_length _ _ _).trans HN.out) (by have := hhl.out; have := addRef_length s ((k : Int) + 1) 1; have := HN.out; omega) hsh hR3.row (wf_more hwf hrb9 _)).mono ?_
      rintro e w14 ⟨rfl, hb14⟩
      clear hR3 hsh p11
      replace p3 := (hb14.block _ (lt_heap p3)).trans p3
      replace p13 := (hb14.block _ (lt_heap p13)).trans p13
      replace p15 := (hb14.block _ (lt_heap p15)).trans p15
      replace p17 := (hb14.block _ (lt_heap p17)).trans p17
      replace hsd := hsd.mono hb14
      replace hbw := below_step hbw hb14
      have cp3 := cell_of_one p3
      have lp3 := lt_heap p3
      have hs := hs0.mono hbw
      go_wp2_with fail
      clear cp3 lp3
      obtain ⟨_, _, hki, hri, _⟩ := checkE_zero s HCE.out
      refine (outsideOf_any _ _ _ _ s HN.out h400 hs hki hri).mono ?_
      rintro e w15 ⟨v, rfl, hown, hb15⟩
      clear hs hki hri
      replace p3 := (hb15.block _ (lt_heap p3)).trans p3
      replace p13 := (hb15.block _ (lt_heap p13)).trans p13
      replace p15 := (hb15.block _ (lt_heap p15)).trans p15
      replace p17 := (hb15.block _ (lt_heap p17)).trans p17
      replace hsd := hsd.mono hb15
      replace hbw := below_step hbw hb15
      obtain ⟨qo, qc, hqv, _, _, hqr, _⟩ := hown.shape'
      rw [outL_length, HN.out] at hqv
      subst hqv
      clear hown
      have hko : k < (outL s).length := by rw [outL_length]; exact hk
      obtain ⟨qb, qf, rfl, hq⟩ : ∃ b o, qo = some ⟨b, o, none⟩ ∧ ∀ i (h : i < (outL s).length), w15.cell? ⟨b, o + i, none⟩ = some (.int .i64 (outL s)[i]) := by
        rcases hqr with h | h
        · rw [h] at hko; simp at hko
        · exact h
      have hck := hq k hko
      have lq := World.block_lt_of_cell? _ _ hck
      rw [outA_eq s k hk hko] at hck
      clear hq hqr hko
      have hpo : 0 < outA s k := by have := out_nn HCE.out k hk; omega
      have hoz : (outA s k == 0) = false := by rw [beq_eq_false_iff_ne]; exact hout
      have HPO := Lib.hid hpo
      clear hout hpo
      generalize hoj : outA s k = oj at hck hoz
      replace hoj := Lib.hid hoj
      have cp3 := cell_of_one p3
      have lp3 := lt_heap p3
      have hs := hs0.mono hbw
      go_wp2_with fail
      clear cp3 lp3
      clear hck lq
      refine (ownStore_any _ _ _ _ s HN.out h41 hs hwf).mono ?_
      rintro e w16 ⟨v, rfl, ho, hb16⟩
      clear hs p3 p15 hoz
      have l17 := lt_heap p17
      have p17a := p17
      replace p17 := (hb16.block _ (lt_heap p17)).trans p17
      obtain ⟨gd, cy, hv, hR⟩ := ho.at k hk
      rw [HN.out] at hv
      have hcy : n ≤ cy := by
        obtain ⟨ao', cap2, e1, e2, _⟩ := ho
        rw [HN.out] at e1 e2
        rw [hv] at e1
        simp only [Value.slice.injEq] at e1
        rw [e1.2.2]; exact e2.1
      subst hv
      have hle := hR.le
      have hpg : w8.heap.size ≠ gd := by omega
      have c17 := cell_of_one p17
      have l17b := lt_heap p17
      have f17 := free_of_one p17
      have hR2 := hR.box p17 hpg (.slice (some ⟨gd, 0, none⟩) n cy)
      have q17 := one_setCell (u := .slice (some ⟨gd, 0, none⟩) n cy) p17
      clear hR ho
      go_wp2_with fail
      clear c17 l17b f17
      have hlv := lv_of s (checkE_zero s HCE.out).2.1
      refine (dropIn_any _ w8.heap.size w15.heap.size gd n cy s ((k : Int) + 1) HN.out h400 q17 hR2 hpg hlv.1 hlv.2 (live_of s (checkE_zero s HCE.out).2.1) hrb9 (.inr ⟨by omega, by omega⟩) (letting_one HCE.out k HPO.out)).mono ?_
      rintro e w17 ⟨rfl, hR4, hg17⟩
      have hkp : ∀ b, b < w15.heap.size → b ≠ w8.heap.size → w17.heap[b]? = w15.heap[b]? := fun b hb hn => by
        have hz := hb16.size
        rw [hg17.block b (by simp; omega) (by simp; omega), Below.heap_setCell _ _ _ _ hn, hb16.block b hb]
      replace p13 := (hkp _ (lt_heap p13) n13).trans p13
      replace hsd := hsd.keep2 p17a hkp
      replace q17 := (hg17.block _ (lt_heap q17) (by simpa using hpg)).trans q17
      replace hbw := ((below_step hbw hb16).setCell (p := ⟨w8.heap.size, 0, none⟩) n17 (.slice (some ⟨gd, 0, none⟩) n cy)).trans (grown_below hg17 (by have := hbw.size; omega) (by have := hbw.size; have := hb16.size; simp; omega))
      clear hlv hR2 hg17 hkp p17 p17a hb16 hle
      have cp13 := cell_of_one p13
      have lp13 := lt_heap p13
      have cq17 := cell_of_one q17
      have lq17 := lt_heap q17
      have hll := (loosed 4 s ((k : Int) + 1) 0 (lv_of s (checkE_zero s HCE.out).2.1).1 (refsL_of s HCE.out) (Int.le_refl _)).len
      replace hll := Lib.hid (hll.trans HN.out)
      go_wp2_with fail
      clear cp13 lp13 cq17 lq17
      refine (same_yes _ _ _ _ _ _ _ (looseF 4 s ((k : Int) + 1)) hdl.out hll.out (by have := hdl.out; have := hll.out; omega) hsd hR4.row (loose_wf s k hk HCE.out HPO.out hwf)).mono ?_
      rintro e w18 ⟨rfl, hb18⟩
      have hbw := below_step hbw hb18
      go_wp2
      go_ret
      exact ⟨rfl, hbw⟩
  · -- ok
    have hq : ((putR s l ks bs).2.2 != 0) = false := by rw [hpe]; rfl
    have hq2 : ((putR s l ks bs).2.2 == 0) = true := by rw [hpe]; rfl
    have cp8 := cell_of_one p8
    have lp8 := lt_heap p8
    have cp17 := cell_of_one p17
    have lp17 := lt_heap p17
    clear hpe
    go_wp2_with fail
    clear cp8 lp8 cp17 lp17
    refine (same_yes _ _ _ _ _ _ _ (putR s l ks bs).1 hml.out hpl.out (by have := putR_length s l ks bs; have := HN.out; have := hml.out; omega) hsm hsx hwp).mono ?_
    rintro e w10 ⟨rfl, hb10⟩
    replace p3 := (hb10.block _ (lt_heap p3)).trans p3
    replace p11 := (hb10.block _ (lt_heap p11)).trans p11
    replace p13 := (hb10.block _ (lt_heap p13)).trans p13
    replace p15 := (hb10.block _ (lt_heap p15)).trans p15
    replace p17 := (hb10.block _ (lt_heap p17)).trans p17
    replace hsh := hsh.mono hb10
    replace hsd := hsd.mono hb10
    replace hbw := below_step hbw hb10
    clear hsm hsx hwp p8 hb10 hq hq2 HMF hmr hhr hdr hpl hml
    have cp3 := cell_of_one p3
    have lp3 := lt_heap p3
    have hs := hs0.mono hbw
    go_wp2_with fail
    clear cp3 lp3
    refine (ref_there _ _ _ _ s a HN.out hn63 hs).mono ?_
    rintro e w11 ⟨rfl, hb11⟩
    replace p3 := (hb11.block _ (lt_heap p3)).trans p3
    replace p11 := (hb11.block _ (lt_heap p11)).trans p11
    replace p13 := (hb11.block _ (lt_heap p13)).trans p13
    replace p15 := (hb11.block _ (lt_heap p15)).trans p15
    replace p17 := (hb11.block _ (lt_heap p17)).trans p17
    replace hsh := hsh.mono hb11
    replace hsd := hsd.mono hb11
    replace hbw := below_step hbw hb11
    clear hs hb11
    rcases HF.out with ⟨ht, rfl, rfl, rfl, rfl⟩ | ⟨ht, rfl, rfl, hout, rfl, rfl⟩ | ⟨ht, rfl, rfl, hout, rfl, rfl⟩
    · rw [ht]
      clear HF
      have cp11 := cell_of_one p11
      have lp11 := lt_heap p11
      have cp15 := cell_of_one p15
      have lp15 := lt_heap p15
      go_wp2_with fail
      clear cp11 lp11 cp15 lp15
      refine (none_yes _ _ _ _ _ _ _ hhl.out rfl).mono ?_
      rintro e w12 ⟨rfl, hb12⟩
      replace p13 := (hb12.block _ (lt_heap p13)).trans p13
      replace p15 := (hb12.block _ (lt_heap p15)).trans p15
      replace hbw := below_step hbw hb12
      have cp13 := cell_of_one p13
      have lp13 := lt_heap p13
      have cp15 := cell_of_one p15
      have lp15 := lt_heap p15
      go_wp2_with fail
      clear cp13 lp13 cp15 lp15
      refine (none_yes _ _ _ _ _ _ _ hdl.out rfl).mono ?_
      rintro e w13 ⟨rfl, hb13⟩
      have hbw := below_step hbw hb13
      go_wp2
      go_ret
      exact ⟨rfl, hbw⟩
    · rw [ht]
      clear HF
      obtain ⟨k, hk, hak, _⟩ := there_in ht
      subst hak
      have hkn : (k : Int) < n := by have := HN.out; omega
      have hk0 : (0 : Int) ≤ k := by omega
      have hkN : k < n := by omega
      rw [show ((k : Int) + 1 - 1).toNat = k from by omega] at hout
      have cp3 := cell_of_one p3
      have lp3 := lt_heap p3
      have hs := hs0.mono hbw
      go_wp2_with fail
      clear cp3 lp3
      refine (ownStore_any _ _ _ _ s HN.out h41 hs hwf).mono ?_
      rintro e w12 ⟨v, rfl, ho, hb12⟩
      clear hs
      have hsz11 := hbw.size
      have l17 := lt_heap p17
      have p17a := p17
      replace p17 := (hb12.block _ (lt_heap p17)).trans p17
      obtain ⟨g, cx, hv, hR⟩ := ho.at k hk
      rw [HN.out] at hv
      have hcx : n ≤ cx := by
        obtain ⟨ao', cap2, e1, e2, _⟩ := ho
        rw [HN.out] at e1 e2
        rw [hv] at e1
        simp only [Value.slice.injEq] at e1
        rw [e1.2.2]; exact e2.1
      subst hv
      have hle := hR.le
      have hpg : w8.heap.size ≠ g := by omega
      have c17 := cell_of_one p17
      have l17b := lt_heap p17
      have f17 := free_of_one p17
      have hR2 := hR.box p17 hpg (.slice (some ⟨g, 0, none⟩) n cx)
      have x5 := (hR2.blks k hk).refs
      have fx := hR2.free (k * 4)
      have lg := hR2.lt
      have hrk := hrb _ (List.getElem_mem hk)
      have hr1 := hrk.1
      have hr2 := hrk.2
      have hR3 := hR2.setRefs k hk (s[k].refs + 1)
      rw [← addRef_at s k hk 1] at hR3
      have q17 := one_setCell (u := .slice (some ⟨g, 0, none⟩) n cx) p17
      have d17 := cell_of_one q17
      have hkp : ∀ b, b < w11.heap.size → b ≠ w8.heap.size → ((w12.setCell ⟨w8.heap.size, 0, none⟩ (.slice (some ⟨g, 0, none⟩) n cx)).setCell ⟨g, k * 4, none⟩ (.int .i64 (s[k].refs + 1))).heap[b]? = w11.heap[b]? := fun b hb hn => by
        rw [Below.heap_setCell _ _ _ _ (show b ≠ g by omega), Below.heap_setCell _ _ _ _ hn, hb12.block b hb]
      replace p3 := (hkp _ (lt_heap p3) n3).trans p3
      replace p11 := (hkp _ (lt_heap p11) n11).trans p11
      replace p13 := (hkp _ (lt_heap p13) n13).trans p13
      replace p15 := (hkp _ (lt_heap p15) n15).trans p15
      replace hsh := hsh.keep2 p17a hkp
      replace hsd := hsd.keep2 p17a hkp
      have hr6 : s[k].refs + 1 ≤ 1000001 := by omega
      replace p17 := (heap_setCell_ne (a := ⟨g, k * 4, none⟩) (v := .int .i64 (s[k].refs + 1)) q17 hpg)
      replace hbw := ((below_step hbw hb12).setCell (p := ⟨w8.heap.size, 0, none⟩) n17 (.slice (some ⟨g, 0, none⟩) n cx)).setCell (p := ⟨g, k * 4, none⟩) (show w.heap.size ≤ g by omega) (.int .i64 (s[k].refs + 1))
      clear ho hR hR2 hb12 hkp p17a
      have cp11 := cell_of_one p11
      have lp11 := lt_heap p11
      have cp17 := cell_of_one p17
      have lp17 := lt_heap p17
      clear q17
      go_wp2_with fail
      clear cp11 lp11 cp17 lp17
      clear c17 l17b f17 x5 fx d17 lg
      refine (same_yes _ _ _ _ _ _ _ (addRef s ((k : Int) + 1) 1) hhl.out ((addRef_length _ _ _).trans HN.out) (by have := hhl.out; have := addRef_length s ((k : Int) + 1) 1; have := HN.out; omega) hsh hR3.row (wf_more hwf hrb9 _)).mono ?_
      rintro e w14 ⟨rfl, hb14⟩
      clear hR3 hsh p11
      replace p3 := (hb14.block _ (lt_heap p3)).trans p3
      replace p13 := (hb14.block _ (lt_heap p13)).trans p13
      replace p15 := (hb14.block _ (lt_heap p15)).trans p15
      replace p17 := (hb14.block _ (lt_heap p17)).trans p17
      replace hsd := hsd.mono hb14
      replace hbw := below_step hbw hb14
      have cp3 := cell_of_one p3
      have lp3 := lt_heap p3
      have hs := hs0.mono hbw
      go_wp2_with fail
      clear cp3 lp3
      obtain ⟨_, _, hki, hri, _⟩ := checkE_zero s HCE.out
      refine (outsideOf_any _ _ _ _ s HN.out h400 hs hki hri).mono ?_
      rintro e w15 ⟨v, rfl, hown, hb15⟩
      clear hs hki hri
      replace p3 := (hb15.block _ (lt_heap p3)).trans p3
      replace p13 := (hb15.block _ (lt_heap p13)).trans p13
      replace p15 := (hb15.block _ (lt_heap p15)).trans p15
      replace p17 := (hb15.block _ (lt_heap p17)).trans p17
      replace hsd := hsd.mono hb15
      replace hbw := below_step hbw hb15
      obtain ⟨qo, qc, hqv, _, _, hqr, _⟩ := hown.shape'
      rw [outL_length, HN.out] at hqv
      subst hqv
      clear hown
      have hko : k < (outL s).length := by rw [outL_length]; exact hk
      obtain ⟨qb, qf, rfl, hq⟩ : ∃ b o, qo = some ⟨b, o, none⟩ ∧ ∀ i (h : i < (outL s).length), w15.cell? ⟨b, o + i, none⟩ = some (.int .i64 (outL s)[i]) := by
        rcases hqr with h | h
        · rw [h] at hko; simp at hko
        · exact h
      have hck := hq k hko
      have lq := World.block_lt_of_cell? _ _ hck
      rw [outA_eq s k hk hko] at hck
      clear hq hqr hko
      rw [hout] at hck
      clear hout
      have cp13 := cell_of_one p13
      have lp13 := lt_heap p13
      have cp15 := cell_of_one p15
      have lp15 := lt_heap p15
      go_wp2_with fail
      clear cp13 lp13 cp15 lp15
      refine (none_yes _ _ _ _ _ _ _ hdl.out rfl).mono ?_
      rintro e w16 ⟨rfl, hb16⟩
      have hbw := below_step hbw hb16
      go_wp2
      go_ret
      exact ⟨rfl, hbw⟩
    · rw [ht]
      clear HF
      obtain ⟨k, hk, hak, _⟩ := there_in ht
      subst hak
      have hkn : (k : Int) < n := by have := HN.out; omega
      have hk0 : (0 : Int) ≤ k := by omega
      have hkN : k < n := by omega
      rw [show ((k : Int) + 1 - 1).toNat = k from by omega] at hout
      have cp3 := cell_of_one p3
      have lp3 := lt_heap p3
      have hs := hs0.mono hbw
      go_wp2_with fail
      clear cp3 lp3
      refine (ownStore_any _ _ _ _ s HN.out h41 hs hwf).mono ?_
      rintro e w12 ⟨v, rfl, ho, hb12⟩
      clear hs
      have hsz11 := hbw.size
      have l17 := lt_heap p17
      have p17a := p17
      replace p17 := (hb12.block _ (lt_heap p17)).trans p17
      obtain ⟨g, cx, hv, hR⟩ := ho.at k hk
      rw [HN.out] at hv
      have hcx : n ≤ cx := by
        obtain ⟨ao', cap2, e1, e2, _⟩ := ho
        rw [HN.out] at e1 e2
        rw [hv] at e1
        simp only [Value.slice.injEq] at e1
        rw [e1.2.2]; exact e2.1
      subst hv
      have hle := hR.le
      have hpg : w8.heap.size ≠ g := by omega
      have c17 := cell_of_one p17
      have l17b := lt_heap p17
      have f17 := free_of_one p17
      have hR2 := hR.box p17 hpg (.slice (some ⟨g, 0, none⟩) n cx)
      have x5 := (hR2.blks k hk).refs
      have fx := hR2.free (k * 4)
      have lg := hR2.lt
      have hrk := hrb _ (List.getElem_mem hk)
      have hr1 := hrk.1
      have hr2 := hrk.2
      have hR3 := hR2.setRefs k hk (s[k].refs + 1)
      rw [← addRef_at s k hk 1] at hR3
      have q17 := one_setCell (u := .slice (some ⟨g, 0, none⟩) n cx) p17
      have d17 := cell_of_one q17
      have hkp : ∀ b, b < w11.heap.size → b ≠ w8.heap.size → ((w12.setCell ⟨w8.heap.size, 0, none⟩ (.slice (some ⟨g, 0, none⟩) n cx)).setCell ⟨g, k * 4, none⟩ (.int .i64 (s[k].refs + 1))).heap[b]? = w11.heap[b]? := fun b hb hn => by
        rw [Below.heap_setCell _ _ _ _ (show b ≠ g by omega), Below.heap_setCell _ _ _ _ hn, hb12.block b hb]
      replace p3 := (hkp _ (lt_heap p3) n3).trans p3
      replace p11 := (hkp _ (lt_heap p11) n11).trans p11
      replace p13 := (hkp _ (lt_heap p13) n13).trans p13
      replace p15 := (hkp _ (lt_heap p15) n15).trans p15
      replace hsh := hsh.keep2 p17a hkp
      replace hsd := hsd.keep2 p17a hkp
      have hr6 : s[k].refs + 1 ≤ 1000001 := by omega
      replace p17 := (heap_setCell_ne (a := ⟨g, k * 4, none⟩) (v := .int .i64 (s[k].refs + 1)) q17 hpg)
      replace hbw := ((below_step hbw hb12).setCell (p := ⟨w8.heap.size, 0, none⟩) n17 (.slice (some ⟨g, 0, none⟩) n cx)).setCell (p := ⟨g, k * 4, none⟩) (show w.heap.size ≤ g by omega) (.int .i64 (s[k].refs + 1))
      clear ho hR hR2 hb12 hkp p17a
      have cp11 := cell_of_one p11
      have lp11 := lt_heap p11
      have cp17 := cell_of_one p17
      have lp17 := lt_heap p17
      clear q17
      go_wp2_with fail
      clear cp11 lp11 cp17 lp17
      clear c17 l17b f17 x5 fx d17 lg
      refine (same_yes _ _ _ _ _ _ _ (addRef s ((k : Int) + 1) 1) hhl.out ((addRef_length _ _ _).trans HN.out) (by have := hhl.out; have := addRef_length s ((k : Int) + 1) 1; have := HN.out; omega) hsh hR3.row (wf_more hwf hrb9 _)).mono ?_
      rintro e w14 ⟨rfl, hb14⟩
      clear hR3 hsh p11
      replace p3 := (hb14.block _ (lt_heap p3)).trans p3
      replace p13 := (hb14.block _ (lt_heap p13)).trans p13
      replace p15 := (hb14.block _ (lt_heap p15)).trans p15
      replace p17 := (hb14.block _ (lt_heap p17)).trans p17
      replace hsd := hsd.mono hb14
      replace hbw := below_step hbw hb14
      have cp3 := cell_of_one p3
      have lp3 := lt_heap p3
      have hs := hs0.mono hbw
      go_wp2_with fail
      clear cp3 lp3
      obtain ⟨_, _, hki, hri, _⟩ := checkE_zero s HCE.out
      refine (outsideOf_any _ _ _ _ s HN.out h400 hs hki hri).mono ?_
      rintro e w15 ⟨v, rfl, hown, hb15⟩
      clear hs hki hri
      replace p3 := (hb15.block _ (lt_heap p3)).trans p3
      replace p13 := (hb15.block _ (lt_heap p13)).trans p13
      replace p15 := (hb15.block _ (lt_heap p15)).trans p15
      replace p17 := (hb15.block _ (lt_heap p17)).trans p17
      replace hsd := hsd.mono hb15
      replace hbw := below_step hbw hb15
      obtain ⟨qo, qc, hqv, _, _, hqr, _⟩ := hown.shape'
      rw [outL_length, HN.out] at hqv
      subst hqv
      clear hown
      have hko : k < (outL s).length := by rw [outL_length]; exact hk
      obtain ⟨qb, qf, rfl, hq⟩ : ∃ b o, qo = some ⟨b, o, none⟩ ∧ ∀ i (h : i < (outL s).length), w15.cell? ⟨b, o + i, none⟩ = some (.int .i64 (outL s)[i]) := by
        rcases hqr with h | h
        · rw [h] at hko; simp at hko
        · exact h
      have hck := hq k hko
      have lq := World.block_lt_of_cell? _ _ hck
      rw [outA_eq s k hk hko] at hck
      clear hq hqr hko
      have hpo : 0 < outA s k := by have := out_nn HCE.out k hk; omega
      have hoz : (outA s k == 0) = false := by rw [beq_eq_false_iff_ne]; exact hout
      have HPO := Lib.hid hpo
      clear hout hpo
      generalize hoj : outA s k = oj at hck hoz
      replace hoj := Lib.hid hoj
      have cp3 := cell_of_one p3
      have lp3 := lt_heap p3
      have hs := hs0.mono hbw
      go_wp2_with fail
      clear cp3 lp3
      clear hck lq
      refine (ownStore_any _ _ _ _ s HN.out h41 hs hwf).mono ?_
      rintro e w16 ⟨v, rfl, ho, hb16⟩
      clear hs p3 p15 hoz
      have l17 := lt_heap p17
      have p17a := p17
      replace p17 := (hb16.block _ (lt_heap p17)).trans p17
      obtain ⟨gd, cy, hv, hR⟩ := ho.at k hk
      rw [HN.out] at hv
      have hcy : n ≤ cy := by
        obtain ⟨ao', cap2, e1, e2, _⟩ := ho
        rw [HN.out] at e1 e2
        rw [hv] at e1
        simp only [Value.slice.injEq] at e1
        rw [e1.2.2]; exact e2.1
      subst hv
      have hle := hR.le
      have hpg : w8.heap.size ≠ gd := by omega
      have c17 := cell_of_one p17
      have l17b := lt_heap p17
      have f17 := free_of_one p17
      have hR2 := hR.box p17 hpg (.slice (some ⟨gd, 0, none⟩) n cy)
      have q17 := one_setCell (u := .slice (some ⟨gd, 0, none⟩) n cy) p17
      clear hR ho
      go_wp2_with fail
      clear c17 l17b f17
      have hlv := lv_of s (checkE_zero s HCE.out).2.1
      refine (dropIn_any _ w8.heap.size w15.heap.size gd n cy s ((k : Int) + 1) HN.out h400 q17 hR2 hpg hlv.1 hlv.2 (live_of s (checkE_zero s HCE.out).2.1) hrb9 (.inr ⟨by omega, by omega⟩) (letting_one HCE.out k HPO.out)).mono ?_
      rintro e w17 ⟨rfl, hR4, hg17⟩
      have hkp : ∀ b, b < w15.heap.size → b ≠ w8.heap.size → w17.heap[b]? = w15.heap[b]? := fun b hb hn => by
        have hz := hb16.size
        rw [hg17.block b (by simp; omega) (by simp; omega), Below.heap_setCell _ _ _ _ hn, hb16.block b hb]
      replace p13 := (hkp _ (lt_heap p13) n13).trans p13
      replace hsd := hsd.keep2 p17a hkp
      replace q17 := (hg17.block _ (lt_heap q17) (by simpa using hpg)).trans q17
      replace hbw := ((below_step hbw hb16).setCell (p := ⟨w8.heap.size, 0, none⟩) n17 (.slice (some ⟨gd, 0, none⟩) n cy)).trans (grown_below hg17 (by have := hbw.size; omega) (by have := hbw.size; have := hb16.size; simp; omega))
      clear hlv hR2 hg17 hkp p17 p17a hb16 hle
      have cp13 := cell_of_one p13
      have lp13 := lt_heap p13
      have cq17 := cell_of_one q17
      have lq17 := lt_heap q17
      have hll := (loosed 4 s ((k : Int) + 1) 0 (lv_of s (checkE_zero s HCE.out).2.1).1 (refsL_of s HCE.out) (Int.le_refl _)).len
      replace hll := Lib.hid (hll.trans HN.out)
      go_wp2_with fail
      clear cp13 lp13 cq17 lq17
      refine (same_yes _ _ _ _ _ _ _ (looseF 4 s ((k : Int) + 1)) hdl.out hll.out (by have := hdl.out; have := hll.out; omega) hsd hR4.row (loose_wf s k hk HCE.out HPO.out hwf)).mono ?_
      rintro e w18 ⟨rfl, hb18⟩
      have hbw := below_step hbw hb18
      go_wp2
      go_ret
      exact ⟨rfl, hbw⟩
end Go.Proofs.Ytpfopbkaddjjcaa
