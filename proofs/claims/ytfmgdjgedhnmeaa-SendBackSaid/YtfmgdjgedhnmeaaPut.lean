/- Put, in plain words; the first free block. · store.Put: a block at the first free address. -/
import Derived.Deep.RegionHeld3
import Derived.Deep.RegionWith
import Derived.Test.YtfmgdjgedhnmeaaCopy
namespace Go.Proofs.Ytfmgdjgedhnmeaa
open Go.RowKit
set_option linter.unusedVariables false

/-- the first free block's place; as many as there are, if none is -/
def freeIx (s : List Blk) : Nat := s.findIdx fun x => decide (x.refs = 0)
theorem freeIx_at (s : List Blk) (k : Nat) (h : k < s.length) (h0 : s[k].refs = 0) (hb : ∀ j (hj : j < k), (s[j]'(by omega)).refs ≠ 0) : freeIx s = k := by
  unfold freeIx
  rw [List.findIdx_eq h]
  exact ⟨by simpa using h0, fun j hj => by simpa using hb j hj⟩
theorem freeIx_none (s : List Blk) (hb : ∀ j (hj : j < s.length), s[j].refs ≠ 0) : freeIx s = s.length := by
  unfold freeIx
  rw [List.findIdx_eq_length]
  intro x hx
  obtain ⟨j, hj, rfl⟩ := List.getElem_of_mem hx
  simpa using hb j hj
theorem freeIx_le (s : List Blk) : freeIx s ≤ s.length := List.findIdx_le_length
theorem freeIx_refs (s : List Blk) (h : freeIx s < s.length) : s[freeIx s].refs = 0 := by
  exact of_decide_eq_true (List.findIdx_getElem (w := h) (p := fun x : Blk => decide (x.refs = 0)) (xs := s))

/-- what these hold is held once more -/
def bump (s : List Blk) (ks : List Int) : List Blk := ks.foldl (fun s a => if 0 < a then addRef s a 1 else s) s
theorem bump_snoc (s : List Blk) (ks : List Int) (a : Int) : bump s (ks ++ [a]) = if 0 < a then addRef (bump s ks) a 1 else bump s ks := by
  simp [bump, List.foldl_append]
theorem bump_length (s : List Blk) (ks : List Int) : (bump s ks).length = s.length := by
  induction ks generalizing s with
  | nil => rfl
  | cons a ks ih =>
    have := ih (if 0 < a then addRef s a 1 else s)
    simp only [bump, List.foldl_cons] at *
    rw [this]
    split
    · exact addRef_length _ _ _
    · rfl

/-- held this often at most -/
def RefsB (s : List Blk) (M : Int) : Prop := ∀ x ∈ s, 0 ≤ x.refs ∧ x.refs ≤ M

theorem addRef_refsB {s : List Blk} {M : Int} (h : RefsB s M) (a : Int) (h0 : 0 ≤ M) : RefsB (addRef s a 1) (M + 1) := by
  intro x hx
  unfold addRef at hx
  rcases List.mem_or_eq_of_mem_set hx with h1 | h1
  · have := h x h1; omega
  · rw [h1]
    simp only
    unfold blk
    cases h2 : s[(a - 1).toNat]? with
    | none => simp [noBlk]; omega
    | some y =>
      have := h y (List.mem_of_getElem? h2)
      simp only [Option.getD_some]
      omega

theorem bump_refsB {s : List Blk} {M : Int} (h : RefsB s M) (h0 : 0 ≤ M) (ks : List Int) : RefsB (bump s ks) (M + ks.length) := by
  induction ks generalizing s M with
  | nil => simpa [bump] using h
  | cons a ks ih =>
    simp only [bump, List.foldl_cons]
    have h1 : RefsB (if 0 < a then addRef s a 1 else s) (M + 1) := by
      split
      · exact addRef_refsB h a h0
      · intro x hx; have := h x hx; omega
    have := ih h1 (by omega)
    intro x hx
    have h3 := this x hx
    simp only [List.length_cons]
    omega

/-- Put: the store, the address, what is wrong -/
def putR (s : List Blk) (l : Int) (ks bs : List Int) : List Blk × Int × Int :=
  if formE s 1 l ks bs ≠ 0 then (s, 0, formE s 1 l ks bs)
  else if freeIx s = s.length then (s, 0, 8)
  else (bump (s.set (freeIx s) ⟨1, l, ks, bs⟩) ks, (freeIx s : Int) + 1, 0)

theorem putR_bad (s : List Blk) (l : Int) (ks bs : List Int) (h : formE s 1 l ks bs ≠ 0) : putR s l ks bs = (s, 0, formE s 1 l ks bs) := by unfold putR; rw [if_pos h]
theorem putR_full (s : List Blk) (l : Int) (ks bs : List Int) (h : formE s 1 l ks bs = 0) (h1 : freeIx s = s.length) : putR s l ks bs = (s, 0, 8) := by unfold putR; rw [if_neg (by simp [h]), if_pos h1]
theorem putR_ok (s : List Blk) (l : Int) (ks bs : List Int) (h : formE s 1 l ks bs = 0) (h1 : freeIx s < s.length) : putR s l ks bs = (bump (s.set (freeIx s) ⟨1, l, ks, bs⟩) ks, (freeIx s : Int) + 1, 0) := by
  unfold putR; rw [if_neg (by simp [h]), if_neg (by omega)]

/-- the kids of what is right by itself -/
theorem form_kids (s : List Blk) (l : Int) (ks bs : List Int) (h : formE s 1 l ks bs = 0) : ks.length ≤ 4 ∧ bs.length ≤ 4 ∧ ∀ k ∈ ks, k = 0 ∨ (1 ≤ k ∧ k ≤ s.length ∧ thereB s k = true) := by
  have h1 : formB s ⟨1, l, ks, bs⟩ = 0 := h
  rcases formB_zero s _ h1 with ⟨h2, _⟩ | ⟨_, _, _, hk, hb⟩ | ⟨_, _, _, _, hk, hb, ha, _⟩
  · simp at h2
  · simp only at hk hb
    rw [hk, hb]; exact ⟨by simp, by simp, fun k h => by cases h⟩
  · simp only at hk hb ha
    rw [hb]
    refine ⟨by omega, by simp, fun k hkm => ?_⟩
    have := List.all_eq_true.1 ha k hkm
    unfold kidOk at this
    simp only [Bool.or_eq_true, decide_eq_true_eq, Bool.and_eq_true] at this
    rcases this with h0 | ⟨h1, _⟩
    · exact .inl h0
    · obtain ⟨j, hj, rfl, _⟩ := there_in h1
      exact .inr ⟨by omega, by omega, h1⟩

theorem put_isfree (w : World) (b : Blk) (kv bv : Value) (hk : ∃ a n c, kv = .slice a n c) (hb : ∃ a n c, bv = .slice a n c) :
    Calls Try.prog 150 #[.agg #[.int .i64 b.refs, .int .i64 b.level, kv, bv]] w fun e w' => e = .returned (.bool (b.refs == 0)) ∧ Below w.heap.size w w' := by
  obtain ⟨a1, n1, c1, rfl⟩ := hk
  obtain ⟨a2, n2, c2, rfl⟩ := hb
  go_enter Try.func150, Try.ntmps150
  go_wp2
  go_ret
  exact ⟨rfl, (Below.refl _ _).alloc (Nat.le_refl _) _⟩

/-- a number that tells the first free block -/
def freeI (s : List Blk) : Int := if freeIx s < s.length then (freeIx s : Int) else -1

set_option maxRecDepth 100000 in
set_option maxHeartbeats 1000000 in
theorem indexFree (w : World) (ao : Option Addr) (n cap : Nat) (s : List Blk) (hn : s.length = n) (h400 : n ≤ 400) (hs : StoRow w ao s) :
    Calls Try.prog 80 #[.slice ao n cap, .func (.func 150) #[] #[]] w fun e w' => e = .returned (.int .i64 (freeI s)) ∧ Below w.heap.size w w' := by
  have HN := Lib.hid hn
  clear hn
  go_enter Try.func80, Try.ntmps80
  go_wp2
  go_loopw [8] (fun i wr => ∃ k : Nat, k ≤ n ∧ i = .int .i64 k ∧ (∀ j (hj : j < s.length), j < k → s[j].refs ≠ 0) ∧ Below w.heap.size w wr) (fun i _ => n - (intOf i).toNat)
  case atStart => exact ⟨0, Nat.zero_le _, rfl, fun j _ hj => absurd hj (Nat.not_lt_zero _), Below.refl _ _⟩
  case round =>
    obtain ⟨k, hkn, rfl, hno, hbel⟩ := hrel
    have HNO := Lib.hid hno
    clear hno
    by_cases hlt : k < n
    · have hks : k < s.length := by have := HN.out; omega
      obtain ⟨b, o, rfl, hq⟩ := (hs.mono hbel).at k hks
      have hB := hq k hks
      have c0 := hB.refs
      have c1 := hB.level
      obtain ⟨v2, c2, kao, kcap, rfl, hrow, hcd⟩ := hB.kids
      obtain ⟨v3, c3, bao, bcap, rfl, hrow3, hcd3⟩ := hB.bytes
      have lb := hB.lt
      clear hq hB hrow hrow3 hcd hcd3
      go_wp2_with fail
      refine (put_isfree _ s[k] _ _ ⟨_, _, _, rfl⟩ ⟨_, _, _, rfl⟩).mono ?_
      rintro e w2 ⟨rfl, hb2⟩
      by_cases h0 : s[k].refs = 0
      · have hb : (s[k].refs == 0) = true := by rw [h0]; rfl
        have hfx := freeIx_at s k hks h0 (fun j hj => HNO.out j (by omega) hj)
        have HF := Lib.hid (show freeI s = k by unfold freeI; rw [hfx, if_pos hks])
        clear h0 hfx
        go_wp2
        go_ret
        exact ⟨ret_int HF.out.symm, below_step hbel hb2⟩
      · have hb : (s[k].refs == 0) = false := by rw [beq_eq_false_iff_ne]; exact h0
        have H0 := Lib.hid h0
        clear h0
        go_wp2
        go_roundw
        case rel =>
          refine ⟨k + 1, by omega, by go_num, fun j hj hjk => ?_, below_step hbel hb2⟩
          rcases (show j < k ∨ j = k from by omega) with e | rfl
          · exact HNO.out j hj e
          · exact H0.out
        case measure => simp [intOf]; omega
    · obtain rfl : k = n := by omega
      have hfx := freeIx_none s (fun j hj => HNO.out j hj (by have := HN.out; omega))
      have HF := Lib.hid (show freeI s = -1 by unfold freeI; rw [hfx, if_neg (by omega)])
      clear hfx
      go_wp2
      go_ret
      exact ⟨ret_int HF.out.symm, hbel⟩
end Go.Proofs.Ytfmgdjgedhnmeaa

namespace Go.Proofs.Ytfmgdjgedhnmeaa
open Go.RowKit
set_option linter.unusedVariables false

theorem grown_of_below {w w' : World} (h : Below w.heap.size w w') (r : Option Nat) : w.grownBy w' r := ⟨h.os, h.tape, h.output, h.size, fun k hk _ => h.block k hk⟩
theorem grown_trans {a b c : World} {r : Option Nat} (h : a.grownBy b r) (k : b.grownBy c r) : a.grownBy c r :=
  ⟨k.os.trans h.os, k.tape.trans h.tape, k.output.trans h.output, Nat.le_trans h.size k.size, fun i hi hr => (k.block i (Nat.lt_of_lt_of_le hi h.size) hr).trans (h.block i hi hr)⟩
theorem grown_set {a b : World} {g : Nat} (h : a.grownBy b (some g)) (p : Addr) (hp : p.block = g) (v : Value) : a.grownBy (b.setCell p v) (some g) :=
  grown_trans h ⟨rfl, rfl, rfl, by simp, fun i _ hr => Below.heap_setCell _ _ _ _ (fun e => hr (by rw [e, hp]))⟩
theorem grown_below {w w' : World} {g B : Nat} (h : w.grownBy w' (some g)) (hg : B ≤ g) (hB : B ≤ w.heap.size) : Below B w w' :=
  ⟨h.os, h.tape, h.output, h.size, fun k hk => h.block k (by omega) (fun e => by cases e; omega)⟩

/-- the slices of a store's row that point below B, and hold something, are as they were -/
def RowFrom (w w' : World) (g n B : Nat) : Prop := ∀ j, j < n → ∀ b o l c, 0 < l → b < B →
  (w'.cell? ⟨g, j * 4 + 2, none⟩ = some (.slice (some ⟨b, o, none⟩) l c) → w.cell? ⟨g, j * 4 + 2, none⟩ = some (.slice (some ⟨b, o, none⟩) l c)) ∧
  (w'.cell? ⟨g, j * 4 + 3, none⟩ = some (.slice (some ⟨b, o, none⟩) l c) → w.cell? ⟨g, j * 4 + 3, none⟩ = some (.slice (some ⟨b, o, none⟩) l c))
theorem RowFrom.same {w w' : World} {g n B : Nat} (h : ∀ i, w'.cell? ⟨g, i, none⟩ = w.cell? ⟨g, i, none⟩) : RowFrom w w' g n B := fun j _ b o l c _ _ => ⟨fun e => (h _).symm.trans e, fun e => (h _).symm.trans e⟩
theorem RowFrom.below {w w' : World} {g n B : Nat} (h : Below w.heap.size w w') (hg : g < w.heap.size) : RowFrom w w' g n B := .same fun i => World.cell?_of_block (w := w) (h.block g hg)
theorem RowFrom.trans {w w1 w2 : World} {g n B : Nat} (h : RowFrom w w1 g n B) (k : RowFrom w1 w2 g n B) : RowFrom w w2 g n B := fun j hj b o l c hl hb =>
  ⟨fun e => (h j hj b o l c hl hb).1 ((k j hj b o l c hl hb).1 e), fun e => (h j hj b o l c hl hb).2 ((k j hj b o l c hl hb).2 e)⟩
theorem RowFrom.lower {w w' : World} {g n B B' : Nat} (h : RowFrom w w' g n B) (hb : B' ≤ B) : RowFrom w w' g n B' := fun j hj b o l c hl hlt => h j hj b o l c hl (by omega)
theorem RowFrom.refs {w w' : World} {g n B : Nat} (h : RowFrom w w' g n B) (i : Nat) (v : Value) : RowFrom w (w'.setCell ⟨g, i * 4, none⟩ v) g n B := fun j hj b o l c hl hb =>
  ⟨fun e => (h j hj b o l c hl hb).1 (by rwa [cell_setCell_ne (by omega)] at e), fun e => (h j hj b o l c hl hb).2 (by rwa [cell_setCell_ne (by omega)] at e)⟩

theorem own_lt {w : World} {base g n cap : Nat} {ao : Option Addr} {s : List Blk} (h : OwnSto w base (.slice ao n cap) s) (hne : s ≠ []) (hg : ao = some ⟨g, 0, none⟩) : g < w.heap.size := by
  obtain ⟨_, _, e1, _, e3⟩ := h
  subst hg
  simp only [Value.slice.injEq] at e1
  rcases e3 with e3 | ⟨g2, e4, e5⟩
  · exact absurd e3 hne
  · have h1 := e1.1
    rw [e4] at h1
    simp only [Option.some.injEq, Addr.mk.injEq] at h1
    have := e5.lt
    omega

set_option maxRecDepth 100000 in
set_option maxHeartbeats 4000000 in
theorem put_frame (w : World) (pb base : Nat) (ao ka ba : Option Addr) (n cap nk kc nb bc : Nat) (s : List Blk) (r0 l : Int) (ks bs : List Int) (hn : s.length = n) (h400 : n ≤ 400)
    (hbox : w.heap[pb]? = some (.cells #[.slice ao n cap] 24 (0, 0))) (ho : OwnSto w base (.slice ao n cap) s) (hpn : ∀ g, s ≠ [] → ao = some ⟨g, 0, none⟩ → pb ≠ g) (hbs : base ≤ w.heap.size) (hwf : WfS s) (hrb : RefsB s 1000000000)
    (hk : ks.length = nk) (hb : bs.length = nb) (hkr : Row .i64 w ka ks) (hbr : Row .u8 w ba bs) (hka : Capd ka nk kc) (hba : Capd ba nb bc) (hkw : ∀ k ∈ ks, I64 k) (hnk : nk ≤ 17592186044416) (hnb : nb ≤ 140737488351232) :
    Calls Try.prog 144 #[.pointer (some ⟨pb, 0, none⟩), .agg #[.int .i64 r0, .int .i64 l, .slice ka nk kc, .slice ba nb bc]] w fun e w' =>
      e = .returned (.tuple #[.int .i64 (putR s l ks bs).2.1, .int .i64 (putR s l ks bs).2.2]) ∧ OwnSto w' base (.slice ao n cap) (putR s l ks bs).1 ∧ Below base w w' ∧ (∀ b, b < w.heap.size → (∀ g, s ≠ [] → ao = some ⟨g, 0, none⟩ → b ≠ g) → w'.heap[b]? = w.heap[b]?) ∧ ∀ g, s ≠ [] → ao = some ⟨g, 0, none⟩ → RowFrom w w' g n w.heap.size := by
  have HN := Lib.hid hn
  have HK := Lib.hid hk
  have HB := Lib.hid hb
  have HNK := Lib.hid hnk
  have HNB := Lib.hid hnb
  have HKA := Lib.hid hka
  have HBA := Lib.hid hba
  clear hn hk hb hnk hnb hka hba
  have hb0 : Below w.heap.size w (w.alloc (.cells #[.int .i64 1, .int .i64 l, .slice ka nk kc, .slice ba nb bc] 93)) := (Below.refl _ _).alloc (Nat.le_refl _) _
  have p0 : (w.alloc (.cells #[.int .i64 1, .int .i64 l, .slice ka nk kc, .slice ba nb bc] 93)).heap[w.heap.size]? = some (.cells #[.int .i64 1, .int .i64 l, .slice ka nk kc, .slice ba nb bc] 93 (0, 0)) := heap_alloc_new _ _
  have hpw : pb < w.heap.size := lt_heap hbox
  go_enter Try.func144, Try.ntmps144
  go_wp2_with fail
  have p1 := (hb0.block _ (lt_heap hbox)).trans hbox
  have ho1 := ho.mono hb0
  generalize w.alloc (Obj.cells #[Value.int .i64 1, Value.int .i64 l, Value.slice ka nk kc, Value.slice ba nb bc] 93) = W1 at *
  obtain ⟨ao', cap', hv', hcd', hsr⟩ := ho1.sto
  rw [HN.out] at hv'
  simp only [Value.slice.injEq, true_and] at hv'
  obtain ⟨rfl, rfl⟩ := hv'
  have c0 := cell_of_block p0 0
  have c1 := cell_of_block p0 1
  have c2 := cell_of_block p0 2
  have c3 := cell_of_block p0 3
  simp at c0 c1 c2 c3
  have c4 := cell_of_one p1
  have l0 := lt_heap p0
  have l1 := lt_heap p1
  have hkr1 := hkr.mono hb0
  have hbr1 := hbr.mono hb0
  refine wp_region_mix (by kernel_rfl) (by kernel_rfl) ?_
  repeat (go_big_quiet_step ((refine calls_mix (v := .int .i64 (formE s 1 l ks bs)) ?_; exact form_any _ _ _ _ _ _ _ _ _ _ s 1 l ks bs HN.out (by omega) (hsr.mono (mix_below _ _)) hwf (hkr1.mono (mix_below _ _)) hkw HK.out HB.out HNK.out HNB.out)))
  refine wpQuiet_nil ?_
  intro w2 hb2
  have hb02 := below_step hb0 hb2
  by_cases hfe : formE s 1 l ks bs = 0
  rotate_left
  · have hx1 : (formE s 1 l ks bs != 0) = true := by rw [bne_iff_ne]; exact hfe
    have hx2 : (formE s 1 l ks bs == 0) = false := by rw [beq_eq_false_iff_ne]; exact hfe
    have HR := Lib.hid (putR_bad s l ks bs hfe)
    clear hfe c0 c1 c2 c3 c4
    go_wp2
    go_ret2
    exact ⟨by rw [HR.out]; rfl, by rw [HR.out]; exact ho1.mono hb2, hb02.mono hbs, fun b hb _ => hb02.block b hb, fun g hne hg => .below hb02 (own_lt ho hne hg)⟩
  · have hx2 : (formE s 1 l ks bs == 0) = true := by rw [hfe]; rfl
    obtain ⟨hk4, hbl4, hkin⟩ := form_kids s l ks bs hfe
    have HFE := Lib.hid hfe
    have q1 := (hb2.block _ (lt_heap p1)).trans p1
    have q0 := (hb2.block _ (lt_heap p0)).trans p0
    have d4 := cell_of_one q1
    have l2 := lt_heap q1
    clear hfe c0 c1 c2 c3 c4
    go_wp2_with fail
    refine (indexFree _ _ _ _ s HN.out h400 (hsr.mono hb2)).mono ?_
    rintro e w3 ⟨rfl, hb3⟩
    have hb03 := below_step hb02 hb3
    have q1 := (hb3.block _ (lt_heap q1)).trans q1
    have q0 := (hb3.block _ (lt_heap q0)).trans q0
    have ho3 := (ho1.mono hb2).mono hb3
    rcases Nat.lt_or_ge (freeIx s) s.length with hf | hf
    rotate_left
    · have hf' : freeIx s = s.length := Nat.le_antisymm (freeIx_le s) hf
      have HR := Lib.hid (putR_full s l ks bs HFE.out hf')
      have hfi : freeI s = -1 := by unfold freeI; rw [if_neg (by omega)]
      clear d4
      go_wp2
      go_ret2
      exact ⟨by rw [HR.out]; rfl, by rw [HR.out]; exact ho3, hb03.mono hbs, fun b hb _ => hb03.block b hb, fun g hne hg => .below hb03 (own_lt ho hne hg)⟩
    · have HR := Lib.hid (putR_ok s l ks bs HFE.out hf)
      have hfi : freeI s = freeIx s := by unfold freeI; rw [if_pos hf]
      rw [hfi]
      have hfr := freeIx_refs s hf
      generalize freeIx s = k at *
      have hkn : k < n := by have := HN.out; omega
      have hk0 : (0 : Int) ≤ k := by omega
      have hkn' : (k : Int) < n := by omega
      obtain ⟨g, cap2, hv2, hR⟩ := ho3.at k hf
      rw [HN.out] at hv2
      simp only [Value.slice.injEq, true_and] at hv2
      obtain ⟨rfl, rfl⟩ := hv2
      have hle := hR.le
      have hne0 : s ≠ [] := fun e => by rw [e] at hf; simp at hf
      have hpg : pb ≠ g := hpn g hne0 rfl
      have e0 := cell_of_block q0 0
      have e1 := cell_of_block q0 1
      have e2 := cell_of_block q0 2
      have e3 := cell_of_block q0 3
      simp at e0 e1 e2 e3
      have e4 := cell_of_one q1
      have z0 := lt_heap q0
      have z1 := lt_heap q1
      have hkr3 := (hkr1.mono hb2).mono hb3
      have hbr3 := (hbr1.mono hb2).mono hb3
      have fz := fun j => free_of_block q0 j
      clear d4 hfi hsr hfr
      go_wp2_with fail
      go_region_with (first
        | (go_at_call 84; refine (clone_ints _ _ _ ks _ HK.out (by exact hkr3) HKA.out.2 HNK.out).mono ?_; rintro e w4 ⟨v4, rfl, hown4, -, hb4⟩; obtain ⟨a4, k4, rfl, -, -, -, -⟩ := hown4.shape'; have u2 := ((bcell hb4).1 _ _ z0).trans e2; have u3 := ((bcell hb4).1 _ _ z0).trans e3; have z4 := hb4.size; have uf := fun j => ((bcell hb4).2 w.heap.size j z0).trans (fz j))
        | (go_at_call 21; refine (clone_bytes_n _ _ _ bs _ HB.out (by exact Row.mono (w := w3.drew) hbr3 hb4) HBA.out.2 (by have := HNB.out; omega)).mono ?_; rintro e w5 ⟨v5, rfl, hown5, -, hb5⟩; obtain ⟨a5, k5, rfl, -, -, -, -⟩ := hown5.shape'; have y2 := ((bcell hb5).1 _ _ (Nat.lt_of_lt_of_le z0 z4)).trans u2; have y3 := ((bcell hb5).1 _ _ (Nat.lt_of_lt_of_le z0 z4)).trans u3; have z5 := hb5.size; have yf := fun j => ((bcell hb5).2 w.heap.size j (Nat.lt_of_lt_of_le z0 z4)).trans (uf j)))
      all_goals
        have hb34 : Below w3.heap.size w3 w4 := undrew hb4
        have z34 : w3.heap.size ≤ w4.heap.size := hb34.size
        have z45 := hb5.size
        have z03 := hb03.size
        have r0 := (hb5.block _ (Nat.lt_of_lt_of_le z0 z34)).trans ((hb34.block _ z0).trans q0)
        have r1 := heap_setCell_same' (heap_setCell_same' r0 2 (.slice a4 ks.length k4)) 3 (.slice a5 bs.length k5)
        simp only [List.setIfInBounds_toArray, List.set_cons_zero, List.set_cons_succ] at r1
        have hW : Below w.heap.size w ((w5.setCell ⟨w.heap.size, 2, none⟩ (.slice a4 ks.length k4)).setCell ⟨w.heap.size, 3, none⟩ (.slice a5 bs.length k5)) :=
          ((hb03.trans ((hb34.mono z03).trans (hb5.mono (by omega)))).setCell (Nat.le_refl _) _).setCell (Nat.le_refl _) _
        have hR6 : OwnR ((w5.setCell ⟨w.heap.size, 2, none⟩ (.slice a4 ks.length k4)).setCell ⟨w.heap.size, 3, none⟩ (.slice a5 bs.length k5)) base g s := by
          obtain ⟨g', cap', hv, hRw⟩ := ho.at k hf
          simp only [Value.slice.injEq, Option.some.injEq, Addr.mk.injEq] at hv
          obtain ⟨⟨rfl, _⟩, _, _⟩ := hv
          exact hRw.mono hW
        have l3g : g < w3.heap.size := hR.lt
        have o4 : Own .i64 3 w3.heap.size ((w5.setCell ⟨w.heap.size, 2, none⟩ (.slice a4 ks.length k4)).setCell ⟨w.heap.size, 3, none⟩ (.slice a5 bs.length k5)) (.slice a4 ks.length k4) ks :=
          ownsRow_setCell_below (ownsRow_setCell_below (a := ⟨w.heap.size, 2, none⟩) (hown4.mono hb5) z0 _) (a := ⟨w.heap.size, 3, none⟩) z0 _
        have o5 : Own .u8 5 w4.heap.size ((w5.setCell ⟨w.heap.size, 2, none⟩ (.slice a4 ks.length k4)).setCell ⟨w.heap.size, 3, none⟩ (.slice a5 bs.length k5)) (.slice a5 bs.length k5) bs :=
          ownsRow_setCell_below (ownsRow_setCell_below (a := ⟨w.heap.size, 2, none⟩) hown5 (Nat.lt_of_lt_of_le z0 z34) _) (a := ⟨w.heap.size, 3, none⟩) (Nat.lt_of_lt_of_le z0 z34) _
        have s4 := o4.slx l3g
        have s5 := o5.slx (g := g) (by omega)
        have t1 : ((w5.setCell ⟨w.heap.size, 2, none⟩ (.slice a4 ks.length k4)).setCell ⟨w.heap.size, 3, none⟩ (.slice a5 bs.length k5)).heap[pb]? = _ := (hW.block _ hpw).trans hbox
        have hg1 := grown_of_below hW (some g)
        clear e0 e1 e2 e3 e4 u2 u3 y2 y3 uf yf fz hown4 hown5 hb4 hb5 r0 q0 q1
        generalize (w5.setCell ⟨w.heap.size, 2, none⟩ (.slice a4 ks.length k4)).setCell ⟨w.heap.size, 3, none⟩ (.slice a5 bs.length k5) = W6 at *
        have e0 := cell_of_block r1 0
        have e1 := cell_of_block r1 1
        have e2 := cell_of_block r1 2
        have e3 := cell_of_block r1 3
        simp at e0 e1 e2 e3
        have e4 := cell_of_one t1
        have hB6 := hR6.blks k hf
        have g0 := hB6.refs
        have g1 := hB6.level
        obtain ⟨kv, g2, -⟩ := hB6.kids
        obtain ⟨bv, g3, -⟩ := hB6.bytes
        have gf := hR6.free
        have lg := hR6.lt
        have hR7 := hR6.setBlk k hf ⟨1, l, ks, bs⟩ _ _ s4 s5
        have lgw : g < w.heap.size := by
          obtain ⟨g', cap', hv, hRw⟩ := ho.at k hf
          simp only [Value.slice.injEq, Option.some.injEq, Addr.mk.injEq] at hv
          obtain ⟨⟨rfl, _⟩, _, _⟩ := hv
          exact hRw.lt
        have hkeep0 : ∀ b, b ≠ g → ((((W6.setCell ⟨g, k * 4, none⟩ (.int .i64 1)).setCell ⟨g, k * 4 + 1, none⟩ (.int .i64 l)).setCell ⟨g, k * 4 + 2, none⟩ (.slice a4 ks.length k4)).setCell ⟨g, k * 4 + 3, none⟩ (.slice a5 bs.length k5)).heap[b]? = W6.heap[b]? := fun b hb => by
          rw [Below.heap_setCell _ _ _ _ hb, Below.heap_setCell _ _ _ _ hb, Below.heap_setCell _ _ _ _ hb, Below.heap_setCell _ _ _ _ hb]
        have hkeep : ∀ b, b ≠ g → ((((W6.setCell ⟨g, k * 4, none⟩ (.int .i64 1)).setCell ⟨g, k * 4 + 1, none⟩ (.int .i64 l)).setCell ⟨g, k * 4 + 2, none⟩ (.slice a4 ks.length k4)).setCell ⟨g, k * 4 + 3, none⟩ (.slice a5 bs.length k5)).drew.heap[b]? = W6.heap[b]? := hkeep0
        have hg7 : w.grownBy ((((W6.setCell ⟨g, k * 4, none⟩ (.int .i64 1)).setCell ⟨g, k * 4 + 1, none⟩ (.int .i64 l)).setCell ⟨g, k * 4 + 2, none⟩ (.slice a4 ks.length k4)).setCell ⟨g, k * 4 + 3, none⟩ (.slice a5 bs.length k5)) (some g) := by
          refine ⟨hg1.os, hg1.tape, hg1.output, ?_, fun b hlt hb => ?_⟩
          · have := hg1.size; simp; exact this
          · rw [hkeep0 b (fun e => hb (by rw [e]))]; exact hg1.block b hlt hb
        have hR8 : OwnR (((((W6.setCell ⟨g, k * 4, none⟩ (.int .i64 1)).setCell ⟨g, k * 4 + 1, none⟩ (.int .i64 l)).setCell ⟨g, k * 4 + 2, none⟩ (.slice a4 ks.length k4)).setCell ⟨g, k * 4 + 3, none⟩ (.slice a5 bs.length k5)).drew) base g (s.set k ⟨1, l, ks, bs⟩) := OwnR.keep hR7 (fun _ _ => rfl)
        have s8 : SlX g .i64 (((((W6.setCell ⟨g, k * 4, none⟩ (.int .i64 1)).setCell ⟨g, k * 4 + 1, none⟩ (.int .i64 l)).setCell ⟨g, k * 4 + 2, none⟩ (.slice a4 ks.length k4)).setCell ⟨g, k * 4 + 3, none⟩ (.slice a5 bs.length k5)).drew) (.slice a4 ks.length k4) ks := s4.keep fun b hb _ => hkeep b hb
        have x2 := cell_of_block ((hkeep w.heap.size (by omega)).trans r1) 2
        simp only [List.getElem?_toArray, List.getElem?_cons_succ, List.getElem?_cons_zero] at x2
        have x4 := (hkeep pb hpg).trans t1
        have hg8 : w.grownBy ((((W6.setCell ⟨g, k * 4, none⟩ (.int .i64 1)).setCell ⟨g, k * 4 + 1, none⟩ (.int .i64 l)).setCell ⟨g, k * 4 + 2, none⟩ (.slice a4 ks.length k4)).setCell ⟨g, k * 4 + 3, none⟩ (.slice a5 bs.length k5)).drew (some g) := ⟨hg7.os, hg7.tape, hg7.output, hg7.size, hg7.block⟩
        have hRF8 : RowFrom w ((((W6.setCell ⟨g, k * 4, none⟩ (.int .i64 1)).setCell ⟨g, k * 4 + 1, none⟩ (.int .i64 l)).setCell ⟨g, k * 4 + 2, none⟩ (.slice a4 ks.length k4)).setCell ⟨g, k * 4 + 3, none⟩ (.slice a5 bs.length k5)).drew g n w.heap.size := by
          have hcw : ∀ i, W6.cell? ⟨g, i, none⟩ = w.cell? ⟨g, i, none⟩ := fun i => World.cell?_of_block (w := w) (hW.block g lgw)
          intro j hj b o ll c hl hb
          by_cases e : j = k
          · subst e
            have e2 : ((((W6.setCell ⟨g, j * 4, none⟩ (.int .i64 1)).setCell ⟨g, j * 4 + 1, none⟩ (.int .i64 l)).setCell ⟨g, j * 4 + 2, none⟩ (.slice a4 ks.length k4)).setCell ⟨g, j * 4 + 3, none⟩ (.slice a5 bs.length k5)).cell? ⟨g, j * 4 + 2, none⟩ = some (.slice a4 ks.length k4) := by
              rw [cell_setCell_ne (by omega)]
              exact World.cell?_setCell_same _ _ _ ((cell_setCell_ne (by omega)).trans ((cell_setCell_ne (by omega)).trans g2))
            have e3 : ((((W6.setCell ⟨g, j * 4, none⟩ (.int .i64 1)).setCell ⟨g, j * 4 + 1, none⟩ (.int .i64 l)).setCell ⟨g, j * 4 + 2, none⟩ (.slice a4 ks.length k4)).setCell ⟨g, j * 4 + 3, none⟩ (.slice a5 bs.length k5)).cell? ⟨g, j * 4 + 3, none⟩ = some (.slice a5 bs.length k5) :=
              World.cell?_setCell_same _ _ _ ((cell_setCell_ne (by omega)).trans ((cell_setCell_ne (by omega)).trans ((cell_setCell_ne (by omega)).trans g3)))
            refine ⟨fun h => ?_, fun h => ?_⟩
            · have h' := e2.symm.trans h
              simp only [Option.some.injEq, Value.slice.injEq] at h'
              rcases o4.block with ⟨q1, _⟩ | ⟨b', cap', cur', q1, q2, _⟩
              · simp only [Value.slice.injEq] at q1
                rw [q1.1] at h'
                cases h'.1
              · simp only [Value.slice.injEq] at q1
                rw [q1.1] at h'
                have := h'.1
                simp only [Option.some.injEq, Addr.mk.injEq] at this
                omega
            · have h' := e3.symm.trans h
              simp only [Option.some.injEq, Value.slice.injEq] at h'
              rcases o5.block with ⟨q1, _⟩ | ⟨b', cap', cur', q1, q2, _⟩
              · simp only [Value.slice.injEq] at q1
                rw [q1.1] at h'
                cases h'.1
              · simp only [Value.slice.injEq] at q1
                rw [q1.1] at h'
                have := h'.1
                simp only [Option.some.injEq, Addr.mk.injEq] at this
                omega
          · have e2 : ∀ r, 2 ≤ r → r ≤ 3 → ((((W6.setCell ⟨g, k * 4, none⟩ (.int .i64 1)).setCell ⟨g, k * 4 + 1, none⟩ (.int .i64 l)).setCell ⟨g, k * 4 + 2, none⟩ (.slice a4 ks.length k4)).setCell ⟨g, k * 4 + 3, none⟩ (.slice a5 bs.length k5)).cell? ⟨g, j * 4 + r, none⟩ = w.cell? ⟨g, j * 4 + r, none⟩ := fun r h1 h2 => by
              rw [cell_setCell_ne (by omega), cell_setCell_ne (by omega), cell_setCell_ne (by omega), cell_setCell_ne (by omega), hcw]
            exact ⟨fun h => (e2 2 (by omega) (by omega)).symm.trans h, fun h => (e2 3 (by omega) (by omega)).symm.trans h⟩
        clear hg7 hkeep0
        clear hR7 s4 s5 o4 o5 hkeep
        go_wp2_with fail
        go_region
        generalize ((((W6.setCell ⟨g, k * 4, none⟩ (Value.int .i64 1)).setCell ⟨g, k * 4 + 1, none⟩ (Value.int .i64 l)).setCell ⟨g, k * 4 + 2, none⟩ (Value.slice a4 ks.length k4)).setCell ⟨g, k * 4 + 3, none⟩ (Value.slice a5 bs.length k5)).drew = W7 at *
        clear e0 e1 e2 e3 e4 g0 g1 g2 g3 gf hB6 hR6 r1 t1
        have xl := lt_heap x4
        have hrbs : RefsB (s.set k ⟨1, l, ks, bs⟩) 1000000000 := by
          intro x hx
          rcases List.mem_or_eq_of_mem_set hx with h | h
          · exact hrb x h
          · rw [h]; simp
        obtain ⟨a4', c4', hv4, hf4, hc4⟩ := s8
        simp only [Value.slice.injEq, true_and] at hv4
        obtain ⟨rfl, rfl⟩ := hv4
        clear ho ho1 ho3 hR hkr hbr hkr1 hbr1 hkr3 hbr3 hwf hkw hrb
        go_wp2_with fail
        clear x2
        go_loopw [44] (fun i wr => ∃ m : Nat, m ≤ ks.length ∧ i = .int .i64 m ∧ OwnR wr base g (bump (s.set k ⟨1, l, ks, bs⟩) (ks.take m)) ∧ w.grownBy wr (some g) ∧ FarRow g .i64 wr a4 ks ∧ RowFrom w wr g n w.heap.size) (fun i _ => ks.length - (intOf i).toNat)
        case atStart => exact ⟨0, Nat.zero_le _, rfl, hR8, hg8, hf4, hRF8⟩
        case round =>
          clear hR8 hg8 hf4 x4 xl hg1 hW hRF8
          obtain ⟨m, hm, rfl, hR, hg, hf4, hrf⟩ := hrel
          have q1 := (hg.block pb hpw (by simp [hpg])).trans hbox
          have d1 := cell_of_one q1
          have dl := lt_heap q1
          have lg := hR.lt
          by_cases hlt : m < ks.length
          · have hm4 : m ≤ 4 := by omega
            have hbl : (bump (s.set k ⟨1, l, ks, bs⟩) (ks.take m)).length = n := by rw [bump_length, List.length_set]; exact HN.out
            have hrb := bump_refsB hrbs (by omega) (ks.take m)
            have hsn := bump_snoc (s.set k ⟨1, l, ks, bs⟩) (ks.take m) ks[m]
            rw [← List.take_succ_eq_append_getElem hlt] at hsn
            obtain ⟨kb, ko, rfl, hkg, hkc⟩ : ∃ b o, a4 = some ⟨b, o, none⟩ ∧ b ≠ g ∧ ∀ i (h : i < ks.length), wr.cell? ⟨b, o + i, none⟩ = some (.int .i64 ks[i]) := by
              rcases hf4 with h | h
              · rw [h] at hlt; simp at hlt
              · exact h
            have hck := hkc m hlt
            have hlk := World.block_lt_of_cell? _ _ hck
            have hki := hkin _ (List.getElem_mem hlt)
            have HSN := Lib.hid hsn
            have HF4 := Lib.hid hf4
            clear hsn hkc hf4
            generalize ks[m] = y at *
            rcases hki with rfl | ⟨hy1, hy2, _⟩
            · go_wp2
              go_roundw
              case rel => exact ⟨m + 1, by omega, by go_num, by rw [HSN.out, if_neg (by omega)]; exact hR, hg, HF4.out, hrf⟩
              case measure => simp [intOf]; omega
            · obtain ⟨j, rfl⟩ : ∃ j : Nat, y = j + 1 := ⟨(y - 1).toNat, by omega⟩
              have hj : j < n := by have := HN.out; omega
              have hjs : j < (bump (s.set k ⟨1, l, ks, bs⟩) (ks.take m)).length := by omega
              have hR2 := hR.setRefs j hjs ((bump (s.set k ⟨1, l, ks, bs⟩) (ks.take m))[j].refs + 1)
              have hsn := HSN.out
              rw [if_pos (by omega), addRef_at _ j hjs] at hsn
              rw [← hsn] at hR2
              have cj := (hR.blks j hjs).refs
              have fj := hR.free (j * 4)
              have hbj := hrb _ (List.getElem_mem hjs)
              have hlm : ((ks.take m).length : Int) ≤ 4 := by simp; omega
              have hb1 := hbj.1
              have hb2 : (bump (s.set k ⟨1, l, ks, bs⟩) (ks.take m))[j].refs ≤ 1000000004 := by omega
              have HR2 := Lib.hid hR2
              have hjn : (j : Int) < n := by omega
              clear hsn hR2 hbj hrb hR hlm hbl hy1 hy2
              generalize (bump (s.set k ⟨1, l, ks, bs⟩) (ks.take m))[j].refs = rj at *
              have HG := Lib.hid (grown_set hg ⟨g, j * 4, none⟩ rfl (.int .i64 (rj + 1)))
              have HF5 := Lib.hid (HF4.out.keep (w' := wr.setCell ⟨g, j * 4, none⟩ (.int .i64 (rj + 1))) fun b hb _ => Below.heap_setCell _ _ _ _ hb)
              go_wp2
              go_roundw
              case rel => exact ⟨m + 1, by omega, by go_num, HR2.out, HG.out, HF5.out, hrf.refs j _⟩
              case measure => simp [intOf]; omega
          · obtain rfl : m = ks.length := by omega
            rw [List.take_length] at hR
            clear d1
            go_wp2
            go_ret2
            exact ⟨by rw [HR.out]; rfl, by rw [HR.out]; exact hR.own (by rw [bump_length, List.length_set]; exact HN.out) (by have := hcd'.1; have := HN.out; omega), grown_below hg hR.le hbs, fun b hb hn => hg.block b hb (by simpa using hn g hne0 rfl), fun g' _ hg' => by
              simp only [Option.some.injEq, Addr.mk.injEq, and_true] at hg'
              subst hg'
              exact hrf⟩

end Go.Proofs.Ytfmgdjgedhnmeaa
