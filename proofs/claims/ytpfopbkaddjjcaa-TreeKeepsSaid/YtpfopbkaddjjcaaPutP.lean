/- Put, in plain words; the first free block. -/
import Derived.Test.YtpfopbkaddjjcaaKeep
namespace Go.Proofs.Ytpfopbkaddjjcaa
open Go.RowKit
set_option linter.unusedVariables false

/-- the first free block's place; as many as there are, if none is -/
def freeIx (s : List Blk) : Nat := s.findIdx fun x => decide (x.refs = 0)
theorem freeIx_at (s : List Blk) (k : Nat) (h : k < s.length) (h0 : s[k].refs = 0) (hb : ∀ j (hj : j < k), (s[j]'(by omega)).refs ≠ 0) : freeIx s = k := by
  unfold freeIx
  rw [List.findIdx_eq h]
  exact ⟨by simpa using h0, fun j hj => by simpa using hb j hj⟩
theorem freeIx_none (s : List Blk) (hb : ∀ j (hj : j < s.length), s[j].refs ≠ 0) : freeIx s = s.length := by
  unfold freeIx
  rw [List.findIdx_eq_length]
  intro x hx
  obtain ⟨j, hj, rfl⟩ := List.getElem_of_mem hx
  simpa using hb j hj
theorem freeIx_le (s : List Blk) : freeIx s ≤ s.length := List.findIdx_le_length
theorem freeIx_refs (s : List Blk) (h : freeIx s < s.length) : s[freeIx s].refs = 0 := by
  exact of_decide_eq_true (List.findIdx_getElem (w := h) (p := fun x : Blk => decide (x.refs = 0)) (xs := s))

/-- what these hold is held once more -/
def bump (s : List Blk) (ks : List Int) : List Blk := ks.foldl (fun s a => if 0 < a then addRef s a 1 else s) s
theorem bump_nil (s : List Blk) : bump s [] = s := rfl
theorem bump_snoc (s : List Blk) (ks : List Int) (a : Int) : bump s (ks ++ [a]) = if 0 < a then addRef (bump s ks) a 1 else bump s ks := by
  simp [bump, List.foldl_append]
theorem bump_length (s : List Blk) (ks : List Int) : (bump s ks).length = s.length := by
  induction ks generalizing s with
  | nil => rfl
  | cons a ks ih =>
    have := ih (if 0 < a then addRef s a 1 else s)
    simp only [bump, List.foldl_cons] at *
    rw [this]
    split
    · exact addRef_length _ _ _
    · rfl

/-- held this often at most -/
def RefsB (s : List Blk) (M : Int) : Prop := ∀ x ∈ s, 0 ≤ x.refs ∧ x.refs ≤ M

theorem addRef_refsB {s : List Blk} {M : Int} (h : RefsB s M) (a : Int) (h0 : 0 ≤ M) : RefsB (addRef s a 1) (M + 1) := by
  intro x hx
  unfold addRef at hx
  rcases List.mem_or_eq_of_mem_set hx with h1 | h1
  · have := h x h1; omega
  · rw [h1]
    simp only
    unfold blk
    cases h2 : s[(a - 1).toNat]? with
    | none => simp [noBlk]; omega
    | some y =>
      have := h y (List.mem_of_getElem? h2)
      simp only [Option.getD_some]
      omega

theorem bump_refsB {s : List Blk} {M : Int} (h : RefsB s M) (h0 : 0 ≤ M) (ks : List Int) : RefsB (bump s ks) (M + ks.length) := by
  induction ks generalizing s M with
  | nil => simpa [bump] using h
  | cons a ks ih =>
    simp only [bump, List.foldl_cons]
    have h1 : RefsB (if 0 < a then addRef s a 1 else s) (M + 1) := by
      split
      · exact addRef_refsB h a h0
      · intro x hx; have := h x hx; omega
    have := ih h1 (by omega)
    intro x hx
    have h3 := this x hx
    simp only [List.length_cons]
    omega

/-- Put: the store, the address, what is wrong -/
def putR (s : List Blk) (l : Int) (ks bs : List Int) : List Blk × Int × Int :=
  if formE s 1 l ks bs ≠ 0 then (s, 0, formE s 1 l ks bs)
  else if freeIx s = s.length then (s, 0, 8)
  else (bump (s.set (freeIx s) ⟨1, l, ks, bs⟩) ks, (freeIx s : Int) + 1, 0)

theorem putR_bad (s : List Blk) (l : Int) (ks bs : List Int) (h : formE s 1 l ks bs ≠ 0) : putR s l ks bs = (s, 0, formE s 1 l ks bs) := by unfold putR; rw [if_pos h]
theorem putR_full (s : List Blk) (l : Int) (ks bs : List Int) (h : formE s 1 l ks bs = 0) (h1 : freeIx s = s.length) : putR s l ks bs = (s, 0, 8) := by unfold putR; rw [if_neg (by simp [h]), if_pos h1]
theorem putR_ok (s : List Blk) (l : Int) (ks bs : List Int) (h : formE s 1 l ks bs = 0) (h1 : freeIx s < s.length) : putR s l ks bs = (bump (s.set (freeIx s) ⟨1, l, ks, bs⟩) ks, (freeIx s : Int) + 1, 0) := by
  unfold putR; rw [if_neg (by simp [h]), if_neg (by omega)]

/-- the kids of what is right by itself -/
theorem form_kids (s : List Blk) (l : Int) (ks bs : List Int) (h : formE s 1 l ks bs = 0) : ks.length ≤ 4 ∧ bs.length ≤ 4 ∧ ∀ k ∈ ks, k = 0 ∨ (1 ≤ k ∧ k ≤ s.length ∧ thereB s k = true) := by
  have h1 : formB s ⟨1, l, ks, bs⟩ = 0 := h
  rcases formB_zero s _ h1 with ⟨h2, _⟩ | ⟨_, _, _, hk, hb⟩ | ⟨_, _, _, _, hk, hb, ha, _⟩
  · simp at h2
  · simp only at hk hb
    rw [hk, hb]; exact ⟨by simp, by simp, fun k h => by cases h⟩
  · simp only at hk hb ha
    rw [hb]
    refine ⟨by omega, by simp, fun k hkm => ?_⟩
    have := List.all_eq_true.1 ha k hkm
    unfold kidOk at this
    simp only [Bool.or_eq_true, decide_eq_true_eq, Bool.and_eq_true] at this
    rcases this with h0 | ⟨h1, _⟩
    · exact .inl h0
    · obtain ⟨j, hj, rfl, _⟩ := there_in h1
      exact .inr ⟨by omega, by omega, h1⟩

theorem put_isfree (w : World) (b : Blk) (kv bv : Value) (hk : ∃ a n c, kv = .slice a n c) (hb : ∃ a n c, bv = .slice a n c) :
    Calls Try.prog 94 #[.agg #[.int .i64 b.refs, .int .i64 b.level, kv, bv]] w fun e w' => e = .returned (.bool (b.refs == 0)) ∧ Below w.heap.size w w' := by
  obtain ⟨a1, n1, c1, rfl⟩ := hk
  obtain ⟨a2, n2, c2, rfl⟩ := hb
  go_enter Try.func94, Try.ntmps94
  go_wp2
  go_ret
  exact ⟨rfl, (Below.refl _ _).alloc (Nat.le_refl _) _⟩

/-- a number that tells the first free block -/
def freeI (s : List Blk) : Int := if freeIx s < s.length then (freeIx s : Int) else -1

set_option maxRecDepth 100000 in
set_option maxHeartbeats 1000000 in
theorem indexFree (w : World) (ao : Option Addr) (n cap : Nat) (s : List Blk) (hn : s.length = n) (h400 : n ≤ 400) (hs : StoRow w ao s) :
    Calls Try.prog 93 #[.slice ao n cap, .func (.func 94) #[] #[]] w fun e w' => e = .returned (.int .i64 (freeI s)) ∧ Below w.heap.size w w' := by
  have HN := Lib.hid hn
  clear hn
  go_enter Try.func93, Try.ntmps93
  go_wp2
  go_loopw [8] (fun i wr => ∃ k : Nat, k ≤ n ∧ i = .int .i64 k ∧ (∀ j (hj : j < s.length), j < k → s[j].refs ≠ 0) ∧ Below w.heap.size w wr) (fun i _ => n - (intOf i).toNat)
  case atStart => exact ⟨0, Nat.zero_le _, rfl, fun j _ hj => absurd hj (Nat.not_lt_zero _), Below.refl _ _⟩
  case round =>
    obtain ⟨k, hkn, rfl, hno, hbel⟩ := hrel
    have HNO := Lib.hid hno
    clear hno
    by_cases hlt : k < n
    · have hks : k < s.length := by have := HN.out; omega
      obtain ⟨b, o, rfl, hq⟩ := (hs.mono hbel).at k hks
      have hB := hq k hks
      have c0 := hB.refs
      have c1 := hB.level
      obtain ⟨v2, c2, kao, kcap, rfl, hrow, hcd⟩ := hB.kids
      obtain ⟨v3, c3, bao, bcap, rfl, hrow3, hcd3⟩ := hB.bytes
      have lb := hB.lt
      clear hq hB hrow hrow3 hcd hcd3
      go_wp2_with fail
      refine (put_isfree _ s[k] _ _ ⟨_, _, _, rfl⟩ ⟨_, _, _, rfl⟩).mono ?_
      rintro e w2 ⟨rfl, hb2⟩
      by_cases h0 : s[k].refs = 0
      · have hb : (s[k].refs == 0) = true := by rw [h0]; rfl
        have hfx := freeIx_at s k hks h0 (fun j hj => HNO.out j (by omega) hj)
        have HF := Lib.hid (show freeI s = k by unfold freeI; rw [hfx, if_pos hks])
        clear h0 hfx
        go_wp2
        go_ret
        exact ⟨ret_int HF.out.symm, below_step hbel hb2⟩
      · have hb : (s[k].refs == 0) = false := by rw [beq_eq_false_iff_ne]; exact h0
        have H0 := Lib.hid h0
        clear h0
        go_wp2
        go_roundw
        case rel =>
          refine ⟨k + 1, by omega, by go_num, fun j hj hjk => ?_, below_step hbel hb2⟩
          rcases (show j < k ∨ j = k from by omega) with e | rfl
          · exact HNO.out j hj e
          · exact H0.out
        case measure => simp [intOf]; omega
    · obtain rfl : k = n := by omega
      have hfx := freeIx_none s (fun j hj => HNO.out j hj (by have := HN.out; omega))
      have HF := Lib.hid (show freeI s = -1 by unfold freeI; rw [hfx, if_neg (by omega)])
      clear hfx
      go_wp2
      go_ret
      exact ⟨ret_int HF.out.symm, hbel⟩
end Go.Proofs.Ytpfopbkaddjjcaa
