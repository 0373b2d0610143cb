/- bytes.Count of nought. -/
import Derived.Test.YtodogcokljmkmaaSeal
import Derived.Shelf.Bytes.SlCountOne
namespace Go.Proofs.Ytodogcokljmkmaa
open Go.RowKit
set_option linter.unusedVariables false

theorem countByte_zero (xs : List Int) (h : Byt xs) : Lib.countByte (Lib.bytesOf xs) (0 : Int).toNat.toUInt8 = ((xs.count 0 : Nat) : Int) := by
  have key : ∀ ys : List Int, Byt ys → (ys.map fun n => UInt8.ofNat n.toNat).count 0 = ys.count 0 := by
    intro ys
    induction ys with
    | nil => intro _; rfl
    | cons y ys ih =>
      intro hy
      have h0 := hy y (by simp)
      have ih := ih fun x hx => hy x (by simp [hx])
      rw [List.map_cons, List.count_cons, List.count_cons, ih]
      congr 1
      by_cases e : y = 0
      · subst e; rfl
      · have : UInt8.ofNat y.toNat ≠ 0 := fun e2 => by
          have h3 := congrArg UInt8.toNat e2
          simp at h3
          omega
        rw [if_neg (by simpa using this), if_neg (by simpa using e)]
  exact congrArg Nat.cast (key xs h)

set_option maxRecDepth 1000000 in
set_option maxHeartbeats 2000000 in
theorem count_any (w : World) (ao : Option Addr) (n c d b2 : Nat) (xs : List Int) (hn : xs.length = n) (hr : Row .u8 w ao xs) (hby : Byt xs) (hc2 : w.cell? ⟨b2, 0, none⟩ = some (.int .u8 0)) :
    Calls Try.prog 70 #[.slice ao n c, .slice (some ⟨b2, 0, none⟩) 1 d] w fun e w' => e = .returned (.int .i64 ((xs.count 0 : Nat) : Int)) ∧ w' = w := by
  have hz := countByte_zero xs hby
  go_enter Try.func70, Try.ntmps70
  go_wp2
  rcases ao with _ | a
  · have hx0 : xs = [] := hr.resolve_right (fun ⟨_, _, h, _⟩ => by cases h)
    rw [run_callFunc_extern Try.func100 (by kernel_rfl) (by kernel_rfl) (by kernel_rfl) (e := Extern.BytealgCount.count) (by kernel_rfl), Lib.run_countNil w n c 0]
    simp only [Result.andThen]
    rw [Oper.upon_value]
    go_wp2
    go_ret
    subst hx0
    exact ⟨rfl, rfl⟩
  · have hcc : ∀ i, i < n → w.cell? (a.add i) = some (.int .u8 (xs.getD i 0)) := by
      intro i hi
      rcases hr with h0 | ⟨b, o, he, hc⟩
      · rw [h0] at hn; simp at hn; omega
      · simp only [Option.some.injEq] at he
        subst he
        have := hc i (by omega)
        rw [show (⟨b, o, none⟩ : Addr).add i = ⟨b, o + i, none⟩ from by unfold Addr.add; simp, this, List.getD_eq_getElem?_getD, List.getElem?_eq_getElem (by omega)]
        rfl
    rw [run_callFunc_extern Try.func100 (by kernel_rfl) (by kernel_rfl) (by kernel_rfl) (e := Extern.BytealgCount.count) (by kernel_rfl), Lib.run_countAt w a n c xs hn hcc 0]
    simp only [Result.andThen]
    rw [Oper.upon_value]
    rw [hz]
    go_wp2
    go_ret
    exact ⟨rfl, rfl⟩
end Go.Proofs.Ytodogcokljmkmaa
