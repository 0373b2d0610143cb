/- Whatever the store, the block and the address: rookerylaw.StoreBack returns true, and its arguments read as before. No condition. -/
import Derived.Test.YtpfopbkaddjjcaaRows
import Derived.Test.YtpfopbkaddjjcaaOpen
import Derived.Test.YtpfopbkaddjjcaaBackW
import Derived.SizedLaws
import Derived.WalkKit
import Derived.ProofKit
import Derived.OpenShut
import Derived.ShutString
import Derived.ChangeOld
import Derived.Below
namespace Go.Proofs.Ytpfopbkaddjjcaa.storeBack
open Go.ChangeShapes Go.WideShapes Go.ChangeAt Go.RowKit
open Go.ChangeMaps (open_string shut_string)
set_option linter.unusedVariables false

theorem own : ownKnob Try.prog.godebug = none := by kernel_rfl
theorem laidOut : laidOutB Try.prog = true := by kernel_rfl

theorem walk (w : World) (a0 : Option Addr) (n0 : Nat) (c0 : Nat) (s0 : List Blk) (r1 : Int) (l1 : Int) (ka1 : Option Addr) (nk1 : Nat) (kc1 : Nat) (ba1 : Option Addr) (nb1 : Nat) (bc1 : Nat) (ks1 : List Int) (bs1 : List Int) (x2 : Int) (hn0 : s0.length = n0) (h410 : n0 ≤ 2199023255552) (hs0 : StoRow w a0 s0) (hwf0 : WfS s0) (hc0 : Capd a0 n0 c0) (hk1 : ks1.length = nk1) (hb1 : bs1.length = nb1) (hkr1 : Row .i64 w ka1 ks1) (hbr1 : Row .u8 w ba1 bs1) (hka1 : Capd ka1 nk1 kc1) (hba1 : Capd ba1 nb1 bc1) (hwb1 : WfB ⟨r1, l1, ks1, bs1⟩) (hx2 : I64 x2) :
    Calls Try.prog 9 #[.agg #[.slice a0 n0 c0], .agg #[.int .i64 r1, .int .i64 l1, .slice ka1 nk1 kc1, .slice ba1 nb1 bc1], .int .i64 x2] w fun e w' => e = .returned (.bool true) ∧ Below w.heap.size w w' := by
  exact law_back w a0 ka1 ba1 n0 c0 nk1 kc1 nb1 bc1 s0 r1 l1 x2 ks1 bs1 hn0 h410 hs0 hwf0 hc0 hk1 hb1 hkr1 hbr1 hka1 hba1 hwb1 (by have := hwb1.klen; simp only at this; omega) (by have := hwb1.blen; simp only at this; omega)

set_option maxRecDepth 100000 in
set_option maxHeartbeats 4000000 in
theorem lifted (os : Os) (started : os.Started) (H : Type) (enc : TypeId × Value → H) :
    ReturnsInHanded {} Try.checked os 9 .any (Rows.storeBackSpec.pre6 enc Try.prog Try.f9 Rows.storeBackRow.domain false) (Rows.storeBackSpec.post enc Try.prog Try.f9 false true false false) := by
  refine returnsInHanded_of_change_sized (C := Try.checked) own started (by kernel_rfl) Try.func9
    (ChangeSpec.witness6 (enc := enc) (C := Try.checked) false ⟨#[], #[.agg #[.slice none 0 0], .agg #[.int .i64 0, .int .i64 0, .slice none 0 0, .slice none 0 0], .int .i64 0], []⟩ 8 (by kernel_rfl) (by kernel_rfl) (by kernel_rfl) (by kernel_rfl)) ?_
  intro W base args ds gs before hval0 hW hcnd hwt _
  have hval : ∀ (j : Nat) t v, Try.f9.params[j]? = some t → args[j]? = some v → Value.okWide Try.prog W .any base t v := hval0
  have hW' := hW
  obtain ⟨p, q, hA0, hV, rfl, hfz, hnd⟩ := hW
  have hA : DataW.TrodAll enc Try.prog W 0 (fun _ => true) true Try.f9.params.toList args.toList ds p := hA0
  rw [Try.params9] at hA hval hwt
  obtain ⟨v0, vs0, d0, ds0, p0, q0, hargs, rfl, rfl, h0, tr0⟩ := trodAll_cons hA
  obtain ⟨v1, vs1, d1, ds1, p1, q1, rfl, rfl, rfl, h1, tr1⟩ := trodAll_cons tr0
  obtain ⟨v2, vs2, d2, ds2, p2, q2, rfl, rfl, rfl, h2, tr2⟩ := trodAll_cons tr1
  obtain ⟨rfl, rfl, rfl⟩ := trodAll_nil tr2
  obtain rfl : args = #[v0, v1, v2] := by cases args; simp_all
  obtain ⟨rfl, rfl⟩ := trodVars_none hV
  have hwe := fun n hn => List.all_eq_true.1 hwt n hn
  have k0 := h0
  have lt0 : ∀ x ∈ p0, x.block < W.heap.size := by obtain ⟨m, hm⟩ := k0; exact DataW.trod_lt m _ _ _ hm
  have k1 := h1
  have lt1 : ∀ x ∈ p1, x.block < W.heap.size := by obtain ⟨m, hm⟩ := k1; exact DataW.trod_lt m _ _ _ hm
  obtain ⟨a0, n0, c0, s0, rfl, hn0, hs0, hwf0, hc0, h410⟩ := open_store (hval 0 40 v0 rfl rfl) h0 (fun n hn => by simpa using hwe n (DataW.weights_mem_each (j := 0) (t := 40) (d := d0) rfl rfl n hn))
  obtain ⟨r1, l1, ka1, nk1, kc1, ba1, nb1, bc1, ks1, bs1, rfl, hk1, hb1, hkr1, hbr1, hka1, hba1, hwb1⟩ := open_block (hval 1 50 v1 rfl rfl) h1 (fun n hn => by simpa using hwe n (DataW.weights_mem_each (j := 1) (t := 50) (d := d1) rfl rfl n hn))
  obtain ⟨x2, rfl, rfl, rfl, w2⟩ := open_int Try.underlying3 (hval 2 3 v2 rfl rfl) h2
  clear hA0 hval0
  refine (walk W a0 n0 c0 s0 r1 l1 ka1 nk1 kc1 ba1 nb1 bc1 ks1 bs1 x2 hn0 h410 hs0 hwf0 hc0 hk1 hb1 hkr1 hbr1 hka1 hba1 hwb1 (i64_of w2)).mono fun e W' ⟨he, bel⟩ => ?_
  subst he
  exact ⟨_, rfl, _, _, _, [], _, [], hW', trodAll_mk1 (shut_bool Try.underlying4 _), (trodAll_cons_mk (Below.trod laidOut (by kernel_rfl) (of_decide_eq_true (by kernel_rfl)) k0 bel lt0) (trodAll_cons_mk (Below.trod laidOut (by kernel_rfl) (of_decide_eq_true (by kernel_rfl)) k1 bel lt1) (trodAll_cons_mk (shut_int Try.underlying3 w2) trodAll_mk0))), rfl, bel.frame _, fun h => by cases h⟩

theorem over : Rows.storeBackRow.holds Try.pinned (OpenSpec.ofChange Rows.storeBackSpec) :=
  OpenClaim.holds_of_wide 9 Try.f9 rfl rfl rfl rfl rfl rfl rfl ⟨rfl, rfl, rfl, rfl, rfl⟩ rfl rfl rfl rfl rfl (by kernel_rfl) Try.func9 (by kernel_rfl)
    (of_decide_eq_true (by kernel_rfl)) (by unfold Func.isWrapper; first | (rw [if_pos (by decide +kernel)]; kernel_rfl) | (rw [if_neg (by decide +kernel)]; exact ⟨rfl, rfl⟩))
    (fun os started H enc _ => lifted os started H enc)

/-- ████ THE STATEMENT ████ -/
theorem proved : Rows.StoreBackSaid := over
end Go.Proofs.Ytpfopbkaddjjcaa.storeBack
