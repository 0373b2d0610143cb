/- slices.Concat over bytes, of three; disk.slot. -/
import Derived.Test.YtfmgdjgedhnmeaaDiskS
import Derived.Lib.AppendZerosOnto
namespace Go.Proofs.Ytfmgdjgedhnmeaa
open Go.RowKit
set_option linter.unusedVariables false
set_option linter.unusedSimpArgs false

/-- append, at the operation, by what it does -/
theorem append_run {P : Program} {w w' : World} {ops : Array Oper} {rest : List Oper} {o : Oper} {a : Act} {Q : Exit → Act → World → Prop} (hgd : o.guard = none) (s x : Operand) (t u : TypeId) (ho : o.op = .call { callee := .builtin .append, args := #[s, x], argTypes := #[t, u] })
    {vs vx v : Value} (hs : a.eval s = vs) (hx : a.eval x = vx) (hrun : ∀ ty, (Builtin.append_ #[t, u] ty #[vs, vx]).run P w = .ok v w') (hK : wpList P ops Q rest (a.put o.dst v) w') : wpList P ops Q (o :: rest) a w := by
  refine wpList_plain hgd fun K' hK' => ?_
  unfold Oper.wp execOp
  simp only [ho, resolve, invoke, builtin, Sem.run_bind, Sem.run_pure, Result.andThen_ok, List.map_toArray, List.map_cons, List.map_nil, hs, hx, hrun]
  exact hK' _ _ hK

set_option maxRecDepth 100000 in
set_option maxHeartbeats 2000000 in
/-- room for m bytes -/
theorem growB_nil (w : World) (z : Int) (m : Nat) (hz : z = (m : Int)) (h0 : 0 < m) (hm : m ≤ 35184372088832) :
    Calls Try.prog 141 #[.slice none 0 0, .int .i64 z] w fun e w' => ∃ v, e = .returned v ∧ Own .u8 5 w.heap.size w' v [] ∧ Below w.heap.size w w' := by
  subst hz
  obtain ⟨i0, hi, hz0, hz1, hz2⟩ := info_parts info_u8
  have hr : ∀ ty, (Builtin.append_ #[38, 3] ty #[.slice none 0 0, .int .i64 (m : Int)]).run Try.prog w = .ok (.slice (some ⟨w.heap.size, 0, none⟩) (0 + m) (grownCap w (0 + m) 0 5)) (w.drew.alloc (.cells ((#[] : Array Value) ++ Builtin.zeroCells (Value.int .u8 0).cells m ++ Builtin.zeroCells (Value.int .u8 0).cells (grownCap w (0 + m) 0 5 - (0 + m))) 5)) := fun ty => by
    have h := Lib.run_append_grow_zeros w 38 3 ty 5 i0 (.int .u8 0) .i64 .i64 Try.underlying38 Try.underlying3 hi hz0 none 0 0 [] (run_firstCells_none w.drew i0.size 0 0 0) m (by omega) (by omega) (by omega) (by omega) (by rw [hz2]; omega) (by rw [Nat.zero_add, nextslicecap_zero h0, hz2]; omega)
    exact h
  rw [Nat.zero_add] at hr
  have hG := grownCap_ge w m 0 5
  have hG2 := grownCap_le_maxLen w m 0 5 (by unfold maxLen; omega)
  unfold maxLen at hG2
  generalize grownCap w m 0 5 = G at *
  have HR := Lib.hid hr
  have hsz : ((#[] : Array Value) ++ Builtin.zeroCells (Value.int .u8 0).cells m ++ Builtin.zeroCells (Value.int .u8 0).cells (G - m)).size = G := by
    simp [Builtin.zeroCells, Value.cells]
    omega
  have HSZ := Lib.hid hsz
  clear hr hsz
  generalize ((#[] : Array Value) ++ Builtin.zeroCells (Value.int .u8 0).cells m ++ Builtin.zeroCells (Value.int .u8 0).cells (G - m)) = cur at *
  have hm0 : (0 : Int) < m := by omega
  have hbw : Below w.heap.size w (w.drew.alloc (.cells cur 5)) := ((Below.refl _ _).drew).alloc (by simp) _
  have hnew : (w.drew.alloc (.cells cur 5)).heap[w.heap.size]? = some (.cells cur 5 (0, 0)) := heap_alloc_new w.drew (.cells cur 5)
  go_enter Try.func141, Try.ntmps141
  go_wp2_with (first
    | (at_builtin; refine append_run rfl (.tmp 20) (.tmp 21) 38 3 rfl rfl rfl HR.out ?_))
  go_ret
  exact ⟨_, rfl, ⟨by simp, .inr ⟨_, G, cur, rfl, Nat.le_refl _, hnew, Nat.zero_le _, by unfold maxLen; omega, by have := HSZ.out; omega, by simp⟩⟩, hbw⟩

theorem own_above {k : IntKind} {e base : Nat} {w : World} {v : Value} {zs : List Int} (h : Own k e base w v zs) : ∀ q, v.ownBlock = some q → base ≤ q := by
  intro q hq
  rcases h.block with ⟨rfl, _⟩ | ⟨b, cap, cur, rfl, hb, _⟩
  · cases hq
  · simp only [Value.ownBlock, Option.some.injEq] at hq
    omega
/-- the parts of a concatenation -/
def parts3 (xs ys zs : List Int) (k : Nat) : List Int := if k = 0 then [] else if k = 1 then xs else if k = 2 then xs ++ ys else xs ++ ys ++ zs
theorem parts3_len {xs ys zs : List Int} {n m l : Nat} (hn : xs.length = n) (hm : ys.length = m) (hl : zs.length = l) (k : Nat) : (parts3 xs ys zs k).length ≤ n + m + l := by
  unfold parts3
  split
  · simp
  · split
    · omega
    · split
      · simp only [List.length_append]; omega
      · simp only [List.length_append]; omega

set_option maxRecDepth 100000 in
set_option maxHeartbeats 8000000 in
theorem concat_three (w : World) (g0 : Nat) (ao bo co : Option Addr) (n ac m bc l cc : Nat) (xs ys zs : List Int) (hn : xs.length = n) (hm : ys.length = m) (hl : zs.length = l) (h0 : 0 < n) (hsm : n + m + l ≤ 20000000) (hr : Row .u8 w ao xs) (hs : Row .u8 w bo ys) (ht : Row .u8 w co zs) (ha : ao = none → ac = 0) (hb : bo = none → bc = 0) (hc : co = none → cc = 0)
    (hg : w.heap[g0]? = some (.cells #[.slice ao n ac, .slice bo m bc, .slice co l cc] 38 (0, 0))) :
    Calls Try.prog 129 #[.slice (some ⟨g0, 0, none⟩) 3 3] w fun e w' => ∃ v, e = .returned v ∧ Own .u8 5 w.heap.size w' v (xs ++ ys ++ zs) ∧ Below w.heap.size w w' := by
  have HN := Lib.hid hn
  have HM := Lib.hid hm
  have HL := Lib.hid hl
  have c0 := cell_of_block hg 0
  have c1 := cell_of_block hg 1
  have c2 := cell_of_block hg 2
  simp at c0 c1 c2
  have l0 := lt_heap hg
  have h0' : (0 : Int) < n := by omega
  have hsm' : (n : Int) + m + l ≤ 20000000 := by omega
  clear hn hm hl hg
  go_enter Try.func129, Try.ntmps129
  go_wp2
  go_loop [3, 11] (fun u i => (u = .int .i64 0 ∧ i = .int .i64 0) ∨ (u = .int .i64 n ∧ i = .int .i64 1) ∨ (u = .int .i64 ((n : Int) + m) ∧ i = .int .i64 2) ∨ (u = .int .i64 ((n : Int) + m + l) ∧ i = .int .i64 3)) (fun _ i => 3 - (intOf i).toNat)
  case atStart => exact .inl ⟨rfl, rfl⟩
  case round =>
    rcases hrel with ⟨rfl, rfl⟩ | ⟨rfl, rfl⟩ | ⟨rfl, rfl⟩ | ⟨rfl, rfl⟩
    · go_wp2
      go_round
      case rel => exact .inr (.inl ⟨by go_num, by go_num⟩)
      case measure => simp [intOf]
    · go_wp2
      go_round
      case rel => exact .inr (.inr (.inl ⟨by go_num, by go_num⟩))
      case measure => simp [intOf]
    · go_wp2
      go_round
      case rel => exact .inr (.inr (.inr ⟨by go_num, by go_num⟩))
      case measure => simp [intOf]
    · go_wp2_with fail
      refine (growB_nil w ((n : Int) + m + l) (n + m + l) (by omega) (by omega) (by omega)).mono ?_
      rintro e w1 ⟨v, rfl, hown, hb1⟩
      go_wp2
      go_loopw [6, 27] (fun v i wr => ∃ k : Nat, k ≤ 3 ∧ i = .int .i64 k ∧ Hid (Own .u8 5 w.heap.size wr v (parts3 xs ys zs k)) ∧ Below w.heap.size w1 wr) (fun _ i _ => 3 - (intOf i).toNat)
      case atStart => exact ⟨0, by omega, rfl, Lib.hid hown, Below.refl _ _⟩
      case round =>
        clear hown
        obtain ⟨k, hk, rfl, HO, hbel⟩ := hrel
        have hbw := hb1.trans hbel
        have d0 := (hbw.cell (p := ⟨g0, 0, none⟩) l0).trans c0
        have d1 := (hbw.cell (p := ⟨g0, 1, none⟩) l0).trans c1
        have d2 := (hbw.cell (p := ⟨g0, 2, none⟩) l0).trans c2
        have l1 := Nat.lt_of_lt_of_le l0 hbw.size
        have HLN := Lib.hid (parts3_len HN.out HM.out HL.out k)
        have hsz := hbw.size
        have HAB := Lib.hid (own_above HO.out)
        have hxr := Lib.hid (hr.mono hbw)
        have hyr := Lib.hid (hs.mono hbw)
        have hzr := Lib.hid (ht.mono hbw)
        rcases (show k = 0 ∨ k = 1 ∨ k = 2 ∨ k = 3 from by omega) with rfl | rfl | rfl | rfl
        · have HLE := Lib.hid (show (parts3 xs ys zs 0).length + xs.length ≤ 1000000000 by have := HLN.out; have := HN.out; omega)
          have hnl := HN.out
          subst hnl
          go_wp2_with (first
            | (at_builtin; refine append_w rfl (.tmp 31) (.tmp 32) 38 rfl 5 w.heap.size Try.underlying38 info_u8 _ (parts3 xs ys zs 0) xs ao ac rfl HO.out rfl hxr.out ha HLE.out hsz ?_; intro v2 w2 hown2 hg2 _; have HW2 := Lib.hid (And.intro hown2 (hbel.grown hg2 hsz HAB.out)); clear hown2 hg2))
          go_roundw
          case rel => exact ⟨1, by omega, by go_num, Lib.hid HW2.out.1, HW2.out.2⟩
          case measure => simp [intOf]
        · have HLE := Lib.hid (show (parts3 xs ys zs 1).length + ys.length ≤ 1000000000 by have := HLN.out; have := HM.out; omega)
          have hnl := HM.out
          subst hnl
          go_wp2_with (first
            | (at_builtin; refine append_w rfl (.tmp 31) (.tmp 32) 38 rfl 5 w.heap.size Try.underlying38 info_u8 _ (parts3 xs ys zs 1) ys bo bc rfl HO.out rfl hyr.out hb HLE.out hsz ?_; intro v2 w2 hown2 hg2 _; have HW2 := Lib.hid (And.intro hown2 (hbel.grown hg2 hsz HAB.out)); clear hown2 hg2))
          go_roundw
          case rel => exact ⟨2, by omega, by go_num, Lib.hid HW2.out.1, HW2.out.2⟩
          case measure => simp [intOf]
        · have HLE := Lib.hid (show (parts3 xs ys zs 2).length + zs.length ≤ 1000000000 by have := HLN.out; have := HL.out; omega)
          have hnl := HL.out
          subst hnl
          go_wp2_with (first
            | (at_builtin; refine append_w rfl (.tmp 31) (.tmp 32) 38 rfl 5 w.heap.size Try.underlying38 info_u8 _ (parts3 xs ys zs 2) zs co cc rfl HO.out rfl hzr.out hc HLE.out hsz ?_; intro v2 w2 hown2 hg2 _; have HW2 := Lib.hid (And.intro hown2 (hbel.grown hg2 hsz HAB.out)); clear hown2 hg2))
          go_roundw
          case rel => exact ⟨3, by omega, by go_num, Lib.hid HW2.out.1, HW2.out.2⟩
          case measure => simp [intOf]
        · obtain ⟨va, vn, vc, rfl⟩ := HO.out.shapeN
          go_wp2
          go_ret
          exact ⟨_, rfl, HO.out, hbw⟩
/-- the bytes of a number, as the walk spells them -/
theorem byte_facts {n : Int} (h0 : 0 ≤ n) : IntKind.u8.wrap (n >>> 24) = n / 16777216 % 256 ∧ IntKind.u8.wrap (n >>> 16) = n / 65536 % 256 ∧ IntKind.u8.wrap (n >>> 8) = n / 256 % 256 ∧ IntKind.u8.wrap n = n % 256 := by
  have e1 : n >>> 24 = n / 16777216 := by rw [Int.shiftRight_eq_div_pow]; rfl
  have e2 : n >>> 16 = n / 65536 := by rw [Int.shiftRight_eq_div_pow]; rfl
  have e3 : n >>> 8 = n / 256 := by rw [Int.shiftRight_eq_div_pow]; rfl
  rw [e1, e2, e3]
  have h : ∀ x : Int, IntKind.u8.wrap x = x % 256 := fun x => by simp [IntKind.wrap, IntKind.bits, IntKind.signed]
  exact ⟨h _, h _, h _, h _⟩

set_option maxRecDepth 100000 in
set_option maxHeartbeats 8000000 in
theorem slot_any (w : World) (m : Int) (bo : Option Addr) (bn bc : Nat) (b : List Int) (h0 : 0 ≤ m) (h1 : m < 4294967296) (hn : b.length = bn) (hr : Row .u8 w bo b) (hby : Byt b) (hc : bo = none → bc = 0) (hl : bn ≤ 16777216) :
    Calls Try.prog 95 #[.int .i64 m, .slice bo bn bc] w fun e w' => ∃ v, e = .returned v ∧ Own .u8 5 w.heap.size w' v (slotD m b) ∧ Below w.heap.size w w' := by
  obtain ⟨a1, a2, a3, a4⟩ := byte_facts h0
  obtain ⟨-, b2, b3, b4⟩ := byte_facts (n := (bn : Int)) (by omega)
  have HN := Lib.hid hn
  have HR := Lib.hid hr
  have HBY := Lib.hid hby
  have hl2 : (bn : Int) ≤ 16777216 := by omega
  have HHD : Hid (headD m bn = [m / 16777216, m / 65536 % 256, m / 256 % 256, m % 256, (bn : Int) / 65536 % 256, (bn : Int) / 256 % 256, (bn : Int) % 256]) := Lib.hid (by unfold headD; rw [show m / 16777216 % 256 = m / 16777216 by omega])
  have HBYT : Hid (Byt [m / 16777216, m / 65536 % 256, m / 256 % 256, m % 256, (bn : Int) / 65536 % 256, (bn : Int) / 256 % 256, (bn : Int) % 256]) := Lib.hid (by
    intro x hx
    simp only [List.mem_cons, List.not_mem_nil, or_false] at hx
    omega)
  have hb0 : Below w.heap.size w (w.alloc (.cells #[.int .u8 (m / 16777216), .int .u8 (m / 65536 % 256), .int .u8 (m / 256 % 256), .int .u8 (m % 256), .int .u8 ((bn : Int) / 65536 % 256), .int .u8 ((bn : Int) / 256 % 256), .int .u8 ((bn : Int) % 256)] 5)) := (Below.refl _ _).alloc (Nat.le_refl _) _
  have HH0 : Hid (Row .u8 (w.alloc (.cells #[.int .u8 (m / 16777216), .int .u8 (m / 65536 % 256), .int .u8 (m / 256 % 256), .int .u8 (m % 256), .int .u8 ((bn : Int) / 65536 % 256), .int .u8 ((bn : Int) / 256 % 256), .int .u8 ((bn : Int) % 256)] 5)) (some ⟨w.heap.size, 0, none⟩) [m / 16777216, m / 65536 % 256, m / 256 % 256, m % 256, (bn : Int) / 65536 % 256, (bn : Int) / 256 % 256, (bn : Int) % 256]) := Lib.hid (row_ints w .u8 5 [m / 16777216, m / 65536 % 256, m / 256 % 256, m % 256, (bn : Int) / 65536 % 256, (bn : Int) / 256 % 256, (bn : Int) % 256])
  have HR := Lib.hid (HR.out.mono hb0)
  clear hn hr hby
  go_enter Try.func95, Try.ntmps95
  go_wp2_with fail
  generalize w.alloc (.cells #[.int .u8 (m / 16777216), .int .u8 (m / 65536 % 256), .int .u8 (m / 256 % 256), .int .u8 (m % 256), .int .u8 ((bn : Int) / 65536 % 256), .int .u8 ((bn : Int) / 256 % 256), .int .u8 ((bn : Int) % 256)] 5) = W1 at *
  clear a1 a2 a3 a4 b2 b3 b4
  generalize m / 16777216 = x1 at *
  generalize m / 65536 % 256 = x2 at *
  generalize m / 256 % 256 = x3 at *
  generalize m % 256 = x4 at *
  generalize (bn : Int) / 65536 % 256 = x5 at *
  generalize (bn : Int) / 256 % 256 = x6 at *
  generalize (bn : Int) % 256 = x7 at *
  refine (clone_bytes_n (some ⟨w.heap.size, 0, none⟩) 7 7 [x1, x2, x3, x4, x5, x6, x7] W1 rfl HH0.out (fun h => by cases h) (by omega)).mono ?_
  rintro e w2 ⟨v2, rfl, hown, -, hb2⟩
  obtain ⟨ao, n, cap, rfl⟩ := hown.shapeN
  have HOWN := Lib.hid hown
  have HH1 := HH0
  have HR1 := HR
  have HH0 := Lib.hid (HH0.out.mono hb2)
  have HR := Lib.hid (HR.out.mono hb2)
  have HBW := Lib.hid (below_step hb0 hb2)
  have HSZ := Lib.hid hb2.size
  have HB2 := Lib.hid hb2
  have HB0 := Lib.hid hb0
  have HNL := HN.out
  subst HNL
  have HLE : Hid ([x1, x2, x3, x4, x5, x6, x7].length + b.length ≤ 1000000000) := Lib.hid (by simp only [List.length_cons, List.length_nil]; omega)
  clear hown hb0 hb2
  go_wp2_with (first
    | (at_builtin; refine append_w rfl (.tmp 31) (.tmp 32) 38 rfl 5 W1.heap.size Try.underlying38 info_u8 _ [x1, x2, x3, x4, x5, x6, x7] b bo bc rfl HOWN.out rfl HR.out hc HLE.out HSZ.out ?_; intro v3 w3 hown3 hg3 _; obtain ⟨a3o, n3, c3, rfl⟩ := hown3.shapeN; have HQ3 := Lib.hid (And.intro hown3 ((Below.refl W1.heap.size w2).grown hg3 HSZ.out (own_above HOWN.out))); clear hown3 hg3))
  obtain ⟨h3a, h3b, h3c⟩ := (own_sl HQ3.out.1).at
  refine (sum_any w3 a3o n3 c3 ([x1, x2, x3, x4, x5, x6, x7] ++ b) h3a.symm h3b (HBYT.out.app HBY.out) (by rw [h3a]; have := HLE.out; simp only [List.length_append, List.length_cons, List.length_nil]; omega)).mono ?_
  rintro e w4 ⟨rfl, rfl⟩
  have hlow := sum_low ([x1, x2, x3, x4, x5, x6, x7] ++ b)
  have HSL : Hid (slotD m b = [x1, x2, x3, x4, x5, x6, x7] ++ nb (sumD ([x1, x2, x3, x4, x5, x6, x7] ++ b)) ++ b) := Lib.hid (by unfold slotD; rw [HHD.out])
  have HB3 := Lib.hid (HB2.out.trans HQ3.out.2)
  generalize sumD ([x1, x2, x3, x4, x5, x6, x7] ++ b) = S at *
  obtain ⟨s0, s1⟩ := hlow
  obtain ⟨c1, c2⟩ := nb_W (n := S) ⟨s0, by omega⟩
  clear h3a h3b h3c HOWN HLE HQ3 HBYT
  go_wp2_with fail
  have HC1 : Hid (Row .u8 w3 (some ⟨w.heap.size, 0, none⟩) [x1, x2, x3, x4, x5, x6, x7]) := Lib.hid (HH1.out.mono HB3.out)
  have HC2 : Hid (Row .u8 w3 bo b) := Lib.hid (HR1.out.mono HB3.out)
  have hbA : Below w3.heap.size w3 ((w3.alloc (.cells #[.int .u8 (S / 256), .int .u8 (S % 256)] 5)).alloc (.cells #[.slice (some ⟨w.heap.size, 0, none⟩) 7 7, .slice (some ⟨w3.heap.size, 0, none⟩) 2 2, .slice bo b.length bc] 38)) := ((Below.refl _ _).alloc (Nat.le_refl _) _).alloc (by simp) _
  have hbA1 : Below w3.heap.size w3 (w3.alloc (.cells #[.int .u8 (S / 256), .int .u8 (S % 256)] 5)) := (Below.refl _ _).alloc (Nat.le_refl _) _
  have HC3 : Hid (Row .u8 ((w3.alloc (.cells #[.int .u8 (S / 256), .int .u8 (S % 256)] 5)).alloc (.cells #[.slice (some ⟨w.heap.size, 0, none⟩) 7 7, .slice (some ⟨w3.heap.size, 0, none⟩) 2 2, .slice bo b.length bc] 38)) (some ⟨w3.heap.size, 0, none⟩) (nb S)) := Lib.hid ((row_two w3 (S / 256) (S % 256)).mono ((Below.refl _ _).alloc (Nat.le_refl _) _))
  have gA := heap_alloc2_new w3 (.cells #[.int .u8 (S / 256), .int .u8 (S % 256)] 5) (.cells #[.slice (some ⟨w.heap.size, 0, none⟩) 7 7, .slice (some ⟨w3.heap.size, 0, none⟩) 2 2, .slice bo b.length bc] 38)
  generalize (w3.alloc (.cells #[.int .u8 (S / 256), .int .u8 (S % 256)] 5)).alloc (.cells #[.slice (some ⟨w.heap.size, 0, none⟩) 7 7, .slice (some ⟨w3.heap.size, 0, none⟩) 2 2, .slice bo b.length bc] 38) = W5 at *
  refine (concat_three W5 (w3.heap.size + 1) _ _ _ 7 7 2 2 b.length bc [x1, x2, x3, x4, x5, x6, x7] (nb S) b rfl rfl rfl (by omega) (by omega) (HC1.out.mono hbA) HC3.out (HC2.out.mono hbA) (fun h => by cases h) (fun h => by cases h) hc gA).mono ?_
  rintro e w6 ⟨v6, rfl, hown6, hb6⟩
  obtain ⟨ao6, n6, cap6, rfl⟩ := hown6.shapeN
  have HW6 : Hid (Below w.heap.size w w6) := Lib.hid (HB0.out.trans ((HB3.out.mono HB0.out.size).trans ((hbA.mono (Nat.le_trans HB0.out.size HB3.out.size)).trans (hb6.mono (Nat.le_trans (Nat.le_trans HB0.out.size HB3.out.size) hbA.size)))))
  have HO6 : Hid (Own .u8 5 w.heap.size w6 (.slice ao6 n6 cap6) (slotD m b)) := Lib.hid (by rw [HSL.out]; exact hown6.weaken (Nat.le_trans (Nat.le_trans HB0.out.size HB3.out.size) hbA.size))
  clear hown6 hb6 hbA hbA1 gA
  go_wp2_with fail
  go_ret
  exact ⟨_, rfl, HO6.out, HW6.out⟩
end Go.Proofs.Ytfmgdjgedhnmeaa
