/- What rookeryref.PutIn calls. · rookeryref.PutIn: the walk. -/
import Derived.Test.YtodogcokljmkmaaSetQ
import Derived.Test.YtodogcokljmkmaaMakeIn
import Derived.Test.YtodogcokljmkmaaAll
namespace Go.Proofs.Ytodogcokljmkmaa
open Go.RowKit
set_option linter.unusedVariables false

theorem powerN (w : World) (q : Nat) (hq : q ≤ 3) : Calls Try.prog 97 #[.int .i64 (q : Int)] w fun e w' => e = .returned (.int .i64 ((p4n q : Nat) : Int)) ∧ Below w.heap.size w w' := by
  refine (power_any w q (by omega) (by omega)).mono ?_
  rintro e w' ⟨rfl, rfl⟩
  exact ⟨by rw [Int.toNat_natCast, p4n_int], Below.refl _ _⟩

theorem powerE (w : World) (q : Nat) (hq : q ≤ 3) : Calls Try.prog 97 #[.int .i64 (q : Int)] w fun e w' => e = .returned (.int .i64 ((p4n q : Nat) : Int)) ∧ w' = w := by
  refine (power_any w q (by omega) (by omega)).mono ?_
  rintro e w' ⟨rfl, rfl⟩
  exact ⟨by rw [Int.toNat_natCast, p4n_int], rfl⟩

theorem nz_one (w : World) (x : Int) : Calls Try.prog 104 #[.int .i64 x] w fun e w' => e = .returned (.bool (x != 0)) ∧ w' = w := by
  go_enter Try.func104, Try.ntmps104
  go_wp2
  go_ret
  exact ⟨rfl, rfl⟩

def someNz (xs : List Int) : Bool := !xs.all fun k => decide (k = 0)

/-- the first that isn't nothing -/
theorem index_nz (w : World) (bo : Option Addr) (m bc : Nat) (ys : List Int) (hm : ys.length = m) (m63 : m ≤ 1152921504606846976) (hs : Row .i64 w bo ys) :
    Calls Try.prog 126 #[.slice bo m bc, .func (.func 104) #[] #[]] w fun e w' => ∃ r : Int, e = .returned (.int .i64 r) ∧ decide (0 ≤ r) = someNz ys ∧ w' = w := by
  have HM := Lib.hid hm
  clear hm
  go_enter Try.func126, Try.ntmps126
  go_wp2
  go_loop [8] (fun i => ∃ k : Nat, k ≤ m ∧ i = .int .i64 k ∧ Hid (∀ x ∈ ys.take k, x = 0)) (fun i => m - (intOf i).toNat)
  case atStart => exact ⟨0, Nat.zero_le _, rfl, Lib.hid fun x hx => by simp at hx⟩
  case round =>
    obtain ⟨k, hkn, rfl, HZ⟩ := hrel
    by_cases hlt : k < m
    · have hks : k < ys.length := by have := HM.out; omega
      obtain ⟨b, o, rfl, hq⟩ := hs.at k hks
      have hck := hq k hks
      have lb := World.block_lt_of_cell? _ _ hck
      have hts := List.take_succ_eq_append_getElem hks
      have HTS := Lib.hid hts
      have HME := Lib.hid (List.getElem_mem hks)
      clear hq hts
      generalize ys[k] = y at *
      go_wp2_with fail
      refine (nz_one _ y).mono ?_
      rintro e w1 ⟨rfl, rfl⟩
      by_cases hy : y = 0
      · have hy0 : (y != 0) = false := by rw [hy]; rfl
        have HY := Lib.hid hy
        clear hy
        go_wp2
        go_round
        case rel => exact ⟨k + 1, by omega, by go_num, Lib.hid fun x hx => by
          rw [HTS.out, List.mem_append, List.mem_singleton] at hx
          rcases hx with h | h
          · exact HZ.out x h
          · rw [h]; exact HY.out⟩
        case measure => simp [intOf]; omega
      · have hy0 : (y != 0) = true := by rw [bne_iff_ne]; exact hy
        have HA : Hid (someNz ys = true) := Lib.hid (by
          unfold someNz
          rw [Bool.not_eq_true', Bool.eq_false_iff]
          intro h
          exact hy (of_decide_eq_true (List.all_eq_true.1 h y HME.out)))
        clear hy
        go_wp2
        go_ret
        exact ⟨k, rfl, by rw [HA.out]; simp, rfl⟩
    · obtain rfl : k = m := by omega
      have htk : ys.take k = ys := List.take_of_length_le (by have := HM.out; omega)
      rw [htk] at HZ
      have HA : Hid (someNz ys = false) := Lib.hid (by
        unfold someNz
        rw [List.all_eq_true.2 fun x hx => decide_eq_true (HZ.out x hx)]
        rfl)
      clear htk
      go_wp2
      go_ret
      exact ⟨-1, rfl, by rw [HA.out]; rfl, rfl⟩

theorem any_nz (w : World) (bo : Option Addr) (m bc : Nat) (ys : List Int) (hm : ys.length = m) (m63 : m ≤ 1152921504606846976) (hs : Row .i64 w bo ys) :
    Calls Try.prog 103 #[.slice bo m bc, .func (.func 104) #[] #[]] w fun e w' => e = .returned (.bool (someNz ys)) ∧ w' = w := by
  have HM := Lib.hid hm
  clear hm
  go_enter Try.func103, Try.ntmps103
  go_wp2_with fail
  refine (index_nz _ _ _ _ ys HM.out m63 hs).mono ?_
  rintro e w1 ⟨r, rfl, hr, rfl⟩
  have HR := Lib.hid hr
  clear hr
  go_wp2
  go_ret
  exact ⟨by rw [← HR.out]; rfl, rfl⟩

/-- a slice of one, of the call's own -/
theorem Own.one (w : World) (base : Nat) (x : Int) (hb : base ≤ w.heap.size) : Own .i64 3 base (w.alloc (.cells #[.int .i64 x] 3)) (.slice (some ⟨w.heap.size, 0, none⟩) 1 1) [x] :=
  World.ownsRow_lit (base := base) (e := 3) (size := 1) w #[.int .i64 x] 1 hb (by unfold maxLen; omega) rfl

theorem Own.frame {k : IntKind} {e base : Nat} {w w' : World} {v : Value} {xs : List Int} (h : Own k e base w v xs) (hf : ∀ c, c < w.heap.size → base ≤ c → w'.heap[c]? = w.heap[c]?) : Own k e base w' v xs := by
  obtain ⟨h1, h2⟩ := h
  refine ⟨h1, ?_⟩
  rcases h2 with h2 | ⟨g, cap, cur, hv, hg, hh, r⟩
  · exact .inl h2
  · exact .inr ⟨g, cap, cur, hv, hg, by rw [hf g (lt_heap hh) hg]; exact hh, r⟩

/-- the way down, as far as it has been gone -/
def wayTo (m : Nat) (s : List Blk) (root : Int) (i k : Nat) : List Int := (List.range (k + 1)).map fun j => nodeF (m - j) m s root i
theorem wayTo_zero (m : Nat) (s : List Blk) (root : Int) (i : Nat) : wayTo m s root i 0 = [root] := by
  show [nodeF (m - 0) m s root i] = _
  rw [Nat.sub_zero, nodeF_top]
theorem wayTo_succ (m : Nat) (s : List Blk) (root : Int) (i k : Nat) : wayTo m s root i (k + 1) = wayTo m s root i k ++ [nodeF (m - (k + 1)) m s root i] := by
  unfold wayTo
  rw [List.range_succ, List.map_append]
  rfl
theorem wayTo_length (m : Nat) (s : List Blk) (root : Int) (i k : Nat) : (wayTo m s root i k).length = k + 1 := by simp [wayTo]
theorem wayTo_get (m : Nat) (s : List Blk) (root : Int) (i k q : Nat) (h : q < (wayTo m s root i k).length) : (wayTo m s root i k)[q] = nodeF (m - q) m s root i := by simp [wayTo]

/-- a store of one's own at work -/
structure InAt (w w' : World) (base : Nat) (ao : Option Addr) (n cap : Nat) (s t : List Blk) : Prop where
  own : OwnSto w' base (.slice ao n cap) t
  below : Below base w w'
  frame : ∀ c, c < w.heap.size → (∀ g, s ≠ [] → ao = some ⟨g, 0, none⟩ → c ≠ g) → w'.heap[c]? = w.heap[c]?
end Go.Proofs.Ytodogcokljmkmaa

namespace Go.Proofs.Ytodogcokljmkmaa
open Go.RowKit
set_option linter.unusedVariables false

/-- what PutIn answers, and leaves -/
def PutInEnd (e : Ending) (w w' : World) (base : Nat) (ao : Option Addr) (n cap : Nat) (s : List Blk) (r : List Blk × Int × Int) : Prop :=
  e = .returned (.tuple #[.int .i64 (if r.2.2 = 0 then r.2.1 else 0), .int .i64 r.2.2]) ∧ Below base w w' ∧ (∀ c, c < w.heap.size → (∀ g, s ≠ [] → ao = some ⟨g, 0, none⟩ → c ≠ g) → w'.heap[c]? = w.heap[c]?) ∧
    (r.2.2 = 0 → OwnSto w' base (.slice ao n cap) r.1)

set_option maxRecDepth 100000 in
set_option maxHeartbeats 8000000 in
theorem putIn_any (w : World) (pb base : Nat) (ao ba : Option Addr) (n cap nb bc : Nat) (s : List Blk) (root : Int) (m i : Nat) (b : List Int) (M : Int) (hn : s.length = n) (hbox : w.heap[pb]? = some (.cells #[.slice ao n cap] 24 (0, 0))) (ho : OwnSto w base (.slice ao n cap) s)
    (hpn : ∀ g, s ≠ [] → ao = some ⟨g, 0, none⟩ → pb ≠ g) (hbs : base ≤ w.heap.size) (hg : Good s M) (hM1 : 1 ≤ M) (hM : M + 4 * (m + 1) ≤ 800000000) (hm : m ≤ 3) (hr : RootAt s m root) (hi : i < p4n m) (hby : Byt b) (hnb : b.length = nb) (hb4 : nb ≤ 4) (hbr : Row .u8 w ba b) (hbc : Capd ba nb bc) :
    Calls Try.prog 74 #[.pointer (some ⟨pb, 0, none⟩), .int .i64 root, .int .i64 (m : Int), .int .i64 i, .slice ba nb bc] w fun e w' =>
      PutInEnd e w w' base ao n cap s (setF m s root i b) := by
  have h400 : n ≤ 400 := by have := hg.few; omega
  have HN := Lib.hid hn
  have HB := Lib.hid hnb
  have HBA := Lib.hid hbc
  have HNR := Lib.hid (fun l (hl : l ≤ m) => nodeF_root hg m root i l hm hr hi hl)
  have HNS := Lib.hid (fun l (hl : l + 1 ≤ m) => nodeF_step l m s root i hl hm hi)
  have HUG := Lib.hid (fun l (hl : l ≤ m) (he : (upF m s root i b l).2.2 = 0) => upF_good hg hm hM1 (by omega) hr hi hby (by omega) l hl he)
  have HUS := Lib.hid (fun l (hl : l + 1 ≤ m) => upF_succ m s root i b l hl hm hi)
  have HUB := Lib.hid (fun l (he : (upF m s root i b l).2.2 ≠ 0) => upF_bad hm hi he m)
  have HUT := Lib.hid (upF_top m s root i b hi)
  have HU0 : Hid (upF m s root i b 0 = if b = [] then (s, 0, 0) else putR s 0 [] b) := Lib.hid rfl
  have HW0 := Lib.hid (wayTo_zero m s root i)
  have HWS := Lib.hid (wayTo_succ m s root i)
  have HWL := Lib.hid (wayTo_length m s root i)
  have HWG := Lib.hid (wayTo_get m s root i)
  obtain ⟨ao', cap', hv', hcd', hsr⟩ := ho.sto
  rw [HN.out] at hv'
  simp only [Value.slice.injEq, true_and] at hv'
  obtain ⟨rfl, rfl⟩ := hv'
  have HG := Lib.hid hg
  have hi64 : i < 64 := Nat.lt_of_lt_of_le hi (by unfold p4n; (repeat' split) <;> omega)
  have HBY := Lib.hid hby
  clear hn hnb hbc hr hi hg hby
  generalize wayTo m s root i = WL at *
  generalize upF m s root i b = U at *
  obtain ⟨NF, hNF⟩ : ∃ NF : Nat → Int, ∀ l, nodeF l m s root i = NF l := ⟨fun l => nodeF l m s root i, fun _ => rfl⟩
  simp only [hNF] at HNR HNS HUS HWS HWG
  clear hNF
  have hb1 : Below w.heap.size w (w.alloc (.cells #[.int .i64 root] 3)) := (Below.refl _ _).alloc (Nat.le_refl _) _
  have hown1 := Own.one w w.heap.size root (Nat.le_refl _)
  rw [← HW0.out] at hown1
  have hlp := lt_heap hbox
  go_enter Try.func74, Try.ntmps74
  go_wp2
  generalize w.alloc (Obj.cells #[Value.int .i64 root] 3) = W1 at *
  go_loopw [12, 13] (fun v x wr => ∃ k : Nat, k ≤ m ∧ x = .int .i64 ((m - k : Nat) : Int) ∧ Own .i64 3 w.heap.size wr v (WL k) ∧ Below w.heap.size w wr) (fun _ x _ => (intOf x).toNat)
  case atStart => exact ⟨0, Nat.zero_le _, rfl, hown1, hb1⟩
  case round =>
    clear hown1 hb1
    obtain ⟨k, hk, rfl, hown, hbel⟩ := hrel
    have hwl := HWL.out k
    by_cases hlt : k < m
    · obtain ⟨q, hq⟩ : ∃ q, m - k = q + 1 := ⟨m - k - 1, by omega⟩
      have hqm : q + 1 ≤ m := by omega
      obtain ⟨wg, wcap, rfl, hwg, hwc, hwf, hwlt⟩ := hown.at k (by omega)
      have hget := HWG.out k k (by omega)
      rw [hget, hq] at hwc
      rw [hwl] at hown ⊢
      rw [hq]
      have HQ := Lib.hid hq
      have hroot := HNR.out (q + 1) hqm
      have hstep := HNS.out q hqm
      have hws := HWS.out k
      rw [show m - (k + 1) = q from by omega] at hws
      have HWK := Lib.hid hws
      have hsz := hbel.size
      clear hq hget hws
      have hq3 : (q : Int) + 1 ≤ 3 := by omega
      have hrel2 : ∀ v' w4, Own .i64 3 w.heap.size w4 v' (WL k ++ [NF q]) → Below w.heap.size wr w4 → ((q : Int) = ((m - (k + 1) : Nat) : Int)) ∧ Own .i64 3 w.heap.size w4 v' (WL (k + 1)) ∧ Below w.heap.size w w4 := fun v' w4 h1 h2 => ⟨by have := HQ.out; omega, by rw [HWK.out]; exact h1, hbel.trans h2⟩
      have HREL := Lib.hid hrel2
      clear hrel2 HWK
      by_cases hy : NF (q + 1) = 0
      · have hk0 : NF q = 0 := by rw [hstep, hy]; exact kidF_zero s _
        rw [hk0] at HREL
        rw [hy] at hwc
        clear hy hk0 hstep hroot
        go_wp2_with (first
          | (at_builtin; refine append_int rfl (.tmp 57) (.tmp 59) _ rfl .i64 3 8 w.heap.size Try.underlying36 info_int _ _ _ rfl hown _ rfl (by simp) ?_ ?_ hsz ?_; rotate_right; intro v' w4 hown4 hbel4))
        · obtain ⟨r1, r2, r3⟩ := HREL.out v' w4 hown4 hbel4
          go_roundw
          case rel => exact ⟨k + 1, by omega, by rw [← r1], r2, r3⟩
          case measure => simp [intOf]
        · rw [hwl]; unfold maxLen; omega
        · rw [hwl]; omega
      · obtain ⟨ht, hlv⟩ := hroot.resolve_left hy
        have h4k := HG.out.four ht (by omega)
        obtain ⟨j, hj, hje, -⟩ := there_in ht
        have hkq : kids0 s (NF (q + 1)) = s[j].kids := by unfold kids0; rw [if_neg hy, hje, blk_at s j hj]
        rw [hje, blk_at s j hj] at h4k
        rw [hkq] at hstep
        rw [hje] at hwc
        have hdl : i / p4n q % 4 < s[j].kids.length := by rw [h4k.1]; exact Nat.mod_lt _ (by omega)
        rw [List.getElem?_eq_getElem hdl, Option.getD_some] at hstep
        have hqn : (j : Int) < n := by have := HN.out; omega
        have hs := hsr.mono hbel
        obtain ⟨sb, so, rfl, hsB⟩ := hs.at j hj
        have hB := hsB j hj
        obtain ⟨v2, x2, hv2⟩ := hB.kids
        have lB := hB.lt
        obtain ⟨ka, kc, rfl, hkr, hkc⟩ := hv2
        obtain ⟨kb, ko, rfl, hkk⟩ := hkr.at _ hdl
        have xk := hkk _ hdl
        rw [← hstep] at xk
        have lk := World.block_lt_of_cell? _ _ xk
        rw [h4k.1] at x2
        have hbox1 := (hbel.block _ hlp).trans hbox
        have c1 := cell_of_one hbox1
        have l1 := lt_heap hbox1
        have HP := Lib.hid (fun u => powerN u q (by omega))
        have hpp := p4n_pos q
        have hp64 : p4n q ≤ 64 := by unfold p4n; (repeat' split) <;> omega
        have hb1 : 0 ≤ (i : Int) / ((p4n q : Nat) : Int) := Int.natCast_nonneg (i / p4n q)
        have hb2 : (i : Int) / ((p4n q : Nat) : Int) < 64 := Int.ofNat_lt.2 (Nat.lt_of_le_of_lt (Nat.div_le_self _ _) hi64)
        have hb3 : 0 ≤ (i : Int) / ((p4n q : Nat) : Int) % 4 := by omega
        have hb5 : (i : Int) / ((p4n q : Nat) : Int) % 4 < 4 := by omega
        have hq64 : ((p4n q : Nat) : Int) ≤ 64 := Int.ofNat_le.2 hp64
        have hq1 : 0 < ((p4n q : Nat) : Int) := Int.ofNat_lt.2 hpp
        have hy1 : ((j : Int) + 1 != 0) = true := by rw [bne_iff_ne]; omega
        clear hsB hB hkr hkk hkc hs hstep hkq h4k hdl hy ht hlv hp64 hpp
        generalize p4n q = qn at *
        have hwq : IntKind.i64.wrap ((i : Int) / (qn : Int)) = (i : Int) / (qn : Int) := by
          generalize (i : Int) / (qn : Int) = z at hb1 hb2
          have h1 : z % 18446744073709551616 = z := by omega
          simp [IntKind.wrap, IntKind.bits, IntKind.signed, h1]
          omega
        go_wp2_with fail
        refine wp_region_mix (by kernel_rfl) (by kernel_rfl) ?_
        repeat (go_big_quiet_step ((refine calls_mix (v := .int .i64 (qn : Int)) ?_; exact HP.out _)))
        refine wpQuiet_nil ?_
        intro w2 hb2
        replace hown := hown.mono hb2
        replace hbel := below_step hbel hb2
        have hsz2 := hbel.size
        have HREL2 := Lib.hid (fun v' w4 (h1 : Own .i64 3 w.heap.size w4 v' (WL k ++ [NF q])) (h2 : Below w.heap.size w2 w4) => HREL.out v' w4 h1 ((hb2.mono hsz).trans h2))
        clear HREL hwc c1 x2 xk lB lk l1
        go_wp2_with (first
          | (at_builtin; refine append_int rfl (.tmp 57) (.tmp 59) _ rfl .i64 3 8 w.heap.size Try.underlying36 info_int _ _ _ rfl hown _ rfl (by simp) ?_ ?_ hsz2 ?_; rotate_right; intro v' w4 hown4 hbel4))
        · obtain ⟨r1, r2, r3⟩ := HREL2.out v' w4 hown4 hbel4
          go_roundw
          case rel => exact ⟨k + 1, by omega, by rw [← r1], r2, r3⟩
          case measure => simp [intOf]
        · rw [hwl]; unfold maxLen; omega
        · rw [hwl]; omega
    · obtain rfl : k = m := by omega
      have hz : ((k - k : Nat) : Int) = 0 := by rw [Nat.sub_self]; rfl
      rw [hz]
      clear hz
      obtain ⟨wg, wcap, rfl, hwg, hwc, hwf, hwlt⟩ := hown.at k (by omega)
      rw [hwl] at hown ⊢
      clear hwc hwf
      have hgw : ∀ g, s ≠ [] → ao = some ⟨g, 0, none⟩ → g < w.heap.size := fun g h1 h2 => own_lt ho h1 h2
      have hszw := hbel.size
      have hin0 : InAt w wr base ao n cap s s := ⟨ho.mono hbel, hbel.mono hbs, fun c hc _ => hbel.block c hc⟩
      have hbrw := hbr.mono hbel
      have hOF : ∀ w', (∀ c, c < wr.heap.size → (∀ g, s ≠ [] → ao = some ⟨g, 0, none⟩ → c ≠ g) → w'.heap[c]? = wr.heap[c]?) → Own .i64 3 w.heap.size w' (.slice (some ⟨wg, 0, none⟩) (k + 1) wcap) (WL k) := fun w' hf => hown.frame fun c hc hb => hf c hc fun g h1 h2 e => by have := hgw g h1 h2; omega
      have HOF := Lib.hid hOF
      have HIN := Lib.hid hin0
      have HBW := Lib.hid hbel
      clear hOF hin0 hbel hbr
      go_upto_if 63 with fail
      go_cut [16] (fun u wx => u = .int .i64 (U 0).2.1 ∧ Hid ((U 0).2.2 = 0) ∧ InAt w wx base ao n cap s (U 0).1 ∧ Own .i64 3 w.heap.size wx (.slice (some ⟨wg, 0, none⟩) (k + 1) wcap) (WL k))
      case first =>
        rcases Nat.eq_zero_or_pos nb with h0 | h0
        · have hb0 : b = [] := List.eq_nil_of_length_eq_zero (by have := HB.out; omega)
          have HU := Lib.hid (show U 0 = (s, 0, 0) by rw [HU0.out, if_pos hb0])
          have HO := Lib.hid hown
          subst h0
          clear hb0 hown
          go_wp2_with fail
          go_meet
          exact ⟨by rw [HU.out], Lib.hid (by rw [HU.out]), by rw [HU.out]; exact HIN.out, HO.out⟩
        · have hb0 : b ≠ [] := fun e => by have := HB.out; rw [e] at this; simp at this; omega
          have HU := Lib.hid (show U 0 = putR s 0 [] b by rw [HU0.out, if_neg hb0])
          have hq : Row .u8 (wr.alloc (.cells #[] 5)) ba b := hbrw.mono ((Below.refl _ _).alloc (Nat.le_refl _) _)
          obtain rfl := HB.out
          have h0i : (0 : Int) < b.length := by omega
          clear hb0 hown
          go_wp2_with (first
            | (at_builtin; refine append_ints rfl (.tmp 66) (.tmp 67) _ rfl .u8 5 1 wr.heap.size Try.underlying32 info_u8 _ [] b ba bc rfl (Own.empty _ _ _) rfl hq HBA.out.2 ?_ ?_ (by simp) ?_; rotate_right; intro v' w1 hown1 hbel1 hnil; simp only [List.nil_append] at hown1; obtain ⟨a1, c1, rfl, hc1, hc2, hrow1, hc3⟩ := hown1.shape'; clear hnil))
          · have hA1 : Below w.heap.size wr (wr.alloc (.cells #[] 5)) := (Below.refl _ _).alloc hszw _
            have hb1 : Below wr.heap.size wr w1 := ((Below.refl _ _).alloc (Nat.le_refl _) _).trans hbel1
            have hbx1 := below_step HBW.out hb1
            have hbox1 := (hbx1.block _ hlp).trans hbox
            have hsz1 := hb1.size
            have hfar : ∀ g, s ≠ [] → ao = some ⟨g, 0, none⟩ → FarRow g .u8 w1 a1 b := fun g h1 h2 => by
              obtain ⟨a2, c2, hveq, hf, _⟩ := hown1.slx (g := g) (by have := hgw g h1 h2; omega)
              simp only [Value.slice.injEq] at hveq
              rw [hveq.1]
              exact hf
            have HF := Lib.hid hfar
            have HHO := Lib.hid hown1
            clear hfar hown1 hA1
            refine (makeIn_any w1 pb base ao none a1 n cap 0 0 b.length c1 s 0 0 [] b HN.out h400 hbox1 (ho.mono hbx1) hpn (by omega) HG.out.wf (fun x hx => by have := HG.out.refs x hx; omega) rfl rfl (fun g _ _ => .inl rfl) HF.out (.inl rfl) hrow1 ⟨Nat.le_refl _, fun _ => rfl⟩ ⟨hc1, hc3⟩ (by simp) (by omega) (by omega)).mono ?_
            rintro e w5 ⟨rfl, ho5, hb5, hf5⟩
            have HI5 : Hid (InAt w w5 base ao n cap s (putR s 0 [] b).1) := Lib.hid ⟨ho5, (hbx1.mono hbs).trans hb5, fun c hc h => (hf5 c (by have := hbx1.size; omega) h).trans (hbx1.block c hc)⟩
            have HO5 := Lib.hid (HOF.out w5 fun c hc h => (hf5 c (by omega) h).trans (hb1.block c hc))
            clear ho5 hb5 hf5
            generalize putR s 0 [] b = p at *
            obtain ⟨p1, pa, pe⟩ := p
            by_cases he : pe = 0
            · subst he
              go_wp2_with fail
              go_meet
              exact ⟨by rw [HU.out], Lib.hid (by rw [HU.out]), by rw [HU.out]; exact HI5.out, HO5.out⟩
            · have he1 : (pe != 0) = true := by rw [bne_iff_ne]; exact he
              have HE : Hid ((setF k s root i b).2.2 = pe) := Lib.hid (by rw [← HUT.out, HUB.out 0 (by rw [HU.out]; exact he) (Nat.zero_le _) (Nat.le_refl _), HU.out])
              have HNE := Lib.hid he
              clear he
              go_wp2
              go_ret2
              exact ⟨by rw [HE.out, if_neg HNE.out]; rfl, HI5.out.below, HI5.out.frame, fun h => absurd (HE.out.symm.trans h) HNE.out⟩
          · unfold maxLen; omega
          · omega
      case rest =>
        obtain ⟨rfl, HE00, hin, hown2⟩ := hcut
        clear HOF HIN HBW hown hbrw HU0 hsr
        generalize wr = w8 at *
        go_wp2
        go_loopw [16, 19] (fun u x wr => ∃ l : Nat, l ≤ k ∧ x = .int .i64 ((l : Int) + 1) ∧ u = .int .i64 (U l).2.1 ∧ Hid ((U l).2.2 = 0) ∧ InAt w wr base ao n cap s (U l).1 ∧ Own .i64 3 w.heap.size wr (.slice (some ⟨wg, 0, none⟩) (k + 1) wcap) (WL k)) (fun _ x _ => k + 1 - (intOf x).toNat)
        case atStart => exact ⟨0, Nat.zero_le _, rfl, rfl, HE00, hin, hown2⟩
        case round =>
          clear hin hown2 HE00
          obtain ⟨l, hl, rfl, rfl, HE0, hI, hO⟩ := hrel
          by_cases hlt : l < k
          · obtain ⟨hGl, hRl, hKl⟩ := HUG.out l (by omega) HE0.out
            have HUs := Lib.hid (HUS.out l (by omega))
            have hsz := hI.below.size
            generalize U l = r at *
            obtain ⟨t, made, err⟩ := r
            simp only at HE0 hGl hRl hKl hI ⊢
            obtain rfl := HE0.out
            have hry := HNR.out (l + 1) (by omega)
            obtain ⟨hk4, hkr⟩ := kids0_ok HG.out hry
            have hyk : ∀ j (hj : j < t.length), NF (l + 1) = (j : Int) + 1 → t[j].kids = kids0 s (NF (l + 1)) := fun j hj e => by
              have h0 : NF (l + 1) ≠ 0 := by omega
              obtain ⟨ht, _⟩ := hry.resolve_left h0
              have := (hKl _ ht).2.2.1
              unfold kids0
              rw [if_neg h0, ← this, e, blk_at t j hj]
            have hyt : NF (l + 1) ≠ 0 → thereB t (NF (l + 1)) = true := fun h0 => (hKl _ (hry.resolve_left h0).1).1
            have hK0 : NF (l + 1) = 0 → kids0 s (NF (l + 1)) = zeros 4 := fun h => by rw [h]; rfl
            have hcell := hO.at (k - (l + 1)) (by rw [hwl]; omega)
            obtain ⟨wg', wcap', hveq, -, hwc, -, hwlt'⟩ := hcell
            simp only [Value.slice.injEq, Option.some.injEq, Addr.mk.injEq] at hveq
            obtain ⟨⟨rfl, -⟩, -, -⟩ := hveq
            rw [HWG.out k (k - (l + 1)) (by rw [hwl]; omega), show k - (k - (l + 1)) = l + 1 from by omega] at hwc
            have hmk : (Instr.makeSlice 36 (.int .i64 4) (.int .i64 4)).run Try.prog wr = .ok (.slice (some ⟨wr.heap.size, 0, none⟩) 4 4) (wr.alloc (.cells (icells .i64 (zeros 4)) 3)) :=
              make_ints (P := Try.prog) .i64 36 3 8 Try.underlying36 info_int 4 (by omega) (by omega) wr
            have hlk1 : (l : Int) + 1 ≤ k := by omega
            have hbA : Below wr.heap.size wr (wr.alloc (.cells (icells .i64 (zeros 4)) 3)) := (Below.refl _ _).alloc (Nat.le_refl _) _
            have qA : (wr.alloc (.cells (icells .i64 (zeros 4)) 3)).heap[wr.heap.size]? = some (.cells (icells .i64 (zeros 4)) 3 (0, 0)) := heap_alloc_new _ _
            have HRY := Lib.hid hry
            have HK4 := Lib.hid hk4
            have HKR := Lib.hid hkr
            have HYK := Lib.hid hyk
            have HYT := Lib.hid hyt
            have HK0 := Lib.hid hK0
            have hbox1 : wr.heap[pb]? = some (.cells #[.slice ao n cap] 24 (0, 0)) := (hI.frame pb hlp hpn).trans hbox
            have HKE := Lib.hid (fun x (h : RootAt s l x) => hKl.root h)
            clear hry hk4 hkr hyk hyt hK0 hKl
            generalize hKK : kids0 s (NF (l + 1)) = K at *
            generalize NF (l + 1) = y at *
            clear hKK
            go_upto_if 90 with fail
            go_cut [21] (fun _ wx => wx.heap[wr.heap.size]? = some (.cells (icells .i64 K) 3 (0, 0)) ∧ Below wr.heap.size wr wx)
            case first =>
              generalize wr.alloc (Obj.cells (icells .i64 (zeros 4)) 3) = W0 at *
              by_cases h0 : y = 0
              · have hKz := HK0.out h0
                have hy0 : (y != 0) = false := by rw [h0]; rfl
                clear h0
                go_wp2_with fail
                go_meet
                exact ⟨by rw [hKz]; exact qA, hbA⟩
              · have ht := HYT.out h0
                obtain ⟨q, hq, rfl, -⟩ := there_in ht
                have hKq := HYK.out q hq rfl
                obtain ⟨ao2, cap2, hv, hcd2, hs⟩ := hI.own.sto
                have htl : t.length = n := hI.own.len
                rw [htl] at hv
                simp only [Value.slice.injEq, true_and] at hv
                obtain ⟨rfl, rfl⟩ := hv
                have hqn : (q : Int) < n := by omega
                have hs0 := hs.mono hbA
                obtain ⟨sb, so, rfl, hsB⟩ := hs0.at q hq
                have hB := hsB q hq
                obtain ⟨v2, x2, hv2⟩ := hB.kids
                have lB := hB.lt
                obtain ⟨ka, kc, rfl, hkr, hkc⟩ := hv2
                rw [hKq] at x2 hkr hkc
                have hkl : 0 < K.length := by have := HK4.out; omega
                obtain ⟨kb, ko, rfl, hkk⟩ := hkr.at 0 hkl
                rw [HK4.out] at x2
                have hbox0 := (hbA.block _ (lt_heap hbox1)).trans hbox1
                have c1 := cell_of_one hbox0
                have lp := lt_heap hbox0
                have hszI : (Try.prog.info? 3).map (·.size) = some 1 := by kernel_rfl
                have hb1 : ((q : Int) + 1 != 0) = true := by rw [bne_iff_ne]; exact h0
                have hcn : (K.map (Value.int .i64)).length = Nat.min 4 4 := by rw [List.length_map, HK4.out]; rfl
                have hcs : ∀ j v, (K.map (Value.int .i64))[j]? = some v → W0.cell? ((⟨kb, ko, none⟩ : Addr).add j) = some v := by
                  intro j v hv
                  rw [List.getElem?_map] at hv
                  rcases Nat.lt_or_ge j K.length with hj | hj
                  · rw [List.getElem?_eq_getElem hj] at hv
                    simp only [Option.map_some, Option.some.injEq] at hv
                    subst hv
                    have := hkk j hj
                    unfold Addr.add
                    split
                    · rename_i hj0
                      subst hj0
                      exact this
                    · exact this
                  · rw [List.getElem?_eq_none hj] at hv
                    cases hv
                have hcf : 0 + (K.map (Value.int .i64)).length ≤ (icells .i64 (zeros 4)).toList.length := by simp [icells, zeros, HK4.out]
                have hc1 : ∀ v ∈ K.map (Value.int .i64), v.oneCell' = true := by
                  intro v hv
                  obtain ⟨x, _, rfl⟩ := List.mem_map.1 hv
                  rfl
                have hpos : 0 < (K.map (Value.int .i64)).length → (some (⟨wr.heap.size, 0, none⟩ : Addr)) = some ⟨wr.heap.size, 0, none⟩ ∧ ∃ ad, some (⟨kb, ko, none⟩ : Addr) = some ad ∧ ∀ j v, (K.map (Value.int .i64))[j]? = some v → W0.cell? (ad.add j) = some v := fun _ => ⟨rfl, _, rfl, hcs⟩
                have qA2 : W0.heap[wr.heap.size]? = some (.cells (icells .i64 (zeros 4)).toList.toArray 3 (0, 0)) := qA
                clear hsB hB hs hs0 hcs htl
                go_wp2_with (with_reducible refine wpList_copy_splice rfl (.tmp 91) (.tmp 100) 36 36 rfl 3 Try.underlying36 hszI (some ⟨wr.heap.size, 0, none⟩) (some ⟨kb, ko, none⟩) 4 4 4 kc rfl rfl wr.heap.size 0 (icells .i64 (zeros 4)).toList 3 qA2 (K.map (Value.int .i64)) hcn hpos hcf hc1 wr.heap.size wr hbA (Nat.le_refl _) ?_)
                intro w2 HG2 hB2
                have hG2 := HG2.out
                rw [icells4 K HK4.out] at hG2
                clear HG2
                go_wp2_with fail
                go_meet
                exact ⟨hG2, hB2⟩
            case rest =>
              obtain ⟨hKB, hbw⟩ := hcut
              have hd4 : i / p4n l % 4 < K.length := by rw [HK4.out]; exact Nat.mod_lt _ (by omega)
              have hkc := cell_of_block hKB (i / p4n l % 4)
              rw [icells_at _ _ _ hd4] at hkc
              have hkf := free_of_block hKB (i / p4n l % 4)
              have lk := lt_heap hKB
              have hset := heap_setCell_same' hKB (i / p4n l % 4) (.int .i64 made)
              rw [icells_set] at hset
              have hbS : Below wr.heap.size wr (wc.setCell ⟨wr.heap.size, i / p4n l % 4, none⟩ (.int .i64 made)) := hbw.setCell (p := ⟨wr.heap.size, i / p4n l % 4, none⟩) (Nat.le_refl _) _
              have hmem : ∀ x ∈ K.set (i / p4n l % 4) made, RootAt t l x := fun x hx => by
                rcases List.mem_or_eq_of_mem_set hx with e | e
                · exact HKE.out x (HKR.out x e)
                · rw [e]; exact hRl
              have hk1m : made ∈ K.set (i / p4n l % 4) made := List.mem_set (by omega) _
              have hK2l : (K.set (i / p4n l % 4) made).length = 4 := by rw [List.length_set]; exact HK4.out
              have HMEM := Lib.hid hmem
              have HK1M := Lib.hid hk1m
              have HK2L := Lib.hid hK2l
              have HKB := Lib.hid hKB
              have HSET := Lib.hid hset
              obtain ⟨y1, hy1⟩ : ∃ y1, K[i / p4n l % 4] = y1 := ⟨_, rfl⟩
              rw [hy1] at hkc
              have HP := Lib.hid (fun u => powerE u l (by omega))
              have hpp := p4n_pos l
              have hp64 : p4n l ≤ 64 := by unfold p4n; (repeat' split) <;> omega
              have hb1 : 0 ≤ (i : Int) / ((p4n l : Nat) : Int) := Int.natCast_nonneg (i / p4n l)
              have hb2 : (i : Int) / ((p4n l : Nat) : Int) < 64 := Int.ofNat_lt.2 (Nat.lt_of_le_of_lt (Nat.div_le_self _ _) hi64)
              have hb3 : 0 ≤ (i : Int) / ((p4n l : Nat) : Int) % 4 := by omega
              have hb5 : (i : Int) / ((p4n l : Nat) : Int) % 4 < 4 := by omega
              have hq64 : ((p4n l : Nat) : Int) ≤ 64 := Int.ofNat_le.2 hp64
              have hq1 : 0 < ((p4n l : Nat) : Int) := Int.ofNat_lt.2 hpp
              have HUZ := Lib.hid (fun (h : someNz (K.set (i / p4n l % 4) made) = false) => show U (l + 1) = (t, 0, 0) by
                have hall : (K.set (i / p4n l % 4) made).all (fun k => decide (k = 0)) = true := by
                  unfold someNz at h
                  rw [Bool.not_eq_false'] at h
                  exact h
                rw [HUs.out]
                unfold setN
                rw [if_neg (fun h => h rfl)]
                simp only
                rw [if_pos hall])
              have HUN := Lib.hid (fun (h : someNz (K.set (i / p4n l % 4) made) = true) => show U (l + 1) = (looseF 4 (putR t ((l : Int) + 1) (K.set (i / p4n l % 4) made) []).1 made, (putR t ((l : Int) + 1) (K.set (i / p4n l % 4) made) []).2.1, (putR t ((l : Int) + 1) (K.set (i / p4n l % 4) made) []).2.2) by
                have hall : ¬ (K.set (i / p4n l % 4) made).all (fun k => decide (k = 0)) = true := by
                  unfold someNz at h
                  intro h2
                  rw [h2] at h
                  cases h
                rw [HUs.out]
                unfold setN
                rw [if_neg (fun h => h rfl)]
                simp only
                rw [if_neg hall])
              clear hKB hset hmem hk1m hK2l hy1 hp64 hpp hd4 qA hbA hwc hmk
              generalize p4n l = qn at *
              generalize K.set (i / qn % 4) made = K2 at *
              have hwq : IntKind.i64.wrap ((i : Int) / (qn : Int)) = (i : Int) / (qn : Int) := by
                generalize (i : Int) / (qn : Int) = z at hb1 hb2
                have h1 : z % 18446744073709551616 = z := by omega
                simp [IntKind.wrap, IntKind.bits, IntKind.signed, h1]
                omega
              go_wp2_with fail
              refine (HP.out _).mono ?_
              rintro e w2 ⟨rfl, rfl⟩
              have HRT := Lib.hid hRl
              have hgwl := fun g h1 h2 => hgw g h1 h2
              have htl : t.length = n := hI.own.len
              have HTL := Lib.hid htl
              have hst : t ≠ [] → s ≠ [] := fun h e => by
                have h1 := HN.out
                rw [e, List.length_nil] at h1
                exact h (List.eq_nil_of_length_eq_zero (by omega))
              have hts : s ≠ [] → t ≠ [] := fun h e => by
                have h1 := HN.out
                rw [e, List.length_nil] at htl
                exact h (List.eq_nil_of_length_eq_zero (by omega))
              have hww := hI.below.size
              have hwsz : w.heap.size ≤ wr.heap.size := by omega
              have HO2 := Lib.hid (hO.mono hbS)
              have HI2 : Hid (InAt w (w2.setCell ⟨wr.heap.size, i / qn % 4, none⟩ (.int .i64 made)) base ao n cap s t) := Lib.hid ⟨hI.own.mono hbS, hI.below.trans (hbS.mono (Nat.le_trans hbs hwsz)), fun c hc h => (hbS.block c (by omega)).trans (hI.frame c hc h)⟩
              have hlk2 : wr.heap.size < (w2.setCell ⟨wr.heap.size, i / qn % 4, none⟩ (.int .i64 made)).heap.size := lt_heap HSET.out
              clear htl hI hO hRl hbox1 hbS hbw
              go_wp2_with fail
              have hrowK := row_of_block HSET.out
              generalize w2.setCell ⟨wr.heap.size, i / qn % 4, none⟩ (.int .i64 made) = W2 at *
              refine (any_nz _ _ 4 4 K2 HK2L.out (by omega) hrowK).mono ?_
              rintro e w3 ⟨rfl, rfl⟩
              cases hnz : someNz K2 with
              | false =>
                have HU1 := Lib.hid (HUZ.out hnz)
                go_wp2
                go_roundw
                case rel => exact ⟨l + 1, by omega, by go_num, by rw [HU1.out], Lib.hid (by rw [HU1.out]), by rw [HU1.out]; exact HI2.out, HO2.out⟩
                case measure => simp [intOf]; omega
              | true =>
                have HUn := Lib.hid (HUN.out hnz)
                have hI2 := HI2.out
                have hbox2 := (hI2.frame pb hlp hpn).trans hbox
                have hfar : ∀ g, t ≠ [] → ao = some ⟨g, 0, none⟩ → FarRow g .i64 w3 (some ⟨wr.heap.size, 0, none⟩) K2 := fun g h1 h2 => by
                  have h3 := hgw g (hst h1) h2
                  refine .inr ⟨wr.heap.size, 0, rfl, by omega, fun j hj => ?_⟩
                  rw [Nat.zero_add, cell_of_block HSET.out]
                  exact icells_at _ _ _ hj
                have HI := Lib.hid (fun k hk => root_I64 hGl (HMEM.out k hk))
                have hwx : WfB ⟨1, (l : Int) + 1, K2, []⟩ := ⟨by unfold I64; simp only; omega, by unfold I64; simp only; omega, HI.out, (by intro x hx; cases hx), by simp only; have := HK2L.out; omega, by simp⟩
                have HPG := Lib.hid (put_good hGl (by omega) (by omega) hwx)
                have HNL := Lib.hid (fun he => node_less hGl (by omega) (by omega) (show l ≤ 2 by omega) HK2L.out HK1M.out HRT.out HI.out he)
                have HFAR := Lib.hid hfar
                clear hfar
                go_wp2_with fail
                refine (makeIn_any w3 pb base ao (some ⟨wr.heap.size, 0, none⟩) none n cap 4 4 0 0 t 0 ((l : Int) + 1) K2 [] HTL.out h400 hbox2 hI2.own (fun g h1 h2 => hpn g (hst h1) h2) (by omega) hGl.wf (fun x hx => by have := hGl.refs x hx; omega) HK2L.out rfl HFAR.out (fun _ _ _ => .inl rfl) hrowK (.inl rfl) ⟨Nat.le_refl _, fun h => by cases h⟩ ⟨Nat.le_refl _, fun _ => rfl⟩ HI.out (by omega) (by omega)).mono ?_
                rintro e w5 ⟨rfl, ho5, hb5, hf5⟩
                have HI5 : Hid (InAt w w5 base ao n cap s (putR t ((l : Int) + 1) K2 []).1) := Lib.hid ⟨ho5, hI2.below.trans hb5, fun c hc h => (hf5 c (by omega) fun g h1 h2 => h g (hst h1) h2).trans (hI2.frame c hc h)⟩
                have HO5 := Lib.hid (HO2.out.frame fun c hc hb => hf5 c hc fun g h1 h2 => by have := hgw g (hst h1) h2; omega)
                clear ho5 hb5 hf5 hI2
                generalize putR t ((l : Int) + 1) K2 [] = p at *
                obtain ⟨p1, pa, pe⟩ := p
                simp only at HPG HNL HUn HI5
                by_cases he : pe = 0
                rotate_left
                · have he1 : (pe != 0) = true := by rw [bne_iff_ne]; exact he
                  have HE : Hid ((setF k s root i b).2.2 = pe) := Lib.hid (by rw [← HUT.out, HUB.out (l + 1) (by rw [HUn.out]; exact he) (by omega) (Nat.le_refl _), HUn.out])
                  have HNE := Lib.hid he
                  clear he
                  go_wp2
                  go_ret2
                  exact ⟨by rw [HE.out, if_neg HNE.out]; rfl, HI5.out.below, HI5.out.frame, fun h => absurd (HE.out.symm.trans h) HNE.out⟩
                · subst he
                  have hnl := HNL.out rfl
                  by_cases hm0 : made = 0
                  · subst hm0
                    rw [if_pos rfl] at hnl
                    rw [hnl] at HUn
                    clear hnl
                    go_wp2
                    go_roundw
                    case rel => exact ⟨l + 1, by omega, by go_num, by rw [HUn.out], Lib.hid (by rw [HUn.out]), by rw [HUn.out]; exact HI5.out, HO5.out⟩
                    case measure => simp [intOf]; omega
                  · rw [if_neg hm0] at hnl
                    obtain ⟨htm, -⟩ := HRT.out.resolve_left hm0
                    obtain ⟨j, hj, rfl, -⟩ := there_in htm
                    have hI5 := HI5.out
                    have hpl : p1.length = n := hI5.own.len
                    have hj' : j < p1.length := by have := HTL.out; omega
                    obtain ⟨g, cap2, hv2, hR⟩ := hI5.own.at j hj'
                    rw [hpl] at hv2
                    simp only [Value.slice.injEq, true_and] at hv2
                    obtain ⟨rfl, rfl⟩ := hv2
                    rw [addRef_at _ _ hj'] at hnl
                    rw [hnl] at HUn
                    have HPL := Lib.hid hpl
                    have hB := hR.blks j hj'
                    have c0 := hB.refs
                    have f0 := hR.free (j * 4)
                    have lg := hR.lt
                    have hrb := HPG.out.refs _ (List.getElem_mem hj')
                    have hR6 := hR.setRefs j hj' (p1[j].refs - 1)
                    have hle := hR.le
                    have hjn : (j : Int) < n := by omega
                    have hj1 : ((j : Int) + 1 != 0) = true := by rw [bne_iff_ne]; omega
                    have hbox5 := (hI5.frame pb hlp hpn).trans hbox
                    have hs0 : s ≠ [] := fun e => by have := HN.out; rw [e, List.length_nil] at this; omega
                    have hgw0 := hgw g hs0 rfl
                    have HI6 : Hid (InAt w (w5.setCell ⟨g, j * 4, none⟩ (.int .i64 (p1[j].refs - 1))) base (some ⟨g, 0, none⟩) n cap s (p1.set j { p1[j] with refs := p1[j].refs - 1 })) :=
                      Lib.hid ⟨hR6.own (by rw [List.length_set]; exact hpl) (by have := hcd'.1; have := HN.out; omega), hI5.below.setCell (p := ⟨g, j * 4, none⟩) hle _, fun c hc h => (Below.heap_setCell _ _ _ _ (h g hs0 rfl)).trans (hI5.frame c hc h)⟩
                    have HO6 : Hid (Own .i64 3 w.heap.size (w5.setCell ⟨g, j * 4, none⟩ (.int .i64 (p1[j].refs - 1))) (.slice (some ⟨wg, 0, none⟩) (k + 1) wcap) (WL k)) := Lib.hid (HO5.out.setOther (a := ⟨g, j * 4, none⟩) (by simp only; omega) _)
                    have c5 := cell_of_one hbox5
                    have l5 := lt_heap hbox5
                    clear hB hR hR6 hnl hI5 hpl hm0 htm
                    generalize p1[j].refs = rj at *
                    go_wp2
                    go_roundw
                    case rel => exact ⟨l + 1, by omega, by go_num, by rw [HUn.out], Lib.hid (by rw [HUn.out]), by rw [HUn.out]; exact HI6.out, HO6.out⟩
                    case measure => simp [intOf]; omega
          · obtain rfl : l = k := by omega
            have HE : Hid ((setF l s root i b).2.2 = 0) := Lib.hid (by rw [← HUT.out]; exact HE0.out)
            have HUTT := Lib.hid HUT.out.symm
            go_wp2
            go_ret2
            exact ⟨by rw [HE.out, if_pos rfl, HUTT.out]; rfl, hI.below, hI.frame, fun _ => by rw [HUTT.out]; exact hI.own⟩
end Go.Proofs.Ytodogcokljmkmaa
