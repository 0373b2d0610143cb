/- send.bytes: where two files differ, run by run. -/
import Derived.Deep.RegionWith
import Derived.Deep.DeepCutAuto
import Derived.BigQuiet
import Derived.StillTailTactics
import Derived.Ground.SlgfProg
import Derived.Shelf.Lay
import Derived.Shelf.SlicesE.DeleteFunc
import Derived.Sort.OwnSortedInts
import Derived.Lib.SortBridge
import Derived.Test.YtfmgdjgedhnmeaaSendP
import Derived.Test.YtfmgdjgedhnmeaaSendK
namespace Go.Proofs
open Go.Shelf
shelf_lay_g SlLaysH.n10 Slgf 10 at Try 67 as Try.layDelF
end Go.Proofs
namespace Go.Proofs.Ytfmgdjgedhnmeaa
open Go.RowKit Go.Sort Go.Lib
set_option linter.unusedVariables false
set_option linter.unusedSimpArgs false

/-- what is past the size -/
def pastB (z x : Int) : Bool := decide (z ≤ IntKind.i64.wrap (x * 4))
theorem delB_gives (z x : Int) (B : Nat) (W : World) (hc : W.cell? ⟨B, 1, none⟩ = some (.int .i64 z)) :
    FnGives Try.prog 68 #[.pointer (some ⟨B, 0, none⟩)] #[.int .i64 x] (.bool (pastB z x)) W := by
  show Calls Try.prog 68 #[.int .i64 x, .pointer (some ⟨B, 0, none⟩)] W _
  go_enter Try.func68, Try.ntmps68
  go_wp2
  go_ret
  exact ⟨by simp [pastB, IntWalk.i64_left], 0, rfl⟩
theorem idx_none (w : World) (B : Nat) : Calls Try.prog 110 #[.slice none 0 0, .func (.func 68) #[] #[.pointer (some ⟨B, 0, none⟩)]] w fun e w' => e = .returned (.int .i64 (-1)) ∧ Below w.heap.size w w' := by
  go_enter Try.func110, Try.ntmps110
  go_wp2
  go_loopw [8] (fun i wr => i = .int .i64 0 ∧ Below w.heap.size w wr) (fun _ _ => 0)
  case atStart => exact ⟨rfl, Below.refl _ _⟩
  case round =>
    obtain ⟨rfl, hb⟩ := hrel
    go_wp2
    go_ret
    exact ⟨rfl, hb⟩
theorem del_none (w : World) (B : Nat) : Calls Try.prog 67 #[.slice none 0 0, .func (.func 68) #[] #[.pointer (some ⟨B, 0, none⟩)]] w fun e w' => e = .returned (.slice none 0 0) ∧ Below w.heap.size w w' := by
  go_enter Try.func67, Try.ntmps67
  go_wp2_with (go_at_call 110; refine (idx_none _ B).mono ?_; rintro e w' ⟨rfl, hb⟩)
  go_ret
  exact ⟨rfl, hb⟩
/-- what lies past the size goes -/
theorem delB_any (w : World) (base B : Nat) (v : Value) (L : List Int) (z : Int) (hown : Own .i64 3 base w v L) (hL : L.length ≤ 1000) (hbox : w.cell? ⟨B, 1, none⟩ = some (.int .i64 z)) (hB : B < base) (hbase : base ≤ w.heap.size) :
    Calls Try.prog 67 #[v, .func (.func 68) #[] #[.pointer (some ⟨B, 0, none⟩)]] w fun e w' => ∃ ao cap, e = .returned (.slice ao (L.filter fun x => !pastB z x).length cap) ∧ Row .i64 w' ao (L.filter fun x => !pastB z x) ∧ Capd ao (L.filter fun x => !pastB z x).length cap ∧ Below base w w' := by
  rcases hown.block with ⟨rfl, rfl⟩ | ⟨b, cap, cur, rfl, hb, hh, hn, hc, hs, ht⟩
  · refine (del_none w B).mono ?_
    rintro e w' ⟨rfl, hb⟩
    exact ⟨none, 0, rfl, .inl rfl, ⟨Nat.le_refl _, fun _ => rfl⟩, ⟨hb.os, hb.tape, hb.output, hb.size, fun k hk => hb.block k (by omega)⟩⟩
  · have eg : ∀ args w, (callFunc 68 args).run Try.prog w = .ok (.enter 68 args) w := enters_of Try.func68 (by kernel_rfl) rfl
    have hcell : ∀ j, j < L.length → w.cell? ⟨b, 0 + j, none⟩ = some (.int .i64 (L.getD j 0)) := fun j hj => by
      rw [Nat.zero_add, hown.cell j hj]
      simp [hj]
    have hH := Lib.holds_of_ints (n := L.length) (Nat.le_refl _) hcell (fun j _ => free_of_block hh (0 + j))
    rw [List.take_length] at hH
    have hp : PredAt Try.prog 68 #[.pointer (some ⟨B, 0, none⟩)] (Value.int .i64) (pastB z) w := fun W x hb => delB_gives z x B W ((hb.cell (p := ⟨B, 1, none⟩) (by show B < w.heap.size; omega)).trans hbox)
    have hpo : PredOver Try.prog 68 #[.pointer (some ⟨B, 0, none⟩)] (Value.int .i64) (pastB z) b 0 L.toArray.size w := fun n os dk x _ => delB_gives z x B _ (by
      unfold sortWorld
      rw [cell?_grow _ _ _ (by show B < (putRow _ _ _ _ _).heap.size; rw [size_putRow]; show B < w.heap.size; omega), cell?_putRow_other _ _ b 0 _ _ (Or.inl (show B ≠ b by omega))]
      exact hbox)
    have hcon := AnyE.slices_DeleteFunc Try.layDelF (Value.int .i64) (fun _ => rfl) (pastB z) 68 #[.pointer (some ⟨B, 0, none⟩)] eg 0 Try.zeroValue3 b 0 cap L.toArray w hp hpo hH (by simp; omega) (by simpa using hn)
    change Calls Try.prog 67 _ _ _ at hcon
    simp only [List.size_toArray] at hcon
    refine hcon.mono ?_
    rintro e w' ⟨rfl, q, rfl⟩
    have hle : (L.filter fun x => !pastB z x).length ≤ L.length := List.length_filter_le _ _
    have hH2 := holds_putRow (Value.int .i64) (Sort.ahead w q) b 0 L.toArray ((L.filter fun x => !pastB z x) ++ List.replicate (L.length - (L.filter fun x => !pastB z x).length) 0).toArray (Sort.holds_ahead (Value.int .i64) w q b 0 L.toArray hH) (by simp; omega)
    have hgr := grownBy_sortedI (w := w) (g := b) (n := q) (os := #[]) ((L.filter fun x => !pastB z x) ++ List.replicate (L.length - (L.filter fun x => !pastB z x).length) 0).toArray
    rw [grow_empty] at hgr
    refine ⟨_, cap, rfl, .inr ⟨b, 0, rfl, fun i hi => ?_⟩, ⟨by omega, fun h => by cases h⟩, grown_below hgr hb hbase⟩
    have h3 := (hH2 i (by simp; omega)).1
    rw [h3]
    congr 2
    rw [getElem!_pos _ _ (by simp; omega)]
    simp only [List.getElem_toArray]
    rw [List.getElem_append_left hi]

/-- how far a run goes -/
theorem runC_is : ∀ (l : List Int) (x : Int) (m : Nat), m ≤ l.length → (∀ j (h : j < l.length), j < m → l[j] = x + j) → (∀ h : m < l.length, l[m] ≠ x + m) → runC x l = m
  | [], x, m, h1, _, _ => by simp at h1; simp [runC, h1]
  | y :: l, x, 0, _, _, h3 => by
    have := h3 (by simp)
    simp at this
    simp [runC, this]
  | y :: l, x, m + 1, h1, h2, h3 => by
    have e := h2 0 (by simp) (by omega)
    simp at e
    subst e
    unfold runC
    rw [if_pos rfl, runC_is l (y + 1) m (by simpa using h1) (fun j h hj => by
      have := h2 (j + 1) (by simpa using h) (by omega)
      simp at this
      omega) fun h => by
      have := h3 (by simpa using h)
      simp at this
      omega]
theorem far_filter {s : List Blk} {r1 r2 z : Int} (h : ∀ x ∈ diffF 3 s r1 r2 0, 0 ≤ x ∧ x < 64) : ((diffF 3 s r1 r2 0).filter fun x => !pastB z x) = farD s r1 r2 z := by
  unfold farD
  refine List.filter_congr fun x hx => ?_
  obtain ⟨h1, h2⟩ := h x hx
  have : IntKind.i64.wrap (x * 4) = x * 4 := IntWalk.i64_in _ (by omega)
  unfold pastB
  rw [this]
theorem diff_range (s : List Blk) (r1 r2 : Int) : ∀ x ∈ diffF 3 s r1 r2 0, 0 ≤ x ∧ x < 64 := by
  rw [diffF_eq 3 s r1 r2 0 (by omega)]
  intro x hx
  obtain ⟨j, hj, rfl⟩ := List.mem_map.1 hx
  unfold diffL at hj
  rw [List.mem_filter, List.mem_range] at hj
  have : p4n 3 = 64 := rfl
  omega
theorem grown_all {base : Nat} {w w' : World} {r : Option Nat} (h : w.grownBy w' r) (hr : ∀ g, r = some g → base ≤ g) (hb : base ≤ w.heap.size) : Below base w w' := ⟨h.os, h.tape, h.output, h.size, fun b hl => h.block b (by omega) fun e => by have := hr b (by first | exact e | exact e.symm); omega⟩
def lenV : Value → Nat
  | .slice _ n _ => n
  | _ => 0
theorem runsL_nil (f : Nat) : runsL f [] = [] := by cases f <;> rfl
set_option maxRecDepth 100000 in
set_option maxHeartbeats 8000000 in
theorem sbytes_any (w : World) (ao : Option Addr) (n cap : Nat) (s : List Blk) (key : Int) (nm : ByteArray) (r1 z1 r2 z2 : Int) (hn : s.length = n) (hn63 : n ≤ 1152921504606846976) (hs : StoRow w ao s) (hwf : WfS s) (hc : Capd ao n cap) (hz : I64 z2) (h1 : checkT s r1 3 0 = 0) (h2 : checkT s r2 3 0 = 0) :
    Calls Try.prog 30 #[.agg #[.slice ao n cap], .int .i64 key, .string nm, .agg #[.int .i64 r1, .int .i64 z1], .agg #[.int .i64 r2, .int .i64 z2]] w fun e w' => ∃ v, e = .returned v ∧ ChsIn w' w.heap.size v (bytesC s key nm r1 r2 z2) ∧ (bytesC s key nm r1 r2 z2).length ≤ 64 ∧ Below w.heap.size w w' := by
  have HD : Hid (differR s r1 r2 3 = (diffF 3 s r1 r2 0, 0)) := Lib.hid (by unfold differR; rw [if_neg (not_not_intro h1), if_neg (not_not_intro h2)]; rfl)
  have HFR : Hid (∀ x ∈ farD s r1 r2 z2, 0 ≤ x ∧ x < 64) := Lib.hid fun x hx => diff_range s r1 r2 x (List.mem_filter.1 hx).1
  have HDL : Hid ((diffF 3 s r1 r2 0).length ≤ 64) := Lib.hid (diffF_len 3 (by omega) s r1 r2 0)
  have HFL : Hid ((farD s r1 r2 z2).length ≤ 64) := Lib.hid (Nat.le_trans (List.length_filter_le _ _) HDL.out)
  have HFF := Lib.hid (far_filter (z := z2) (diff_range s r1 r2))
  have HN := Lib.hid hn
  have HZ := Lib.hid hz
  have HC := Lib.hid hc
  have HS := Lib.hid hs
  have HW := Lib.hid hwf
  clear h1 h2 hn hz hc hs hwf
  go_enter Try.func30, Try.ntmps30
  go_wp2_with fail
  have hb0 : Below w.heap.size w (((w.alloc (.cells #[.slice ao n cap] 24)).alloc (.cells #[.int .i64 r1, .int .i64 z1] 35)).alloc (.cells #[.int .i64 r2, .int .i64 z2] 35)) := (((Below.refl _ _).alloc (Nat.le_refl _) _).alloc (by simp) _).alloc (by simp; omega) _
  have p5 : (((w.alloc (.cells #[.slice ao n cap] 24)).alloc (.cells #[.int .i64 r1, .int .i64 z1] 35)).alloc (.cells #[.int .i64 r2, .int .i64 z2] 35)).heap[w.heap.size]? = some (.cells #[.slice ao n cap] 24 (0, 0)) := (heap_alloc_old _ _ (by simp; omega)).trans (heap_alloc2_old _ _ _)
  have p9 : (((w.alloc (.cells #[.slice ao n cap] 24)).alloc (.cells #[.int .i64 r1, .int .i64 z1] 35)).alloc (.cells #[.int .i64 r2, .int .i64 z2] 35)).heap[w.heap.size + 1 + 1]? = some (.cells #[.int .i64 r2, .int .i64 z2] 35 (0, 0)) := by
    have := heap_alloc_new ((w.alloc (.cells #[.slice ao n cap] 24)).alloc (.cells #[.int .i64 r1, .int .i64 z1] 35)) (.cells #[.int .i64 r2, .int .i64 z2] 35)
    simpa using this
  have HBX := Lib.hid hb0
  generalize hWW : ((w.alloc (.cells #[.slice ao n cap] 24)).alloc (.cells #[.int .i64 r1, .int .i64 z1] 35)).alloc (.cells #[.int .i64 r2, .int .i64 z2] 35) = W0 at *
  clear hWW
  refine (differ_any W0 ao n cap s r1 r2 3 HN.out hn63 (HS.out.mono HBX.out) HW.out).mono ?_
  rw [HD.out]
  rintro e w1 ⟨v1, rfl, ho1, hb1⟩
  have HO1 := Lib.hid ho1
  have hB9 := lt_heap p9
  have p5 := (hb1.block _ (lt_heap p5)).trans p5
  have p9 := (hb1.block _ (lt_heap p9)).trans p9
  have c9 := cell_of_block p9 1
  simp only [List.getElem?_toArray, List.getElem?_cons_succ, List.getElem?_cons_zero] at c9
  have hz0 := HBX.out.size
  have hlt9 := lt_heap p9
  have HB1 := Lib.hid (below_step HBX.out hb1)
  have HDB := Lib.hid (delB_any w1 W0.heap.size (w.heap.size + 1 + 1) v1 _ z2 HO1.out (by have := HDL.out; simp only; omega) c9 hB9 hb1.size)
  rw [HFF.out] at HDB
  clear ho1 hb0 hb1
  go_wp2_with fail
  refine HDB.out.mono ?_
  rintro e w2 ⟨dao, dc, rfl, hrow2, hcd2, hb2⟩
  have p5 := (hb2.block _ (by have := HBX.out.size; omega)).trans p5
  have p9 := (hb2.block _ hB9).trans p9
  have HB2 := Lib.hid (HB1.out.trans (hb2.mono HBX.out.size))
  have HROW := Lib.hid hrow2
  have HCD := Lib.hid hcd2
  clear HDB hrow2 hcd2 hb2 c9 hlt9 hz0
  go_wp2_with fail
  have lw5 := lt_heap p5
  have lw9 := lt_heap p9
  go_loopw [11, 13] (fun v l wr => ∃ (f : Nat) (rest : List Int) (out : List ChgV) (ao' : Option Addr) (dn dc : Nat), v = .slice ao' dn dc ∧ rest.length = dn ∧ dn ≤ f ∧ Hid (Row .i64 w2 ao' rest ∧ Capd ao' dn dc ∧ (∀ x ∈ rest, 0 ≤ x ∧ x < 64) ∧ out ++ ((runsL f rest).map fun p => ⟨3, nm, p.1 * 4, (readR s key r2 z2 (p.1 * 4) ((p.2 : Int) * 4)).1⟩) = bytesC s key nm r1 r2 z2 ∧ out.length + dn ≤ 64 ∧ ChsIn wr w2.heap.size l out) ∧ Below w2.heap.size w2 wr) (fun v _ _ => lenV v)
  case atStart => exact ⟨64, _, [], _, _, _, rfl, rfl, HFL.out, Lib.hid ⟨HROW.out, HCD.out, HFR.out, rfl, by have := HFL.out; simpa using this, ChsIn.nil _ _⟩, Below.refl _ _⟩
  case round =>
    obtain ⟨f, rest, out, ao', dn, dc, rfl, hdl, hdf, HM, hbr⟩ := hrel
    have hbw := below_step HB2.out hbr
    replace p5 := (hbr.block _ lw5).trans p5
    replace p9 := (hbr.block _ lw9).trans p9
    have HDL2 := Lib.hid hdl
    have HF := Lib.hid hdf
    clear hdl hdf
    by_cases h0 : (0 : Int) < dn
    rotate_left
    · have h00 : dn = 0 := by omega
      subst h00
      obtain ⟨-, -, -, m4, m5, m6⟩ := HM.out
      have hr : rest = [] := List.eq_nil_of_length_eq_zero HDL2.out
      subst hr
      rw [runsL_nil, List.map_nil, List.append_nil] at m4
      subst m4
      have HEND := Lib.hid (And.intro m6 (And.intro m5 hbw))
      clear HM m5 m6 hbw HDL2 HF
      go_wp2_with fail
      go_ret
      exact ⟨_, rfl, HEND.out.1.weaken HB2.out.size, by simpa using HEND.out.2.1, HEND.out.2.2⟩
    have h0n : 0 < dn := by omega
    have h0d : decide (0 < dn) = true := decide_eq_true h0n
    obtain ⟨x, l0, hxl⟩ : ∃ x l0, rest = x :: l0 := by
      cases rest with
      | nil => have := HDL2.out; simp at this; omega
      | cons x l0 => exact ⟨x, l0, rfl⟩
    subst hxl
    obtain ⟨hrow, hcd, hrng, hsum, hlen, hch⟩ := HM.out
    obtain ⟨b, o, rfl, hcs⟩ := hrow.at 0 (by simp)
    have hx0 := hrng x (by simp)
    have hd64 : dn ≤ 64 := by omega
    have HCS0 := Lib.hid hcs
    have hl2 := World.block_lt_of_cell? _ _ (hcs 0 (by simp))
    simp only at hl2
    have HL2 := Lib.hid hl2
    have hcs : ∀ j (h : j < (x :: l0).length), wr.cell? ⟨b, o + j, none⟩ = some (.int .i64 (x :: l0)[j]) := fun j h => ((bcell hbr).1 _ _ hl2).trans (hcs j h)
    have HCS := Lib.hid hcs
    have c0 := hcs 0 (by simp)
    simp only [Nat.add_zero, List.getElem_cons_zero] at c0
    have lb := World.block_lt_of_cell? _ _ c0
    simp only at lb
    clear hl2
    have HCH := Lib.hid hch
    have HLEN := Lib.hid hlen
    have HSU := Lib.hid hsum
    have HRNG := Lib.hid hrng
    have HCD2 := Lib.hid hcd
    have HDN : Hid (l0.length + 1 = dn) := Lib.hid (by simpa using HDL2.out)
    have hcap : dn ≤ dc := HCD2.out.1
    clear hrow hcs hrng hsum hlen hch HM hcd
    go_wp2_with fail
    generalize wr = w8 at *
    go_loopw [14] (fun nv wr => ∃ m : Nat, nv = .int .i64 m ∧ 1 ≤ m ∧ m ≤ dn ∧ Hid (∀ j (h : j < l0.length), j + 1 < m → l0[j] = x + 1 + j) ∧ Below w8.heap.size w8 wr) (fun nv _ => dn - (intOf nv).toNat)
    case atStart => exact ⟨1, rfl, Nat.le_refl _, by omega, Lib.hid fun j _ h => by omega, Below.refl _ _⟩
    case round =>
      obtain ⟨m, rfl, hm1, hm2, HJ, hb8⟩ := hrel
      have d0 := ((bcell hb8).1 _ _ lb).trans c0
      have lb8 := Nat.lt_of_lt_of_le lb hb8.size
      by_cases hgo : ∃ h : m - 1 < l0.length, l0[m - 1] = x + m
      · obtain ⟨hm0, hyx⟩ := hgo
        have hlt : (m : Int) < dn := by have := HDN.out; omega
        have hc1 := HCS.out m (by rw [List.length_cons]; have := HDN.out; omega)
        have he1 : (x :: l0)[m]'(by rw [List.length_cons]; have := HDN.out; omega) = l0[m - 1] := by
          obtain ⟨j, rfl⟩ : ∃ j, m = j + 1 := ⟨m - 1, by omega⟩
          simp
        rw [he1] at hc1
        have d1 := ((bcell hb8).1 _ _ lb).trans hc1
        have hy := HRNG.out l0[m - 1] (List.mem_cons_of_mem _ (List.getElem_mem hm0))
        have HY : Hid (∀ j (h : j < l0.length), j = m - 1 → l0[j] = l0[m - 1]) := Lib.hid fun j h e => by subst e; rfl
        clear he1 hc1
        generalize l0[m - 1] = y at *
        have HR := Lib.hid hyx
        have hg1 : (y == x + (m : Int)) = true := by rw [beq_iff_eq]; exact hyx
        clear hyx
        go_wp2_with fail
        go_quiet (fail)
        go_wp2
        go_roundw
        case rel => exact ⟨m + 1, by go_num, by omega, by omega, Lib.hid fun j h hj => by
          by_cases e : j = m - 1
          · rw [HY.out j h e, HR.out]; omega
          · exact HJ.out j h (by omega), hb8.trans ⟨rfl, rfl, rfl, Nat.le_refl _, fun _ _ => rfl⟩⟩
        case measure => simp [intOf]; omega
      · have HGO := Lib.hid hgo
        clear hgo
        go_upto_region 6 with fail
        go_cut [48] (fun u wx => u = .bool false ∧ Below wr.heap.size wr wx)
        case first =>
          by_cases hlt : (m : Int) < dn
          · have hm0 : m - 1 < l0.length := by have := HDN.out; omega
            have hyx : l0[m - 1] ≠ x + m := fun e => HGO.out ⟨hm0, e⟩
            have hc1 := HCS.out m (by rw [List.length_cons]; have := HDN.out; omega)
            have he1 : (x :: l0)[m]'(by rw [List.length_cons]; have := HDN.out; omega) = l0[m - 1] := by
              obtain ⟨j, rfl⟩ : ∃ j, m = j + 1 := ⟨m - 1, by omega⟩
              simp
            rw [he1] at hc1
            have d1 := ((bcell hb8).1 _ _ lb).trans hc1
            clear he1 hc1
            generalize l0[m - 1] = y at *
            have hg1 : (y == x + (m : Int)) = false := by rw [beq_eq_false_iff_ne]; exact hyx
            clear hyx HGO
            go_wp2_with fail
            go_quiet (fail)
            go_wp2_with fail
            go_meet
            exact ⟨rfl, ⟨rfl, rfl, rfl, Nat.le_refl _, fun _ _ => rfl⟩⟩
          · have k1 : decide ((m : Int) < dn) = false := decide_eq_false hlt
            have k2 : ¬ m < dn := by omega
            have k3 : decide (m < dn) = false := decide_eq_false k2
            go_wp2_with fail
            go_quiet (fail)
            go_wp2_with fail
            go_meet
            exact ⟨rfl, ⟨rfl, rfl, rfl, Nat.le_refl _, fun _ _ => rfl⟩⟩
        case rest =>
          obtain ⟨rfl, hb9⟩ := hcut
          have HRC : Hid (1 + runC (x + 1) l0 = m) := Lib.hid (by
            rw [runC_is l0 (x + 1) (m - 1) (by have := HDN.out; omega) (fun j h hj => HJ.out j h (by omega)) fun h e => HGO.out ⟨h, by rw [e]; omega⟩]
            omega)
          have hb9 := below_step hb8 hb9
          have d0 := ((bcell hb9).1 _ _ lb).trans c0
          have p5 := (hb9.block _ (lt_heap p5)).trans p5
          have p9 := (hb9.block _ (lt_heap p9)).trans p9
          have e5 := cell_of_block p5 0
          have g0 := cell_of_block p9 0
          have g1 := cell_of_block p9 1
          simp only [List.getElem?_toArray, List.getElem?_cons_succ, List.getElem?_cons_zero] at e5 g0 g1
          clear HJ HGO
          have HN4 : Hid (0 ≤ (m : Int) ∧ (m : Int) ≤ 64) := Lib.hid (by omega)
          have HRD := Lib.hid (read_any wc ao n cap s key r2 z2 (x * 4) ((m : Int) * 4) HN.out hn63 (HS.out.mono (below_step hbw hb9)) HW.out HZ.out HC.out)
          go_wp2_with fail
          refine HRD.out.mono ?_
          rintro e w3 ⟨ra, rn, rc, rfl, hrl, hrr, hrc, hb3⟩
          have hb93 := below_step hb9 hb3
          have HB3 := Lib.hid hb93
          have hbn : Below w3.heap.size w3 (w3.alloc (.cells #[.int .i64 3, .string nm, .int .i64 (x * 4), .slice ra rn rc] 81)) := (Below.refl _ _).alloc (Nat.le_refl _) _
          obtain ⟨a7, n7, c7, w7, hrun0, hch7, hg7, hown7⟩ := ChsIn.append (w := w3.alloc (.cells #[.int .i64 3, .string nm, .int .i64 (x * 4), .slice ra rn rc] 81)) (HCH.out.mono (below_step hb93 hbn)) (ms := [⟨3, nm, x * 4, ra, rn, rc⟩]) (cs := [⟨3, nm, x * 4, (readR s key r2 z2 (x * 4) ((m : Int) * 4)).1⟩]) (by simp) rfl (fun i h h' => by
            obtain rfl : i = 0 := by simp at h; omega
            exact ⟨rfl, rfl, rfl, hrl, hrr.mono hbn, hrc⟩) ⟨w3.heap.size, 0, none⟩ 1 (fun j u hj => by
            rw [add_start, Nat.zero_add, cell_of_block (heap_alloc_new w3 _), List.getElem?_toArray]
            simpa [Kind.all, chvK] using hj) (by have := HLEN.out; simp; omega) (by have := hbr.size; have := hb93.size; simp; omega)
          have hrun : ∀ ty, (Builtin.append_ #[29, 29] ty #[u13, .slice (some ⟨w3.heap.size, 0, none⟩) 1 1]).run Try.prog (w3.alloc (.cells #[.int .i64 3, .string nm, .int .i64 (x * 4), .slice ra rn rc] 81)) = .ok (.slice a7 n7 c7) w7 := hrun0
          clear hrun0
          go_wp2_with (at_builtin; refine app_run rfl (.tmp 65) (.tmp 70) _ _ rfl rfl rfl hrun ?_)
          have hge : ∀ g, u13.ownBlock = some g → w2.heap.size ≤ g := fun g e => (hown7 g e).1.1
          have hbg := grown_all hg7 hge (by have := hbr.size; have := hb93.size; simp; omega)
          have hbr7 : Below w2.heap.size w2 w7 := (hbr.trans ((hb93.mono hbr.size).trans (hbn.mono (by have := hbr.size; have := hb93.size; omega)))).trans hbg
          obtain ⟨f', rfl⟩ : ∃ f', f = f' + 1 := ⟨f - 1, by have := HF.out; omega⟩
          have hml : m - 1 = runC (x + 1) l0 := by have := HRC.out; omega
          have hrl : (l0.drop (m - 1)).length = dn - m := by rw [List.length_drop]; have := HDN.out; omega
          have HREL : Hid (Row .i64 w2 (if dc = m then some ⟨b, o, none⟩ else some ⟨b, o + m, none⟩) (l0.drop (m - 1)) ∧ Capd (if dc = m then some ⟨b, o, none⟩ else some ⟨b, o + m, none⟩) (dn - m) (dc - m) ∧ (∀ y ∈ l0.drop (m - 1), 0 ≤ y ∧ y < 64) ∧ (out ++ [⟨3, nm, x * 4, (readR s key r2 z2 (x * 4) ((m : Int) * 4)).1⟩]) ++ ((runsL f' (l0.drop (m - 1))).map fun p => ⟨3, nm, p.1 * 4, (readR s key r2 z2 (p.1 * 4) ((p.2 : Int) * 4)).1⟩) = bytesC s key nm r1 r2 z2 ∧
              (out ++ [(⟨3, nm, x * 4, (readR s key r2 z2 (x * 4) ((m : Int) * 4)).1⟩ : ChgV)]).length + (dn - m) ≤ 64 ∧ ChsIn w7 w2.heap.size (.slice a7 n7 c7) (out ++ [⟨3, nm, x * 4, (readR s key r2 z2 (x * 4) ((m : Int) * 4)).1⟩])) := Lib.hid ⟨?_, ⟨by omega, fun e => by split at e <;> cases e⟩, fun y hy => HRNG.out y (List.mem_cons_of_mem _ (List.mem_of_mem_drop hy)), ?_, by have := HLEN.out; simp; omega, hch7⟩
          rotate_left
          · by_cases e : dc = m
            · exact .inl (List.eq_nil_of_length_eq_zero (by have := HCD2.out.1; omega))
            · rw [if_neg e]
              refine .inr ⟨b, o + m, rfl, fun j hj => ?_⟩
              have hj' : j < l0.length - (m - 1) := by rwa [List.length_drop] at hj
              have h1 := HCS0.out (m + j) (by rw [List.length_cons]; omega)
              rw [← Nat.add_assoc] at h1
              refine h1.trans ?_
              have e2 : (x :: l0)[m + j]? = (l0.drop (m - 1))[j]? := by
                rw [List.getElem?_drop]
                obtain ⟨q, rfl⟩ : ∃ q, m = q + 1 := ⟨m - 1, by omega⟩
                rw [show q + 1 + j = (q + j) + 1 from by omega, List.getElem?_cons_succ]
                rfl
              rw [List.getElem?_eq_getElem (by rw [List.length_cons]; omega), List.getElem?_eq_getElem hj] at e2
              rw [Option.some.inj e2]
          · rw [← HSU.out]
            show _ = out ++ List.map _ ((x, 1 + runC (x + 1) l0) :: runsL f' (l0.drop (runC (x + 1) l0)))
            rw [HRC.out, ← hml, List.map_cons, List.append_assoc]
            rfl
          have HRL := Lib.hid hrl
          have HF2 : Hid (dn - m ≤ f') := Lib.hid (by have := HF.out; omega)
          clear hrl hml hbg hge hch7 hg7 hown7
          go_roundw
          case rel => exact ⟨f', l0.drop (m - 1), _, _, _, _, rfl, HRL.out, HF2.out, HREL, hbr7⟩
          case measure => simp [lenV]; omega
end Go.Proofs.Ytfmgdjgedhnmeaa
