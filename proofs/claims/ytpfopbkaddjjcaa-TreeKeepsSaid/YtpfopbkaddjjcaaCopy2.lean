/- store.Copy: the same store in memory of its own. -/
import Derived.Test.YtpfopbkaddjjcaaCopy
import Derived.Test.YtpfopbkaddjjcaaBelow
import Derived.Deep.RegionWith
import Derived.Deep.RegionHeld3
namespace Go.Proofs.Ytpfopbkaddjjcaa
open Go.RowKit
set_option linter.unusedVariables false

set_option maxRecDepth 100000 in
theorem clone_ints (ao : Option Addr) (n c : Nat) (xs : List Int) (w : World) (hn : xs.length = n) (hx : Row .i64 w ao xs) (h0 : ao = none → c = 0) (hl : n ≤ 17592186044416) :
    Calls Try.prog 92 #[.slice ao n c] w fun e w' => ∃ v, e = .returned v ∧ Own .i64 3 w.heap.size w' v xs ∧ NilKept v ao ∧ Below w.heap.size w w' := by
  subst hn
  have he := fun w a n c => Lib.run_eql_slice_nil (P := Try.prog) w 24 3 a n c 0 0 Try.underlying24
  cases ao with
  | none =>
    have hxs : xs = [] := by
      rcases hx with h | ⟨_, _, h, _⟩
      · exact h
      · cases h
    subst hxs
    obtain rfl := h0 rfl
    go_enter Try.func92, Try.ntmps92
    go_wp2
    go_ret
    exact ⟨_, rfl, Own.nil _ _ _ _, fun _ => rfl, Below.refl _ _⟩
  | some a =>
    clear h0
    have HL := Lib.hid hl
    clear hl
    have hq := hx.mono (w' := w.alloc (.cells #[] 3)) ((Below.refl _ _).alloc (Nat.le_refl _) _)
    go_enter Try.func92, Try.ntmps92
    go_wp2_with (first
      | (at_builtin; refine append_ints rfl (.tmp 5) (.tmp 6) _ rfl .i64 3 8 w.heap.size Try.underlying24 info_int _ _ _ _ _ rfl (Own.empty _ _ _) rfl hq (fun h => by cases h) ?_ ?_ (by simp) ?_; rotate_right; intro v' w1 hown1 hbel1 hnil))
    · go_ret
      exact ⟨_, rfl, hown1, (fun h => by have := hnil h; cases this), ((Below.refl _ _).alloc (Nat.le_refl _) _).trans hbel1⟩
    · have := HL.out; simp; unfold maxLen; omega
    · have := HL.out; simp; omega

theorem clone_bytes_n (ao : Option Addr) (n c : Nat) (xs : List Int) (w : World) (hn : xs.length = n) (hx : Row .u8 w ao xs) (h0 : ao = none → c = 0) (hl : n ≤ 140737488355328) :
    Calls Try.prog 27 #[.slice ao n c] w fun e w' => ∃ v, e = .returned v ∧ Own .u8 5 w.heap.size w' v xs ∧ NilKept v ao ∧ Below w.heap.size w w' := by
  subst hn
  exact clone_bytes ao c xs w hx h0 hl

theorem undrew {w w' : World} (h : Below w.drew.heap.size w.drew w') : Below w.heap.size w w' := ⟨h.os, h.tape, h.output, h.size, h.block⟩

/-- a block of one cell that holds a slice is written: a store's row stays -/
theorem OwnR.box {w : World} {base g pb : Nat} {s : List Blk} {a : Option Addr} {n c t : Nat} (h : OwnR w base g s) (hp : w.heap[pb]? = some (.cells #[.slice a n c] t (0, 0))) (hpg : pb ≠ g) (v : Value) : OwnR (w.setCell ⟨pb, 0, none⟩ v) base g s := by
  have hcell : ∀ b o, b ≠ pb → (w.setCell ⟨pb, 0, none⟩ v).cell? ⟨b, o, none⟩ = w.cell? ⟨b, o, none⟩ := fun b o hb => World.cell?_of_block (w := w) (Below.heap_setCell _ _ _ _ hb)
  have hfar : ∀ k ao xs, FarRow g k w ao xs → FarRow g k (w.setCell ⟨pb, 0, none⟩ v) ao xs := by
    intro k ao xs hf
    rcases hf with rfl | ⟨b, o, rfl, hb, hf⟩
    · exact .inl rfl
    · rcases Nat.eq_zero_or_pos xs.length with h0 | h0
      · exact .inl (List.eq_nil_of_length_eq_zero h0)
      · have hne : b ≠ pb := by
          rintro rfl
          have h1 := hf 0 h0
          rw [cell_of_block hp] at h1
          rcases (show o + 0 = 0 ∨ 0 < o + 0 from by omega) with e | e
          · rw [e] at h1; simp at h1
          · rw [Array.getElem?_eq_none (by simp; omega)] at h1; cases h1
        exact .inr ⟨b, o, rfl, hb, fun i hi => (hcell b _ hne).trans (hf i hi)⟩
  have hslx : ∀ k v' xs, SlX g k w v' xs → SlX g k (w.setCell ⟨pb, 0, none⟩ v) v' xs := by
    rintro k v' xs ⟨ao, cap, hv, hr, hc⟩
    exact ⟨ao, cap, hv, hfar _ _ _ hr, hc⟩
  have hg : ∀ j, (w.setCell ⟨pb, 0, none⟩ v).cell? ⟨g, j, none⟩ = w.cell? ⟨g, j, none⟩ := fun j => hcell g j (Ne.symm hpg)
  refine ⟨h.le, ?_, fun i hi => ?_⟩
  · obtain ⟨cur, hc⟩ := h.heap
    exact ⟨cur, heap_setCell_ne hc (Ne.symm hpg)⟩
  · have hB := h.blks i hi
    obtain ⟨v1, h1, h2⟩ := hB.kids
    obtain ⟨u1, h3, h4⟩ := hB.bytes
    exact ⟨(hg _).trans hB.refs, (hg _).trans hB.level, ⟨v1, (hg _).trans h1, hslx _ _ _ h2⟩, ⟨u1, (hg _).trans h3, hslx _ _ _ h4⟩⟩

theorem OwnSto.box {w : World} {base pb : Nat} {v0 : Value} {s : List Blk} {a : Option Addr} {n c t : Nat} (h : OwnSto w base v0 s) (hp : w.heap[pb]? = some (.cells #[.slice a n c] t (0, 0))) (hpg : pb < base) (v : Value) : OwnSto (w.setCell ⟨pb, 0, none⟩ v) base v0 s := by
  obtain ⟨ao, cap, hv, hc, h | ⟨g, hg, hr⟩⟩ := h
  · exact ⟨ao, cap, hv, hc, .inl h⟩
  · exact ⟨ao, cap, hv, hc, .inr ⟨g, hg, hr.box hp (by have := hr.le; omega) v⟩⟩

set_option maxRecDepth 100000 in
set_option maxHeartbeats 1000000 in
theorem copy_any (w : World) (ao : Option Addr) (n cap : Nat) (s : List Blk) (hn : s.length = n) (hs : StoRow w ao s) (hwf : WfS s) (hc : Capd ao n cap) (hl : n ≤ 2199023255552) :
    Calls Try.prog 67 #[.agg #[.slice ao n cap]] w fun e w' => ∃ v, e = .returned (.agg #[v]) ∧ OwnSto w' w.heap.size v s ∧ Below w.heap.size w w' := by
  have HN := Lib.hid hn
  have HC := Lib.hid hc
  have HL := Lib.hid hl
  have hb0 : Below w.heap.size w ((w.alloc (.cells #[.slice ao n cap] 40)).alloc (.cells #[.slice none 0 0] 40)) := ((Below.refl _ _).alloc (Nat.le_refl _) _).alloc (by simp) _
  have h1 : ((w.alloc (.cells #[.slice ao n cap] 40)).alloc (.cells #[.slice none 0 0] 40)).heap[w.heap.size]? = some (.cells #[.slice ao n cap] 40 (0, 0)) := heap_alloc2_old _ _ _
  have h2 : ((w.alloc (.cells #[.slice ao n cap] 40)).alloc (.cells #[.slice none 0 0] 40)).heap[w.heap.size + 1]? = some (.cells #[.slice none 0 0] 40 (0, 0)) := heap_alloc2_new _ _ _
  have hz : ((w.alloc (.cells #[.slice ao n cap] 40)).alloc (.cells #[.slice none 0 0] 40)).heap.size = w.heap.size + 2 := by simp
  have HZ := Lib.hid hz
  clear hn hc hl hz
  go_enter Try.func67, Try.ntmps67
  go_wp2_with fail
  generalize (w.alloc (Obj.cells #[Value.slice ao n cap] 40)).alloc (Obj.cells #[Value.slice none 0 0] 40) = W0 at *
  refine (clone_blocks _ _ _ _ s HN.out (hs.mono hb0) HC.out HL.out).mono ?_
  rintro e w1 ⟨v, rfl, ho1, hb1⟩
  have p1 : w1.heap[w.heap.size]? = some (.cells #[.slice ao n cap] 40 (0, 0)) := (hb1.block _ (lt_heap h1)).trans h1
  have p2 : w1.heap[w.heap.size + 1]? = some (.cells #[.slice none 0 0] 40 (0, 0)) := (hb1.block _ (lt_heap h2)).trans h2
  have ho2 := ho1.box p1 (lt_heap h1) v
  have q1 := one_setCell (u := v) p1
  have q2 : (w1.setCell ⟨w.heap.size, 0, none⟩ v).heap[w.heap.size + 1]? = some (.cells #[.slice none 0 0] 40 (0, 0)) := heap_setCell_ne p2 (by simp)
  have hbz : Below w.heap.size w (w1.setCell ⟨w.heap.size, 0, none⟩ v) := (below_step hb0 hb1).setCell (Nat.le_refl _) _
  have c1 := cell_of_one p1
  have f1 := free_of_one p1
  obtain ⟨a1, cap1, hv1, hc1, hr1⟩ := ho1.sto
  rw [HN.out] at hv1 hc1
  subst hv1
  have c2 : (w1.setCell ⟨w.heap.size, 0, none⟩ (.slice a1 n cap1)).cell? ⟨w.heap.size, 0, none⟩ = some (.slice a1 n cap1) := World.cell?_setCell_same _ _ _ c1
  clear ho1 p1 p2 h1 h2 hr1 hb1
  go_wp2
  generalize w1.setCell ⟨w.heap.size, 0, none⟩ (Value.slice a1 n cap1) = W2 at *
  have HW := Lib.hid (show W0.heap.size ≤ W2.heap.size from by have := lt_heap q2; have := HZ.out; omega)
  clear c1 f1 c2
  go_loopw [12] (fun i wr => ∃ k : Nat, k ≤ n ∧ i = .int .i64 k ∧ OwnSto wr W0.heap.size (.slice a1 n cap1) s ∧ wr.heap[w.heap.size]? = some (.cells #[.slice a1 n cap1] 40 (0, 0)) ∧
      wr.heap[w.heap.size + 1]? = some (.cells #[.slice none 0 0] 40 (0, 0)) ∧ Below w.heap.size w wr) (fun i _ => n - (intOf i).toNat)
  case atStart => exact ⟨0, Nat.zero_le _, rfl, ho2, q1, q2, hbz⟩
  case round =>
    clear ho2 q1 q2 hbz HW
    obtain ⟨k, hkn, rfl, ho, q1, q2, hbz⟩ := hrel
    have c1 := cell_of_one q1
    have l1 := lt_heap q1
    have l2 := lt_heap q2
    have c2 := cell_of_one q2
    have f2 := free_of_one q2
    by_cases hlt : k < n
    · have hks : k < s.length := by have := HN.out; omega
      obtain ⟨g, cap', hv, hR⟩ := ho.at k hks
      rw [HN.out] at hv
      simp only [Value.slice.injEq, true_and] at hv
      obtain ⟨rfl, rfl⟩ := hv
      have hB := hR.blks k hks
      have c3 := hB.refs
      have c4 := hB.level
      obtain ⟨v2, c5, kao, kcap, rfl, hrow, hcd⟩ := hB.kids
      obtain ⟨v3, c6, bao, bcap, rfl, hrow3, hcd3⟩ := hB.bytes
      have lg := hR.lt
      have hba : Below wr.heap.size wr (wr.alloc (.cells #[.int .i64 s[k].refs, .int .i64 s[k].level, .slice kao s[k].kids.length kcap, .slice bao s[k].bytes.length bcap] 50)) := (Below.refl _ _).alloc (Nat.le_refl _) _
      have b1 : (wr.alloc (.cells #[.int .i64 s[k].refs, .int .i64 s[k].level, .slice kao s[k].kids.length kcap, .slice bao s[k].bytes.length bcap] 50)).cell? ⟨wr.heap.size, 2, none⟩ = some (.slice kao s[k].kids.length kcap) := by simp
      have b2 : (wr.alloc (.cells #[.int .i64 s[k].refs, .int .i64 s[k].level, .slice kao s[k].kids.length kcap, .slice bao s[k].bytes.length bcap] 50)).cell? ⟨wr.heap.size, 3, none⟩ = some (.slice bao s[k].bytes.length bcap) := by simp
      have b3 := (bcell hba).1 w.heap.size 0 l1
      rw [c1] at b3
      have b5 := ((bcell hba).1 _ _ lg).trans c5
      have b6 := ((bcell hba).1 _ _ lg).trans c6
      have bf : ∀ j, (wr.alloc (.cells #[.int .i64 s[k].refs, .int .i64 s[k].level, .slice kao s[k].kids.length kcap, .slice bao s[k].bytes.length bcap] 50)).frozen? ⟨g, j, none⟩ = false := fun j => ((bcell hba).2 _ _ lg).trans (hR.free j)
      have hR2 := hR.mono hba
      have hrow2 := hrow.row.mono hba
      have hrow32 := hrow3.row.mono hba
      have lz : wr.heap.size < (wr.alloc (.cells #[.int .i64 s[k].refs, .int .i64 s[k].level, .slice kao s[k].kids.length kcap, .slice bao s[k].bytes.length bcap] 50)).heap.size := by simp
      clear hB
      go_wp2_with fail
      generalize wr.alloc (Obj.cells #[Value.int .i64 s[k].refs, Value.int .i64 s[k].level, Value.slice kao s[k].kids.length kcap, Value.slice bao s[k].bytes.length bcap] 50) = W3 at *
      have hw := hwf.at k hks
      have HWK := Lib.hid hw
      have hi1 : (0 : Int) ≤ k := by omega
      have hi2 : (k : Int) < n := by omega
      clear hw c1 c2 f2 c3 c4 c5 c6
      have l13 : w.heap.size < W3.heap.size := by omega
      have lg3 : g < W3.heap.size := hR2.lt
      have hne1 : w.heap.size ≠ g := by have := hR.le; have := HZ.out; omega
      have hne2 : wr.heap.size ≠ g := by omega
      go_region_held3 (fun w' => w'.cell? ⟨w.heap.size, 0, none⟩ = some (.slice (some ⟨g, 0, none⟩) n cap1) ∧ w'.cell? ⟨wr.heap.size, 2, none⟩ = some (.slice kao s[k].kids.length kcap) ∧ w'.cell? ⟨wr.heap.size, 3, none⟩ = some (.slice bao s[k].bytes.length bcap)) (first
        | exact ⟨b3, b1, b2⟩
        | exact ⟨e1, e2, e3⟩
        | exact ⟨e4, e5, e6⟩
        | (refine ⟨?_, ?_, ?_⟩ <;> (rw [World.cell?_setCell_other _ _ _ _ (by intro h; simp only [Addr.mk.injEq] at h; omega)]; first | exact e4 | exact e5 | exact e6 | (rw [World.cell?_setCell_other _ _ _ _ (by intro h; simp only [Addr.mk.injEq] at h; omega)]; first | exact e4 | exact e5 | exact e6))))
        (first
        | (go_at_call 92; refine (clone_ints _ _ _ s[k].kids _ rfl (by exact hrow2) hcd.2 HWK.out.klen).mono ?_; rintro e w4 ⟨v4, rfl, hown4, -, hb4⟩; obtain ⟨a4, k4, rfl, -, -, -, -⟩ := hown4.shape'; have e1 := ((bcell hb4).1 _ _ l13).trans b3; have e2 := ((bcell hb4).1 _ _ lz).trans b1; have e3 := ((bcell hb4).1 _ _ lz).trans b2; have z4 := hb4.size)
        | (go_at_call 27; refine (clone_bytes_n _ _ _ s[k].bytes _ rfl (by exact Row.mono (w := W3.drew) hrow32 hb4) hcd3.2 (by have := HWK.out.blen; omega)).mono ?_; rintro e w5 ⟨v5, rfl, hown5, -, hb5⟩; obtain ⟨a5, k5, rfl, -, -, -, -⟩ := hown5.shape'; have e4 := ((bcell hb5).1 _ _ (Nat.lt_of_lt_of_le l13 z4)).trans e1; have e5 := ((bcell hb5).1 _ _ (Nat.lt_of_lt_of_le lz z4)).trans e2; have e6 := ((bcell hb5).1 _ _ (Nat.lt_of_lt_of_le lz z4)).trans e3; have lg5 := Nat.lt_of_lt_of_le lg3 z4; have g1 := ((bcell hb5).1 _ _ lg5).trans (((bcell hb4).1 _ _ lg3).trans b5); have g2 := ((bcell hb5).1 _ _ lg5).trans (((bcell hb4).1 _ _ lg3).trans b6); have g3 := fun j => ((bcell hb5).2 g j lg5).trans (((bcell hb4).2 g j lg3).trans (bf j)); have z5 := hb5.size))
      have hb34 : Below W3.heap.size W3 w4 := undrew hb4
      have z34 : W3.heap.size ≤ w4.heap.size := hb34.size
      have z45 := hb5.size
      have hnn : (n : Int) ≤ 2199023255552 := by have := HL.out; omega
      have hR5 := (hR2.mono hb34).mono hb5
      have sk := (hown4.slx lg3).keep (w' := w5) (fun b _ hlt => hb5.block b hlt)
      have hR6 := hR5.setKids k hks _ sk
      have sb := (hown5.slx lg5).keep (w' := w5.setCell ⟨g, k * 4 + 2, none⟩ (.slice a4 s[k].kids.length k4)) (fun b hb _ => Below.heap_setCell _ _ _ _ hb)
      have hR7 := hR6.setBytes k hks _ sb
      have hq : ∀ b, b < wr.heap.size → b ≠ g → ((w5.setCell ⟨g, k * 4 + 2, none⟩ (.slice a4 s[k].kids.length k4)).setCell ⟨g, k * 4 + 3, none⟩ (.slice a5 s[k].bytes.length k5)).heap[b]? = wr.heap[b]? := by
        intro b hlt hb
        have z3 := hba.size
        rw [Below.heap_setCell _ _ _ _ hb, Below.heap_setCell _ _ _ _ hb, hb5.block b (by omega), hb34.block b (by omega), hba.block b hlt]
      have hbf : Below w.heap.size w ((w5.setCell ⟨g, k * 4 + 2, none⟩ (.slice a4 s[k].kids.length k4)).setCell ⟨g, k * 4 + 3, none⟩ (.slice a5 s[k].bytes.length k5)) :=
        ((hbz.trans ((hba.mono hbz.size).trans ((hb34.mono (by have := hbz.size; have := hba.size; omega)).trans (hb5.mono (by have := hbz.size; have := hba.size; omega))))).setCell (by have := hR.le; have := HZ.out; show w.heap.size ≤ g; omega) _).setCell (by have := hR.le; have := HZ.out; show w.heap.size ≤ g; omega) _
      have hcn := hc1.1
      have HQ1 := Lib.hid ((hq _ l1 hne1).trans q1)
      have HQ2 := Lib.hid ((hq _ l2 (by have := hR.le; have := HZ.out; omega)).trans q2)
      clear g1 g2 g3 e1 e2 e3 e4 e5 e6 b1 b2 b3 b5 b6 bf sk sb hown4 hown5 hq q1 q2
      go_wp2
      go_roundw
      case rel => exact ⟨k + 1, by omega, by go_num, hR7.own HN.out hcn, HQ1.out, HQ2.out, hbf⟩
      case measure => simp [intOf]; omega
    · obtain rfl : k = n := by omega
      have HO := Lib.hid (ho.box (pb := w.heap.size + 1) q2 (by have := HZ.out; omega) (.slice a1 k cap1))
      go_wp2
      refine bodyPost_ret (v := .agg #[.slice a1 k cap1]) (by simp [results, Try.results67, go_sem, c2]) rfl ⟨_, rfl, ?_, ?_⟩
      · obtain ⟨ao', cap', e1, e2, e3⟩ := HO.out
        refine ⟨ao', cap', e1, e2, ?_⟩
        rcases e3 with e3 | ⟨g, e4, e5⟩
        · exact .inl e3
        · exact .inr ⟨g, e4, ⟨by have := e5.le; have := HZ.out; omega, e5.heap, e5.blks⟩⟩
      · exact hbz.setCell (by simp) _
end Go.Proofs.Ytpfopbkaddjjcaa
