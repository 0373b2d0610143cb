/- set.keep: all roots of entries once more, or once less. -/
import Derived.Test.YtgeacpfenhaioaaPlace
import Derived.Test.YtgeacpfenhaioaaTurn
namespace Go.Proofs.Ytgeacpfenhaioaa
open Go.RowKit
set_option linter.unusedVariables false

theorem loose_inL {w0 : World} (w : World) (pb base : Nat) (ao : Option Addr) (n cap : Nat) (s t : List Blk) (rt L : Int) (hn : s.length = n) (hlt : t.length = n) (h400 : n ≤ 400) (hbox : w.heap[pb]? = some (.cells #[.slice ao n cap] 24 (0, 0)))
    (hI : InAt w0 w base ao n cap s t) (hbs : base ≤ w0.heap.size) (hpn : ∀ g, s ≠ [] → ao = some ⟨g, 0, none⟩ → pb ≠ g) (hlv : Lv t) (hrl : RefsL t L) (hL0 : L ≤ 0) (hL : -900000 ≤ L) (ha : rt = 0 ∨ (1 ≤ rt ∧ rt ≤ n ∧ (blk t rt).level < (4 : Nat))) :
    Calls Try.prog 80 #[.pointer (some ⟨pb, 0, none⟩), .int .i64 rt] w fun e w' => e = .returned (.tuple #[]) ∧ InAt w0 w' base ao n cap s (looseF 4 t rt) ∧ (∀ c, c < w.heap.size → (∀ g, s ≠ [] → ao = some ⟨g, 0, none⟩ → c ≠ g) → w'.heap[c]? = w.heap[c]?) := by
  rcases ha with h0 | ha
  · subst h0
    refine (loose_zero w pb).mono ?_
    rintro e w6 ⟨rfl, rfl⟩
    exact ⟨rfl, by rw [show looseF 4 t 0 = t from by simp [looseF]]; exact hI, fun _ _ _ => rfl⟩
  · have hs : s ≠ [] := fun e => by rw [e] at hn; simp at hn; omega
    have ht : t ≠ [] := fun e => by rw [e] at hlt; simp at hlt; omega
    obtain ⟨ao', cap', hv, hcd, h1 | ⟨g, hg, hR⟩⟩ := hI.own
    · exact absurd h1 ht
    · rw [hlt] at hv hcd
      simp only [Value.slice.injEq, true_and] at hv
      obtain ⟨rfl, rfl⟩ := hv
      subst hg
      have hpg := hpn g hs rfl
      have hle := hR.le
      have hsz := hI.below.size
      have hll := (loosed 4 t rt L hlv hrl hL0).len
      refine (loose_any 4 w pb base g n cap t rt L (Nat.le_refl _) hlt h400 hbox hR hpg hlv hrl hL0 (by simp [cost]; omega) (.inr ha)).mono ?_
      rintro e w6 ⟨rfl, hR6, hg6⟩
      refine ⟨rfl, ⟨hR6.own (by rw [hll]; exact hlt) hcd.1, hI.below.trans (grown_below hg6 hle (by omega)), fun c hc h => ?_⟩, fun c hc h => hg6.block c hc (by simpa using h g hs rfl)⟩
      exact (hg6.block c (by omega) (by simpa using h g hs rfl)).trans (hI.frame c hc h)

def lessL (s : List Blk) (ks : List Int) : List Blk := ks.foldl (looseF 4) s
theorem lessL_snoc (s : List Blk) (ks : List Int) (a : Int) : lessL s (ks ++ [a]) = looseF 4 (lessL s ks) a := by simp [lessL, List.foldl_append]

/-- roots that may be let go -/
def RootsLow (s : List Blk) (l : List Int) : Prop := ∀ a ∈ l, a = 0 ∨ (1 ≤ a ∧ a ≤ s.length ∧ (blk s a).level < (4 : Nat))

set_option maxRecDepth 100000 in
set_option maxHeartbeats 8000000 in
theorem keep_less (w : World) (pb base : Nat) (ao eo : Option Addr) (n cap m ec : Nat) (t : List Blk) (l : List Ent) (L : Int) (hn : t.length = n) (h400 : n ≤ 400) (hbox : w.heap[pb]? = some (.cells #[.slice ao n cap] 24 (0, 0))) (ho : OwnSto w base (.slice ao n cap) t) (hbs : base ≤ w.heap.size)
    (hpn : ∀ g, t ≠ [] → ao = some ⟨g, 0, none⟩ → pb ≠ g) (hlv : Lv t) (hrl : RefsL t L) (hL0 : L ≤ 0) (hL : -800000 ≤ L) (hm : l.length = m) (hm6 : m ≤ 6) (he : EntFar (fun b => t ≠ [] ∧ ao = some ⟨b, 0, none⟩) w eo l) (hr : RootsLow t (rootsF l)) :
    Calls Try.prog 56 #[.pointer (some ⟨pb, 0, none⟩), .slice eo m ec, .bool false] w fun e w' => e = .returned (.tuple #[]) ∧ InAt w w' base ao n cap t (lessL t (rootsF l)) := by
  have HN := Lib.hid hn
  have HM := Lib.hid hm
  have HR := Lib.hid hr
  have HLV := Lib.hid hlv
  have HRL := Lib.hid hrl
  have hm6' : (m : Int) ≤ 6 := by omega
  have hI0 : InAt w w base ao n cap t (lessL t (rootsF (l.take 0))) := ⟨ho, Below.refl _ _, fun _ _ _ => rfl⟩
  clear hn hm hr hlv hrl ho
  go_enter Try.func56, Try.ntmps56
  go_wp2
  go_loopw [10] (fun i wr => ∃ k : Nat, k ≤ m ∧ i = .int .i64 k ∧ InAt w wr base ao n cap t (lessL t (rootsF (l.take k))) ∧ Hid (Loosed t (lessL t (rootsF (l.take k))) (L - k * cost 4))) (fun i _ => m - (intOf i).toNat)
  case atStart => exact ⟨0, Nat.zero_le _, rfl, hI0, Lib.hid ⟨HLV.out, by have h := HRL.out; rw [show L - ((0 : Nat) : Int) * cost 4 = L from by simp]; exact h, fun _ => Int.le_refl _, rfl⟩⟩
  case round =>
    clear hI0
    obtain ⟨k, hkm, rfl, hI, HK⟩ := hrel
    by_cases hlt : k < m
    · have hkl : k < l.length := by have := HM.out; omega
      have hlt' : (k : Int) < m := by omega
      have her := he.keep hI.below.size (fun b hb hl => hI.frame b hl (fun g h1 h2 h3 => hb ⟨h1, by rw [h3]; exact h2⟩))
      obtain ⟨b, o, rfl, hq⟩ := her.row.at k hkl
      have hE := hq k hkl
      have c0 := hE.nm
      have c1 := hE.root
      have c2 := hE.size
      have lb := hE.lt
      have HKT := Lib.hid (rootsF_take l k hkl)
      have HRK := Lib.hid (HR.out l[k].root (List.mem_map.2 ⟨_, List.getElem_mem hkl, rfl⟩))
      have hbx := (hI.frame pb (lt_heap hbox) (fun g h1 h2 => hpn g h1 h2)).trans hbox
      clear hq hE her
      generalize l[k] = x at *
      obtain ⟨nm, root, size⟩ := x
      simp only at c0 c1 c2 HKT HRK
      have hb2 : Below wr.heap.size wr (wr.alloc (.cells #[.string nm, .int .i64 root, .int .i64 size] 47)) := (Below.refl _ _).alloc (Nat.le_refl _) _
      have q2 : (wr.alloc (.cells #[.string nm, .int .i64 root, .int .i64 size] 47)).heap[wr.heap.size]? = some (.cells #[.string nm, .int .i64 root, .int .i64 size] 47 (0, 0)) := heap_alloc_new _ _
      have d1 := cell_of_block q2 1
      simp at d1
      have hI2 := hI.later hb2 hbs
      have hbx2 := (hb2.block _ (lt_heap hbx)).trans hbx
      clear hI hb2 q2 hbx
      by_cases h0 : root = 0
      · subst h0
        have HI3 : Hid (InAt w (wr.alloc (.cells #[.string nm, .int .i64 0, .int .i64 size] 47)) base ao n cap t (lessL t (rootsF (l.take (k + 1))))) := Lib.hid (by
          rw [HKT.out, lessL_snoc, show looseF 4 (lessL t (rootsF (l.take k))) 0 = lessL t (rootsF (l.take k)) from by simp [looseF]]
          exact hI2)
        have HK3 : Hid (Loosed t (lessL t (rootsF (l.take (k + 1)))) (L - ((k + 1 : Nat) : Int) * cost 4)) := Lib.hid (by
          rw [HKT.out, lessL_snoc, show looseF 4 (lessL t (rootsF (l.take k))) 0 = lessL t (rootsF (l.take k)) from by simp [looseF]]
          have h := HK.out
          exact ⟨h.lv, h.refs.weaken (by have := cost_nn 4; rw [Int.natCast_add, Int.add_mul]; omega), h.lev, h.len⟩)
        clear hI2 HKT HK
        go_wp2
        go_roundw
        case rel => exact ⟨k + 1, by omega, by go_num, HI3.out, HK3⟩
        case measure => simp [intOf]; omega
      · have h0' : (root == 0) = false := by rw [beq_eq_false_iff_ne]; exact h0
        have hk6 : (k : Int) ≤ 6 := by omega
        have HC : Hid (-800000 - 6 * 85 ≤ L - k * cost 4 ∧ L - k * cost 4 ≤ 0) := Lib.hid (by simp [cost]; omega)
        go_wp2_with fail
        refine (loose_inL _ pb base ao n cap t (lessL t (rootsF (l.take k))) root (L - k * cost 4) HN.out (HK.out.len.trans HN.out) h400 hbx2 hI2 hbs hpn HK.out.lv HK.out.refs HC.out.2 (by have := HC.out.1; omega) ?_).mono ?_
        · rcases HRK.out with h | ⟨h1, h2, h3⟩
          · exact absurd h h0
          · exact .inr ⟨h1, by have := HN.out; omega, Int.lt_of_le_of_lt (HK.out.lev root) h3⟩
        · rintro e w3 ⟨rfl, hI3, -⟩
          have HI3 : Hid (InAt w w3 base ao n cap t (lessL t (rootsF (l.take (k + 1))))) := Lib.hid (by rw [HKT.out, lessL_snoc]; exact hI3)
          have HK3 : Hid (Loosed t (lessL t (rootsF (l.take (k + 1)))) (L - ((k + 1 : Nat) : Int) * cost 4)) := Lib.hid (by
            rw [HKT.out, lessL_snoc]
            have h := HK.out
            have h2 := loosed 4 _ root _ h.lv h.refs HC.out.2
            exact ⟨h2.lv, by rw [Int.natCast_add, Int.add_mul, Int.natCast_one, Int.one_mul, ← Int.sub_sub]; exact h2.refs, fun b => Int.le_trans (h2.lev b) (h.lev b), h2.len.trans h.len⟩)
          clear hI2 HKT HK hI3
          go_wp2
          go_roundw
          case rel => exact ⟨k + 1, by omega, by go_num, HI3.out, HK3⟩
          case measure => simp [intOf]; omega
    · obtain rfl : k = m := by omega
      have ht : l.take k = l := List.take_of_length_le (by have := HM.out; omega)
      rw [ht] at hI
      have HI := Lib.hid hI
      have hlt' : ¬ (k : Int) < k := by omega
      clear hI
      go_wp2
      go_end0
      exact ⟨rfl, HI.out⟩

/-- roots that may be held -/
def RootsIn' (n : Nat) (l : List Int) : Prop := ∀ a ∈ l, a = 0 ∨ (1 ≤ a ∧ a ≤ n)

set_option maxRecDepth 100000 in
set_option maxHeartbeats 8000000 in
theorem keep_more (w : World) (pb base : Nat) (ao eo : Option Addr) (n cap m ec : Nat) (t : List Blk) (l : List Ent) (hn : t.length = n) (h400 : n ≤ 400) (hbox : w.heap[pb]? = some (.cells #[.slice ao n cap] 24 (0, 0))) (ho : OwnSto w base (.slice ao n cap) t) (hbs : base ≤ w.heap.size)
    (hpn : ∀ g, t ≠ [] → ao = some ⟨g, 0, none⟩ → pb ≠ g) (hrl : ∀ x ∈ t, -2000000000 ≤ x.refs ∧ x.refs ≤ 2000000000) (hm : l.length = m) (hm6 : m ≤ 6) (he : EntFar (fun b => t ≠ [] ∧ ao = some ⟨b, 0, none⟩) w eo l) (hr : RootsIn n (rootsF l)) :
    Calls Try.prog 56 #[.pointer (some ⟨pb, 0, none⟩), .slice eo m ec, .bool true] w fun e w' => e = .returned (.tuple #[]) ∧ InAt w w' base ao n cap t (bump t (rootsF l)) := by
  have HN := Lib.hid hn
  have HM := Lib.hid hm
  have HR := Lib.hid hr
  have HRL := Lib.hid hrl
  have hm6' : (m : Int) ≤ 6 := by omega
  have hI0 : InAt w w base ao n cap t (bump t (rootsF (l.take 0))) := ⟨ho, Below.refl _ _, fun _ _ _ => rfl⟩
  clear hn hm hr hrl ho
  go_enter Try.func56, Try.ntmps56
  go_wp2
  go_loopw [10] (fun i wr => ∃ k : Nat, k ≤ m ∧ i = .int .i64 k ∧ InAt w wr base ao n cap t (bump t (rootsF (l.take k)))) (fun i _ => m - (intOf i).toNat)
  case atStart => exact ⟨0, Nat.zero_le _, rfl, hI0⟩
  case round =>
    clear hI0
    obtain ⟨k, hkm, rfl, hI⟩ := hrel
    by_cases hlt : k < m
    · have hkl : k < l.length := by have := HM.out; omega
      have hlt' : (k : Int) < m := by omega
      have her := he.keep hI.below.size (fun b hb hl => hI.frame b hl (fun g h1 h2 h3 => hb ⟨h1, by rw [h3]; exact h2⟩))
      obtain ⟨b, o, rfl, hq⟩ := her.row.at k hkl
      have hE := hq k hkl
      have c0 := hE.nm
      have c1 := hE.root
      have c2 := hE.size
      have lb := hE.lt
      have HKT := Lib.hid (rootsF_take l k hkl)
      have HRK := Lib.hid (HR.out l[k].root (List.mem_map.2 ⟨_, List.getElem_mem hkl, rfl⟩))
      have HAD : Hid (Adr t (rootsF (l.take k))) := Lib.hid fun a ha => by
        have h1 := HR.out a (by
          obtain ⟨x, hx, rfl⟩ := List.mem_map.1 ha
          exact List.mem_map.2 ⟨x, List.mem_of_mem_take hx, rfl⟩)
        rw [HN.out]
        exact h1
      have hbx := (hI.frame pb (lt_heap hbox) (fun g h1 h2 => hpn g h1 h2)).trans hbox
      clear hq hE her
      generalize l[k] = x at *
      obtain ⟨nm, root, size⟩ := x
      simp only at c0 c1 c2 HKT HRK
      have hb2 : Below wr.heap.size wr (wr.alloc (.cells #[.string nm, .int .i64 root, .int .i64 size] 47)) := (Below.refl _ _).alloc (Nat.le_refl _) _
      have q2 : (wr.alloc (.cells #[.string nm, .int .i64 root, .int .i64 size] 47)).heap[wr.heap.size]? = some (.cells #[.string nm, .int .i64 root, .int .i64 size] 47 (0, 0)) := heap_alloc_new _ _
      have d1 := cell_of_block q2 1
      simp at d1
      have hI2 := hI.later hb2 hbs
      have hbx2 := (hb2.block _ (lt_heap hbx)).trans hbx
      have l2 := lt_heap q2
      have lbx := lt_heap hbx2
      clear hb2 q2
      rcases HRK.out with h0 | ⟨h1, h2⟩
      · subst h0
        have HI3 : Hid (InAt w (wr.alloc (.cells #[.string nm, .int .i64 0, .int .i64 size] 47)) base ao n cap t (bump t (rootsF (l.take (k + 1))))) := Lib.hid (by
          rw [HKT.out, bump_snoc, if_neg (by omega)]
          exact hI2)
        clear hI2 HKT hI
        go_wp2
        go_roundw
        case rel => exact ⟨k + 1, by omega, by go_num, HI3.out⟩
        case measure => simp [intOf]; omega
      · obtain ⟨j, rfl⟩ : ∃ j : Nat, root = j + 1 := ⟨(root - 1).toNat, by omega⟩
        have hjt : j < t.length := by have := HN.out; omega
        have hjb : j < (bump t (rootsF (l.take k))).length := by rw [bump_length]; exact hjt
        have hjn : (j : Int) < n := by omega
        have h0' : ((j : Int) + 1 == 0) = false := by rw [beq_eq_false_iff_ne]; omega
        have h0 : ¬ ((j : Int) + 1 = 0) := by omega
        have hne : t ≠ [] := fun e => by rw [e] at hjt; simp at hjt
        obtain ⟨g, cap', hv, hRw⟩ := hI2.own.at j hjb
        rw [bump_length, HN.out] at hv
        simp only [Value.slice.injEq, true_and] at hv
        obtain ⟨rfl, rfl⟩ := hv
        have hpg := hpn g hne rfl
        have hle := hRw.le
        have hg1 := bump_get (rootsF (l.take k)) t j hjt hjb HAD.out
        have hcl := List.count_le_length (a := ((j : Int) + 1)) (l := rootsF (l.take k))
        rw [rootsF_len, List.length_take] at hcl
        have hrj := HRL.out _ (List.getElem_mem hjt)
        have hbr : -2000000000 ≤ (bump t (rootsF (l.take k)))[j].refs ∧ (bump t (rootsF (l.take k)))[j].refs ≤ 2000000100 := by rw [hg1]; simp only; omega
        obtain ⟨hbr1, hbr2⟩ := hbr
        have e0 := (hRw.blks j hjb).refs
        have lg := hRw.lt
        have ef := hRw.free (j * 4)
        have cbx := cell_of_one hbx2
        have hRs := hRw.setRefs j hjb ((bump t (rootsF (l.take k)))[j].refs + 1)
        have hcap := hI2.own
        obtain ⟨ao', cap'', hv2, hcd, -⟩ := hcap
        rw [bump_length, HN.out] at hv2 hcd
        simp only [Value.slice.injEq, true_and] at hv2
        obtain ⟨rfl, rfl⟩ := hv2
        have hnew : bump t (rootsF (l.take (k + 1))) = (bump t (rootsF (l.take k))).set j { (bump t (rootsF (l.take k)))[j] with refs := (bump t (rootsF (l.take k)))[j].refs + 1 } := by
          rw [HKT.out, bump_snoc, if_pos (by omega), addRef_at _ j hjb]
        have HI3 : Hid (InAt w ((wr.alloc (.cells #[.string nm, .int .i64 ((j : Int) + 1), .int .i64 size] 47)).setCell ⟨g, j * 4, none⟩ (.int .i64 ((bump t (rootsF (l.take k)))[j].refs + 1))) base (some ⟨g, 0, none⟩) n cap t (bump t (rootsF (l.take (k + 1))))) := Lib.hid (by
          rw [hnew]
          refine ⟨hRs.own (by rw [List.length_set, bump_length]; exact HN.out) hcd.1, hI2.below.setCell hle _, fun c hc h => ?_⟩
          rw [Below.heap_setCell _ _ _ _ (h g hne rfl)]
          exact hI2.frame c hc h)
        clear hI2 HKT hI hnew hRs hcl hg1 hRw HAD hrj hcd
        generalize (bump t (rootsF (l.take k)))[j].refs = r at *
        go_wp2_with fail
        go_region
        have HI4 := Lib.hid (HI3.out.later (Below.refl _ _).drew hbs)
        clear HI3
        go_wp2
        go_roundw
        case rel => exact ⟨k + 1, by omega, by go_num, HI4.out⟩
        case measure => simp [intOf]; omega
    · obtain rfl : k = m := by omega
      have ht : l.take k = l := List.take_of_length_le (by have := HM.out; omega)
      rw [ht] at hI
      have HI := Lib.hid hI
      have hlt' : ¬ (k : Int) < k := by omega
      clear hI
      go_wp2
      go_end0
      exact ⟨rfl, HI.out⟩
end Go.Proofs.Ytgeacpfenhaioaa
