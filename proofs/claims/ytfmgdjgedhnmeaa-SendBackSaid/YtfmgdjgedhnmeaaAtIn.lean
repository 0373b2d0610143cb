/- set.keep: all roots of entries once more, or once less. · A store and a set at work: what lies where, and what stays. No program in sight. -/
import Derived.Test.YtfmgdjgedhnmeaaPlace
import Derived.Test.YtfmgdjgedhnmeaaTurn
namespace Go.Proofs.Ytfmgdjgedhnmeaa
open Go.RowKit
set_option linter.unusedVariables false

theorem loose_inL {w0 : World} (w : World) (pb base : Nat) (ao : Option Addr) (n cap : Nat) (s t : List Blk) (rt L : Int) (hn : s.length = n) (hlt : t.length = n) (h400 : n ≤ 400) (hbox : w.heap[pb]? = some (.cells #[.slice ao n cap] 24 (0, 0)))
    (hI : InAt w0 w base ao n cap s t) (hbs : base ≤ w0.heap.size) (hpn : ∀ g, s ≠ [] → ao = some ⟨g, 0, none⟩ → pb ≠ g) (hlv : Lv t) (hrl : RefsL t L) (hL0 : L ≤ 0) (hL : -900000 ≤ L) (ha : rt = 0 ∨ (1 ≤ rt ∧ rt ≤ n ∧ (blk t rt).level < (4 : Nat))) :
    Calls Try.prog 117 #[.pointer (some ⟨pb, 0, none⟩), .int .i64 rt] w fun e w' => e = .returned (.tuple #[]) ∧ InAt w0 w' base ao n cap s (looseF 4 t rt) ∧ (∀ c, c < w.heap.size → (∀ g, s ≠ [] → ao = some ⟨g, 0, none⟩ → c ≠ g) → w'.heap[c]? = w.heap[c]?) := by
  rcases ha with h0 | ha
  · subst h0
    refine (loose_zero w pb).mono ?_
    rintro e w6 ⟨rfl, rfl⟩
    exact ⟨rfl, by rw [show looseF 4 t 0 = t from by simp [looseF]]; exact hI, fun _ _ _ => rfl⟩
  · have hs : s ≠ [] := fun e => by rw [e] at hn; simp at hn; omega
    have ht : t ≠ [] := fun e => by rw [e] at hlt; simp at hlt; omega
    obtain ⟨ao', cap', hv, hcd, h1 | ⟨g, hg, hR⟩⟩ := hI.own
    · exact absurd h1 ht
    · rw [hlt] at hv hcd
      simp only [Value.slice.injEq, true_and] at hv
      obtain ⟨rfl, rfl⟩ := hv
      subst hg
      have hpg := hpn g hs rfl
      have hle := hR.le
      have hsz := hI.below.size
      have hll := (loosed 4 t rt L hlv hrl hL0).len
      refine (loose_any 4 w pb base g n cap t rt L (Nat.le_refl _) hlt h400 hbox hR hpg hlv hrl hL0 (by simp [cost]; omega) (.inr ha)).mono ?_
      rintro e w6 ⟨rfl, hR6, hg6⟩
      refine ⟨rfl, ⟨hR6.own (by rw [hll]; exact hlt) hcd.1, hI.below.trans (grown_below hg6 hle (by omega)), fun c hc h => ?_⟩, fun c hc h => hg6.block c hc (by simpa using h g hs rfl)⟩
      exact (hg6.block c (by omega) (by simpa using h g hs rfl)).trans (hI.frame c hc h)

def lessL (s : List Blk) (ks : List Int) : List Blk := ks.foldl (looseF 4) s
theorem lessL_snoc (s : List Blk) (ks : List Int) (a : Int) : lessL s (ks ++ [a]) = looseF 4 (lessL s ks) a := by simp [lessL, List.foldl_append]

/-- roots that may be let go -/
def RootsLow (s : List Blk) (l : List Int) : Prop := ∀ a ∈ l, a = 0 ∨ (1 ≤ a ∧ a ≤ s.length ∧ (blk s a).level < (4 : Nat))

set_option maxRecDepth 100000 in
set_option maxHeartbeats 8000000 in
theorem keep_less (w : World) (pb base : Nat) (ao eo : Option Addr) (n cap m ec : Nat) (t : List Blk) (l : List Ent) (L : Int) (hn : t.length = n) (h400 : n ≤ 400) (hbox : w.heap[pb]? = some (.cells #[.slice ao n cap] 24 (0, 0))) (ho : OwnSto w base (.slice ao n cap) t) (hbs : base ≤ w.heap.size)
    (hpn : ∀ g, t ≠ [] → ao = some ⟨g, 0, none⟩ → pb ≠ g) (hlv : Lv t) (hrl : RefsL t L) (hL0 : L ≤ 0) (hL : -800000 ≤ L) (hm : l.length = m) (hm6 : m ≤ 6) (he : EntFar (fun b => t ≠ [] ∧ ao = some ⟨b, 0, none⟩) w eo l) (hr : RootsLow t (rootsF l)) :
    Calls Try.prog 74 #[.pointer (some ⟨pb, 0, none⟩), .slice eo m ec, .bool false] w fun e w' => e = .returned (.tuple #[]) ∧ InAt w w' base ao n cap t (lessL t (rootsF l)) := by
  have HN := Lib.hid hn
  have HM := Lib.hid hm
  have HR := Lib.hid hr
  have HLV := Lib.hid hlv
  have HRL := Lib.hid hrl
  have hm6' : (m : Int) ≤ 6 := by omega
  have hI0 : InAt w w base ao n cap t (lessL t (rootsF (l.take 0))) := ⟨ho, Below.refl _ _, fun _ _ _ => rfl⟩
  clear hn hm hr hlv hrl ho
  go_enter Try.func74, Try.ntmps74
  go_wp2
  go_loopw [10] (fun i wr => ∃ k : Nat, k ≤ m ∧ i = .int .i64 k ∧ InAt w wr base ao n cap t (lessL t (rootsF (l.take k))) ∧ Hid (Loosed t (lessL t (rootsF (l.take k))) (L - k * cost 4))) (fun i _ => m - (intOf i).toNat)
  case atStart => exact ⟨0, Nat.zero_le _, rfl, hI0, Lib.hid ⟨HLV.out, by have h := HRL.out; rw [show L - ((0 : Nat) : Int) * cost 4 = L from by simp]; exact h, fun _ => Int.le_refl _, rfl⟩⟩
  case round =>
    clear hI0
    obtain ⟨k, hkm, rfl, hI, HK⟩ := hrel
    by_cases hlt : k < m
    · have hkl : k < l.length := by have := HM.out; omega
      have hlt' : (k : Int) < m := by omega
      have her := he.keep hI.below.size (fun b hb hl => hI.frame b hl (fun g h1 h2 h3 => hb ⟨h1, by rw [h3]; exact h2⟩))
      obtain ⟨b, o, rfl, hq⟩ := her.row.at k hkl
      have hE := hq k hkl
      have c0 := hE.nm
      have c1 := hE.root
      have c2 := hE.size
      have lb := hE.lt
      have HKT := Lib.hid (rootsF_take l k hkl)
      have HRK := Lib.hid (HR.out l[k].root (List.mem_map.2 ⟨_, List.getElem_mem hkl, rfl⟩))
      have hbx := (hI.frame pb (lt_heap hbox) (fun g h1 h2 => hpn g h1 h2)).trans hbox
      clear hq hE her
      generalize l[k] = x at *
      obtain ⟨nm, root, size⟩ := x
      simp only at c0 c1 c2 HKT HRK
      have hb2 : Below wr.heap.size wr (wr.alloc (.cells #[.string nm, .int .i64 root, .int .i64 size] 37)) := (Below.refl _ _).alloc (Nat.le_refl _) _
      have q2 : (wr.alloc (.cells #[.string nm, .int .i64 root, .int .i64 size] 37)).heap[wr.heap.size]? = some (.cells #[.string nm, .int .i64 root, .int .i64 size] 37 (0, 0)) := heap_alloc_new _ _
      have d1 := cell_of_block q2 1
      simp at d1
      have hI2 := hI.later hb2 hbs
      have hbx2 := (hb2.block _ (lt_heap hbx)).trans hbx
      clear hI hb2 q2 hbx
      by_cases h0 : root = 0
      · subst h0
        have HI3 : Hid (InAt w (wr.alloc (.cells #[.string nm, .int .i64 0, .int .i64 size] 37)) base ao n cap t (lessL t (rootsF (l.take (k + 1))))) := Lib.hid (by
          rw [HKT.out, lessL_snoc, show looseF 4 (lessL t (rootsF (l.take k))) 0 = lessL t (rootsF (l.take k)) from by simp [looseF]]
          exact hI2)
        have HK3 : Hid (Loosed t (lessL t (rootsF (l.take (k + 1)))) (L - ((k + 1 : Nat) : Int) * cost 4)) := Lib.hid (by
          rw [HKT.out, lessL_snoc, show looseF 4 (lessL t (rootsF (l.take k))) 0 = lessL t (rootsF (l.take k)) from by simp [looseF]]
          have h := HK.out
          exact ⟨h.lv, h.refs.weaken (by have := cost_nn 4; rw [Int.natCast_add, Int.add_mul]; omega), h.lev, h.len⟩)
        clear hI2 HKT HK
        go_wp2
        go_roundw
        case rel => exact ⟨k + 1, by omega, by go_num, HI3.out, HK3⟩
        case measure => simp [intOf]; omega
      · have h0' : (root == 0) = false := by rw [beq_eq_false_iff_ne]; exact h0
        have hk6 : (k : Int) ≤ 6 := by omega
        have HC : Hid (-800000 - 6 * 85 ≤ L - k * cost 4 ∧ L - k * cost 4 ≤ 0) := Lib.hid (by simp [cost]; omega)
        go_wp2_with fail
        refine (loose_inL _ pb base ao n cap t (lessL t (rootsF (l.take k))) root (L - k * cost 4) HN.out (HK.out.len.trans HN.out) h400 hbx2 hI2 hbs hpn HK.out.lv HK.out.refs HC.out.2 (by have := HC.out.1; omega) ?_).mono ?_
        · rcases HRK.out with h | ⟨h1, h2, h3⟩
          · exact absurd h h0
          · exact .inr ⟨h1, by have := HN.out; omega, Int.lt_of_le_of_lt (HK.out.lev root) h3⟩
        · rintro e w3 ⟨rfl, hI3, -⟩
          have HI3 : Hid (InAt w w3 base ao n cap t (lessL t (rootsF (l.take (k + 1))))) := Lib.hid (by rw [HKT.out, lessL_snoc]; exact hI3)
          have HK3 : Hid (Loosed t (lessL t (rootsF (l.take (k + 1)))) (L - ((k + 1 : Nat) : Int) * cost 4)) := Lib.hid (by
            rw [HKT.out, lessL_snoc]
            have h := HK.out
            have h2 := loosed 4 _ root _ h.lv h.refs HC.out.2
            exact ⟨h2.lv, by rw [Int.natCast_add, Int.add_mul, Int.natCast_one, Int.one_mul, ← Int.sub_sub]; exact h2.refs, fun b => Int.le_trans (h2.lev b) (h.lev b), h2.len.trans h.len⟩)
          clear hI2 HKT HK hI3
          go_wp2
          go_roundw
          case rel => exact ⟨k + 1, by omega, by go_num, HI3.out, HK3⟩
          case measure => simp [intOf]; omega
    · obtain rfl : k = m := by omega
      have ht : l.take k = l := List.take_of_length_le (by have := HM.out; omega)
      rw [ht] at hI
      have HI := Lib.hid hI
      have hlt' : ¬ (k : Int) < k := by omega
      clear hI
      go_wp2
      go_end0
      exact ⟨rfl, HI.out⟩

set_option maxRecDepth 100000 in
set_option maxHeartbeats 8000000 in
theorem keep_more (w : World) (pb base : Nat) (ao eo : Option Addr) (n cap m ec : Nat) (t : List Blk) (l : List Ent) (hn : t.length = n) (h400 : n ≤ 400) (hbox : w.heap[pb]? = some (.cells #[.slice ao n cap] 24 (0, 0))) (ho : OwnSto w base (.slice ao n cap) t) (hbs : base ≤ w.heap.size)
    (hpn : ∀ g, t ≠ [] → ao = some ⟨g, 0, none⟩ → pb ≠ g) (hrl : ∀ x ∈ t, -2000000000 ≤ x.refs ∧ x.refs ≤ 2000000000) (hm : l.length = m) (hm6 : m ≤ 6) (he : EntFar (fun b => t ≠ [] ∧ ao = some ⟨b, 0, none⟩) w eo l) (hr : RootsIn n (rootsF l)) :
    Calls Try.prog 74 #[.pointer (some ⟨pb, 0, none⟩), .slice eo m ec, .bool true] w fun e w' => e = .returned (.tuple #[]) ∧ InAt w w' base ao n cap t (bump t (rootsF l)) := by
  have HN := Lib.hid hn
  have HM := Lib.hid hm
  have HR := Lib.hid hr
  have HRL := Lib.hid hrl
  have hm6' : (m : Int) ≤ 6 := by omega
  have hI0 : InAt w w base ao n cap t (bump t (rootsF (l.take 0))) := ⟨ho, Below.refl _ _, fun _ _ _ => rfl⟩
  clear hn hm hr hrl ho
  go_enter Try.func74, Try.ntmps74
  go_wp2
  go_loopw [10] (fun i wr => ∃ k : Nat, k ≤ m ∧ i = .int .i64 k ∧ InAt w wr base ao n cap t (bump t (rootsF (l.take k)))) (fun i _ => m - (intOf i).toNat)
  case atStart => exact ⟨0, Nat.zero_le _, rfl, hI0⟩
  case round =>
    clear hI0
    obtain ⟨k, hkm, rfl, hI⟩ := hrel
    by_cases hlt : k < m
    · have hkl : k < l.length := by have := HM.out; omega
      have hlt' : (k : Int) < m := by omega
      have her := he.keep hI.below.size (fun b hb hl => hI.frame b hl (fun g h1 h2 h3 => hb ⟨h1, by rw [h3]; exact h2⟩))
      obtain ⟨b, o, rfl, hq⟩ := her.row.at k hkl
      have hE := hq k hkl
      have c0 := hE.nm
      have c1 := hE.root
      have c2 := hE.size
      have lb := hE.lt
      have HKT := Lib.hid (rootsF_take l k hkl)
      have HRK := Lib.hid (HR.out l[k].root (List.mem_map.2 ⟨_, List.getElem_mem hkl, rfl⟩))
      have HAD : Hid (Adr t (rootsF (l.take k))) := Lib.hid fun a ha => by
        have h1 := HR.out a (by
          obtain ⟨x, hx, rfl⟩ := List.mem_map.1 ha
          exact List.mem_map.2 ⟨x, List.mem_of_mem_take hx, rfl⟩)
        rw [HN.out]
        exact h1
      have hbx := (hI.frame pb (lt_heap hbox) (fun g h1 h2 => hpn g h1 h2)).trans hbox
      clear hq hE her
      generalize l[k] = x at *
      obtain ⟨nm, root, size⟩ := x
      simp only at c0 c1 c2 HKT HRK
      have hb2 : Below wr.heap.size wr (wr.alloc (.cells #[.string nm, .int .i64 root, .int .i64 size] 37)) := (Below.refl _ _).alloc (Nat.le_refl _) _
      have q2 : (wr.alloc (.cells #[.string nm, .int .i64 root, .int .i64 size] 37)).heap[wr.heap.size]? = some (.cells #[.string nm, .int .i64 root, .int .i64 size] 37 (0, 0)) := heap_alloc_new _ _
      have d1 := cell_of_block q2 1
      simp at d1
      have hI2 := hI.later hb2 hbs
      have hbx2 := (hb2.block _ (lt_heap hbx)).trans hbx
      have l2 := lt_heap q2
      have lbx := lt_heap hbx2
      clear hb2 q2
      rcases HRK.out with h0 | ⟨h1, h2⟩
      · subst h0
        have HI3 : Hid (InAt w (wr.alloc (.cells #[.string nm, .int .i64 0, .int .i64 size] 37)) base ao n cap t (bump t (rootsF (l.take (k + 1))))) := Lib.hid (by
          rw [HKT.out, bump_snoc, if_neg (by omega)]
          exact hI2)
        clear hI2 HKT hI
        go_wp2
        go_roundw
        case rel => exact ⟨k + 1, by omega, by go_num, HI3.out⟩
        case measure => simp [intOf]; omega
      · obtain ⟨j, rfl⟩ : ∃ j : Nat, root = j + 1 := ⟨(root - 1).toNat, by omega⟩
        have hjt : j < t.length := by have := HN.out; omega
        have hjb : j < (bump t (rootsF (l.take k))).length := by rw [bump_length]; exact hjt
        have hjn : (j : Int) < n := by omega
        have h0' : ((j : Int) + 1 == 0) = false := by rw [beq_eq_false_iff_ne]; omega
        have h0 : ¬ ((j : Int) + 1 = 0) := by omega
        have hne : t ≠ [] := fun e => by rw [e] at hjt; simp at hjt
        obtain ⟨g, cap', hv, hRw⟩ := hI2.own.at j hjb
        rw [bump_length, HN.out] at hv
        simp only [Value.slice.injEq, true_and] at hv
        obtain ⟨rfl, rfl⟩ := hv
        have hpg := hpn g hne rfl
        have hle := hRw.le
        have hg1 := bump_get (rootsF (l.take k)) t j hjt hjb HAD.out
        have hcl := List.count_le_length (a := ((j : Int) + 1)) (l := rootsF (l.take k))
        rw [rootsF_len, List.length_take] at hcl
        have hrj := HRL.out _ (List.getElem_mem hjt)
        have hbr : -2000000000 ≤ (bump t (rootsF (l.take k)))[j].refs ∧ (bump t (rootsF (l.take k)))[j].refs ≤ 2000000100 := by rw [hg1]; simp only; omega
        obtain ⟨hbr1, hbr2⟩ := hbr
        have e0 := (hRw.blks j hjb).refs
        have lg := hRw.lt
        have ef := hRw.free (j * 4)
        have cbx := cell_of_one hbx2
        have hRs := hRw.setRefs j hjb ((bump t (rootsF (l.take k)))[j].refs + 1)
        have hcap := hI2.own
        obtain ⟨ao', cap'', hv2, hcd, -⟩ := hcap
        rw [bump_length, HN.out] at hv2 hcd
        simp only [Value.slice.injEq, true_and] at hv2
        obtain ⟨rfl, rfl⟩ := hv2
        have hnew : bump t (rootsF (l.take (k + 1))) = (bump t (rootsF (l.take k))).set j { (bump t (rootsF (l.take k)))[j] with refs := (bump t (rootsF (l.take k)))[j].refs + 1 } := by
          rw [HKT.out, bump_snoc, if_pos (by omega), addRef_at _ j hjb]
        have HI3 : Hid (InAt w ((wr.alloc (.cells #[.string nm, .int .i64 ((j : Int) + 1), .int .i64 size] 37)).setCell ⟨g, j * 4, none⟩ (.int .i64 ((bump t (rootsF (l.take k)))[j].refs + 1))) base (some ⟨g, 0, none⟩) n cap t (bump t (rootsF (l.take (k + 1))))) := Lib.hid (by
          rw [hnew]
          refine ⟨hRs.own (by rw [List.length_set, bump_length]; exact HN.out) hcd.1, hI2.below.setCell hle _, fun c hc h => ?_⟩
          rw [Below.heap_setCell _ _ _ _ (h g hne rfl)]
          exact hI2.frame c hc h)
        clear hI2 HKT hI hnew hRs hcl hg1 hRw HAD hrj hcd
        generalize (bump t (rootsF (l.take k)))[j].refs = r at *
        go_wp2_with fail
        go_region
        have HI4 := Lib.hid (HI3.out.later (Below.refl _ _).drew hbs)
        clear HI3
        go_wp2
        go_roundw
        case rel => exact ⟨k + 1, by omega, by go_num, HI4.out⟩
        case measure => simp [intOf]; omega
    · obtain rfl : k = m := by omega
      have ht : l.take k = l := List.take_of_length_le (by have := HM.out; omega)
      rw [ht] at hI
      have HI := Lib.hid hI
      have hlt' : ¬ (k : Int) < k := by omega
      clear hI
      go_wp2
      go_end0
      exact ⟨rfl, HI.out⟩
end Go.Proofs.Ytfmgdjgedhnmeaa

namespace Go.Proofs.Ytfmgdjgedhnmeaa
open Go.RowKit
set_option linter.unusedVariables false

def Kid4 (s : List Blk) : Prop := ∀ x ∈ s, x.kids = [] ∨ x.kids.length = 4
theorem Good.kid4 {s : List Blk} {M : Int} (h : Good s M) : Kid4 s := fun x hx => by
  rcases h.forms x hx with e | ⟨_, ⟨_, e, _⟩ | ⟨_, _, e, _⟩⟩
  · left; rw [e]; rfl
  · exact .inl e
  · exact .inr e
theorem Kid4.set {s : List Blk} (h : Kid4 s) (k : Nat) (x : Blk) (hx : x.kids = [] ∨ x.kids.length = 4) : Kid4 (s.set k x) := fun y hy => by
  rcases List.mem_or_eq_of_mem_set hy with hy | rfl
  · exact h y hy
  · exact hx
theorem Kid4.blk {s : List Blk} (h : Kid4 s) (a : Int) : (blk s a).kids = [] ∨ (blk s a).kids.length = 4 := by
  unfold Go.Proofs.Ytfmgdjgedhnmeaa.blk
  cases e : s[(a - 1).toNat]? with
  | none => left; rfl
  | some y => exact h y (List.mem_of_getElem? e)
theorem Kid4.addRef {s : List Blk} (h : Kid4 s) (a d : Int) : Kid4 (addRef s a d) := h.set _ _ (h.blk a)
theorem Kid4.loose (f : Nat) : ∀ {s : List Blk} (a : Int), Kid4 s → Kid4 (looseF f s a) := by
  induction f with
  | zero => intro s a h; exact h
  | succ f ih =>
    intro s a h
    unfold looseF
    split
    · exact h
    · split
      · exact h.addRef a (-1)
      · have h2 := h.set (a - 1).toNat noBlk (.inl rfl)
        generalize (Go.Proofs.Ytfmgdjgedhnmeaa.blk s a).kids = ks
        induction ks generalizing s with
        | nil => exact h2
        | cons k ks ik =>
          rw [List.foldl_cons]
          have h3 : ∀ {t : List Blk}, Kid4 t → Kid4 (ks.foldl (looseF f) t) := by
            intro t ht
            clear ik h2
            induction ks generalizing t with
            | nil => exact ht
            | cons q ks iq => exact iq (ih q ht)
          exact h3 (ih k h2)
theorem Kid4.less {s : List Blk} (h : Kid4 s) (ks : List Int) : Kid4 (lessL s ks) := by
  unfold lessL
  induction ks generalizing s with
  | nil => exact h
  | cons k ks ih => exact ih (h.loose 4 k)
theorem Kid4.bump {s : List Blk} (h : Kid4 s) (ks : List Int) : Kid4 (bump s ks) := by
  unfold Go.Proofs.Ytfmgdjgedhnmeaa.bump
  induction ks generalizing s with
  | nil => exact h
  | cons k ks ih =>
    rw [List.foldl_cons]
    refine ih ?_
    split
    · exact h.addRef k 1
    · exact h

/-- no block's kids or bytes lie there -/
def NoKid (w : World) (p : Nat) : Prop := (∀ o x y z, w.cell? ⟨p, o, none⟩ = some (.int .i64 x) → w.cell? ⟨p, o + 1, none⟩ = some (.int .i64 y) → w.cell? ⟨p, o + 2, none⟩ = some (.int .i64 z) → False) ∧ ∀ o x, w.cell? ⟨p, o, none⟩ ≠ some (.int .u8 x)

/-- such a block is written: a store's row stays -/
theorem ownSto_off {w w' : World} {base n cap p : Nat} {ao : Option Addr} {s : List Blk} (h : OwnSto w base (.slice ao n cap) s) (k4 : Kid4 s) (hp : NoKid w p) (hne : ∀ g, s ≠ [] → ao = some ⟨g, 0, none⟩ → p ≠ g) (hk : ∀ b, b ≠ p → b < w.heap.size → w'.heap[b]? = w.heap[b]?) :
    OwnSto w' base (.slice ao n cap) s := by
  obtain ⟨ao', cap', hv, hc, h1 | ⟨g, hg, hr⟩⟩ := h
  · exact ⟨ao', cap', hv, hc, .inl h1⟩
  by_cases hs : s = []
  · exact ⟨ao', cap', hv, hc, .inl hs⟩
  have hkg : p ≠ g := hne g hs (by simp only [Value.slice.injEq] at hv; rw [hv.1, hg])
  refine ⟨ao', cap', hv, hc, .inr ⟨g, hg, ?_⟩⟩
  have hcell : ∀ b o, b ≠ p → b < w.heap.size → w'.cell? ⟨b, o, none⟩ = w.cell? ⟨b, o, none⟩ := fun b o hb hl => World.cell?_of_block (w := w) (hk b hb hl)
  have hkids : ∀ ao xs, (xs = [] ∨ xs.length = 4) → FarRow g .i64 w ao xs → FarRow g .i64 w' ao xs := by
    intro ao xs hl hf
    rcases hf with rfl | ⟨b, o, rfl, hb, hf⟩
    · exact .inl rfl
    · rcases hl with rfl | hl
      · exact .inl rfl
      · have hne : b ≠ p := by
          rintro rfl
          exact hp.1 _ _ _ _ (hf 0 (by omega)) (hf 1 (by omega)) (hf 2 (by omega))
        exact .inr ⟨b, o, rfl, hb, fun i hi => (hcell b _ hne (World.block_lt_of_cell? _ _ (hf i hi))).trans (hf i hi)⟩
  have hbytes : ∀ ao xs, FarRow g .u8 w ao xs → FarRow g .u8 w' ao xs := by
    intro ao xs hf
    rcases hf with rfl | ⟨b, o, rfl, hb, hf⟩
    · exact .inl rfl
    · rcases Nat.eq_zero_or_pos xs.length with h0 | h0
      · exact .inl (List.eq_nil_of_length_eq_zero h0)
      · have hne : b ≠ p := by
          rintro rfl
          exact hp.2 _ _ (hf 0 h0)
        exact .inr ⟨b, o, rfl, hb, fun i hi => (hcell b _ hne (World.block_lt_of_cell? _ _ (hf i hi))).trans (hf i hi)⟩
  have hg2 : ∀ j, w'.cell? ⟨g, j, none⟩ = w.cell? ⟨g, j, none⟩ := fun j => hcell g j (Ne.symm hkg) hr.lt
  refine ⟨hr.le, ?_, fun i hi => ?_⟩
  · obtain ⟨cur, hc⟩ := hr.heap
    exact ⟨cur, (hk g (Ne.symm hkg) hr.lt).trans hc⟩
  · have hB := hr.blks i hi
    obtain ⟨v1, h1, va, vc, hve, hvr, hvc⟩ := hB.kids
    obtain ⟨u1, h3, ua, uc, hue, hur, huc⟩ := hB.bytes
    exact ⟨(hg2 _).trans hB.refs, (hg2 _).trans hB.level, ⟨v1, (hg2 _).trans h1, va, vc, hve, hkids _ _ (k4 _ (List.getElem_mem hi)) hvr, hvc⟩, ⟨u1, (hg2 _).trans h3, ua, uc, hue, hbytes _ _ hur, huc⟩⟩
/-- nothing is written -/
theorem ownSto_stay {w w' : World} {base n cap : Nat} {ao : Option Addr} {s : List Blk} (h : OwnSto w base (.slice ao n cap) s) (hk : ∀ b, b < w.heap.size → w'.heap[b]? = w.heap[b]?) : OwnSto w' base (.slice ao n cap) s := by
  obtain ⟨ao', cap', hv, hc, h1 | ⟨g, hg, hr⟩⟩ := h
  · exact ⟨ao', cap', hv, hc, .inl h1⟩
  · exact ⟨ao', cap', hv, hc, .inr ⟨g, hg, hr.keep hk⟩⟩

/-- all cells of a block of entries -/
theorem ent_pattern {w : World} {g t : Nat} {L : List Ent} (h : w.heap[g]? = some (.cells (entK.all L).toArray t (0, 0))) (o : Nat) (v : Value) (hv : w.cell? ⟨g, o, none⟩ = some v) : (o % 3 = 0 ∧ ∃ q, v = .string q) ∨ (o % 3 ≠ 0 ∧ ∃ x, v = .int .i64 x) := by
  rw [cell_of_block h, List.getElem?_toArray] at hv
  have hlt : o < L.length * 3 := by
    have := (List.getElem?_eq_some_iff.1 hv).1
    rw [entK.all_len] at this
    exact this
  have hi : o / 3 < L.length := by omega
  have h2 := entK.all_at L (o / 3) hi (o % 3) (by show o % 3 < 3; omega)
  rw [show o / 3 * entK.k + o % 3 = o from by show o / 3 * 3 + o % 3 = o; omega, hv] at h2
  rcases (show o % 3 = 0 ∨ o % 3 = 1 ∨ o % 3 = 2 from by omega) with e | e | e
  · rw [e] at h2
    exact .inl ⟨e, L[o / 3].nm, Option.some.inj h2⟩
  · rw [e] at h2
    exact .inr ⟨by omega, L[o / 3].root, Option.some.inj h2⟩
  · rw [e] at h2
    exact .inr ⟨by omega, L[o / 3].size, Option.some.inj h2⟩
theorem ent_noKid {w : World} {g t : Nat} {L : List Ent} (h : w.heap[g]? = some (.cells (entK.all L).toArray t (0, 0))) : NoKid w g := by
  refine ⟨fun o x y z hx hy hz => ?_, fun o x hx => ?_⟩
  · have p0 := ent_pattern h _ _ hx
    have p1 := ent_pattern h _ _ hy
    have p2 := ent_pattern h _ _ hz
    have q0 : o % 3 ≠ 0 := p0.elim (fun ⟨_, q, hq⟩ => by cases hq) fun h => h.1
    have q1 : (o + 1) % 3 ≠ 0 := p1.elim (fun ⟨_, q, hq⟩ => by cases hq) fun h => h.1
    have q2 : (o + 2) % 3 ≠ 0 := p2.elim (fun ⟨_, q, hq⟩ => by cases hq) fun h => h.1
    omega
  · rcases ent_pattern h _ _ hx with ⟨_, q, hq⟩ | ⟨_, q, hq⟩ <;> cases hq
/-- a block of snaps -/
theorem snv_pattern {w : World} {g t : Nat} {L : List Snv} (h : w.heap[g]? = some (.cells (snvK.all L).toArray t (0, 0))) (o : Nat) (v : Value) (hv : w.cell? ⟨g, o, none⟩ = some v) : (∃ q, v = .string q) ∨ ∃ a n c, v = .slice a n c := by
  rw [cell_of_block h, List.getElem?_toArray] at hv
  have hlt : o < L.length * 2 := by
    have := (List.getElem?_eq_some_iff.1 hv).1
    rw [snvK.all_len] at this
    exact this
  have hi : o / 2 < L.length := by omega
  have h2 := snvK.all_at L (o / 2) hi (o % 2) (by show o % 2 < 2; omega)
  rw [show o / 2 * snvK.k + o % 2 = o from by show o / 2 * 2 + o % 2 = o; omega, hv] at h2
  rcases (show o % 2 = 0 ∨ o % 2 = 1 from by omega) with e | e
  · rw [e] at h2
    exact .inl ⟨L[o / 2].nm, Option.some.inj h2⟩
  · rw [e] at h2
    exact .inr ⟨L[o / 2].ao, L[o / 2].n, L[o / 2].cap, Option.some.inj h2⟩
theorem snv_noKid {w : World} {g t : Nat} {L : List Snv} (h : w.heap[g]? = some (.cells (snvK.all L).toArray t (0, 0))) : NoKid w g := by
  refine ⟨fun o x y z hx _ _ => ?_, fun o x hx => ?_⟩
  all_goals rcases snv_pattern h _ _ hx with ⟨q, hq⟩ | ⟨a, n, c, hq⟩ <;> cases hq
/-- the box of the work -/
theorem at_noKid {w : World} {B t : Nat} {p : Option Addr} {key : Int} {nm : ByteArray} {fo so : Option Addr} {fn fc sn sc : Nat} (h : w.heap[B]? = some (.cells #[.pointer p, .int .i64 key, .string nm, .slice fo fn fc, .slice so sn sc] t (0, 0))) : NoKid w B ∧ NoEnt w B := by
  have key0 : ∀ o v, w.cell? ⟨B, o, none⟩ = some v → (o = 0 ∧ v = .pointer p) ∨ (o = 1 ∧ v = .int .i64 key) ∨ (o = 2 ∧ v = .string nm) ∨ (o = 3 ∧ v = .slice fo fn fc) ∨ (o = 4 ∧ v = .slice so sn sc) := by
    intro o v hv
    rw [cell_of_block h] at hv
    rcases (show o = 0 ∨ o = 1 ∨ o = 2 ∨ o = 3 ∨ o = 4 ∨ 5 ≤ o from by omega) with rfl | rfl | rfl | rfl | rfl | e
    · simp at hv; exact .inl ⟨rfl, hv.symm⟩
    · simp at hv; exact .inr (.inl ⟨rfl, hv.symm⟩)
    · simp at hv; exact .inr (.inr (.inl ⟨rfl, hv.symm⟩))
    · simp at hv; exact .inr (.inr (.inr (.inl ⟨rfl, hv.symm⟩)))
    · simp at hv; exact .inr (.inr (.inr (.inr ⟨rfl, hv.symm⟩)))
    · rw [Array.getElem?_eq_none (by simp; omega)] at hv; cases hv
  have int1 : ∀ o k x, w.cell? ⟨B, o, none⟩ = some (.int k x) → o = 1 ∧ k = .i64 := by
    intro o k x hx
    rcases key0 o _ hx with ⟨_, e⟩ | ⟨h1, e⟩ | ⟨_, e⟩ | ⟨_, e⟩ | ⟨_, e⟩
    · cases e
    · cases e; exact ⟨h1, rfl⟩
    · cases e
    · cases e
    · cases e
  refine ⟨⟨fun o x y z hx hy _ => ?_, fun o x hx => ?_⟩, fun j q x y _ hx hy => ?_⟩
  · have h1 := (int1 _ _ _ hx).1; have h2 := (int1 _ _ _ hy).1; omega
  · have := (int1 _ _ _ hx).2; cases this
  · have h1 := (int1 _ _ _ hx).1; have h2 := (int1 _ _ _ hy).1; omega

/-- at work -/
structure AtIn (w : World) (B P base bx : Nat) (key : Int) (ao : Option Addr) (n cap : Nat) (s : List Blk) (fo : Option Addr) (fn fc : Nat) (so : Option Addr) (sn sc : Nat) (x : SetV) (vs : List Snv) : Prop where
  abox : w.heap[B]? = some (.cells #[.pointer (some ⟨P, 0, none⟩), .int .i64 key, .string x.nm, .slice fo fn fc, .slice so sn sc] 141 (0, 0))
  sbox : w.heap[P]? = some (.cells #[.slice ao n cap] 24 (0, 0))
  own : OwnSto w base (.slice ao n cap) s
  ox : OwnX w bx fo fn fc so sn sc x vs
  slen : s.length = n
  n4 : n ≤ 400
  kid4 : Kid4 s
  hP : base ≤ bx
  hPx : P < bx
  hB : bx ≤ B
  hbx : bx ≤ w.heap.size
  row : ∀ g, s ≠ [] → ao = some ⟨g, 0, none⟩ → g < bx ∧ g ≠ P
  fB : fo ≠ some ⟨B, 0, none⟩
  sB : so ≠ some ⟨B, 0, none⟩
section
variable {w w' : World} {B P base bx : Nat} {key : Int} {ao : Option Addr} {n cap : Nat} {s : List Blk} {fo : Option Addr} {fn fc : Nat} {so : Option Addr} {sn sc : Nat} {x : SetV} {vs : List Snv}
theorem AtIn.fge (h : AtIn w B P base bx key ao n cap s fo fn fc so sn sc x vs) : ∀ g, fo = some ⟨g, 0, none⟩ → bx ≤ g ∧ g < w.heap.size := fun g hg => by have := h.ox.files; rw [hg] at this; exact this.ge
theorem AtIn.sge (h : AtIn w B P base bx key ao n cap s fo fn fc so sn sc x vs) : ∀ g, so = some ⟨g, 0, none⟩ → bx ≤ g ∧ g < w.heap.size := fun g hg => by have := h.ox.snaps; rw [hg] at this; exact this.ge
theorem AtIn.mono (h : AtIn w B P base bx key ao n cap s fo fn fc so sn sc x vs) (hb : Below w.heap.size w w') : AtIn w' B P base bx key ao n cap s fo fn fc so sn sc x vs :=
  ⟨(hb.block _ (lt_heap h.abox)).trans h.abox, (hb.block _ (lt_heap h.sbox)).trans h.sbox, h.own.mono hb, OwnXb.mono h.ox hb, h.slen, h.n4, h.kid4, h.hP, h.hPx, h.hB, Nat.le_trans h.hbx hb.size, h.row, h.fB, h.sB⟩
/-- the store's row is written -/
theorem AtIn.store (h : AtIn w B P base bx key ao n cap s fo fn fc so sn sc x vs) {t : List Blk} (hI : InAt w w' base ao n cap s t) (ht : t.length = n) (h4 : Kid4 t) : AtIn w' B P base bx key ao n cap t fo fn fc so sn sc x vs := by
  have hsz := hI.below.size
  have hfr : ∀ c, c < w.heap.size → (∀ g, s ≠ [] → ao = some ⟨g, 0, none⟩ → c ≠ g) → w'.heap[c]? = w.heap[c]? := hI.frame
  have hB := h.hB
  have hnil : s = [] ↔ t = [] := by
    rw [← List.length_eq_zero_iff, ← List.length_eq_zero_iff, h.slen, ht]
  refine ⟨(hfr _ (lt_heap h.abox) fun g h1 h2 => by have := h.row g h1 h2; omega).trans h.abox, (hfr _ (lt_heap h.sbox) fun g h1 h2 => Ne.symm (h.row g h1 h2).2).trans h.sbox, hI.own, ?_, ht, h.n4, h4, h.hP, h.hPx, h.hB, Nat.le_trans h.hbx hsz, fun g h1 h2 => h.row g (fun e => h1 (hnil.1 e)) h2, h.fB, h.sB⟩
  by_cases hs : s = []
  · exact OwnXb.keep h.ox hsz fun b hb => hfr b hb fun g h1 _ => absurd hs h1
  · by_cases hg : ∃ g, ao = some ⟨g, 0, none⟩
    · obtain ⟨g, hg⟩ := hg
      have hr := h.row g hs hg
      exact OwnXb.off h.ox (p := g) (.inr fun i => .inl hr.1) (fun e => by have := h.fge g e; omega) (fun e => by have := h.sge g e; omega) hsz fun b hb hl => hfr b hl fun g' h1 h2 => by rw [hg] at h2; simp only [Option.some.injEq, Addr.mk.injEq, and_true] at h2; omega
    · exact OwnXb.keep h.ox hsz fun b hb => hfr b hb fun g h1 h2 => absurd ⟨g, h2⟩ hg
/-- the files' row is written -/
theorem AtIn.files (h : AtIn w B P base bx key ao n cap s fo fn fc so sn sc x vs) {w1 w2 : World} {fo' : Option Addr} {fn' fc' : Nat} {files' : List Ent} (hk : ∀ b, b < w.heap.size → fo ≠ some ⟨b, 0, none⟩ → w1.heap[b]? = w.heap[b]?) (hs1 : w.heap.size ≤ w1.heap.size)
    (hown : entK.Own w1 bx (.slice fo' fn' fc') files') (hnew : ∀ g, fo' = some ⟨g, 0, none⟩ → fo = some ⟨g, 0, none⟩ ∨ w.heap.size ≤ g)
    (hB2 : w2.heap[B]? = some (.cells #[.pointer (some ⟨P, 0, none⟩), .int .i64 key, .string x.nm, .slice fo' fn' fc', .slice so sn sc] 141 (0, 0))) (hk2 : ∀ b, b ≠ B → w2.heap[b]? = w1.heap[b]?) (hs2 : w2.heap.size = w1.heap.size) :
    AtIn w2 B P base bx key ao n cap s fo' fn' fc' so sn sc { x with files := files' } vs := by
  have lB := lt_heap h.abox
  have lP := lt_heap h.sbox
  have hBP : B ≠ P := by have := h.hPx; have := h.hB; omega
  have hkk : ∀ b, b < w.heap.size → fo ≠ some ⟨b, 0, none⟩ → b ≠ B → w2.heap[b]? = w.heap[b]? := fun b h1 h2 h3 => (hk2 b h3).trans (hk b h1 h2)
  have hfP : fo ≠ some ⟨P, 0, none⟩ := fun e => by have := h.fge P e; have := h.hPx; omega
  have habox1 : w1.heap[B]? = _ := (hk B lB h.fB).trans h.abox
  -- the store's row in w1
  have o1 : OwnSto w1 base (.slice ao n cap) s := by
    by_cases hg : ∃ g, fo = some ⟨g, 0, none⟩
    · obtain ⟨g, hg⟩ := hg
      have hgb := h.fge g hg
      have hn : NoKid w g := by
        rcases h.ox.files with ⟨_, e⟩ | ⟨g', cap', sp, h1, _, _, h4⟩
        · simp only [Value.slice.injEq] at e; rw [hg] at e; cases e.1
        · simp only [Value.slice.injEq] at h1
          rw [hg] at h1
          obtain rfl : g = g' := by simpa using h1.1
          exact ent_noKid h4
      exact ownSto_off h.own h.kid4 hn (fun q h1 h2 => by have := h.row q h1 h2; omega) fun b hb hl => hk b hl fun e => hb (by rw [hg] at e; simpa using e.symm)
    · exact ownSto_stay h.own fun b hb => hk b hb fun e => hg ⟨b, e⟩
  have o2 : OwnSto w2 base (.slice ao n cap) s := ownSto_off o1 h.kid4 (at_noKid habox1).1 (fun q h1 h2 => by have := h.row q h1 h2; have := h.hB; omega) fun b hb _ => hk2 b hb
  have hfo' : fo' ≠ some ⟨B, 0, none⟩ := fun e => by
    rcases hnew B e with e1 | e1
    · exact h.fB e1
    · omega
  refine ⟨hB2, (hkk P lP hfP (Ne.symm hBP)).trans h.sbox, o2, ?_, h.slen, h.n4, h.kid4, h.hP, h.hPx, h.hB, by rw [hs2]; exact Nat.le_trans h.hbx hs1, h.row, hfo', h.sB⟩
  have hso : ∀ g, so = some ⟨g, 0, none⟩ → fo ≠ some ⟨g, 0, none⟩ ∧ g ≠ B ∧ g < w.heap.size := fun g hg => ⟨fun e => h.ox.apart g e hg, fun e => h.sB (by rw [← e]; exact hg), (h.sge g hg).2⟩
  refine ⟨h.ox.vlen, hown.other fun g hg _ => hk2 g (fun e => hfo' (by rw [← e]; exact hg)), h.ox.snaps.other fun g hg _ => ?_, fun g hg hsg => ?_, fun i h1 h2 => ?_⟩
  · obtain ⟨a1, a2, a3⟩ := hso g hg
    exact hkk g a3 a1 a2
  · obtain ⟨a1, a2, a3⟩ := hso g hsg
    rcases hnew g hg with e | e
    · exact a1 e
    · omega
  · obtain ⟨i1, i2, i3, i4⟩ := h.ox.each i h1 h2
    refine ⟨i1, i2, ?_, i4⟩
    have e1 : EntFar (badX bx fo so) w1 vs[i].ao x.snaps[i].files := i3.keep hs1 fun b hb hl => hk b hl fun e => hb (.inr (.inl e))
    have e2 := e1.off (w' := w2) (.inl (at_noKid habox1).2) (by rw [hs2]; exact Nat.le_refl _) fun b hb _ => hk2 b hb
    rcases i3 with hz | ⟨b, o, hb1, hb2, hb3, -⟩
    · exact .inl hz
    · rcases e2 with hz | ⟨b', o', hb1', hb2', hb3', hc⟩
      · exact .inl hz
      · have hbb : b' = b := by rw [hb1] at hb1'; simp only [Option.some.injEq, Addr.mk.injEq, and_true] at hb1'; exact hb1'.1.symm
        refine .inr ⟨b', o', hb1', ?_, hb3', hc⟩
        rintro (e | e | e)
        · exact hb2' (.inl e)
        · rcases hnew b' e with e3 | e3
          · exact hb2' (.inr (.inl e3))
          · omega
        · exact hb2' (.inr (.inr e))
/-- the snaps' row is written -/
theorem AtIn.snapsRow (h : AtIn w B P base bx key ao n cap s fo fn fc so sn sc x vs) {w1 w2 : World} {so' : Option Addr} {sn' sc' : Nat} {vs' : List Snv} {snaps' : List Snp} (hk : ∀ b, b < w.heap.size → so ≠ some ⟨b, 0, none⟩ → w1.heap[b]? = w.heap[b]?) (hs1 : w.heap.size ≤ w1.heap.size)
    (hown : snvK.Own w1 bx (.slice so' sn' sc') vs') (hnew : ∀ g, so' = some ⟨g, 0, none⟩ → so = some ⟨g, 0, none⟩ ∨ w.heap.size ≤ g) (hvl : vs'.length = snaps'.length)
    (he : ∀ i (h : i < vs'.length) (h' : i < snaps'.length), vs'[i].nm = snaps'[i].nm ∧ vs'[i].n = snaps'[i].files.length ∧ EntFar (badX bx fo so') w1 vs'[i].ao snaps'[i].files ∧ Capd vs'[i].ao vs'[i].n vs'[i].cap)
    (hB2 : w2.heap[B]? = some (.cells #[.pointer (some ⟨P, 0, none⟩), .int .i64 key, .string x.nm, .slice fo fn fc, .slice so' sn' sc'] 141 (0, 0))) (hk2 : ∀ b, b ≠ B → w2.heap[b]? = w1.heap[b]?) (hs2 : w2.heap.size = w1.heap.size) :
    AtIn w2 B P base bx key ao n cap s fo fn fc so' sn' sc' { x with snaps := snaps' } vs' := by
  have lB := lt_heap h.abox
  have lP := lt_heap h.sbox
  have hBP : B ≠ P := by have := h.hPx; have := h.hB; omega
  have hkk : ∀ b, b < w.heap.size → so ≠ some ⟨b, 0, none⟩ → b ≠ B → w2.heap[b]? = w.heap[b]? := fun b h1 h2 h3 => (hk2 b h3).trans (hk b h1 h2)
  have hsP : so ≠ some ⟨P, 0, none⟩ := fun e => by have := h.sge P e; have := h.hPx; omega
  have habox1 : w1.heap[B]? = _ := (hk B lB h.sB).trans h.abox
  have o1 : OwnSto w1 base (.slice ao n cap) s := by
    by_cases hg : ∃ g, so = some ⟨g, 0, none⟩
    · obtain ⟨g, hg⟩ := hg
      have hgb := h.sge g hg
      have hn : NoKid w g := by
        rcases h.ox.snaps with ⟨_, e⟩ | ⟨g', cap', sp, h1, _, _, h4⟩
        · simp only [Value.slice.injEq] at e; rw [hg] at e; cases e.1
        · simp only [Value.slice.injEq] at h1
          rw [hg] at h1
          obtain rfl : g = g' := by simpa using h1.1
          exact snv_noKid h4
      exact ownSto_off h.own h.kid4 hn (fun q h1 h2 => by have := h.row q h1 h2; omega) fun b hb hl => hk b hl fun e => hb (by rw [hg] at e; simpa using e.symm)
    · exact ownSto_stay h.own fun b hb => hk b hb fun e => hg ⟨b, e⟩
  have o2 : OwnSto w2 base (.slice ao n cap) s := ownSto_off o1 h.kid4 (at_noKid habox1).1 (fun q h1 h2 => by have := h.row q h1 h2; have := h.hB; omega) fun b hb _ => hk2 b hb
  have hso' : so' ≠ some ⟨B, 0, none⟩ := fun e => by
    rcases hnew B e with e1 | e1
    · exact h.sB e1
    · omega
  refine ⟨hB2, (hkk P lP hsP (Ne.symm hBP)).trans h.sbox, o2, ?_, h.slen, h.n4, h.kid4, h.hP, h.hPx, h.hB, by rw [hs2]; exact Nat.le_trans h.hbx hs1, h.row, h.fB, hso'⟩
  have hfo : ∀ g, fo = some ⟨g, 0, none⟩ → so ≠ some ⟨g, 0, none⟩ ∧ g ≠ B ∧ g < w.heap.size := fun g hg => ⟨fun e => h.ox.apart g hg e, fun e => h.fB (by rw [← e]; exact hg), (h.fge g hg).2⟩
  refine ⟨hvl, h.ox.files.other fun g hg _ => ?_, hown.other fun g hg _ => hk2 g (fun e => hso' (by rw [← e]; exact hg)), fun g hg hsg => ?_, fun i h1 h2 => ?_⟩
  · obtain ⟨a1, a2, a3⟩ := hfo g hg
    exact hkk g a3 a1 a2
  · obtain ⟨a1, a2, a3⟩ := hfo g hg
    rcases hnew g hsg with e | e
    · exact a1 e
    · omega
  · obtain ⟨i1, i2, i3, i4⟩ := he i h1 h2
    exact ⟨i1, i2, i3.off (w' := w2) (.inl (at_noKid habox1).2) (by rw [hs2]; exact Nat.le_refl _) fun b hb _ => hk2 b hb, i4⟩
end
end Go.Proofs.Ytfmgdjgedhnmeaa
