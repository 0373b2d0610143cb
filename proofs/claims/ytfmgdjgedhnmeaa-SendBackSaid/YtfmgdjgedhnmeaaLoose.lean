/- store.Make: a block is made. · Loose, in plain words. · store.Loose: a block is let go. · store.Drop: a block is held once less. · store.New: a store of free blocks. · rookerylaw.stored: a closed fact. -/
import Derived.Test.YtfmgdjgedhnmeaaPut
namespace Go.Proofs.Ytfmgdjgedhnmeaa
open Go.RowKit
set_option linter.unusedVariables false

end Go.Proofs.Ytfmgdjgedhnmeaa

namespace Go.Proofs.Ytfmgdjgedhnmeaa
open Go.RowKit
set_option linter.unusedVariables false

/-- a block let go: held once less, or free -/
def looseF : Nat → List Blk → Int → List Blk
  | 0, s, _ => s
  | f + 1, s, a => if a = 0 then s else if 1 < (blk s a).refs then addRef s a (-1) else (blk s a).kids.foldl (looseF f) (s.set (a - 1).toNat noBlk)

def cost : Nat → Int
  | 0 => 0
  | f + 1 => 1 + 4 * cost f
theorem cost_nn (f : Nat) : 0 ≤ cost f := by
  induction f with
  | zero => simp [cost]
  | succ f ih => simp [cost]; omega

/-- what a block has below stands lower -/
def Lv (s : List Blk) : Prop := ∀ x ∈ s, 0 ≤ x.level ∧ x.kids.length ≤ 4 ∧ ∀ k ∈ x.kids, k = 0 ∨ (1 ≤ k ∧ k ≤ s.length ∧ (blk s k).level < x.level)
def RefsL (s : List Blk) (L : Int) : Prop := ∀ x ∈ s, L ≤ x.refs ∧ x.refs ≤ 1000000000

theorem blk_set (s : List Blk) (k : Nat) (x : Blk) (b : Int) : blk (s.set k x) b = if k = (b - 1).toNat ∧ k < s.length then x else blk s b := by
  unfold blk
  rw [List.getElem?_set]
  by_cases h : k = (b - 1).toNat
  · by_cases h2 : k < s.length
    · rw [if_pos h, if_pos (h ▸ h2), if_pos ⟨h, h2⟩]; rfl
    · rw [if_pos h, if_neg (h ▸ h2), if_neg (fun e => h2 e.2)]
      rw [List.getElem?_eq_none (by omega)]
  · rw [if_neg h, if_neg (fun e => h e.1)]

theorem Lv.lev {s : List Blk} (h : Lv s) (b : Int) : 0 ≤ (blk s b).level := by
  unfold blk
  cases e : s[(b - 1).toNat]? with
  | none => simp [noBlk]
  | some y => exact (h y (List.mem_of_getElem? e)).1

theorem lev_addRef (s : List Blk) (a d b : Int) : (blk (addRef s a d) b).level = (blk s b).level := by
  unfold addRef
  rw [blk_set]
  split
  · rename_i h
    show (blk s a).level = _
    unfold blk
    rw [h.1]
  · rfl
theorem lev_free {s : List Blk} (h : Lv s) (k : Nat) (b : Int) : (blk (s.set k noBlk) b).level ≤ (blk s b).level := by
  rw [blk_set]
  split
  · exact h.lev b
  · exact Int.le_refl _

theorem Lv.addRef {s : List Blk} (h : Lv s) (a d : Int) : Lv (addRef s a d) := by
  intro x hx
  have key : (∃ y ∈ s, x.level = y.level ∧ x.kids = y.kids) ∨ (x.level = 0 ∧ x.kids = []) := by
    unfold Go.Proofs.Ytfmgdjgedhnmeaa.addRef at hx
    rcases List.mem_or_eq_of_mem_set hx with h1 | h1
    · exact .inl ⟨x, h1, rfl, rfl⟩
    · cases e : s[(a - 1).toNat]? with
      | none => exact .inr ⟨by rw [h1]; unfold blk; rw [e]; rfl, by rw [h1]; unfold blk; rw [e]; rfl⟩
      | some y => exact .inl ⟨y, List.mem_of_getElem? e, by rw [h1]; unfold blk; rw [e]; rfl, by rw [h1]; unfold blk; rw [e]; rfl⟩
  obtain ⟨y, hy, h1, h2⟩ | ⟨h1, h2⟩ := key
  · rw [h1, h2]
    obtain ⟨p1, p2, p3⟩ := h y hy
    refine ⟨p1, p2, fun k hk => ?_⟩
    rw [lev_addRef, addRef_length]
    exact p3 k hk
  · rw [h1, h2]
    exact ⟨by omega, by simp, fun k hk => by cases hk⟩

theorem Lv.free {s : List Blk} (h : Lv s) (k : Nat) : Lv (s.set k noBlk) := by
  intro x hx
  rcases List.mem_or_eq_of_mem_set hx with h1 | h1
  · obtain ⟨p1, p2, p3⟩ := h x h1
    refine ⟨p1, p2, fun j hj => ?_⟩
    rcases p3 j hj with h0 | ⟨q1, q2, q3⟩
    · exact .inl h0
    · have := lev_free h k j
      rw [List.length_set]
      exact .inr ⟨q1, q2, by omega⟩
  · rw [h1]
    exact ⟨by simp [noBlk], by simp [noBlk], fun j hj => by simp [noBlk] at hj⟩

theorem RefsL.weaken {s : List Blk} {L L' : Int} (h : RefsL s L) (hl : L' ≤ L) : RefsL s L' := fun x hx => by have := h x hx; omega
theorem RefsL.less {s : List Blk} {L : Int} (h : RefsL s L) (hl : L ≤ 0) (a : Int) : RefsL (Go.Proofs.Ytfmgdjgedhnmeaa.addRef s a (-1)) (L - 1) := by
  intro x hx
  unfold Go.Proofs.Ytfmgdjgedhnmeaa.addRef at hx
  rcases List.mem_or_eq_of_mem_set hx with h1 | h1
  · have := h x h1; omega
  · rw [h1]
    show L - 1 ≤ (blk s a).refs + -1 ∧ (blk s a).refs + -1 ≤ 1000000000
    unfold blk
    cases e : s[(a - 1).toNat]? with
    | none => simp [noBlk]; omega
    | some y => have := h y (List.mem_of_getElem? e); simp only [Option.getD_some]; omega
theorem RefsL.free {s : List Blk} {L : Int} (h : RefsL s L) (hl : L ≤ 0) (k : Nat) : RefsL (s.set k noBlk) L := by
  intro x hx
  rcases List.mem_or_eq_of_mem_set hx with h1 | h1
  · exact h x h1
  · rw [h1]; simp [noBlk]; omega

structure Loosed (s s' : List Blk) (L : Int) : Prop where
  lv : Lv s'
  refs : RefsL s' L
  lev : ∀ b, (blk s' b).level ≤ (blk s b).level
  len : s'.length = s.length

theorem loosed_fold (f : Nat) (ih : ∀ (s : List Blk) (a L : Int), Lv s → RefsL s L → L ≤ 0 → Loosed s (looseF f s a) (L - cost f)) (ks : List Int) :
    ∀ (s : List Blk) (L : Int), Lv s → RefsL s L → L ≤ 0 → Loosed s (ks.foldl (looseF f) s) (L - ks.length * cost f) := by
  induction ks with
  | nil => intro s L h1 h2 h3; exact ⟨h1, by simpa using h2, fun _ => Int.le_refl _, rfl⟩
  | cons a ks hi =>
    intro s L h1 h2 h3
    have hc := cost_nn f
    have p := ih s a L h1 h2 h3
    have q := hi (looseF f s a) (L - cost f) p.lv p.refs (by omega)
    refine ⟨q.lv, ?_, fun b => Int.le_trans (q.lev b) (p.lev b), q.len.trans p.len⟩
    have e : L - ((a :: ks).length : Int) * cost f = L - cost f - (ks.length : Int) * cost f := by
      simp only [List.length_cons, Int.natCast_add, Int.add_mul]
      omega
    rw [e]
    exact q.refs

theorem kids4 {s : List Blk} (h : Lv s) (a : Int) : (blk s a).kids.length ≤ 4 := by
  unfold blk
  cases e : s[(a - 1).toNat]? with
  | none => simp [noBlk]
  | some y => exact (h y (List.mem_of_getElem? e)).2.1

theorem loosed (f : Nat) : ∀ (s : List Blk) (a L : Int), Lv s → RefsL s L → L ≤ 0 → Loosed s (looseF f s a) (L - cost f) := by
  induction f with
  | zero => intro s a L h1 h2 h3; exact ⟨h1, h2.weaken (by simp [cost]), fun _ => Int.le_refl _, rfl⟩
  | succ f ih =>
    intro s a L h1 h2 h3
    have hc := cost_nn f
    have hce : cost (f + 1) = 1 + 4 * cost f := rfl
    unfold looseF
    split
    · exact ⟨h1, h2.weaken (by omega), fun _ => Int.le_refl _, rfl⟩
    · split
      · exact ⟨h1.addRef a _, (h2.less h3 a).weaken (by omega), fun b => by rw [lev_addRef]; exact Int.le_refl _, addRef_length _ _ _⟩
      · have q := loosed_fold f ih (blk s a).kids (s.set (a - 1).toNat noBlk) L (h1.free _) (h2.free h3 _) h3
        have h4 := kids4 h1 a
        refine ⟨q.lv, q.refs.weaken ?_, fun b => Int.le_trans (q.lev b) (lev_free h1 _ b), q.len.trans (by simp)⟩
        have : ((blk s a).kids.length : Int) * cost f ≤ 4 * cost f := Int.mul_le_mul_of_nonneg_right (by omega) hc
        omega
end Go.Proofs.Ytfmgdjgedhnmeaa

namespace Go.Proofs.Ytfmgdjgedhnmeaa
open Go.RowKit
set_option linter.unusedVariables false

theorem loose_zero (w : World) (pb : Nat) : Calls Try.prog 117 #[.pointer (some ⟨pb, 0, none⟩), .int .i64 0] w fun e w' => e = .returned (.tuple #[]) ∧ w' = w := by
  go_enter Try.func117, Try.ntmps117
  go_wp2
  refine bodyPost_ret (v := .tuple #[]) (by simp [results, Try.results117, go_sem]) rfl ⟨rfl, rfl⟩

theorem FarRow.keep2 {g : Nat} {k : IntKind} {w w' : World} {ao : Option Addr} {xs : List Int} (h : FarRow g k w ao xs) (hg : w.grownBy w' (some g)) : FarRow g k w' ao xs :=
  h.keep fun b hb hl => hg.block b hl (by simpa using hb)

set_option maxRecDepth 100000 in
set_option maxHeartbeats 2000000 in
theorem loose_any (f : Nat) : ∀ (w : World) (pb base g n cap : Nat) (s : List Blk) (a L : Int), f ≤ 4 → s.length = n → n ≤ 400 → w.heap[pb]? = some (.cells #[.slice (some ⟨g, 0, none⟩) n cap] 24 (0, 0)) → OwnR w base g s → pb ≠ g →
    Lv s → RefsL s L → L ≤ 0 → -1000000 + cost f ≤ L → (a = 0 ∨ (1 ≤ a ∧ a ≤ n ∧ (blk s a).level < f)) →
    Calls Try.prog 117 #[.pointer (some ⟨pb, 0, none⟩), .int .i64 a] w fun e w' =>
      e = .returned (.tuple #[]) ∧ OwnR w' base g (looseF f s a) ∧ w.grownBy w' (some g) := by
  induction f with
  | zero =>
    intro w pb base g n cap s a L hf hn h400 hbox hR hpg hlv hrl hL0 hL ha
    have hz : a = 0 := by
      rcases ha with h | ⟨_, _, h⟩
      · exact h
      · have := hlv.lev a; omega
    subst hz
    refine (loose_zero w pb).mono ?_
    rintro e w' ⟨rfl, rfl⟩
    exact ⟨rfl, hR, grown_of_below (Below.refl _ _) _⟩
  | succ f ih =>
    intro w pb base g n cap s a L hf hn h400 hbox hR hpg hlv hrl hL0 hL ha
    by_cases hz : a = 0
    · subst hz
      refine (loose_zero w pb).mono ?_
      rintro e w' ⟨rfl, rfl⟩
      exact ⟨rfl, by simpa [looseF] using hR, grown_of_below (Below.refl _ _) _⟩
    obtain ⟨k, rfl⟩ : ∃ k : Nat, a = k + 1 := ⟨(a - 1).toNat, by omega⟩
    obtain ⟨_, hkn, hlev⟩ := ha.resolve_left hz
    have hks : k < s.length := by omega
    rw [blk_at s k hks] at hlev
    have hcf := cost_nn f
    have hce : cost (f + 1) = 1 + 4 * cost f := rfl
    have hB := hR.blks k hks
    have e0 := hB.refs
    have fr := hR.free
    obtain ⟨kv, e2, hkv⟩ := hB.kids
    obtain ⟨ka, kc, rfl, hfar, hkc⟩ := hkv
    have e1 := hB.level
    obtain ⟨bv, e3, hbv⟩ := hB.bytes
    have lg := hR.lt
    have c1 := cell_of_one hbox
    have lp := lt_heap hbox
    have hrk := hrl _ (List.getElem_mem hks)
    have r1 := hrk.1
    have r2 := hrk.2
    have hlk := hlv _ (List.getElem_mem hks)
    have hR1 := hR.setRefs k hks (s[k].refs - 1)
    have hbox1 : (w.setCell ⟨g, k * 4, none⟩ (.int .i64 (s[k].refs - 1))).heap[pb]? = _ := heap_setCell_ne hbox hpg
    have hg1 := grown_set (grown_of_below (Below.refl w.heap.size w) (some g)) ⟨g, k * 4, none⟩ rfl (.int .i64 (s[k].refs - 1))
    have HN := Lib.hid hn
    have hkn' : (k : Int) < n := by omega
    have hlo : -1000000 ≤ s[k].refs := by omega
    by_cases hone : 1 < s[k].refs
    · have hx : decide (0 < s[k].refs - 1) = true := by simp; omega
      have HR := Lib.hid (show looseF (f + 1) s ((k : Int) + 1) = s.set k { s[k] with refs := s[k].refs - 1 } by
        unfold looseF
        rw [if_neg hz, blk_at s k hks, if_pos hone, addRef_at s k hks]; rfl)
      clear hrk ih hlk hn ha hlev
      go_enter Try.func117, Try.ntmps117
      go_wp2
      refine bodyPost_ret (v := .tuple #[]) (by simp [results, Try.results117, go_sem]) rfl ⟨rfl, by rw [HR.out]; exact hR1, hg1⟩
    · have hx : decide (0 < s[k].refs - 1) = false := by simp; omega
      have HR := Lib.hid (show looseF (f + 1) s ((k : Int) + 1) = s[k].kids.foldl (looseF f) (s.set k noBlk) by
        unfold looseF
        rw [if_neg hz, blk_at s k hks, if_neg hone, show ((k : Int) + 1 - 1).toNat = k from by omega])
      have hlen : (s.set k { s[k] with refs := s[k].refs - 1 }).length = s.length := List.length_set
      have snil : ∀ (kk : IntKind) (wz : World), SlX g kk wz (.slice none 0 0) [] := fun _ _ => ⟨none, 0, rfl, .inl rfl, Nat.le_refl _, fun _ => rfl⟩
      have hR5 := hR1.setBlk k (by omega) noBlk (.slice none 0 0) (.slice none 0 0) (snil _ _) (snil _ _)
      rw [List.set_set] at hR5
      simp only [noBlk] at hR5
      have hg5 := grown_set (grown_set (grown_set (grown_set hg1 ⟨g, k * 4, none⟩ rfl (.int .i64 0)) ⟨g, k * 4 + 1, none⟩ rfl (.int .i64 0)) ⟨g, k * 4 + 2, none⟩ rfl (.slice none 0 0)) ⟨g, k * 4 + 3, none⟩ rfl (.slice none 0 0)
      have hf5 : FarRow g .i64 (((((w.setCell ⟨g, k * 4, none⟩ (.int .i64 (s[k].refs - 1))).setCell ⟨g, k * 4, none⟩ (.int .i64 0)).setCell ⟨g, k * 4 + 1, none⟩ (.int .i64 0)).setCell ⟨g, k * 4 + 2, none⟩ (.slice none 0 0)).setCell ⟨g, k * 4 + 3, none⟩ (.slice none 0 0)) ka s[k].kids :=
        hfar.keep fun b hb _ => by rw [Below.heap_setCell _ _ _ _ hb, Below.heap_setCell _ _ _ _ hb, Below.heap_setCell _ _ _ _ hb, Below.heap_setCell _ _ _ _ hb, Below.heap_setCell _ _ _ _ hb]
      have hk4 := hlk.2.1
      have hkk := hlk.2.2
      have hlvf := hlv.free k
      have hrlf := hrl.free hL0 k
      clear hrk hn ha hR1 hg1 hbox1 hB hbv hlk
      go_enter Try.func117, Try.ntmps117
      go_wp2_with fail
      go_loopw [38] (fun i wr => ∃ m : Nat, m ≤ s[k].kids.length ∧ i = .int .i64 m ∧ OwnR wr base g ((s[k].kids.take m).foldl (looseF f) (s.set k ⟨0, 0, [], []⟩)) ∧ w.grownBy wr (some g) ∧ FarRow g .i64 wr ka s[k].kids) (fun i _ => s[k].kids.length - (intOf i).toNat)
      case atStart => exact ⟨0, Nat.zero_le _, rfl, hR5, hg5, hf5⟩
      case round =>
        clear hR5 hg5 hf5
        obtain ⟨m, hm, rfl, hRm, hgm, hfm⟩ := hrel
        have q1 := (hgm.block pb lp (by simp [hpg])).trans hbox
        by_cases hlt : m < s[k].kids.length
        · have lsd := loosed_fold f (fun s a L => loosed f s a L) (s[k].kids.take m) (s.set k noBlk) L hlvf hrlf hL0
          have hml : ((s[k].kids.take m).length : Int) * cost f ≤ 3 * cost f := Int.mul_le_mul_of_nonneg_right (by simp; omega) hcf
          have hml0 : 0 ≤ ((s[k].kids.take m).length : Int) * cost f := Int.mul_nonneg (by omega) hcf
          have hkm := hkk _ (List.getElem_mem hlt)
          obtain ⟨kb, ko, rfl, hkg, hkcell⟩ : ∃ b o, ka = some ⟨b, o, none⟩ ∧ b ≠ g ∧ ∀ i (h : i < s[k].kids.length), wr.cell? ⟨b, o + i, none⟩ = some (.int .i64 s[k].kids[i]) := by
            rcases hfm with h | h
            · rw [h] at hlt; simp at hlt
            · exact h
          have hck := hkcell m hlt
          have hlk := World.block_lt_of_cell? _ _ hck
          have htk : (s[k].kids.take (m + 1)).foldl (looseF f) (s.set k ⟨0, 0, [], []⟩) = looseF f ((s[k].kids.take m).foldl (looseF f) (s.set k ⟨0, 0, [], []⟩)) s[k].kids[m] := by
            rw [List.take_succ_eq_append_getElem hlt, List.foldl_append]; rfl
          have hlenm : ((s[k].kids.take m).foldl (looseF f) (s.set k ⟨0, 0, [], []⟩)).length = n := by
            have := lsd.len; simp only [noBlk, List.length_set] at this; rw [this]; exact HN.out
          have hkl : s[k].kids[m] = 0 ∨ (1 ≤ s[k].kids[m] ∧ s[k].kids[m] ≤ n ∧ (blk ((s[k].kids.take m).foldl (looseF f) (s.set k ⟨0, 0, [], []⟩)) s[k].kids[m]).level < f) := by
            rcases hkm with h0 | ⟨h1, h2, h3⟩
            · exact .inl h0
            · have z1 := lsd.lev s[k].kids[m]
              have z2 := lev_free hlv k s[k].kids[m]
              simp only [noBlk] at z1 z2
              exact .inr ⟨h1, by have := HN.out; omega, by omega⟩
          have HK := Lib.hid (ih wr pb base g n cap _ s[k].kids[m] (L - ((s[k].kids.take m).length : Int) * cost f) (by omega) hlenm h400 q1 hRm hpg lsd.lv lsd.refs (by omega) (by omega) hkl)
          clear ih hkl hlenm hml hml0 lsd hkm hkk hlvf hrlf hlv hrl hkcell hfar
          go_wp2_with fail
          refine HK.out.mono ?_
          rintro e w2 ⟨rfl, hR2, hg2⟩
          rw [← htk] at hR2
          have hg3 := grown_trans hgm hg2
          have hf3 := hfm
          go_wp2
          go_roundw
          case rel => exact ⟨m + 1, by omega, by go_num, hR2, hg3, hfm.keep2 hg2⟩
          case measure => simp [intOf]; omega
        · obtain rfl : m = s[k].kids.length := by omega
          rw [List.take_length] at hRm
          go_wp2
          go_end0
          exact ⟨rfl, by rw [HR.out]; exact hRm, hgm⟩
end Go.Proofs.Ytfmgdjgedhnmeaa

namespace Go.Proofs.Ytfmgdjgedhnmeaa
open Go.RowKit
set_option linter.unusedVariables false

end Go.Proofs.Ytfmgdjgedhnmeaa

namespace Go.Proofs.Ytfmgdjgedhnmeaa
open Go.RowKit
set_option linter.unusedVariables false

def newR (n : Int) : List Blk × Int := if n < 0 ∨ 400 < n then ([], 3) else (List.replicate n.toNat noBlk, 0)

def freeCells (n : Nat) : Array Value := madeCells #[.int .i64 0, .int .i64 0, .slice none 0 0, .slice none 0 0] (n * 4)

theorem free_cell (w : World) (g n : Nat) (h : w.heap[g]? = some (.cells (freeCells n) 93 (0, 0))) (i r : Nat) (hi : i < n) (hr : r < 4) :
    w.cell? ⟨g, i * 4 + r, none⟩ = some ((#[.int .i64 0, .int .i64 0, .slice none 0 0, .slice none 0 0] : Array Value)[r]!) := by
  rw [cell_of_block h]
  unfold freeCells madeCells
  rw [Array.getElem?_map, Array.getElem?_range]
  have : i * 4 + r < n * 4 := by omega
  rw [if_pos this]
  simp only [Option.map_some, List.size_toArray, List.length_cons, List.length_nil]
  rw [show (i * 4 + r) % (0 + 1 + 1 + 1 + 1) = r from by omega]

theorem free_row (w : World) (base g n : Nat) (hb : base ≤ g) (h : w.heap[g]? = some (.cells (freeCells n) 93 (0, 0))) : OwnR w base g (List.replicate n noBlk) := by
  refine ⟨hb, ⟨_, h⟩, fun i hi => ?_⟩
  have hin : i < n := by simpa using hi
  rw [List.getElem_replicate]
  have c0 := free_cell w g n h i 0 hin (by omega)
  have c1 := free_cell w g n h i 1 hin (by omega)
  have c2 := free_cell w g n h i 2 hin (by omega)
  have c3 := free_cell w g n h i 3 hin (by omega)
  exact ⟨c0, c1, ⟨_, c2, none, 0, rfl, .inl rfl, Nat.le_refl _, fun _ => rfl⟩, ⟨_, c3, none, 0, rfl, .inl rfl, Nat.le_refl _, fun _ => rfl⟩⟩

set_option maxRecDepth 100000 in
set_option maxHeartbeats 2000000 in
theorem new_any (w : World) (n : Int) :
    Calls Try.prog 31 #[.int .i64 n] w fun e w' => ∃ v, e = .returned (.tuple #[.agg #[v], .int .i64 (newR n).2]) ∧ OwnSto w' w.heap.size v (newR n).1 ∧ Below w.heap.size w w' := by
  have hb0 : Below w.heap.size w (w.alloc (.cells #[.slice none 0 0] 24)) := (Below.refl _ _).alloc (Nat.le_refl _) _
  have h0 : (w.alloc (.cells #[.slice none 0 0] 24)).heap[w.heap.size]? = some (.cells #[.slice none 0 0] 24 (0, 0)) := heap_alloc_new _ _
  by_cases hn : n < 0 ∨ 400 < n
  · have HR := Lib.hid (show newR n = ([], 3) by unfold newR; rw [if_pos hn])
    have c6 := cell_of_one h0
    have f6 := free_of_one h0
    by_cases hneg : n < 0
    · clear hn
      go_enter Try.func31, Try.ntmps31
      go_wp2
      refine bodyPost_ret (v := .tuple #[.agg #[.slice none 0 0], .int .i64 3]) (by simp [results, Try.results31, go_sem, c6]) rfl ⟨_, by rw [HR.out], ?_, ?_⟩
      · rw [HR.out]; exact OwnSto.none _ _
      · exact hb0
    · have hbig : 400 < n := by omega
      clear hn
      go_enter Try.func31, Try.ntmps31
      go_wp2
      refine bodyPost_ret (v := .tuple #[.agg #[.slice none 0 0], .int .i64 3]) (by simp [results, Try.results31, go_sem, c6]) rfl ⟨_, by rw [HR.out], ?_, ?_⟩
      · rw [HR.out]; exact OwnSto.none _ _
      · exact hb0
  · obtain ⟨m, rfl⟩ : ∃ m : Nat, n = m := ⟨n.toNat, by omega⟩
    have hm : m ≤ 400 := by omega
    have hd2 : ¬ (400 < (m : Int)) := by omega
    have HR := Lib.hid (show newR (m : Int) = (List.replicate m noBlk, 0) by unfold newR; rw [if_neg hn]; simp)
    have hmk : ∀ u : World, (Instr.makeSlice 22 (.int .i64 (m : Int)) (.int .i64 (m : Int))).run Try.prog u = .ok (.slice (some ⟨u.heap.size, 0, none⟩) m m) (u.alloc (.cells (freeCells m) 93)) := fun u => by
      obtain ⟨i, i1, i2, i3, i4⟩ := info_parts info_blk
      have := run_makeSlice (P := Try.prog) u 22 93 i _ Try.underlying22 i1 i2 .i64 .i64 m m (by omega) (Int.le_refl _) (by rw [i3]; simp; omega) (by rw [i4]; omega) (by omega)
      rw [i3] at this
      simpa [Value.cells, freeCells] using this
    have h1 : ((w.alloc (.cells #[.slice (some ⟨w.heap.size + 1, 0, none⟩) m m] 24)).alloc (.cells (freeCells m) 93)).heap[w.heap.size]? = some (.cells #[.slice (some ⟨w.heap.size + 1, 0, none⟩) m m] 24 (0, 0)) := heap_alloc2_old _ _ _
    have h2 : ((w.alloc (.cells #[.slice (some ⟨w.heap.size + 1, 0, none⟩) m m] 24)).alloc (.cells (freeCells m) 93)).heap[w.heap.size + 1]? = some (.cells (freeCells m) 93 (0, 0)) := heap_alloc2_new _ _ _
    have hb1 : Below w.heap.size w ((w.alloc (.cells #[.slice (some ⟨w.heap.size + 1, 0, none⟩) m m] 24)).alloc (.cells (freeCells m) 93)) := ((Below.refl _ _).alloc (Nat.le_refl _) _).alloc (by simp) _
    have c6 := cell_of_one h1
    clear hn
    go_enter Try.func31, Try.ntmps31
    go_wp2
    refine bodyPost_ret (v := .tuple #[.agg #[.slice (some ⟨w.heap.size + 1, 0, none⟩) m m], .int .i64 0]) (by simp [results, Try.results31, go_sem, c6]) rfl ⟨_, by rw [HR.out], ?_, ?_⟩
    · rw [HR.out]
      have hq := (free_row _ (w.heap.size + 1) _ m (Nat.le_refl _) h2).own (n := m) (by simp) (Nat.le_refl _)
      exact OwnSto.weaken (base := w.heap.size + 1) hq (by omega)
    · exact hb1
end Go.Proofs.Ytfmgdjgedhnmeaa

namespace Go.Proofs.Ytfmgdjgedhnmeaa
open Go.RowKit
set_option linter.unusedVariables false

end Go.Proofs.Ytfmgdjgedhnmeaa
