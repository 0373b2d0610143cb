/- store.Loose: a block is let go. -/
import Derived.Test.YtpfopbkaddjjcaaLooseP
namespace Go.Proofs.Ytpfopbkaddjjcaa
open Go.RowKit
set_option linter.unusedVariables false

theorem loose_zero (w : World) (pb : Nat) : Calls Try.prog 68 #[.pointer (some ⟨pb, 0, none⟩), .int .i64 0] w fun e w' => e = .returned (.tuple #[]) ∧ w' = w := by
  go_enter Try.func68, Try.ntmps68
  go_wp2
  refine bodyPost_ret (v := .tuple #[]) (by simp [results, Try.results68, go_sem]) rfl ⟨rfl, rfl⟩

theorem FarRow.keep2 {g : Nat} {k : IntKind} {w w' : World} {ao : Option Addr} {xs : List Int} (h : FarRow g k w ao xs) (hg : w.grownBy w' (some g)) : FarRow g k w' ao xs :=
  h.keep fun b hb hl => hg.block b hl (by simpa using hb)

set_option maxRecDepth 100000 in
set_option maxHeartbeats 2000000 in
theorem loose_any (f : Nat) : ∀ (w : World) (pb base g n cap : Nat) (s : List Blk) (a L : Int), f ≤ 4 → s.length = n → n ≤ 400 → w.heap[pb]? = some (.cells #[.slice (some ⟨g, 0, none⟩) n cap] 40 (0, 0)) → OwnR w base g s → pb ≠ g →
    Lv s → RefsL s L → L ≤ 0 → -1000000 + cost f ≤ L → (a = 0 ∨ (1 ≤ a ∧ a ≤ n ∧ (blk s a).level < f)) →
    Calls Try.prog 68 #[.pointer (some ⟨pb, 0, none⟩), .int .i64 a] w fun e w' =>
      e = .returned (.tuple #[]) ∧ OwnR w' base g (looseF f s a) ∧ w.grownBy w' (some g) := by
  induction f with
  | zero =>
    intro w pb base g n cap s a L hf hn h400 hbox hR hpg hlv hrl hL0 hL ha
    have hz : a = 0 := by
      rcases ha with h | ⟨_, _, h⟩
      · exact h
      · have := hlv.lev a; omega
    subst hz
    refine (loose_zero w pb).mono ?_
    rintro e w' ⟨rfl, rfl⟩
    exact ⟨rfl, hR, grown_of_below (Below.refl _ _) _⟩
  | succ f ih =>
    intro w pb base g n cap s a L hf hn h400 hbox hR hpg hlv hrl hL0 hL ha
    by_cases hz : a = 0
    · subst hz
      refine (loose_zero w pb).mono ?_
      rintro e w' ⟨rfl, rfl⟩
      exact ⟨rfl, by simpa [looseF] using hR, grown_of_below (Below.refl _ _) _⟩
    obtain ⟨k, rfl⟩ : ∃ k : Nat, a = k + 1 := ⟨(a - 1).toNat, by omega⟩
    obtain ⟨_, hkn, hlev⟩ := ha.resolve_left hz
    have hks : k < s.length := by omega
    rw [blk_at s k hks] at hlev
    have hcf := cost_nn f
    have hce : cost (f + 1) = 1 + 4 * cost f := rfl
    have hB := hR.blks k hks
    have e0 := hB.refs
    have fr := hR.free
    obtain ⟨kv, e2, hkv⟩ := hB.kids
    obtain ⟨ka, kc, rfl, hfar, hkc⟩ := hkv
    have e1 := hB.level
    obtain ⟨bv, e3, hbv⟩ := hB.bytes
    have lg := hR.lt
    have c1 := cell_of_one hbox
    have lp := lt_heap hbox
    have hrk := hrl _ (List.getElem_mem hks)
    have r1 := hrk.1
    have r2 := hrk.2
    have hlk := hlv _ (List.getElem_mem hks)
    have hR1 := hR.setRefs k hks (s[k].refs - 1)
    have hbox1 : (w.setCell ⟨g, k * 4, none⟩ (.int .i64 (s[k].refs - 1))).heap[pb]? = _ := heap_setCell_ne hbox hpg
    have hg1 := grown_set (grown_of_below (Below.refl w.heap.size w) (some g)) ⟨g, k * 4, none⟩ rfl (.int .i64 (s[k].refs - 1))
    have HN := Lib.hid hn
    have hkn' : (k : Int) < n := by omega
    have hlo : -1000000 ≤ s[k].refs := by omega
    by_cases hone : 1 < s[k].refs
    · have hx : decide (0 < s[k].refs - 1) = true := by simp; omega
      have HR := Lib.hid (show looseF (f + 1) s ((k : Int) + 1) = s.set k { s[k] with refs := s[k].refs - 1 } by
        unfold looseF
        rw [if_neg hz, blk_at s k hks, if_pos hone, addRef_at s k hks]; rfl)
      clear hrk ih hlk hn ha hlev
      go_enter Try.func68, Try.ntmps68
      go_wp2
      refine bodyPost_ret (v := .tuple #[]) (by simp [results, Try.results68, go_sem]) rfl ⟨rfl, by rw [HR.out]; exact hR1, hg1⟩
    · have hx : decide (0 < s[k].refs - 1) = false := by simp; omega
      have HR := Lib.hid (show looseF (f + 1) s ((k : Int) + 1) = s[k].kids.foldl (looseF f) (s.set k noBlk) by
        unfold looseF
        rw [if_neg hz, blk_at s k hks, if_neg hone, show ((k : Int) + 1 - 1).toNat = k from by omega])
      have hlen : (s.set k { s[k] with refs := s[k].refs - 1 }).length = s.length := List.length_set
      have snil : ∀ (kk : IntKind) (wz : World), SlX g kk wz (.slice none 0 0) [] := fun _ _ => ⟨none, 0, rfl, .inl rfl, Nat.le_refl _, fun _ => rfl⟩
      have hR5 := hR1.setBlk k (by omega) noBlk (.slice none 0 0) (.slice none 0 0) (snil _ _) (snil _ _)
      rw [List.set_set] at hR5
      simp only [noBlk] at hR5
      have hg5 := grown_set (grown_set (grown_set (grown_set hg1 ⟨g, k * 4, none⟩ rfl (.int .i64 0)) ⟨g, k * 4 + 1, none⟩ rfl (.int .i64 0)) ⟨g, k * 4 + 2, none⟩ rfl (.slice none 0 0)) ⟨g, k * 4 + 3, none⟩ rfl (.slice none 0 0)
      have hf5 : FarRow g .i64 (((((w.setCell ⟨g, k * 4, none⟩ (.int .i64 (s[k].refs - 1))).setCell ⟨g, k * 4, none⟩ (.int .i64 0)).setCell ⟨g, k * 4 + 1, none⟩ (.int .i64 0)).setCell ⟨g, k * 4 + 2, none⟩ (.slice none 0 0)).setCell ⟨g, k * 4 + 3, none⟩ (.slice none 0 0)) ka s[k].kids :=
        hfar.keep fun b hb _ => by rw [Below.heap_setCell _ _ _ _ hb, Below.heap_setCell _ _ _ _ hb, Below.heap_setCell _ _ _ _ hb, Below.heap_setCell _ _ _ _ hb, Below.heap_setCell _ _ _ _ hb]
      have hk4 := hlk.2.1
      have hkk := hlk.2.2
      have hlvf := hlv.free k
      have hrlf := hrl.free hL0 k
      clear hrk hn ha hR1 hg1 hbox1 hB hbv hlk
      go_enter Try.func68, Try.ntmps68
      go_wp2_with fail
      go_loopw [38] (fun i wr => ∃ m : Nat, m ≤ s[k].kids.length ∧ i = .int .i64 m ∧ OwnR wr base g ((s[k].kids.take m).foldl (looseF f) (s.set k ⟨0, 0, [], []⟩)) ∧ w.grownBy wr (some g) ∧ FarRow g .i64 wr ka s[k].kids) (fun i _ => s[k].kids.length - (intOf i).toNat)
      case atStart => exact ⟨0, Nat.zero_le _, rfl, hR5, hg5, hf5⟩
      case round =>
        clear hR5 hg5 hf5
        obtain ⟨m, hm, rfl, hRm, hgm, hfm⟩ := hrel
        have q1 := (hgm.block pb lp (by simp [hpg])).trans hbox
        by_cases hlt : m < s[k].kids.length
        · have lsd := loosed_fold f (fun s a L => loosed f s a L) (s[k].kids.take m) (s.set k noBlk) L hlvf hrlf hL0
          have hml : ((s[k].kids.take m).length : Int) * cost f ≤ 3 * cost f := Int.mul_le_mul_of_nonneg_right (by simp; omega) hcf
          have hml0 : 0 ≤ ((s[k].kids.take m).length : Int) * cost f := Int.mul_nonneg (by omega) hcf
          have hkm := hkk _ (List.getElem_mem hlt)
          obtain ⟨kb, ko, rfl, hkg, hkcell⟩ : ∃ b o, ka = some ⟨b, o, none⟩ ∧ b ≠ g ∧ ∀ i (h : i < s[k].kids.length), wr.cell? ⟨b, o + i, none⟩ = some (.int .i64 s[k].kids[i]) := by
            rcases hfm with h | h
            · rw [h] at hlt; simp at hlt
            · exact h
          have hck := hkcell m hlt
          have hlk := World.block_lt_of_cell? _ _ hck
          have htk : (s[k].kids.take (m + 1)).foldl (looseF f) (s.set k ⟨0, 0, [], []⟩) = looseF f ((s[k].kids.take m).foldl (looseF f) (s.set k ⟨0, 0, [], []⟩)) s[k].kids[m] := by
            rw [List.take_succ_eq_append_getElem hlt, List.foldl_append]; rfl
          have hlenm : ((s[k].kids.take m).foldl (looseF f) (s.set k ⟨0, 0, [], []⟩)).length = n := by
            have := lsd.len; simp only [noBlk, List.length_set] at this; rw [this]; exact HN.out
          have hkl : s[k].kids[m] = 0 ∨ (1 ≤ s[k].kids[m] ∧ s[k].kids[m] ≤ n ∧ (blk ((s[k].kids.take m).foldl (looseF f) (s.set k ⟨0, 0, [], []⟩)) s[k].kids[m]).level < f) := by
            rcases hkm with h0 | ⟨h1, h2, h3⟩
            · exact .inl h0
            · have z1 := lsd.lev s[k].kids[m]
              have z2 := lev_free hlv k s[k].kids[m]
              simp only [noBlk] at z1 z2
              exact .inr ⟨h1, by have := HN.out; omega, by omega⟩
          have HK := Lib.hid (ih wr pb base g n cap _ s[k].kids[m] (L - ((s[k].kids.take m).length : Int) * cost f) (by omega) hlenm h400 q1 hRm hpg lsd.lv lsd.refs (by omega) (by omega) hkl)
          clear ih hkl hlenm hml hml0 lsd hkm hkk hlvf hrlf hlv hrl hkcell hfar
          go_wp2_with fail
          refine HK.out.mono ?_
          rintro e w2 ⟨rfl, hR2, hg2⟩
          rw [← htk] at hR2
          have hg3 := grown_trans hgm hg2
          have hf3 := hfm
          go_wp2
          go_roundw
          case rel => exact ⟨m + 1, by omega, by go_num, hR2, hg3, hfm.keep2 hg2⟩
          case measure => simp [intOf]; omega
        · obtain rfl : m = s[k].kids.length := by omega
          rw [List.take_length] at hRm
          go_wp2
          go_end0
          exact ⟨rfl, by rw [HR.out]; exact hRm, hgm⟩
end Go.Proofs.Ytpfopbkaddjjcaa
