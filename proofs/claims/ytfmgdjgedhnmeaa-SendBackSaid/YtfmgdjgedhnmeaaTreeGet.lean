/- Are two blocks, two stores, the same? · tree.Leaves, tree.check, tree.get, tree.Get; rookeryref.CheckRoot: roots of a level, places below them. · tree.get, tree.Get: the leaf at a place. -/
import Derived.Test.YtfmgdjgedhnmeaaCopy
import Derived.BigQuiet
import Derived.Test.YtfmgdjgedhnmeaaBackQ
import Derived.Test.YtfmgdjgedhnmeaaOutside
import Derived.Test.YtfmgdjgedhnmeaaForm
namespace Go.Proofs.Ytfmgdjgedhnmeaa
open Go.RowKit
set_option linter.unusedVariables false

end Go.Proofs.Ytfmgdjgedhnmeaa

namespace Go.Proofs.Ytfmgdjgedhnmeaa
open Go.RowKit
set_option linter.unusedVariables false

/-- leaves below a block of a level -/
def p4 (k : Nat) : Int := if k = 0 then 1 else if k = 1 then 4 else if k = 2 then 16 else 64
def lvN (l : Int) : Int × Int := if l < 0 ∨ 3 < l then (0, 3) else (p4 l.toNat, 0)
theorem p4_pos (k : Nat) : 1 ≤ p4 k ∧ p4 k ≤ 64 := by unfold p4; repeat' split <;> omega
def At4 (k : Nat) (u : Value) : Prop := (k = 0 ∧ u = .int .i64 1) ∨ (k = 1 ∧ u = .int .i64 4) ∨ (k = 2 ∧ u = .int .i64 16) ∨ (k = 3 ∧ u = .int .i64 64)
theorem At4.val {k : Nat} {u : Value} (h : At4 k u) : u = .int .i64 (p4 k) := by
  rcases h with ⟨rfl, rfl⟩ | ⟨rfl, rfl⟩ | ⟨rfl, rfl⟩ | ⟨rfl, rfl⟩ <;> rfl

set_option maxHeartbeats 1000000 in
theorem leaves_any (w : World) (l : Int) : Calls Try.prog 108 #[.int .i64 l] w fun e w' => e = .returned (.tuple #[.int .i64 (lvN l).1, .int .i64 (lvN l).2]) ∧ w' = w := by
  by_cases h1 : l < 0
  · have HR := Lib.hid (show lvN l = (0, 3) by unfold lvN; rw [if_pos (by omega)])
    go_enter Try.func108, Try.ntmps108
    go_wp2
    go_ret2
    exact ⟨by rw [HR.out]; rfl, rfl⟩
  · by_cases h2 : 3 < l
    · have HR := Lib.hid (show lvN l = (0, 3) by unfold lvN; rw [if_pos (by omega)])
      go_enter Try.func108, Try.ntmps108
      go_wp2
      go_ret2
      exact ⟨by rw [HR.out]; rfl, rfl⟩
    · obtain ⟨m, rfl⟩ : ∃ m : Nat, l = m := ⟨l.toNat, by omega⟩
      have hm : m ≤ 3 := by omega
      have HR := Lib.hid (show lvN (m : Int) = (p4 m, 0) by unfold lvN; rw [if_neg (by omega)]; rfl)
      go_enter Try.func108, Try.ntmps108
      go_wp2
      go_loop [4, 12] (fun u i => ∃ k : Nat, k ≤ m ∧ i = .int .i64 k ∧ At4 k u) (fun _ i => m - (intOf i).toNat)
      case atStart => exact ⟨0, Nat.zero_le _, rfl, .inl ⟨rfl, rfl⟩⟩
      case round =>
        obtain ⟨k, hk, rfl, hu⟩ := hrel
        by_cases hlt : k < m
        · have hkm : (k : Int) < m := by omega
          rcases hu with ⟨rfl, rfl⟩ | ⟨rfl, rfl⟩ | ⟨rfl, rfl⟩ | ⟨rfl, rfl⟩
          · go_wp2
            go_round
            case rel => exact ⟨1, by omega, by go_num, .inr (.inl ⟨rfl, by go_num⟩)⟩
            case measure => simp [intOf]; omega
          · go_wp2
            go_round
            case rel => exact ⟨2, by omega, by go_num, .inr (.inr (.inl ⟨rfl, by go_num⟩))⟩
            case measure => simp [intOf]; omega
          · go_wp2
            go_round
            case rel => exact ⟨3, by omega, by go_num, .inr (.inr (.inr ⟨rfl, by go_num⟩))⟩
            case measure => simp [intOf]; omega
          · omega
        · obtain rfl : k = m := by omega
          have hv := hu.val
          subst hv
          go_wp2
          go_ret2
          exact ⟨by rw [HR.out]; rfl, rfl⟩

def checkT (s : List Blk) (root l i : Int) : Int :=
  if checkE s ≠ 0 then checkE s else if l < 0 ∨ 3 < l then 3 else if root ≠ 0 ∧ thereB s root = false then 5
  else if root ≠ 0 ∧ (blk s root).level ≠ l then 4 else if i < 0 ∨ p4 l.toNat ≤ i then 3 else 0

/-- a right root, a place below it -/
theorem checkT_ok {s : List Blk} {root l i : Int} (h : checkT s root l i = 0) : checkE s = 0 ∧ ∃ m : Nat, l = m ∧ m ≤ 3 ∧ (root = 0 ∨ (thereB s root = true ∧ (blk s root).level = m)) ∧ 0 ≤ i ∧ i < p4 m := by
  unfold checkT at h
  split at h
  · rename_i h1; exact absurd h h1
  · rename_i h1
    split at h
    · omega
    · split at h
      · omega
      · split at h
        · omega
        · split at h
          · omega
          · rename_i h2 h3 h4 h5
            refine ⟨by simpa using h1, l.toNat, by omega, by omega, ?_, by omega, by omega⟩
            by_cases h0 : root = 0
            · exact .inl h0
            · refine .inr ⟨?_, ?_⟩
              · cases ht : thereB s root with
                | true => rfl
                | false => exact absurd ⟨h0, ht⟩ h3
              · have : ¬ (blk s root).level ≠ l := fun e => h4 ⟨h0, e⟩
                omega

set_option maxRecDepth 100000 in
set_option maxHeartbeats 4000000 in
theorem treeCheck_any (w : World) (ao : Option Addr) (n cap : Nat) (s : List Blk) (root l i : Int) (hn : s.length = n) (hn63 : n ≤ 1152921504606846976) (hs : StoRow w ao s) (hwf : WfS s) :
    Calls Try.prog 105 #[.agg #[.slice ao n cap], .int .i64 root, .int .i64 l, .int .i64 i] w fun e w' => e = .returned (.int .i64 (checkT s root l i)) ∧ Below w.heap.size w w' := by
  have HN := Lib.hid hn
  have hb0 : Below w.heap.size w (w.alloc (.cells #[.slice ao n cap] 24)) := (Below.refl _ _).alloc (Nat.le_refl _) _
  have p4 : (w.alloc (.cells #[.slice ao n cap] 24)).heap[w.heap.size]? = some (.cells #[.slice ao n cap] 24 (0, 0)) := heap_alloc_new _ _
  clear hn
  go_enter Try.func105, Try.ntmps105
  go_wp2_with fail
  have hs := hs.mono hb0
  generalize w.alloc (Obj.cells #[Value.slice ao n cap] 24) = W0 at *
  refine (check_any _ _ _ _ s HN.out hn63 hs hwf).mono ?_
  rintro e w1 ⟨rfl, hb1⟩
  replace p4 := (hb1.block _ (lt_heap p4)).trans p4
  have hbw := below_step hb0 hb1
  replace hs := hs.mono hb1
  by_cases hce : checkE s = 0
  rotate_left
  · have HR := Lib.hid (show checkT s root l i = checkE s by unfold checkT; rw [if_pos hce])
    have he1 : (checkE s != 0) = true := by rw [bne_iff_ne]; exact hce
    generalize hcc : checkE s = ce at *
    replace hcc := Lib.hid hcc
    clear hce hs
    go_wp2
    go_ret
    exact ⟨by rw [HR.out]; rfl, hbw⟩
  have he1 : (checkE s != 0) = false := by rw [hce]; rfl
  have he0 : (checkE s == 0) = true := by rw [hce]; rfl
  have h400 : n ≤ 400 := by have := (checkE_zero s hce).1; have := HN.out; omega
  have hri := (checkE_zero s hce).2.2.2.1
  have HCE := Lib.hid hce
  clear hce
  go_wp2_with fail
  refine (leaves_any _ l).mono ?_
  rintro e w2 ⟨rfl, rfl⟩
  by_cases hlv : l < 0 ∨ 3 < l
  · have HR := Lib.hid (show checkT s root l i = 3 by unfold checkT; rw [if_neg (by simp [HCE.out]), if_pos hlv])
    have e1 : lvN l = (0, 3) := by unfold lvN; rw [if_pos hlv]
    rw [e1]
    clear hlv e1 hs hri
    go_wp2
    go_ret
    exact ⟨by rw [HR.out]; rfl, hbw⟩
  have e1 : lvN l = (Go.Proofs.Ytfmgdjgedhnmeaa.p4 l.toNat, 0) := by unfold lvN; rw [if_neg hlv]
  rw [e1]
  clear e1
  have c4 := cell_of_one p4
  have l4 := lt_heap p4
  have hq := p4_pos l.toNat
  have HLV := Lib.hid hlv
  clear hlv
  have tailR : ∀ (hroot : root = 0 ∨ (thereB s root = true ∧ (blk s root).level = l)), checkT s root l i = if i < 0 ∨ Go.Proofs.Ytfmgdjgedhnmeaa.p4 l.toNat ≤ i then 3 else 0 := by
    intro hroot
    unfold checkT
    rw [if_neg (by simp [HCE.out]), if_neg HLV.out, if_neg, if_neg]
    · rintro ⟨h1, h2⟩
      rcases hroot with h | ⟨_, h⟩
      · exact h1 h
      · exact h2 h
    · rintro ⟨h1, h2⟩
      rcases hroot with h | ⟨h, _⟩
      · exact h1 h
      · rw [h] at h2; cases h2
  have HT := Lib.hid tailR
  clear tailR
  by_cases hr0 : root = 0
  · subst hr0
    have HR := Lib.hid (HT.out (.inl rfl))
    clear HT hs hri
    generalize Go.Proofs.Ytfmgdjgedhnmeaa.p4 l.toNat = q at *
    by_cases hi1 : i < 0
    · go_wp2
      go_ret
      exact ⟨by rw [HR.out, if_pos (by omega)]; rfl, hbw⟩
    · by_cases hi2 : q ≤ i
      · go_wp2
        go_ret
        exact ⟨by rw [HR.out, if_pos (by omega)]; rfl, hbw⟩
      · go_wp2
        go_ret
        exact ⟨by rw [HR.out, if_neg (by omega)]; rfl, hbw⟩
  · have hr1 : (root != 0) = true := by rw [bne_iff_ne]; exact hr0
    have H5 : thereB s root = false → Hid (checkT s root l i = 5) := fun h => Lib.hid (by unfold checkT; rw [if_neg (by simp [HCE.out]), if_neg HLV.out, if_pos ⟨hr0, h⟩])
    by_cases hlo : root < 1
    · have HR := H5 (there_low s root hlo)
      clear H5 HT hs hri
      go_wp2
      go_ret
      exact ⟨by rw [HR.out]; rfl, hbw⟩
    · by_cases hhi : (n : Int) < root
      · have HR := H5 (there_high s root (by have := HN.out; omega))
        clear H5 HT hs hri
        go_wp2
        go_ret
        exact ⟨by rw [HR.out]; rfl, hbw⟩
      · obtain ⟨j, rfl⟩ : ∃ j : Nat, root = j + 1 := ⟨(root - 1).toNat, by omega⟩
        have hj : j < s.length := by have := HN.out; omega
        have hjn : (j : Int) < n := by omega
        obtain ⟨sb, so, rfl, hsB⟩ := hs.at j hj
        have hB := hsB j hj
        have x0 := hB.refs
        have x1 := hB.level
        have lB := hB.lt
        have hrj := hri _ (List.getElem_mem hj)
        have htj := there_at s j hj
        have hbj := blk_at s j hj
        rw [htj] at H5 HT
        rw [hbj] at HT
        have H4 : 0 < s[j].refs → s[j].level ≠ l → Hid (checkT s ((j : Int) + 1) l i = 4) := fun h1 h2 => Lib.hid (by
          unfold checkT
          rw [if_neg (by simp [HCE.out]), if_neg HLV.out, if_neg (by rw [htj]; simp; omega), if_pos ⟨hr0, by rw [hbj]; exact h2⟩])
        clear hsB hB htj hbj hs hri
        generalize s[j] = x at *
        obtain ⟨rr, lv, kk, bb⟩ := x
        simp only at *
        by_cases hz : rr = 0
        · have hz1 : (rr == 0) = true := by rw [hz]; rfl
          have HR := H5 (by rw [hz]; rfl)
          clear H5 H4 HT hz hrj
          go_wp2
          go_ret
          exact ⟨by rw [HR.out]; rfl, hbw⟩
        · have hz1 : (rr == 0) = false := by rw [beq_eq_false_iff_ne]; exact hz
          by_cases hl : lv = l
          · have hl1 : (lv != l) = false := by rw [hl]; simp
            have HR := Lib.hid (HT.out (.inr ⟨by simp; omega, hl⟩))
            clear H5 H4 HT hz hl hrj
            generalize Go.Proofs.Ytfmgdjgedhnmeaa.p4 l.toNat = q at *
            by_cases hi1 : i < 0
            · go_wp2
              go_ret
              exact ⟨by rw [HR.out, if_pos (by omega)]; rfl, hbw⟩
            · by_cases hi2 : q ≤ i
              · go_wp2
                go_ret
                exact ⟨by rw [HR.out, if_pos (by omega)]; rfl, hbw⟩
              · go_wp2
                go_ret
                exact ⟨by rw [HR.out, if_neg (by omega)]; rfl, hbw⟩
          · have hl1 : (lv != l) = true := by rw [bne_iff_ne]; exact hl
            have HR := H4 (by omega) hl
            clear H5 H4 HT hz hl hrj
            go_wp2
            go_ret
            exact ⟨by rw [HR.out]; rfl, hbw⟩
end Go.Proofs.Ytfmgdjgedhnmeaa

namespace Go.Proofs.Ytfmgdjgedhnmeaa
open Go.RowKit
set_option linter.unusedVariables false

def p4n (k : Nat) : Nat := if k = 0 then 1 else if k = 1 then 4 else if k = 2 then 16 else 64
theorem p4n_int (k : Nat) : p4 k = (p4n k : Int) := by unfold p4 p4n; (repeat' split) <;> rfl
theorem p4n_pos (k : Nat) : 0 < p4n k := by unfold p4n; (repeat' split) <;> omega
theorem p4n_succ (k : Nat) (h : k < 3) : p4n (k + 1) = 4 * p4n k := by
  rcases (show k = 0 ∨ k = 1 ∨ k = 2 from by omega) with rfl | rfl | rfl <;> rfl

/-- the address of the leaf at a place -/
def leafA : Nat → List Blk → Int → Nat → Int
  | 0, _, a, _ => a
  | m + 1, s, a, i => if a = 0 then 0 else leafA m s (((blk s a).kids[i / p4n m]?).getD 0) (i % p4n m)
def leafB (m : Nat) (s : List Blk) (a : Int) (i : Nat) : List Int := if leafA m s a i = 0 then [] else (blk s (leafA m s a i)).bytes
theorem leafA_zero (m : Nat) (s : List Blk) (i : Nat) : leafA m s 0 i = 0 := by cases m <;> simp [leafA]

/-- a root of a level, in a store whose blocks stand in tiers -/
def RootAt (s : List Blk) (m : Nat) (a : Int) : Prop := a = 0 ∨ (thereB s a = true ∧ (blk s a).level = m)

/-- inner blocks have four -/
theorem four_kids {s : List Blk} (h : formsE s s = 0) {a : Int} (ha : thereB s a = true) (hl : 1 ≤ (blk s a).level) : (blk s a).kids.length = 4 := by
  obtain ⟨k, hk, rfl, hr⟩ := there_in ha
  rw [blk_at s k hk] at hl ⊢
  rw [List.getElem?_eq_getElem hk, Option.getD_some] at hr
  rcases formB_zero s s[k] (formsE_all s s h _ (List.getElem_mem hk)) with ⟨e, _⟩ | ⟨_, _, e, _⟩ | ⟨_, _, _, _, e, _⟩ <;> omega
theorem four_bytes {s : List Blk} (h : formsE s s = 0) {a : Int} (ha : thereB s a = true) (hl : (blk s a).level = 0) : (blk s a).bytes.length = 4 := by
  obtain ⟨k, hk, rfl, hr⟩ := there_in ha
  rw [blk_at s k hk] at hl ⊢
  rw [List.getElem?_eq_getElem hk, Option.getD_some] at hr
  rcases formB_zero s s[k] (formsE_all s s h _ (List.getElem_mem hk)) with ⟨e, _⟩ | ⟨_, _, _, _, e⟩ | ⟨_, _, e, _⟩ <;> omega

theorem root_kid {s : List Blk} (h : formsE s s = 0) {m : Nat} {a : Int} (ha : thereB s a = true) (hl : (blk s a).level = (m : Int) + 1) (q : Nat) (hq : q < (blk s a).kids.length) : RootAt s m (blk s a).kids[q] := by
  rcases (tiers_of s h).kid a ha _ (List.getElem_mem hq) with h0 | ⟨h1, h2⟩
  · exact .inl h0
  · exact .inr ⟨h1, by omega⟩

theorem div_lt4 {i q : Nat} (hq : 0 < q) (h : i < 4 * q) : i / q < 4 := by
  rw [Nat.div_lt_iff_lt_mul hq]; omega

set_option maxRecDepth 100000 in
set_option maxHeartbeats 4000000 in
theorem treeget_any (w : World) (ao : Option Addr) (n cap : Nat) (s : List Blk) (a : Int) (m i : Nat) (hn : s.length = n) (h400 : n ≤ 400) (hs : StoRow w ao s) (hwf : WfS s) (hf : formsE s s = 0) (hm : m ≤ 3) (hr : RootAt s m a) (hi : i < p4n m) :
    Calls Try.prog 107 #[.agg #[.slice ao n cap], .int .i64 a, .int .i64 m, .int .i64 i] w fun e w' => ∃ v, e = .returned v ∧ Sl .u8 w' v (leafB m s a i) ∧ Below w.heap.size w w' := by
  have HN := Lib.hid hn
  have hb0 : Below w.heap.size w (w.alloc (.cells #[.slice ao n cap] 24)) := (Below.refl _ _).alloc (Nat.le_refl _) _
  have q4 : (w.alloc (.cells #[.slice ao n cap] 24)).heap[w.heap.size]? = some (.cells #[.slice ao n cap] 24 (0, 0)) := heap_alloc_new _ _
  clear hn
  go_enter Try.func107, Try.ntmps107
  go_wp2
  have hs := hs.mono hb0
  generalize w.alloc (Obj.cells #[Value.slice ao n cap] 24) = W0 at *
  have c4 := cell_of_one q4
  have l4 := lt_heap q4
  go_loopw [1, 2, 3] (fun u v x wr => ∃ (b : Int) (k j : Nat), u = .int .i64 b ∧ v = .int .i64 k ∧ x = .int .i64 j ∧ k ≤ m ∧ RootAt s k b ∧ j < p4n k ∧ Hid (leafA k s b j = leafA m s a i) ∧ Below W0.heap.size W0 wr) (fun _ v _ _ => (intOf v).toNat)
  case atStart => exact ⟨a, m, i, rfl, rfl, rfl, Nat.le_refl _, hr, hi, Lib.hid rfl, Below.refl _ _⟩
  case round =>
    obtain ⟨b, k, j, rfl, rfl, rfl, hk, hrb, hj, HL, hbel⟩ := hrel
    have hbw := below_step hb0 hbel
    have c4 := (hbel.cell (p := ⟨w.heap.size, 0, none⟩) l4).trans c4
    have l4 := Nat.lt_of_lt_of_le l4 hbel.size
    have hs := hs.mono hbel
    by_cases hb : b = 0
    · subst hb
      have HE := Lib.hid (show leafB m s a i = [] by unfold leafB; rw [if_pos (by rw [← HL.out, leafA_zero])])
      clear hrb HL
      go_wp2
      go_ret
      exact ⟨_, rfl, by rw [HE.out]; exact ⟨none, 0, rfl, .inl rfl, Nat.le_refl _, fun _ => rfl⟩, hbw⟩
    · obtain ⟨hbt, hbl⟩ := hrb.resolve_left hb
      have hb1 : (b != 0) = true := by rw [bne_iff_ne]; exact hb
      have hb2 : (b == 0) = false := by rw [beq_eq_false_iff_ne]; exact hb
      cases k with
      | zero =>
        have hlb : leafA m s a i = b := HL.out.symm
        have HE := Lib.hid (show leafB m s a i = (blk s b).bytes by unfold leafB; rw [hlb, if_neg hb])
        obtain ⟨q, hq, rfl, -⟩ := there_in hbt
        rw [blk_at s q hq] at HE
        have hqn : (q : Int) < n := by have := HN.out; omega
        obtain ⟨sb, so, rfl, hsB⟩ := hs.at q hq
        have hB := hsB q hq
        obtain ⟨v3, x3, hv3⟩ := hB.bytes
        have lB := hB.lt
        obtain ⟨ba, bc, rfl, hbr, hbc⟩ := hv3
        clear hsB hB hlb HL hbt hbl hb
        go_wp2
        go_ret
        exact ⟨_, rfl, by rw [HE.out]; exact ⟨ba, bc, rfl, hbr, hbc⟩, hbw⟩
      | succ k =>
        have hk4 := four_kids hf hbt (by omega)
        have hkid := root_kid hf hbt (m := k) (by omega)
        have hps := p4n_succ k (by omega)
        have hpp := p4n_pos k
        have hd4 : j / p4n k < 4 := div_lt4 hpp (by omega)
        have hmd : j % p4n k < p4n k := Nat.mod_lt _ hpp
        have hla : leafA (k + 1) s b j = leafA k s (((blk s b).kids[j / p4n k]?).getD 0) (j % p4n k) := by
          rw [leafA, if_neg hb]
        rw [List.getElem?_eq_getElem (by omega), Option.getD_some] at hla
        have HK := Lib.hid (hkid (j / p4n k) (by omega))
        have HLA := Lib.hid (hla.symm.trans HL.out)
        have hl1 : lvN ((k : Int) + 1 - 1) = (((p4n k : Nat) : Int), 0) := by
          rw [show (k : Int) + 1 - 1 = k from by omega]
          unfold lvN
          rw [if_neg (by omega), ← p4n_int]; rfl
        have hp64 : p4n k ≤ 64 := by unfold p4n; (repeat' split) <;> omega
        obtain ⟨q, hq, rfl, -⟩ := there_in hbt
        rw [blk_at s q hq] at hk4
        have hqn : (q : Int) < n := by have := HN.out; omega
        obtain ⟨sb, so, rfl, hsB⟩ := hs.at q hq
        have hB := hsB q hq
        obtain ⟨v2, x2, hv2⟩ := hB.kids
        have lB := hB.lt
        obtain ⟨ka, kc, rfl, hkr, hkc⟩ := hv2
        have hdl : j / p4n k < s[q].kids.length := by omega
        obtain ⟨kb, ko, rfl, hkk⟩ := hkr.at _ hdl
        have xk := hkk _ hdl
        have lk := World.block_lt_of_cell? _ _ xk
        have HK2 : Hid (RootAt s k s[q].kids[j / p4n k]) := Lib.hid (by have := HK.out; simp only [blk_at s q hq] at this; exact this)
        have HLA2 : Hid (leafA k s s[q].kids[j / p4n k] (j % p4n k) = leafA m s a i) := Lib.hid (by have := HLA.out; simp only [blk_at s q hq] at this; exact this)
        have hde : (j : Int) / ((p4n k : Nat) : Int) = ((j / p4n k : Nat) : Int) := rfl
        have hme : (j : Int) % ((p4n k : Nat) : Int) = ((j % p4n k : Nat) : Int) := rfl
        have hj64 : j < 256 := by omega
        clear hsB hB hkr hkk HK HLA HL hla hkid hbt hbl hb hrb hkc
        have hl1' : lvN (k : Int) = (((p4n k : Nat) : Int), 0) := by rw [← hl1]; congr 1; omega
        have hdl4 := hd4
        clear hl1 hps hj hd4
        have hk4n : s[q].kids.length = 4 := hk4
        generalize s[q].kids[j / p4n k] = y at *
        have hqd : j / p4n k < 4 := hdl4
        have hb1 : 0 ≤ (j : Int) / ((p4n k : Nat) : Int) := Int.natCast_nonneg (j / p4n k)
        have hb2 : (j : Int) / ((p4n k : Nat) : Int) < 4 := Int.ofNat_lt.2 hqd
        have hb3 : 0 ≤ (j : Int) % ((p4n k : Nat) : Int) := Int.natCast_nonneg (j % p4n k)
        have hb4 : (j : Int) % ((p4n k : Nat) : Int) < 64 := Int.ofNat_lt.2 (Nat.lt_of_lt_of_le hmd hp64)
        have HMM := Lib.hid (show (j : Int) % ((p4n k : Nat) : Int) = ((j % p4n k : Nat) : Int) from rfl)
        have HMD := Lib.hid hmd
        have hq64 : ((p4n k : Nat) : Int) ≤ 64 := Int.ofNat_le.2 hp64
        have hq1 : 0 < ((p4n k : Nat) : Int) := Int.ofNat_lt.2 hpp
        clear hqd hdl hmd hde hme hp64 hpp hk4n
        generalize j % p4n k = mm at HMM HMD HLA2
        generalize hqq : p4n k = qn at *
        replace hqq := Lib.hid hqq
        go_wp2_with fail
        refine (leaves_any _ _).mono ?_
        rw [hl1']
        rintro e w2 ⟨rfl, rfl⟩
        go_wp2_with fail
        go_region
        go_wp2
        go_roundw
        case rel => exact ⟨y, k, mm, rfl, by go_num, by rw [HMM.out], by omega, HK2.out, by rw [hqq.out]; exact HMD.out, HLA2, hbel.drew⟩
        case measure => simp [intOf]

theorem leafB_len {s : List Blk} (hf : formsE s s = 0) : ∀ (m : Nat) (a : Int) (i : Nat), m ≤ 3 → RootAt s m a → i < p4n m → (leafB m s a i).length ≤ 4 ∧ RootAt s 0 (leafA m s a i) := by
  have key : ∀ (m : Nat) (a : Int) (i : Nat), m ≤ 3 → RootAt s m a → i < p4n m → RootAt s 0 (leafA m s a i) := by
    intro m
    induction m with
    | zero => intro a i _ hr _; exact hr
    | succ m ih =>
      intro a i hm hr hi
      unfold leafA
      split
      · exact .inl rfl
      · rename_i h0
        obtain ⟨h1, h2⟩ := hr.resolve_left h0
        have hk4 := four_kids hf h1 (by omega)
        have hps := p4n_succ m (by omega)
        have hpp := p4n_pos m
        have hd4 : i / p4n m < 4 := div_lt4 hpp (by omega)
        rw [List.getElem?_eq_getElem (by rw [hk4]; exact hd4), Option.getD_some]
        exact ih _ _ (by omega) (root_kid hf h1 (by omega) _ _) (Nat.mod_lt _ hpp)
  intro m a i hm hr hi
  have h := key m a i hm hr hi
  refine ⟨?_, h⟩
  unfold leafB
  split
  · simp
  · rename_i h0
    obtain ⟨h1, h2⟩ := h.resolve_left h0
    rw [four_bytes hf h1 (by omega)]; omega

end Go.Proofs.Ytfmgdjgedhnmeaa
