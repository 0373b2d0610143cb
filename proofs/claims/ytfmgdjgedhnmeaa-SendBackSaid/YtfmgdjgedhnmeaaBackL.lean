/- What Apply leaves of what Diff says: change by change, file by file. No program in sight. -/
import Derived.Test.YtfmgdjgedhnmeaaBackM
namespace Go.Proofs.Ytfmgdjgedhnmeaa
open Go.RowKit
set_option linter.unusedVariables false
set_option linter.unusedSimpArgs false

theorem chgsS_cons (key : Int) (p : List Blk × SetV) (c : ChgV) (l : List ChgV) : chgsS key p (c :: l) = if (chgS key p c).2 = 0 then chgsS key (chgS key p c).1 l else chgS key p c := rfl
theorem chgsS_append (key : Int) : ∀ (l m : List ChgV) (p : List Blk × SetV), chgsS key p (l ++ m) = if (chgsS key p l).2 = 0 then chgsS key (chgsS key p l).1 m else chgsS key p l
  | [], m, p => by simp [chgsS]
  | c :: l, m, p => by
    rw [List.cons_append, chgsS_cons, chgsS_cons]
    by_cases e : (chgS key p c).2 = 0
    · simp only [if_pos e]
      exact chgsS_append key l m _
    · simp only [if_neg e]
theorem runsL_mem : ∀ (f : Nat) (l : List Int) (q : Int × Nat), q ∈ runsL f l → q.1 ∈ l ∧ q.2 ≤ l.length
  | 0, l, q, h => by cases h
  | f + 1, [], q, h => by cases h
  | f + 1, x :: l, q, h => by
    unfold runsL at h
    have hl := runC_len l (x + 1)
    rcases List.mem_cons.1 h with rfl | h
    · exact ⟨List.mem_cons_self, by simp only [List.length_cons]; omega⟩
    · obtain ⟨h1, h2⟩ := runsL_mem f _ q h
      exact ⟨List.mem_cons_of_mem _ (List.mem_of_mem_drop h1), by rw [List.length_drop] at h2; simp only [List.length_cons]; omega⟩
theorem diff_in {s : List Blk} {r1 r2 : Int} {z : Nat} {x : Int} (h : x ∈ farD s r1 r2 z) : 0 ≤ x ∧ x * 4 < z := by
  unfold farD at h
  rw [diffF_eq 3 s r1 r2 0 (by omega), List.mem_filter] at h
  obtain ⟨h, h'⟩ := h
  obtain ⟨j, hj, rfl⟩ := List.mem_map.1 h
  simp at h'
  omega
section
variable {s : List Blk} {key : Int} {a : SetV}
/-- one ask alone -/
theorem asks_one (p : List Blk × SetV) (q : AskV) : asksS key p [q] = askS key p q := by
  unfold asksS
  by_cases e : (askS key p q).2 = 0
  · rw [if_pos e]
    unfold asksS
    exact Prod.ext rfl e.symm
  · rw [if_neg e]
theorem asks_two (p : List Blk × SetV) (q r : AskV) : asksS key p [q, r] = if (askS key p q).2 = 0 then askS key (askS key p q).1 r else askS key p q := by
  conv => lhs; unfold asksS
  rw [asks_one]
/-- files go -/
theorem phase_gone (hA : Ahead s key a) : ∀ (l : List ByteArray) (p : List Blk × SetV), Mid s key a p → l.Nodup → (∀ n ∈ l, n ∈ p.2.files.map Ent.nm) →
    (chgsS key p (l.map fun n => ⟨1, n, 0, []⟩)).2 = 0 ∧ Mid s key a (chgsS key p (l.map fun n => ⟨1, n, 0, []⟩)).1 ∧
      (∀ n B, n ∉ l → Cont p.1 key p.2.files n B → Cont (chgsS key p (l.map fun n => ⟨1, n, 0, []⟩)).1.1 key (chgsS key p (l.map fun n => ⟨1, n, 0, []⟩)).1.2.files n B) ∧
      ∀ n, n ∈ (chgsS key p (l.map fun n => ⟨1, n, 0, []⟩)).1.2.files.map Ent.nm ↔ n ∈ p.2.files.map Ent.nm ∧ n ∉ l
  | [], p, h, _, _ => ⟨rfl, h, fun _ _ _ c => c, fun n => ⟨fun c => ⟨c, by simp⟩, fun c => c.1⟩⟩
  | x :: l, p, h, hnd, hm => by
    obtain ⟨hnd1, hnd2⟩ := List.nodup_cons.1 hnd
    have hri := (h.right hA).files.rise
    obtain ⟨g1, g2, g3, g4⟩ := h.remove hA ((place_mem hri).2 (hm x List.mem_cons_self))
    have e0 : chgS key p ⟨1, x, 0, []⟩ = askS key p (askOf 5 x 0 0 []) := by
      unfold chgS chgA
      rw [if_pos (.inl rfl), if_pos rfl]
      exact asks_one p _
    have e1 : chgsS key p ((x :: l).map fun n => ⟨1, n, 0, []⟩) = chgsS key (askS key p (askOf 5 x 0 0 [])).1 (l.map fun n => ⟨1, n, 0, []⟩) := by
      rw [List.map_cons, chgsS_cons, e0, if_pos g1]
    rw [e1]
    obtain ⟨r1, r2, r3, r4⟩ := phase_gone hA l _ g2 hnd2 fun n hn => (g3.names n fun e => hnd1 (e ▸ hn)).2 (hm n (List.mem_cons_of_mem _ hn))
    refine ⟨r1, r2, fun n B hn hC => r3 n B (fun h => hn (List.mem_cons_of_mem _ h)) (g3.other n B (fun e => hn (e ▸ List.mem_cons_self)) hC), fun n => ?_⟩
    rw [r4 n]
    constructor
    · rintro ⟨c1, c2⟩
      have hne : n ≠ x := fun e => g4 (e ▸ c1)
      exact ⟨(g3.names n hne).1 c1, fun h => (List.mem_cons.1 h).elim hne c2⟩
    · rintro ⟨c1, c2⟩
      have hne : n ≠ x := fun e => c2 (e ▸ List.mem_cons_self)
      exact ⟨(g3.names n hne).2 c1, fun h => c2 (List.mem_cons_of_mem _ h)⟩
/-- runs are laid -/
theorem phase_runs (hA : Ahead s key a) (hw : WfS s) {nm : ByteArray} (hn : nameB nm = true) {r2 : Int} {z2 : Nat} (h2 : fileE s key r2 z2 = 0) : ∀ (ps : List (Int × Nat)) (p : List Blk × SetV) (C : List Int), Mid s key a p → (∀ q ∈ ps, 0 ≤ q.1 ∧ q.1 * 4 < z2 ∧ q.2 ≤ 64) →
    Cont p.1 key p.2.files nm C → C.length = z2 →
    (chgsS key p (ps.map fun q => ⟨3, nm, q.1 * 4, (readR s key r2 z2 (q.1 * 4) ((q.2 : Int) * 4)).1⟩)).2 = 8 ∨
    ((chgsS key p (ps.map fun q => ⟨3, nm, q.1 * 4, (readR s key r2 z2 (q.1 * 4) ((q.2 : Int) * 4)).1⟩)).2 = 0 ∧ Mid s key a (chgsS key p (ps.map fun q => ⟨3, nm, q.1 * 4, (readR s key r2 z2 (q.1 * 4) ((q.2 : Int) * 4)).1⟩)).1 ∧
      Cont (chgsS key p (ps.map fun q => ⟨3, nm, q.1 * 4, (readR s key r2 z2 (q.1 * 4) ((q.2 : Int) * 4)).1⟩)).1.1 key (chgsS key p (ps.map fun q => ⟨3, nm, q.1 * 4, (readR s key r2 z2 (q.1 * 4) ((q.2 : Int) * 4)).1⟩)).1.2.files nm (layRuns (fileB s key r2 z2) ps C) ∧
      Left key p (chgsS key p (ps.map fun q => ⟨3, nm, q.1 * 4, (readR s key r2 z2 (q.1 * 4) ((q.2 : Int) * 4)).1⟩)).1 nm)
  | [], p, C, h, _, hC, _ => .inr ⟨rfl, h, hC, Left.refl nm⟩
  | q :: ps, p, C, h, hq, hC, hl => by
    have hz := (fileE_ok h2).2.2.1
    have hb2 := fileB_len h2
    obtain ⟨q1, q2, q3⟩ := hq q List.mem_cons_self
    have hrd : (readR s key r2 z2 (q.1 * 4) ((q.2 : Int) * 4)).1 = ((fileB s key r2 z2).take (q.1 * 4 + (q.2 : Int) * 4).toNat).drop (q.1 * 4).toNat := by
      unfold readR
      rw [if_neg (not_not_intro h2), if_neg (by omega)]
    have hD : (((fileB s key r2 z2).take (q.1 * 4 + (q.2 : Int) * 4).toNat).drop (q.1 * 4).toNat).length = min (q.1 * 4 + (q.2 : Int) * 4).toNat z2 - (q.1 * 4).toNat := by
      rw [List.length_drop, List.length_take, hb2]
    have hby : Byt (((fileB s key r2 z2).take (q.1 * 4 + (q.2 : Int) * 4).toNat).drop (q.1 * 4).toNat) := fun x hx => fileB_byt s key r2 z2 x (List.mem_of_mem_take (List.mem_of_mem_drop hx))
    have hri := (h.right hA).files.rise
    obtain ⟨o1, o2⟩ := old_cont hri hC
    have hov : overR C (q.1 * 4) (((fileB s key r2 z2).take (q.1 * 4 + (q.2 : Int) * 4).toNat).drop (q.1 * 4).toNat) = (overL C (q.1 * 4).toNat (((fileB s key r2 z2).take (q.1 * 4 + (q.2 : Int) * 4).toNat).drop (q.1 * 4).toNat), 0) := by
      unfold overR
      rw [if_neg (by omega), if_neg (by omega)]
    have e0 : chgS key p ⟨3, nm, q.1 * 4, (readR s key r2 z2 (q.1 * 4) ((q.2 : Int) * 4)).1⟩ = askS key p (askOf 3 nm (q.1 * 4) 0 (((fileB s key r2 z2).take (q.1 * 4 + (q.2 : Int) * 4).toNat).drop (q.1 * 4).toNat)) := by
      rw [hrd]
      unfold chgS chgA
      rw [if_pos (.inr (.inr rfl)), if_neg (by simp), if_neg (by simp)]
      exact asks_one p _
    have hw1 := h.write hA (q := askOf 3 nm (q.1 * 4) 0 (((fileB s key r2 z2).take (q.1 * 4 + (q.2 : Int) * 4).toNat).drop (q.1 * 4).toNat)) (.inl rfl) hby hn (fun e => absurd e (by simp [askOf])) (fun _ => by
      show (overR (fileB p.1 key (oldF p.2.files nm).1 (oldF p.2.files nm).2) _ _).2 = 0
      rw [o2]
      exact congrArg Prod.snd hov) (.inl o1)
    rw [List.map_cons, chgsS_cons, e0]
    rcases hw1 with e | ⟨e, g1, g2, g3⟩
    · left
      rw [if_neg (by rw [e]; decide)]
      exact e
    · rw [if_pos e]
      have hnc : newC p.1 key p.2.files (askOf 3 nm (q.1 * 4) 0 (((fileB s key r2 z2).take (q.1 * 4 + (q.2 : Int) * 4).toNat).drop (q.1 * 4).toNat)) = overL C (q.1 * 4).toNat (((fileB s key r2 z2).take (q.1 * 4 + (q.2 : Int) * 4).toNat).drop (q.1 * 4).toNat) := by
        unfold newC
        rw [if_neg (by simp [askOf])]
        show (overR (fileB p.1 key (oldF p.2.files nm).1 (oldF p.2.files nm).2) _ _).1 = _
        rw [o2]
        exact congrArg Prod.fst hov
      rw [hnc] at g2
      have hk : (q.1 * 4).toNat + (((fileB s key r2 z2).take (q.1 * 4 + (q.2 : Int) * 4).toNat).drop (q.1 * 4).toNat).length ≤ C.length := by rw [hD, hl]; omega
      have ih := phase_runs hA hw hn h2 ps _ _ g1 (fun q hq' => hq q (List.mem_cons_of_mem _ hq')) g2 (by rw [overL_same hk, hl])
      rcases ih with ih | ⟨i1, i2, i3, i4⟩
      · exact .inl ih
      · exact .inr ⟨i1, i2, i3, g3.trans i4⟩
theorem cutL_self {B : List Int} {z : Nat} (h : B.length = z) : cutL B z = B := by
  unfold cutL
  rw [List.take_of_length_le (by omega), h, Nat.sub_self]
  simp [zeros]
theorem over_none (B : List Int) : overR B 0 [] = (B, 0) := by
  unfold overR overL
  simp
/-- a file comes to be the other's -/
theorem each_step (hA : Ahead s key a) (hw : WfS s) {b : SetV} (hb : RightX s key b) {y : Ent} (hy : y ∈ b.files) {p : List Blk × SetV} (h : Mid s key a p) (hpre : placeB (a.files.map Ent.nm) y.nm = true → Cont p.1 key p.2.files y.nm (fileB s key (oldE a y.nm).1 (oldE a y.nm).2))
    (hno : placeB (a.files.map Ent.nm) y.nm = false → y.nm ∉ p.2.files.map Ent.nm ∧ p.2.files.length < 6) :
    (chgsS key p (eachC s key a y)).2 = 8 ∨ ((chgsS key p (eachC s key a y)).2 = 0 ∧ Mid s key a (chgsS key p (eachC s key a y)).1 ∧ Cont (chgsS key p (eachC s key a y)).1.1 key (chgsS key p (eachC s key a y)).1.2.files y.nm (fileB s key y.root y.size) ∧ Left key p (chgsS key p (eachC s key a y)).1 y.nm) := by
  obtain ⟨hn, hf2⟩ := hb.files.each y hy
  obtain ⟨-, hz0, hz2, -, -⟩ := fileE_ok hf2
  obtain ⟨z2, e2⟩ : ∃ z2 : Nat, y.size = z2 := ⟨y.size.toNat, by omega⟩
  have hold : ∃ z1 : Nat, (oldE a y.nm).2 = z1 ∧ fileE s key (oldE a y.nm).1 z1 = 0 := by
    unfold oldE
    by_cases hp : placeB (a.files.map Ent.nm) y.nm = true
    · rw [if_pos hp]
      obtain ⟨-, h1, -⟩ := placeB_lt hp
      rw [List.length_map] at h1
      have e : entAt a.files (placeN (a.files.map Ent.nm) y.nm) = a.files[placeN (a.files.map Ent.nm) y.nm] := by unfold entAt; rw [List.getElem?_eq_getElem h1]; rfl
      rw [e]
      have h3 := (hA.right.files.each _ (List.getElem_mem h1)).2
      have h4 := (fileE_ok h3).2.1
      refine ⟨(a.files[placeN (a.files.map Ent.nm) y.nm]).size.toNat, by simp only; omega, ?_⟩
      rw [show (((a.files[placeN (a.files.map Ent.nm) y.nm]).size.toNat : Nat) : Int) = (a.files[placeN (a.files.map Ent.nm) y.nm]).size from by omega]
      exact h3
    · rw [if_neg hp]
      exact ⟨0, rfl, (file_empty hA.right.chk hA.right.kok).1⟩
  obtain ⟨z1, e1, hf1⟩ := hold
  have hemp : placeB (a.files.map Ent.nm) y.nm = false → fileB s key (oldE a y.nm).1 (z1 : Int) = [] := fun hp => by
    have hz : z1 = 0 := by
      have : (oldE a y.nm).2 = 0 := by unfold oldE; rw [if_neg (by rw [hp]; simp)]
      omega
    have hr : (oldE a y.nm).1 = 0 := by unfold oldE; rw [if_neg (by rw [hp]; simp)]
    rw [hz, hr]
    exact (file_empty hA.right.chk hA.right.kok).2
  rw [e1] at hpre
  rw [e2] at hf2
  have lb1 := fileB_len hf1
  unfold eachC
  rw [chgsS_append, e1, e2]
  have hsz : ∀ S : List ChgV, S = (if placeB (a.files.map Ent.nm) y.nm = false ∨ (z1 : Int) ≠ z2 then [⟨2, y.nm, (z2 : Int), []⟩] else []) → (chgsS key p S).2 = 8 ∨ ((chgsS key p S).2 = 0 ∧ Mid s key a (chgsS key p S).1 ∧ Cont (chgsS key p S).1.1 key (chgsS key p S).1.2.files y.nm (cutL (fileB s key (oldE a y.nm).1 z1) z2) ∧ Left key p (chgsS key p S).1 y.nm) := by
    intro S hS
    by_cases hcond : placeB (a.files.map Ent.nm) y.nm = false ∨ (z1 : Int) ≠ z2
    · rw [if_pos hcond] at hS
      subst hS
      have e0 : chgsS key p [⟨2, y.nm, (z2 : Int), []⟩] = asksS key p [askOf 3 y.nm 0 0 [], askOf 4 y.nm 0 z2 []] := by
        have e00 : chgS key p ⟨2, y.nm, (z2 : Int), []⟩ = asksS key p [askOf 3 y.nm 0 0 [], askOf 4 y.nm 0 z2 []] := by
          unfold chgS chgA
          simp
        rw [chgsS_cons, e00]
        by_cases e : (asksS key p [askOf 3 y.nm 0 0 [], askOf 4 y.nm 0 z2 []]).2 = 0
        · rw [if_pos e]
          exact Prod.ext rfl e.symm
        · rw [if_neg e]
      rw [e0, asks_two]
      have hri := (h.right hA).files.rise
      have hob : fileB p.1 key (oldF p.2.files y.nm).1 (oldF p.2.files y.nm).2 = fileB s key (oldE a y.nm).1 z1 ∧ (placeB (p.2.files.map Ent.nm) y.nm = true ∨ p.2.files.length < 6) := by
        cases hp : placeB (a.files.map Ent.nm) y.nm with
        | true =>
          obtain ⟨o1, o2⟩ := old_cont hri (hpre hp)
          exact ⟨o2, .inl o1⟩
        | false =>
          obtain ⟨n1, n2⟩ := hno hp
          rw [hemp hp]
          exact ⟨old_none (h.right hA).chk (h.right hA).kok ((place_not hri).2 n1), .inr n2⟩
      have w1 := h.write hA (q := askOf 3 y.nm 0 0 []) (.inl rfl) (fun x hx => by cases hx) hn (fun e => absurd e (by simp [askOf])) (fun _ => congrArg Prod.snd (over_none _)) hob.2
      rcases w1 with e | ⟨e, g1, g2, g3⟩
      · rw [if_neg (by rw [e]; decide)]
        exact .inl e
      rw [if_pos e]
      have hn1 : newC p.1 key p.2.files (askOf 3 y.nm 0 0 []) = fileB s key (oldE a y.nm).1 z1 := by
        unfold newC
        rw [if_neg (by simp [askOf])]
        exact (congrArg Prod.fst (over_none _)).trans hob.1
      rw [hn1] at g2
      have g2 : Cont (askS key p (askOf 3 y.nm 0 0 [])).1.1 key (askS key p (askOf 3 y.nm 0 0 [])).1.2.files y.nm (fileB s key (oldE a y.nm).1 z1) := g2
      obtain ⟨o1, o2⟩ := old_cont (g1.right hA).files.rise g2
      have w2 := g1.write hA (q := askOf 4 y.nm 0 z2 []) (.inr rfl) (fun x hx => by cases hx) hn (fun _ => ⟨o1, by show (0 : Int) ≤ z2; omega, by show (z2 : Int) ≤ 256; omega⟩) (fun e => absurd rfl e) (.inl o1)
      rcases w2 with e' | ⟨e', k1, k2, k3⟩
      · exact .inl e'
      · have hn2 : newC (askS key p (askOf 3 y.nm 0 0 [])).1.1 key (askS key p (askOf 3 y.nm 0 0 [])).1.2.files (askOf 4 y.nm 0 z2 []) = cutL (fileB s key (oldE a y.nm).1 z1) z2 := by
          unfold newC
          rw [if_pos (show (askOf 4 y.nm 0 z2 []).kind = 4 from rfl)]
          show cutL (fileB _ key (oldF _ y.nm).1 (oldF _ y.nm).2) (z2 : Int).toNat = _
          rw [o2, Int.toNat_natCast]
        rw [hn2] at k2
        exact .inr ⟨e', k1, k2, Left.trans g3 k3⟩
    · rw [if_neg hcond] at hS
      subst hS
      have hp : placeB (a.files.map Ent.nm) y.nm = true := by
        cases hp : placeB (a.files.map Ent.nm) y.nm with
        | true => rfl
        | false => exact absurd (.inl hp) hcond
      have hzz : z1 = z2 := by omega
      rw [cutL_self (by rw [lb1, hzz])]
      exact .inr ⟨rfl, h, hpre hp, Left.refl _⟩
  rcases hsz _ rfl with e | ⟨e, g1, g2, g3⟩
  · rw [if_neg (by rw [e]; decide)]
    exact .inl e
  rw [if_pos e]
  have hrun := phase_runs hA hw hn hf2 (runsL 64 (farD s (oldE a y.nm).1 y.root z2)) _ _ g1 (fun q hq => by
    obtain ⟨m1, m2⟩ := runsL_mem 64 _ q hq
    have m3 := diff_in m1
    have m4 : (farD s (oldE a y.nm).1 y.root z2).length ≤ 64 := Nat.le_trans (List.length_filter_le _ _) (diffF_len 3 (by omega) s _ _ 0)
    exact ⟨m3.1, m3.2, by omega⟩) g2 (cutL_len _ _)
  rcases hrun with r | ⟨r1, r2, r3, r4⟩
  · exact .inl r
  · rw [runs_make hw hf1 hf2] at r3
    exact .inr ⟨r1, r2, r3, g3.trans r4⟩
/-- all files come to be the other's -/
theorem phase_each (hA : Ahead s key a) (hw : WfS s) {b : SetV} (hb : RightX s key b) : ∀ (l : List Ent) (p : List Blk × SetV), Mid s key a p → (∀ y ∈ l, y ∈ b.files) → (l.map Ent.nm).Nodup →
    (∀ y ∈ l, placeB (a.files.map Ent.nm) y.nm = true → Cont p.1 key p.2.files y.nm (fileB s key (oldE a y.nm).1 (oldE a y.nm).2)) → (∀ y ∈ l, placeB (a.files.map Ent.nm) y.nm = false → y.nm ∉ p.2.files.map Ent.nm) → (∀ n ∈ p.2.files.map Ent.nm, n ∈ b.files.map Ent.nm) →
    (chgsS key p (l.flatMap (eachC s key a))).2 = 8 ∨ ((chgsS key p (l.flatMap (eachC s key a))).2 = 0 ∧ Mid s key a (chgsS key p (l.flatMap (eachC s key a))).1 ∧
      (∀ y ∈ l, Cont (chgsS key p (l.flatMap (eachC s key a))).1.1 key (chgsS key p (l.flatMap (eachC s key a))).1.2.files y.nm (fileB s key y.root y.size)) ∧
      (∀ n B, n ∉ l.map Ent.nm → Cont p.1 key p.2.files n B → Cont (chgsS key p (l.flatMap (eachC s key a))).1.1 key (chgsS key p (l.flatMap (eachC s key a))).1.2.files n B) ∧
      ∀ n ∈ (chgsS key p (l.flatMap (eachC s key a))).1.2.files.map Ent.nm, n ∈ b.files.map Ent.nm)
  | [], p, h, _, _, _, _, hs => .inr ⟨rfl, h, fun y hy => (by cases hy), fun _ _ _ c => c, hs⟩
  | y :: l, p, h, hm, hnd, hpre, hno, hs => by
    rw [List.map_cons] at hnd
    obtain ⟨nd1, nd2⟩ := List.nodup_cons.1 hnd
    have hri := (h.right hA).files.rise
    have hrn : (p.2.files.map Ent.nm).Nodup := hri.imp fun {a b} hab e => by subst e; exact ltN_irrefl _ hab
    have hyb := hm y List.mem_cons_self
    rw [List.flatMap_cons, chgsS_append]
    rcases each_step hA hw hb hyb h (hpre y List.mem_cons_self) (fun hp => by
      have h1 := hno y List.mem_cons_self hp
      refine ⟨h1, ?_⟩
      have h2 := nodup_sub (y.nm :: p.2.files.map Ent.nm) (b.files.map Ent.nm) (List.nodup_cons.2 ⟨h1, hrn⟩) fun n hn => by
        rcases List.mem_cons.1 hn with rfl | hn
        · exact List.mem_map.2 ⟨y, hyb, rfl⟩
        · exact hs n hn
      have h3 := hb.files.len
      simp only [List.length_cons, List.length_map] at h2
      omega) with e | ⟨e, g1, g2, g3⟩
    · rw [if_neg (by rw [e]; decide)]
      exact .inl e
    rw [if_pos e]
    have hne : ∀ z ∈ l, z.nm ≠ y.nm := fun z hz e2 => nd1 (e2 ▸ List.mem_map.2 ⟨z, hz, rfl⟩)
    rcases phase_each hA hw hb l _ g1 (fun z hz => hm z (List.mem_cons_of_mem _ hz)) nd2 (fun z hz hp => g3.other _ _ (hne z hz) (hpre z (List.mem_cons_of_mem _ hz) hp)) (fun z hz hp hc => hno z (List.mem_cons_of_mem _ hz) hp ((g3.names _ (hne z hz)).1 hc)) (fun n hn => by
      by_cases e2 : n = y.nm
      · rw [e2]
        exact List.mem_map.2 ⟨y, hyb, rfl⟩
      · exact hs n ((g3.names n e2).1 hn)) with r | ⟨r1, r2, r3, r4, r5⟩
    · exact .inl r
    · refine .inr ⟨r1, r2, fun z hz => ?_, fun n B hn hC => ?_, r5⟩
      · rcases List.mem_cons.1 hz with rfl | hz
        · exact r4 _ _ nd1 g2
        · exact r3 z hz
      · rw [List.map_cons] at hn
        exact r4 n B (fun h => hn (List.mem_cons_of_mem _ h)) (g3.other n B (fun e2 => hn (e2 ▸ List.mem_cons_self)) hC)
/-- who applies what is said has the other one's files -/
theorem back_law (hw : WfS s) (hf : ∀ y ∈ s, y.refs ≤ 999000) (ha : RightX s key a) (hh : heldE s a = 0) {b : SetV} (hb : RightX s key b) :
    (chgsS key (s, a) (goneC a b ++ b.files.flatMap (eachC s key a))).2 = 8 ∨ ((chgsS key (s, a) (goneC a b ++ b.files.flatMap (eachC s key a))).2 = 0 ∧ RightX (chgsS key (s, a) (goneC a b ++ b.files.flatMap (eachC s key a))).1.1 key (chgsS key (s, a) (goneC a b ++ b.files.flatMap (eachC s key a))).1.2 ∧
      WfS (chgsS key (s, a) (goneC a b ++ b.files.flatMap (eachC s key a))).1.1 ∧ (chgsS key (s, a) (goneC a b ++ b.files.flatMap (eachC s key a))).1.2.files.length = b.files.length ∧
      ∀ k (h1 : k < (chgsS key (s, a) (goneC a b ++ b.files.flatMap (eachC s key a))).1.2.files.length) (h2 : k < b.files.length), (chgsS key (s, a) (goneC a b ++ b.files.flatMap (eachC s key a))).1.2.files[k].nm = b.files[k].nm ∧
        (chgsS key (s, a) (goneC a b ++ b.files.flatMap (eachC s key a))).1.2.files[k].size = b.files[k].size ∧
        fileB (chgsS key (s, a) (goneC a b ++ b.files.flatMap (eachC s key a))).1.1 key (chgsS key (s, a) (goneC a b ++ b.files.flatMap (eachC s key a))).1.2.files[k].root b.files[k].size = fileB s key b.files[k].root b.files[k].size) := by
  obtain ⟨hA, hM⟩ := ahead_of hw hf ha hh
  have hra : (a.files.map Ent.nm).Nodup := ha.files.rise.imp fun {a b} hab e => by subst e; exact ltN_irrefl _ hab
  have hrb : (b.files.map Ent.nm).Nodup := hb.files.rise.imp fun {a b} hab e => by subst e; exact ltN_irrefl _ hab
  rw [chgsS_append]
  have eg : goneC a b = ((a.files.map Ent.nm).filter fun n => !placeB (b.files.map Ent.nm) n).map fun n => ⟨1, n, 0, []⟩ := by
    unfold goneC
    rw [List.filter_map, List.map_map]
    rfl
  obtain ⟨g1, g2, g3, g4⟩ := phase_gone hA ((a.files.map Ent.nm).filter fun n => !placeB (b.files.map Ent.nm) n) (s, a) hM (List.Pairwise.filter _ hra) fun n hn => (List.mem_filter.1 hn).1
  rw [← eg] at g1 g2 g3 g4
  rw [if_pos g1]
  have hnot : ∀ n, n ∈ ((a.files.map Ent.nm).filter fun n => !placeB (b.files.map Ent.nm) n) ↔ n ∈ a.files.map Ent.nm ∧ n ∉ b.files.map Ent.nm := fun n => by
    rw [List.mem_filter]
    constructor
    · rintro ⟨c1, c2⟩
      exact ⟨c1, (place_not hb.files.rise).1 (by simpa using c2)⟩
    · rintro ⟨c1, c2⟩
      exact ⟨c1, by rw [(place_not hb.files.rise).2 c2]; rfl⟩
  have hcont : ∀ y : Ent, placeB (a.files.map Ent.nm) y.nm = true → Cont s key a.files y.nm (fileB s key (oldE a y.nm).1 (oldE a y.nm).2) := fun y hp => by
    unfold oldE
    rw [if_pos hp]
    obtain ⟨-, h1, h2⟩ := placeB_lt hp
    rw [List.length_map] at h1
    rw [List.getElem_map] at h2
    have e : entAt a.files (placeN (a.files.map Ent.nm) y.nm) = a.files[placeN (a.files.map Ent.nm) y.nm] := by unfold entAt; rw [List.getElem?_eq_getElem h1]; rfl
    rw [e]
    have hf1 := (ha.files.each _ (List.getElem_mem h1)).2
    have hz := (fileE_ok hf1).2.1
    refine ⟨_, List.getElem_mem h1, h2, ?_, rfl⟩
    have := fileB_len (show fileE s key (a.files[placeN (a.files.map Ent.nm) y.nm]).root (((a.files[placeN (a.files.map Ent.nm) y.nm]).size.toNat : Nat) : Int) = 0 by rw [show (((a.files[placeN (a.files.map Ent.nm) y.nm]).size.toNat : Nat) : Int) = (a.files[placeN (a.files.map Ent.nm) y.nm]).size from by omega]; exact hf1)
    rw [show (((a.files[placeN (a.files.map Ent.nm) y.nm]).size.toNat : Nat) : Int) = (a.files[placeN (a.files.map Ent.nm) y.nm]).size from by omega] at this
    simp only
    omega
  rcases phase_each hA hw hb b.files _ g2 (fun y hy => hy) hrb (fun y hy hp => g3 _ _ (fun h => ((hnot _).1 h).2 (List.mem_map.2 ⟨y, hy, rfl⟩)) (hcont y hp)) (fun y hy hp hc => (place_not ha.files.rise).1 hp ((g4 _).1 hc).1) (fun n hn => by
    obtain ⟨c1, c2⟩ := (g4 n).1 hn
    exact Classical.byContradiction fun c => c2 ((hnot n).2 ⟨c1, c⟩)) with r | ⟨r1, r2, r3, r4, r5⟩
  · exact .inl r
  · have hR := r2.right hA
    generalize chgsS key (chgsS key (s, a) (goneC a b)).1 (b.files.flatMap (eachC s key a)) = r at *
    have hn : r.1.2.files.map Ent.nm = b.files.map Ent.nm := rising_same _ _ hR.files.rise hb.files.rise r5 fun n hn => by
      obtain ⟨y, hy, rfl⟩ := List.mem_map.1 hn
      obtain ⟨e, he, h1, -⟩ := r3 y hy
      exact List.mem_map.2 ⟨e, he, h1⟩
    have hl : r.1.2.files.length = b.files.length := by have := congrArg List.length hn; simpa using this
    refine .inr ⟨r1, hR, r2.hold.hold.good.wf, hl, fun k h1 h2 => ?_⟩
    have hnk : r.1.2.files[k].nm = b.files[k].nm := by
      have h3 : (r.1.2.files.map Ent.nm)[k]'(by rwa [List.length_map]) = (b.files.map Ent.nm)[k]'(by rwa [List.length_map]) := by simp only [hn]
      simpa using h3
    obtain ⟨e, he, e1, e2, e3⟩ := r3 _ (List.getElem_mem h2)
    have e4 := one_ent hR.files.rise he (List.getElem_mem h1) (e1.trans hnk.symm)
    subst e4
    have hf2 := (hb.files.each _ (List.getElem_mem h2)).2
    have hz := (fileE_ok hf2).2.1
    have hsz : r.1.2.files[k].size = b.files[k].size := by
      rw [e2]
      have := fileB_len (show fileE s key b.files[k].root ((b.files[k].size.toNat : Nat) : Int) = 0 by rw [show ((b.files[k].size.toNat : Nat) : Int) = b.files[k].size from by omega]; exact hf2)
      rw [show ((b.files[k].size.toNat : Nat) : Int) = b.files[k].size from by omega] at this
      omega
    refine ⟨hnk, hsz, ?_⟩
    rw [hsz] at e3
    exact e3
end
end Go.Proofs.Ytfmgdjgedhnmeaa
