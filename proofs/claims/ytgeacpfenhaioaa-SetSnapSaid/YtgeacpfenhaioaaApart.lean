/- A set of one's own, its snap, and whatever is done. No program in sight. · rookeryref.SameAnswer: are two answers the same? · SetApart: a clone has what the snap has; whatever is done to it, the set reads as ahead; destroyed, it never was there. · Asks that came in, opened. · SetSnap: a snap never changes, whatever is done but to forget it; who goes back to it has what was; destroyed, nothing is there that was not. -/
import Derived.Test.YtgeacpfenhaioaaHold
import Derived.Test.YtgeacpfenhaioaaGather
import Derived.Test.YtgeacpfenhaioaaOpenX
namespace Go.Proofs.Ytgeacpfenhaioaa
open Go.RowKit
set_option linter.unusedVariables false

/-- nothing new -/
def Fr (u m : List Blk) : Prop := u.length = m.length ∧ ∀ a, thereB u a = true → thereB m a = true ∧ (blk u a).level = (blk m a).level ∧ (blk u a).kids = (blk m a).kids
theorem Fr.refl (m : List Blk) : Fr m m := ⟨rfl, fun a h => ⟨h, rfl, rfl⟩⟩
theorem Fr.trans {u v m : List Blk} (h : Fr u v) (k : Fr v m) : Fr u m := ⟨h.1.trans k.1, fun a ha => by
  obtain ⟨h1, h2, h3⟩ := h.2 a ha
  obtain ⟨k1, k2, k3⟩ := k.2 a h1
  exact ⟨k1, h2.trans k2, h3.trans k3⟩⟩
theorem fr_of {u m : List Blk} (hl : u.length = m.length) (h : ∀ j (hj : j < u.length) (hj' : j < m.length), 0 < u[j].refs → 0 < m[j].refs ∧ u[j].level = m[j].level ∧ u[j].kids = m[j].kids) : Fr u m := ⟨hl, fun a ha => by
  obtain ⟨j, hj, rfl, -⟩ := there_in ha
  have hr := (there_ref ha).2.2
  rw [blk_at u j hj] at hr ⊢
  obtain ⟨h1, h2, h3⟩ := h j hj (by omega) hr
  rw [blk_at m j (by omega), there_at m j (by omega)]
  exact ⟨by simpa using h1, h2, h3⟩⟩
theorem fr_add {s : List Blk} {a d : Int} (h : 0 < (blk s a).refs) : Fr (addRef s a d) s := by
  have hk : (a - 1).toNat < s.length := by
    apply Classical.byContradiction
    intro g
    unfold blk at h
    rw [List.getElem?_eq_none (by omega)] at h
    simp [noBlk] at h
  have hb : blk s a = s[(a - 1).toNat] := by unfold blk; rw [List.getElem?_eq_getElem hk]; rfl
  rw [hb] at h
  unfold addRef
  rw [hb]
  refine fr_of (by simp) fun j hj hj' hr => ?_
  rw [List.getElem_set] at hr ⊢
  split
  · rename_i e
    subst e
    exact ⟨h, rfl, rfl⟩
  · rename_i e
    rw [if_neg e] at hr
    exact ⟨hr, rfl, rfl⟩
theorem fr_none (s : List Blk) (k : Nat) : Fr (s.set k noBlk) s := by
  refine fr_of (by simp) fun j hj hj' hr => ?_
  rw [List.getElem_set] at hr ⊢
  split
  · rename_i e
    rw [if_pos e] at hr
    simp [noBlk] at hr
  · rename_i e
    rw [if_neg e] at hr
    exact ⟨hr, rfl, rfl⟩
theorem fr_loose (f : Nat) : ∀ (s : List Blk) (a : Int), Fr (looseF f s a) s := by
  induction f with
  | zero => intro s a; exact Fr.refl s
  | succ f ih =>
    intro s a
    unfold looseF
    split
    · exact Fr.refl s
    · rename_i h0
      split
      · exact fr_add (by omega)
      · have hf : ∀ (ks : List Int) (t : List Blk), Fr (ks.foldl (looseF f) t) t := by
          intro ks
          induction ks with
          | nil => intro t; exact Fr.refl t
          | cons k ks hi => intro t; exact (hi _).trans (ih t k)
        exact (hf _ _).trans (fr_none s _)

/-- a block of level one that is new has a kid that is none or new -/
def NewKid (m t : List Blk) : Prop := ∀ a, thereB t a = true → (blk t a).level = 1 → thereB m a = true ∨ ∃ v ∈ (blk t a).kids, thereB m v = false
theorem NewKid.refl (m : List Blk) : NewKid m m := fun a h _ => .inl h
theorem NewKid.fr {m t u : List Blk} (h : NewKid m t) (hf : Fr u t) : NewKid m u := fun a ha hl => by
  obtain ⟨h1, h2, h3⟩ := hf.2 a ha
  rcases h a h1 (by rw [← h2]; exact hl) with k | ⟨v, hv, k⟩
  · exact .inl k
  · exact .inr ⟨v, by rw [h3]; exact hv, k⟩
theorem NewKid.put {m t : List Blk} (h : NewKid m t) {l : Int} {ks bs : List Int} {f : Nat} (hp : PutG t l ks bs f) (hl : l = 1 → ∃ v ∈ ks, thereB m v = false) : NewKid m (putM t l ks bs f) := fun a ha hla => by
  obtain ⟨j, hj, rfl, -⟩ := there_in ha
  have hjt : j < t.length := by rw [putM_length] at hj; exact hj
  have hr := (there_ref ha).2.2
  rw [blk_at _ j hj, hp.get j hjt hj] at hr hla ⊢
  by_cases e : j = f
  · rw [if_pos e] at hr hla ⊢
    obtain ⟨v, hv, k⟩ := hl hla
    exact .inr ⟨v, hv, k⟩
  · rw [if_neg e] at hr hla ⊢
    simp only at hr hla ⊢
    have hpos : 0 < t[j].refs := by
      apply Classical.byContradiction
      intro g
      rw [hp.none j hjt (by omega)] at hr
      simp at hr
      omega
    have h1 := h ((j : Int) + 1) (by rw [there_at t j hjt]; simpa using hpos) (by rw [blk_at t j hjt]; exact hla)
    rw [blk_at t j hjt] at h1
    exact h1

/-- Set's new blocks -/
theorem set_newKid {m0 : List Blk} : ∀ (m : Nat) (s : List Blk) (root : Int) (i : Nat) (b : List Int) (M : Int), m ≤ 3 → Good s M → 1 ≤ M → M + 4 * m ≤ 800000000 → RootAt s m root → i < p4n m → Byt b → b.length ≤ 4 → (setF m s root i b).2.2 = 0 →
    Keeps m0 s → NewKid m0 s → NewKid m0 (setF m s root i b).1 ∧ (m = 0 → thereB m0 (setF m s root i b).2.1 = false) := by
  intro m
  induction m with
  | zero =>
    intro s root i b M _ hg hM hM2 _ _ hb hb4 he hk hn
    unfold setF at he ⊢
    have hz : thereB m0 0 = false := by unfold thereB; simp
    split
    · exact ⟨hn, fun _ => hz⟩
    · rename_i hne
      rw [if_neg hne] at he
      obtain ⟨hp, e⟩ := put_well hg he
      rw [e]
      refine ⟨hn.put hp (fun h => by omega), fun _ => ?_⟩
      simp only
      cases ht : thereB m0 ((freeIx s : Int) + 1) with
      | false => rfl
      | true =>
        have h1 := (hk _ ht).1
        rw [there_at s _ hp.lt, hp.free] at h1
        simp [noBlk] at h1
  | succ m ih =>
    intro s root i b M hm hg hM hM2 hr hi hb hb4 he hk hn
    obtain ⟨h4, hkr⟩ := kids0_ok hg hr
    have hps := p4n_succ m (by omega)
    have hpp := p4n_pos m
    have hd4 : i / p4n m < 4 := div_lt4 hpp (by omega)
    have hge : (kids0 s root)[i / p4n m]?.getD 0 = (kids0 s root)[i / p4n m]'(by omega) := by rw [List.getElem?_eq_getElem (by omega)]; rfl
    refine ⟨?_, fun h => by omega⟩
    unfold setF at he ⊢
    split
    · rename_i h; rw [if_pos h] at he; exact absurd he h
    · rename_i h
      rw [if_neg h] at he
      have h0 : (setF m s ((kids0 s root)[i / p4n m]?.getD 0) (i % p4n m) b).2.2 = 0 := by simpa using h
      have hkr' : RootAt s m ((kids0 s root)[i / p4n m]?.getD 0) := by rw [hge]; exact hkr _ (List.getElem_mem _)
      obtain ⟨g1, g2, g3⟩ := set_good m s _ (i % p4n m) b M (by omega) hg hM (by omega) hkr' (Nat.mod_lt _ hpp) hb hb4 h0
      obtain ⟨k1, k2⟩ := ih s _ (i % p4n m) b M (by omega) hg hM (by omega) hkr' (Nat.mod_lt _ hpp) hb hb4 h0 hk hn
      generalize setF m s ((kids0 s root)[i / p4n m]?.getD 0) (i % p4n m) b = r at *
      split
      · exact k1
      · rename_i hz
        rw [if_neg hz] at he
        have hk1 : r.2.1 ∈ (kids0 s root).set (i / p4n m) r.2.1 := List.mem_set (by omega) _
        obtain ⟨hp, e⟩ := put_well g1 he
        rw [e]
        exact (k1.put hp (fun h => ⟨r.2.1, hk1, k2 (by omega)⟩)).fr (fr_loose 4 _ _)

theorem few_newKid {O : Nat → Bool} {c m t : List Blk} {s : List Blk} {M : Int} (hO : OldIn s c m O) (hk : Keeps m t) (hn : NewKid m t) (hg : Good t M) (hF : FewC O m 3) (hl : t.length = m.length) : FewC O t 3 := fun i hi q hq => by
  obtain ⟨h1, h2, h3, h4⟩ := newL_mem.1 hi
  have ht : thereB t ((i : Int) + 1) = true := atB_live h1 h2
  have hbt : blk t ((i : Int) + 1) = atB t i := by unfold atB; rfl
  rcases hn _ ht (by rw [hbt]; exact h4) with k | ⟨v, hv, k⟩
  · obtain ⟨k1, k2, k3, -, -⟩ := hk _ k
    have hbm : blk m ((i : Int) + 1) = atB m i := by unfold atB; rfl
    rw [hbt, hbm] at k2 k3
    have hpos : 0 < (atB m i).refs := by have := (there_ref k).2.2; rw [hbm] at this; exact this
    rw [k3]
    exact hF i (newL_mem.2 ⟨by omega, hpos, h3, by omega⟩) q hq
  · rw [hbt] at hv
    have h5 := hg.kids4 h1
    have hne : v ≠ (q : Int) + 1 := fun e => by
      obtain ⟨o1, o2, -⟩ := hO.live q hq
      have := atB_live o1 o2
      rw [← e, k] at this
      cases this
    obtain ⟨a, b, e⟩ := List.append_of_mem hv
    rw [e] at h5 ⊢
    rw [List.count_append, List.count_cons_of_ne hne]
    have c1 := List.count_le_length (a := (q : Int) + 1) (l := a)
    have c2 := List.count_le_length (a := (q : Int) + 1) (l := b)
    simp only [List.length_append, List.length_cons] at h5
    omega

/-- Turn's new blocks -/
theorem turnTo_newKid {s : List Blk} (hc : checkE s = 0) (hw : WfS s) {root : Int} (hr : RootAt s 3 root) {key : Int} {was now : List Int} (hnow : now.length = 256) (hby : Byt now) : ∀ k, k ≤ 64 → (turnTo key was now (startR s root) k).2.2 = 0 → NewKid s (turnTo key was now (startR s root) k).1 := by
  intro k
  induction k with
  | zero =>
    intro _ _
    show NewKid s (if root = 0 then s else addRef s root 1)
    split
    · exact NewKid.refl s
    · rename_i h0
      refine (NewKid.refl s).fr (fr_add ?_)
      exact ((root_live hr).resolve_left h0).2.2
  | succ k ih =>
    intro hk he
    have e0 : (turnTo key was now (startR s root) k).2.2 = 0 := by
      apply Classical.byContradiction
      intro g
      rw [turnTo_bad g (k + 1) (by omega)] at he
      exact g he
    have h1 := ih (by omega) e0
    have hT := turned_all hc hw hr (M0 := 1000000) (fun x hx => ((checkE_zero s hc).2.2.2.1 x hx).2) (by omega) (by omega) hnow hby k (by omega) e0
    change (turnOne key was now k (turnTo key was now (startR s root) k)).2.2 = 0 at he
    show NewKid s (turnOne key was now k (turnTo key was now (startR s root) k)).1
    generalize turnTo key was now (startR s root) k = r at *
    unfold turnOne at he ⊢
    rw [if_neg (by simpa using e0)] at he ⊢
    by_cases hx : fourAt was k = fourAt now k
    · rw [if_pos hx]; exact h1
    · rw [if_neg hx] at he ⊢
      have hl := leafOf_len (key := key) (i := k) (fourAt_len now hnow k (by omega))
      by_cases hs : (setF 3 r.1 r.2.1 k (leafOf key k (fourAt now k))).2.2 = 0
      · rw [if_neg (by simpa using hs)]
        exact (set_newKid 3 r.1 r.2.1 k _ _ (by omega) hT.at_.good (by omega) (by omega) hT.at_.rt (by rw [show p4n 3 = 64 from rfl]; omega) (leafOf_byt key k _) (by omega) hs hT.at_.keeps h1).1.fr (fr_loose 4 _ _)
      · rw [if_pos hs] at he
        exact absurd he hs
theorem turnR_newKid {s : List Blk} (hw : WfS s) {key root : Int} {z : Nat} (hok : fileE s key root z = 0) {b : List Int} (hb : Byt b) (hl : b.length ≤ 256) (he : (turnR s key root z b).2.2 = 0) : NewKid s (turnR s key root z b).1 := by
  obtain ⟨hk, -, hz, hct, -⟩ := fileE_ok hok
  obtain ⟨hce, m, hm3, hm, hroot, -, -⟩ := checkT_ok hct
  obtain rfl : m = 3 := by omega
  have h64 : (64 : Nat) ≤ 64 := Nat.le_refl _
  unfold turnR at he ⊢
  generalize hke : (64 : Nat) = k at he h64 ⊢
  exact turnTo_newKid hce hw hroot (pad_len b hl) (pad_byt hb) k (by omega) he
theorem turn_few3 {c s m : List Blk} {O : Nat → Bool} (hw : WfS m) (hO : OldIn c s m O) (hF : FewC O m 3) {key root : Int} {z : Nat} (hok : fileE m key root z = 0) {b : List Int} (hb : Byt b) (hl : b.length ≤ 256) (he : (turnR m key root z b).2.2 = 0) : FewC O (turnR m key root z b).1 3 := by
  have hct := (fileE_ok hok).2.2.2.1
  have hce := (checkT_ok hct).1
  have hT := (turnR_ok hw hok (M0 := 1000000) (fun x hx => ((checkE_zero m hce).2.2.2.1 x hx).2) (by omega) (by omega) hb hl he).at_
  exact few_newKid hO hT.keeps (turnR_newKid hw hok hb hl he) hT.good hF hT.len

/-- what is there when a set's roots are gone -/
theorem under_base {s : List Blk} {key : Int} {x : SetV} (hw : WfS s) (hf : ∀ y ∈ s, y.refs ≤ 999000) (hR : RightX s key x) (hh : heldE s x = 0) : BaseOk (lessL s (rootsL x)) s ∧ SHold (lessL s (rootsL x)) s s key x 0 3 := by
  have hg := Good.few_ofM hR.chk hw hf
  have hrt : ∀ r ∈ rootsL x, RootAt s 3 r := fun r hr => by
    rcases List.mem_append.1 hr with h1 | h1
    · obtain ⟨e, he, rfl⟩ := List.mem_map.1 h1
      exact file_root (hR.all e (List.mem_append.2 (.inl he)))
    · obtain ⟨y, hy, h2⟩ := List.mem_flatMap.1 h1
      obtain ⟨e, he, rfl⟩ := List.mem_map.1 h2
      exact file_root (hR.all e (List.mem_append.2 (.inr (List.mem_flatMap.2 ⟨y, hy, he⟩))))
  have hlow : ∀ a ∈ rootsL x, Low s 4 a := fun a ha => by
    rcases hrt a ha with h0 | ⟨h1, h2⟩
    · exact .inl h0
    · obtain ⟨i, hi, e, -⟩ := there_in h1
      exact .inr ⟨by omega, by omega, by omega⟩
  have hle := (held_iff hR).1 hh
  have hL : LooseOut s (lessL s (rootsL x)) (rootsL x) := looseOut_fold 4 (looseOut 4) (rootsL x) s [] hg.lv.1 hg.live hlow fun j hj => by simpa using hle j hj
  have hlen := hL.sub.len
  have hnn : ∀ j, j < s.length → 0 ≤ outA (lessL s (rootsL x)) j := fun j hj => by
    rw [hL.out j hj]
    have := hle j hj
    omega
  have hgc := good_sub hg hL.sub hnn
  have hkp := sub_keeps hL.sub hgc
  refine ⟨⟨sub_check s _ hR.chk hL.sub hnn, hgc.wf, hg, hlen.symm, fun j hj => by rw [hL.out j (by omega)]; omega⟩, ⟨hg.weaken (by omega), hlen.symm, hkp, fun j hj => by rw [hL.out j (by omega)]; omega, hrt⟩, hR, liveB s, [], ?_, Nat.le_refl 0, rootsOf_live hrt, fun i hi => ?_⟩
  · have h1 := old_self hg
    refine ⟨h1.live, fun i hi hp => h1.base i hi ?_, h1.closed⟩
    have h2 := (hkp _ (atB_live (by omega) hp)).1
    obtain ⟨q, hq, e, hpos⟩ := there_pos h2
    obtain rfl : q = i := by omega
    exact hpos
  · obtain ⟨h1, h2, h3, -⟩ := newL_mem.1 hi
    unfold liveB at h3
    simp [h1, h2] at h3

/-- what stays, whatever is done -/
structure SnapInv (c s : List Blk) (key : Int) (name : ByteArray) (F : List Ent) (p : List Blk × SetV) (k : Nat) : Prop where
  sh : SHold c s p.1 key p.2 k 3
  mem : (⟨name, F⟩ : Snp) ∈ p.2.snaps
  same : ∀ e ∈ F, fileB p.1 key e.root e.size = fileB s key e.root e.size
theorem snp_all {y : SetV} {name : ByteArray} {F : List Ent} (h : (⟨name, F⟩ : Snp) ∈ y.snaps) : ∀ e ∈ F, e ∈ allE y := fun e he => List.mem_append.2 (.inr (List.mem_flatMap.2 ⟨_, h, he⟩))

theorem ask_snp (wr : List Blk → Int → List Ent → AskV → List Blk × List Ent × Int) (t : List Blk) (key : Int) (y : SetV) (a : AskV) (h : a.kind = 7 ∨ a.kind = 8 ∨ a.kind = 9) : askR wr t key y a = snapsR t y a := by
  unfold askR
  rw [if_neg (by omega), if_neg (by omega), if_pos h]

/-- the snap is made -/
theorem snap_first {s : List Blk} {key : Int} {x : SetV} {name : ByteArray} (hw : WfS s) (hf : ∀ y ∈ s, y.refs ≤ 999000) (h : (doR writeW s key x (snpA 7 name)).2.2 = 0) :
    RightX s key x ∧ BaseOk (lessL s (rootsL x)) s ∧ destroyR s key x = (lessL s (rootsL x), 0) ∧ (doR writeW s key x (snpA 7 name)).2.1.files = x.files ∧
      SnapInv (lessL s (rootsL x)) s key name x.files ((doR writeW s key x (snpA 7 name)).1, (doR writeW s key x (snpA 7 name)).2.1) 0 := by
  obtain ⟨h1, h2, h3, h4⟩ := doR_ok h
  have hR := setE_ok h1
  obtain ⟨hB, hS⟩ := under_base hw hf hR h2
  rw [h4]
  rw [ask_snp writeW s key x (snpA 7 name) (.inl rfl)] at h3 ⊢
  obtain ⟨r1, r2, -⟩ := step_snaps hB hS (by omega) (by omega) (by omega) (by omega) h3
  have hfiles : (snapsR s x (snpA 7 name)).2.1.files = x.files ∧ (⟨name, x.files⟩ : Snp) ∈ (snapsR s x (snpA 7 name)).2.1.snaps := by
    unfold snapsR at h3 ⊢
    by_cases g1 : nameB (snpA 7 name).dest = false
    · rw [if_pos g1] at h3; simp at h3
    have g7 : (snpA 7 name).kind = 7 := rfl
    rw [if_neg g1, if_pos g7] at h3 ⊢
    by_cases g2 : placeB (x.snaps.map Snp.nm) (snpA 7 name).dest = true
    · rw [if_pos g2] at h3; simp at h3
    rw [if_neg g2] at h3 ⊢
    by_cases g3 : x.snaps.length = 3
    · rw [if_pos g3] at h3; simp at h3
    rw [if_neg g3]
    refine ⟨rfl, ?_⟩
    simp only [insL, List.mem_append, List.mem_cons]
    exact .inr (.inl rfl)
  refine ⟨hR, hB, hS.destroy hB, hfiles.1, r1, hfiles.2, fun e he => ?_⟩
  exact r2 e (snp_all hfiles.2 e he) (hR.files.each e he).2

/-- whatever is asked, but to forget it -/
def snapStep (key : Int) (name : ByteArray) (p : List Blk × SetV) (a : AskV) : List Blk × SetV := if a.kind = 8 ∧ a.dest = name then p else runStep key p a
def snapTo (key : Int) (name : ByteArray) (p : List Blk × SetV) (l : List AskV) (k : Nat) : List Blk × SetV := (l.take k).foldl (snapStep key name) p
theorem snapTo_succ {key : Int} {name : ByteArray} {p : List Blk × SetV} {l : List AskV} {k : Nat} (h : k < l.length) : snapTo key name p l (k + 1) = snapStep key name (snapTo key name p l k) l[k] := by
  unfold snapTo
  rw [List.take_succ_eq_append_getElem h, List.foldl_append]
  rfl
theorem SnapInv.weaken {c s : List Blk} {key : Int} {name : ByteArray} {F : List Ent} {p : List Blk × SetV} {k : Nat} (h : SnapInv c s key name F p k) : SnapInv c s key name F p (k + 1) := ⟨h.sh.weaken (by omega), h.mem, h.same⟩
theorem snap_step {c s : List Blk} {key : Int} {name : ByteArray} {F : List Ent} {p : List Blk × SetV} {k : Nat} (hB : BaseOk c s) (h : SnapInv c s key name F p k) (hk : k + 1 ≤ 20) {a : AskV} (ha : Byt a.bytes) : SnapInv c s key name F (snapStep key name p a) (k + 1) := by
  unfold snapStep
  by_cases h8 : a.kind = 8 ∧ a.dest = name
  · rw [if_pos h8]
    exact h.weaken
  · rw [if_neg h8]
    unfold runStep
    by_cases hd : (doR writeW p.1 key p.2 a).2.2 = 0
    · rw [if_pos hd]
      obtain ⟨r1, r2, r3⟩ := do_step hB h.sh (by omega) (by omega) (by omega) (by omega) ha (fun O root sz b hO hF hf hbb hbl hte => turn_few3 h.sh.wf hO hF hf hbb hbl hte) hd
      have hm := r3 _ h.mem h8
      refine ⟨r1, hm, fun e he => ?_⟩
      rw [← h.same e he]
      exact r2 e (snp_all hm e he) (h.sh.right.all e (snp_all h.mem e he))
    · rw [if_neg hd]
      exact h.weaken
theorem snap_run {c s : List Blk} {key : Int} {name : ByteArray} {F : List Ent} {p : List Blk × SetV} (hB : BaseOk c s) (h : SnapInv c s key name F p 0) {l : List AskV} (hl : ∀ a ∈ l, Byt a.bytes) : ∀ k, k ≤ 20 → k ≤ l.length → SnapInv c s key name F (snapTo key name p l k) k := by
  intro k
  induction k with
  | zero => intro _ _; exact h
  | succ k ih =>
    intro h1 h2
    rw [snapTo_succ (by omega)]
    exact snap_step hB (ih (by omega) (by omega)) (by omega) (hl _ (List.getElem_mem _))

theorem rising_nodup {l : List ByteArray} (h : Rising l) : l.Nodup := h.imp fun {a b} hab e => by
  subst e
  exact ltN_irrefl _ hab
/-- and back -/
theorem snap_last {c s : List Blk} {key : Int} {name : ByteArray} {F : List Ent} {p : List Blk × SetV} {k : Nat} (hB : BaseOk c s) (h : SnapInv c s key name F p k) (hk : k ≤ 20) :
    (doR writeW p.1 key p.2 (snpA 9 name)).2.2 = 0 ∧ (doR writeW p.1 key p.2 (snpA 9 name)).2.1.files = F ∧ SHold c s (doR writeW p.1 key p.2 (snpA 9 name)).1 key (doR writeW p.1 key p.2 (snpA 9 name)).2.1 k 3 ∧
      ∀ e ∈ F, fileB (doR writeW p.1 key p.2 (snpA 9 name)).1 key e.root e.size = fileB s key e.root e.size := by
  obtain ⟨t, y⟩ := p
  have hR := h.sh.right
  have hmem := h.mem
  simp only at hR hmem ⊢
  have hmm : name ∈ y.snaps.map Snp.nm := List.mem_map.2 ⟨_, hmem, rfl⟩
  have hpb := (place_mem hR.rise).2 hmm
  obtain ⟨-, hq, hqe⟩ := placeB_lt hpb
  have hql : placeN (y.snaps.map Snp.nm) name < y.snaps.length := by rwa [List.length_map] at hq
  have hea : snpAt y.snaps (placeN (y.snaps.map Snp.nm) name) = y.snaps[placeN (y.snaps.map Snp.nm) name] := by unfold snpAt; rw [List.getElem?_eq_getElem hql]; rfl
  have hat : (y.snaps[placeN (y.snaps.map Snp.nm) name]).files = F := by
    obtain ⟨j, hj, hje⟩ := List.getElem_of_mem hmem
    have hnd := rising_nodup hR.rise
    have hjm : j < (y.snaps.map Snp.nm).length := by rwa [List.length_map]
    have e1 : (y.snaps.map Snp.nm)[j] = name := by rw [List.getElem_map, hje]
    have e2 : j = placeN (y.snaps.map Snp.nm) name := (List.getElem_inj hnd).1 (e1.trans hqe.symm)
    simp only [← e2, hje]
  have hs0 : (snapsR t y (snpA 9 name)).2.2 = 0 ∧ (snapsR t y (snpA 9 name)).2.1.files = F := by
    unfold snapsR
    have hn : nameB (snpA 9 name).dest = true := (hR.snaps _ hmem).1
    rw [if_neg (by rw [hn]; simp), if_neg (by simp [snpA]), if_neg (by rw [show (snpA 9 name).dest = name from rfl, hpb]; simp), if_neg (by simp [snpA])]
    refine ⟨rfl, ?_⟩
    simp only
    rw [show (snpA 9 name).dest = name from rfl, hea, hat]
  have ha := ask_snp writeW t key y (snpA 9 name) (.inr (.inr rfl))
  have hd := doR_mk (wr := writeW) (a := snpA 9 name) hR.zero (h.sh.held hB) (by rw [ha]; exact hs0.1)
  rw [hd, ha]
  obtain ⟨r1, r2, r3⟩ := step_snaps hB h.sh (by omega) (by omega) (by omega) (by omega) hs0.1
  refine ⟨hs0.1, hs0.2, r1, fun e he => ?_⟩
  rw [← h.same e he]
  exact r2 e (List.mem_append.2 (.inl (by rw [hs0.2]; exact he))) (hR.all e (snp_all hmem e he))
/-- the bytes that are read -/
theorem read_same {s t : List Blk} {key r z : Int} (h1 : fileE s key r z = 0) (h2 : fileE t key r z = 0) (h3 : fileB t key r z = fileB s key r z) : readR t key r z 0 256 = readR s key r z 0 256 ∧ (readR s key r z 0 256).2 = 0 := by
  unfold readR
  rw [h1, h2, h3]
  simp
end Go.Proofs.Ytgeacpfenhaioaa

namespace Go.Proofs.Ytgeacpfenhaioaa
open Go.RowKit
set_option linter.unusedVariables false

theorem StrRow.at {w : World} {ao : Option Addr} {xs : List ByteArray} (h : StrRow w ao xs) (i : Nat) (hi : i < xs.length) : ∃ b o, ao = some ⟨b, o, none⟩ ∧ ∀ i (h : i < xs.length), w.cell? ⟨b, o + i, none⟩ = some (.string xs[i]) := by
  rcases h with rfl | h
  · simp at hi
  · exact h

set_option maxRecDepth 100000 in
set_option maxHeartbeats 4000000 in
theorem equal_strs (w : World) (ao bo : Option Addr) (m c m' c' : Nat) (l l' : List ByteArray) (hm : l.length = m) (hm' : l'.length = m') (h63 : m ≤ 1152921504606846976) (h63' : m' ≤ 1152921504606846976) (hr : StrRow w ao l) (hr' : StrRow w bo l') :
    Calls Try.prog 60 #[.slice ao m c, .slice bo m' c'] w fun e w' => e = .returned (.bool (isB l l')) ∧ Below w.heap.size w w' := by
  have HM := Lib.hid hm
  have HM' := Lib.hid hm'
  clear hm hm'
  by_cases hmm : m = m'
  · subst hmm
    have h1 : ((m : Int) != m) = false := by simp
    go_enter Try.func60, Try.ntmps60
    go_wp2_with fail
    clear h1
    go_loopw [13] (fun i wr => ∃ k : Nat, k ≤ m ∧ i = .int .i64 k ∧ Hid (l.take k = l'.take k) ∧ Below w.heap.size w wr) (fun i _ => m - (intOf i).toNat)
    case atStart => exact ⟨0, Nat.zero_le _, rfl, Lib.hid (by simp), Below.refl _ _⟩
    case round =>
      obtain ⟨k, hkm, rfl, HTK, hbel⟩ := hrel
      by_cases hlt : k < m
      · have hk1 : k < l.length := by have := HM.out; omega
        have hk2 : k < l'.length := by have := HM'.out; omega
        have hlt' : (k : Int) < m := by omega
        obtain ⟨b1, o1, rfl, hq1⟩ := (hr.mono hbel).at k hk1
        obtain ⟨b2, o2, rfl, hq2⟩ := (hr'.mono hbel).at k hk2
        have c0 := hq1 k hk1
        have d0 := hq2 k hk2
        have l1 := World.block_lt_of_cell? _ _ c0
        have l2 := World.block_lt_of_cell? _ _ d0
        have HNE := Lib.hid (take_ne k hk1 hk2)
        have HSN := Lib.hid (fun h => take_snoc k hk1 hk2 h HTK.out)
        clear hq1 hq2
        generalize l[k] = x at *
        generalize l'[k] = y at *
        by_cases hxy : x = y
        · have HST := Lib.hid (HSN.out hxy)
          obtain ⟨q1, q2⟩ := str_eq hxy
          clear hxy HNE HSN
          go_upto_region 6 with fail
          go_still (by kernel_rfl)
          go_wp2_with fail
          go_roundw
          case rel => exact ⟨k + 1, by omega, by go_num, HST, hbel.drew⟩
          case measure => simp [intOf]; omega
        · have HR : Hid (isB l l' = false) := Lib.hid (isB_not (HNE.out hxy))
          obtain ⟨q1, q2⟩ := str_ne hxy
          clear hxy HNE HSN
          go_upto_region 6 with fail
          go_still (by kernel_rfl)
          go_wp2_with fail
          go_ret
          exact ⟨ret_bool HR.out.symm, hbel.drew⟩
      · obtain rfl : k = m := by omega
        have HR : Hid (isB l l' = true) := Lib.hid ((isB_iff _ _).2 (by
          have h1 : l.take k = l := List.take_of_length_le (by have := HM.out; omega)
          have h2 : l'.take k = l' := List.take_of_length_le (by have := HM'.out; omega)
          rw [← h1, ← h2]; exact HTK.out))
        have hlt' : ¬ (k : Int) < k := by omega
        go_wp2_with fail
        go_ret
        exact ⟨ret_bool HR.out.symm, hbel⟩
  · have HR : Hid (isB l l' = false) := Lib.hid (isB_not (by rintro rfl; exact hmm (HM.out.symm.trans HM'.out)))
    have h1 : ((m : Int) != m') = true := by rw [bne_iff_ne]; omega
    go_enter Try.func60, Try.ntmps60
    go_wp2_with fail
    go_ret
    exact ⟨ret_bool HR.out.symm, Below.refl _ _⟩

/-- an answer that lies there -/
structure AnsIn (w : World) (na : Option Addr) (nn nc : Nat) (ba : Option Addr) (bn bc : Nat) (a : AnsV) : Prop where
  nlen : a.names.length = nn
  blen : a.bytes.length = bn
  nrow : StrRow w na a.names
  brow : Row .u8 w ba a.bytes
  byt : Byt a.bytes
  nfit : nn ≤ 1152921504606846976
theorem AnsIn.mono {w w' : World} {na : Option Addr} {nn nc : Nat} {ba : Option Addr} {bn bc : Nat} {a : AnsV} (h : AnsIn w na nn nc ba bn bc a) (hb : Below w.heap.size w w') : AnsIn w' na nn nc ba bn bc a :=
  ⟨h.nlen, h.blen, h.nrow.mono hb, h.brow.mono hb, h.byt, h.nfit⟩

set_option maxRecDepth 100000 in
set_option maxHeartbeats 4000000 in
theorem sameAns_any (w : World) (na na' ba ba' : Option Addr) (nn nc bn bc nn' nc' bn' bc' : Nat) (a b : AnsV) (ha : AnsIn w na nn nc ba bn bc a) (hb : AnsIn w na' nn' nc' ba' bn' bc' b) :
    Calls Try.prog 23 #[.agg #[.int .i64 a.e, .int .i64 a.n, .slice na nn nc, .slice ba bn bc], .agg #[.int .i64 b.e, .int .i64 b.n, .slice na' nn' nc', .slice ba' bn' bc']] w fun e w' => e = .returned (.bool (isB a b)) ∧ Below w.heap.size w w' := by
  have hb0 : Below w.heap.size w ((w.alloc (.cells #[.int .i64 a.e, .int .i64 a.n, .slice na nn nc, .slice ba bn bc] 57)).alloc (.cells #[.int .i64 b.e, .int .i64 b.n, .slice na' nn' nc', .slice ba' bn' bc'] 57)) := ((Below.refl _ _).alloc (Nat.le_refl _) _).alloc (by simp) _
  have p0 := heap_alloc2_old w (.cells #[.int .i64 a.e, .int .i64 a.n, .slice na nn nc, .slice ba bn bc] 57) (.cells #[.int .i64 b.e, .int .i64 b.n, .slice na' nn' nc', .slice ba' bn' bc'] 57)
  have p1 := heap_alloc2_new w (.cells #[.int .i64 a.e, .int .i64 a.n, .slice na nn nc, .slice ba bn bc] 57) (.cells #[.int .i64 b.e, .int .i64 b.n, .slice na' nn' nc', .slice ba' bn' bc'] 57)
  have HA := Lib.hid (ha.mono hb0)
  have HB := Lib.hid (hb.mono hb0)
  clear ha hb
  obtain ⟨ae, an, ans, aby⟩ := a
  obtain ⟨be, bn0, bns, bby⟩ := b
  simp only at HA HB p0 p1 hb0 ⊢
  by_cases h1 : ae = be
  rotate_left
  · have HR : Hid (isB (⟨ae, an, ans, aby⟩ : AnsV) ⟨be, bn0, bns, bby⟩ = false) := Lib.hid (isB_not fun e => h1 (AnsV.mk.inj e).1)
    have q1 : (ae == be) = false := by rw [beq_eq_false_iff_ne]; exact h1
    clear h1
    go_enter Try.func23, Try.ntmps23
    go_wp2_with fail
    go_ret
    exact ⟨ret_bool HR.out.symm, hb0⟩
  by_cases h2 : an = bn0
  rotate_left
  · have HR : Hid (isB (⟨ae, an, ans, aby⟩ : AnsV) ⟨be, bn0, bns, bby⟩ = false) := Lib.hid (isB_not fun e => h2 (AnsV.mk.inj e).2.1)
    have q1 : (ae == be) = true := by rw [beq_iff_eq]; exact h1
    have q2 : (an == bn0) = false := by rw [beq_eq_false_iff_ne]; exact h2
    clear h1 h2
    go_enter Try.func23, Try.ntmps23
    go_wp2_with fail
    go_ret
    exact ⟨ret_bool HR.out.symm, hb0⟩
  subst h1 h2
  go_enter Try.func23, Try.ntmps23
  go_wp2_with fail
  generalize (w.alloc (Obj.cells #[Value.int .i64 ae, Value.int .i64 an, Value.slice na nn nc, Value.slice ba bn bc] 57)).alloc (Obj.cells #[Value.int .i64 ae, Value.int .i64 an, Value.slice na' nn' nc', Value.slice ba' bn' bc'] 57) = W at *
  refine (equal_strs W na na' nn nc nn' nc' ans bns HA.out.nlen HB.out.nlen HA.out.nfit HB.out.nfit HA.out.nrow HB.out.nrow).mono ?_
  by_cases h3 : ans = bns
  · rw [(isB_iff _ _).2 h3]
    rintro e w1 ⟨rfl, hb1⟩
    have p0 := (hb1.block _ (lt_heap p0)).trans p0
    have p1 := (hb1.block _ (lt_heap p1)).trans p1
    have c0 := cell_of_block p0 3
    have c1 := cell_of_block p1 3
    simp only [List.getElem?_toArray, List.getElem?_cons_succ, List.getElem?_cons_zero] at c0 c1
    have l0 := lt_heap p0
    have l1 := lt_heap p1
    have HA2 := Lib.hid (HA.out.mono hb1)
    have HB2 := Lib.hid (HB.out.mono hb1)
    have HR : Hid (isB (⟨ae, an, ans, aby⟩ : AnsV) ⟨ae, an, bns, bby⟩ = (aby == bby)) := Lib.hid (by
      by_cases e : aby = bby
      · rw [(isB_iff _ _).2 (by rw [h3, e]), e]; simp
      · rw [isB_not (fun e2 => e (AnsV.mk.inj e2).2.2.2)]
        exact (beq_eq_false_iff_ne.2 e).symm)
    have hbw := below_step hb0 hb1
    clear h3
    go_wp2_with fail
    refine (bytes_equal_n ba ba' bn bn' bc bc' aby bby w1 HA2.out.blen HB2.out.blen HA2.out.brow HB2.out.brow HA2.out.byt HB2.out.byt).mono ?_
    rintro e w2 ⟨rfl, rfl⟩
    go_wp2_with fail
    go_ret
    exact ⟨ret_bool HR.out.symm, hbw⟩
  · rw [isB_not h3]
    rintro e w1 ⟨rfl, hb1⟩
    have HR : Hid (isB (⟨ae, an, ans, aby⟩ : AnsV) ⟨ae, an, bns, bby⟩ = false) := Lib.hid (isB_not fun e => h3 (AnsV.mk.inj e).2.2.1)
    clear h3
    go_wp2_with fail
    go_ret
    exact ⟨ret_bool HR.out.symm, below_step hb0 hb1⟩
end Go.Proofs.Ytgeacpfenhaioaa

namespace Go.Proofs.Ytgeacpfenhaioaa
open Go.RowKit
set_option linter.unusedVariables false

/-- an ask that lies in cells -/
structure AskAt (w : World) (b o : Nat) (a : AskV) (ba : Option Addr) (bc : Nat) : Prop where
  kind : w.cell? ⟨b, o, none⟩ = some (.int .i64 a.kind)
  sname : w.cell? ⟨b, o + 1, none⟩ = some (.string a.sname)
  file : w.cell? ⟨b, o + 2, none⟩ = some (.string a.file)
  dest : w.cell? ⟨b, o + 3, none⟩ = some (.string a.dest)
  at_ : w.cell? ⟨b, o + 4, none⟩ = some (.int .i64 a.at_)
  n : w.cell? ⟨b, o + 5, none⟩ = some (.int .i64 a.n)
  bytes : w.cell? ⟨b, o + 6, none⟩ = some (.slice ba a.bytes.length bc)
  row : Row .u8 w ba a.bytes
  cap : Capd ba a.bytes.length bc
theorem AskAt.mono {w w' : World} {b o : Nat} {a : AskV} {ba : Option Addr} {bc : Nat} (h : AskAt w b o a ba bc) (hb : Below w.heap.size w w') : AskAt w' b o a ba bc := by
  have hl := World.block_lt_of_cell? _ _ h.kind
  have hc : ∀ j, w'.cell? ⟨b, j, none⟩ = w.cell? ⟨b, j, none⟩ := fun j => World.cell?_of_block (a := ⟨b, j, none⟩) (hb.block b hl)
  exact ⟨(hc _).trans h.kind, (hc _).trans h.sname, (hc _).trans h.file, (hc _).trans h.dest, (hc _).trans h.at_, (hc _).trans h.n, (hc _).trans h.bytes, h.row.mono hb, h.cap⟩
/-- asks, side by side -/
def AskRow (w : World) (ao : Option Addr) (l : List AskV) : Prop := l = [] ∨ ∃ b o, ao = some ⟨b, o, none⟩ ∧ ∀ i (h : i < l.length), ∃ ba bc, AskAt w b (o + i * 7) l[i] ba bc
theorem AskRow.mono {w w' : World} {ao : Option Addr} {l : List AskV} (h : AskRow w ao l) (hb : Below w.heap.size w w') : AskRow w' ao l := by
  rcases h with h | ⟨b, o, h1, h⟩
  · exact .inl h
  · refine .inr ⟨b, o, h1, fun i hi => ?_⟩
    obtain ⟨ba, bc, h2⟩ := h i hi
    exact ⟨ba, bc, h2.mono hb⟩
theorem AskRow.at {w : World} {ao : Option Addr} {l : List AskV} (h : AskRow w ao l) (i : Nat) (hi : i < l.length) : ∃ b o ba bc, ao = some ⟨b, o, none⟩ ∧ AskAt w b (o + i * 7) l[i] ba bc := by
  rcases h with rfl | ⟨b, o, h1, h⟩
  · simp at hi
  · obtain ⟨ba, bc, h2⟩ := h i hi
    exact ⟨b, o, ba, bc, h1, h2⟩
/-- the asks' numbers fit -/
def WfA (l : List AskV) : Prop := ∀ a ∈ l, Byt a.bytes ∧ a.bytes.length ≤ 140737488351232

theorem lookR_fit (s : List Blk) (key : Int) (x : SetV) (a : AskV) : Byt (lookR s key x a).1.bytes ∧ (lookR s key x a).1.names.length ≤ x.files.length := by
  have hb : ∀ root z p q, Byt (readR s key root z p q).1 := fun root z p q => by
    unfold readR
    split
    · intro x hx; cases hx
    · split
      · intro x hx; cases hx
      · intro y hy
        exact fileB_byt s key root z y (List.mem_of_mem_take (List.mem_of_mem_drop hy))
  have h0 : Byt [] := fun x hx => by cases hx
  unfold lookR
  split
  · exact ⟨h0, Nat.zero_le _⟩
  · split
    · split
      · exact ⟨h0, Nat.zero_le _⟩
      · split
        · exact ⟨h0, Nat.zero_le _⟩
        · exact ⟨hb _ _ _ _, Nat.zero_le _⟩
    · split
      · exact ⟨h0, by simp⟩
      · exact ⟨h0, Nat.zero_le _⟩
def readA (nm : ByteArray) : AskV := ⟨11, ⟨#[]⟩, nm, ⟨#[]⟩, 0, 256, []⟩

theorem ents_wf {s : List Blk} {key : Int} {l : List Ent} (h : EntsOk s key l) : WfL l := fun x hx => by
  obtain ⟨-, h0, h1, hc, -⟩ := fileE_ok (h.each x hx).2
  obtain ⟨hce, m, hm3, hm, hroot, -, -⟩ := checkT_ok hc
  have h4 := (checkE_zero s hce).1
  refine ⟨?_, by unfold I64; omega⟩
  rcases hroot with h | ⟨h, _⟩
  · rw [h]; unfold I64; omega
  · obtain ⟨k, hk, e, _⟩ := there_in h
    unfold I64; omega
theorem right_wf {s : List Blk} {key : Int} {x : SetV} (h : RightX s key x) : WfX x := ⟨ents_wf h.files, fun y hy => ents_wf (h.snaps y hy).2⟩
theorem setIn_keep {w w' : World} {fo : Option Addr} {fn fc : Nat} {so : Option Addr} {sn sc : Nat} {x : SetV} (h : SetIn w fo fn fc so sn sc x) (hs : w.heap.size ≤ w'.heap.size) (hk : ∀ b, b < w.heap.size → w'.heap[b]? = w.heap[b]?) : SetIn w' fo fn fc so sn sc x := by
  have hb : Below w.heap.size w { w with heap := w'.heap } := ⟨rfl, rfl, rfl, hs, hk⟩
  have h2 := h.mono hb
  exact ⟨h2.flen, h2.slen, h2.frow, h2.srow, h2.fcap, h2.scap⟩
/-- a set that does not hang on two boxes -/
def SetOff (p : Nat) (w : World) (fo : Option Addr) (fn fc : Nat) (so : Option Addr) (sn sc : Nat) (x : SetV) : Prop :=
  SetIn w fo fn fc so sn sc x ∧ ∀ w', w.heap.size ≤ w'.heap.size → (∀ b, b ≠ p → b ≠ p + 1 → b < w.heap.size → w'.heap[b]? = w.heap[b]?) → SetIn w' fo fn fc so sn sc x
section
variable {K p : Nat} {w w' : World} {fo : Option Addr} {fn fc : Nat} {so : Option Addr} {sn sc : Nat} {x : SetV}
theorem SetOff.go (h : SetOff p w fo fn fc so sn sc x) (hs : w.heap.size ≤ w'.heap.size) (hk : ∀ b, b ≠ p → b ≠ p + 1 → b < w.heap.size → w'.heap[b]? = w.heap[b]?) : SetOff p w' fo fn fc so sn sc x :=
  ⟨h.2 w' hs hk, fun w2 h1 h2 => h.2 w2 (Nat.le_trans hs h1) fun b h3 h4 hl => (h2 b h3 h4 (Nat.lt_of_lt_of_le hl hs)).trans (hk b h3 h4 hl)⟩
theorem SetOff.mono (h : SetOff p w fo fn fc so sn sc x) (hb : Below w.heap.size w w') : SetOff p w' fo fn fc so sn sc x := h.go hb.size fun b _ _ hl => hb.block b hl
theorem SetFrom.off (h : SetFrom K w fo fn fc so sn sc x) (hp : p + 2 ≤ K) : SetOff p w fo fn fc so sn sc x := ⟨h.1, fun w2 h1 h2 => h.2 w2 h1 fun b hb hl => h2 b (by omega) (by omega) hl⟩
theorem SetIn.off (h : SetIn w fo fn fc so sn sc x) (hp : w.heap.size ≤ p) (hb : Below w.heap.size w w') : SetOff p w' fo fn fc so sn sc x :=
  ⟨h.mono hb, fun w2 h1 h2 => setIn_keep h (Nat.le_trans hb.size h1) fun b hl => (h2 b (by omega) (by omega) (Nat.lt_of_lt_of_le hl hb.size)).trans (hb.block b hl)⟩
end
/-- the clone's store and set lie in their boxes -/
def CloneAt (wr : World) (bs n : Nat) (p : List Blk × SetV) : Prop :=
  ∃ (a1 : Option Addr) (c1 : Nat) (fo : Option Addr) (fn fc : Nat) (so : Option Addr) (sn sc : Nat), wr.heap[bs]? = some (.cells #[.slice a1 n c1] 24 (0, 0)) ∧ wr.heap[bs + 1]? = some (.cells #[.string p.2.nm, .slice fo fn fc, .slice so sn sc] 28 (0, 0)) ∧
    p.1.length = n ∧ StoRow wr a1 p.1 ∧ Capd a1 n c1 ∧ SetOff bs wr fo fn fc so sn sc p.2
theorem CloneAt.mono {w w' : World} {bs n : Nat} {p : List Blk × SetV} (h : CloneAt w bs n p) (hb : Below w.heap.size w w') : CloneAt w' bs n p := by
  obtain ⟨a1, c1, fo, fn, fc, so, sn, sc, h1, h2, h3, h4, h5, h6⟩ := h
  exact ⟨a1, c1, fo, fn, fc, so, sn, sc, (hb.block _ (lt_heap h1)).trans h1, (hb.block _ (lt_heap h2)).trans h2, h3, h4.mono hb, h5, h6.mono hb⟩

set_option maxRecDepth 100000 in
set_option maxHeartbeats 16000000 in
theorem law_apart (w : World) (ao fo so qa : Option Addr) (n cap fn fc sn sc qn qc : Nat) (s : List Blk) (key : Int) (x : SetV) (frm name : ByteArray) (asks : List AskV) (hn : s.length = n) (h41 : n ≤ 2199023255552) (hs : StoRow w ao s) (hwf : WfS s) (hc : Capd ao n cap) (hx : SetIn w fo fn fc so sn sc x) (hwx : WfX x)
    (hq : asks.length = qn) (hqr : AskRow w qa asks) (hqc : Capd qa qn qc) (hqw : WfA asks) (hq63 : qn ≤ 4611686018427387904) :
    Calls Try.prog 5 #[.agg #[.slice ao n cap], .int .i64 key, .agg #[.string x.nm, .slice fo fn fc, .slice so sn sc], .string frm, .string name, .slice qa qn qc] w fun e w' => e = .returned (.bool true) ∧ Below w.heap.size w w' := by
  have HN := Lib.hid hn
  have HC := Lib.hid hc
  have HWX := Lib.hid hwx
  have HQ := Lib.hid hq
  have HQC := Lib.hid hqc
  have HQW := Lib.hid hqw
  have hb0 : Below w.heap.size w ((w.alloc (.cells #[.slice ao n cap] 24)).alloc (.cells #[.string x.nm, .slice fo fn fc, .slice so sn sc] 28)) := ((Below.refl _ _).alloc (Nat.le_refl _) _).alloc (by simp) _
  have pS := heap_alloc2_old w (.cells #[.slice ao n cap] 24) (.cells #[.string x.nm, .slice fo fn fc, .slice so sn sc] 28)
  have pX := heap_alloc2_new w (.cells #[.slice ao n cap] 24) (.cells #[.string x.nm, .slice fo fn fc, .slice so sn sc] 28)
  have HS0 := Lib.hid (hs.mono hb0)
  have HX0 := Lib.hid (hx.mono hb0)
  have HQ0 := Lib.hid (hqr.mono hb0)
  clear hn hc hwx hs hx hq hqr hqc hqw
  go_enter Try.func5, Try.ntmps5
  go_wp2_with fail
  generalize (w.alloc (Obj.cells #[Value.slice ao n cap] 24)).alloc (Obj.cells #[Value.string x.nm, Value.slice fo fn fc, Value.slice so sn sc] 28) = W0 at *
  refine (crowded_any _ _ _ _ s HN.out h41 HS0.out).mono ?_
  rintro e w1 ⟨rfl, hb1⟩
  have hbw1 := below_step hb0 hb1
  cases hcr : crowdB s with
  | true =>
    clear HS0 HX0 HQ0
    go_wp2_with fail
    go_ret
    exact ⟨rfl, hbw1⟩
  | false =>
    have HFEW := Lib.hid (crowdB_few hcr)
    have HS1 := Lib.hid (HS0.out.mono hb1)
    have HX1 := Lib.hid (HX0.out.mono hb1)
    have HQ1 := Lib.hid (HQ0.out.mono hb1)
    replace pS := (hb1.block _ (lt_heap pS)).trans pS
    replace pX := (hb1.block _ (lt_heap pX)).trans pX
    have HPS := Lib.hid pS
    have HPX := Lib.hid pX
    have HBW1 := Lib.hid hbw1
    have cS := cell_of_one pS
    have cX0 := cell_of_block pX 0
    have cX1 := cell_of_block pX 1
    have cX2 := cell_of_block pX 2
    simp only [List.getElem?_toArray, List.getElem?_cons_succ, List.getElem?_cons_zero] at cX0 cX1 cX2
    have lS := lt_heap pS
    have lX := lt_heap pX
    have HCO := Lib.hid (fun h => cloneR_ok (s := s) (key := key) (x := x) (frm := frm) (name := name) h)
    have HD1 := Lib.hid (clone_any w1 ao fo so n cap fn fc sn sc s key x frm name HN.out h41 HS1.out hwf HC.out HX1.out HWX.out)
    obtain ⟨D1, hD1⟩ : ∃ D, cloneR s key x frm name = D := ⟨_, rfl⟩
    rw [hD1] at HD1 HCO
    clear hD1 hcr HS0 HX0 HQ0 hb0 hb1 hbw1 pS pX
    go_wp2_with fail
    refine HD1.out.mono ?_
    rintro e w2 ⟨ao1, n1, c1, fo1, fn1, fc1, so1, sn1, sc1, rfl, hb2, hn1, hs1, hc1, hx1⟩
    obtain ⟨bs, hbs⟩ : ∃ bs, w2.heap.size = bs := ⟨_, rfl⟩
    have hb3 : Below w2.heap.size w2 ((w2.alloc (.cells #[.slice ao1 n1 c1] 24)).alloc (.cells #[.string D1.2.1.nm, .slice fo1 fn1 fc1, .slice so1 sn1 sc1] 28)) := ((Below.refl _ _).alloc (Nat.le_refl _) _).alloc (by simp) _
    have qS := heap_alloc2_old w2 (.cells #[.slice ao1 n1 c1] 24) (.cells #[.string D1.2.1.nm, .slice fo1 fn1 fc1, .slice so1 sn1 sc1] 28)
    have qX := heap_alloc2_new w2 (.cells #[.slice ao1 n1 c1] 24) (.cells #[.string D1.2.1.nm, .slice fo1 fn1 fc1, .slice so1 sn1 sc1] 28)
    have HS2 := Lib.hid (hs1.mono hb3)
    have hb13 := below_step hb2 hb3
    have HX2 := Lib.hid (hx1.1.off (p := bs) (by omega) hb3)
    have HN1 := Lib.hid hn1
    have HC1 := Lib.hid hc1
    have HB13 := Lib.hid hb13
    rw [hbs] at qS qX
    have HBE := Lib.hid (show w1.heap.size ≤ bs from by rw [← hbs]; exact hb2.size)
    clear hs1 hx1 hn1 hc1 hb2 hb3 HD1 cS cX0 cX1 cX2 lS lX hb13
    go_upto_region 4 with fail
    generalize (w2.alloc (Obj.cells #[Value.slice ao1 n1 c1] 24)).alloc (Obj.cells #[Value.string D1.2.1.nm, Value.slice fo1 fn1 fc1, Value.slice so1 sn1 sc1] 28) = W2 at *
    try simp only [hbs]
    obtain ⟨t1, y1, e1⟩ := D1
    simp only at *
    clear hbs
    go_wp2_with fail
    refine (gathered_any _).mono ?_
    rintro e w3 ⟨rfl, hb4⟩
    have HB14 := Lib.hid (below_step HB13.out hb4)
    by_cases he : e1 = 0
    rotate_left
    · have he1 : (e1 != 0) = true := by rw [bne_iff_ne]; exact he
      clear he HCO
      go_wp2_with fail
      refine (gathered_any _).mono ?_
      rintro e w4 ⟨rfl, hb5⟩
      have hbF := below_step HBW1.out (below_step HB14.out hb5)
      go_wp2_with fail
      go_ret
      exact ⟨rfl, hbF⟩
    · subst he
      obtain ⟨g1, g2, z, hz, g3⟩ := HCO.out rfl
      simp only [Prod.mk.injEq, and_true] at g3
      obtain ⟨rfl, rfl⟩ := g3
      have HRX := Lib.hid (setE_ok g1)
      have HBO := Lib.hid (BaseOk.self HRX.out.chk hwf HFEW.out)
      have HSH := Lib.hid (clone_hold HBO.out HRX.out.kok (HRX.out.snaps z hz).2 g2)
      have HCA : Hid (CloneAt w3 bs n (bump s (rootsF z.files), ⟨name, z.files, []⟩)) := Lib.hid (by
        have hn1 : n1 = n := by have h1 := HN1.out; rw [bump_length] at h1; have := HN.out; omega
        subst hn1
        exact CloneAt.mono ⟨ao1, c1, fo1, fn1, fc1, so1, sn1, sc1, qS, qX, HN1.out, HS2.out, HC1.out, HX2.out⟩ hb4)
      have hY0 : (⟨name, z.files, []⟩ : SetV).snaps = [] := rfl
      generalize bump s (rootsF z.files) = M0 at *
      generalize (⟨name, z.files, []⟩ : SetV) = Y0 at *
      have HY0 := Lib.hid hY0
      clear HCO g1 g2 z hz qS qX HN1 HS2 HC1 HX2 HB13 hb4 hY0
      have hca := HCA.out
      obtain ⟨a2, c2, gf, gn, gc, tf, tn, tc, qS, qX, hl2, hs2, hc2, hx2⟩ := hca
      have HDS := Lib.hid (destroy_any w3 a2 gf tf n c2 gn gc tn tc M0 key Y0 hl2 h41 hs2 HSH.out.wf hc2 hx2.1 (right_wf HSH.out.right))
      rw [SHold.destroy HBO.out HSH.out] at HDS
      have HTN : tn = 0 := by have h1 := hx2.1.slen; rw [HY0.out] at h1; exact h1.symm
      subst HTN
      have cS := cell_of_one qS
      have cX0 := cell_of_block qX 0
      have cX1 := cell_of_block qX 1
      have cX2 := cell_of_block qX 2
      simp only [List.getElem?_toArray, List.getElem?_cons_succ, List.getElem?_cons_zero] at cX0 cX1 cX2
      have lS := lt_heap qS
      have lX := lt_heap qX
      have HQX := Lib.hid qX
      clear qS qX hl2 hs2 hc2 hx2
      go_wp2_with fail
      refine HDS.out.mono ?_
      rintro e w4 ⟨a3, n3, c3, rfl, hb4, hn3, hs3, -⟩
      have hb5 : Below w4.heap.size w4 (w4.alloc (.cells #[.slice a3 n3 c3] 24)) := (Below.refl _ _).alloc (Nat.le_refl _) _
      have rS := heap_alloc_new w4 (.cells #[.slice a3 n3 c3] 24)
      have hb45 := below_step hb4 hb5
      have HS4 := Lib.hid (hs3.mono hb5)
      have HN3 := Lib.hid hn3
      have HCA4 := Lib.hid (HCA.out.mono hb45)
      have hB := below_step HB14.out hb45
      have HB4 := Lib.hid hB
      have HQX4 := Lib.hid ((hb45.block _ (lt_heap HQX.out)).trans HQX.out)
      have HPS4 := Lib.hid ((hB.block _ (lt_heap HPS.out)).trans HPS.out)
      have HS14 := Lib.hid (HS1.out.mono hB)
      clear hs3 hn3 hb4 hb5 hb45 hB HDS cS cX0 cX1 cX2 lS lX HCA HB14 HQX
      go_upto_region 7 with fail
      generalize w4.alloc (Obj.cells #[Value.slice a3 n3 c3] 24) = W4 at *
      have c0 := cell_of_one rS
      have d0 := cell_of_one HPS4.out
      have l0 := lt_heap rS
      have l1 := lt_heap HPS4.out
      go_wp2_with fail
      refine (same_any _ _ _ _ _ _ _ s s HN3.out HN.out (by have := HN3.out; have := HN.out; omega) (by omega) HS4.out HS14.out hwf hwf).mono ?_
      rw [show sameS s s = true from by unfold sameS; simp]
      rintro e w5 ⟨rfl, hb6⟩
      have HCA5 := Lib.hid (HCA4.out.mono hb6)
      have HB5 := Lib.hid (below_step HB4.out hb6)
      have HQX5 := Lib.hid ((hb6.block _ (lt_heap HQX4.out)).trans HQX4.out)
      clear c0 d0 l0 l1 hb6 HCA4 HB4 HQX4 HPS4 HS14 HS4 rS
      have c2 := cell_of_block HQX5.out 2
      simp only [List.getElem?_toArray, List.getElem?_cons_succ, List.getElem?_cons_zero] at c2
      have l2 := lt_heap HQX5.out
      have hm1 : (qn : Int) ≤ qc := by have := HQC.out.1; omega
      have hm2 : min (qn : Int) 12 ≤ qc := by omega
      have hm3 : 0 ≤ min (qn : Int) 12 := by omega
      obtain ⟨qm, hqm⟩ : ∃ qm : Nat, qm = min qn 12 := ⟨_, rfl⟩
      have HQM := Lib.hid hqm
      have HRH := Lib.hid (run_hold4 HBO.out (p := (M0, Y0)) HSH.out (l := asks) (fun a ha => (HQW.out a ha).1))
      go_wp2_with fail
      clear hm1 hm2 hm3 c2 l2 HQX5 HSH HY0 hqm
      go_loopw [74] (fun i wr => ∃ k : Nat, k ≤ qm ∧ i = .int .i64 k ∧ Hid (CloneAt wr bs n (runTo key (M0, Y0) asks k)) ∧ Hid (Below w1.heap.size w1 wr)) (fun i _ => 12 - (intOf i).toNat)
      case atStart => exact ⟨0, Nat.zero_le _, rfl, HCA5, HB5⟩
      case round => as_aux_lemma =>
        clear HCA5 HB5
        obtain ⟨k, hkn, rfl, HC0, HB0⟩ := hrel
        by_cases hlt : k < qm
        · have hlt' : (k : Int) < ((min qn 12 : Nat) : Int) := by have := HQM.out; omega
          have hka : k < asks.length := by have := HQ.out; have := HQM.out; omega
          obtain ⟨qb, qo, ba, bc, rfl, hE0⟩ := HQ1.out.at k hka
          have HRT := Lib.hid (runTo_succ (key := key) (p := (M0, Y0)) hka)
          have HRK := Lib.hid (HRH.out k (by have := HQM.out; omega) (by omega))
          have HAW := Lib.hid (HQW.out _ (List.getElem_mem hka))
          have hE := hE0.mono HB0.out
          clear hE0
          generalize asks[k] = a at *
          generalize runTo key (M0, Y0) asks k = P at *
          obtain ⟨t, y⟩ := P
          simp only at HRK
          have e0 := hE.kind
          have e1 := hE.sname
          have e2 := hE.file
          have e3 := hE.dest
          have e4 := hE.at_
          have e5 := hE.n
          have e6 := hE.bytes
          have lb : qb < wr.heap.size := World.block_lt_of_cell? _ _ e0
          have hca := HC0.out
          obtain ⟨a2, c2, gf, gn, gc, tf, tn, tc, qS, qX, hl2, hs2, hc2, hx2⟩ := hca
          have hb1 : Below wr.heap.size wr (wr.alloc (.cells #[.int .i64 a.kind, .string a.sname, .string a.file, .string a.dest, .int .i64 a.at_, .int .i64 a.n, .slice ba a.bytes.length bc] 35)) := (Below.refl _ _).alloc (Nat.le_refl _) _
          have rA := heap_alloc_new wr (.cells #[.int .i64 a.kind, .string a.sname, .string a.file, .string a.dest, .int .i64 a.at_, .int .i64 a.n, .slice ba a.bytes.length bc] 35)
          have HDO := Lib.hid (do_any (wr.alloc (.cells #[.int .i64 a.kind, .string a.sname, .string a.file, .string a.dest, .int .i64 a.at_, .int .i64 a.n, .slice ba a.bytes.length bc] 35)) a2 gf tf ba n c2 gn gc tn tc a.bytes.length bc t key y a hl2 h41 (hs2.mono hb1) HRK.out.wf hc2 (hx2.mono hb1).1 (right_wf HRK.out.right) rfl (hE.row.mono hb1) hE.cap HAW.out.1 HAW.out.2)
          have HC1 := Lib.hid (HC0.out.mono hb1)
          have HB1 := Lib.hid (below_step HB0.out hb1)
          have qS := (hb1.block _ (lt_heap qS)).trans qS
          have qX := (hb1.block _ (lt_heap qX)).trans qX
          have cS := cell_of_one qS
          have cX0 := cell_of_block qX 0
          have cX1 := cell_of_block qX 1
          have cX2 := cell_of_block qX 2
          have d0 := cell_of_block rA 0
          have d1 := cell_of_block rA 1
          have d2 := cell_of_block rA 2
          have d3 := cell_of_block rA 3
          have d4 := cell_of_block rA 4
          have d5 := cell_of_block rA 5
          have d6 := cell_of_block rA 6
          simp only [List.getElem?_toArray, List.getElem?_cons_succ, List.getElem?_cons_zero] at cX0 cX1 cX2 d0 d1 d2 d3 d4 d5 d6
          have lS := lt_heap qS
          have lX := lt_heap qX
          have lA := lt_heap rA
          obtain ⟨D, hD⟩ : ∃ D, doR writeW t key y a = D := ⟨_, rfl⟩
          have HRS : Hid (runTo key (M0, Y0) asks (k + 1) = if D.2.2 = 0 then (D.1, D.2.1) else (t, y)) := Lib.hid (by rw [HRT.out, ← hD]; rfl)
          rw [hD] at HDO
          clear hD HC0 HRT hE hs2 hx2 hl2 hc2 hb1 qS qX rA HB0
          go_upto_region 12 with fail
          generalize wr.alloc (.cells #[.int .i64 a.kind, .string a.sname, .string a.file, .string a.dest, .int .i64 a.at_, .int .i64 a.n, .slice ba a.bytes.length bc] 35) = W6 at *
          go_wp2_with fail
          refine HDO.out.mono ?_
          rintro e w7 ⟨a4, n4, c4, gf4, gn4, gc4, tf4, tn4, tc4, rfl, hb7, hn4, hs4, hc4, hx4⟩
          have hb8 : Below w7.heap.size w7 ((w7.alloc (.cells #[.slice a4 n4 c4] 24)).alloc (.cells #[.string D.2.1.nm, .slice gf4 gn4 gc4, .slice tf4 tn4 tc4] 28)) := ((Below.refl _ _).alloc (Nat.le_refl _) _).alloc (by simp) _
          have rS := heap_alloc2_old w7 (.cells #[.slice a4 n4 c4] 24) (.cells #[.string D.2.1.nm, .slice gf4 gn4 gc4, .slice tf4 tn4 tc4] 28)
          have rX := heap_alloc2_new w7 (.cells #[.slice a4 n4 c4] 24) (.cells #[.string D.2.1.nm, .slice gf4 gn4 gc4, .slice tf4 tn4 tc4] 28)
          have hb78 := below_step hb7 hb8
          have HC2 := Lib.hid (HC1.out.mono hb78)
          have HB2 := Lib.hid (below_step HB1.out hb78)
          have HS5 := Lib.hid (hs4.mono hb8)
          have HX5 := Lib.hid ((hx4.mono hb8).off (p := bs) (by omega))
          have HLZ : Hid (bs + 1 < w7.heap.size) := Lib.hid (by
            obtain ⟨a6, c6, gf6, gn6, gc6, tf6, tn6, tc6, -, qX, -⟩ := HC1.out
            exact Nat.lt_of_lt_of_le (lt_heap qX) hb7.size)
          have HN5 := Lib.hid hn4
          have HC5 := Lib.hid hc4
          clear hs4 hx4 hn4 hc4 hb7 hb8 hb78 HC1 HB1 HDO cS cX0 cX1 cX2 d0 d1 d2 d3 d4 d5 d6 lS lX lA
          go_upto_region 13 with fail
          generalize (w7.alloc (Obj.cells #[Value.slice a4 n4 c4] 24)).alloc (Obj.cells #[Value.string D.2.1.nm, Value.slice gf4 gn4 gc4, Value.slice tf4 tn4 tc4] 28) = W7 at *
          obtain ⟨t5, y5, e5'⟩ := D
          simp only at *
          by_cases he : e5' = 0
          · subst he
            rw [if_pos rfl] at HRS
            have hn5 : n = n4 := by
              have h1 := (HRH.out (k + 1) (by have := HQM.out; omega) (by omega)).hold.len
              rw [HRS.out] at h1
              have h2 := HN5.out
              have h3 := HN.out
              simp only at h1
              omega
            subst hn5
            obtain ⟨a6, c6, gf6, gn6, gc6, tf6, tn6, tc6, qS, qX, -, -, -, -⟩ := HC2.out
            obtain ⟨z3, z4, hbz, -⟩ := put_set qS qX (by omega) (.slice a4 n c4) (.string y5.nm) (.slice gf4 gn4 gc4) (.slice tf4 tn4 tc4)
            have hsz := put_sto qS qX (by omega) (.slice a4 n c4) (.string y5.nm) (.slice gf4 gn4 gc4) (.slice tf4 tn4 tc4) HS5.out
            have hxz := HX5.out.go (w' := putW W7 bs (bs + 1) (.slice a4 n c4) (.string y5.nm) (.slice gf4 gn4 gc4) (.slice tf4 tn4 tc4)) (by rw [put_size]; exact Nat.le_refl _) (fun b hb hb' _ => put_other b (by omega) (by omega))
            have hbz := hbz _ _ HB2.out HBE.out (by have := HBE.out; omega)
            have hca : CloneAt (putW W7 bs (bs + 1) (.slice a4 n c4) (.string y5.nm) (.slice gf4 gn4 gc4) (.slice tf4 tn4 tc4)) bs n (runTo key (M0, Y0) asks (k + 1)) := by
              rw [HRS.out]
              exact ⟨a4, c4, gf4, gn4, gc4, tf4, tn4, tc4, z3, z4, HN5.out, hsz, HC5.out, hxz⟩
            unfold putW at hbz hca
            have HCZ := Lib.hid hca
            have HBZ := Lib.hid hbz
            have f0 := cell_of_one rS
            have f1 := cell_of_block rX 0
            have f2 := cell_of_block rX 1
            have f3 := cell_of_block rX 2
            have g0 := cell_of_one qS
            have g1 := cell_of_block qX 0
            have g2 := cell_of_block qX 1
            have g3 := cell_of_block qX 2
            simp only [List.getElem?_toArray, List.getElem?_cons_succ, List.getElem?_cons_zero] at f1 f2 f3 g1 g2 g3
            have lS := lt_heap rS
            have lX := lt_heap rX
            have mS := lt_heap qS
            have mX := lt_heap qX
            have yS := free_of_one qS
            have yX := fun j => free_of_block qX j
            have n1 : w7.heap.size ≠ bs := by have := HLZ.out; omega
            have n2 : w7.heap.size ≠ bs + 1 := by have := HLZ.out; omega
            have n3 : w7.heap.size + 1 ≠ bs := by have := HLZ.out; omega
            have n4' : w7.heap.size + 1 ≠ bs + 1 := by have := HLZ.out; omega
            have n5 : bs ≠ w7.heap.size := by have := HLZ.out; omega
            have n6 : bs ≠ w7.heap.size + 1 := by have := HLZ.out; omega
            have n7 : bs + 1 ≠ w7.heap.size := by have := HLZ.out; omega
            have n8 : bs + 1 ≠ w7.heap.size + 1 := by have := HLZ.out; omega
            clear z3 z4 hbz hsz hxz hca HC2 HB2 HS5 HX5 rS rX qS qX
            go_wp2_with fail
            go_region
            all_goals
              go_wp2_with fail
              go_roundw
              case rel => exact ⟨k + 1, by omega, by go_num, Lib.hid (HCZ.out.mono (Below.refl _ _).drew), Lib.hid (HBZ.out.drew)⟩
              case measure => simp [intOf]; have := HQM.out; omega
          · as_aux_lemma =>
            have he1 : (e5' == 0) = false := by rw [beq_eq_false_iff_ne]; exact he
            rw [if_neg he] at HRS
            clear he
            go_wp2_with fail
            go_roundw
            case rel => exact ⟨k + 1, by omega, by go_num, Lib.hid (by rw [HRS.out]; exact HC2.out), HB2⟩
            case measure => simp [intOf]; have := HQM.out; omega
        · obtain rfl : k = qm := by omega
          have hlt' : ¬ (k : Int) < ((min qn 12 : Nat) : Int) := by have := HQM.out; omega
          have HRK := Lib.hid (HRH.out k (by have := HQM.out; omega) (by have := HQM.out; have := HQ.out; omega))
          generalize runTo key (M0, Y0) asks k = P at *
          obtain ⟨t, y⟩ := P
          simp only at HRK
          have qX := (HB0.out.block _ (lt_heap HPX.out)).trans HPX.out
          have cX1 := cell_of_block qX 1
          simp only [List.getElem?_toArray, List.getElem?_cons_succ, List.getElem?_cons_zero] at cX1
          have lX := lt_heap qX
          clear HRH qX
          go_wp2_with fail
          clear cX1 lX hlt'
          go_loopw [95] (fun i wr => ∃ j : Nat, j ≤ fn ∧ i = .int .i64 j ∧ Hid (CloneAt wr bs n (t, y)) ∧ Hid (Below w1.heap.size w1 wr)) (fun i _ => fn - (intOf i).toNat)
          case atStart => exact ⟨0, Nat.zero_le _, rfl, HC0, HB0⟩
          case round => as_aux_lemma =>
            clear HC0 HB0
            obtain ⟨j, hjn, rfl, HC0, HB0⟩ := hrel
            by_cases hlt : j < fn
            · have hlt' : (j : Int) < fn := by omega
              have hf6 : fn ≤ 6 := by have := HRX.out.files.len; have := HX1.out.flen; omega
              have hjl : j < x.files.length := by have := HX1.out.flen; omega
              obtain ⟨b, o, rfl, hq⟩ := HX1.out.frow.at j hjl
              have hE := (hq j hjl).mono HB0.out
              generalize x.files[j] = E at *
              have e0 := hE.nm
              have e1 := hE.root
              have e2 := hE.size
              have lb := hE.lt
              have hb1 : Below _ wr (wr.alloc (.cells #[.string E.nm, .int .i64 E.root, .int .i64 E.size] 47)) := (Below.refl _ _).alloc (Nat.le_refl _) _
              have rE := heap_alloc_new wr (.cells #[.string E.nm, .int .i64 E.root, .int .i64 E.size] 47)
              have HC1 := Lib.hid (HC0.out.mono hb1)
              have HB1 := Lib.hid (below_step HB0.out hb1)
              have HRE := Lib.hid rE
              clear hq rE hE HC0 HB0 hb1
              go_upto_region 19 with fail
              generalize wr.alloc (.cells #[.string E.nm, .int .i64 E.root, .int .i64 E.size] 47) = W6 at *
              have qS := (HB1.out.block _ (lt_heap HPS.out)).trans HPS.out
              have qX := (HB1.out.block _ (lt_heap HPX.out)).trans HPX.out
              have cS := cell_of_one qS
              have cX0 := cell_of_block qX 0
              have cX1 := cell_of_block qX 1
              have cX2 := cell_of_block qX 2
              have d0 := cell_of_block HRE.out 0
              simp only [List.getElem?_toArray, List.getElem?_cons_succ, List.getElem?_cons_zero] at cX0 cX1 cX2 d0
              have lS := lt_heap qS
              have lX := lt_heap qX
              have lE := lt_heap HRE.out
              have HLK := Lib.hid (look_any W6 ao (some ⟨b, o, none⟩) so none n cap fn fc sn sc 0 0 s key x (readA E.nm) HN.out (by omega) (HS1.out.mono HB1.out) hwf HC.out (HX1.out.mono HB1.out) HWX.out)
              clear e0 e1 e2 lb
              clear qS qX
              obtain ⟨R, hR⟩ : ∃ R, lookR s key x (readA E.nm) = R := ⟨_, rfl⟩
              have HR := Lib.hid hR
              have HR0 : Hid (R.2 = 0) := Lib.hid (by rw [← hR]; exact look_ok HRX.out rfl)
              have HRB : Hid (Byt R.1.bytes ∧ R.1.names.length ≤ 6) := Lib.hid (by rw [← hR]; exact ⟨(lookR_fit s key x _).1, Nat.le_trans (lookR_fit s key x _).2 HRX.out.files.len⟩)
              rw [hR] at HLK
              clear hR
              go_wp2_with fail
              refine HLK.out.mono ?_
              rintro e w7 ⟨na, nn, nc, ra, rn, rc, rfl, hb2, hnn, hrn, hnr, hrr, hnc, hrc⟩
              have hb3 : Below w7.heap.size w7 (w7.alloc (.cells #[.int .i64 R.1.e, .int .i64 R.1.n, .slice na nn nc, .slice ra rn rc] 57)) := (Below.refl _ _).alloc (Nat.le_refl _) _
              have rA := heap_alloc_new w7 (.cells #[.int .i64 R.1.e, .int .i64 R.1.n, .slice na nn nc, .slice ra rn rc] 57)
              have hb23 := below_step hb2 hb3
              have HRA := Lib.hid rA
              have HC2 := Lib.hid (HC1.out.mono hb23)
              have HB2 := Lib.hid (below_step HB1.out hb23)
              have HAN := Lib.hid ((AnsIn.mk hnn hrn hnr hrr HRB.out.1 (by have := HRB.out.2; omega) : AnsIn w7 na nn nc ra rn rc R.1).mono hb3)
              have HRE2 := Lib.hid ((hb23.block _ lE).trans HRE.out)
              clear rA hb2 hb3 hb23 hnn hrn hnr hrr hnc hrc HC1 HB1 HLK cS cX0 cX1 cX2 d0 lS lX lE HRE
              go_upto_region 20 with fail
              generalize w7.alloc (.cells #[.int .i64 R.1.e, .int .i64 R.1.n, .slice na nn nc, .slice ra rn rc] 57) = W7 at *
              have hca := HC2.out
              obtain ⟨a2, c2, gf, gn, gc, tf, tn, tc, qS, -, hl2, hs2, hc2, -⟩ := hca
              have qX := (HB2.out.block _ (lt_heap HPX.out)).trans HPX.out
              have cS := cell_of_one qS
              have cX0 := cell_of_block qX 0
              have cX1 := cell_of_block qX 1
              have cX2 := cell_of_block qX 2
              have d0 := cell_of_block HRE2.out 0
              simp only [List.getElem?_toArray, List.getElem?_cons_succ, List.getElem?_cons_zero] at cX0 cX1 cX2 d0
              have lS := lt_heap qS
              have lX := lt_heap qX
              have lE := lt_heap HRE2.out
              have HLK := Lib.hid (look_any W7 a2 (some ⟨b, o, none⟩) so none n c2 fn fc sn sc 0 0 t key x (readA E.nm) hl2 (by omega) hs2 HRK.out.wf hc2 (HX1.out.mono HB2.out) HWX.out)
              rw [look_same HBO.out HRK.out HRX.out, HR.out] at HLK
              clear qS qX hl2 hs2 hc2
              go_wp2_with fail
              refine HLK.out.mono ?_
              rintro e w8 ⟨na', nn', nc', ra', rn', rc', rfl, hb2, hnn, hrn, hnr, hrr, hnc, hrc⟩
              have hb3 : Below w8.heap.size w8 (w8.alloc (.cells #[.int .i64 R.1.e, .int .i64 R.1.n, .slice na' nn' nc', .slice ra' rn' rc'] 57)) := (Below.refl _ _).alloc (Nat.le_refl _) _
              have rA := heap_alloc_new w8 (.cells #[.int .i64 R.1.e, .int .i64 R.1.n, .slice na' nn' nc', .slice ra' rn' rc'] 57)
              have hb23 := below_step hb2 hb3
              have HRA2 := Lib.hid ((hb23.block _ (lt_heap HRA.out)).trans HRA.out)
              have HC3 := Lib.hid (HC2.out.mono hb23)
              have HB3 := Lib.hid (below_step HB2.out hb23)
              have HAN1 := Lib.hid (HAN.out.mono hb23)
              have HAN2 := Lib.hid ((AnsIn.mk hnn hrn hnr hrr HRB.out.1 (by have := HRB.out.2; omega) : AnsIn w8 na' nn' nc' ra' rn' rc' R.1).mono hb3)
              clear hb2 hb3 hb23 hnn hrn hnr hrr hnc hrc HC2 HB2 HLK cS cX0 cX1 cX2 d0 lS lX lE HRE2 HAN HRA
              go_upto_region 21 with fail
              generalize w8.alloc (.cells #[.int .i64 R.1.e, .int .i64 R.1.n, .slice na' nn' nc', .slice ra' rn' rc'] 57) = W8 at *
              rw [HR0.out]
              have f0 := cell_of_block HRA2.out 0
              have f1 := cell_of_block HRA2.out 1
              have f2 := cell_of_block HRA2.out 2
              have f3 := cell_of_block HRA2.out 3
              have g0 := cell_of_block rA 0
              have g1 := cell_of_block rA 1
              have g2 := cell_of_block rA 2
              have g3 := cell_of_block rA 3
              simp only [List.getElem?_toArray, List.getElem?_cons_succ, List.getElem?_cons_zero] at f0 f1 f2 f3 g0 g1 g2 g3
              have lF := lt_heap HRA2.out
              have lG := lt_heap rA
              go_wp2_with fail
              refine (sameAns_any _ _ _ _ _ _ _ _ _ _ _ _ _ R.1 R.1 HAN1.out HAN2.out).mono ?_
              rw [isB_self]
              rintro e w9 ⟨rfl, hb4⟩
              have HC4 := Lib.hid (HC3.out.mono hb4)
              have HB4 := Lib.hid (below_step HB3.out hb4)
              clear HC3 HB3 hb4 f0 f1 f2 f3 g0 g1 g2 g3 lF lG rA
              go_wp2_with fail
              go_roundw
              case rel => exact ⟨j + 1, by omega, by go_num, HC4, HB4⟩
              case measure => simp [intOf]; omega
            · obtain rfl : j = fn := by omega
              have hlt' : ¬ (j : Int) < j := by omega
              have HDR := SHold.destroy HBO.out HRK.out
              have hca := HC0.out
              obtain ⟨a2, c2, gf, gn, gc, tf, tn, tc, qS, qX, hl2, hs2, hc2, hx2⟩ := hca
              have HDS := Lib.hid (destroy_any wr a2 gf tf n c2 gn gc tn tc t key y hl2 h41 hs2 HRK.out.wf hc2 hx2.1 (right_wf HRK.out.right))
              rw [HDR] at HDS
              have cS := cell_of_one qS
              have cX0 := cell_of_block qX 0
              have cX1 := cell_of_block qX 1
              have cX2 := cell_of_block qX 2
              simp only [List.getElem?_toArray, List.getElem?_cons_succ, List.getElem?_cons_zero] at cX0 cX1 cX2
              have lS := lt_heap qS
              have lX := lt_heap qX
              have HQS := Lib.hid qS
              clear qS qX hl2 hs2 hc2 hx2 HDR HC0
              go_wp2_with fail
              refine HDS.out.mono ?_
              rintro e w6 ⟨a5, n5, c5, rfl, hb4, hn5, hs5, -⟩
              have qS := (hb4.block _ lS).trans HQS.out
              have g0 := cell_of_one qS
              have fS := free_of_one qS
              have mS := lt_heap qS
              have z3 := one_setCell (u := .slice a5 n5 c5) qS
              have hbz := (below_step HB0.out hb4).setCell (p := ⟨bs, 0, none⟩) HBE.out (.slice a5 n5 c5)
              have HS5 := Lib.hid (sto_off (p := bs) (w' := w6.setCell ⟨bs, 0, none⟩ (.slice a5 n5 c5)) hs5 (fun o k x hx => by
                rw [cell_of_block qS] at hx
                rcases (show o = 0 ∨ 1 ≤ o from by omega) with rfl | e
                · simp at hx
                · rw [Array.getElem?_eq_none (by simp; omega)] at hx; cases hx) (fun b hb => Below.heap_setCell _ _ _ _ hb))
              have HN5 := Lib.hid hn5
              have HZ3 := Lib.hid z3
              have HBZ := Lib.hid hbz
              clear z3 hbz hs5 hn5 qS HQS HDS cS cX0 cX1 cX2 lS lX hb4
              go_upto_region 25 with fail
              generalize w6.setCell ⟨bs, 0, none⟩ (.slice a5 n5 c5) = W6 at *
              have pS := (HBZ.out.block _ (lt_heap HPS.out)).trans HPS.out
              have c0 := cell_of_one HZ3.out
              have d0 := cell_of_one pS
              have l0 := lt_heap HZ3.out
              have l1 := lt_heap pS
              clear pS g0 fS mS
              go_wp2_with fail
              refine (same_any _ _ _ _ _ _ _ s s HN5.out HN.out (by have := HN5.out; have := HN.out; omega) (by omega) HS5.out (HS1.out.mono HBZ.out) hwf hwf).mono ?_
              rw [show sameS s s = true from by unfold sameS; simp]
              rintro e w7 ⟨rfl, hb6⟩
              have hbF := below_step HBW1.out (below_step HBZ.out hb6)
              clear c0 d0 l0 l1
              go_wp2_with fail
              go_ret
              exact ⟨rfl, hbF⟩
end Go.Proofs.Ytgeacpfenhaioaa

namespace Go.Proofs.Ytgeacpfenhaioaa
open Go.RowKit Go.ChangeShapes Go.WideShapes Go.Deep Go.Joins
set_option linter.unusedVariables false
section
variable {H : Type} {enc : TypeId × Value → H} {w : World} {base : Nat} {spare : Nat → Bool} {held : Bool}

theorem trod_struct7 {P : Program} {t : TypeId} {f0 f1 f2 f3 f4 f5 f6 : Field} {fuel : Nat} {cs : List Value} {x : DataW H × List MemPlace} (ht : P.underlying t = some (.struct #[f0, f1, f2, f3, f4, f5, f6])) (h : DataW.trod enc P w base spare held fuel t cs = some x) :
    ∃ y0 y1 y2 y3 y4 y5 y6 n, x.1 = .agg [y0.1, y1.1, y2.1, y3.1, y4.1, y5.1, y6.1] ∧ DataW.trod enc P w base spare held n f0.type ((cs.drop f0.offset).take (P.cellsOf f0.type)) = some y0 ∧
      DataW.trod enc P w base spare held n f1.type ((cs.drop f1.offset).take (P.cellsOf f1.type)) = some y1 ∧ DataW.trod enc P w base spare held n f2.type ((cs.drop f2.offset).take (P.cellsOf f2.type)) = some y2 ∧
      DataW.trod enc P w base spare held n f3.type ((cs.drop f3.offset).take (P.cellsOf f3.type)) = some y3 ∧ DataW.trod enc P w base spare held n f4.type ((cs.drop f4.offset).take (P.cellsOf f4.type)) = some y4 ∧
      DataW.trod enc P w base spare held n f5.type ((cs.drop f5.offset).take (P.cellsOf f5.type)) = some y5 ∧ DataW.trod enc P w base spare held n f6.type ((cs.drop f6.offset).take (P.cellsOf f6.type)) = some y6 := by
  obtain ⟨xs, n, _, rfl, hl, hlen, hf⟩ := DataW.trod_struct ht h
  match xs, hlen with
  | [y0, y1, y2, y3, y4, y5, y6], _ => exact ⟨y0, y1, y2, y3, y4, y5, y6, n, by simp, by simpa using hf 0 f0 rfl, by simpa using hf 1 f1 rfl, by simpa using hf 2 f2 rfl, by simpa using hf 3 f3 rfl, by simpa using hf 4 f4 rfl, by simpa using hf 5 f5 rfl, by simpa using hf 6 f6 rfl⟩

set_option maxRecDepth 100000 in
/-- an ask that lies in cells -/
theorem open_ask {n b o : Nat} {cs : List Value} {y : DataW H × List MemPlace} (h : DataW.trod enc Try.prog w base spare held n 35 cs = some y) (hcl : cs.length = 7) (hc : ∀ j, j < 7 → w.cell? ⟨b, o + j, none⟩ = cs[j]?) (hw : ∀ n ∈ y.1.weights Try.prog 35, n ≤ reachBytes) :
    ∃ (a : AskV) (ba : Option Addr) (bc : Nat), AskAt w b o a ba bc ∧ Byt a.bytes ∧ a.bytes.length ≤ 140737488351232 := by
  obtain ⟨y0, y1, y2, y3, y4, y5, y6, m, hx, h0, h1, h2, h3, h4, h5, h6⟩ := trod_struct7 Try.underlying35 h
  match cs, hcl with
  | [v0, v1, v2, v3, v4, v5, v6], _ =>
    have c0 := hc 0 (by omega)
    have c1 := hc 1 (by omega)
    have c2 := hc 2 (by omega)
    have c3 := hc 3 (by omega)
    have c4 := hc 4 (by omega)
    have c5 := hc 5 (by omega)
    have c6 := hc 6 (by omega)
    replace h0 : DataW.trod enc Try.prog w base spare held m 3 [v0] = some y0 := h0
    replace h1 : DataW.trod enc Try.prog w base spare held m 9 [v1] = some y1 := h1
    replace h2 : DataW.trod enc Try.prog w base spare held m 9 [v2] = some y2 := h2
    replace h3 : DataW.trod enc Try.prog w base spare held m 9 [v3] = some y3 := h3
    replace h4 : DataW.trod enc Try.prog w base spare held m 3 [v4] = some y4 := h4
    replace h5 : DataW.trod enc Try.prog w base spare held m 3 [v5] = some y5 := h5
    replace h6 : DataW.trod enc Try.prog w base spare held m 33 [v6] = some y6 := h6
    obtain ⟨x0, e0, _, _⟩ := DataW.trod_int Try.underlying3 h0
    obtain ⟨x1, e1, _, _⟩ := DataW.trod_string Try.underlying9 h1
    obtain ⟨x2, e2, _, _⟩ := DataW.trod_string Try.underlying9 h2
    obtain ⟨x3, e3, _, _⟩ := DataW.trod_string Try.underlying9 h3
    obtain ⟨x4, e4, _, _⟩ := DataW.trod_int Try.underlying3 h4
    obtain ⟨x5, e5, _, _⟩ := DataW.trod_int Try.underlying3 h5
    obtain ⟨bs, s6, w6, b6⟩ := open_sl Try.underlying33 Try.underlying5 (by kernel_rfl) h6
    simp at e0 e1 e2 e3 e4 e5
    subst e0 e1 e2 e3 e4 e5
    rw [hx] at hw
    have hbs := b6 (fun n hn => hw n (by simp [DataW.weights, DataW.weightsEach, Try.underlying35, hn]))
    have e1' : Try.prog.bytesOf 5 = 1 := by kernel_rfl
    rw [e1'] at hbs
    have hR : reachBytes = 140737488351232 := rfl
    obtain ⟨ba, bc, rfl, hr, hcp⟩ := s6
    exact ⟨⟨x0, x1, x2, x3, x4, x5, bs⟩, ba, bc, ⟨c0, c1, c2, c3, c4, c5, c6, hr, hcp⟩, byt_of w6, by simp only; omega⟩

set_option maxRecDepth 100000 in
/-- asks -/
theorem open_asks {m : Nat} {c0 : Value} {y0 : DataW H × List MemPlace} (h0 : DataW.trod enc Try.prog w base spare held m 40 [c0] = some y0) (hb0 : ∀ n ∈ y0.1.weights Try.prog 40, n ≤ reachBytes) :
    ∃ ao n cap l, c0 = .slice ao n cap ∧ l.length = n ∧ AskRow w ao l ∧ WfA l ∧ Capd ao n cap ∧ n ≤ 4398046511104 := by
  rcases open_slice Try.underlying40 h0 with ⟨hcs, _⟩ | ⟨a, len, cap, mm, q, D, Pl, hcs, _, hl, hm, hmm, hx0, hi⟩
  · simp at hcs
    subst hcs
    exact ⟨none, 0, 0, [], rfl, rfl, .inl rfl, (by intro x hx; cases hx), ⟨Nat.le_refl _, fun _ => rfl⟩, by omega⟩
  · simp at hcs
    subst hcs
    have hlm : len ≤ mm := by rw [hmm]; split <;> omega
    have hcell : Try.prog.cellsOf 35 = 7 := by kernel_rfl
    rw [hcell] at hi
    rw [hx0] at hb0
    have hbd : ∀ i, i < len → ∀ n ∈ (D i).weights Try.prog 35, n ≤ reachBytes := fun i hi n hn => hb0 n (by
      simp only [DataW.weights, Try.underlying40, List.mem_cons, List.mem_append]
      exact .inr (.inl (weights_all (List.mem_map.2 ⟨i, List.mem_range.2 hi, rfl⟩) hn)))
    have hlen : len ≤ 4398046511104 := by
      have h1 := hb0 ((((List.range len).map D).length + ((List.range (mm - len)).map fun j => D (len + j)).length) * Try.prog.bytesOf 35) (by simp [DataW.weights, Try.underlying40])
      have e96 : Try.prog.bytesOf 35 = 96 := by kernel_rfl
      rw [e96] at h1
      simp at h1
      have hR : reachBytes = 140737488351232 := rfl
      omega
    rcases Nat.eq_zero_or_pos len with hz | hz
    · subst hz
      exact ⟨some a, 0, cap, [], rfl, rfl, .inl rfl, (by intro x hx; cases hx), ⟨Nat.zero_le _, fun h => by cases h⟩, by omega⟩
    have hpl : ∃ b o, a = ⟨b, o, none⟩ := by
      obtain ⟨cs', hc, _⟩ := hi 0 (by omega)
      obtain ⟨_, hcl, hat⟩ := World.cells?_some hc
      have h00 := hat 0 (by omega)
      rw [List.getElem?_eq_getElem (by omega), Nat.zero_mul] at h00
      have e : (a.add 0).add 0 = a.add 0 := by unfold Addr.add; simp
      rw [e] at h00
      exact addr_plain h00
    obtain ⟨b, o, rfl⟩ := hpl
    have hex : ∀ i, ∃ z : AskV × Option Addr × Nat, i < len → (AskAt w b (o + i * 7) z.1 z.2.1 z.2.2 ∧ Byt z.1.bytes ∧ z.1.bytes.length ≤ 140737488351232) := by
      intro i
      by_cases hlt : i < len
      · obtain ⟨cs', hc, ht⟩ := hi i (by omega)
        obtain ⟨_, hcl, hat⟩ := World.cells?_some hc
        obtain ⟨v, x1, x2, hxx⟩ := open_ask (b := b) (o := o + i * 7) ht hcl (fun j hj => by
          have := hat j hj
          rw [add_plain, add_plain] at this
          exact this) (hbd i hlt)
        exact ⟨(v, x1, x2), fun _ => hxx⟩
      · exact ⟨(⟨0, ⟨#[]⟩, ⟨#[]⟩, ⟨#[]⟩, 0, 0, []⟩, none, 0), fun h => absurd h hlt⟩
    have hf : ∀ i, i < len → _ := fun i => Classical.choose_spec (hex i)
    refine ⟨some ⟨b, o, none⟩, len, cap, (List.range len).map fun i => (Classical.choose (hex i)).1, rfl, by simp, .inr ⟨b, o, rfl, fun i hi => ?_⟩, ?_, ⟨hl, fun h => by cases h⟩, by omega⟩
    · have hi' : i < len := by simpa using hi
      refine ⟨(Classical.choose (hex i)).2.1, (Classical.choose (hex i)).2.2, ?_⟩
      have := (hf i hi').1
      simpa using this
    · intro x hx
      obtain ⟨i, hi, rfl⟩ := List.mem_map.1 hx
      exact (hf i (List.mem_range.1 hi)).2
end
end Go.Proofs.Ytgeacpfenhaioaa

namespace Go.Proofs.Ytgeacpfenhaioaa
open Go.RowKit
set_option linter.unusedVariables false

theorem readR_byt (s : List Blk) (key root z p q : Int) : Byt (readR s key root z p q).1 := by
  unfold readR
  split
  · intro x hx; cases hx
  · split
    · intro x hx; cases hx
    · intro y hy
      exact fileB_byt s key root z y (List.mem_of_mem_take (List.mem_of_mem_drop hy))

set_option maxRecDepth 100000 in
set_option maxHeartbeats 16000000 in
theorem law_snap (w : World) (ao fo so qa : Option Addr) (n cap fn fc sn sc qn qc : Nat) (s : List Blk) (key : Int) (x : SetV) (name : ByteArray) (asks : List AskV) (hn : s.length = n) (h41 : n ≤ 2199023255552) (hs : StoRow w ao s) (hwf : WfS s) (hc : Capd ao n cap) (hx : SetIn w fo fn fc so sn sc x) (hwx : WfX x)
    (hq : asks.length = qn) (hqr : AskRow w qa asks) (hqc : Capd qa qn qc) (hqw : WfA asks) (hq63 : qn ≤ 4611686018427387904) :
    Calls Try.prog 4 #[.agg #[.slice ao n cap], .int .i64 key, .agg #[.string x.nm, .slice fo fn fc, .slice so sn sc], .string name, .slice qa qn qc] w fun e w' => e = .returned (.bool true) ∧ Below w.heap.size w w' := by
  have HN := Lib.hid hn
  have HC := Lib.hid hc
  have HWX := Lib.hid hwx
  have HQ := Lib.hid hq
  have HQC := Lib.hid hqc
  have HQW := Lib.hid hqw
  have hb0 : Below w.heap.size w ((w.alloc (.cells #[.slice ao n cap] 24)).alloc (.cells #[.string x.nm, .slice fo fn fc, .slice so sn sc] 28)) := ((Below.refl _ _).alloc (Nat.le_refl _) _).alloc (by simp) _
  have pS := heap_alloc2_old w (.cells #[.slice ao n cap] 24) (.cells #[.string x.nm, .slice fo fn fc, .slice so sn sc] 28)
  have pX := heap_alloc2_new w (.cells #[.slice ao n cap] 24) (.cells #[.string x.nm, .slice fo fn fc, .slice so sn sc] 28)
  have HS0 := Lib.hid (hs.mono hb0)
  have HX0 := Lib.hid (hx.mono hb0)
  have HQ0 := Lib.hid (hqr.mono hb0)
  clear hn hc hwx hs hx hq hqr hqc hqw
  go_enter Try.func4, Try.ntmps4
  go_wp2_with fail
  generalize (w.alloc (Obj.cells #[Value.slice ao n cap] 24)).alloc (Obj.cells #[Value.string x.nm, Value.slice fo fn fc, Value.slice so sn sc] 28) = W0 at *
  refine (crowded_any _ _ _ _ s HN.out h41 HS0.out).mono ?_
  rintro e w1 ⟨rfl, hb1⟩
  have hbw1 := below_step hb0 hb1
  cases hcr : crowdB s with
  | true =>
    clear HS0 HX0 HQ0
    go_wp2_with fail
    go_ret
    exact ⟨rfl, hbw1⟩
  | false =>
    have HFEW := Lib.hid (crowdB_few hcr)
    have HS1 := Lib.hid (HS0.out.mono hb1)
    have HX1 := Lib.hid (HX0.out.mono hb1)
    have HQ1 := Lib.hid (HQ0.out.mono hb1)
    replace pS := (hb1.block _ (lt_heap pS)).trans pS
    replace pX := (hb1.block _ (lt_heap pX)).trans pX
    have HPS := Lib.hid pS
    have HPX := Lib.hid pX
    have HBW1 := Lib.hid hbw1
    have cS := cell_of_one pS
    have cX0 := cell_of_block pX 0
    have cX1 := cell_of_block pX 1
    have cX2 := cell_of_block pX 2
    simp only [List.getElem?_toArray, List.getElem?_cons_succ, List.getElem?_cons_zero] at cX0 cX1 cX2
    have lS := lt_heap pS
    have lX := lt_heap pX
    have HCO := Lib.hid (fun h => snap_first (s := s) (key := key) (x := x) (name := name) hwf HFEW.out h)
    have HD1 := Lib.hid (do_any w1 ao fo so none n cap fn fc sn sc 0 0 s key x (snpA 7 name) HN.out h41 HS1.out hwf HC.out HX1.out HWX.out rfl (.inl rfl) ⟨Nat.le_refl _, fun _ => rfl⟩ (by simp [snpA, Byt]) (by omega))
    obtain ⟨D1, hD1⟩ : ∃ D, doR writeW s key x (snpA 7 name) = D := ⟨_, rfl⟩
    rw [hD1] at HD1 HCO
    clear hD1 hcr HS0 HX0 HQ0 hb0 hb1 hbw1 pS pX
    go_wp2_with fail
    refine HD1.out.mono ?_
    rintro e w2 ⟨ao1, n1, c1, fo1, fn1, fc1, so1, sn1, sc1, rfl, hb2, hn1, hs1, hc1, hx1⟩
    obtain ⟨bs, hbs⟩ : ∃ bs, w2.heap.size = bs := ⟨_, rfl⟩
    have hb3 : Below w2.heap.size w2 ((w2.alloc (.cells #[.slice ao1 n1 c1] 24)).alloc (.cells #[.string D1.2.1.nm, .slice fo1 fn1 fc1, .slice so1 sn1 sc1] 28)) := ((Below.refl _ _).alloc (Nat.le_refl _) _).alloc (by simp) _
    have qS := heap_alloc2_old w2 (.cells #[.slice ao1 n1 c1] 24) (.cells #[.string D1.2.1.nm, .slice fo1 fn1 fc1, .slice so1 sn1 sc1] 28)
    have qX := heap_alloc2_new w2 (.cells #[.slice ao1 n1 c1] 24) (.cells #[.string D1.2.1.nm, .slice fo1 fn1 fc1, .slice so1 sn1 sc1] 28)
    have HS2 := Lib.hid (hs1.mono hb3)
    have hb13 := below_step hb2 hb3
    have HX2 := Lib.hid (hx1.1.off (p := bs) (by omega) hb3)
    have HN1 := Lib.hid hn1
    have HC1 := Lib.hid hc1
    have HB13 := Lib.hid hb13
    rw [hbs] at qS qX
    have HBE := Lib.hid (show w1.heap.size ≤ bs from by rw [← hbs]; exact hb2.size)
    clear hs1 hx1 hn1 hc1 hb2 hb3 HD1 cS cX0 cX1 cX2 lS lX hb13
    go_upto_region 4 with fail
    generalize (w2.alloc (Obj.cells #[Value.slice ao1 n1 c1] 24)).alloc (Obj.cells #[Value.string D1.2.1.nm, Value.slice fo1 fn1 fc1, Value.slice so1 sn1 sc1] 28) = W2 at *
    try simp only [hbs]
    obtain ⟨t1, y1, e1⟩ := D1
    simp only at *
    clear hbs
    go_wp2_with fail
    refine (gathered_any _).mono ?_
    rintro e w3 ⟨rfl, hb4⟩
    have HB14 := Lib.hid (below_step HB13.out hb4)
    by_cases he : e1 = 0
    rotate_left
    · have he1 : (e1 != 0) = true := by rw [bne_iff_ne]; exact he
      clear he HCO
      go_wp2_with fail
      refine (gathered_any _).mono ?_
      rintro e w4 ⟨rfl, hb5⟩
      have hbF := below_step HBW1.out (below_step HB14.out hb5)
      go_wp2_with fail
      go_ret
      exact ⟨rfl, hbF⟩
    · subst he
      obtain ⟨g1, g2, g3, g4, g5⟩ := HCO.out rfl
      have HRX := Lib.hid g1
      have HBO := Lib.hid g2
      have HDX := Lib.hid g3
      have HYF := Lib.hid g4
      have HIN := Lib.hid g5
      have hn1 : n1 = n := by have h1 := g5.sh.hold.len; rw [HN1.out] at h1; have h2 := g2.len; have := HN.out; omega
      subst hn1
      have HF0 := Lib.hid (HX2.out.mono hb4)
      have HCA : Hid (CloneAt w3 bs n1 (t1, y1)) := Lib.hid (CloneAt.mono ⟨ao1, c1, fo1, fn1, fc1, so1, sn1, sc1, qS, qX, HN1.out, HS2.out, HC1.out, HX2.out⟩ hb4)
      have qX3 := (hb4.block _ (lt_heap qX)).trans qX
      have cX1 := cell_of_block qX3 1
      simp only [List.getElem?_toArray, List.getElem?_cons_succ, List.getElem?_cons_zero] at cX1
      have lX := lt_heap qX3
      generalize lessL s (rootsL x) = cb at *
      clear HCO g1 g2 g3 g4 g5 qS qX HN1 HS2 HC1 HX2 HB13 hb4 qX3
      have hm1 : (qn : Int) ≤ qc := by have := HQC.out.1; omega
      have hm2 : min (qn : Int) 20 ≤ qc := by omega
      have hm3 : 0 ≤ min (qn : Int) 20 := by omega
      obtain ⟨qm, hqm⟩ : ∃ qm : Nat, qm = min qn 20 := ⟨_, rfl⟩
      have HQM := Lib.hid hqm
      have HRH := Lib.hid (snap_run HBO.out HIN.out (l := asks) (fun a ha => (HQW.out a ha).1))
      go_wp2_with fail
      clear hm1 hm2 hm3 cX1 lX hqm
      go_loopw [56] (fun i wr => ∃ k : Nat, k ≤ qm ∧ i = .int .i64 k ∧ Hid (CloneAt wr bs n1 (snapTo key name (t1, y1) asks k)) ∧ Hid (Below w1.heap.size w1 wr) ∧ Hid (SetOff bs wr fo1 fn1 fc1 so1 sn1 sc1 y1)) (fun i _ => 20 - (intOf i).toNat)
      case atStart => exact ⟨0, Nat.zero_le _, rfl, HCA, HB14, HF0⟩
      case round => as_aux_lemma =>
        clear HCA HB14 HF0
        obtain ⟨k, hkn, rfl, HC0, HB0, HF0⟩ := hrel
        by_cases hlt : k < qm
        · as_aux_lemma =>
          have hlt' : (k : Int) < ((min qn 20 : Nat) : Int) := by have := HQM.out; omega
          have hka : k < asks.length := by have := HQ.out; have := HQM.out; omega
          obtain ⟨qb, qo, ba, bc, rfl, hE0⟩ := HQ1.out.at k hka
          have HRT := Lib.hid (snapTo_succ (key := key) (name := name) (p := (t1, y1)) hka)
          have HRK := Lib.hid (HRH.out k (by have := HQM.out; omega) (by omega)).sh
          have HAW := Lib.hid (HQW.out _ (List.getElem_mem hka))
          have hE := hE0.mono HB0.out
          clear hE0
          generalize asks[k] = a at *
          generalize snapTo key name (t1, y1) asks k = P at *
          obtain ⟨t, y⟩ := P
          simp only at HRK
          have e0 := hE.kind
          have e1 := hE.sname
          have e2 := hE.file
          have e3 := hE.dest
          have e4 := hE.at_
          have e5 := hE.n
          have e6 := hE.bytes
          have lb : qb < wr.heap.size := World.block_lt_of_cell? _ _ e0
          have hca := HC0.out
          obtain ⟨a2, c2, gf, gn, gc, tf, tn, tc, qS, qX, hl2, hs2, hc2, hx2⟩ := hca
          have hb1 : Below wr.heap.size wr (wr.alloc (.cells #[.int .i64 a.kind, .string a.sname, .string a.file, .string a.dest, .int .i64 a.at_, .int .i64 a.n, .slice ba a.bytes.length bc] 35)) := (Below.refl _ _).alloc (Nat.le_refl _) _
          have rA := heap_alloc_new wr (.cells #[.int .i64 a.kind, .string a.sname, .string a.file, .string a.dest, .int .i64 a.at_, .int .i64 a.n, .slice ba a.bytes.length bc] 35)
          have HDO := Lib.hid (do_any (wr.alloc (.cells #[.int .i64 a.kind, .string a.sname, .string a.file, .string a.dest, .int .i64 a.at_, .int .i64 a.n, .slice ba a.bytes.length bc] 35)) a2 gf tf ba n1 c2 gn gc tn tc a.bytes.length bc t key y a hl2 h41 (hs2.mono hb1) HRK.out.wf hc2 (hx2.mono hb1).1 (right_wf HRK.out.right) rfl (hE.row.mono hb1) hE.cap HAW.out.1 HAW.out.2)
          have HC1 := Lib.hid (HC0.out.mono hb1)
          have HB1 := Lib.hid (below_step HB0.out hb1)
          have HF1 := Lib.hid (HF0.out.mono hb1)
          have qS := (hb1.block _ (lt_heap qS)).trans qS
          have qX := (hb1.block _ (lt_heap qX)).trans qX
          have cS := cell_of_one qS
          have cX0 := cell_of_block qX 0
          have cX1 := cell_of_block qX 1
          have cX2 := cell_of_block qX 2
          have d0 := cell_of_block rA 0
          have d1 := cell_of_block rA 1
          have d2 := cell_of_block rA 2
          have d3 := cell_of_block rA 3
          have d4 := cell_of_block rA 4
          have d5 := cell_of_block rA 5
          have d6 := cell_of_block rA 6
          simp only [List.getElem?_toArray, List.getElem?_cons_succ, List.getElem?_cons_zero] at cX0 cX1 cX2 d0 d1 d2 d3 d4 d5 d6
          have lS := lt_heap qS
          have lX := lt_heap qX
          have lA := lt_heap rA
          have HLZ6 := Lib.hid lX
          obtain ⟨D, hD⟩ : ∃ D, doR writeW t key y a = D := ⟨_, rfl⟩
          have HRS : Hid (snapTo key name (t1, y1) asks (k + 1) = if a.kind = 8 ∧ a.dest = name then (t, y) else if D.2.2 = 0 then (D.1, D.2.1) else (t, y)) := Lib.hid (by rw [HRT.out, ← hD]; rfl)
          rw [hD] at HDO
          clear hD HC0 HRT hE hs2 hx2 hl2 hc2 hb1 qS qX rA HB0 HF0
          go_upto_region 10 with fail
          generalize wr.alloc (.cells #[.int .i64 a.kind, .string a.sname, .string a.file, .string a.dest, .int .i64 a.at_, .int .i64 a.n, .slice ba a.bytes.length bc] 35) = W6 at *
          by_cases hfg : a.kind = 8 ∧ a.dest = name
          · rw [if_pos hfg] at HRS
            obtain ⟨h8, hdn⟩ := hfg
            have k8 : (a.kind == 8) = true := by rw [beq_iff_eq]; exact h8
            obtain ⟨kd, kd'⟩ := str_eq hdn
            clear HDO cS cX0 cX1 cX2 lS lX d1 d2 d4 d5 d6
            go_wp2_with fail
            go_roundw
            case rel => exact ⟨k + 1, by omega, by go_num, Lib.hid (by rw [HRS.out]; exact HC1.out), HB1, HF1⟩
            case measure => simp [intOf]; have := HQM.out; omega
          · rw [if_neg hfg] at HRS
            by_cases h8 : a.kind = 8
            · as_aux_lemma =>
              obtain ⟨kd, kd'⟩ := str_ne (a := a.dest) (b := name) (fun h => hfg ⟨h8, h⟩)
              have k8 : (a.kind == 8) = true := by rw [beq_iff_eq]; exact h8
              clear h8 hfg
              go_wp2_with fail
              refine HDO.out.mono ?_
              rintro e w7 ⟨a4, n4, c4, gf4, gn4, gc4, tf4, tn4, tc4, rfl, hb7, hn4, hs4, hc4, hx4⟩
              have hb8 : Below w7.heap.size w7 ((w7.alloc (.cells #[.slice a4 n4 c4] 24)).alloc (.cells #[.string D.2.1.nm, .slice gf4 gn4 gc4, .slice tf4 tn4 tc4] 28)) := ((Below.refl _ _).alloc (Nat.le_refl _) _).alloc (by simp) _
              have rS := heap_alloc2_old w7 (.cells #[.slice a4 n4 c4] 24) (.cells #[.string D.2.1.nm, .slice gf4 gn4 gc4, .slice tf4 tn4 tc4] 28)
              have rX := heap_alloc2_new w7 (.cells #[.slice a4 n4 c4] 24) (.cells #[.string D.2.1.nm, .slice gf4 gn4 gc4, .slice tf4 tn4 tc4] 28)
              have hb78 := below_step hb7 hb8
              have HC2 := Lib.hid (HC1.out.mono hb78)
              have HB2 := Lib.hid (below_step HB1.out hb78)
              have HF2 := Lib.hid (HF1.out.mono hb78)
              have HS5 := Lib.hid (hs4.mono hb8)
              have HLZ : Hid (bs + 1 < w7.heap.size) := Lib.hid (by
                obtain ⟨a6, c6, gf6, gn6, gc6, tf6, tn6, tc6, -, qX, -⟩ := HC1.out
                exact Nat.lt_of_lt_of_le (lt_heap qX) hb7.size)
              have HX5 := Lib.hid ((hx4.mono hb8).off (p := bs) (by have := HLZ6.out; omega))
              have HN5 := Lib.hid hn4
              have HC5 := Lib.hid hc4
              clear hs4 hx4 hn4 hc4 hb7 hb8 hb78 HC1 HB1 HF1 HDO cS cX0 cX1 cX2 d0 d1 d2 d3 d4 d5 d6 lS lX lA
              go_upto_region 12 with fail
              generalize (w7.alloc (Obj.cells #[Value.slice a4 n4 c4] 24)).alloc (Obj.cells #[Value.string D.2.1.nm, Value.slice gf4 gn4 gc4, Value.slice tf4 tn4 tc4] 28) = W7 at *
              obtain ⟨t5, y5, e5'⟩ := D
              simp only at *
              by_cases he : e5' = 0
              · subst he
                rw [if_pos rfl] at HRS
                have hn5 : n1 = n4 := by
                  have h1 := (HRH.out (k + 1) (by have := HQM.out; omega) (by omega)).sh.hold.len
                  rw [HRS.out] at h1
                  have h2 := HN5.out
                  have h3 := HN.out
                  have h4 := HBO.out.len
                  simp only at h1
                  omega
                subst hn5
                obtain ⟨a6, c6, gf6, gn6, gc6, tf6, tn6, tc6, qS, qX, -, -, -, -⟩ := HC2.out
                obtain ⟨z3, z4, hbz, -⟩ := put_set qS qX (by omega) (.slice a4 n1 c4) (.string y5.nm) (.slice gf4 gn4 gc4) (.slice tf4 tn4 tc4)
                have hsz := put_sto qS qX (by omega) (.slice a4 n1 c4) (.string y5.nm) (.slice gf4 gn4 gc4) (.slice tf4 tn4 tc4) HS5.out
                have hxz := HX5.out.go (w' := putW W7 bs (bs + 1) (.slice a4 n1 c4) (.string y5.nm) (.slice gf4 gn4 gc4) (.slice tf4 tn4 tc4)) (by rw [put_size]; exact Nat.le_refl _) (fun b hb hb' _ => put_other b (by omega) (by omega))
                have hfz := HF2.out.go (w' := putW W7 bs (bs + 1) (.slice a4 n1 c4) (.string y5.nm) (.slice gf4 gn4 gc4) (.slice tf4 tn4 tc4)) (by rw [put_size]; exact Nat.le_refl _) (fun b hb hb' _ => put_other b (by omega) (by omega))
                have hbz := hbz _ _ HB2.out HBE.out (by have := HBE.out; omega)
                have hca : CloneAt (putW W7 bs (bs + 1) (.slice a4 n1 c4) (.string y5.nm) (.slice gf4 gn4 gc4) (.slice tf4 tn4 tc4)) bs n1 (snapTo key name (t1, y1) asks (k + 1)) := by
                  rw [HRS.out]
                  exact ⟨a4, c4, gf4, gn4, gc4, tf4, tn4, tc4, z3, z4, HN5.out, hsz, HC5.out, hxz⟩
                unfold putW at hbz hca hfz
                have HCZ := Lib.hid hca
                have HBZ := Lib.hid hbz
                have HFZ := Lib.hid hfz
                have f0 := cell_of_one rS
                have f1 := cell_of_block rX 0
                have f2 := cell_of_block rX 1
                have f3 := cell_of_block rX 2
                have g0 := cell_of_one qS
                have g1 := cell_of_block qX 0
                have g2 := cell_of_block qX 1
                have g3 := cell_of_block qX 2
                simp only [List.getElem?_toArray, List.getElem?_cons_succ, List.getElem?_cons_zero] at f1 f2 f3 g1 g2 g3
                have lS := lt_heap rS
                have lX := lt_heap rX
                have mS := lt_heap qS
                have mX := lt_heap qX
                have yS := free_of_one qS
                have yX := fun j => free_of_block qX j
                have n1' : w7.heap.size ≠ bs := by have := HLZ.out; omega
                have n2' : w7.heap.size ≠ bs + 1 := by have := HLZ.out; omega
                have n3' : w7.heap.size + 1 ≠ bs := by have := HLZ.out; omega
                have n4' : w7.heap.size + 1 ≠ bs + 1 := by have := HLZ.out; omega
                have n5 : bs ≠ w7.heap.size := by have := HLZ.out; omega
                have n6 : bs ≠ w7.heap.size + 1 := by have := HLZ.out; omega
                have n7 : bs + 1 ≠ w7.heap.size := by have := HLZ.out; omega
                have n8 : bs + 1 ≠ w7.heap.size + 1 := by have := HLZ.out; omega
                clear z3 z4 hbz hsz hxz hca hfz HC2 HB2 HF2 HS5 HX5 rS rX qS qX
                go_wp2_with fail
                go_region
                all_goals
                  go_wp2_with fail
                  go_roundw
                  case rel => exact ⟨k + 1, by omega, by go_num, Lib.hid (HCZ.out.mono (Below.refl _ _).drew), Lib.hid (HBZ.out.drew), Lib.hid (HFZ.out.mono (Below.refl _ _).drew)⟩
                  case measure => simp [intOf]; have := HQM.out; omega
              · have he1 : (e5' == 0) = false := by rw [beq_eq_false_iff_ne]; exact he
                rw [if_neg he] at HRS
                clear he
                go_wp2_with fail
                go_roundw
                case rel => exact ⟨k + 1, by omega, by go_num, Lib.hid (by rw [HRS.out]; exact HC2.out), HB2, HF2⟩
                case measure => simp [intOf]; have := HQM.out; omega
            · as_aux_lemma =>
              have k8 : (a.kind == 8) = false := by rw [beq_eq_false_iff_ne]; exact h8
              clear h8 hfg
              go_wp2_with fail
              refine HDO.out.mono ?_
              rintro e w7 ⟨a4, n4, c4, gf4, gn4, gc4, tf4, tn4, tc4, rfl, hb7, hn4, hs4, hc4, hx4⟩
              have hb8 : Below w7.heap.size w7 ((w7.alloc (.cells #[.slice a4 n4 c4] 24)).alloc (.cells #[.string D.2.1.nm, .slice gf4 gn4 gc4, .slice tf4 tn4 tc4] 28)) := ((Below.refl _ _).alloc (Nat.le_refl _) _).alloc (by simp) _
              have rS := heap_alloc2_old w7 (.cells #[.slice a4 n4 c4] 24) (.cells #[.string D.2.1.nm, .slice gf4 gn4 gc4, .slice tf4 tn4 tc4] 28)
              have rX := heap_alloc2_new w7 (.cells #[.slice a4 n4 c4] 24) (.cells #[.string D.2.1.nm, .slice gf4 gn4 gc4, .slice tf4 tn4 tc4] 28)
              have hb78 := below_step hb7 hb8
              have HC2 := Lib.hid (HC1.out.mono hb78)
              have HB2 := Lib.hid (below_step HB1.out hb78)
              have HF2 := Lib.hid (HF1.out.mono hb78)
              have HS5 := Lib.hid (hs4.mono hb8)
              have HLZ : Hid (bs + 1 < w7.heap.size) := Lib.hid (by
                obtain ⟨a6, c6, gf6, gn6, gc6, tf6, tn6, tc6, -, qX, -⟩ := HC1.out
                exact Nat.lt_of_lt_of_le (lt_heap qX) hb7.size)
              have HX5 := Lib.hid ((hx4.mono hb8).off (p := bs) (by have := HLZ6.out; omega))
              have HN5 := Lib.hid hn4
              have HC5 := Lib.hid hc4
              clear hs4 hx4 hn4 hc4 hb7 hb8 hb78 HC1 HB1 HF1 HDO cS cX0 cX1 cX2 d0 d1 d2 d3 d4 d5 d6 lS lX lA
              go_upto_region 12 with fail
              generalize (w7.alloc (Obj.cells #[Value.slice a4 n4 c4] 24)).alloc (Obj.cells #[Value.string D.2.1.nm, Value.slice gf4 gn4 gc4, Value.slice tf4 tn4 tc4] 28) = W7 at *
              obtain ⟨t5, y5, e5'⟩ := D
              simp only at *
              by_cases he : e5' = 0
              · subst he
                rw [if_pos rfl] at HRS
                have hn5 : n1 = n4 := by
                  have h1 := (HRH.out (k + 1) (by have := HQM.out; omega) (by omega)).sh.hold.len
                  rw [HRS.out] at h1
                  have h2 := HN5.out
                  have h3 := HN.out
                  have h4 := HBO.out.len
                  simp only at h1
                  omega
                subst hn5
                obtain ⟨a6, c6, gf6, gn6, gc6, tf6, tn6, tc6, qS, qX, -, -, -, -⟩ := HC2.out
                obtain ⟨z3, z4, hbz, -⟩ := put_set qS qX (by omega) (.slice a4 n1 c4) (.string y5.nm) (.slice gf4 gn4 gc4) (.slice tf4 tn4 tc4)
                have hsz := put_sto qS qX (by omega) (.slice a4 n1 c4) (.string y5.nm) (.slice gf4 gn4 gc4) (.slice tf4 tn4 tc4) HS5.out
                have hxz := HX5.out.go (w' := putW W7 bs (bs + 1) (.slice a4 n1 c4) (.string y5.nm) (.slice gf4 gn4 gc4) (.slice tf4 tn4 tc4)) (by rw [put_size]; exact Nat.le_refl _) (fun b hb hb' _ => put_other b (by omega) (by omega))
                have hfz := HF2.out.go (w' := putW W7 bs (bs + 1) (.slice a4 n1 c4) (.string y5.nm) (.slice gf4 gn4 gc4) (.slice tf4 tn4 tc4)) (by rw [put_size]; exact Nat.le_refl _) (fun b hb hb' _ => put_other b (by omega) (by omega))
                have hbz := hbz _ _ HB2.out HBE.out (by have := HBE.out; omega)
                have hca : CloneAt (putW W7 bs (bs + 1) (.slice a4 n1 c4) (.string y5.nm) (.slice gf4 gn4 gc4) (.slice tf4 tn4 tc4)) bs n1 (snapTo key name (t1, y1) asks (k + 1)) := by
                  rw [HRS.out]
                  exact ⟨a4, c4, gf4, gn4, gc4, tf4, tn4, tc4, z3, z4, HN5.out, hsz, HC5.out, hxz⟩
                unfold putW at hbz hca hfz
                have HCZ := Lib.hid hca
                have HBZ := Lib.hid hbz
                have HFZ := Lib.hid hfz
                have f0 := cell_of_one rS
                have f1 := cell_of_block rX 0
                have f2 := cell_of_block rX 1
                have f3 := cell_of_block rX 2
                have g0 := cell_of_one qS
                have g1 := cell_of_block qX 0
                have g2 := cell_of_block qX 1
                have g3 := cell_of_block qX 2
                simp only [List.getElem?_toArray, List.getElem?_cons_succ, List.getElem?_cons_zero] at f1 f2 f3 g1 g2 g3
                have lS := lt_heap rS
                have lX := lt_heap rX
                have mS := lt_heap qS
                have mX := lt_heap qX
                have yS := free_of_one qS
                have yX := fun j => free_of_block qX j
                have n1' : w7.heap.size ≠ bs := by have := HLZ.out; omega
                have n2' : w7.heap.size ≠ bs + 1 := by have := HLZ.out; omega
                have n3' : w7.heap.size + 1 ≠ bs := by have := HLZ.out; omega
                have n4' : w7.heap.size + 1 ≠ bs + 1 := by have := HLZ.out; omega
                have n5 : bs ≠ w7.heap.size := by have := HLZ.out; omega
                have n6 : bs ≠ w7.heap.size + 1 := by have := HLZ.out; omega
                have n7 : bs + 1 ≠ w7.heap.size := by have := HLZ.out; omega
                have n8 : bs + 1 ≠ w7.heap.size + 1 := by have := HLZ.out; omega
                clear z3 z4 hbz hsz hxz hca hfz HC2 HB2 HF2 HS5 HX5 rS rX qS qX
                go_wp2_with fail
                go_region
                all_goals
                  go_wp2_with fail
                  go_roundw
                  case rel => exact ⟨k + 1, by omega, by go_num, Lib.hid (HCZ.out.mono (Below.refl _ _).drew), Lib.hid (HBZ.out.drew), Lib.hid (HFZ.out.mono (Below.refl _ _).drew)⟩
                  case measure => simp [intOf]; have := HQM.out; omega
              · have he1 : (e5' == 0) = false := by rw [beq_eq_false_iff_ne]; exact he
                rw [if_neg he] at HRS
                clear he
                go_wp2_with fail
                go_roundw
                case rel => exact ⟨k + 1, by omega, by go_num, Lib.hid (by rw [HRS.out]; exact HC2.out), HB2, HF2⟩
                case measure => simp [intOf]; have := HQM.out; omega
        · as_aux_lemma =>
          obtain rfl : k = qm := by omega
          have hlt' : ¬ (k : Int) < ((min qn 20 : Nat) : Int) := by have := HQM.out; omega
          have HRK := Lib.hid (HRH.out k (by have := HQM.out; omega) (by have := HQM.out; have := HQ.out; omega))
          have HLA := Lib.hid (snap_last HBO.out HRK.out (by have := HQM.out; omega))
          generalize snapTo key name (t1, y1) asks k = P at *
          obtain ⟨t, y⟩ := P
          have HSH := Lib.hid HRK.out.sh
          simp only at HSH HLA
          obtain ⟨a2, c2, gf, gn, gc, tf, tn, tc, qS, qX, hl2, hs2, hc2, hx2⟩ := HC0.out
          simp only at qX hl2 hs2 hx2
          have HCK := Lib.hid (setCheck_any wr a2 gf tf n1 c2 gn gc tn tc t key y hl2 (by omega) hs2 HSH.out.wf hx2.1 (right_wf HSH.out.right))
          rw [HSH.out.right.zero] at HCK
          have HQS := Lib.hid qS
          have HQX := Lib.hid qX
          have HL2 := Lib.hid hl2
          have HS2 := Lib.hid hs2
          have HC2 := Lib.hid hc2
          have HX2 := Lib.hid hx2
          have cS := cell_of_one qS
          have cX0 := cell_of_block qX 0
          have cX1 := cell_of_block qX 1
          have cX2 := cell_of_block qX 2
          simp only [List.getElem?_toArray, List.getElem?_cons_succ, List.getElem?_cons_zero] at cX0 cX1 cX2
          have lS := lt_heap qS
          have lX := lt_heap qX
          clear HRH qS qX hl2 hs2 hc2 hx2 HC0
          go_wp2_with fail
          refine HCK.out.mono ?_
          rintro e w4 ⟨rfl, hb4⟩
          replace HQS := Lib.hid ((hb4.block _ lS).trans HQS.out)
          replace HQX := Lib.hid ((hb4.block _ lX).trans HQX.out)
          replace HS2 := Lib.hid (HS2.out.mono hb4)
          replace HX2 := Lib.hid (HX2.out.mono hb4)
          replace HB0 := Lib.hid (below_step HB0.out hb4)
          replace HF0 := Lib.hid (HF0.out.mono hb4)
          have HHE := Lib.hid (held_any w4 a2 gf tf n1 c2 gn gc tn tc t key y HL2.out HS2.out HSH.out.wf HX2.out.1 HSH.out.right.zero)
          rw [HSH.out.held HBO.out] at HHE
          clear hb4 HCK cS cX0 cX1 cX2 lS lX
          have cS := cell_of_one HQS.out
          have cX0 := cell_of_block HQX.out 0
          have cX1 := cell_of_block HQX.out 1
          have cX2 := cell_of_block HQX.out 2
          simp only [List.getElem?_toArray, List.getElem?_cons_succ, List.getElem?_cons_zero] at cX0 cX1 cX2
          have lS := lt_heap HQS.out
          have lX := lt_heap HQX.out
          go_wp2_with fail
          refine HHE.out.mono ?_
          rintro e w5 ⟨rfl, hb5⟩
          replace HQS := Lib.hid ((hb5.block _ lS).trans HQS.out)
          replace HQX := Lib.hid ((hb5.block _ lX).trans HQX.out)
          replace HS2 := Lib.hid (HS2.out.mono hb5)
          replace HX2 := Lib.hid (HX2.out.mono hb5)
          replace HB0 := Lib.hid (below_step HB0.out hb5)
          replace HF0 := Lib.hid (HF0.out.mono hb5)
          have HDO := Lib.hid (do_any w5 a2 gf tf none n1 c2 gn gc tn tc 0 0 t key y (snpA 9 name) HL2.out h41 HS2.out HSH.out.wf HC2.out HX2.out.1 (right_wf HSH.out.right) rfl (.inl rfl) ⟨Nat.le_refl _, fun _ => rfl⟩ (by simp [snpA, Byt]) (by omega))
          obtain ⟨D, hD⟩ : ∃ D, doR writeW t key y (snpA 9 name) = D := ⟨_, rfl⟩
          rw [hD] at HDO HLA
          obtain ⟨t5, y5, e5'⟩ := D
          simp only at HDO HLA
          obtain ⟨g1, g2, g3, g4⟩ := HLA.out
          subst g1
          have HYF5 := Lib.hid g2
          have HSH5 := Lib.hid g3
          have HFB := Lib.hid g4
          clear hb5 HHE cS cX0 cX1 cX2 lS lX g2 g3 g4 HLA hD
          have cS := cell_of_one HQS.out
          have cX0 := cell_of_block HQX.out 0
          have cX1 := cell_of_block HQX.out 1
          have cX2 := cell_of_block HQX.out 2
          simp only [List.getElem?_toArray, List.getElem?_cons_succ, List.getElem?_cons_zero] at cX0 cX1 cX2
          have lS := lt_heap HQS.out
          have lX := lt_heap HQX.out
          go_wp2_with fail
          refine HDO.out.mono ?_
          rintro e w6 ⟨a4, n4, c4, gf4, gn4, gc4, tf4, tn4, tc4, rfl, hb7, hn4, hs4, hc4, hx4⟩
          simp only at hn4 hs4 hx4
          have hn5 : n1 = n4 := by
            have h1 := HSH5.out.hold.len
            have h3 := HN.out
            have h4 := HBO.out.len
            omega
          subst hn5
          have qS := (hb7.block _ lS).trans HQS.out
          have qX := (hb7.block _ lX).trans HQX.out
          obtain ⟨z3, z4, hbz, -⟩ := put_set qS qX (by omega) (.slice a4 n1 c4) (.string y5.nm) (.slice gf4 gn4 gc4) (.slice tf4 tn4 tc4)
          have hsz := put_sto qS qX (by omega) (.slice a4 n1 c4) (.string y5.nm) (.slice gf4 gn4 gc4) (.slice tf4 tn4 tc4) hs4
          have hxz := (hx4.off (p := bs) (by omega)).go (w' := putW w6 bs (bs + 1) (.slice a4 n1 c4) (.string y5.nm) (.slice gf4 gn4 gc4) (.slice tf4 tn4 tc4)) (by rw [put_size]; exact Nat.le_refl _) (fun b hb hb' _ => put_other b (by omega) (by omega))
          have hfz := (HF0.out.mono hb7).go (w' := putW w6 bs (bs + 1) (.slice a4 n1 c4) (.string y5.nm) (.slice gf4 gn4 gc4) (.slice tf4 tn4 tc4)) (by rw [put_size]; exact Nat.le_refl _) (fun b hb hb' _ => put_other b (by omega) (by omega))
          have hbz := hbz _ _ (below_step HB0.out hb7) HBE.out (by have := HBE.out; omega)
          have hca : CloneAt (putW w6 bs (bs + 1) (.slice a4 n1 c4) (.string y5.nm) (.slice gf4 gn4 gc4) (.slice tf4 tn4 tc4)) bs n1 (t5, y5) := ⟨a4, c4, gf4, gn4, gc4, tf4, tn4, tc4, z3, z4, hn4, hsz, hc4, hxz⟩
          unfold putW at hbz hca hfz z4 hxz
          have HCZ := Lib.hid hca
          have HBZ := Lib.hid hbz
          have HFZ := Lib.hid hfz
          have HXZ := Lib.hid hxz
          have HQX9 := Lib.hid z4
          have yS := free_of_one qS
          have yX := fun j => free_of_block qX j
          clear cS cX0 cX1 cX2
          have cS := cell_of_one qS
          have cX0 := cell_of_block qX 0
          have cX1 := cell_of_block qX 1
          have cX2 := cell_of_block qX 2
          simp only [List.getElem?_toArray, List.getElem?_cons_succ, List.getElem?_cons_zero] at cX0 cX1 cX2
          clear lS lX
          have lS := lt_heap qS
          have lX := lt_heap qX
          clear z3 z4 hbz hsz hxz hca hfz hb7 hs4 hc4 hn4 hx4 HDO HQS HQX HS2 HX2 HF0 HB0 HL2 HC2 qS qX HRK HSH
          go_upto_region 18 with fail
          generalize (((w6.setCell ⟨bs, 0, none⟩ (.slice a4 n1 c4)).setCell ⟨bs + 1, 0, none⟩ (.string y5.nm)).setCell ⟨bs + 1, 1, none⟩ (.slice gf4 gn4 gc4)).setCell ⟨bs + 1, 2, none⟩ (.slice tf4 tn4 tc4) = W9 at *
          have HF6 : Hid (fn1 ≤ 6) := Lib.hid (by have h1 := HFZ.out.1.flen; rw [HYF.out] at h1; have := HRX.out.files.len; omega)
          have HG6 : Hid (gn4 ≤ 6) := Lib.hid (by have h1 := HXZ.out.1.flen; rw [HYF5.out] at h1; have := HRX.out.files.len; omega)
          have HEQ := Lib.hid (equal_ents W9 gf4 fo1 gn4 gc4 fn1 fc1 x.files x.files (by have h1 := HXZ.out.1.flen; rw [HYF5.out] at h1; exact h1) (by have h1 := HFZ.out.1.flen; rw [HYF.out] at h1; exact h1) (by have := HG6.out; omega) (by have := HF6.out; omega) (by have h1 := HXZ.out.1.frow; rw [HYF5.out] at h1; exact h1) (by have h1 := HFZ.out.1.frow; rw [HYF.out] at h1; exact h1))
          rw [isB_self] at HEQ
          clear cS cX0 cX1 cX2 lS lX yS yX HXZ
          have cX1 := cell_of_block HQX9.out 1
          simp only [List.getElem?_toArray, List.getElem?_cons_succ, List.getElem?_cons_zero] at cX1
          have lX := lt_heap HQX9.out
          go_wp2_with fail
          refine HEQ.out.mono ?_
          rintro e wa ⟨rfl, hba⟩
          have HC0 := Lib.hid (HCZ.out.mono hba)
          have HB0 := Lib.hid (below_step HBZ.out hba)
          have HF0 := Lib.hid (HFZ.out.mono hba)
          clear hba HEQ cX1 lX HCZ HBZ HFZ HQX9
          go_wp2_with fail
          go_loopw [115] (fun i wr => ∃ j : Nat, j ≤ fn1 ∧ i = .int .i64 j ∧ Hid (CloneAt wr bs n1 (t5, y5)) ∧ Hid (Below w1.heap.size w1 wr) ∧ Hid (SetOff bs wr fo1 fn1 fc1 so1 sn1 sc1 y1)) (fun i _ => fn1 - (intOf i).toNat)
          case atStart => exact ⟨0, Nat.zero_le _, rfl, HC0, HB0, HF0⟩
          case round => as_aux_lemma =>
            clear HC0 HB0 HF0
            obtain ⟨j, hjn, rfl, HC0, HB0, HF0⟩ := hrel
            by_cases hlt : j < fn1
            · as_aux_lemma =>
              have hlt' : (j : Int) < fn1 := by omega
              have hf6 := HF6.out
              have hfr := HF0.out.1.frow
              have hfl := HF0.out.1.flen
              rw [HYF.out] at hfr hfl
              have hjl : j < x.files.length := by omega
              obtain ⟨b, o, rfl, hq⟩ := hfr.at j hjl
              have hE := hq j hjl
              have hmem := List.getElem_mem hjl
              clear hfr hfl hq
              generalize x.files[j] = E at *
              have h1 := (HRX.out.files.each _ hmem).2
              have h2 := HSH5.out.right.all E (List.mem_append.2 (.inl (by rw [HYF5.out]; exact hmem)))
              have h3 := HFB.out _ hmem
              have HIZ := Lib.hid ((ents_wf HRX.out.files) E hmem).2
              obtain ⟨r1, r2⟩ := read_same h1 h2 h3
              have HRR := Lib.hid r1
              have HRB := Lib.hid (readR_byt s key E.root E.size 0 256)
              have e0 := hE.nm
              have e1 := hE.root
              have e2 := hE.size
              have lb := hE.lt
              have hb1 : Below _ wr (wr.alloc (.cells #[.string E.nm, .int .i64 E.root, .int .i64 E.size] 47)) := (Below.refl _ _).alloc (Nat.le_refl _) _
              have rE := heap_alloc_new wr (.cells #[.string E.nm, .int .i64 E.root, .int .i64 E.size] 47)
              have HC1 := Lib.hid (HC0.out.mono hb1)
              have HB1 := Lib.hid (below_step HB0.out hb1)
              have HF1 := Lib.hid (HF0.out.mono hb1)
              have HRE := Lib.hid rE
              clear rE hE HC0 HB0 HF0 hb1 h1 h2 h3 r1 hmem
              go_upto_region 23 with fail
              generalize wr.alloc (.cells #[.string E.nm, .int .i64 E.root, .int .i64 E.size] 47) = W6 at *
              have qS := (HB1.out.block _ (lt_heap HPS.out)).trans HPS.out
              have cS := cell_of_one qS
              have d1 := cell_of_block HRE.out 1
              have d2 := cell_of_block HRE.out 2
              simp only [List.getElem?_toArray, List.getElem?_cons_succ, List.getElem?_cons_zero] at d1 d2
              have lS := lt_heap qS
              have lE := lt_heap HRE.out
              have HLK := Lib.hid (read_any W6 ao n1 cap s key E.root E.size 0 256 HN.out (by omega) (HS1.out.mono HB1.out) hwf HIZ.out HC.out)
              obtain ⟨R, hR⟩ : ∃ R, readR s key E.root E.size 0 256 = R := ⟨_, rfl⟩
              rw [hR] at HLK HRR HRB r2
              obtain ⟨Rb, Re⟩ := R
              simp only at r2 HRB
              subst r2
              clear e0 e1 e2 lb qS hR
              go_wp2_with fail
              refine HLK.out.mono ?_
              rintro e w7 ⟨ra, rn, rc, rfl, hrn, hrr, hrc, hb2⟩
              simp only at hrn hrr
              have HC2 := Lib.hid (HC1.out.mono hb2)
              have HB2 := Lib.hid (below_step HB1.out hb2)
              have HF2 := Lib.hid (HF1.out.mono hb2)
              have HRN := Lib.hid hrn
              have HRW := Lib.hid hrr
              have HRE2 := Lib.hid ((hb2.block _ lE).trans HRE.out)
              clear hb2 hrn hrr hrc HC1 HB1 HF1 HLK cS d1 d2 lS lE HRE
              obtain ⟨a2, c2, gf, gn, gc, tf, tn, tc, qS, -, hl2, hs2, hc2, -⟩ := HC2.out
              simp only at hl2 hs2
              have cS := cell_of_one qS
              have d1 := cell_of_block HRE2.out 1
              have d2 := cell_of_block HRE2.out 2
              simp only [List.getElem?_toArray, List.getElem?_cons_succ, List.getElem?_cons_zero] at d1 d2
              have lS := lt_heap qS
              have lE := lt_heap HRE2.out
              have HLK := Lib.hid (read_any w7 a2 n1 c2 t5 key E.root E.size 0 256 hl2 (by omega) hs2 HSH5.out.wf HIZ.out hc2)
              rw [HRR.out] at HLK
              clear qS hl2 hs2 hc2
              go_wp2_with fail
              refine HLK.out.mono ?_
              rintro e w8 ⟨ra', rn', rc', rfl, hrn, hrr, hrc, hb2⟩
              simp only at hrn hrr
              have HC3 := Lib.hid (HC2.out.mono hb2)
              have HB3 := Lib.hid (below_step HB2.out hb2)
              have HF3 := Lib.hid (HF2.out.mono hb2)
              have HBQ := Lib.hid (bytes_equal_n ra ra' rn rn' rc rc' Rb Rb w8 HRN.out hrn (HRW.out.mono hb2) hrr HRB.out HRB.out)
              rw [beq_self_eq_true] at HBQ
              clear hb2 hrn hrr hrc HC2 HB2 HF2 HLK cS d1 d2 lS lE HRE2 HRW HRN
              go_wp2_with fail
              refine HBQ.out.mono ?_
              rintro e w9 ⟨rfl, rfl⟩
              clear HBQ
              go_wp2_with fail
              go_roundw
              case rel => exact ⟨j + 1, by omega, by go_num, HC3, HB3, HF3⟩
              case measure => simp [intOf]; omega
            · as_aux_lemma =>
              obtain rfl : j = fn1 := by omega
              have hlt' : ¬ (j : Int) < j := by omega
              have hca := HC0.out
              obtain ⟨a2, c2, gf, gn, gc, tf, tn, tc, qS, qX, hl2, hs2, hc2, hx2⟩ := hca
              simp only at qX hl2 hs2 hx2
              have HDS := Lib.hid (destroy_any wr a2 gf tf n1 c2 gn gc tn tc t5 key y5 hl2 h41 hs2 HSH5.out.wf hc2 hx2.1 (right_wf HSH5.out.right))
              rw [HSH5.out.destroy HBO.out] at HDS
              have cS := cell_of_one qS
              have cX0 := cell_of_block qX 0
              have cX1 := cell_of_block qX 1
              have cX2 := cell_of_block qX 2
              simp only [List.getElem?_toArray, List.getElem?_cons_succ, List.getElem?_cons_zero] at cX0 cX1 cX2
              have lS := lt_heap qS
              have lX := lt_heap qX
              clear qS qX hl2 hs2 hc2 hx2 HC0 HF0
              go_wp2_with fail
              refine HDS.out.mono ?_
              rintro e w6 ⟨a5, n5, c5, rfl, hb4, hn5, hs5, -⟩
              simp only at hn5 hs5
              have hb5 : Below w6.heap.size w6 (w6.alloc (.cells #[.slice a5 n5 c5] 24)) := (Below.refl _ _).alloc (Nat.le_refl _) _
              have rS := heap_alloc_new w6 (.cells #[.slice a5 n5 c5] 24)
              have HB1 := Lib.hid (below_step HB0.out (below_step hb4 hb5))
              have HS5 := Lib.hid (hs5.mono hb5)
              have HN5 := Lib.hid hn5
              clear hb4 hb5 hs5 hn5 HB0 HDS cS cX0 cX1 cX2 lS lX
              go_upto_region 29 with fail
              generalize w6.alloc (.cells #[.slice a5 n5 c5] 24) = W6 at *
              have HRS5 := Lib.hid rS
              clear rS
              have pS := (HB1.out.block _ (lt_heap HPS.out)).trans HPS.out
              have pX := (HB1.out.block _ (lt_heap HPX.out)).trans HPX.out
              have cS := cell_of_one pS
              have cX0 := cell_of_block pX 0
              have cX1 := cell_of_block pX 1
              have cX2 := cell_of_block pX 2
              simp only [List.getElem?_toArray, List.getElem?_cons_succ, List.getElem?_cons_zero] at cX0 cX1 cX2
              have lS := lt_heap pS
              have lX := lt_heap pX
              have HDS := Lib.hid (destroy_any W6 ao fo so n1 cap fn fc sn sc s key x HN.out h41 (HS1.out.mono HB1.out) hwf HC.out (HX1.out.mono HB1.out) HWX.out)
              rw [HDX.out] at HDS
              clear pS pX
              go_wp2_with fail
              refine HDS.out.mono ?_
              rintro e w7 ⟨a6, n6, c6, rfl, hb4, hn6, hs6, -⟩
              simp only at hn6 hs6
              have hb5 : Below w7.heap.size w7 (w7.alloc (.cells #[.slice a6 n6 c6] 24)) := (Below.refl _ _).alloc (Nat.le_refl _) _
              have rS := heap_alloc_new w7 (.cells #[.slice a6 n6 c6] 24)
              have hb45 := below_step hb4 hb5
              have HB2 := Lib.hid (below_step HB1.out hb45)
              have HS6 := Lib.hid (hs6.mono hb5)
              have HN6 := Lib.hid hn6
              replace HS5 := Lib.hid (HS5.out.mono hb45)
              replace HRS5 := Lib.hid ((hb45.block _ (lt_heap HRS5.out)).trans HRS5.out)
              clear hb4 hb5 hb45 hs6 hn6 HB1 HDS cS cX0 cX1 cX2 lS lX
              go_upto_region 30 with fail
              generalize w7.alloc (.cells #[.slice a6 n6 c6] 24) = W7 at *
              have c0 := cell_of_one rS
              have d0 := cell_of_one HRS5.out
              have l0 := lt_heap rS
              have l1 := lt_heap HRS5.out
              have HCW := Lib.hid (Good.wf (Good.of_check HBO.out.chk HBO.out.wf))
              go_wp2_with fail
              refine (same_any _ _ _ _ _ _ _ cb cb HN6.out HN5.out (by have := HN6.out; have := HBO.out.len; have := HN.out; omega) (by have := HN5.out; have := HBO.out.len; have := HN.out; omega) HS6.out HS5.out HBO.out.wf HBO.out.wf).mono ?_
              rw [show sameS cb cb = true from by unfold sameS; simp]
              rintro e w8 ⟨rfl, hb6⟩
              have hbF := below_step HBW1.out (below_step HB2.out hb6)
              clear c0 d0 l0 l1
              go_wp2_with fail
              go_ret
              exact ⟨rfl, hbF⟩
end Go.Proofs.Ytgeacpfenhaioaa
