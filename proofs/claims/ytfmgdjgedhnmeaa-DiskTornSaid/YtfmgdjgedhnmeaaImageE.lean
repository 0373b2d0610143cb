/- image's reader: entries. -/
import Derived.Test.YtfmgdjgedhnmeaaImageR
import Derived.Test.YtfmgdjgedhnmeaaImageB
import Derived.Deep.RegionLaw
import Derived.Laws.BytesArg
namespace Go.Proofs.Ytfmgdjgedhnmeaa
open Go.RowKit
set_option linter.unusedVariables false
set_option linter.unusedSimpArgs false

theorem rep_succ {α : Type} (f : Rd α) : ∀ (k : Nat) (b : List Int), repR f (k + 1) b = match repR f k b with | none => none | some (l, r) => match f r with | none => none | some (x, r') => some (l ++ [x], r')
  | 0, b => by
    simp only [repR, Rd.then, Rd.ret]
    cases f b with
    | none => rfl
    | some z => obtain ⟨x, r⟩ := z; rfl
  | k + 1, b => by
    rw [repR]
    unfold Rd.then
    rw [show repR f (k + 1) = f.then fun x => (repR f k).then fun l => Rd.ret (x :: l) from rfl]
    cases hf : f b with
    | none => simp [Rd.then, hf]
    | some z =>
      obtain ⟨x, r⟩ := z
      simp only [Rd.then, hf]
      have ih := rep_succ f k r
      rw [repR] at ih
      simp only [Rd.then] at ih
      rw [ih]
      cases hr : repR f k r with
      | none => rfl
      | some z2 =>
        obtain ⟨l, r2⟩ := z2
        simp only [Rd.ret]
        cases hf2 : f r2 with
        | none => rfl
        | some z3 => obtain ⟨y, r3⟩ := z3; rfl
theorem rep_some {α : Type} {f : Rd α} {k : Nat} {b r r' : List Int} {l : List α} {x : α} (h : repR f k b = some (l, r)) (hf : f r = some (x, r')) : repR f (k + 1) b = some (l ++ [x], r') := by rw [rep_succ, h]; simp [hf]
theorem rep_none {α : Type} {f : Rd α} {k : Nat} {b r : List Int} {l : List α} (h : repR f k b = some (l, r)) (hf : f r = none) : ∀ n, k < n → repR f n b = none := by
  intro n
  induction n with
  | zero => intro h; omega
  | succ n ih =>
    intro hk
    rw [rep_succ]
    rcases (show k = n ∨ k < n from by omega) with rfl | hlt
    · rw [h]; simp [hf]
    · rw [ih hlt]
theorem rep_len {α : Type} {f : Rd α} : ∀ {k : Nat} {b r : List Int} {l : List α}, repR f k b = some (l, r) → l.length = k
  | 0, b, r, l, h => by
    obtain ⟨rfl, rfl⟩ := ret_some.1 h
    rfl
  | k + 1, b, r, l, h => by
    obtain ⟨x, q, e1, h⟩ := then_some.1 h
    obtain ⟨l2, q2, e2, h⟩ := then_some.1 h
    obtain ⟨rfl, rfl⟩ := ret_some.1 h
    rw [List.length_cons, rep_len e2]
/-- what is left is the end of what was there -/
def Tail {α : Type} (f : Rd α) : Prop := ∀ b x r, f b = some (x, r) → ∃ p, b = p ++ r
theorem Tail.ret {α : Type} (x : α) : Tail (Rd.ret x) := fun b y r h => by
  obtain ⟨rfl, rfl⟩ := ret_some.1 h
  exact ⟨[], rfl⟩
theorem Tail.then {α β : Type} {f : Rd α} {g : α → Rd β} (h1 : Tail f) (h2 : ∀ x, Tail (g x)) : Tail (f.then g) := fun b y r h => by
  obtain ⟨x, q, e1, e2⟩ := then_some.1 h
  obtain ⟨p, rfl⟩ := h1 _ _ _ e1
  obtain ⟨p2, rfl⟩ := h2 x _ _ _ e2
  exact ⟨p ++ p2, by rw [List.append_assoc]⟩
theorem Tail.take (n : Nat) : Tail (takeR n) := fun b x r h => by
  unfold takeR at h
  split at h
  · simp only [Option.some.injEq, Prod.mk.injEq] at h
    obtain ⟨rfl, rfl⟩ := h
    exact ⟨b.take n, (List.take_append_drop n b).symm⟩
  · cases h
theorem Tail.get : Tail getR2 := fun b x r h => by
  match b, h with
  | u :: v :: b, h =>
    simp only [getR2, Option.some.injEq, Prod.mk.injEq] at h
    obtain ⟨rfl, rfl⟩ := h
    exact ⟨[u, v], rfl⟩
theorem Tail.rep {α : Type} {f : Rd α} (h : Tail f) : ∀ n, Tail (repR f n)
  | 0 => Tail.ret []
  | n + 1 => Tail.then h fun x => Tail.then (Tail.rep h n) fun l => Tail.ret _
theorem Tail.str : Tail strR := Tail.get.then fun n => (Tail.take _).then fun l => Tail.ret _
theorem Tail.ent : Tail entR := Tail.str.then fun _ => Tail.get.then fun _ => Tail.get.then fun _ => Tail.ret _
theorem Tail.ents : Tail entsR := Tail.get.then fun _ => Tail.rep Tail.ent _
theorem Tail.snp : Tail snpR := Tail.str.then fun _ => Tail.ents.then fun _ => Tail.ret _
theorem Tail.set : Tail setR2 := Tail.str.then fun _ => Tail.ents.then fun _ => Tail.get.then fun _ => (Tail.rep Tail.snp _).then fun _ => Tail.ret _
theorem Tail.blk : Tail blkR := Tail.get.then fun _ => Tail.get.then fun _ => Tail.get.then fun _ => (Tail.rep Tail.get _).then fun _ => Tail.get.then fun _ => (Tail.take _).then fun _ => Tail.ret _
theorem Tail.ten : Tail tenR := Tail.get.then fun _ => Tail.get.then fun _ => Tail.get.then fun _ => (Tail.rep Tail.set _).then fun _ => Tail.ret _
/-- bytes that may be read -/
def RdOk (bs : List Int) : Prop := Byt bs ∧ bs.length ≤ 20000
theorem RdOk.tail {α : Type} {f : Rd α} (ht : Tail f) {b r : List Int} {x : α} (h : RdOk b) (hf : f b = some (x, r)) : RdOk r := by
  obtain ⟨p, rfl⟩ := ht _ _ _ hf
  exact ⟨h.1.right, by have := h.2; rw [List.length_append] at this; omega⟩
theorem get_w16 {b r : List Int} {n : Int} (hb : RdOk b) (h : getR2 b = some (n, r)) : W16 n := (Inv.get b n r hb.1 h).2

/-- get: its two ways -/
theorem rget_some {w : World} {rb B : Nat} {bs r : List Int} {n : Int} (hR : RdAt w rb B bs) (hB : B ≤ rb) (ho : RdOk bs) (h : getR2 bs = some (n, r)) :
    Calls Try.prog 125 #[.pointer (some ⟨rb, 0, none⟩)] w fun e w' => e = .returned (.int .i64 n) ∧ RdAt w' rb B r ∧ w.grownBy w' (some rb) := by
  refine (rget_any w rb B bs hR hB ho.2 ho.1).mono ?_
  rintro e w' ⟨hg, he⟩
  rw [h] at he
  obtain ⟨v, rfl, rfl, hr⟩ := he
  exact ⟨rfl, hr, hg⟩
theorem rget_none {w : World} {rb B : Nat} {bs : List Int} (hR : RdAt w rb B bs) (hB : B ≤ rb) (ho : RdOk bs) (h : getR2 bs = none) :
    Calls Try.prog 125 #[.pointer (some ⟨rb, 0, none⟩)] w fun e w' => e = .panicked [{ v := .iface 166 (.agg #[]), recovered := false }] ∧ w.grownBy w' (some rb) := by
  refine (rget_any w rb B bs hR hB ho.2 ho.1).mono ?_
  rintro e w' ⟨hg, he⟩
  rw [h] at he
  exact ⟨he, hg⟩
theorem rbytes_some {w : World} {rb B : Nat} {bs r l : List Int} {n : Int} (hR : RdAt w rb B bs) (hB : B ≤ rb) (ho : RdOk bs) (hn : W16 n) (h : takeR n.toNat bs = some (l, r)) :
    Calls Try.prog 126 #[.pointer (some ⟨rb, 0, none⟩), .int .i64 n] w fun e w' => (∃ v, e = .returned v ∧ Own .u8 5 w.heap.size w' v l) ∧ RdAt w' rb B r ∧ w.grownBy w' (some rb) := by
  have hn0 : ((n.toNat : Nat) : Int) = n := by have := hn.1; omega
  have := rbytes_any w rb B bs n.toNat hR hB ho.2 (by have := hn.2; have := hn.1; omega)
  rw [hn0] at this
  refine this.mono ?_
  rintro e w' ⟨hg, he⟩
  rw [h] at he
  obtain ⟨v, rfl, hv, hr⟩ := he
  exact ⟨⟨v, rfl, hv⟩, hr, hg⟩
theorem rbytes_none {w : World} {rb B : Nat} {bs : List Int} {n : Int} (hR : RdAt w rb B bs) (hB : B ≤ rb) (ho : RdOk bs) (hn : W16 n) (h : takeR n.toNat bs = none) :
    Calls Try.prog 126 #[.pointer (some ⟨rb, 0, none⟩), .int .i64 n] w fun e w' => e = .panicked [{ v := .iface 166 (.agg #[]), recovered := false }] ∧ w.grownBy w' (some rb) := by
  have hn0 : ((n.toNat : Nat) : Int) = n := by have := hn.1; omega
  have := rbytes_any w rb B bs n.toNat hR hB ho.2 (by have := hn.2; have := hn.1; omega)
  rw [hn0] at this
  refine this.mono ?_
  rintro e w' ⟨hg, he⟩
  rw [h] at he
  exact ⟨he, hg⟩
/-- bytes as a string -/
theorem conv_row {w : World} {e base n c : Nat} {ao : Option Addr} {xs : List Int} (h : Own .u8 e base w (.slice ao n c) xs) : (convert 38 9 (.slice ao n c)).run Try.prog w = .ok (.string (strOf xs)) w := by
  have hs : strOf xs = strOfNums xs := rfl
  rw [hs]
  rcases h.block with ⟨e1, rfl⟩ | ⟨g, cap, cur, e1, -, hh, -⟩
  · obtain ⟨rfl, rfl, rfl⟩ := slice_n e1
    exact run_convert_bytes_nil (P := Try.prog) w 38 5 Try.underlying38 Try.underlying5 0 0 9 Try.underlying9
  · obtain ⟨rfl, rfl, rfl⟩ := slice_n e1
    refine run_convert_bytes_arg w 38 5 Try.underlying38 Try.underlying5 g 0 xs.length c xs rfl (fun i hi => ?_) 9 Try.underlying9
    rw [Nat.zero_add, h.cell i hi, List.getD_eq_getElem?_getD, List.getElem?_eq_getElem hi]
    rfl
theorem conv_later {w w' : World} {e n c rb : Nat} {ao : Option Addr} {xs : List Int} {base : Nat} (h : Own .u8 e base w (.slice ao n c) xs) (hg : w.grownBy w' (some rb)) (hb : rb < base) : (convert 38 9 (.slice ao n c)).run Try.prog w' = .ok (.string (strOf xs)) w' := conv_row (h.grown' hg hb)

/-- a call of the reader, both its ways at once -/
theorem rget_or {w : World} {rb B : Nat} {bs : List Int} {Post : Ending → World → Prop} (hR : RdAt w rb B bs) (hB : B ≤ rb) (ho : RdOk bs)
    (hp : ∀ w', getR2 bs = none → w.grownBy w' (some rb) → Post (.panicked [{ v := .iface 166 (.agg #[]), recovered := false }]) w')
    (hr : ∀ n r w', Hid (getR2 bs = some (n, r)) → Hid (RdAt w' rb B r) → Hid (RdOk r) → Hid (W16 n) → w.grownBy w' (some rb) → Post (.returned (.int .i64 n)) w') :
    Calls Try.prog 125 #[.pointer (some ⟨rb, 0, none⟩)] w Post := by
  cases h : getR2 bs with
  | none =>
    refine (rget_none hR hB ho h).mono ?_
    rintro e w' ⟨rfl, hg⟩
    exact hp w' h hg
  | some z =>
    obtain ⟨n, r⟩ := z
    refine (rget_some hR hB ho h).mono ?_
    rintro e w' ⟨rfl, h1, hg⟩
    exact hr n r w' (Lib.hid h) (Lib.hid h1) (Lib.hid (ho.tail Tail.get h)) (Lib.hid (get_w16 ho h)) hg
theorem rbytes_or {w : World} {rb B : Nat} {bs : List Int} {n : Int} {Post : Ending → World → Prop} (hR : RdAt w rb B bs) (hB : B ≤ rb) (ho : RdOk bs) (hn : W16 n)
    (hp : ∀ w', takeR n.toNat bs = none → w.grownBy w' (some rb) → Post (.panicked [{ v := .iface 166 (.agg #[]), recovered := false }]) w')
    (hr : ∀ l r ao k c w', Hid (takeR n.toNat bs = some (l, r)) → Hid (RdAt w' rb B r) → Hid (RdOk r) → Hid (Own .u8 5 w.heap.size w' (.slice ao k c) l) → w.grownBy w' (some rb) → Post (.returned (.slice ao k c)) w') :
    Calls Try.prog 126 #[.pointer (some ⟨rb, 0, none⟩), .int .i64 n] w Post := by
  cases h : takeR n.toNat bs with
  | none =>
    refine (rbytes_none hR hB ho hn h).mono ?_
    rintro e w' ⟨rfl, hg⟩
    exact hp w' h hg
  | some z =>
    obtain ⟨l, r⟩ := z
    refine (rbytes_some hR hB ho hn h).mono ?_
    rintro e w' ⟨⟨v, rfl, hv⟩, h1, hg⟩
    obtain ⟨ao, k, c, rfl⟩ := hv.shapeN
    exact hr l r ao k c w' (Lib.hid h) (Lib.hid h1) (Lib.hid (ho.tail (Tail.take _) h)) (Lib.hid hv) hg
theorem str_none1 {b : List Int} (h : getR2 b = none) : strR b = none := by unfold strR Rd.then; rw [h]
theorem str_none2 {b r : List Int} {n : Int} (h1 : getR2 b = some (n, r)) (h : takeR n.toNat r = none) : strR b = none := by simp only [strR, Rd.then, h1, h]
theorem str_some {b r r2 l : List Int} {n : Int} (h1 : getR2 b = some (n, r)) (h2 : takeR n.toNat r = some (l, r2)) : strR b = some (strOf l, r2) := by simp only [strR, Rd.then, h1, h2, Rd.ret]
theorem ent_none0 {b : List Int} (h : strR b = none) : entR b = none := by simp only [entR, Rd.then, h]
theorem ent_none1 {b r : List Int} {s : ByteArray} (h1 : strR b = some (s, r)) (h : getR2 r = none) : entR b = none := by simp only [entR, Rd.then, h1, h]
theorem ent_none2 {b r r2 : List Int} {s : ByteArray} {n : Int} (h1 : strR b = some (s, r)) (h2 : getR2 r = some (n, r2)) (h : getR2 r2 = none) : entR b = none := by simp only [entR, Rd.then, h1, h2, h]
theorem ent_some {b r r2 r3 : List Int} {s : ByteArray} {n m : Int} (h1 : strR b = some (s, r)) (h2 : getR2 r = some (n, r2)) (h3 : getR2 r2 = some (m, r3)) : entR b = some (⟨s, n, m⟩, r3) := by simp only [entR, Rd.then, h1, h2, h3, Rd.ret]

theorem RdAt.own {w w' : World} {rb B : Nat} {bs : List Int} {r : Option Nat} (h : RdAt w rb B bs) (k : w.grownBy w' r) (hr : ∀ g, r = some g → g ≠ rb ∧ B ≤ g) : RdAt w' rb B bs := by
  obtain ⟨ao, cap, h1, h2, h3, h4⟩ := h
  refine ⟨ao, cap, (k.block _ (lt_heap h1) (fun e => (hr _ e.symm).1 rfl)).trans h1, ?_, h3, h4⟩
  rcases h2 with h2 | ⟨b, o, e, hlt, h2⟩
  · exact .inl h2
  · refine .inr ⟨b, o, e, hlt, fun i hi => ?_⟩
    have hc := h2 i hi
    rw [World.cell?_of_block (w := w) (k.block b (World.block_lt_of_cell? _ _ hc) (fun e => by have := (hr _ e.symm).2; omega))]
    exact hc
theorem grown_own {w1 w5 w6 : World} {rb : Nat} {r : Option Nat} (h : w1.grownBy w5 (some rb)) (k : w5.grownBy w6 r) (hr : ∀ g, r = some g → w1.heap.size ≤ g) : w1.grownBy w6 (some rb) :=
  ⟨k.os.trans h.os, k.tape.trans h.tape, k.output.trans h.output, Nat.le_trans h.size k.size, fun b hb hne => (k.block b (Nat.lt_of_lt_of_le hb h.size) (fun e => by have := hr _ e.symm; omega)).trans (h.block b hb hne)⟩

theorem info_ent : (Try.prog.info? 37).map (fun i => (i.zero, i.size, i.bytes)) = some (some (.agg #[.string ⟨#[]⟩, .int .i64 0, .int .i64 0]), 3, 32) := by kernel_rfl

set_option maxRecDepth 100000 in
set_option maxHeartbeats 8000000 in
theorem rents_any (w : World) (rb B : Nat) (bs : List Int) (hR : RdAt w rb B bs) (hB : B ≤ rb) (ho : RdOk bs) :
    Calls Try.prog 127 #[.pointer (some ⟨rb, 0, none⟩)] w fun e w' => RdEnd entsR (fun w' v l => entRep.Grow w' w.heap.size v l) rb B bs w e w' := by
  have hrb := hR.box
  cases h0 : getR2 bs with
  | none =>
    have HT : Hid (entsR bs = none) := Lib.hid (by unfold entsR Rd.then; rw [h0])
    have HC := Lib.hid (rget_none hR hB ho h0)
    clear h0
    go_enter Try.func127, Try.ntmps127
    go_wp2_with fail
    refine HC.out.mono ?_
    rintro e w2 ⟨rfl, hg⟩
    go_wp2
    simp only [bodyPost, Exit.panic.injEq]
    exact ⟨trivial, RdEnd.torn HT.out hg⟩
  | some z =>
    obtain ⟨n, r0⟩ := z
    have hn := get_w16 ho h0
    have ho0 := ho.tail Tail.get h0
    have HE : Hid (entsR bs = repR entR n.toNat r0) := Lib.hid (by unfold entsR Rd.then; rw [h0])
    have HC := Lib.hid (rget_some hR hB ho h0)
    have HO := Lib.hid ho0
    obtain ⟨hn0, hn1⟩ := hn
    clear h0 hR ho ho0
    go_enter Try.func127, Try.ntmps127
    go_wp2_with fail
    refine HC.out.mono ?_
    rintro e w1 ⟨rfl, hR1, hg1⟩
    clear HC
    have hsz1 := hg1.size
    go_wp2
    go_loopw [3, 6] (fun v i wr => ∃ (k : Nat) (l : List Ent) (r : List Int), (k : Int) ≤ n ∧ i = .int .i64 k ∧ Hid (repR entR k r0 = some (l, r)) ∧ Hid (RdAt wr rb B r) ∧ Hid (entRep.Grow wr w1.heap.size v l) ∧ w1.grownBy wr (some rb)) (fun _ i _ => n.toNat - (intOf i).toNat)
    case atStart => exact ⟨0, [], r0, hn0, rfl, Lib.hid rfl, Lib.hid hR1, Lib.hid (Rep.Grow.nil _ _), grown_of_below (Below.refl _ _) _⟩
    case round =>
      clear hR1
      obtain ⟨k, l, r, hkn, rfl, HK, HR, HG, hg⟩ := hrel
      have hsz := hg.size
      have HLL := Lib.hid (rep_len HK.out)
      by_cases hlt : (k : Int) < n
      · have hor := Lib.hid (HO.out.tail (Tail.rep Tail.ent k) HK.out)
        obtain ⟨va, vn, vc, rfl⟩ : ∃ a n c, u3 = .slice a n c := by
          obtain ⟨ao, cap, e, -⟩ := HG.out.shape
          exact ⟨_, _, _, e⟩
        have HD := Lib.hid (show RdAt wr.drew rb B r from HR.out.mono (Below.refl _ _).drew (by have := HR.out.box; omega))
        have hlast : ∀ x, w1.grownBy x (some rb) → Hid (entR r = none) → RdEnd entsR (fun w' v l => entRep.Grow w' w.heap.size v l) rb B bs w Torn x := fun x hx hnone => RdEnd.torn (by rw [HE.out]; exact rep_none HK.out hnone.out _ (by omega)) (grown_trans hg1 hx)
        have HLAST := Lib.hid hlast
        clear hlast
        have hll : l.length ≤ 100000 := by have := HLL.out; omega
        have HLEN := Lib.hid hll
        have hz3 := hg1.size
        have HVL := Lib.hid (show ∀ g, (Value.slice va vn vc).ownBlock = some g → w1.heap.size ≤ g from fun g h => by
          obtain ⟨ao, cap, e, -, hb, -⟩ := HG.out.shape
          exact (hb g h).1)
        have HVB := Lib.hid (show ∀ g, (Value.slice va vn vc).ownBlock = some g → g ≠ rb ∧ B ≤ g from fun g h => by have := HVL.out g h; omega)
        clear hll
        go_wp2_with fail
        go_region_law
          (first
            | (go_simp; go_at_call 125; refine rget_or HD.out hB hor.out (fun wx h hgx => ⟨rfl, HLAST.out _ (grown_trans hg (grown_from (Below.refl _ _).drew hgx)) (Lib.hid (ent_none0 (str_none1 h)))⟩) ?_; intro n2 r2 w2 H2 HR2 HO2 HN2 hg2)
            | (go_simp; go_at_call 126; refine rbytes_or HR2.out hB HO2.out HN2.out (fun wx h hgx => ⟨rfl, HLAST.out _ (grown_trans hg (grown_from (Below.refl _ _).drew (grown_trans hg2 hgx))) (Lib.hid (ent_none0 (str_none2 H2.out h)))⟩) ?_; intro l2 r3 a3 k3 c3 w3 H3 HR3 HO3 HV3 hg3; have hcv3 := conv_row HV3.out)
            | (go_simp; go_at_call 125; refine rget_or HR3.out hB HO3.out (fun wx h hgx => ⟨rfl, HLAST.out _ (grown_trans hg (grown_from (Below.refl _ _).drew (grown_trans hg2 (grown_trans hg3 hgx)))) (Lib.hid (ent_none1 (str_some H2.out H3.out) h))⟩) ?_; intro n4 r4 w4 H4 HR4 HO4 HN4 hg4; have hcv4 := conv_later HV3.out hg4 (by have := hg2.size; simp at this; omega))
            | (go_simp; go_at_call 125; refine rget_or HR4.out hB HO4.out (fun wx h hgx => ⟨rfl, HLAST.out _ (grown_trans hg (grown_from (Below.refl _ _).drew (grown_trans hg2 (grown_trans hg3 (grown_trans hg4 hgx))))) (Lib.hid (ent_none2 (str_some H2.out H3.out) H4.out h))⟩) ?_; intro n5 r5 w5 H5 HR5 HO5 HN5 hg5; have hcv5 := conv_later HV3.out (grown_trans hg4 hg5) (by have := hg2.size; simp at this; omega); have hgw5 := grown_from (w := wr) (Below.refl _ _).drew (grown_trans hg2 (grown_trans hg3 (grown_trans hg4 hg5))); have HG5 := Lib.hid (HG.out.keep (.of_keep hgw5.size fun b hb hl => hgw5.block b hl (fun e => by cases e; omega))))
            | (refine Rep.step_append (M := entRep) (w := w5) (by rfl) _ _ _ (by rfl) (base := w1.heap.size) (l := l) (x := ⟨strOf l2, n4, n5⟩) (a := ⟨strOf l2, n4, n5⟩) _ 32 Try.underlying25 info_ent (by rfl) HG5.out rfl HLEN.out (by omega) (by have := hgw5.size; omega) _ (by rfl) (by rfl) (by rfl) ?_; intro v6 w6 hG6 hg6 hf6; have HR6 := Lib.hid (HR5.out.own hg6 HVB.out); have HG6 := Lib.hid hG6; have hgw6 := grown_own (grown_trans hg hgw5) hg6 HVL.out; have HE6 := Lib.hid (ent_some (str_some H2.out H3.out) H4.out H5.out); clear hG6 hg6 hf6))
        all_goals
          clear HD hcv3
          go_wp2
          go_roundw
          case rel => exact ⟨k + 1, l ++ [⟨strOf l2, n4, n5⟩], r5, by omega, by go_num, Lib.hid (rep_some HK.out HE6.out), HR6, HG6, hgw6⟩
          case measure => simp [intOf]; omega
      · have hkn2 : n.toNat = k := by omega
        have HK2 : Hid (entsR bs = some (l, r)) := Lib.hid (by rw [HE.out, hkn2]; exact HK.out)
        have HF := Lib.hid (RdEnd.got (V := fun w' v l => entRep.Grow w' w.heap.size v l) HK2.out (grown_trans hg1 hg) (HG.out.weaken hsz1) HR.out)
        obtain ⟨va, vn, vc, rfl⟩ : ∃ a n c, u3 = .slice a n c := by
          obtain ⟨ao, cap, e, -⟩ := HG.out.shape
          exact ⟨_, _, _, e⟩
        clear hkn2
        go_wp2
        go_ret
        exact HF.out
end Go.Proofs.Ytfmgdjgedhnmeaa
