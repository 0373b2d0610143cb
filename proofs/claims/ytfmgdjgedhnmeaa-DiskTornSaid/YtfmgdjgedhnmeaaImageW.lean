/- image.Write: a pool's bytes. -/
import Derived.Test.YtfmgdjgedhnmeaaImageP
import Derived.Test.YtfmgdjgedhnmeaaPoolCheck
import Derived.Maps.AppendAt
import Derived.Lib.ConvBytes
namespace Go.Proofs.Ytfmgdjgedhnmeaa
open Go.RowKit
set_option linter.unusedVariables false

/-- a writer: its box, what it has written, the block where that lies -/
def WAt (w : World) (wb base : Nat) (g : Option Nat) (xs : List Int) : Prop := ∃ v, w.heap[wb]? = some (.cells #[v] 109 (0, 0)) ∧ Own .u8 5 base w v xs ∧ v.ownBlock = g
/-- what a writer changes -/
structure Wr (wb : Nat) (w : World) (g : Option Nat) (w' : World) (g' : Option Nat) : Prop where
  os : w'.os = w.os
  tape : w'.tape = w.tape
  output : w'.output = w.output
  size : w.heap.size ≤ w'.heap.size
  block : ∀ b, b < w.heap.size → b ≠ wb → some b ≠ g → w'.heap[b]? = w.heap[b]?
  next : g' = g ∨ ∃ x, g' = some x ∧ w.heap.size ≤ x
theorem Wr.refl (wb : Nat) (w : World) (g : Option Nat) : Wr wb w g w g := ⟨rfl, rfl, rfl, Nat.le_refl _, fun _ _ _ _ => rfl, .inl rfl⟩
theorem Wr.ne {wb : Nat} {w w' : World} {g g' : Option Nat} (h : Wr wb w g w' g') {b : Nat} (hb : b < w.heap.size) (hg : some b ≠ g) : some b ≠ g' := by
  rcases h.next with e | ⟨x, e, hx⟩
  · rw [e]; exact hg
  · rw [e]; intro h; cases h; omega
theorem Wr.trans {wb : Nat} {w w1 w2 : World} {g g1 g2 : Option Nat} (h : Wr wb w g w1 g1) (k : Wr wb w1 g1 w2 g2) : Wr wb w g w2 g2 := by
  refine ⟨k.os.trans h.os, k.tape.trans h.tape, k.output.trans h.output, Nat.le_trans h.size k.size, fun b hb h1 h2 => (k.block b (Nat.lt_of_lt_of_le hb h.size) h1 (h.ne hb h2)).trans (h.block b hb h1 h2), ?_⟩
  rcases k.next with e | ⟨x, e, hx⟩
  · rw [e]; exact h.next
  · exact .inr ⟨x, e, Nat.le_trans h.size hx⟩
/-- from a world on which memory was made -/
theorem Wr.made {wb : Nat} {w w1 w2 : World} {g g2 : Option Nat} (h : Below w.heap.size w w1) (k : Wr wb w1 g w2 g2) : Wr wb w g w2 g2 := by
  refine ⟨k.os.trans h.os, k.tape.trans h.tape, k.output.trans h.output, Nat.le_trans h.size k.size, fun b hb h1 h2 => (k.block b (Nat.lt_of_lt_of_le hb h.size) h1 h2).trans (h.block b hb), ?_⟩
  rcases k.next with e | ⟨x, e, hx⟩
  · exact .inl e
  · exact .inr ⟨x, e, Nat.le_trans h.size hx⟩
theorem Wr.row {wb : Nat} {w w' : World} {g g' : Option Nat} (h : Wr wb w g w' g') {k : IntKind} {ao : Option Addr} {xs : List Int} (hr : Row k w ao xs) (ho : xs ≠ [] → ∀ b o, ao = some ⟨b, o, none⟩ → b ≠ wb ∧ some b ≠ g) : Row k w' ao xs := by
  rcases hr with hr | ⟨b, o, rfl, hr⟩
  · exact .inl hr
  · by_cases he : xs = []
    · exact .inl he
    obtain ⟨h1, h2⟩ := ho he b o rfl
    refine .inr ⟨b, o, rfl, fun i hi => ?_⟩
    have hc := hr i hi
    rw [World.cell?_of_block (h.block b (World.block_lt_of_cell? _ _ hc) h1 h2)]
    exact hc
theorem WAt.low {w : World} {wb base : Nat} {g : Option Nat} {xs : List Int} (h : WAt w wb base g xs) : ∀ b, some b = g → base ≤ b ∧ b < w.heap.size := by
  obtain ⟨v, -, ho, rfl⟩ := h
  intro b hb
  rcases ho.block with ⟨rfl, _⟩ | ⟨g2, _, _, rfl, h3, h2, _⟩
  · cases hb
  · simp only [Value.ownBlock, Option.some.injEq] at hb
    subst hb
    exact ⟨h3, lt_heap h2⟩
theorem Wr.below {wb B base : Nat} {w w' : World} {g g' : Option Nat} {xs : List Int} (h : Wr wb w g w' g') (hW : WAt w wb base g xs) (h1 : B ≤ wb) (h2 : B ≤ base) (h3 : B ≤ w.heap.size) : Below B w w' :=
  ⟨h.os, h.tape, h.output, h.size, fun b hb => h.block b (by omega) (by omega) (fun e => by have := (hW.low b e).1; omega)⟩
theorem WAt.mono {w w' : World} {wb base : Nat} {g : Option Nat} {xs : List Int} (h : WAt w wb base g xs) (hb : Below w.heap.size w w') : WAt w' wb base g xs := by
  obtain ⟨v, h1, h2, h3⟩ := h
  exact ⟨v, (hb.block _ (lt_heap h1)).trans h1, h2.mono hb, h3⟩

theorem nb_W {n : Int} (h : W16 n) : IntKind.u8.wrap (n >>> 8) = n / 256 ∧ IntKind.u8.wrap n = n % 256 := by
  obtain ⟨h1, h2⟩ := h
  have e : n >>> 8 = n / 256 := by rw [Int.shiftRight_eq_div_pow]; rfl
  rw [e]
  refine ⟨?_, ?_⟩
  · simp [IntKind.wrap, IntKind.bits, IntKind.signed]
    omega
  · simp [IntKind.wrap, IntKind.bits, IntKind.signed]
theorem nbs_take (l : List Int) (k : Nat) (h : k < l.length) : nbs (l.take (k + 1)) = nbs (l.take k) ++ nb l[k] := by
  unfold nbs
  rw [List.take_succ_eq_append_getElem h, List.flatMap_append]
  simp

/-- append(w.b, bytes...) and its store into the writer -/
theorem append_w {P : Program} {w : World} {ops : Array Oper} {rest : List Oper} {o : Oper} {a : Act} {Q : Exit → Act → World → Prop} (hgd : o.guard = none) (s x : Operand) (t : TypeId)
    (ho : o.op = .call { callee := .builtin .append, args := #[s, x], argTypes := #[t, t] })
    (e base : Nat) (ht : P.underlying t = some (.slice e)) (hinfo : (P.info? e).map (fun i => (i.zero, i.size, i.bytes)) = some (some (.int .u8 0), 1, 1))
    (v : Value) (xs ys : List Int) (ao : Option Addr) (c : Nat) (hs : a.eval s = v) (hown : Own .u8 e base w v xs) (hx : a.eval x = .slice ao ys.length c) (hrow : Row .u8 w ao ys) (hc0 : ao = none → c = 0)
    (hlen : xs.length + ys.length ≤ 1000000000) (hbase : base ≤ w.heap.size)
    (h : ∀ v' w', Own .u8 e base w' v' (xs ++ ys) → w.grownBy w' v.ownBlock → (v'.ownBlock = v.ownBlock ∨ v'.ownBlock = some w.heap.size) → wpList P ops Q rest (a.put o.dst v') w') :
    wpList P ops Q (o :: rest) a w := by
  obtain ⟨i0, hi, hz0, hz1, hz2⟩ := info_parts hinfo
  cases ao with
  | none =>
    have hy : ys = [] := by
      rcases hrow with h | ⟨_, _, h, _⟩
      · exact h
      · cases h
    subst hy
    obtain rfl := hc0 rfl
    refine wpList_plain hgd fun K hK' => ?_
    have hrun := run_append_owned_none (P := P) w base t o.type e i0 1 ht hi _ _ _ hown
    unfold Oper.wp
    simp only [List.length_nil] at hx
    simp [execOp, ho, resolve, invoke, builtin, hs, hx, hrun, Result.andThen]
    exact hK' _ _ (by simpa using h v w (by simpa using hown) (grown_of_below (Below.refl _ _) _) (.inl rfl))
  | some ad =>
    have hnews : ∀ j u, (ys.map (Value.int .u8))[j]? = some u → w.cell? (ad.add j) = some u := by
      intro j u hj
      rcases hrow with h | ⟨b, o2, hao, hc⟩
      · subst h; simp at hj
      · have hlt : j < ys.length := by
          have := (List.getElem?_eq_some_iff.1 hj).1
          simpa using this
        obtain rfl := Option.some.inj hao
        have e1 : (⟨b, o2, none⟩ : Addr).add j = ⟨b, o2 + j, none⟩ := by unfold Addr.add; split <;> simp_all
        rw [e1, hc j hlt]
        simpa [hlt] using hj
    refine wpList_append_own_at _ hgd s x t ho base e i0 (.int .u8 0) 1 1 ht hi hz0 hz1 hz2 rfl (by decide) v _ _ hs hown ad ys.length c (ys.map (Value.int .u8)) hx (by simp) hnews (ints_oneCell .u8 ys) (by unfold maxLen; omega) (by omega) hbase ?_
    intro v' w' hown' hg hv hb
    exact h v' w' (by unfold Own; simpa using hown') hg hb

theorem WAt.put {w w' : World} {wb base : Nat} {xs ys : List Int} {v v' : Value} (hb : w.heap[wb]? = some (.cells #[v] 109 (0, 0))) (hwb : wb < base) (ho : Own .u8 5 base w v xs) (ho' : Own .u8 5 base w' v' (xs ++ ys)) (hg : w.grownBy w' v.ownBlock) (hn : v'.ownBlock = v.ownBlock ∨ v'.ownBlock = some w.heap.size) :
    WAt (w'.setCell ⟨wb, 0, none⟩ v') wb base v'.ownBlock (xs ++ ys) ∧ Wr wb w v.ownBlock (w'.setCell ⟨wb, 0, none⟩ v') v'.ownBlock := by
  have hbl := lt_heap hb
  have hlow : ∀ u : World, ∀ z zs, Own .u8 5 base u z zs → some wb ≠ z.ownBlock := fun u z zs hz e => by
    have := (WAt.low (w := u) (wb := wb) (base := base) (g := z.ownBlock) (xs := zs)) 
    rcases hz.block with ⟨rfl, _⟩ | ⟨g2, _, _, rfl, h3, h2, _⟩
    · cases e
    · simp only [Value.ownBlock, Option.some.injEq] at e
      omega
  have hb' : w'.heap[wb]? = some (.cells #[v] 109 (0, 0)) := (hg.block wb hbl (hlow w v xs ho)).trans hb
  have hset := heap_setCell_same' hb' 0 v'
  refine ⟨⟨v', by simpa using hset, ?_, rfl⟩, ?_⟩
  · obtain ⟨h1, h2⟩ := ho'
    refine ⟨h1, ?_⟩
    rcases h2 with h2 | ⟨g, cap, cur, hv, hg2, hh, r⟩
    · exact .inl h2
    · exact .inr ⟨g, cap, cur, hv, hg2, by rw [Below.heap_setCell _ _ _ _ (by show g ≠ wb; omega)]; exact hh, r⟩
  · refine ⟨hg.os, hg.tape, hg.output, by simpa using hg.size, fun b hb1 h1 h2 => ?_, ?_⟩
    · rw [Below.heap_setCell _ _ _ _ (by show b ≠ wb; exact h1)]
      exact hg.block b hb1 h2
    · rcases hn with e | e
      · exact .inl e
      · exact .inr ⟨_, e, Nat.le_refl _⟩

theorem Own.shapeN {k : IntKind} {e base : Nat} {w : World} {v : Value} {xs : List Int} (h : Own k e base w v xs) : ∃ ao n cap, v = .slice ao n cap := by
  obtain ⟨ao, cap, rfl, -⟩ := h.shape'
  exact ⟨_, _, _, rfl⟩
theorem row_marked {k : IntKind} {w : World} {g : Nat} {xs : List Int} {t : TypeId} {fr : Nat × Nat} (h : w.heap[g]? = some (.cells (icells k xs) t fr)) : Row k w (some ⟨g, 0, none⟩) xs :=
  .inr ⟨g, 0, rfl, fun i hi => by
    have : w.cell? ⟨g, 0 + i, none⟩ = (icells k xs)[0 + i]? := by simp [World.cell?, h]
    rw [this, Nat.zero_add, icells_at k xs i hi]⟩
theorem row_two (w : World) (x y : Int) : Row .u8 (w.alloc (.cells #[.int .u8 x, .int .u8 y] 5)) (some ⟨w.heap.size, 0, none⟩) [x, y] := by
  refine .inr ⟨w.heap.size, 0, rfl, fun i hi => ?_⟩
  have hi2 : i < 2 := hi
  rw [Nat.zero_add]
  match i, hi2 with
  | 0, _ => simp
  | 1, _ => simp

set_option maxRecDepth 100000 in
set_option maxHeartbeats 8000000 in
theorem wput_any (w : World) (wb base : Nat) (g : Option Nat) (xs l : List Int) (ao : Option Addr) (n cap : Nat) (hW : WAt w wb base g xs) (hwb : wb < base) (hbs : base ≤ w.heap.size) (hn : l.length = n) (hr : Row .i64 w ao l) (ho : l ≠ [] → ∀ b o, ao = some ⟨b, o, none⟩ → b ≠ wb ∧ some b ≠ g) (h16 : ∀ x ∈ l, W16 x) (hlen : xs.length + 2 * n ≤ 100000) :
    Calls Try.prog 49 #[.pointer (some ⟨wb, 0, none⟩), .slice ao n cap] w fun e w' => e = .returned (.tuple #[]) ∧ ∃ g', WAt w' wb base g' (xs ++ nbs l) ∧ Wr wb w g w' g' := by
  have HN := Lib.hid hn
  have HO := Lib.hid ho
  have HW := Lib.hid hW
  have H16 := Lib.hid h16
  have hn5 : (n : Int) ≤ 100000 := by omega
  clear hn ho hW h16
  go_enter Try.func49, Try.ntmps49
  go_wp2
  go_loopw [8] (fun i wr => ∃ (k : Nat) (g2 : Option Nat), k ≤ n ∧ i = .int .i64 k ∧ Hid (WAt wr wb base g2 (xs ++ nbs (l.take k))) ∧ Wr wb w g wr g2) (fun i _ => n - (intOf i).toNat)
  case atStart => exact ⟨0, g, Nat.zero_le _, rfl, Lib.hid (by simpa [nbs] using HW.out), Wr.refl _ _ _⟩
  case round =>
    obtain ⟨k, g2, hkn, rfl, HK, hwr⟩ := hrel
    by_cases hlt : k < n
    · have hkl : k < l.length := by have := HN.out; omega
      have hlt' : (k : Int) < n := by omega
      have hrow := hwr.row hr HO.out
      obtain ⟨b, o, rfl, hq⟩ := hrow.at k hkl
      have c0 := hq k hkl
      have lb := World.block_lt_of_cell? _ _ c0
      have HT := Lib.hid (nbs_take l k hkl)
      obtain ⟨hx0, hx1⟩ := H16.out _ (List.getElem_mem hkl)
      have hnw := nb_W ⟨hx0, hx1⟩
      have HLEN : Hid ((xs ++ nbs (l.take k)).length ≤ 100000) := Lib.hid (by rw [List.length_append, nbs_len, List.length_take]; have := HN.out; omega)
      clear hq hrow
      generalize l[k] = x at *
      obtain ⟨e1, e2⟩ := hnw
      obtain ⟨v, p0, hown, rfl⟩ := HK.out
      have d0 := cell_of_one p0
      have l0 := lt_heap p0
      have hsz := hwr.size
      have hb2 : Below wr.heap.size wr (wr.alloc (.cells #[.int .u8 (x / 256), .int .u8 (x % 256)] 5)) := (Below.refl _ _).alloc (Nat.le_refl _) _
      have hown2 := hown.mono hb2
      have p2 := (hb2.block _ l0).trans p0
      have hr2 := row_two wr (x / 256) (x % 256)
      have hsz2 := hb2.size
      have f2 := free_of_block p0 0
      have HL2 := Lib.hid (show (xs ++ nbs (l.take k)).length + [x / 256, x % 256].length ≤ 1000000000 by have := HLEN.out; simp only [List.length_cons, List.length_nil]; omega)
      have hbs2 : base ≤ (wr.alloc (.cells #[.int .u8 (x / 256), .int .u8 (x % 256)] 5)).heap.size := by omega
      have HNE := Lib.hid (show some wb ≠ v.ownBlock from fun e => by have := (HK.out.low wb e).1; omega)
      clear hown HLEN
      go_wp2_with (first
        | (at_builtin; refine append_w rfl (.tmp 16) (.tmp 22) _ rfl 5 base Try.underlying38 info_u8 v _ [x / 256, x % 256] (some ⟨wr.heap.size, 0, none⟩) 2 rfl hown2 rfl hr2 (fun h => by cases h) HL2.out hbs2 ?_; intro v' w1 hown1 hg1 hn1; obtain ⟨ao9, n9, c9, rfl⟩ := hown1.shapeN; have HWP := Lib.hid (WAt.put p2 hwb hown2 hown1 hg1 hn1); have p1 := (hg1.block wb (lt_heap p2) HNE.out).trans p2; have d1 := cell_of_one p1; have f1 := free_of_block p1 0; have l1 := lt_heap p1))
      have hW1 := Lib.hid HWP.out.1
      have hwr1 := hwr.trans (Wr.made hb2 HWP.out.2)
      clear hown2 HWP
      go_roundw
      case rel => exact ⟨k + 1, _, by omega, by go_num, Lib.hid (by have := hW1.out; rw [HT.out, ← List.append_assoc]; simpa [nb] using this), hwr1⟩
      case measure => simp [intOf]; omega
    · obtain rfl : k = n := by omega
      have ht : l.take k = l := List.take_of_length_le (by have := HN.out; omega)
      rw [ht] at HK
      clear ht
      have hlt' : ¬ (k : Int) < k := by omega
      go_wp2
      go_end0
      exact ⟨rfl, g2, HK.out, hwr⟩

set_option maxRecDepth 100000 in
set_option maxHeartbeats 8000000 in
theorem wbytes_any (w : World) (wb base : Nat) (g : Option Nat) (xs l : List Int) (ao : Option Addr) (n cap : Nat) (hW : WAt w wb base g xs) (hwb : wb < base) (hbs : base ≤ w.heap.size) (hn : l.length = n) (hr : Row .u8 w ao l) (hc : ao = none → cap = 0) (ho : l ≠ [] → ∀ b o, ao = some ⟨b, o, none⟩ → b ≠ wb ∧ some b ≠ g) (hn16 : n < 65536) (hlen : xs.length + n ≤ 90000) :
    Calls Try.prog 50 #[.pointer (some ⟨wb, 0, none⟩), .slice ao n cap] w fun e w' => e = .returned (.tuple #[]) ∧ ∃ g', WAt w' wb base g' (xs ++ (nb n ++ l)) ∧ Wr wb w g w' g' := by
  have HN := Lib.hid hn
  have HO := Lib.hid ho
  have HC := Lib.hid hc
  have HR := Lib.hid hr
  have hb0 : Below w.heap.size w (w.alloc (.cells #[.int .i64 (n : Int)] 3)) := (Below.refl _ _).alloc (Nat.le_refl _) _
  have hsz : (w.alloc (.cells #[.int .i64 (n : Int)] 3)).heap.size = w.heap.size + 1 := by simp
  have hr1 : Row .i64 (w.alloc (.cells #[.int .i64 (n : Int)] 3)) (some ⟨w.heap.size, 0, none⟩) [(n : Int)] := .inr ⟨w.heap.size, 0, rfl, fun i hi => by
    match i, hi with
    | 0, _ => simp⟩
  have hWB : wb < w.heap.size := by obtain ⟨v, h, _⟩ := hW; exact lt_heap h
  have HP := Lib.hid (wput_any (w.alloc (.cells #[.int .i64 (n : Int)] 3)) wb base g xs [(n : Int)] (some ⟨w.heap.size, 0, none⟩) 1 1 (hW.mono hb0) hwb (by omega) rfl hr1 (fun _ b o e => by
    simp only [Option.some.injEq, Addr.mk.injEq, and_true] at e
    obtain ⟨rfl, -⟩ := e
    exact ⟨by omega, fun e => by have := (hW.low _ e).2; omega⟩) (fun x hx => by simp only [List.mem_singleton] at hx; subst hx; exact ⟨by omega, by omega⟩) (by omega))
  clear hn ho hc hr hr1
  go_enter Try.func50, Try.ntmps50
  go_wp2_with fail
  refine HP.out.mono ?_
  rintro e w1 ⟨rfl, g1, hW1, hwr1⟩
  replace hwr1 := Wr.made hb0 hwr1
  have hr2 := hwr1.row HR.out HO.out
  obtain ⟨v, p1, hown1, rfl⟩ := hW1
  have HNE := Lib.hid (show some wb ≠ v.ownBlock from fun e => by have := ((show WAt w1 wb base v.ownBlock _ from ⟨v, p1, hown1, rfl⟩).low wb e).1; omega)
  have d1 := cell_of_one p1
  have l1 := lt_heap p1
  have f1 := free_of_block p1 0
  have hs1 := hwr1.size
  have hnl := HN.out
  subst hnl
  have HL := Lib.hid (show (xs ++ nbs [(l.length : Int)]).length + l.length ≤ 1000000000 by rw [List.length_append, nbs_len]; simp only [List.length_cons, List.length_nil]; omega)
  have hbs1 : base ≤ w1.heap.size := by omega
  clear HP hW hb0 hsz HN
  go_wp2_with (first
    | (at_builtin; refine append_w rfl (.tmp 13) (.tmp 14) _ rfl 5 base Try.underlying38 info_u8 v _ l ao cap rfl hown1 rfl hr2 HC.out HL.out hbs1 ?_; intro v' w2 hown2 hg2 hn2; obtain ⟨ao9, n9, c9, rfl⟩ := hown2.shapeN; have HWP := Lib.hid (WAt.put p1 hwb hown1 hown2 hg2 hn2); have p2 := (hg2.block wb (lt_heap p1) HNE.out).trans p1; have d2 := cell_of_one p2; have f2 := free_of_block p2 0; have l2 := lt_heap p2))
  go_end0
  exact ⟨rfl, _, by simpa [nbs] using HWP.out.1, hwr1.trans HWP.out.2⟩

theorem strRow (w : World) (e : TypeId) (s : ByteArray) : Row .u8 (Lib.bytesWorld w e s) (some ⟨w.heap.size, 0, none⟩) (strL s) := by
  refine .inr ⟨w.heap.size, 0, rfl, fun i hi => ?_⟩
  have hi2 : i < s.size := by rw [strL_len] at hi; exact hi
  have hi3 : i < s.data.toList.length := by rw [Array.length_toList]; exact hi2
  rw [Nat.zero_add, Lib.bytesWorld_cell w e s i hi2]
  simp only [strL, List.getElem_map, List.getD_eq_getElem?_getD, List.getElem?_eq_getElem hi3, Option.getD_some]
theorem bytesWorld_below (w : World) (e : TypeId) (s : ByteArray) : Below w.heap.size w (Lib.bytesWorld w e s) := by
  refine ⟨?_, ?_, ?_, by rw [Lib.bytesWorld_size]; omega, fun b hb => Lib.bytesWorld_at_old w e s b hb⟩
  · unfold Lib.bytesWorld World.freeze; split <;> rfl
  · unfold Lib.bytesWorld World.freeze; split <;> rfl
  · unfold Lib.bytesWorld World.freeze; split <;> rfl

/-- put of numbers that stand in the call -/
theorem wput_new (u : World) (wb base : Nat) (g : Option Nat) (xs l : List Int) (hW : WAt u wb base g xs) (hwb : wb < base) (hbs : base ≤ u.heap.size) (h16 : ∀ x ∈ l, W16 x) (hlen : xs.length + 2 * l.length ≤ 100000) :
    Calls Try.prog 49 #[.pointer (some ⟨wb, 0, none⟩), .slice (some ⟨u.heap.size, 0, none⟩) l.length l.length] (u.alloc (.cells (icells .i64 l) 3)) fun e w' => e = .returned (.tuple #[]) ∧ ∃ g', WAt w' wb base g' (xs ++ nbs l) ∧ Wr wb u g w' g' := by
  have hb0 : Below u.heap.size u (u.alloc (.cells (icells .i64 l) 3)) := (Below.refl _ _).alloc (Nat.le_refl _) _
  have hWB : wb < u.heap.size := by obtain ⟨v, h, _⟩ := hW; exact lt_heap h
  have hr1 : Row .i64 (u.alloc (.cells (icells .i64 l) 3)) (some ⟨u.heap.size, 0, none⟩) l := row_marked (heap_alloc_new _ _)
  refine (wput_any _ wb base g xs l (some ⟨u.heap.size, 0, none⟩) l.length l.length (hW.mono hb0) hwb (by simp; omega) rfl hr1 (fun _ b o e => by
    simp only [Option.some.injEq, Addr.mk.injEq, and_true] at e
    obtain ⟨rfl, -⟩ := e
    exact ⟨by omega, fun e => by have := (hW.low _ e).2; omega⟩) h16 hlen).mono ?_
  rintro e w' ⟨rfl, g', h1, h2⟩
  exact ⟨rfl, g', h1, Wr.made hb0 h2⟩
/-- a name's bytes -/
theorem wname_new (u : World) (wb base : Nat) (g : Option Nat) (xs : List Int) (nm : ByteArray) (cap : Nat) (hW : WAt u wb base g xs) (hwb : wb < base) (hbs : base ≤ u.heap.size) (hs : nm.size < 65536) (hlen : xs.length + nm.size ≤ 90000) :
    Calls Try.prog 50 #[.pointer (some ⟨wb, 0, none⟩), .slice (some ⟨u.heap.size, 0, none⟩) nm.size cap] (Lib.bytesWorld u 5 nm) fun e w' => e = .returned (.tuple #[]) ∧ ∃ g', WAt w' wb base g' (xs ++ strI nm) ∧ Wr wb u g w' g' := by
  have hb0 := bytesWorld_below u 5 nm
  have hWB : wb < u.heap.size := by obtain ⟨v, h, _⟩ := hW; exact lt_heap h
  refine (wbytes_any _ wb base g xs (strL nm) (some ⟨u.heap.size, 0, none⟩) nm.size cap (hW.mono hb0) hwb (by rw [Lib.bytesWorld_size]; omega) (strL_len nm) (strRow u _ nm) (fun h => by cases h) (fun _ b o e => by
    simp only [Option.some.injEq, Addr.mk.injEq, and_true] at e
    obtain ⟨rfl, -⟩ := e
    exact ⟨by omega, fun e => by have := (hW.low _ e).2; omega⟩) hs hlen).mono ?_
  rintro e w' ⟨rfl, g', h1, h2⟩
  exact ⟨rfl, g', h1, Wr.made hb0 h2⟩

/-- entries are small -/
def SmE (l : List Ent) : Prop := l.length ≤ 6 ∧ ∀ x ∈ l, x.nm.size ≤ 8 ∧ W16 x.root ∧ W16 x.size
theorem ents_take (l : List Ent) (k : Nat) (h : k < l.length) : (l.take (k + 1)).flatMap entI = (l.take k).flatMap entI ++ (strI l[k].nm ++ nbs [l[k].root, l[k].size]) := by
  rw [List.take_succ_eq_append_getElem h, List.flatMap_append]
  simp [entI]
theorem SmE.len {l : List Ent} (h : SmE l) (k : Nat) : ((l.take k).flatMap entI).length ≤ 84 := by
  have h1 := flat_len entI 14 (l.take k) fun x hx => by
    have := (h.2 x (List.mem_of_mem_take hx)).1
    simp only [entI, strI, List.length_append, nb_len, strL_len, nbs_len, List.length_cons, List.length_nil]
    omega
  have := h.1
  rw [List.length_take] at h1
  omega
theorem conv_str (u : World) (nm : ByteArray) : (convert 9 38 (.string nm)).run Try.prog u = .ok (.slice (some ⟨u.heap.size, 0, none⟩) nm.size (grownCap u nm.size 0 5)) (Lib.bytesWorld u 5 nm) :=
  Lib.run_convert_string_bytes u 9 38 5 nm Try.underlying9 Try.underlying38 Try.underlying5

set_option maxRecDepth 100000 in
set_option maxHeartbeats 8000000 in
theorem wents_any (w0 w : World) (wb base : Nat) (g : Option Nat) (xs : List Int) (l : List Ent) (ao : Option Addr) (n cap : Nat) (h0 : Below w0.heap.size w0 w) (hlo : w0.heap.size ≤ wb) (hW : WAt w wb base g xs) (hwb : wb < base) (hbs : base ≤ w.heap.size) (hn : l.length = n) (hr : EntRow w0 ao l) (hs : SmE l) (hlen : xs.length ≤ 80000) :
    Calls Try.prog 51 #[.pointer (some ⟨wb, 0, none⟩), .slice ao n cap] w fun e w' => e = .returned (.tuple #[]) ∧ ∃ g', WAt w' wb base g' (xs ++ entsI l) ∧ Wr wb w g w' g' := by
  have HN := Lib.hid hn
  have HW := Lib.hid hW
  have HS := Lib.hid hs
  have hn6 : (n : Int) ≤ 6 := by have := hs.1; omega
  have HP := Lib.hid (wput_new w wb base g xs [(n : Int)] hW hwb hbs (fun x hx => by simp only [List.mem_singleton] at hx; subst hx; exact ⟨by omega, by omega⟩) (by simp only [List.length_cons, List.length_nil]; omega))
  clear hn hW hs
  go_enter Try.func51, Try.ntmps51
  go_wp2_with fail
  refine HP.out.mono ?_
  rintro e w1 ⟨rfl, g1, hW1, hwr1⟩
  have HW1 := Lib.hid hW1
  have hsz1 := hwr1.size
  have h01 := h0.trans (hwr1.below HW.out hlo (by omega) h0.size)
  have hWB1 : wb < w1.heap.size := by obtain ⟨v, h, _⟩ := hW1; exact lt_heap h
  clear HP hW1
  go_wp2
  go_loopw [13] (fun i wr => ∃ (k : Nat) (g2 : Option Nat), k ≤ n ∧ i = .int .i64 k ∧ Hid (WAt wr wb base g2 (xs ++ (nb n ++ (l.take k).flatMap entI))) ∧ Wr wb w1 g1 wr g2) (fun i _ => n - (intOf i).toNat)
  case atStart => exact ⟨0, g1, Nat.zero_le _, rfl, Lib.hid (by simpa [nbs] using HW1.out), Wr.refl _ _ _⟩
  case round =>
    obtain ⟨k, g2, hkn, rfl, HK, hwr⟩ := hrel
    by_cases hlt : k < n
    · have hkl : k < l.length := by have := HN.out; omega
      have hlt' : (k : Int) < n := by omega
      have h02 := h01.trans (hwr.below HW1.out hlo (by omega) h01.size)
      obtain ⟨b, o, rfl, hq⟩ := (hr.mono h02).at k hkl
      have hE := hq k hkl
      have c0 := hE.nm
      have c1 := hE.root
      have c2 := hE.size
      have lb := hE.lt
      have HT := Lib.hid (ents_take l k hkl)
      have HSL := Lib.hid (HS.out.len k)
      obtain ⟨hs1, hs2, hs3⟩ := HS.out.2 _ (List.getElem_mem hkl)
      clear hq hE
      generalize l[k] = x at *
      obtain ⟨nm, root, size⟩ := x
      simp only at c0 c1 c2 hs1 hs2 hs3 HT
      have hsz := hwr.size
      have hb2 : Below wr.heap.size wr (wr.alloc (.cells #[.string nm, .int .i64 root, .int .i64 size] 37)) := (Below.refl _ _).alloc (Nat.le_refl _) _
      have q2 : (wr.alloc (.cells #[.string nm, .int .i64 root, .int .i64 size] 37)).heap[wr.heap.size]? = some (.cells #[.string nm, .int .i64 root, .int .i64 size] 37 (0, 0)) := heap_alloc_new _ _
      have HW2 := Lib.hid (HK.out.mono hb2)
      have hne : some wr.heap.size ≠ g2 := fun e => by have := (HK.out.low _ e).2; omega
      have hcv := conv_str (wr.alloc (.cells #[.string nm, .int .i64 root, .int .i64 size] 37)) nm
      have hsz2 : (wr.alloc (.cells #[.string nm, .int .i64 root, .int .i64 size] 37)).heap.size = wr.heap.size + 1 := by simp
      have hcl := wname_new _ wb base g2 _ nm (grownCap (wr.alloc (.cells #[.string nm, .int .i64 root, .int .i64 size] 37)) nm.size 0 5) HW2.out hwb (by omega) (by omega) (by rw [List.length_append, List.length_append, nb_len]; have := HSL.out; omega)
      rw [hsz2] at hcl
      have HCL := Lib.hid hcl
      have hne2 : wr.heap.size ≠ wb := by omega
      clear hcl
      go_wp2_with fail
      refine HCL.out.mono ?_
      rintro e w4 ⟨rfl, g4, hW4, hwr4⟩
      have q4 := (hwr4.block _ (lt_heap q2) hne2 hne).trans q2
      have d1 := cell_of_block q4 1
      have d2 := cell_of_block q4 2
      simp at d1 d2
      have l4 := lt_heap q4
      have hsz4 := hwr4.size
      have HP2 := Lib.hid (wput_new w4 wb base g4 _ [root, size] hW4 hwb (by omega) (fun x hx => by simp only [List.mem_cons, List.not_mem_nil, or_false] at hx; rcases hx with rfl | rfl; exact hs2; exact hs3) (by simp only [List.length_append, nb_len, strI, strL_len, List.length_cons, List.length_nil]; have := HSL.out; omega))
      have hwr5 := hwr.trans (Wr.made hb2 hwr4)
      clear HCL hcv hW4 hwr4 q2 q4 hb2
      generalize wr.alloc (.cells #[.string nm, .int .i64 root, .int .i64 size] 37) = W2 at *
      generalize wr.heap.size = B2 at *
      go_wp2_with fail
      refine HP2.out.mono ?_
      rintro e w5 ⟨rfl, g5, hW5, hwr6⟩
      have HW5 := Lib.hid hW5
      have hwr7 := hwr5.trans hwr6
      clear HP2 hW5 hwr6 hwr5 d1 d2
      go_wp2
      go_roundw
      case rel => exact ⟨k + 1, g5, by omega, by go_num, Lib.hid (by have := HW5.out; rw [HT.out]; simpa [List.append_assoc] using this), hwr7⟩
      case measure => simp [intOf]; omega
    · obtain rfl : k = n := by omega
      have ht : l.take k = l := List.take_of_length_le (by have := HN.out; omega)
      rw [ht] at HK
      clear ht
      have hlt' : ¬ (k : Int) < k := by omega
      have HF := Lib.hid (show WAt wr wb base g2 (xs ++ entsI l) by unfold entsI; rw [HN.out]; exact HK.out)
      have hwf := hwr1.trans hwr
      go_wp2
      go_end0
      exact ⟨rfl, g2, HF.out, hwf⟩

theorem Row.lowOff {k : IntKind} {w1 w : World} {ao : Option Addr} {l : List Int} (hr : Row k w1 ao l) {wb base : Nat} {g : Option Nat} {xs : List Int} (hlo : w1.heap.size ≤ wb) (hwb : wb < base) (hW : WAt w wb base g xs) : l ≠ [] → ∀ b o, ao = some ⟨b, o, none⟩ → b ≠ wb ∧ some b ≠ g := fun hne b o e => by
  rcases hr with h | ⟨b2, o2, rfl, h⟩
  · exact absurd h hne
  · simp only [Option.some.injEq, Addr.mk.injEq, and_true] at e
    obtain ⟨rfl, rfl⟩ := e
    have h1 := World.block_lt_of_cell? _ _ (h 0 (List.length_pos_iff.2 hne))
    simp only at h1
    exact ⟨by omega, fun e => by have := (hW.low _ e).1; omega⟩
theorem flat_take {α : Type} (f : α → List Int) (l : List α) (k : Nat) (h : k < l.length) : (l.take (k + 1)).flatMap f = (l.take k).flatMap f ++ f l[k] := by
  rw [List.take_succ_eq_append_getElem h, List.flatMap_append]
  simp
theorem take_flen {α : Type} (f : α → List Int) (c : Nat) (l : List α) (k : Nat) (h : ∀ x ∈ l, (f x).length ≤ c) : ((l.take k).flatMap f).length ≤ c * l.length := by
  have h1 := flat_len f c (l.take k) fun x hx => h x (List.mem_of_mem_take hx)
  rw [List.length_take] at h1
  exact Nat.le_trans h1 (Nat.mul_le_mul_left _ (by omega))
theorem blk_len {s : List Blk} (hc : checkE s = 0) : ∀ x ∈ s, (blkI x).length ≤ 16 := fun x hx => by
  obtain ⟨h4, hf, -⟩ := checkE_zero _ hc
  simp only [blkI, List.length_append, nb_len, nbs_len, List.length_cons, List.length_nil]
  rcases formB_zero _ x (formsE_all _ _ hf x hx) with ⟨-, -, e1, e2⟩ | ⟨-, -, -, e1, e2⟩ | ⟨-, -, -, -, e1, e2, -⟩
  · simp [e1, e2]
  · simp [e1, e2]
  · simp [e1, e2]
theorem snp_len {s : List Blk} {key : Int} {y : Snp} (h1 : nameB y.nm = true) (h2 : EntsOk s key y.files) : (snpI y).length ≤ 96 := by
  have := name_size h1
  have := ents_len h2
  simp only [snpI, strI, List.length_append, nb_len, strL_len]
  omega
theorem ten_len {s : List Blk} {t : TenV} (hT : TenOk s t) : (tenI t).length ≤ 1164 := by
  have h3 := flat_len setI 386 t.sets fun x hx => set_len (hT.sets x hx)
  have := hT.len
  simp only [tenI, List.length_append, nbs_len, List.length_cons, List.length_nil]
  omega
theorem ents_sm {s : List Blk} {key : Int} {l : List Ent} (hc : checkE s = 0) (h : EntsOk s key l) : SmE l := ⟨h.len, fun x hx => ⟨name_size (h.each x hx).1, file_fit hc (h.each x hx).2⟩⟩
theorem WAt.same {w : World} {wb base : Nat} {g : Option Nat} {xs ys : List Int} (h : WAt w wb base g xs) (e : xs = ys) : WAt w wb base g ys := e ▸ h
theorem WAt.box {w : World} {wb base : Nat} {g : Option Nat} {xs : List Int} (h : WAt w wb base g xs) : wb < w.heap.size := by obtain ⟨v, h, _⟩ := h; exact lt_heap h
end Go.Proofs.Ytfmgdjgedhnmeaa
