/- image.read and image.Read. -/
import Derived.Test.YtfmgdjgedhnmeaaImageRc
import Derived.Test.YtfmgdjgedhnmeaaImagePl
namespace Go.Proofs.Ytfmgdjgedhnmeaa
open Go.RowKit
set_option linter.unusedVariables false
set_option linter.unusedSimpArgs false

/-- what a reader finds is of a kind -/
def Got {α : Type} (f : Rd α) (P : α → Prop) : Prop := ∀ b x r, Byt b → f b = some (x, r) → P x ∧ Byt r
theorem Got.ret {α : Type} {P : α → Prop} {x : α} (h : P x) : Got (Rd.ret x) P := fun b y r hb e => by
  obtain ⟨rfl, rfl⟩ := ret_some.mp e
  exact ⟨h, hb⟩
theorem Got.then {α β : Type} {f : Rd α} {g : α → Rd β} {P : α → Prop} {Q : β → Prop} (h1 : Got f P) (h2 : ∀ x, P x → Got (g x) Q) : Got (f.then g) Q := fun b y r hb e => by
  obtain ⟨x, r1, e1, e2⟩ := then_some.mp e
  obtain ⟨p1, b1⟩ := h1 b x r1 hb e1
  exact h2 x p1 r1 y r b1 e2
theorem Got.take (n : Nat) : Got (takeR n) (fun l => l.length = n ∧ Byt l) := fun b x r hb h => by
  obtain ⟨e, h2⟩ := Inv.take n b x r hb h
  refine ⟨h2, ?_⟩
  rw [e] at hb
  exact hb.right
theorem Got.get : Got getR2 W16 := fun b x r hb h => by
  obtain ⟨e, h2⟩ := Inv.get b x r hb h
  refine ⟨h2, ?_⟩
  rw [e] at hb
  exact hb.right
theorem Got.rep {α : Type} {f : Rd α} {P : α → Prop} (h : Got f P) : ∀ n, Got (repR f n) (fun l => l.length = n ∧ ∀ x ∈ l, P x)
  | 0 => Got.ret ⟨rfl, fun x hx => by cases hx⟩
  | n + 1 => Got.then h fun x hx => Got.then (Got.rep h n) fun l hl => Got.ret ⟨by simp [hl.1], fun y hy => by
      rcases List.mem_cons.mp hy with rfl | hy
      · exact hx
      · exact hl.2 y hy⟩
theorem W16.nat {n : Int} (h : W16 n) : n.toNat ≤ 65535 := by have := h.1; have := h.2; omega
theorem W16.i64 {n : Int} (h : W16 n) : I64 n := by have := h.1; have := h.2; exact ⟨by omega, by omega⟩
theorem Got.str : Got strR (fun _ => True) := Got.get.then fun n _ => (Got.take _).then fun l _ => Got.ret trivial
theorem Got.ent : Got entR (fun x => I64 x.root ∧ I64 x.size) := Got.str.then fun _ _ => Got.get.then fun _ h1 => Got.get.then fun _ h2 => Got.ret ⟨h1.i64, h2.i64⟩
theorem Got.ents : Got entsR (fun l => l.length ≤ 65535 ∧ WfL l) := Got.get.then fun n hn b x r hb h => by
  obtain ⟨⟨h1, h2⟩, h3⟩ := Got.rep Got.ent _ b x r hb h
  exact ⟨⟨by rw [h1]; exact hn.nat, h2⟩, h3⟩
theorem Got.snp : Got snpR (fun y => y.files.length ≤ 65535 ∧ WfL y.files) := Got.str.then fun _ _ => Got.ents.then fun _ h => Got.ret h
theorem Got.set : Got setR2 (fun x => WfX x ∧ FitX x) := Got.str.then fun _ _ => Got.ents.then fun fs hf => Got.get.then fun n hn => (Got.rep Got.snp _).then fun ss hs => Got.ret
  ⟨⟨hf.2, fun y hy => (hs.2 y hy).2⟩, by have := hf.1; show fs.length ≤ _; omega, by have := hn.nat; have := hs.1; show ss.length ≤ _; omega, fun y hy => by have := (hs.2 y hy).1; omega⟩
theorem Got.blk : Got blkR WfB := Got.get.then fun r h1 => Got.get.then fun l h2 => Got.get.then fun n hn => (Got.rep Got.get _).then fun ks hk => Got.get.then fun m hm => (Got.take _).then fun bs hb => Got.ret
  ⟨h1.i64, h2.i64, fun k hk' => (hk.2 k hk').i64, hb.2, by have := hn.nat; have := hk.1; show ks.length ≤ _; omega, by have := hm.nat; have := hb.1; show bs.length ≤ _; omega⟩
theorem Got.ten : Got tenR WfT := Got.get.then fun k h1 => Got.get.then fun q h2 => Got.get.then fun n hn => (Got.rep Got.set _).then fun l hl => Got.ret
  ⟨h1.i64, h2.i64, by have := hn.nat; have := hl.1; show l.length ≤ _; omega, hl.2⟩
theorem Got.pool : Got poolR WfP := Got.get.then fun n hn => (Got.rep Got.blk _).then fun s hs => Got.get.then fun m hm => (Got.rep Got.ten _).then fun l hl => Got.ret
  ⟨hs.2, by have := hn.nat; have := hs.1; show s.length ≤ _; omega, by have := hm.nat; have := hl.1; show l.length ≤ _; omega, hl.2⟩

theorem VPool.pool {K : Nat} {w : World} {v : Value} {p : PoolV} (h : VPool K w v p) : ∃ so sn sc ao n cap, v = .agg #[.slice so sn sc, .slice ao n cap] ∧ PoolIn w so sn sc ao n cap p := by
  obtain ⟨so, sn, sc, ao, n, cap, rfl, h1, h2⟩ := h
  obtain ⟨a1, a2, a3⟩ := blks_of h1
  obtain ⟨b1, b2, b3⟩ := tens_of h2
  exact ⟨_, _, _, _, _, _, rfl, a1, a2, a3, b1, b2, b3⟩

theorem VPool.put {K c i : Nat} {w : World} {v x : Value} {p : PoolV} (h : VPool K w v p) (hc : c < K) : VPool K (w.setCell ⟨c, i, none⟩ x) v p := by
  obtain ⟨so, sn, sc, ao, n, cap, rfl, h1, h2⟩ := h
  exact ⟨_, _, _, _, _, _, rfl, h1.keep (.of_set (.inl hc)), h2.keep (.of_set (.inl hc))⟩

theorem VPool.weaken {K K' : Nat} {w : World} {v : Value} {p : PoolV} (h : VPool K w v p) (hK : K' ≤ K) : VPool K' w v p := by
  obtain ⟨so, sn, sc, ao, n, cap, rfl, h1, h2⟩ := h
  exact ⟨_, _, _, _, _, _, rfl, h1.weaken hK, h2.weaken hK⟩
theorem VPool.mono {K : Nat} {w w' : World} {v : Value} {p : PoolV} (h : VPool K w v p) (hb : Below w.heap.size w w') : VPool K w' v p := by
  obtain ⟨so, sn, sc, ao, n, cap, rfl, h1, h2⟩ := h
  exact ⟨_, _, _, _, _, _, rfl, h1.mono hb, h2.mono hb⟩
theorem VPool.inn {K : Nat} {w : World} {so ao : Option Addr} {sn sc n cap : Nat} {p : PoolV} (h : VPool K w (.agg #[.slice so sn sc, .slice ao n cap]) p) : PoolIn w so sn sc ao n cap p := by
  obtain ⟨so', sn', sc', xo', tn', tc', e, h⟩ := h.pool
  simp only [Value.agg.injEq, Array.mk.injEq, List.cons.injEq, Value.slice.injEq, and_true] at e
  obtain ⟨⟨rfl, rfl, rfl⟩, rfl, rfl, rfl⟩ := e
  exact h

/-- what image.read leaves -/
def ReadMid (e : Ending) (w w' : World) (b : List Int) : Prop :=
  w.grownBy w' none ∧ match poolR b with
    | some (p, []) => ∃ so sn sc ao n cap, e = .returned (.tuple #[.agg #[.slice so sn sc, .slice ao n cap], .bool true]) ∧ VPool w.heap.size w' (.agg #[.slice so sn sc, .slice ao n cap]) p ∧ WfP p
    | _ => ∃ so sn sc ao n cap, e = .returned (.tuple #[.agg #[.slice so sn sc, .slice ao n cap], .bool false])

set_option maxRecDepth 100000 in
set_option maxHeartbeats 16000000 in
theorem read_mid (w : World) (ao : Option Addr) (n cap : Nat) (b : List Int) (hn : b.length = n) (hB : LowB w w.heap.size ao b) (hcd : Capd ao n cap) (ho : RdOk b) :
    Calls Try.prog 54 #[.slice ao n cap] w fun e w' => ReadMid e w w' b := by
  have hmf : ∀ (fn : Fn) (first cap : Array Value) (w : World), (Instr.makeFunc fn first cap).run Try.prog w = .ok (.func fn first cap) w := fun _ _ _ _ => rfl
  have hb0 : Below w.heap.size w (((w.alloc (.cells #[.slice none 0 0, .slice none 0 0] 49)).alloc (.cells #[.bool false] 4)).alloc (.cells #[.slice ao n cap] 169)) := (((Below.refl _ _).alloc (Nat.le_refl _) _).alloc (by simp) _).alloc (by simp; omega) _
  have hs0 : (((w.alloc (.cells #[.slice none 0 0, .slice none 0 0] 49)).alloc (.cells #[.bool false] 4)).alloc (.cells #[.slice ao n cap] 169)).heap.size = w.heap.size + 3 := by simp
  have p0 : (((w.alloc (.cells #[.slice none 0 0, .slice none 0 0] 49)).alloc (.cells #[.bool false] 4)).alloc (.cells #[.slice ao n cap] 169)).heap[w.heap.size]? = some (.cells #[.slice none 0 0, .slice none 0 0] 49 (0, 0)) := by
    rw [Below.heap_alloc _ _ _ (by simp; omega), Below.heap_alloc _ _ _ (by simp)]
    exact heap_alloc_new _ _
  have q0 : (((w.alloc (.cells #[.slice none 0 0, .slice none 0 0] 49)).alloc (.cells #[.bool false] 4)).alloc (.cells #[.slice ao n cap] 169)).heap[w.heap.size + 1]? = some (.cells #[.bool false] 4 (0, 0)) := by
    rw [Below.heap_alloc _ _ _ (by simp)]
    have h := heap_alloc_new (w.alloc (.cells #[.slice none 0 0, .slice none 0 0] 49)) (.cells #[.bool false] 4)
    simpa using h
  have r0 : (((w.alloc (.cells #[.slice none 0 0, .slice none 0 0] 49)).alloc (.cells #[.bool false] 4)).alloc (.cells #[.slice ao n cap] 169)).heap[w.heap.size + 1 + 1]? = some (.cells #[.slice ao n cap] 169 (0, 0)) := by
    have h := heap_alloc_new ((w.alloc (.cells #[.slice none 0 0, .slice none 0 0] 49)).alloc (.cells #[.bool false] 4)) (.cells #[.slice ao n cap] 169)
    simpa using h
  go_enter_defers Try.func54, Try.ntmps54
  go_wp2_with fail
  generalize (((w.alloc (.cells #[.slice none 0 0, .slice none 0 0] 49)).alloc (.cells #[.bool false] 4)).alloc (.cells #[.slice ao n cap] 169)) = W0 at *
  have hR : RdAt W0 (w.heap.size + 1 + 1) w.heap.size b := by
    refine ⟨ao, cap, by rw [hn]; exact r0, hB.mono hb0, by rw [hn]; exact hcd, fun hne => ?_⟩
    rcases hB with h | ⟨c, o, e, -⟩
    · exact absurd h hne
    · exact ⟨c, o, e⟩
  refine (rpool_any W0 _ w.heap.size b hR (by omega) ho).mono ?_
  have HO := Lib.hid ho
  clear hR r0 ho
  rintro e w1 ⟨hg, he⟩
  have hsz := hg.size
  have p1 := (hg.block _ (lt_heap p0) (fun e => by simp only [Option.some.injEq] at e; omega)).trans p0
  have q1 := (hg.block _ (lt_heap q0) (fun e => by simp only [Option.some.injEq] at e; omega)).trans q0
  cases hp : poolR b with
  | none =>
    rw [hp] at he
    unfold Torn at he
    subst he
    refine leaves_cons (f := 93) (args := #[.pointer (some ⟨w.heap.size, 0, none⟩), .pointer (some ⟨w.heap.size + 1, 0, none⟩)]) (by simp) (by simp [go_sem]) ?_
    refine (catch_torn w.heap.size (w.heap.size + 1) _ _ _ [] _ _ _ p1 q1 (by omega)).mono ?_
    rintro e u' w'' ⟨rfl, rfl, p2, q2, h1, h2, h3, h4, h5⟩
    have c0 := cell_of_block p2 0
    have c1 := cell_of_block p2 1
    have d0 := cell_of_block q2 0
    simp at c0 c1 d0
    simp [Leaves, settle, results, Try.results54, go_sem, c0, c1, d0]
    have hb2 : Below w.heap.size w w'' := ⟨h1.trans (hg.os.trans hb0.os), h2.trans (hg.tape.trans hb0.tape), h3.trans (hg.output.trans hb0.output), by omega, fun c hc => ((h5 c (by omega) (by omega) (by omega)).trans (hg.block c (by omega) (fun e => by simp only [Option.some.injEq] at e; omega))).trans (hb0.block c hc)⟩
    refine ⟨grown_of_below hb2 none, ?_⟩
    rw [hp]
    exact ⟨_, _, _, _, _, _, rfl⟩
  | some z =>
    obtain ⟨p, r⟩ := z
    rw [hp] at he
    obtain ⟨v, rfl, hv, hR⟩ := he
    have hvp := hv
    have hwf := (Got.pool b p r HO.out.1 hp).1
    obtain ⟨so, sn, sc, xo, tn, tc, rfl, -, -⟩ := hvp
    have HV := Lib.hid hv
    obtain ⟨ro, rc, rb, hrow, hrc, hrn⟩ := hR
    have c0 := cell_of_block p1 0
    have c1 := cell_of_block p1 1
    have d0 := cell_of_block q1 0
    have k0 := cell_of_block rb 0
    have f0 := free_of_block p1 0
    have f1 := free_of_block p1 1
    have g0 := free_of_block q1 0
    simp at c0 c1 d0 k0
    have l0 := lt_heap p1
    have l1 := lt_heap q1
    have l2 := lt_heap rb
    have HP1 := Lib.hid p1
    have HQ1 := Lib.hid q1
    have HRB := Lib.hid rb
    clear hv p0 q0 p1 q1 rb hn hB hcd hrow hrc hrn
    go_wp2_with fail
    have p2 := heap_setCell_same' (heap_setCell_same' HP1.out 0 (.slice so sn sc)) 1 (.slice xo tn tc)
    have q2 := heap_setCell_ne (a := ⟨w.heap.size, 1, none⟩) (v := .slice xo tn tc) (heap_setCell_ne (a := ⟨w.heap.size, 0, none⟩) (v := .slice so sn sc) HQ1.out (show w.heap.size + 1 ≠ w.heap.size by omega)) (show w.heap.size + 1 ≠ w.heap.size by omega)
    have r2 := heap_setCell_ne (a := ⟨w.heap.size, 1, none⟩) (v := .slice xo tn tc) (heap_setCell_ne (a := ⟨w.heap.size, 0, none⟩) (v := .slice so sn sc) HRB.out (show w.heap.size + 1 + 1 ≠ w.heap.size by omega)) (show w.heap.size + 1 + 1 ≠ w.heap.size by omega)
    have hv2 := (HV.out.put (c := w.heap.size) (i := 0) (x := .slice so sn sc) (by omega)).put (c := w.heap.size) (i := 1) (x := .slice xo tn tc) (by omega)
    have hb1 : Below w.heap.size w w1 := ⟨hg.os.trans hb0.os, hg.tape.trans hb0.tape, hg.output.trans hb0.output, by omega, fun c hc => (hg.block c (by omega) (fun e => by simp only [Option.some.injEq] at e; omega)).trans (hb0.block c hc)⟩
    have hb2 : Below w.heap.size w ((w1.setCell ⟨w.heap.size, 0, none⟩ (.slice so sn sc)).setCell ⟨w.heap.size, 1, none⟩ (.slice xo tn tc)) := (hb1.setCell (p := ⟨w.heap.size, 0, none⟩) (Nat.le_refl _) _).setCell (p := ⟨w.heap.size, 1, none⟩) (Nat.le_refl _) _
    clear HV HP1 HQ1 HRB hb1 c0 c1 d0 k0 f0 f1 g0 l0 l1 l2
    generalize ((w1.setCell ⟨w.heap.size, 0, none⟩ (.slice so sn sc)).setCell ⟨w.heap.size, 1, none⟩ (.slice xo tn tc)) = W2 at *
    simp at p2
    have c0 := cell_of_block p2 0
    have c1 := cell_of_block p2 1
    have d0 := cell_of_block q2 0
    have k0 := cell_of_block r2 0
    have f0 := free_of_block p2 0
    have f1 := free_of_block p2 1
    have g0 := free_of_block q2 0
    simp at c0 c1 d0 k0
    have l0 := lt_heap p2
    have l1 := lt_heap q2
    have l2 := lt_heap r2
    have HP2 := Lib.hid p2
    have HQ2 := Lib.hid q2
    have HV2 := Lib.hid hv2
    have HB2 := Lib.hid hb2
    clear p2 q2 r2 hv2 hb2
    go_region
    have p2 := heap_setCell_ne (a := ⟨w.heap.size + 1, 0, none⟩) (v := .bool ((r.length : Int) == 0)) (heap_setCell_same' (heap_setCell_same' HP2.out 0 (.slice so sn sc)) 1 (.slice xo tn tc)) (show w.heap.size ≠ w.heap.size + 1 by omega)
    have q2 := heap_setCell_same' (heap_setCell_ne (a := ⟨w.heap.size, 1, none⟩) (v := .slice xo tn tc) (heap_setCell_ne (a := ⟨w.heap.size, 0, none⟩) (v := .slice so sn sc) HQ2.out (show w.heap.size + 1 ≠ w.heap.size by omega)) (show w.heap.size + 1 ≠ w.heap.size by omega)) 0 (.bool ((r.length : Int) == 0))
    have HV3 := Lib.hid (((HV2.out.put (c := w.heap.size) (i := 0) (x := .slice so sn sc) (by omega)).put (c := w.heap.size) (i := 1) (x := .slice xo tn tc) (by omega)).put (c := w.heap.size + 1) (i := 0) (x := .bool ((r.length : Int) == 0)) (by omega))
    have HB3 := Lib.hid (((HB2.out.setCell (p := ⟨w.heap.size, 0, none⟩) (Nat.le_refl _) (.slice so sn sc)).setCell (p := ⟨w.heap.size, 1, none⟩) (Nat.le_refl _) (.slice xo tn tc)).setCell (p := ⟨w.heap.size + 1, 0, none⟩) (by show w.heap.size ≤ w.heap.size + 1; omega) (.bool ((r.length : Int) == 0))).drew
    clear HV2 HB2 HP2 HQ2 c0 c1 d0 k0 f0 f1 g0 l0 l1 l2
    generalize ((W2.setCell ⟨w.heap.size, 0, none⟩ (.slice so sn sc)).setCell ⟨w.heap.size, 1, none⟩ (.slice xo tn tc)).setCell ⟨w.heap.size + 1, 0, none⟩ (.bool ((r.length : Int) == 0)) = W3 at *
    simp at p2 q2
    have c0 : W3.drew.cell? ⟨w.heap.size, 0, none⟩ = _ := cell_of_block p2 0
    have c1 : W3.drew.cell? ⟨w.heap.size, 1, none⟩ = _ := cell_of_block p2 1
    have d0 : W3.drew.cell? ⟨w.heap.size + 1, 0, none⟩ = _ := cell_of_block q2 0
    simp at c0 c1 d0
    go_wp2_with fail
    refine leaves_cons (f := 93) (args := #[.pointer (some ⟨w.heap.size, 0, none⟩), .pointer (some ⟨w.heap.size + 1, 0, none⟩)]) (by simp) (by simp [go_sem]) ?_
    refine (catch_idle w.heap.size (w.heap.size + 1) W3.drew).mono ?_
    rintro e u' w'' ⟨rfl, rfl, rfl⟩
    simp [Leaves, settle, results, Try.results54, go_sem, c0, c1, d0]
    refine ⟨grown_of_below HB3.out none, ?_⟩
    rw [hp]
    cases r with
    | nil =>
      exact ⟨_, _, _, _, _, _, rfl, VPool.weaken (show VPool W0.heap.size W3.drew (.agg #[.slice so sn sc, .slice xo tn tc]) p from HV3.out) (by omega), hwf⟩
    | cons x r =>
      refine ⟨so, sn, sc, xo, tn, tc, ?_⟩
      have hb : (((x :: r).length : Int) == 0) = false := by
        rw [beq_eq_false_iff_ne, List.length_cons]
        omega
      rw [hb]

theorem Got.read {b : List Int} (hb : Byt b) {p : PoolV} (h : readI b = (p, 0)) : WfP p := (Got.pool b p [] hb (read_of h).2).1
theorem noPool_wf : WfP noPool := ⟨fun x hx => absurd (show x ∈ ([] : List Blk) from hx) (by simp), by simp [noPool], by simp [noPool], fun x hx => absurd (show x ∈ ([] : List TenV) from hx) (by simp)⟩
theorem noPool_in (w : World) : PoolIn w none 0 0 none 0 0 noPool := ⟨rfl, .inl rfl, ⟨Nat.le_refl _, fun _ => rfl⟩, rfl, ⟨[], rfl, .inl rfl, fun i h => by cases h⟩, ⟨Nat.le_refl _, fun _ => rfl⟩⟩
theorem LowB.up {w : World} {B B' : Nat} {ao : Option Addr} {bs : List Int} (h : LowB w B ao bs) (hB : B ≤ B') : LowB w B' ao bs := h.imp id fun ⟨b, o, e, h1, h2⟩ => ⟨b, o, e, Nat.lt_of_lt_of_le h1 hB, h2⟩
/-- what image.Read leaves -/
theorem noPool_v (K : Nat) (w : World) : VPool K w (.agg #[.slice none 0 0, .slice none 0 0]) noPool := ⟨_, _, _, _, _, _, rfl, Rep.Grow.nil _ _, Rep.Grow.nil _ _⟩
def ReadEnd (e : Ending) (w w' : World) (b : List Int) : Prop :=
  w.grownBy w' none ∧ ∃ so sn sc ao n cap, e = .returned (.tuple #[.agg #[.slice so sn sc, .slice ao n cap], .int .i64 (readI b).2]) ∧ VPool w.heap.size w' (.agg #[.slice so sn sc, .slice ao n cap]) (readI b).1 ∧ WfP (readI b).1

set_option maxRecDepth 100000 in
set_option maxHeartbeats 16000000 in
theorem read_image (w : World) (ao : Option Addr) (n cap : Nat) (b : List Int) (hn : b.length = n) (hB : LowB w w.heap.size ao b) (hcd : Capd ao n cap) (hb : Byt b) :
    Calls Try.prog 20 #[.slice ao n cap] w fun e w' => ReadEnd e w w' b := by
  have p0 : (w.alloc (.cells #[.slice none 0 0, .slice none 0 0] 49)).heap[w.heap.size]? = some (.cells #[.slice none 0 0, .slice none 0 0] 49 (0, 0)) := heap_alloc_new _ _
  have hb0 : Below w.heap.size w (w.alloc (.cells #[.slice none 0 0, .slice none 0 0] 49)) := (Below.refl _ _).alloc (Nat.le_refl _) _
  have hs0 : (w.alloc (.cells #[.slice none 0 0, .slice none 0 0] 49)).heap.size = w.heap.size + 1 := by simp
  by_cases hl : 20000 < b.length
  · have hr : readI b = (noPool, 2) := by unfold readI; rw [if_pos hl]
    have hlt : (20000 : Int) < n := by omega
    have HB0 := Lib.hid hb0
    clear hb0 hs0 hn
    have c0 := cell_of_block p0 0
    have c1 := cell_of_block p0 1
    simp at c0 c1
    go_enter Try.func20, Try.ntmps20
    go_wp2_with fail
    refine bodyPost_ret (v := .tuple #[.agg #[.slice none 0 0, .slice none 0 0], .int .i64 2]) (by simp [results, Try.results20, go_sem]) rfl ?_
    exact ⟨grown_of_below HB0.out none, by rw [hr]; exact ⟨_, _, _, _, _, _, rfl, noPool_v _ _, noPool_wf⟩⟩
  · have hlt : ¬ (20000 : Int) < n := by omega
    have HLN := Lib.hid hl
    have HRD := Lib.hid (read_mid _ ao n cap b hn ((hB.mono hb0).up (by omega)) hcd ⟨hb, by omega⟩)
    clear hl hn hB hcd
    go_enter Try.func20, Try.ntmps20
    go_wp2_with fail
    generalize w.alloc (.cells #[.slice none 0 0, .slice none 0 0] 49) = W0 at *
    refine HRD.out.mono ?_
    rintro e w1 ⟨hg, he⟩
    have hsz := hg.size
    have p1 := (hg.block _ (lt_heap p0) (fun e => by cases e)).trans p0
    have hb1 : Below w.heap.size w w1 := ⟨hg.os.trans hb0.os, hg.tape.trans hb0.tape, hg.output.trans hb0.output, by omega, fun c hc => (hg.block c (by omega) (fun e => by cases e)).trans (hb0.block c hc)⟩
    clear HRD p0 hb0 hg
    have c0 := cell_of_block p1 0
    have c1 := cell_of_block p1 1
    have f0 := free_of_block p1 0
    have f1 := free_of_block p1 1
    have l0 := lt_heap p1
    simp at c0 c1
    have HP1 := Lib.hid p1
    have HB1 := Lib.hid hb1
    clear p1 hb1
    by_cases hok : ∃ p, poolR b = some (p, [])
    · obtain ⟨p, hp⟩ := hok
      rw [hp] at he
      obtain ⟨so, sn, sc, xo, tn, tc, rfl, hin, hwf⟩ := he
      go_wp2_with fail
      have p4 : (w1.alloc (.cells #[.slice so sn sc, .slice xo tn tc] 49)).heap[w.heap.size]? = some (.cells #[.slice none 0 0, .slice none 0 0] 49 (0, 0)) := (Below.heap_alloc _ _ _ l0).trans HP1.out
      have q4 : (w1.alloc (.cells #[.slice so sn sc, .slice xo tn tc] 49)).heap[w1.heap.size]? = some (.cells #[.slice so sn sc, .slice xo tn tc] 49 (0, 0)) := heap_alloc_new _ _
      have hb4 := HB1.out.alloc (by omega) (.cells #[.slice so sn sc, .slice xo tn tc] 49)
      have hv4 := hin.mono ((Below.refl w1.heap.size w1).alloc (Nat.le_refl _) (.cells #[.slice so sn sc, .slice xo tn tc] 49))
      have hne : w1.heap.size ≠ w.heap.size := by omega
      clear HB1 HP1 hin c0 c1 f0 f1
      generalize w1.alloc (.cells #[.slice so sn sc, .slice xo tn tc] 49) = W4 at *
      have hs4 := hb4.size
      refine (poolCheck_any W4 so xo sn sc tn tc p hv4.inn hwf).mono ?_
      rintro e w5 ⟨rfl, hb5⟩
      have p5 := (hb5.block _ (lt_heap p4)).trans p4
      have q5 := (hb5.block _ (lt_heap q4)).trans q4
      have HIN := Lib.hid (hv4.mono hb5)
      have HB5 := Lib.hid (hb4.trans (hb5.mono hs4))
      clear hv4 hb4 hb5 p4 q4
      have c0 := cell_of_block p5 0
      have c1 := cell_of_block p5 1
      have f0 := free_of_block p5 0
      have f1 := free_of_block p5 1
      have d0 := cell_of_block q5 0
      have d1 := cell_of_block q5 1
      have l5 := lt_heap p5
      have l6 := lt_heap q5
      simp at c0 c1 d0 d1
      have HP5 := Lib.hid p5
      clear p5 q5
      obtain ⟨E, hE⟩ : ∃ E, poolE p = E := ⟨_, rfl⟩
      rw [hE]
      have HE := Lib.hid hE
      clear hE
      by_cases h0 : E = 0
      · subst h0
        have hr : readI b = (p, 0) := by
          unfold readI
          rw [if_neg HLN.out, hp]
          simp only [HE.out, ne_eq, not_true_eq_false, if_false]
        go_wp2_with fail
        have p6 := heap_setCell_same' (heap_setCell_same' HP5.out 0 (.slice so sn sc)) 1 (.slice xo tn tc)
        simp at p6
        have hg6 := grown_of_below ((HB5.out.setCell (p := ⟨w.heap.size, 0, none⟩) (Nat.le_refl _) (.slice so sn sc)).setCell (p := ⟨w.heap.size, 1, none⟩) (Nat.le_refl _) (.slice xo tn tc)) none
        have hv6 := (HIN.out.put (c := w.heap.size) (i := 0) (x := .slice so sn sc) (by omega)).put (c := w.heap.size) (i := 1) (x := .slice xo tn tc) (by omega)
        generalize (w5.setCell ⟨w.heap.size, 0, none⟩ (.slice so sn sc)).setCell ⟨w.heap.size, 1, none⟩ (.slice xo tn tc) = W6 at *
        have z0 := cell_of_block p6 0
        have z1 := cell_of_block p6 1
        simp at z0 z1
        refine bodyPost_ret (v := .tuple #[.agg #[.slice so sn sc, .slice xo tn tc], .int .i64 0]) (by simp [results, Try.results20, go_sem, z0, z1]) rfl ?_
        refine ⟨hg6, ?_⟩
        rw [hr]
        exact ⟨_, _, _, _, _, _, rfl, hv6.weaken (by omega), hwf⟩
      · have hr : readI b = (noPool, E) := by
          unfold readI
          rw [if_neg HLN.out, hp]
          simp only [HE.out, ne_eq, h0, not_false_eq_true, if_true]
        go_wp2_with fail
        have p6 := heap_setCell_same' (heap_setCell_same' HP5.out 0 (.slice none 0 0)) 1 (.slice none 0 0)
        simp at p6
        have hg6 := grown_of_below ((HB5.out.setCell (p := ⟨w.heap.size, 0, none⟩) (Nat.le_refl _) (.slice none 0 0)).setCell (p := ⟨w.heap.size, 1, none⟩) (Nat.le_refl _) (.slice none 0 0)) none
        generalize (w5.setCell ⟨w.heap.size, 0, none⟩ (.slice none 0 0)).setCell ⟨w.heap.size, 1, none⟩ (.slice none 0 0) = W6 at *
        have z0 := cell_of_block p6 0
        have z1 := cell_of_block p6 1
        simp at z0 z1
        refine bodyPost_ret (v := .tuple #[.agg #[.slice none 0 0, .slice none 0 0], .int .i64 E]) (by simp [results, Try.results20, go_sem, z0, z1]) rfl ?_
        refine ⟨hg6, ?_⟩
        rw [hr]
        exact ⟨_, _, _, _, _, _, rfl, noPool_v _ _, noPool_wf⟩
    · have hr : readI b = (noPool, 9) := by
        unfold readI
        rw [if_neg HLN.out]
        split
        · rename_i p h
          exact absurd ⟨p, h⟩ hok
        · rfl
      have he2 : ∃ so sn sc ao n cap, e = .returned (.tuple #[.agg #[.slice so sn sc, .slice ao n cap], .bool false]) := by
        split at he
        · rename_i p h
          exact absurd ⟨p, h⟩ hok
        · exact he
      obtain ⟨so, sn, sc, xo, tn, tc, rfl⟩ := he2
      clear he hok
      go_wp2_with fail
      have p4 := heap_setCell_same' (heap_setCell_same' HP1.out 0 (.slice none 0 0)) 1 (.slice none 0 0)
      simp at p4
      have p6 := (Below.heap_alloc _ (.cells #[.slice so sn sc, .slice xo tn tc] 49) _ (by simpa using l0)).trans p4
      have hg6 := grown_of_below (((HB1.out.setCell (p := ⟨w.heap.size, 0, none⟩) (Nat.le_refl _) (.slice none 0 0)).setCell (p := ⟨w.heap.size, 1, none⟩) (Nat.le_refl _) (.slice none 0 0)).alloc (by simp; omega) (.cells #[.slice so sn sc, .slice xo tn tc] 49)) none
      generalize ((w1.setCell ⟨w.heap.size, 0, none⟩ (.slice none 0 0)).setCell ⟨w.heap.size, 1, none⟩ (.slice none 0 0)).alloc (.cells #[.slice so sn sc, .slice xo tn tc] 49) = W6 at *
      have z0 := cell_of_block p6 0
      have z1 := cell_of_block p6 1
      simp at z0 z1
      refine bodyPost_ret (v := .tuple #[.agg #[.slice none 0 0, .slice none 0 0], .int .i64 9]) (by simp [results, Try.results20, go_sem, z0, z1]) rfl ?_
      refine ⟨hg6, ?_⟩
      rw [hr]
      exact ⟨_, _, _, _, _, _, rfl, noPool_v _ _, noPool_wf⟩
end Go.Proofs.Ytfmgdjgedhnmeaa
