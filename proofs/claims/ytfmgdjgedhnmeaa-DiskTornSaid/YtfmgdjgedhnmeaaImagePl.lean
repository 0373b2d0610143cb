/- image's reader: a pool. -/
import Derived.Test.YtfmgdjgedhnmeaaImageE
namespace Go.Proofs.Ytfmgdjgedhnmeaa
open Go.RowKit
set_option linter.unusedVariables false
set_option linter.unusedSimpArgs false

theorem rents_or {w : World} {rb B : Nat} {bs : List Int} {Post : Ending → World → Prop} (hR : RdAt w rb B bs) (hB : B ≤ rb) (ho : RdOk bs)
    (hp : ∀ w', entsR bs = none → w.grownBy w' (some rb) → Post (.panicked [{ v := .iface 166 (.agg #[]), recovered := false }]) w')
    (hr : ∀ l r ao k c w', Hid (entsR bs = some (l, r)) → Hid (RdAt w' rb B r) → Hid (RdOk r) → Hid (entRep.Grow w' w.heap.size (.slice ao k c) l) → w.grownBy w' (some rb) → Post (.returned (.slice ao k c)) w') :
    Calls Try.prog 127 #[.pointer (some ⟨rb, 0, none⟩)] w Post := by
  refine (rents_any w rb B bs hR hB ho).mono ?_
  rintro e w' ⟨hg, he⟩
  cases h : entsR bs with
  | none =>
    rw [h] at he
    subst he
    exact hp w' h hg
  | some z =>
    obtain ⟨l, r⟩ := z
    rw [h] at he
    obtain ⟨v, rfl, hv, h1⟩ := he
    obtain ⟨ao, cap, rfl, -⟩ := hv.shape
    exact hr l r ao _ cap w' (Lib.hid h) (Lib.hid h1) (Lib.hid (ho.tail Tail.ents h)) (Lib.hid hv) hg

theorem StillT.of_grown {ty : TypeId → Bool} {base rb : Nat} {w w' : World} (h : w.grownBy w' (some rb)) (hb : rb < base) : StillT ty base w w' := .of_keep h.size fun b h1 h2 => h.block b h2 (fun e => by cases e; omega)
theorem StillT.trans {ty : TypeId → Bool} {base : Nat} {w w1 w2 : World} (h : StillT ty base w w1) (k : StillT ty base w1 w2) : StillT ty base w w2 :=
  ⟨Nat.le_trans h.1 k.1, fun b h1 h2 cs t f h3 h4 => by
    have e1 := h.2 b h1 h2 cs t f h3 h4
    exact (k.2 b h1 (Nat.lt_of_lt_of_le h2 h.1) cs t f (e1.trans h3) h4).trans e1⟩
/-- a row of another type grows -/
theorem StillT.of_row {ty : TypeId → Bool} {base : Nat} {w w' : World} {r : Option Nat} {e : TypeId} (h : w.grownBy w' r) (hr : ∀ g, r = some g → ∃ cs, w.heap[g]? = some (.cells cs e (0, 0))) (he : ty e = false) : StillT ty base w w' :=
  ⟨h.size, fun b h1 h2 cs t f h3 h4 => h.block b h2 fun e2 => by
    obtain ⟨cs2, h5⟩ := hr b e2.symm
    rw [h3] at h5
    simp only [Option.some.injEq, Obj.cells.injEq] at h5
    rw [h5.2.1, he] at h4
    cases h4⟩
/-- a block of another type, or below, is written -/
theorem StillT.of_set {ty : TypeId → Bool} {base c i : Nat} {w : World} {v : Value} (h : c < base ∨ ∀ cs t f, w.heap[c]? = some (.cells cs t f) → ty t = false) : StillT ty base w (w.setCell ⟨c, i, none⟩ v) :=
  ⟨by simp, fun b h1 h2 cs t f h3 h4 => Below.heap_setCell _ _ _ _ (fun e => by
    have e : b = c := e
    rcases h with h | h
    · omega
    · rw [e] at h3
      rw [h cs t f h3] at h4
      cases h4)⟩
theorem grown_put {w x : World} {rb c i : Nat} {v : Value} (h : w.grownBy x (some rb)) (hc : w.heap.size ≤ c) : w.grownBy (x.setCell ⟨c, i, none⟩ v) (some rb) :=
  ⟨h.os, h.tape, h.output, by simpa using h.size, fun b hb hr => (Below.heap_setCell _ _ _ _ (fun e => by have e : b = c := e; omega)).trans (h.block b hb hr)⟩
theorem grown_alloc {w x : World} {r : Option Nat} {o : Obj} (h : w.grownBy x r) : w.grownBy (x.alloc o) r := grown_trans h (grown_of_below ((Below.refl _ _).alloc (Nat.le_refl _) _) _)
theorem RdAt.put {w : World} {rb B c i : Nat} {bs : List Int} {v : Value} (h : RdAt w rb B bs) (hc : c ≠ rb) (hB : B ≤ c) : RdAt (w.setCell ⟨c, i, none⟩ v) rb B bs := by
  obtain ⟨ao, cap, h1, h2, h3, h4⟩ := h
  exact ⟨ao, cap, (Below.heap_setCell _ _ _ _ (fun e => hc (show rb = c from e).symm)).trans h1, h2.mono ((Below.refl _ _).setCell (p := ⟨c, i, none⟩) hB v), h3, h4⟩

/-- append in a list of operations, its element's block under a name -/
theorem Rep.list_at {α β : Type} {M : Rep α β} {P : Program} {w : World} {ops : Array Oper} {rest : List Oper} {o : Oper} {act : Act} {Q : Exit → Act → World → Prop} (hgd : o.guard = none) (s y : Operand) (t : TypeId)
    (ho : o.op = .call { callee := .builtin .append, args := #[s, y], argTypes := #[t, t] }) (g : Nat) (hgs : g = w.heap.size)
    {base : Nat} {v : Value} {l : List β} {a : α} {x : β} (z : Value) (bytes : Nat) (ht : P.underlying t = some (.slice M.K.elem)) (hinfo : (P.info? M.K.elem).map (fun i => (i.zero, i.size, i.bytes)) = some (some z, M.K.k, bytes)) (hz : z.cells.size = M.K.k)
    (h : M.Grow w base v l) (hR : M.R w base a x) (hlen : l.length ≤ 100000) (hby : bytes ≤ 1000) (hbase : base ≤ w.heap.size) (cs : Array Value) (hcs : cs = (M.K.cells a).toArray)
    (hs : act.eval s = v) (hy : act.eval y = .slice (some ⟨g, 0, none⟩) 1 1)
    (hK : ∀ v' w', M.Grow w' base v' (l ++ [x]) → w.grownBy w' v.ownBlock → (v'.ownBlock = v.ownBlock ∨ ∃ g, v'.ownBlock = some g ∧ w.heap.size ≤ g) → wpList P ops Q rest (act.put o.dst v') w') :
    wpList P ops Q (o :: rest) act (w.alloc (.cells cs M.K.elem)) := by
  subst hgs
  exact Rep.list_append hgd s y t ho z bytes ht hinfo hz h hR hlen hby hbase cs hcs hs hy hK

def VPool (K : Nat) (w : World) (v : Value) (p : PoolV) : Prop :=
  ∃ so sn sc ao n cap, v = .agg #[.slice so sn sc, .slice ao n cap] ∧ bkvRep.Grow w K (.slice so sn sc) p.s ∧ tnvRep.Grow w K (.slice ao n cap) p.tens

def intK : Kind Int where
  cells x := [.int .i64 x]
  k := 1
  zero := 0
  elem := 3
  pos := by omega
  len _ := rfl
  one x v hv := by
    simp only [List.mem_cons, List.not_mem_nil, or_false] at hv
    subst hv; rfl
def intRep : Rep Int Int where
  K := intK
  R _ _ a x := a = x
  sub _ := false
  apart := rfl
  keep h _ := h
  weaken h _ := h
theorem int_all (l : List Int) : intK.all l = l.map (Value.int .i64) := by
  induction l with
  | nil => rfl
  | cons x l ih => rw [intK.all_cons, ih]; rfl
theorem int_own {w : World} {base : Nat} {v : Value} {l : List Int} (h : intRep.Grow w base v l) : Own .i64 3 base w v l := by
  obtain ⟨vs, h1, h2, h3⟩ := h
  have : vs = l := List.ext_getElem h2 fun i a b => h3 i a b
  subst this
  unfold Own
  rw [← int_all]
  exact h1
theorem info_i : (Try.prog.info? 3).map (fun i => (i.zero, i.size, i.bytes)) = some (some (.int .i64 0), 1, 8) := by kernel_rfl
theorem info_snp : (Try.prog.info? 105).map (fun i => (i.zero, i.size, i.bytes)) = some (some (.agg #[.string ⟨#[]⟩, .slice none 0 0]), 2, 40) := by kernel_rfl
theorem info_set : (Try.prog.info? 28).map (fun i => (i.zero, i.size, i.bytes)) = some (some (.agg #[.string ⟨#[]⟩, .slice none 0 0, .slice none 0 0]), 3, 64) := by kernel_rfl
theorem info_ten : (Try.prog.info? 75).map (fun i => (i.zero, i.size, i.bytes)) = some (some (.agg #[.int .i64 0, .int .i64 0, .slice none 0 0]), 3, 40) := by kernel_rfl
theorem info_blk2 : (Try.prog.info? 93).map (fun i => (i.zero, i.size, i.bytes)) = some (some (.agg #[.int .i64 0, .int .i64 0, .slice none 0 0, .slice none 0 0]), 4, 64) := by kernel_rfl
theorem Rep.Grow.shapeN {α β : Type} {M : Rep α β} {w : World} {base : Nat} {v : Value} {l : List β} (h : M.Grow w base v l) : ∃ ao n cap, v = .slice ao n cap := by
  obtain ⟨ao, cap, e, -⟩ := h.shape
  exact ⟨_, _, _, e⟩
theorem Rep.Grow.block {α β : Type} {M : Rep α β} {w : World} {base : Nat} {v : Value} {l : List β} (h : M.Grow w base v l) : ∀ g, v.ownBlock = some g → base ≤ g ∧ g < w.heap.size ∧ ∃ cs, w.heap[g]? = some (.cells cs M.K.elem (0, 0)) := by
  obtain ⟨ao, cap, e, -, h, -⟩ := h.shape
  exact h

theorem conv_alloc {w : World} {e base n c : Nat} {ao : Option Addr} {xs : List Int} {o : Obj} (h : Own .u8 e base w (.slice ao n c) xs) : (convert 38 9 (.slice ao n c)).run Try.prog (w.alloc o) = .ok (.string (strOf xs)) (w.alloc o) := conv_row (h.mono ((Below.refl _ _).alloc (Nat.le_refl _) _))
/-- a set's name and files are read: the set's box -/
def SetMid (w wx : World) (rb B : Nat) (t : List Int) (v : Value) : Prop :=
  ∃ X nm fs r1 r2 a k c, v = .pointer (some ⟨X, 0, none⟩) ∧ w.heap.size ≤ X ∧ wx.heap[X]? = some (.cells #[.string nm, .slice a k c, .slice none 0 0] 28 (0, 0)) ∧ strR t = some (nm, r1) ∧ entsR r1 = some (fs, r2) ∧ RdAt wx rb B r2 ∧ RdOk r2 ∧ entRep.Grow wx w.heap.size (.slice a k c) fs ∧ w.grownBy wx (some rb)
theorem SetMid.mk {w wx w7 : World} {rb B : Nat} {t r1 r2 : List Int} {nm : ByteArray} {fs : List Ent} {a : Option Addr} {k c : Nat} (h1 : strR t = some (nm, r1)) (h2 : entsR r1 = some (fs, r2)) (hR : RdAt wx rb B r2) (hB : B ≤ rb) (ho : RdOk r2) (hG : entRep.Grow wx w7.heap.size (.slice a k c) fs) (hs : w.heap.size ≤ w7.heap.size) (hg : w.grownBy wx (some rb)) :
    SetMid w (wx.alloc (.cells #[.string nm, .slice a k c, .slice none 0 0] 28)) rb B t (.pointer (some ⟨wx.heap.size, 0, none⟩)) := by
  have hb : Below wx.heap.size wx (wx.alloc (.cells #[.string nm, .slice a k c, .slice none 0 0] 28)) := (Below.refl _ _).alloc (Nat.le_refl _) _
  exact ⟨_, nm, fs, r1, r2, a, k, c, rfl, hg.size, heap_alloc_new _ _, h1, h2, hR.mono hb (by have := hR.box; omega), ho, (hG.mono hb).weaken hs, grown_alloc hg⟩
theorem three_sets {w : World} {X t : Nat} {a b c x y z : Value} (h : w.heap[X]? = some (.cells #[a, b, c] t (0, 0))) : (((w.setCell ⟨X, 0, none⟩ x).setCell ⟨X, 1, none⟩ y).setCell ⟨X, 2, none⟩ z).heap[X]? = some (.cells #[x, y, z] t (0, 0)) := by
  have h1 := heap_setCell_same' h 0 x
  have h2 := heap_setCell_same' h1 1 y
  have h3 := heap_setCell_same' h2 2 z
  simpa using h3
theorem SetMid.put {w wx w7 : World} {rb B X : Nat} {t r1 r2 : List Int} {nm : ByteArray} {fs : List Ent} {a : Option Addr} {k c : Nat} {u0 u1 u2 : Value} (h1 : strR t = some (nm, r1)) (h2 : entsR r1 = some (fs, r2)) (hR : RdAt wx rb B r2) (hB : B ≤ rb) (ho : RdOk r2) (hG : entRep.Grow wx w7.heap.size (.slice a k c) fs) (hs : w.heap.size ≤ w7.heap.size) (hg : w.grownBy wx (some rb))
    (hX : w.heap.size ≤ X) (hrb : rb < w.heap.size) (xb : wx.heap[X]? = some (.cells #[u0, u1, u2] 28 (0, 0))) :
    SetMid w (((wx.setCell ⟨X, 0, none⟩ (.string nm)).setCell ⟨X, 1, none⟩ (.slice a k c)).setCell ⟨X, 2, none⟩ (.slice none 0 0)) rb B t (.pointer (some ⟨X, 0, none⟩)) := by
  refine ⟨X, nm, fs, r1, r2, a, k, c, rfl, hX, three_sets xb, h1, h2, ((hR.put (by omega) (by omega)).put (by omega) (by omega)).put (by omega) (by omega), ho, ?_, grown_put (grown_put (grown_put hg hX) hX) hX⟩
  have e1 := heap_setCell_same' xb 0 (.string nm)
  have e2 := heap_setCell_same' e1 1 (.slice a k c)
  have key : ∀ {u : World} {cs : Array Value} {i : Nat} {v : Value} {l : List Ent}, u.heap[X]? = some (.cells cs 28 (0, 0)) → entRep.Grow u w7.heap.size (.slice a k c) l → entRep.Grow (u.setCell ⟨X, i, none⟩ v) w7.heap.size (.slice a k c) l := fun hu hg => hg.keep (.of_set (.inr fun cs t f h => by rw [hu] at h; cases h; rfl))
  exact (key e2 (key e1 (key xb hG))).weaken hs

set_option maxRecDepth 100000 in
set_option maxHeartbeats 16000000 in
theorem rpool_any (w : World) (rb B : Nat) (bs : List Int) (hR : RdAt w rb B bs) (hB : B ≤ rb) (ho : RdOk bs) :
    Calls Try.prog 94 #[.pointer (some ⟨rb, 0, none⟩)] w fun e w' => RdEnd poolR (VPool w.heap.size) rb B bs w e w' := by
  have hrb := hR.box
  have HO := Lib.hid ho
  have hb0 : Below w.heap.size w (w.alloc (.cells #[.slice none 0 0, .slice none 0 0] 49)) := (Below.refl _ _).alloc (Nat.le_refl _) _
  have hs0 : (w.alloc (.cells #[.slice none 0 0, .slice none 0 0] 49)).heap.size = w.heap.size + 1 := by simp
  have p0 : (w.alloc (.cells #[.slice none 0 0, .slice none 0 0] 49)).heap[w.heap.size]? = some (.cells #[.slice none 0 0, .slice none 0 0] 49 (0, 0)) := heap_alloc_new _ _
  have HR0 := Lib.hid (hR.mono hb0 (by omega))
  have hg0 := grown_of_below hb0 (some rb)
  clear hR ho
  go_enter Try.func94, Try.ntmps94
  go_wp2_with fail
  generalize w.alloc (.cells #[.slice none 0 0, .slice none 0 0] 49) = W0 at *
  refine rget_or HR0.out hB HO.out (fun wx h hgx => ⟨rfl, RdEnd.torn (by simp only [poolR, Rd.then, h]) (grown_trans hg0 hgx)⟩) ?_
  intro n0 r0 w1 H0 HR1 HO1 HN0 hg1
  have p1 := (hg1.block _ (lt_heap p0) (fun e => by cases e; omega)).trans p0
  have hgw1 := grown_trans hg0 hg1
  have hs1 := hg1.size
  have HBN : Hid (∀ x, w.grownBy x (some rb) → Hid (repR blkR n0.toNat r0 = none) → RdEnd poolR (VPool w.heap.size) rb B bs w Torn x) := Lib.hid fun x hx h => RdEnd.torn (by simp only [poolR, Rd.then, H0.out, h.out]) hx
  obtain ⟨hn00, hn01⟩ := HN0.out
  clear HR0 hg1 p0 hg0 hb0
  go_wp2
  go_loopw [8] (fun i wr => ∃ (k : Nat) (s : List Blk) (r : List Int) (va : Option Addr) (vn vc : Nat), (k : Int) ≤ n0 ∧ i = .int .i64 k ∧ Hid (repR blkR k r0 = some (s, r)) ∧ Hid (RdAt wr rb B r) ∧ wr.heap[w.heap.size]? = some (.cells #[.slice va vn vc, .slice none 0 0] 49 (0, 0)) ∧ Hid (bkvRep.Grow wr (w.heap.size + 1) (.slice va vn vc) s) ∧ w.grownBy wr (some rb)) (fun i _ => n0.toNat - (intOf i).toNat)
  case atStart => exact ⟨0, [], r0, none, 0, 0, hn00, rfl, Lib.hid rfl, HR1, p1, Lib.hid (Rep.Grow.nil _ _), hgw1⟩
  case round =>
    clear p1 hgw1 HR1
    obtain ⟨k, s, r, va, vn, vc, hkn, rfl, HK, HR, pr, HG, hgw⟩ := hrel
    have hsz := hgw.size
    have HOR := Lib.hid (HO1.out.tail (Tail.rep Tail.blk k) HK.out)
    have HLL := Lib.hid (rep_len HK.out)
    by_cases hlt : (k : Int) < n0
    · have HLB : Hid (∀ x, w.grownBy x (some rb) → Hid (blkR r = none) → RdEnd poolR (VPool w.heap.size) rb B bs w Torn x) := Lib.hid fun x hx h => HBN.out x hx (Lib.hid (rep_none HK.out h.out _ (by omega)))
      have lpr := lt_heap pr
      go_wp2_with fail
      refine rget_or HR.out hB HOR.out (fun wx h hgx => ⟨rfl, HLB.out wx (grown_trans hgw hgx) (Lib.hid (by simp only [blkR, Rd.then, h]))⟩) ?_
      intro n2 r2 w2 H2 HR2 HO2 HN2 hg2
      go_wp2_with fail
      refine rget_or HR2.out hB HO2.out (fun wx h hgx => ⟨rfl, HLB.out wx (grown_trans hgw (grown_trans hg2 hgx)) (Lib.hid (by simp only [blkR, Rd.then, H2.out, h]))⟩) ?_
      intro n3 r3 w3 H3 HR3 HO3 HN3 hg3
      have hg13 := grown_trans hg2 hg3
      have hs3 := hg13.size
      have hbX : Below w3.heap.size w3 (w3.alloc (.cells #[.int .i64 n2, .int .i64 n3, .slice none 0 0, .slice none 0 0] 93)) := (Below.refl _ _).alloc (Nat.le_refl _) _
      have hsX : (w3.alloc (.cells #[.int .i64 n2, .int .i64 n3, .slice none 0 0, .slice none 0 0] 93)).heap.size = w3.heap.size + 1 := by simp
      have q3 : (w3.alloc (.cells #[.int .i64 n2, .int .i64 n3, .slice none 0 0, .slice none 0 0] 93)).heap[w3.heap.size]? = some (.cells #[.int .i64 n2, .int .i64 n3, .slice none 0 0, .slice none 0 0] 93 (0, 0)) := heap_alloc_new _ _
      have HR4 := Lib.hid (HR3.out.mono hbX (by have := HR3.out.box; omega))
      have hg4 := grown_alloc (o := .cells #[.int .i64 n2, .int .i64 n3, .slice none 0 0, .slice none 0 0] 93) hg13
      go_wp2_with fail
      generalize w3.alloc (.cells #[.int .i64 n2, .int .i64 n3, .slice none 0 0, .slice none 0 0] 93) = W4 at *
      have hB0 : wr.heap.size ≤ w3.heap.size := hs3
      have hB1 : w.heap.size < w3.heap.size := by omega
      generalize w3.heap.size = B1 at *
      clear hbX hs3
      refine rget_or HR4.out hB HO3.out (fun wx h hgx => ⟨rfl, HLB.out wx (grown_trans hgw (grown_trans hg4 hgx)) (Lib.hid (by simp only [blkR, Rd.then, H2.out, H3.out, h]))⟩) ?_
      intro n5 r5 w5 H5 HR5 HO5 HN5 hg5
      have q5 := (hg5.block _ (lt_heap q3) (fun e => by cases e; omega)).trans q3
      have hg15 := grown_trans hg4 hg5
      have HLK : Hid (∀ x, w.grownBy x (some rb) → Hid (repR getR2 n5.toNat r5 = none) → RdEnd poolR (VPool w.heap.size) rb B bs w Torn x) := Lib.hid fun x hx h => HLB.out x hx (Lib.hid (by simp only [blkR, Rd.then, H2.out, H3.out, H5.out, h.out]))
      obtain ⟨hn50, hn51⟩ := HN5.out
      clear HR4 hg4 hg5 q3
      generalize wr = wo at *
      go_wp2
      go_loopw [17] (fun i wx => ∃ (j : Nat) (ks : List Int) (t : List Int) (ka : Option Addr) (kn kc : Nat), (j : Int) ≤ n5 ∧ i = .int .i64 j ∧ Hid (repR getR2 j r5 = some (ks, t)) ∧ Hid (RdAt wx rb B t) ∧ wx.heap[B1]? = some (.cells #[.int .i64 n2, .int .i64 n3, .slice ka kn kc, .slice none 0 0] 93 (0, 0)) ∧ Hid (intRep.Grow wx (B1 + 1) (.slice ka kn kc) ks) ∧ wo.grownBy wx (some rb)) (fun i _ => n5.toNat - (intOf i).toNat)
      case atStart => exact ⟨0, [], r5, none, 0, 0, hn50, rfl, Lib.hid rfl, HR5, q5, Lib.hid (Rep.Grow.nil _ _), hg15⟩
      case round =>
        clear q5 hg15 HR5
        obtain ⟨j, ks, t, ka, kn, kc, hjn, rfl, HKJ, HRJ, qj, HGJ, hgj⟩ := hrel
        have HOJ := Lib.hid (HO5.out.tail (Tail.rep Tail.get j) HKJ.out)
        have HLJ := Lib.hid (rep_len HKJ.out)
        have hszj := hgj.size
        by_cases hlj : (j : Int) < n5
        · have HD := Lib.hid (show RdAt wr.drew rb B t from HRJ.out.mono (Below.refl _ _).drew (by have := HRJ.out.box; omega))
          have c2 := cell_of_block qj 2
          simp at c2
          have lq := lt_heap qj
          have HLEN := Lib.hid (show ks.length ≤ 100000 by have := HLJ.out; omega)
          have HVL := Lib.hid (show ∀ g, (Value.slice ka kn kc).ownBlock = some g → B1 + 1 ≤ g from fun g h => (HGJ.out.block g h).1)
          go_wp2_with fail
          go_region_law
            (first
              | (go_simp; go_at_call 125; refine rget_or HD.out hB HOJ.out (fun wx h hgx => ⟨rfl, HLK.out wx (grown_trans hgw (grown_trans hgj (grown_from (Below.refl _ _).drew hgx))) (Lib.hid (rep_none HKJ.out h _ (by omega)))⟩) ?_; intro n7 r7 w7 H7 HR7 HO7 HN7 hg7; have q7 := (hg7.block _ lq (fun e => by cases e; omega)).trans qj; have c7 := cell_of_block q7 2; simp at c7; have l7 := lt_heap q7; have HG7 := Lib.hid (HGJ.out.keep (.of_grown (grown_from (w := wr) (Below.refl _ _).drew hg7) (by omega))); have hs7 := hg7.size; simp at hs7)
              | (refine Rep.step_append (M := intRep) (w := w7) (by rfl) _ _ _ (by rfl) (base := B1 + 1) (l := ks) (x := n7) (a := n7) _ 8 Try.underlying91 info_i (by rfl) HG7.out rfl HLEN.out (by omega) (by omega) _ (by rfl) (by rfl) (by rfl) ?_; intro v8 w8 hG8 hg8 hf8; obtain ⟨ka8, kn8, kc8, rfl⟩ := hG8.shapeN; have HR8 := Lib.hid ((HR7.out.own hg8 (fun g h => by have := HVL.out g h; omega)).put (c := B1) (i := 2) (v := .slice ka8 kn8 kc8) (by omega) (by omega)); have q8 := (hg8.block B1 l7 (fun e => by have := HVL.out _ e.symm; omega)).trans q7; have c8 := cell_of_block q8 2; have f8 := free_of_block q8 2; simp at c8; have l8 := lt_heap q8; have HG8 := Lib.hid (hG8.keep (.of_set (c := B1) (i := 2) (v := .slice ka8 kn8 kc8) (.inl (by omega)))); have hgw8 := grown_put (c := B1) (i := 2) (v := .slice ka8 kn8 kc8) (grown_own (grown_trans hgj (grown_from (w := wr) (Below.refl _ _).drew hg7)) hg8 (fun g h => by have := HVL.out g h; omega)) (by omega); have q9 := heap_setCell_same' q8 2 (.slice ka8 kn8 kc8); simp at q9; clear hG8 hg8 hf8))
          all_goals
            clear HD c2
            go_wp2
            go_roundw
            case rel => exact ⟨j + 1, ks ++ [n7], r7, ka8, kn8, kc8, by omega, by go_num, Lib.hid (rep_some HKJ.out H7.out), HR8, q9, HG8, hgw8⟩
            case measure => simp [intOf]; omega
        · have hjn2 : n5.toNat = j := by omega
          have HKK : Hid (repR getR2 n5.toNat r5 = some (ks, t)) := Lib.hid (by rw [hjn2]; exact HKJ.out)
          have lq := lt_heap qj
          have hlj' : ¬ (j : Int) < n5 := hlj
          clear hjn2 HKJ HLK
          go_wp2_with fail
          refine rget_or HRJ.out hB HOJ.out (fun wx h hgx => ⟨rfl, HLB.out wx (grown_trans hgw (grown_trans hgj hgx)) (Lib.hid (by simp only [blkR, Rd.then, H2.out, H3.out, H5.out, HKK.out, h]))⟩) ?_
          intro n9 r9 w9 H9 HR9 HO9 HN9 hg9
          go_wp2_with fail
          refine rbytes_or HR9.out hB HO9.out HN9.out (fun wx h hgx => ⟨rfl, HLB.out wx (grown_trans hgw (grown_trans hgj (grown_trans hg9 hgx))) (Lib.hid (by simp only [blkR, Rd.then, H2.out, H3.out, H5.out, HKK.out, H9.out, h]))⟩) ?_
          intro l10 r10 a10 k10 c10 w10 H10 HR10 HO10 HV10 hg10
          have hg910 := grown_trans hg9 hg10
          have q10 := (hg910.block _ lq (fun e => by cases e; omega)).trans qj
          have qc := cell_of_block q10 3
          simp at qc
          have qf := free_of_block q10 3
          have l10' := lt_heap q10
          have hs910 := hg910.size
          have q11 := heap_setCell_same' q10 3 (.slice a10 k10 c10)
          simp at q11
          have hgX := grown_put (c := B1) (i := 3) (v := .slice a10 k10 c10) (grown_trans hgj hg910) (by omega)
          have HRX := Lib.hid (HR10.out.put (c := B1) (i := 3) (v := .slice a10 k10 c10) (by omega) (by omega))
          have HGX := Lib.hid (HG.out.keep (.of_grown hgX (by omega)))
          have HKX := Lib.hid (int_own ((HGJ.out.keep (.of_grown hg910 (by omega))).keep (.of_set (c := B1) (i := 3) (v := .slice a10 k10 c10) (.inl (by omega)))))
          have HVX := Lib.hid (own_still (ty := fun t => t == 5) HV10.out (.of_set (c := B1) (i := 3) (v := .slice a10 k10 c10) (.inr fun cs t f h => by rw [q10] at h; cases h; rfl)) (by rfl))
          have pX := (hgX.block _ (lt_heap pr) (fun e => by cases e; omega)).trans pr
          have x0 := cell_of_block q11 0
          have x1 := cell_of_block q11 1
          have x2 := cell_of_block q11 2
          have x3 := cell_of_block q11 3
          simp at x0 x1 x2 x3
          have y0 := cell_of_block pX 0
          simp at y0
          have ly := lt_heap pX
          have lx := lt_heap q11
          have hsX := hgX.size
          have hgwX := grown_trans hgw hgX
          have HLEN := Lib.hid (show s.length ≤ 100000 by have := HLL.out; omega)
          have HRB : Hid (bkvRep.R (w10.setCell ⟨B1, 3, none⟩ (.slice a10 k10 c10)) (w.heap.size + 1) ⟨n2, n3, ka, kn, kc, a10, k10, c10⟩ ⟨n2, n3, ks, l10⟩) := Lib.hid ⟨rfl, rfl, HKX.out.weaken (by omega), HVX.out.weaken (by have := hg9.size; omega)⟩
          have HE := Lib.hid (rep_some HK.out (show blkR r = some (⟨n2, n3, ks, l10⟩, r10) by simp only [blkR, Rd.then, H2.out, H3.out, H5.out, HKK.out, H9.out, H10.out, Rd.ret]))
          have HVL := Lib.hid (show ∀ g, (Value.slice va vn vc).ownBlock = some g → w.heap.size + 1 ≤ g from fun g h => (HG.out.block g h).1)
          clear HG HGJ HKX HVX HR10 HRJ HR9 q10 qj
          have HSZ : Hid (w10.heap.size = (w10.setCell ⟨B1, 3, none⟩ (.slice a10 k10 c10)).heap.size) := Lib.hid (by simp)
          have HBX : Hid (w.heap.size + 1 ≤ (w10.setCell ⟨B1, 3, none⟩ (.slice a10 k10 c10)).heap.size) := Lib.hid (by omega)
          go_wp2_with (first
            | (at_builtin; refine Rep.list_at (M := bkvRep) (w := w10.setCell ⟨B1, 3, none⟩ (.slice a10 k10 c10)) rfl (.tmp 34) (.tmp 36) 22 rfl w10.heap.size HSZ.out (base := w.heap.size + 1) (a := ⟨n2, n3, ka, kn, kc, a10, k10, c10⟩) _ 64 Try.underlying22 info_blk2 rfl HGX.out HRB.out HLEN.out (by omega) HBX.out _ rfl rfl rfl ?_; intro v12 w12 hG12 hg12 hf12; obtain ⟨va2, vn2, vc2, rfl⟩ := hG12.shapeN; have p12 := (hg12.block w.heap.size ly (fun e => by have := HVL.out _ e.symm; omega)).trans pX; have y1 := cell_of_block p12 0; have yf := free_of_block p12 0; simp at y1; have ly2 := lt_heap p12; have HG12 := Lib.hid (hG12.keep (.of_set (c := w.heap.size) (i := 0) (v := .slice va2 vn2 vc2) (.inl (by omega)))); have HR12 := Lib.hid ((HRX.out.own hg12 (fun g h => by have := HVL.out g h; omega)).put (c := w.heap.size) (i := 0) (v := .slice va2 vn2 vc2) (by omega) (by omega)); have hgw12 := grown_put (c := w.heap.size) (i := 0) (v := .slice va2 vn2 vc2) (grown_own hgwX hg12 (fun g h => by have := HVL.out g h; omega)) (Nat.le_refl _); have p13 := heap_setCell_same' p12 0 (.slice va2 vn2 vc2); simp at p13; clear hG12 hg12 hf12))
          go_roundw
          case rel => exact ⟨k + 1, s ++ [⟨n2, n3, ks, l10⟩], r10, va2, vn2, vc2, by omega, by go_num, HE, HR12, p13, HG12, hgw12⟩
          case measure => simp [intOf]; omega
    · have hkn2 : n0.toNat = k := by omega
      have HKB : Hid (repR blkR n0.toNat r0 = some (s, r)) := Lib.hid (by rw [hkn2]; exact HK.out)
      have hlt' : ¬ (k : Int) < n0 := hlt
      have lpr := lt_heap pr
      clear hkn2 HK HBN HLL
      generalize wr = wp at *
      go_wp2_with fail
      refine rget_or HR.out hB HOR.out (fun wx h hgx => ⟨rfl, RdEnd.torn (by simp only [poolR, Rd.then, H0.out, HKB.out, h]) (grown_trans hgw hgx)⟩) ?_
      intro n1 r1 w20 H1 HR20 HO20 HN20 hg20
      have p20 := (hg20.block _ lpr (fun e => by cases e; omega)).trans pr
      have HG20 := Lib.hid (HG.out.keep (.of_grown hg20 (by omega)))
      have hgw20 := grown_trans hgw hg20
      have HTN : Hid (∀ x, w.grownBy x (some rb) → Hid (repR tenR n1.toNat r1 = none) → RdEnd poolR (VPool w.heap.size) rb B bs w Torn x) := Lib.hid fun x hx h => RdEnd.torn (by simp only [poolR, Rd.then, H0.out, HKB.out, H1.out, h.out]) hx
      obtain ⟨hn10, hn11⟩ := HN20.out
      clear HG HR pr lpr hg20 hgw
      go_wp2
      go_loopw [43] (fun i wx => ∃ (q : Nat) (ts : List TenV) (t : List Int) (ta : Option Addr) (tn tc : Nat), (q : Int) ≤ n1 ∧ i = .int .i64 q ∧ Hid (repR tenR q r1 = some (ts, t)) ∧ Hid (RdAt wx rb B t) ∧ wx.heap[w.heap.size]? = some (.cells #[.slice va vn vc, .slice ta tn tc] 49 (0, 0)) ∧ Hid (bkvRep.Grow wx (w.heap.size + 1) (.slice va vn vc) s) ∧ Hid (tnvRep.Grow wx (w.heap.size + 1) (.slice ta tn tc) ts) ∧ w.grownBy wx (some rb)) (fun i _ => n1.toNat - (intOf i).toNat)
      case atStart => exact ⟨0, [], r1, none, 0, 0, hn10, rfl, Lib.hid rfl, HR20, p20, HG20, Lib.hid (Rep.Grow.nil _ _), hgw20⟩
      case round =>
        clear p20 HG20 HR20 hgw20
        obtain ⟨q, ts, t, ta, tn, tc, hqn, rfl, HKQ, HRQ, pq, HGB, HGT, hgq⟩ := hrel
        have hszq := hgq.size
        have HOQ := Lib.hid (HO20.out.tail (Tail.rep Tail.ten q) HKQ.out)
        have HLQ := Lib.hid (rep_len HKQ.out)
        by_cases hlq : (q : Int) < n1
        · have HLT : Hid (∀ x, w.grownBy x (some rb) → Hid (tenR t = none) → RdEnd poolR (VPool w.heap.size) rb B bs w Torn x) := Lib.hid fun x hx h => HTN.out x hx (Lib.hid (rep_none HKQ.out h.out _ (by omega)))
          have lpq := lt_heap pq
          go_wp2_with fail
          refine rget_or HRQ.out hB HOQ.out (fun wx h hgx => ⟨rfl, HLT.out wx (grown_trans hgq hgx) (Lib.hid (by simp only [tenR, Rd.then, h]))⟩) ?_
          intro n2 r2 w2 H2 HR2 HO2 HN2 hg2
          go_wp2_with fail
          refine rget_or HR2.out hB HO2.out (fun wx h hgx => ⟨rfl, HLT.out wx (grown_trans hgq (grown_trans hg2 hgx)) (Lib.hid (by simp only [tenR, Rd.then, H2.out, h]))⟩) ?_
          intro n3 r3 w3 H3 HR3 HO3 HN3 hg3
          have hg13 := grown_trans hg2 hg3
          have hs3 := hg13.size
          have hbX : Below w3.heap.size w3 (w3.alloc (.cells #[.int .i64 n2, .int .i64 n3, .slice none 0 0] 75)) := (Below.refl _ _).alloc (Nat.le_refl _) _
          have q3 : (w3.alloc (.cells #[.int .i64 n2, .int .i64 n3, .slice none 0 0] 75)).heap[w3.heap.size]? = some (.cells #[.int .i64 n2, .int .i64 n3, .slice none 0 0] 75 (0, 0)) := heap_alloc_new _ _
          have HR4 := Lib.hid (HR3.out.mono hbX (by have := HR3.out.box; omega))
          have hg4 := grown_alloc (o := .cells #[.int .i64 n2, .int .i64 n3, .slice none 0 0] 75) hg13
          go_wp2_with fail
          generalize w3.alloc (.cells #[.int .i64 n2, .int .i64 n3, .slice none 0 0] 75) = W4 at *
          have hB0 : wr.heap.size ≤ w3.heap.size := hs3
          have hB1 : w.heap.size < w3.heap.size := by omega
          generalize w3.heap.size = T1 at *
          clear hbX hs3
          refine rget_or HR4.out hB HO3.out (fun wx h hgx => ⟨rfl, HLT.out wx (grown_trans hgq (grown_trans hg4 hgx)) (Lib.hid (by simp only [tenR, Rd.then, H2.out, H3.out, h]))⟩) ?_
          intro n5 r5 w5 H5 HR5 HO5 HN5 hg5
          have q5 := (hg5.block _ (lt_heap q3) (fun e => by cases e; omega)).trans q3
          have hg15 := grown_trans hg4 hg5
          have HLS : Hid (∀ x, w.grownBy x (some rb) → Hid (repR setR2 n5.toNat r5 = none) → RdEnd poolR (VPool w.heap.size) rb B bs w Torn x) := Lib.hid fun x hx h => HLT.out x hx (Lib.hid (by simp only [tenR, Rd.then, H2.out, H3.out, H5.out, h.out]))
          obtain ⟨hn50, hn51⟩ := HN5.out
          clear HR4 hg4 hg5 q3
          generalize wr = wo at *
          go_wp2
          go_loopw [52] (fun i wx => ∃ (j : Nat) (xs : List SetV) (t : List Int) (sa : Option Addr) (sm sk : Nat), (j : Int) ≤ n5 ∧ i = .int .i64 j ∧ Hid (repR setR2 j r5 = some (xs, t)) ∧ Hid (RdAt wx rb B t) ∧ wx.heap[T1]? = some (.cells #[.int .i64 n2, .int .i64 n3, .slice sa sm sk] 75 (0, 0)) ∧ Hid (stvRep.Grow wx (T1 + 1) (.slice sa sm sk) xs) ∧ wo.grownBy wx (some rb)) (fun i _ => n5.toNat - (intOf i).toNat)
          case atStart => exact ⟨0, [], r5, none, 0, 0, hn50, rfl, Lib.hid rfl, HR5, q5, Lib.hid (Rep.Grow.nil _ _), hg15⟩
          case round =>
            clear q5 hg15 HR5
            obtain ⟨j, xs, u, sa, sm, sk, hjn, rfl, HKJ, HRJ, qj, HGJ, hgj⟩ := hrel
            have HOJ := Lib.hid (HO5.out.tail (Tail.rep Tail.set j) HKJ.out)
            have HLJ := Lib.hid (rep_len HKJ.out)
            have hszj := hgj.size
            by_cases hlj : (j : Int) < n5
            · have HLX : Hid (∀ x, w.grownBy x (some rb) → Hid (setR2 u = none) → RdEnd poolR (VPool w.heap.size) rb B bs w Torn x) := Lib.hid fun x hx h => HLS.out x hx (Lib.hid (rep_none HKJ.out h.out _ (by omega)))
              have HD := Lib.hid (show RdAt wr.drew rb B u from HRJ.out.mono (Below.refl _ _).drew (by have := HRJ.out.box; omega))
              have hgj0 := grown_trans hgq hgj
              generalize wr = w4 at *
              go_upto_region 16 with fail
              go_cut [5] (fun v wx => Hid (SetMid w4 wx rb B u v))
              case first =>
                have hrb4 : rb < w4.heap.size := by omega
                have hBd : B ≤ w4.heap.size := by omega
                go_region_law
                  (first
                    | (go_simp; go_at_call 125; refine rget_or HD.out hB HOJ.out (fun wx h hgx => ⟨rfl, HLX.out wx (grown_trans hgj0 (grown_from (Below.refl _ _).drew hgx)) (Lib.hid (by simp only [setR2, Rd.then, str_none1 h]))⟩) ?_; intro n6 r6 w6 H6 HR6 HO6 HN6 hg6; have hw6 := grown_from (w := w4) (Below.refl _ _).drew hg6)
                    | (go_simp; go_at_call 125; refine rget_or (w := (w4.alloc (.cells #[.string ⟨#[]⟩, .slice none 0 0, .slice none 0 0] 28)).drew) (HRJ.out.mono (((Below.refl _ _).alloc (Nat.le_refl _) _).drew) hBd) hB HOJ.out (fun wx h hgx => ⟨rfl, HLX.out wx (grown_trans hgj0 (grown_from (w := w4) (((Below.refl _ _).alloc (Nat.le_refl _) _).drew) hgx)) (Lib.hid (by simp only [setR2, Rd.then, str_none1 h]))⟩) ?_; intro n6 r6 w6 H6 HR6 HO6 HN6 hg6; have hw6 := grown_from (w := w4) (((Below.refl _ _).alloc (Nat.le_refl _) _).drew) hg6; have xb : w6.heap[w4.heap.size]? = some (.cells #[.string ⟨#[]⟩, .slice none 0 0, .slice none 0 0] 28 (0, 0)) := (hg6.block _ (lt_heap (show (w4.alloc (.cells #[.string ⟨#[]⟩, .slice none 0 0, .slice none 0 0] 28)).drew.heap[w4.heap.size]? = some (.cells #[.string ⟨#[]⟩, .slice none 0 0, .slice none 0 0] 28 (0, 0)) from heap_alloc_new w4 (.cells #[.string ⟨#[]⟩, .slice none 0 0, .slice none 0 0] 28))) (fun e => by cases e; omega)).trans (heap_alloc_new w4 (.cells #[.string ⟨#[]⟩, .slice none 0 0, .slice none 0 0] 28)))
                    | (go_simp; go_at_call 126; refine rbytes_or HR6.out hB HO6.out HN6.out (fun wx h hgx => ⟨rfl, HLX.out wx (grown_trans hgj0 (grown_trans hw6 hgx)) (Lib.hid (by simp only [setR2, Rd.then, str_none2 H6.out h]))⟩) ?_; intro l7 r7 a7 k7 c7 w7 H7 HR7 HO7 HV7 hg7; have hcv7 := conv_row HV7.out; have hcv7a := conv_alloc (o := (.cells #[.string ⟨#[]⟩, .slice none 0 0, .slice none 0 0] 28)) HV7.out; have hw7 := grown_trans hw6 hg7; have HV7' := Lib.hid (HV7.out.weaken hw6.size); (try replace xb := (hg7.block _ (lt_heap xb) (fun e => by cases e; omega)).trans xb))
                    | (go_simp; go_at_call 126; refine rbytes_or (w := w6.alloc (.cells #[.string ⟨#[]⟩, .slice none 0 0, .slice none 0 0] 28)) (HR6.out.mono ((Below.refl _ _).alloc (Nat.le_refl _) _) (by have := hw6.size; omega)) hB HO6.out HN6.out (fun wx h hgx => ⟨rfl, HLX.out wx (grown_trans hgj0 (grown_trans hw6 (grown_from ((Below.refl _ _).alloc (Nat.le_refl _) _) hgx))) (Lib.hid (by simp only [setR2, Rd.then, str_none2 H6.out h]))⟩) ?_; intro l7 r7 a7 k7 c7 w7 H7 HR7 HO7 HV7 hg7; have hcv7 := conv_row HV7.out; have hcv7a := conv_alloc (o := (.cells #[.string ⟨#[]⟩, .slice none 0 0, .slice none 0 0] 28)) HV7.out; have hw7 := grown_trans hw6 (grown_from ((Below.refl _ _).alloc (Nat.le_refl _) _) hg7); have HV7' := Lib.hid (HV7.out.weaken (base' := w4.heap.size) (by have := hw6.size; simp; omega)); have xb := (hg7.block _ (lt_heap (heap_alloc_new w6 (.cells #[.string ⟨#[]⟩, .slice none 0 0, .slice none 0 0] 28))) (fun e => by cases e; have := hw6.size; omega)).trans (heap_alloc_new w6 (.cells #[.string ⟨#[]⟩, .slice none 0 0, .slice none 0 0] 28)))
                    | (go_simp; go_at_call 127; refine rents_or HR7.out hB HO7.out (fun wx h hgx => ⟨rfl, HLX.out wx (grown_trans hgj0 (grown_trans hw7 hgx)) (Lib.hid (by simp only [setR2, Rd.then, str_some H6.out H7.out, h]))⟩) ?_; intro l8 r8 a8 k8 c8 w8 H8 HR8 HO8 HV8 hg8; have hg8X := hg8; (try replace xb := (hg8.block _ (lt_heap xb) (fun e => by have h6 := hw6.size; cases e; omega)).trans xb); have hcv8 := conv_later HV7'.out hg8X hrb4; have hcv8a := conv_alloc (o := (.cells #[.string ⟨#[]⟩, .slice none 0 0, .slice none 0 0] 28)) (HV7'.out.grown' hg8X hrb4); have hw8 := grown_trans hw7 hg8X; have HMA := Lib.hid (SetMid.mk (w := w4) (str_some H6.out H7.out) H8.out HR8.out hB HO8.out HV8.out (by have := hw7.size; simp; omega) hw8); (try have HMB := Lib.hid (SetMid.put (w := w4) (str_some H6.out H7.out) H8.out HR8.out hB HO8.out HV8.out (by have := hw7.size; simp; omega) hw8 (by first | omega | (have := hw6.size; omega) | (have := hw7.size; omega)) hrb4 xb)); (try have xc0 := cell_of_block xb 0); (try have xc1 := cell_of_block xb 1); (try have xc2 := cell_of_block xb 2); (try simp at xc0 xc1 xc2); (try have xf0 := free_of_block xb 0); (try have xf1 := free_of_block xb 1); (try have xf2 := free_of_block xb 2); (try have xl := lt_heap xb))
                    | (go_simp; go_at_call 127; refine rents_or (w := w7.alloc (.cells #[.string ⟨#[]⟩, .slice none 0 0, .slice none 0 0] 28)) (HR7.out.mono ((Below.refl _ _).alloc (Nat.le_refl _) _) (by have := hw7.size; omega)) hB HO7.out (fun wx h hgx => ⟨rfl, HLX.out wx (grown_trans hgj0 (grown_trans hw7 (grown_from ((Below.refl _ _).alloc (Nat.le_refl _) _) hgx))) (Lib.hid (by simp only [setR2, Rd.then, str_some H6.out H7.out, h]))⟩) ?_; intro l8 r8 a8 k8 c8 w8 H8 HR8 HO8 HV8 hg8; have hg8X := grown_from (w := w7) ((Below.refl _ _).alloc (Nat.le_refl _) _) hg8; have xb := (hg8.block _ (lt_heap (heap_alloc_new w7 (.cells #[.string ⟨#[]⟩, .slice none 0 0, .slice none 0 0] 28))) (fun e => by cases e; have := hw7.size; omega)).trans (heap_alloc_new w7 (.cells #[.string ⟨#[]⟩, .slice none 0 0, .slice none 0 0] 28)); have hcv8 := conv_later HV7'.out hg8X hrb4; have hcv8a := conv_alloc (o := (.cells #[.string ⟨#[]⟩, .slice none 0 0, .slice none 0 0] 28)) (HV7'.out.grown' hg8X hrb4); have hw8 := grown_trans hw7 hg8X; have HMA := Lib.hid (SetMid.mk (w := w4) (str_some H6.out H7.out) H8.out HR8.out hB HO8.out HV8.out (by have := hw7.size; simp; omega) hw8); (try have HMB := Lib.hid (SetMid.put (w := w4) (str_some H6.out H7.out) H8.out HR8.out hB HO8.out HV8.out (by have := hw7.size; simp; omega) hw8 (by first | omega | (have := hw6.size; omega) | (have := hw7.size; omega)) hrb4 xb)); (try have xc0 := cell_of_block xb 0); (try have xc1 := cell_of_block xb 1); (try have xc2 := cell_of_block xb 2); (try simp at xc0 xc1 xc2); (try have xf0 := free_of_block xb 0); (try have xf1 := free_of_block xb 1); (try have xf2 := free_of_block xb 2); (try have xl := lt_heap xb)))
                all_goals
                  go_wp2_with fail
                  go_meet
                  first | exact HMA | exact HMB
              case rest =>
                obtain ⟨X1, nm, fs, r6, r7, fa, fk, fc, rfl, hX0, xq0, hst, hen, hR7, hO7, hF7, hg7⟩ := hcut.out
                have HST := Lib.hid hst
                have HEN := Lib.hid hen
                have HR7 := Lib.hid hR7
                have HO7 := Lib.hid hO7
                have HF7 := Lib.hid hF7
                have lx0 := lt_heap xq0
                have hrb4 : rb < w4.heap.size := by omega
                clear hst hen hR7 hO7 hF7 hcut HD HRJ HOJ
                go_wp2_with fail
                refine rget_or HR7.out hB HO7.out (fun wx h hgx => ⟨rfl, HLX.out wx (grown_trans hgj0 (grown_trans hg7 hgx)) (Lib.hid (by simp only [setR2, Rd.then, HST.out, HEN.out, h]))⟩) ?_
                intro n9 r9 w9 H9 HR9 HO9 HN9 hg9
                have xq9 := (hg9.block _ lx0 (fun e => by cases e; omega)).trans xq0
                have HF9 := Lib.hid (HF7.out.keep (.of_grown hg9 hrb4))
                have hg19 := grown_trans hg7 hg9
                have HLN : Hid (∀ x, w.grownBy x (some rb) → Hid (repR snpR n9.toNat r9 = none) → RdEnd poolR (VPool w.heap.size) rb B bs w Torn x) := Lib.hid fun x hx h => HLX.out x hx (Lib.hid (by simp only [setR2, Rd.then, HST.out, HEN.out, H9.out, h.out]))
                obtain ⟨hn90, hn91⟩ := HN9.out
                clear HR7 HF7 hg7 hg9 xq0 lx0
                go_wp2
                go_loopw [64] (fun i wx => ∃ (m : Nat) (ys : List Snp) (t : List Int) (ya : Option Addr) (yn yc : Nat), (m : Int) ≤ n9 ∧ i = .int .i64 m ∧ Hid (repR snpR m r9 = some (ys, t)) ∧ Hid (RdAt wx rb B t) ∧ wx.heap[X1]? = some (.cells #[.string nm, .slice fa fk fc, .slice ya yn yc] 28 (0, 0)) ∧ Hid (entRep.Grow wx w4.heap.size (.slice fa fk fc) fs) ∧ Hid (snpRep.Grow wx (X1 + 1) (.slice ya yn yc) ys) ∧ w4.grownBy wx (some rb)) (fun i _ => n9.toNat - (intOf i).toNat)
                case atStart => exact ⟨0, [], r9, none, 0, 0, hn90, rfl, Lib.hid rfl, HR9, xq9, HF9, Lib.hid (Rep.Grow.nil _ _), hg19⟩
                case round =>
                  clear xq9 hg19 HR9 HF9
                  obtain ⟨m, ys, z, ya, yn, yc, hmn, rfl, HKM, HRM, xq, HFM, HGM, hgm⟩ := hrel
                  have HOM := Lib.hid (HO9.out.tail (Tail.rep Tail.snp m) HKM.out)
                  have HLM := Lib.hid (rep_len HKM.out)
                  have hszm := hgm.size
                  have lX := lt_heap xq
                  by_cases hlm : (m : Int) < n9
                  · have HLY : Hid (∀ x, w.grownBy x (some rb) → Hid (snpR z = none) → RdEnd poolR (VPool w.heap.size) rb B bs w Torn x) := Lib.hid fun x hx h => HLN.out x hx (Lib.hid (rep_none HKM.out h.out _ (by omega)))
                    have HD5 := Lib.hid (show RdAt wr.drew rb B z from HRM.out.mono (Below.refl _ _).drew (by have := HRM.out.box; omega))
                    have hgm0 := grown_trans hgj0 hgm
                    have c2 := cell_of_block xq 2
                    simp at c2
                    have hrb5 : rb < wr.heap.size := by omega
                    have HLEN5 := Lib.hid (show ys.length ≤ 100000 by have := HLM.out; omega)
                    have HVL5 := Lib.hid (show ∀ g, (Value.slice ya yn yc).ownBlock = some g → X1 + 1 ≤ g from fun g h => (HGM.out.block g h).1)
                    go_wp2_with fail
                    go_region_law
                      (first
                        | (go_simp; go_at_call 125; refine rget_or HD5.out hB HOM.out (fun wx h hgx => ⟨rfl, HLY.out wx (grown_trans hgm0 (grown_from (Below.refl _ _).drew hgx)) (Lib.hid (by simp only [snpR, Rd.then, str_none1 h]))⟩) ?_; intro n10 r10 w10 H10 HR10 HO10 HN10 hg10; have hw10 := grown_from (w := wr) (Below.refl _ _).drew hg10; have x10 := (hg10.block X1 lX (fun e => by cases e; omega)).trans xq; have c10 := cell_of_block x10 2; simp at c10; have l10 := lt_heap x10)
                        | (go_simp; go_at_call 126; refine rbytes_or HR10.out hB HO10.out HN10.out (fun wx h hgx => ⟨rfl, HLY.out wx (grown_trans hgm0 (grown_trans hw10 hgx)) (Lib.hid (by simp only [snpR, Rd.then, str_none2 H10.out h]))⟩) ?_; intro l11 r11 a11 k11 c11 w11 H11 HR11 HO11 HV11 hg11; have hcv11 := conv_row HV11.out; have hw11 := grown_trans hw10 hg11; have HV11' := Lib.hid (HV11.out.weaken hw10.size); have x11 := (hg11.block X1 l10 (fun e => by cases e; omega)).trans x10; have d11 := cell_of_block x11 2; simp at d11; have e11 := lt_heap x11)
                        | (go_simp; go_at_call 127; refine rents_or HR11.out hB HO11.out (fun wx h hgx => ⟨rfl, HLY.out wx (grown_trans hgm0 (grown_trans hw11 hgx)) (Lib.hid (by simp only [snpR, Rd.then, str_some H10.out H11.out, h]))⟩) ?_; intro l12 r12 a12 k12 c12 w12 H12 HR12 HO12 HV12 hg12; have hcv12 := conv_later HV11'.out hg12 hrb5; have hw12 := grown_trans hw11 hg12; have x12 := (hg12.block X1 e11 (fun e => by cases e; omega)).trans x11; have d12 := cell_of_block x12 2; simp at d12; have e12 := lt_heap x12; have HGM12 := Lib.hid (HGM.out.keep (.of_grown hw12 (by omega))); have HFM12 := Lib.hid (HFM.out.keep (.of_grown hw12 (by omega))); have HR12B : Hid (snpRep.R w12 (X1 + 1) ⟨strOf l11, a12, k12, c12⟩ ⟨strOf l11, l12⟩) := Lib.hid ⟨rfl, HV12.out.weaken (by have := hw11.size; omega)⟩; have HB12 : Hid (X1 + 1 ≤ w12.heap.size) := Lib.hid (by omega))
                        | (refine Rep.step_append (M := snpRep) (w := w12) (by rfl) _ _ _ (by rfl) (base := X1 + 1) (l := ys) (x := ⟨strOf l11, l12⟩) (a := ⟨strOf l11, a12, k12, c12⟩) _ 40 Try.underlying26 info_snp (by rfl) HGM12.out HR12B.out HLEN5.out (by omega) HB12.out _ (by rfl) (by rfl) (by rfl) ?_; intro v13 w13 hG13 hg13 hf13; obtain ⟨ya3, yn3, yc3, rfl⟩ := hG13.shapeN; have HR13 := Lib.hid ((HR12.out.own hg13 (fun g h => by have := HVL5.out g h; omega)).put (c := X1) (i := 2) (v := .slice ya3 yn3 yc3) (by omega) (by omega)); have x13 := (hg13.block X1 e12 (fun e => by have := HVL5.out _ e.symm; omega)).trans x12; have d13 := cell_of_block x13 2; have f13 := free_of_block x13 2; simp at d13; have e13 := lt_heap x13; have HG13 := Lib.hid (hG13.keep (.of_set (c := X1) (i := 2) (v := .slice ya3 yn3 yc3) (.inl (by omega)))); have HF13 := Lib.hid ((HFM12.out.keep (.of_row hg13 (fun g h => (HGM12.out.block g h).2.2) (by rfl))).keep (.of_set (c := X1) (i := 2) (v := .slice ya3 yn3 yc3) (.inr fun cs t f h => by rw [x13] at h; cases h; rfl))); have hgw13 := grown_put (c := X1) (i := 2) (v := .slice ya3 yn3 yc3) (grown_own (grown_trans hgm hw12) hg13 (fun g h => by have := HVL5.out g h; omega)) (by omega); have x14 := heap_setCell_same' x13 2 (.slice ya3 yn3 yc3); simp at x14; clear hG13 hg13 hf13))
                    all_goals
                      clear HD5 c2
                      go_wp2
                      go_roundw
                      case rel => exact ⟨m + 1, ys ++ [⟨strOf l11, l12⟩], r12, ya3, yn3, yc3, by omega, by go_num, Lib.hid (rep_some HKM.out (show snpR z = some (⟨strOf l11, l12⟩, r12) by simp only [snpR, Rd.then, str_some H10.out H11.out, H12.out, Rd.ret])), HR13, x14, HF13, HG13, hgw13⟩
                      case measure => simp [intOf]; omega
                  · have hmn2 : n9.toNat = m := by omega
                    have HE := Lib.hid (rep_some HKJ.out (show setR2 u = some (⟨nm, fs, ys⟩, z) by simp only [setR2, Rd.then, HST.out, HEN.out, H9.out, hmn2, HKM.out, Rd.ret]))
                    have hlm' : ¬ (m : Int) < n9 := hlm
                    have lqj := lt_heap qj
                    have qX := (hgm.block T1 lqj (fun e => by cases e; omega)).trans qj
                    have x0 := cell_of_block xq 0
                    have x1 := cell_of_block xq 1
                    have x2 := cell_of_block xq 2
                    simp at x0 x1 x2
                    have y0 := cell_of_block qX 2
                    simp at y0
                    have ly := lt_heap qX
                    have HGX := Lib.hid (HGJ.out.keep (.of_grown hgm (by omega)))
                    have HVL := Lib.hid (show ∀ g, (Value.slice sa sm sk).ownBlock = some g → T1 + 1 ≤ g from fun g h => (HGJ.out.block g h).1)
                    have HRB : Hid (stvRep.R wr (T1 + 1) ⟨nm, fa, fk, fc, ya, yn, yc⟩ ⟨nm, fs, ys⟩) := Lib.hid ⟨rfl, HFM.out.weaken (by omega), HGM.out.weaken (by omega)⟩
                    have HLEN := Lib.hid (show xs.length ≤ 100000 by have := HLJ.out; omega)
                    have HBX : Hid (T1 + 1 ≤ wr.heap.size) := Lib.hid (by omega)
                    have hgjm := grown_trans hgj hgm
                    clear hmn2 HKM HLN HFM HGM HKJ
                    go_wp2_with (first
                      | (at_builtin; refine Rep.list_at (M := stvRep) (w := wr) rfl (.tmp 81) (.tmp 83) 73 rfl wr.heap.size rfl (base := T1 + 1) (a := ⟨nm, fa, fk, fc, ya, yn, yc⟩) _ 64 Try.underlying73 info_set rfl HGX.out HRB.out HLEN.out (by omega) HBX.out _ rfl rfl rfl ?_; intro v12 w12 hG12 hg12 hf12; obtain ⟨va2, vn2, vc2, rfl⟩ := hG12.shapeN; have p12 := (hg12.block T1 ly (fun e => by have := HVL.out _ e.symm; omega)).trans qX; have y1 := cell_of_block p12 2; have yf := free_of_block p12 2; simp at y1; have ly2 := lt_heap p12; have HG12 := Lib.hid (hG12.keep (.of_set (c := T1) (i := 2) (v := .slice va2 vn2 vc2) (.inl (by omega)))); have HR12 := Lib.hid ((HRM.out.own hg12 (fun g h => by have := HVL.out g h; omega)).put (c := T1) (i := 2) (v := .slice va2 vn2 vc2) (by omega) (by omega)); have hgw12 := grown_put (c := T1) (i := 2) (v := .slice va2 vn2 vc2) (grown_own hgjm hg12 (fun g h => by have := HVL.out g h; omega)) (by omega); have p13 := heap_setCell_same' p12 2 (.slice va2 vn2 vc2); simp at p13; clear hG12 hg12 hf12))
                    go_roundw
                    case rel => exact ⟨j + 1, xs ++ [⟨nm, fs, ys⟩], z, va2, vn2, vc2, by omega, by go_num, HE, HR12, p13, HG12, hgw12⟩
                    case measure => simp [intOf]; omega
            · have hjn2 : n5.toNat = j := by omega
              have HE := Lib.hid (rep_some HKQ.out (show tenR t = some (⟨n2, n3, xs⟩, u) by simp only [tenR, Rd.then, H2.out, H3.out, H5.out, hjn2, HKJ.out, Rd.ret]))
              have hlj' : ¬ (j : Int) < n5 := hlj
              have qX := (hgj.block w.heap.size lpq (fun e => by cases e; omega)).trans pq
              have x0 := cell_of_block qj 0
              have x1 := cell_of_block qj 1
              have x2 := cell_of_block qj 2
              simp at x0 x1 x2
              have y0 := cell_of_block qX 1
              simp at y0
              have ly := lt_heap qX
              have lqj := lt_heap qj
              have HGX := Lib.hid (HGT.out.keep (.of_grown hgj (by omega)))
              have HGY := Lib.hid (HGB.out.keep (.of_grown hgj (by omega)))
              have HVL := Lib.hid (show ∀ g, (Value.slice ta tn tc).ownBlock = some g → w.heap.size + 1 ≤ g from fun g h => (HGT.out.block g h).1)
              have HRB : Hid (tnvRep.R wr (w.heap.size + 1) ⟨n2, n3, sa, sm, sk⟩ ⟨n2, n3, xs⟩) := Lib.hid ⟨rfl, rfl, HGJ.out.weaken (by omega)⟩
              have HLEN := Lib.hid (show ts.length ≤ 100000 by have := HLQ.out; omega)
              have HBX : Hid (w.heap.size + 1 ≤ wr.heap.size) := Lib.hid (by omega)
              have hgjm := grown_trans hgq hgj
              clear hjn2 HKJ HLS HGJ HKQ
              go_wp2_with (first
                | (at_builtin; refine Rep.list_at (M := tnvRep) (w := wr) rfl (.tmp 88) (.tmp 90) 47 rfl wr.heap.size rfl (base := w.heap.size + 1) (a := ⟨n2, n3, sa, sm, sk⟩) _ 40 Try.underlying47 info_ten rfl HGX.out HRB.out HLEN.out (by omega) HBX.out _ rfl rfl rfl ?_; intro v12 w12 hG12 hg12 hf12; obtain ⟨va2, vn2, vc2, rfl⟩ := hG12.shapeN; have p12 := (hg12.block w.heap.size ly (fun e => by have := HVL.out _ e.symm; omega)).trans qX; have y1 := cell_of_block p12 1; have yf := free_of_block p12 1; simp at y1; have ly2 := lt_heap p12; have HG12 := Lib.hid (hG12.keep (.of_set (c := w.heap.size) (i := 1) (v := .slice va2 vn2 vc2) (.inl (by omega)))); have HB12 := Lib.hid ((HGY.out.keep (.of_row hg12 (fun g h => (HGX.out.block g h).2.2) (by rfl))).keep (.of_set (c := w.heap.size) (i := 1) (v := .slice va2 vn2 vc2) (.inl (by omega)))); have HR12 := Lib.hid ((HRJ.out.own hg12 (fun g h => by have := HVL.out g h; omega)).put (c := w.heap.size) (i := 1) (v := .slice va2 vn2 vc2) (by omega) (by omega)); have hgw12 := grown_put (c := w.heap.size) (i := 1) (v := .slice va2 vn2 vc2) (grown_own hgjm hg12 (fun g h => by have := HVL.out g h; omega)) (Nat.le_refl _); have p13 := heap_setCell_same' p12 1 (.slice va2 vn2 vc2); simp at p13; clear hG12 hg12 hf12))
              go_roundw
              case rel => exact ⟨q + 1, ts ++ [⟨n2, n3, xs⟩], u, va2, vn2, vc2, by omega, by go_num, HE, HR12, p13, HB12, HG12, hgw12⟩
              case measure => simp [intOf]; omega
        · have hqn2 : n1.toNat = q := by omega
          have HE := Lib.hid (show poolR bs = some (⟨s, ts⟩, t) by simp only [poolR, Rd.then, H0.out, HKB.out, H1.out, hqn2, HKQ.out, Rd.ret])
          have hlq' : ¬ (q : Int) < n1 := hlq
          have y0 := cell_of_block pq 0
          have y1 := cell_of_block pq 1
          simp at y0 y1
          have yf0 := free_of_block pq 0
          have yf1 := free_of_block pq 1
          have ly := lt_heap pq
          have z1 := heap_setCell_same' (heap_setCell_same' pq 0 (.slice va vn vc)) 1 (.slice ta tn tc)
          simp at z1
          have HF := Lib.hid (RdEnd.got (V := VPool w.heap.size) (v := .agg #[.slice va vn vc, .slice ta tn tc]) HE.out (grown_put (c := w.heap.size) (i := 1) (v := .slice ta tn tc) (grown_put (c := w.heap.size) (i := 0) (v := .slice va vn vc) hgq (Nat.le_refl _)) (Nat.le_refl _))
            ⟨va, vn, vc, ta, tn, tc, rfl, ((HGB.out.keep (.of_set (.inl (Nat.lt_succ_self _)))).keep (.of_set (.inl (Nat.lt_succ_self _)))).weaken (Nat.le_succ _), ((HGT.out.keep (.of_set (.inl (Nat.lt_succ_self _)))).keep (.of_set (.inl (Nat.lt_succ_self _)))).weaken (Nat.le_succ _)⟩ ((HRQ.out.put (by omega) (by omega)).put (by omega) (by omega)))
          clear hqn2 HKQ HTN
          go_wp2
          generalize (wr.setCell ⟨w.heap.size, 0, none⟩ (.slice va vn vc)).setCell ⟨w.heap.size, 1, none⟩ (.slice ta tn tc) = WF at *
          have zc0 := cell_of_block z1 0
          have zc1 := cell_of_block z1 1
          simp at zc0 zc1
          refine bodyPost_ret (v := .agg #[.slice va vn vc, .slice ta tn tc]) (by simp [results, Try.results94, go_sem, zc0, zc1]) rfl ?_
          exact HF.out
end Go.Proofs.Ytfmgdjgedhnmeaa
