/- send.Apply: changes put on a set. -/
import Derived.Deep.RegionWith
import Derived.Deep.DeepCutAuto
import Derived.Test.YtfmgdjgedhnmeaaBackL
import Derived.Test.YtfmgdjgedhnmeaaSendD
import Derived.Test.YtfmgdjgedhnmeaaSameC
import Derived.Test.YtfmgdjgedhnmeaaSetCopy
import Derived.Test.YtfmgdjgedhnmeaaPoolE
namespace Go.Proofs.Ytfmgdjgedhnmeaa
open Go.RowKit
set_option linter.unusedVariables false
set_option linter.unusedSimpArgs false

theorem setIn_kept {w w' : World} {fo : Option Addr} {fn fc : Nat} {so : Option Addr} {sn sc : Nat} {x : SetV} (h : SetIn w fo fn fc so sn sc x) (hs : w.heap.size ≤ w'.heap.size) (hk : ∀ b, b < w.heap.size → w'.heap[b]? = w.heap[b]?) : SetIn w' fo fn fc so sn sc x := by
  have hb : Below w.heap.size w { w with heap := w'.heap } := ⟨rfl, rfl, rfl, hs, hk⟩
  have h2 := h.mono hb
  exact ⟨h2.flen, h2.slen, h2.frow, h2.srow, h2.fcap, h2.scap⟩
/-- a set that stays, whatever is done to five blocks -/
def SetO5 (p : Nat) (w : World) (fo : Option Addr) (fn fc : Nat) (so : Option Addr) (sn sc : Nat) (x : SetV) : Prop :=
  SetIn w fo fn fc so sn sc x ∧ ∀ w', w.heap.size ≤ w'.heap.size → (∀ b, (b < p ∨ p + 5 ≤ b) → b < w.heap.size → w'.heap[b]? = w.heap[b]?) → SetIn w' fo fn fc so sn sc x
section
variable {p K : Nat} {w w' : World} {fo : Option Addr} {fn fc : Nat} {so : Option Addr} {sn sc : Nat} {x : SetV}
theorem SetO5.go (h : SetO5 p w fo fn fc so sn sc x) (hs : w.heap.size ≤ w'.heap.size) (hk : ∀ b, (b < p ∨ p + 5 ≤ b) → b < w.heap.size → w'.heap[b]? = w.heap[b]?) : SetO5 p w' fo fn fc so sn sc x :=
  ⟨h.2 w' hs hk, fun w2 h1 h2 => h.2 w2 (Nat.le_trans hs h1) fun b hb hl => (h2 b hb (Nat.lt_of_lt_of_le hl hs)).trans (hk b hb hl)⟩
theorem SetO5.mono (h : SetO5 p w fo fn fc so sn sc x) (hb : Below w.heap.size w w') : SetO5 p w' fo fn fc so sn sc x := h.go hb.size fun b _ hl => hb.block b hl
theorem SetFrom.o5 (h : SetFrom K w fo fn fc so sn sc x) (hp : p + 5 ≤ K) : SetO5 p w fo fn fc so sn sc x := ⟨h.1, fun w2 h1 h2 => h.2 w2 h1 fun b hb hl => h2 b (.inr (by omega)) hl⟩
theorem SetIn.o5 (h : SetIn w fo fn fc so sn sc x) (hp : w.heap.size ≤ p) (hb : Below w.heap.size w w') : SetO5 p w' fo fn fc so sn sc x :=
  ⟨h.mono hb, fun w2 h1 h2 => setIn_kept h (Nat.le_trans hb.size h1) fun b hl => (h2 b (.inl (by omega)) (Nat.lt_of_lt_of_le hl hb.size)).trans (hb.block b hl)⟩
end
/-- the boxes that Apply works on -/
def AplAt (wr : World) (sb n : Nat) (key : Int) (p : List Blk × SetV) : Prop :=
  ∃ (a : Option Addr) (c : Nat) (gf : Option Addr) (gn gc : Nat) (tf : Option Addr) (tn tc : Nat), wr.heap[sb]? = some (.cells #[.slice a n c] 24 (0, 0)) ∧ wr.heap[sb + 1]? = some (.cells #[.int .i64 key] 3 (0, 0)) ∧
    wr.heap[sb + 2]? = some (.cells #[.string p.2.nm, .slice gf gn gc, .slice tf tn tc] 28 (0, 0)) ∧ p.1.length = n ∧ StoRow wr a p.1 ∧ Capd a n c ∧ SetO5 sb wr gf gn gc tf tn tc p.2 ∧ sb + 5 ≤ wr.heap.size
theorem AplAt.mono {w w' : World} {sb n : Nat} {key : Int} {p : List Blk × SetV} (h : AplAt w sb n key p) (hb : Below w.heap.size w w') : AplAt w' sb n key p := by
  obtain ⟨a, c, gf, gn, gc, tf, tn, tc, h1, h2, h3, h4, h5, h6, h7, h8⟩ := h
  exact ⟨a, c, gf, gn, gc, tf, tn, tc, (hb.block _ (lt_heap h1)).trans h1, (hb.block _ (lt_heap h2)).trans h2, (hb.block _ (lt_heap h3)).trans h3, h4, h5.mono hb, h6, h7.mono hb, Nat.le_trans h8 hb.size⟩
def BadA (sb : Nat) (b : Nat) : Prop := b = sb ∨ b = sb + 2
theorem kept_call {bad : Nat → Prop} {w u w' : World} (h : Kept bad w u) (hb : Below u.heap.size u w') : Kept bad w w' :=
  ⟨hb.os.trans h.os, hb.tape.trans h.tape, hb.output.trans h.output, Nat.le_trans h.size hb.size, fun b hl hn => (hb.block b (Nat.lt_of_lt_of_le hl h.size)).trans (h.block b hl hn)⟩
theorem kept_put {w w2 : World} {sb : Nat} (h : Kept (BadA sb) w w2) (v u0 u1 u2 : Value) : Kept (BadA sb) w (putW w2 sb (sb + 2) v u0 u1 u2) :=
  (((h.set (.inr (.inl rfl)) v).set (.inr (.inr rfl)) u0).set (.inr (.inr rfl)) u1).set (.inr (.inr rfl)) u2

set_option maxRecDepth 100000 in
set_option maxHeartbeats 8000000 in
/-- a thing asked for: done, or left -/
theorem sdo_any (w : World) (sb n bn bc : Nat) (key : Int) (p : List Blk × SetV) (q : AskV) (ba : Option Addr) (h : AplAt w sb n key p) (h41 : n ≤ 2199023255552) (hwf : WfS p.1) (hwx : WfX p.2) (hl : (askS key p q).1.1.length = n)
    (hbl : q.bytes.length = bn) (hbr : Row .u8 w ba q.bytes) (hbc : Capd ba bn bc) (hby : Byt q.bytes) (hb47 : bn ≤ 140737488351232) :
    Calls Try.prog 41 #[.agg #[.int .i64 q.kind, .string q.sname, .string q.file, .string q.dest, .int .i64 q.at_, .int .i64 q.n, .slice ba bn bc], .pointer (some ⟨sb, 0, none⟩), .pointer (some ⟨sb + 1, 0, none⟩), .pointer (some ⟨sb + 2, 0, none⟩)] w fun e w' =>
      e = .returned (.int .i64 (askS key p q).2) ∧ AplAt w' sb n key (askS key p q).1 ∧ Kept (BadA sb) w w' := by
  have HL := Lib.hid hl
  have HBL := Lib.hid hbl
  have HBC := Lib.hid hbc
  obtain ⟨t, y⟩ := p
  obtain ⟨a2, c2, gf, gn, gc, tf, tn, tc, qS, qK, qX, hl2, hs2, hc2, hx2, h85⟩ := h
  simp only at hwf hwx hl2 hs2 hx2 qX
  have hb1 : Below w.heap.size w (w.alloc (.cells #[.int .i64 q.kind, .string q.sname, .string q.file, .string q.dest, .int .i64 q.at_, .int .i64 q.n, .slice ba bn bc] 67)) := (Below.refl _ _).alloc (Nat.le_refl _) _
  have rA := heap_alloc_new w (.cells #[.int .i64 q.kind, .string q.sname, .string q.file, .string q.dest, .int .i64 q.at_, .int .i64 q.n, .slice ba bn bc] 67)
  have HDO := Lib.hid (do_any (w.alloc (.cells #[.int .i64 q.kind, .string q.sname, .string q.file, .string q.dest, .int .i64 q.at_, .int .i64 q.n, .slice ba bn bc] 67)) a2 gf tf ba n c2 gn gc tn tc bn bc t key y q hl2 h41 (hs2.mono hb1) hwf hc2 (hx2.mono hb1).1 hwx hbl (hbr.mono hb1) hbc hby hb47)
  have HA1 : Hid (AplAt (w.alloc (.cells #[.int .i64 q.kind, .string q.sname, .string q.file, .string q.dest, .int .i64 q.at_, .int .i64 q.n, .slice ba bn bc] 67)) sb n key (t, y)) := Lib.hid ((show AplAt w sb n key (t, y) from ⟨a2, c2, gf, gn, gc, tf, tn, tc, qS, qK, qX, hl2, hs2, hc2, hx2, h85⟩).mono hb1)
  have HK1 : Hid (Kept (BadA sb) w (w.alloc (.cells #[.int .i64 q.kind, .string q.sname, .string q.file, .string q.dest, .int .i64 q.at_, .int .i64 q.n, .slice ba bn bc] 67))) := Lib.hid (.of hb1)
  have qS := (hb1.block _ (lt_heap qS)).trans qS
  have qK := (hb1.block _ (lt_heap qK)).trans qK
  have qX := (hb1.block _ (lt_heap qX)).trans qX
  have cS := cell_of_one qS
  have cK := cell_of_one qK
  have cX0 := cell_of_block qX 0
  have cX1 := cell_of_block qX 1
  have cX2 := cell_of_block qX 2
  have d0 := cell_of_block rA 0
  have d1 := cell_of_block rA 1
  have d2 := cell_of_block rA 2
  have d3 := cell_of_block rA 3
  have d4 := cell_of_block rA 4
  have d5 := cell_of_block rA 5
  have d6 := cell_of_block rA 6
  simp only [List.getElem?_toArray, List.getElem?_cons_succ, List.getElem?_cons_zero] at cX0 cX1 cX2 d0 d1 d2 d3 d4 d5 d6
  have lS := lt_heap qS
  have lK := lt_heap qK
  have lX := lt_heap qX
  have lA := lt_heap rA
  obtain ⟨D, hD⟩ : ∃ D, doR writeW t key y q = D := ⟨_, rfl⟩
  have HRS : Hid (askS key (t, y) q = if D.2.2 = 0 then ((D.1, D.2.1), 0) else ((t, y), D.2.2)) := Lib.hid (by rw [← hD]; rfl)
  rw [hD] at HDO
  rw [HRS.out] at HL ⊢
  clear hD HRS hs2 hx2 hl2 hc2 hb1 qS qK qX rA hl hbl hbr hbc hby hwf hwx
  go_enter Try.func41, Try.ntmps41
  go_upto_region 1 with fail
  generalize w.alloc (.cells #[.int .i64 q.kind, .string q.sname, .string q.file, .string q.dest, .int .i64 q.at_, .int .i64 q.n, .slice ba bn bc] 67) = W6 at *
  go_wp2_with fail
  refine HDO.out.mono ?_
  rintro e w7 ⟨a4, n4, c4, gf4, gn4, gc4, tf4, tn4, tc4, rfl, hb7, hn4, hs4, hc4, hx4⟩
  have hb8 : Below w7.heap.size w7 ((w7.alloc (.cells #[.slice a4 n4 c4] 24)).alloc (.cells #[.string D.2.1.nm, .slice gf4 gn4 gc4, .slice tf4 tn4 tc4] 28)) := ((Below.refl _ _).alloc (Nat.le_refl _) _).alloc (by simp) _
  have rS := heap_alloc2_old w7 (.cells #[.slice a4 n4 c4] 24) (.cells #[.string D.2.1.nm, .slice gf4 gn4 gc4, .slice tf4 tn4 tc4] 28)
  have rX := heap_alloc2_new w7 (.cells #[.slice a4 n4 c4] 24) (.cells #[.string D.2.1.nm, .slice gf4 gn4 gc4, .slice tf4 tn4 tc4] 28)
  have hb78 := below_step hb7 hb8
  have HA2 := Lib.hid (HA1.out.mono hb78)
  have HLZ : Hid (sb + 5 ≤ W6.heap.size ∧ sb + 5 ≤ w7.heap.size) := Lib.hid (by
    obtain ⟨a6, c6, gf6, gn6, gc6, tf6, tn6, tc6, -, -, -, -, -, -, -, h8⟩ := HA1.out
    exact ⟨h8, Nat.le_trans h8 hb7.size⟩)
  have HK2 := Lib.hid (kept_call HK1.out hb78)
  have HS5 := Lib.hid (hs4.1.mono hb8)
  have HX5 := Lib.hid ((hx4.mono hb8).o5 (p := sb) HLZ.out.1)
  have HN5 := Lib.hid hn4
  have HC5 := Lib.hid hc4
  clear hs4 hx4 hn4 hc4 hb7 hb8 hb78 HA1 HK1 HDO cS cX0 cX1 cX2 cK d0 d1 d2 d3 d4 d5 d6 lS lX lA lK
  go_upto_region 2 with fail
  generalize (w7.alloc (Obj.cells #[Value.slice a4 n4 c4] 24)).alloc (Obj.cells #[Value.string D.2.1.nm, Value.slice gf4 gn4 gc4, Value.slice tf4 tn4 tc4] 28) = W7 at *
  obtain ⟨t5, y5, e5'⟩ := D
  simp only at *
  by_cases he : e5' = 0
  · subst he
    simp only [if_pos] at HL ⊢
    have hn5 : n = n4 := HL.out.symm.trans HN5.out
    subst hn5
    obtain ⟨a6, c6, gf6, gn6, gc6, tf6, tn6, tc6, qS, qK, qX, -, -, -, -, h85⟩ := HA2.out
    obtain ⟨z3, z4, -, -⟩ := put_set qS qX (by omega) (.slice a4 n c4) (.string y5.nm) (.slice gf4 gn4 gc4) (.slice tf4 tn4 tc4)
    have hsz := put_sto qS qX (by omega) (.slice a4 n c4) (.string y5.nm) (.slice gf4 gn4 gc4) (.slice tf4 tn4 tc4) HS5.out
    have hxz := HX5.out.go (w' := putW W7 sb (sb + 2) (.slice a4 n c4) (.string y5.nm) (.slice gf4 gn4 gc4) (.slice tf4 tn4 tc4)) (by rw [put_size]; exact Nat.le_refl _) (fun b hb _ => put_other b (by omega) (by omega))
    have hkz := kept_put HK2.out (.slice a4 n c4) (.string y5.nm) (.slice gf4 gn4 gc4) (.slice tf4 tn4 tc4)
    have hca : AplAt (putW W7 sb (sb + 2) (.slice a4 n c4) (.string y5.nm) (.slice gf4 gn4 gc4) (.slice tf4 tn4 tc4)) sb n key (t5, y5) :=
      ⟨a4, c4, gf4, gn4, gc4, tf4, tn4, tc4, z3, (put_other (sb + 1) (by omega) (by omega)).trans qK, z4, HN5.out, hsz, HC5.out, hxz, by rw [put_size]; exact h85⟩
    unfold putW at hkz hca
    have HCZ := Lib.hid hca
    have HKZ := Lib.hid hkz
    have f0 := cell_of_one rS
    have f1 := cell_of_block rX 0
    have f2 := cell_of_block rX 1
    have f3 := cell_of_block rX 2
    have g0 := cell_of_one qS
    have g1 := cell_of_block qX 0
    have g2 := cell_of_block qX 1
    have g3 := cell_of_block qX 2
    simp only [List.getElem?_toArray, List.getElem?_cons_succ, List.getElem?_cons_zero] at f1 f2 f3 g1 g2 g3
    have lS := lt_heap rS
    have lX := lt_heap rX
    have mS := lt_heap qS
    have mX := lt_heap qX
    have yS := free_of_one qS
    have yX := fun j => free_of_block qX j
    have n1 : w7.heap.size ≠ sb := by have := HLZ.out; omega
    have n2 : w7.heap.size ≠ sb + 2 := by have := HLZ.out; omega
    have n3 : w7.heap.size + 1 ≠ sb := by have := HLZ.out; omega
    have n4' : w7.heap.size + 1 ≠ sb + 2 := by have := HLZ.out; omega
    have n5 : sb ≠ w7.heap.size := by have := HLZ.out; omega
    have n6 : sb ≠ w7.heap.size + 1 := by have := HLZ.out; omega
    have n7 : sb + 2 ≠ w7.heap.size := by have := HLZ.out; omega
    have n8 : sb + 2 ≠ w7.heap.size + 1 := by have := HLZ.out; omega
    clear z3 z4 hkz hsz hxz hca HA2 HK2 HS5 HX5 rS rX qS qX qK
    go_wp2_with fail
    go_region
    all_goals
      go_wp2_with fail
      go_ret
      exact ⟨rfl, HCZ.out.mono (Below.refl _ _).drew, kept_call HKZ.out (Below.refl _ _).drew⟩
  · have he1 : (e5' == 0) = false := by rw [beq_eq_false_iff_ne]; exact he
    simp only [if_neg he] at HL ⊢
    have HE0 := Lib.hid he
    clear he
    go_wp2_with fail
    all_goals
      go_ret
      first
        | exact ⟨rfl, HA2.out, HK2.out⟩
        | (rename_i h; exact absurd h HE0.out)
theorem alloc5 (w : World) (A0 A1 A2 A3 A4 : Obj) : (((((w.alloc A0).alloc A1).alloc A2).alloc A3).alloc A4).heap[w.heap.size]? = some A0 ∧ (((((w.alloc A0).alloc A1).alloc A2).alloc A3).alloc A4).heap[w.heap.size + 1]? = some A1 ∧
    (((((w.alloc A0).alloc A1).alloc A2).alloc A3).alloc A4).heap[w.heap.size + 2]? = some A2 ∧ (((((w.alloc A0).alloc A1).alloc A2).alloc A3).alloc A4).heap[w.heap.size + 3]? = some A3 ∧ (((((w.alloc A0).alloc A1).alloc A2).alloc A3).alloc A4).heap[w.heap.size + 4]? = some A4 ∧
    Below w.heap.size w (((((w.alloc A0).alloc A1).alloc A2).alloc A3).alloc A4) ∧ (((((w.alloc A0).alloc A1).alloc A2).alloc A3).alloc A4).heap.size = w.heap.size + 5 := by
  have z1 : (w.alloc A0).heap.size = w.heap.size + 1 := by simp
  have z2 : ((w.alloc A0).alloc A1).heap.size = w.heap.size + 2 := by simp
  have z3 : (((w.alloc A0).alloc A1).alloc A2).heap.size = w.heap.size + 3 := by simp
  have z4 : ((((w.alloc A0).alloc A1).alloc A2).alloc A3).heap.size = w.heap.size + 4 := by simp
  have e0 := heap_alloc_new w A0
  have e1 := heap_alloc_new (w.alloc A0) A1
  have e2 := heap_alloc_new ((w.alloc A0).alloc A1) A2
  have e3 := heap_alloc_new (((w.alloc A0).alloc A1).alloc A2) A3
  have e4 := heap_alloc_new ((((w.alloc A0).alloc A1).alloc A2).alloc A3) A4
  rw [z1] at e1
  rw [z2] at e2
  rw [z3] at e3
  rw [z4] at e4
  refine ⟨?_, ?_, ?_, ?_, e4, ?_, by simp⟩
  · exact (heap_alloc_old _ _ (by omega)).trans ((heap_alloc_old _ _ (by omega)).trans ((heap_alloc_old _ _ (by omega)).trans ((heap_alloc_old _ _ (by omega)).trans e0)))
  · exact (heap_alloc_old _ _ (by omega)).trans ((heap_alloc_old _ _ (by omega)).trans ((heap_alloc_old _ _ (by omega)).trans e1))
  · exact (heap_alloc_old _ _ (by omega)).trans ((heap_alloc_old _ _ (by omega)).trans e2)
  · exact (heap_alloc_old _ _ (by omega)).trans e3
  · exact (((((Below.refl _ _).alloc (by omega) _).alloc (by omega) _).alloc (by omega) _).alloc (by omega) _).alloc (by omega) _
theorem sfail_any (w : World) (er : Int) : Calls Try.prog 39 #[.int .i64 er] w fun e w' => e = .returned (.tuple #[.agg #[.slice none 0 0], .agg #[.string ⟨#[]⟩, .slice none 0 0, .slice none 0 0], .int .i64 er]) ∧ Below w.heap.size w w' := by
  have p0 := heap_alloc2_old w (.cells #[.slice none 0 0] 24) (.cells #[.string ⟨#[]⟩, .slice none 0 0, .slice none 0 0] 28)
  have p1 := heap_alloc2_new w (.cells #[.slice none 0 0] 24) (.cells #[.string ⟨#[]⟩, .slice none 0 0, .slice none 0 0] 28)
  have hb0 : Below w.heap.size w ((w.alloc (.cells #[.slice none 0 0] 24)).alloc (.cells #[.string ⟨#[]⟩, .slice none 0 0, .slice none 0 0] 28)) := ((Below.refl _ _).alloc (Nat.le_refl _) _).alloc (by simp) _
  go_enter Try.func39, Try.ntmps39
  obtain ⟨z3, z4, zb, -⟩ := put_set p0 p1 (by omega) (.slice none 0 0) (.string ⟨#[]⟩) (.slice none 0 0) (.slice none 0 0)
  have hbz := zb _ _ hb0 (by omega) (by omega)
  unfold putW at z3 z4 hbz
  have v3 := cell_of_one z3
  have v40 := cell_of_block z4 0
  have v41 := cell_of_block z4 1
  have v42 := cell_of_block z4 2
  simp at v40 v41 v42
  have c3 := cell_of_one p0
  have f3 := free_of_one p0
  have c40 := cell_of_block p1 0
  have c41 := cell_of_block p1 1
  have c42 := cell_of_block p1 2
  simp only [List.getElem?_toArray, List.getElem?_cons_succ, List.getElem?_cons_zero] at c40 c41 c42
  have f40 := free_of_block p1 0
  have f41 := free_of_block p1 1
  have f42 := free_of_block p1 2
  have l3 := lt_heap p0
  have l4 := lt_heap p1
  clear p0 p1 z3 z4 zb hb0
  go_upto_region 1 with fail
  generalize (w.alloc (Obj.cells #[Value.slice none 0 0] 24)).alloc (Obj.cells #[Value.string ⟨#[]⟩, Value.slice none 0 0, Value.slice none 0 0] 28) = W0 at *
  go_wp2_with fail
  refine bodyPost_ret (v := .tuple #[.agg #[.slice none 0 0], .agg #[.string ⟨#[]⟩, .slice none 0 0, .slice none 0 0], .int .i64 er]) (by simp [results, Try.results39, go_sem, v3, v40, v41, v42]) rfl ⟨rfl, hbz⟩
/-- what lies ahead stays -/
def Nib (W u : World) : Prop := Below W.heap.size W u
theorem Nib.refl (W : World) : Nib W W := Below.refl _ _
theorem Nib.dr {W u : World} (h : Nib W u) : Nib W u.drew := Below.drew h
theorem kept_trans {bad : Nat → Prop} {w u w' : World} (h : Kept bad w u) (h2 : Kept bad u w') : Kept bad w w' :=
  ⟨h2.os.trans h.os, h2.tape.trans h.tape, h2.output.trans h.output, Nat.le_trans h.size h2.size, fun b hl hn => (h2.block b (Nat.lt_of_lt_of_le hl h.size) hn).trans (h.block b hl hn)⟩
theorem asks_left {key : Int} {p : List Blk × SetV} {q : AskV} (h : (askS key p q).2 ≠ 0) : (askS key p q).1 = p := by
  unfold askS at h ⊢
  split
  · rename_i e; rw [if_pos e] at h; exact absurd rfl h
  · rfl
theorem asks_len {I : List Blk × SetV → Prop} {n : Nat} {key : Int} {p : List Blk × SetV} {q : AskV} (hIw : ∀ p, I p → WfS p.1 ∧ WfX p.2 ∧ p.1.length = n ∧ SmallX p.2) (hIs : ∀ p q, I p → (q.kind = 3 ∨ q.kind = 4 ∨ q.kind = 5) → Byt q.bytes → (askS key p q).2 = 0 → I (askS key p q).1)
    (hp : I p) (hq : q.kind = 3 ∨ q.kind = 4 ∨ q.kind = 5) (hb : Byt q.bytes) : (askS key p q).1.1.length = n := by
  by_cases e : (askS key p q).2 = 0
  · exact (hIw _ (hIs p q hp hq hb e)).2.2.1
  · rw [asks_left e]; exact (hIw _ hp).2.2.1
theorem chgsS_one (key : Int) (p : List Blk × SetV) (c : ChgV) : chgsS key p [c] = chgS key p c := by
  unfold chgsS
  by_cases e : (chgS key p c).2 = 0
  · rw [if_pos e]
    unfold chgsS
    exact Prod.ext rfl e.symm
  · rw [if_neg e]
theorem chgsS_take {key : Int} {p : List Blk × SetV} {l : List ChgV} {k : Nat} (hk : k < l.length) (h : (chgsS key p (l.take k)).2 = 0) : chgsS key p (l.take (k + 1)) = chgS key (chgsS key p (l.take k)).1 l[k] := by
  rw [List.take_succ_eq_append_getElem hk, chgsS_append, if_pos h, chgsS_one]
theorem chgsS_stop {key : Int} {p : List Blk × SetV} {l : List ChgV} {k : Nat} (h : (chgsS key p (l.take k)).2 ≠ 0) : chgsS key p l = chgsS key p (l.take k) := by
  have e := chgsS_append key (l.take k) (l.drop k) p
  rw [List.take_append_drop, if_neg h] at e
  exact e

set_option maxRecDepth 100000 in
set_option maxHeartbeats 16000000 in
theorem apply_any (I : List Blk × SetV → Prop) (w : World) (ao fo so la : Option Addr) (n cap fn fc sn sc ln lc : Nat) (s : List Blk) (key : Int) (x : SetV) (l : List ChgV) (hn : s.length = n) (h41 : n ≤ 2199023255552) (hs : StoRow w ao s) (hwf : WfS s) (hc : Capd ao n cap)
    (hx : SetIn w fo fn fc so sn sc x) (hwx : WfX x) (hll : l.length = ln) (hl63 : ln ≤ 1152921504606846976) (hlr : ChRow w la l) (hby : ∀ c ∈ l, Byt c.bytes ∧ c.bytes.length ≤ 140737488351232)
    (hI0 : setE s key x = 0 → heldE s x = 0 → I (s, x)) (hIw : ∀ p, I p → WfS p.1 ∧ WfX p.2 ∧ p.1.length = n ∧ SmallX p.2) (hIs : ∀ p q, I p → (q.kind = 3 ∨ q.kind = 4 ∨ q.kind = 5) → Byt q.bytes → (askS key p q).2 = 0 → I (askS key p q).1) :
    Calls Try.prog 15 #[.agg #[.slice ao n cap], .int .i64 key, .agg #[.string x.nm, .slice fo fn fc, .slice so sn sc], .slice la ln lc] w fun e w' => DoEnd e w w' (applyR s key x l) := by
  obtain ⟨p0, p1, p2, p3, p4, hb0, hz0⟩ := alloc5 w (.cells #[.slice ao n cap] 24) (.cells #[.int .i64 key] 3) (.cells #[.string x.nm, .slice fo fn fc, .slice so sn sc] 28) (.cells #[.slice none 0 0] 24) (.cells #[.string ⟨#[]⟩, .slice none 0 0, .slice none 0 0] 28)
  have HN := Lib.hid hn
  have HC := Lib.hid hc
  have HS := Lib.hid hs
  have HW := Lib.hid hwf
  have HX := Lib.hid hx
  have HWX := Lib.hid hwx
  have HLL := Lib.hid hll
  have HLR := Lib.hid hlr
  have HBY := Lib.hid hby
  have HI0 := Lib.hid hI0
  have HIW := Lib.hid hIw
  have HIS := Lib.hid hIs
  have HAP : Hid (AplAt (((((w.alloc (.cells #[.slice ao n cap] 24)).alloc (.cells #[.int .i64 key] 3)).alloc (.cells #[.string x.nm, .slice fo fn fc, .slice so sn sc] 28)).alloc (.cells #[.slice none 0 0] 24)).alloc (.cells #[.string ⟨#[]⟩, .slice none 0 0, .slice none 0 0] 28)) w.heap.size n key (s, x)) := Lib.hid ⟨ao, cap, fo, fn, fc, so, sn, sc, p0, p1, p2, hn, hs.mono hb0, hc, hx.o5 (Nat.le_refl _) hb0, by omega⟩
  have HCK := Lib.hid (setCheck_any (((((w.alloc (.cells #[.slice ao n cap] 24)).alloc (.cells #[.int .i64 key] 3)).alloc (.cells #[.string x.nm, .slice fo fn fc, .slice so sn sc] 28)).alloc (.cells #[.slice none 0 0] 24)).alloc (.cells #[.string ⟨#[]⟩, .slice none 0 0, .slice none 0 0] 28)) ao fo so n cap fn fc sn sc s key x hn (by omega) (hs.mono hb0) hwf (hx.mono hb0) hwx)
  have HB0 := Lib.hid hb0
  clear hn hc hs hwf hx hwx hll hlr hby hI0 hIw hIs hb0
  have c0 := cell_of_one p0
  have c1 := cell_of_one p1
  have c20 := cell_of_block p2 0
  have c21 := cell_of_block p2 1
  have c22 := cell_of_block p2 2
  simp only [List.getElem?_toArray, List.getElem?_cons_succ, List.getElem?_cons_zero] at c20 c21 c22
  go_enter Try.func15, Try.ntmps15
  go_upto_region 2 with fail
  simp only [Nat.add_assoc, Nat.reduceAdd]
  generalize (((((w.alloc (Obj.cells #[Value.slice ao n cap] 24)).alloc (Obj.cells #[Value.int IntKind.i64 key] 3)).alloc (Obj.cells #[Value.string x.nm, Value.slice fo fn fc, Value.slice so sn sc] 28)).alloc (Obj.cells #[Value.slice none 0 0] 24)).alloc (Obj.cells #[Value.string ⟨#[]⟩, Value.slice none 0 0, Value.slice none 0 0] 28)) = W0 at *
  obtain ⟨sb, hsb⟩ : ∃ sb, w.heap.size = sb := ⟨_, rfl⟩
  rw [hsb] at p0 p1 p2 p3 p4 hz0 HAP c0 c1 c20 c21 c22
  simp only [hsb]
  go_wp2_with fail
  refine HCK.out.mono ?_
  rintro e w1 ⟨rfl, hb1⟩
  have p0 := (hb1.block _ (lt_heap p0)).trans p0
  have p1 := (hb1.block _ (lt_heap p1)).trans p1
  have p2 := (hb1.block _ (lt_heap p2)).trans p2
  have p3 := (hb1.block _ (lt_heap p3)).trans p3
  have p4 := (hb1.block _ (lt_heap p4)).trans p4
  have hbw := below_step HB0.out hb1
  have HAP1 := Lib.hid (HAP.out.mono hb1)
  clear HAP HCK c0 c1 c20 c21 c22
  have c0 := cell_of_one p0
  have c1 := cell_of_one p1
  have c20 := cell_of_block p2 0
  have c21 := cell_of_block p2 1
  have c22 := cell_of_block p2 2
  simp only [List.getElem?_toArray, List.getElem?_cons_succ, List.getElem?_cons_zero] at c20 c21 c22
  have l0 := lt_heap p0
  have l1 := lt_heap p1
  have l2 := lt_heap p2
  by_cases hce : setE s key x = 0
  rotate_left
  · have HR : Hid (applyR s key x l = ([], noSet, setE s key x)) := Lib.hid (by unfold applyR; rw [if_pos hce])
    have he1 : (setE s key x != 0) = true := by rw [bne_iff_ne]; exact hce
    generalize setE s key x = ce at *
    clear hce hb1 HAP1 p0 p1 p2
    go_wp2_with fail
    refine (sfail_any _ ce).mono ?_
    rintro e w9 ⟨rfl, hb9⟩
    have p3 := (hb9.block _ (lt_heap p3)).trans p3
    have p4 := (hb9.block _ (lt_heap p4)).trans p4
    have hbw := below_step hbw hb9
    have c3 := cell_of_one p3
    have f3 := free_of_one p3
    have c40 := cell_of_block p4 0
    have c41 := cell_of_block p4 1
    have c42 := cell_of_block p4 2
    simp only [List.getElem?_toArray, List.getElem?_cons_succ, List.getElem?_cons_zero] at c40 c41 c42
    have f40 := free_of_block p4 0
    have f41 := free_of_block p4 1
    have f42 := free_of_block p4 2
    have l3 := lt_heap p3
    have l4 := lt_heap p4
    obtain ⟨z3, z4, zb, -⟩ := put_set p3 p4 (by omega) (.slice none 0 0) (.string ⟨#[]⟩) (.slice none 0 0) (.slice none 0 0)
    have hbz := zb _ _ hbw (by omega) (by omega)
    unfold putW at z3 z4 hbz
    have v3 := cell_of_one z3
    have v40 := cell_of_block z4 0
    have v41 := cell_of_block z4 1
    have v42 := cell_of_block z4 2
    simp at v40 v41 v42
    go_wp2_with fail
    refine bodyPost_ret (v := .tuple #[.agg #[.slice none 0 0], .agg #[.string ⟨#[]⟩, .slice none 0 0, .slice none 0 0], .int .i64 ce]) (by simp [results, Try.results15, go_sem, v3, v40, v41, v42]) rfl ?_
    rw [HR.out]
    exact doEnd_bad hbz
  have HHD := Lib.hid (held_any w1 ao fo so n cap fn fc sn sc s key x HN.out (HS.out.mono hbw) HW.out (HX.out.mono hbw) hce)
  rw [hce]
  have HCE := Lib.hid hce
  clear hb1 hce
  go_wp2_with fail
  refine HHD.out.mono ?_
  rintro e w2 ⟨rfl, hb2⟩
  have p0 := (hb2.block _ (lt_heap p0)).trans p0
  have p1 := (hb2.block _ (lt_heap p1)).trans p1
  have p2 := (hb2.block _ (lt_heap p2)).trans p2
  have p3 := (hb2.block _ (lt_heap p3)).trans p3
  have p4 := (hb2.block _ (lt_heap p4)).trans p4
  have hbw := below_step hbw hb2
  have HAP2 := Lib.hid (HAP1.out.mono hb2)
  clear HAP1 HHD c0 c1 c20 c21 c22 l0 l1 l2
  by_cases hhe : heldE s x = 0
  rotate_left
  · have HR : Hid (applyR s key x l = ([], noSet, heldE s x)) := Lib.hid (by unfold applyR; rw [if_neg (fun h => h HCE.out), if_pos hhe])
    have he1 : (heldE s x != 0) = true := by rw [bne_iff_ne]; exact hhe
    generalize heldE s x = ce at *
    clear hhe hb2 HAP2 p0 p1 p2
    go_wp2_with fail
    refine (sfail_any _ ce).mono ?_
    rintro e w9 ⟨rfl, hb9⟩
    have p3 := (hb9.block _ (lt_heap p3)).trans p3
    have p4 := (hb9.block _ (lt_heap p4)).trans p4
    have hbw := below_step hbw hb9
    have c3 := cell_of_one p3
    have f3 := free_of_one p3
    have c40 := cell_of_block p4 0
    have c41 := cell_of_block p4 1
    have c42 := cell_of_block p4 2
    simp only [List.getElem?_toArray, List.getElem?_cons_succ, List.getElem?_cons_zero] at c40 c41 c42
    have f40 := free_of_block p4 0
    have f41 := free_of_block p4 1
    have f42 := free_of_block p4 2
    have l3 := lt_heap p3
    have l4 := lt_heap p4
    obtain ⟨z3, z4, zb, -⟩ := put_set p3 p4 (by omega) (.slice none 0 0) (.string ⟨#[]⟩) (.slice none 0 0) (.slice none 0 0)
    have hbz := zb _ _ hbw (by omega) (by omega)
    unfold putW at z3 z4 hbz
    have v3 := cell_of_one z3
    have v40 := cell_of_block z4 0
    have v41 := cell_of_block z4 1
    have v42 := cell_of_block z4 2
    simp at v40 v41 v42
    go_wp2_with fail
    refine bodyPost_ret (v := .tuple #[.agg #[.slice none 0 0], .agg #[.string ⟨#[]⟩, .slice none 0 0, .slice none 0 0], .int .i64 ce]) (by simp [results, Try.results15, go_sem, v3, v40, v41, v42]) rfl ?_
    rw [HR.out]
    exact doEnd_bad hbz
  rw [hhe]
  have HHE := Lib.hid hhe
  clear hb2 hhe
  by_cases h40 : 40 < ln
  · have HR : Hid (applyR s key x l = ([], noSet, 2)) := Lib.hid (by unfold applyR; rw [if_neg (fun h => h HCE.out), if_neg (fun h => h HHE.out), if_pos (by rw [HLL.out]; exact h40)])
    have hl40 : (40 : Int) < (ln : Int) := by omega
    clear h40 HAP2 p0 p1 p2
    go_wp2_with fail
    refine (sfail_any _ 2).mono ?_
    rintro e w9 ⟨rfl, hb9⟩
    have p3 := (hb9.block _ (lt_heap p3)).trans p3
    have p4 := (hb9.block _ (lt_heap p4)).trans p4
    have hbw := below_step hbw hb9
    have c3 := cell_of_one p3
    have f3 := free_of_one p3
    have c40 := cell_of_block p4 0
    have c41 := cell_of_block p4 1
    have c42 := cell_of_block p4 2
    simp only [List.getElem?_toArray, List.getElem?_cons_succ, List.getElem?_cons_zero] at c40 c41 c42
    have f40 := free_of_block p4 0
    have f41 := free_of_block p4 1
    have f42 := free_of_block p4 2
    have l3 := lt_heap p3
    have l4 := lt_heap p4
    obtain ⟨z3, z4, zb, -⟩ := put_set p3 p4 (by omega) (.slice none 0 0) (.string ⟨#[]⟩) (.slice none 0 0) (.slice none 0 0)
    have hbz := zb _ _ hbw (by omega) (by omega)
    unfold putW at z3 z4 hbz
    have v3 := cell_of_one z3
    have v40 := cell_of_block z4 0
    have v41 := cell_of_block z4 1
    have v42 := cell_of_block z4 2
    simp at v40 v41 v42
    go_wp2_with fail
    refine bodyPost_ret (v := .tuple #[.agg #[.slice none 0 0], .agg #[.string ⟨#[]⟩, .slice none 0 0, .slice none 0 0], .int .i64 2]) (by simp [results, Try.results15, go_sem, v3, v40, v41, v42]) rfl ?_
    rw [HR.out]
    exact doEnd_bad hbz
  have HAR : Hid (applyR s key x l = if (chgsS key (s, x) l).2 ≠ 0 then ([], noSet, (chgsS key (s, x) l).2) else ((chgsS key (s, x) l).1.1, (chgsS key (s, x) l).1.2, 0)) := Lib.hid (by unfold applyR; rw [if_neg (fun h => h HCE.out), if_neg (fun h => h HHE.out), if_neg (by rw [HLL.out]; exact h40)])
  have hl40 : ¬ (40 : Int) < (ln : Int) := by omega
  have HII := Lib.hid (HI0.out HCE.out HHE.out)
  have HBW := Lib.hid hbw
  clear p0 p1 p2 h40 hbw
  go_wp2_with fail
  go_loopw [52] (fun i wr => ∃ k : Nat, k ≤ ln ∧ i = .int .i64 k ∧ Hid ((chgsS key (s, x) (l.take k)).2 = 0) ∧ Hid (I (chgsS key (s, x) (l.take k)).1) ∧ Hid (AplAt wr sb n key (chgsS key (s, x) (l.take k)).1) ∧ Hid (Kept (BadA sb) w2 wr)) (fun i _ => ln - (intOf i).toNat)
  case atStart => exact ⟨0, Nat.zero_le _, rfl, Lib.hid rfl, HII, HAP2, Lib.hid (Kept.refl _ _)⟩
  case round =>
    obtain ⟨k, hkn, rfl, HE0, HI, HA, HK⟩ := hrel
    by_cases hlt : k < ln
    · have hlt' : (k : Int) < ln := by omega
      have hkl : k < l.length := by have := HLL.out; omega
      have HBR : Hid (Below w.heap.size w wr) := Lib.hid (HBW.out.trans (HK.out.below HBW.out.size fun b hb h => by unfold BadA at h; omega))
      obtain ⟨b, o, hla, ⟨yk, ym, yi, ya, yn, yc⟩, hA, hC⟩ := HLR.out.at k hkl
      subst hla
      have HT := Lib.hid (chgsS_take hkl HE0.out)
      have HCB := Lib.hid (HBY.out _ (List.getElem_mem hkl))
      have HC1 := Lib.hid (hC.mono HBR.out)
      have h1 := hC.kind
      have h2 := hC.nm
      have h3 := hC.n
      try simp only at h1 h2 h3
      subst h1 h2 h3
      have e0 := ((bcell HBR.out).1 _ _ hA.lt).trans hA.kind
      have e1 := ((bcell HBR.out).1 _ _ hA.lt).trans hA.nm
      have e2 := ((bcell HBR.out).1 _ _ hA.lt).trans hA.n
      have e3 := ((bcell HBR.out).1 _ _ hA.lt).trans hA.sl
      try simp only at e0 e1 e2 e3
      have lb := World.block_lt_of_cell? _ _ e0
      clear hA hC
      generalize l[k] = c at *
      obtain ⟨P, hP⟩ : ∃ P, (chgsS key (s, x) (l.take k)).1 = P := ⟨_, rfl⟩
      rw [hP] at HI HA HT
      have hb1 : Below wr.heap.size wr (wr.alloc (.cells #[.int .i64 c.kind, .string c.nm, .int .i64 c.n, .slice ya yn yc] 81)) := (Below.refl _ _).alloc (Nat.le_refl _) _
      have rA := heap_alloc_new wr (.cells #[.int .i64 c.kind, .string c.nm, .int .i64 c.n, .slice ya yn yc] 81)
      have HA1 := Lib.hid (HA.out.mono hb1)
      have HK1 := Lib.hid (kept_call HK.out hb1)
      have HC2 := Lib.hid (HC1.out.mono hb1)
      have HBR1 := Lib.hid (below_step HBR.out hb1)
      obtain ⟨f0, hf0⟩ : ∃ f0, wr.heap.size = f0 := ⟨_, rfl⟩
      have hf5 : sb + 5 ≤ f0 := by
        obtain ⟨-, -, -, -, -, -, -, -, -, -, -, -, -, -, -, h8⟩ := HA.out
        omega
      go_upto_region 15 with fail
      clear hb1 HC1 HBR HK HA hP
      generalize wr.alloc (Obj.cells #[.int .i64 c.kind, .string c.nm, .int .i64 c.n, .slice ya yn yc] 81) = W1 at *
      rw [hf0] at rA
      try simp only [hf0]
      have HRA := Lib.hid rA
      have lf := lt_heap rA
      have d0 := cell_of_block rA 0
      have d1 := cell_of_block rA 1
      have d2 := cell_of_block rA 2
      have d3 := cell_of_block rA 3
      simp only [List.getElem?_toArray, List.getElem?_cons_succ, List.getElem?_cons_zero] at d0 d1 d2 d3
      clear e0 e1 e2 e3 lb rA
      go_upto_block 2 with fail
      go_cut [17] (fun u wx => u = .int .i64 (chgS key P c).2 ∧ Hid (AplAt wx sb n key (chgS key P c).1) ∧ Hid (Kept (BadA sb) w2 wx) ∧ Hid ((chgS key P c).2 = 0 → I (chgS key P c).1))
      case first =>
        by_cases h1 : c.kind = 1
        · have HCH : Hid (chgS key P c = askS key P (askOf 5 c.nm 0 0 [])) := Lib.hid (by unfold chgS chgA; rw [if_pos (.inl h1), if_pos h1, asks_one])
          have HDO := Lib.hid (sdo_any W1 sb n 0 0 key P (askOf 5 c.nm 0 0 []) none HA1.out h41 (HIW.out _ HI.out).1 (HIW.out _ HI.out).2.1 (asks_len HIW.out HIS.out HI.out (.inr (.inr rfl)) (by simp [askOf, Byt])) rfl (.inl rfl) ⟨Nat.le_refl _, fun _ => rfl⟩ (by simp [askOf, Byt]) (by omega))
          have b1 : (c.kind == 1) = true := by rw [beq_iff_eq]; exact h1
          clear HA1 h1
          go_wp2_with fail
          refine HDO.out.mono ?_
          rintro e w5 ⟨rfl, ha5, hk5⟩
          go_wp2_with fail
          go_meet
          exact ⟨by rw [HCH.out], Lib.hid (by rw [HCH.out]; exact ha5), Lib.hid (kept_trans HK1.out hk5), Lib.hid (by rw [HCH.out]; exact HIS.out _ _ HI.out (.inr (.inr rfl)) (by simp [askOf, Byt]))⟩
        have n1 : (c.kind == 1) = false := by rw [beq_eq_false_iff_ne]; exact h1
        by_cases h2 : c.kind = 2
        · have HCH : Hid (chgS key P c = if (askS key P (askOf 3 c.nm 0 0 [])).2 = 0 then askS key (askS key P (askOf 3 c.nm 0 0 [])).1 (askOf 4 c.nm 0 c.n []) else askS key P (askOf 3 c.nm 0 0 [])) := Lib.hid (by unfold chgS chgA; rw [if_pos (.inr (.inl h2)), if_neg h1, if_pos h2, asks_two])
          have HDO := Lib.hid (sdo_any W1 sb n 0 0 key P (askOf 3 c.nm 0 0 []) none HA1.out h41 (HIW.out _ HI.out).1 (HIW.out _ HI.out).2.1 (asks_len HIW.out HIS.out HI.out (.inl rfl) (by simp [askOf, Byt])) rfl (.inl rfl) ⟨Nat.le_refl _, fun _ => rfl⟩ (by simp [askOf, Byt]) (by omega))
          have HI1 := Lib.hid (HIS.out P (askOf 3 c.nm 0 0 []) HI.out (.inl rfl) (by simp [askOf, Byt]))
          have b2 : (c.kind == 2) = true := by rw [beq_iff_eq]; exact h2
          clear HA1 h1 h2
          go_wp2_with fail
          refine HDO.out.mono ?_
          rintro e w5 ⟨rfl, ha5, hk5⟩
          have hnb : ¬ BadA sb f0 := by unfold BadA; omega
          have rA := (hk5.block f0 lf hnb).trans HRA.out
          have d1 := cell_of_block rA 1
          have d2 := cell_of_block rA 2
          simp only [List.getElem?_toArray, List.getElem?_cons_succ, List.getElem?_cons_zero] at d1 d2
          have HK5 := Lib.hid (kept_trans HK1.out hk5)
          clear hk5 HK1 HDO rA
          obtain ⟨P5, E5, hS⟩ : ∃ P5 E5, askS key P (askOf 3 c.nm 0 0 []) = (P5, E5) := ⟨_, _, rfl⟩
          rw [hS] at HCH HI1 ha5 ⊢
          simp only at HCH HI1 ha5 ⊢
          by_cases he5 : E5 = 0
          · subst he5
            rw [if_pos rfl] at HCH
            have HIP := Lib.hid (HI1.out rfl)
            have HDO := Lib.hid (sdo_any w5 sb n 0 0 key P5 (askOf 4 c.nm 0 c.n []) none ha5 h41 (HIW.out _ HIP.out).1 (HIW.out _ HIP.out).2.1 (asks_len HIW.out HIS.out HIP.out (.inr (.inl rfl)) (by simp [askOf, Byt])) rfl (.inl rfl) ⟨Nat.le_refl _, fun _ => rfl⟩ (by simp [askOf, Byt]) (by omega))
            clear ha5 hS
            go_wp2_with fail
            refine HDO.out.mono ?_
            rintro e w6 ⟨rfl, ha6, hk6⟩
            go_wp2_with fail
            go_meet
            exact ⟨by rw [HCH.out], Lib.hid (by rw [HCH.out]; exact ha6), Lib.hid (kept_trans HK5.out hk6), Lib.hid (by rw [HCH.out]; exact HIS.out _ _ HIP.out (.inr (.inl rfl)) (by simp [askOf, Byt]))⟩
          · have he6 : (E5 == 0) = false := by rw [beq_eq_false_iff_ne]; exact he5
            rw [if_neg he5] at HCH
            have HNE := Lib.hid he5
            have HA5 := Lib.hid ha5
            clear he5 ha5 hS
            go_wp2_with fail
            go_meet
            exact ⟨by rw [HCH.out], Lib.hid (by rw [HCH.out]; exact HA5.out), HK5, Lib.hid (by rw [HCH.out]; exact fun h => absurd h HNE.out)⟩
        have n2 : (c.kind == 2) = false := by rw [beq_eq_false_iff_ne]; exact h2
        by_cases h3 : c.kind = 3
        · have HCH : Hid (chgS key P c = askS key P (askOf 3 c.nm c.n 0 c.bytes)) := Lib.hid (by unfold chgS chgA; rw [if_pos (.inr (.inr h3)), if_neg h1, if_neg h2, asks_one])
          have HDO := Lib.hid (sdo_any W1 sb n yn yc key P (askOf 3 c.nm c.n 0 c.bytes) ya HA1.out h41 (HIW.out _ HI.out).1 (HIW.out _ HI.out).2.1 (asks_len HIW.out HIS.out HI.out (.inl rfl) HCB.out.1) HC2.out.len HC2.out.row HC2.out.cap HCB.out.1 (by have h1 := HC2.out.len; have h2 := HCB.out.2; simp only at h1; omega))
          have b3 : (c.kind == 3) = true := by rw [beq_iff_eq]; exact h3
          clear HA1 h1 h2 h3
          go_wp2_with fail
          refine HDO.out.mono ?_
          rintro e w5 ⟨rfl, ha5, hk5⟩
          go_wp2_with fail
          go_meet
          exact ⟨by rw [HCH.out], Lib.hid (by rw [HCH.out]; exact ha5), Lib.hid (kept_trans HK1.out hk5), Lib.hid (by rw [HCH.out]; exact HIS.out _ _ HI.out (.inl rfl) HCB.out.1)⟩
        have n3 : (c.kind == 3) = false := by rw [beq_eq_false_iff_ne]; exact h3
        have HCH : Hid (chgS key P c = (P, 4)) := Lib.hid (by unfold chgS; rw [if_neg (by rintro (h | h | h) <;> contradiction)])
        clear h1 h2 h3
        go_wp2_with fail
        go_meet
        exact ⟨by rw [HCH.out], Lib.hid (by rw [HCH.out]; exact HA1.out), HK1, Lib.hid (by rw [HCH.out]; exact fun h => absurd (show (4 : Int) = 0 from h) (by decide))⟩
      case rest =>
        obtain ⟨rfl, HA5, HK5, HI5⟩ := hcut
        have p3 := (HK5.out.block _ (lt_heap p3) (by unfold BadA; omega)).trans p3
        have p4 := (HK5.out.block _ (lt_heap p4) (by unfold BadA; omega)).trans p4
        obtain ⟨P5, E5, hS⟩ : ∃ P5 E5, chgS key P c = (P5, E5) := ⟨_, _, rfl⟩
        rw [hS] at HT HA5 HI5 ⊢
        simp only at HA5 HI5 ⊢
        clear d0 d1 d2 d3 HRA lf HA1 HK1 HC2 HBR1 hS
        by_cases he5 : E5 = 0
        · subst he5
          go_wp2_with fail
          go_roundw
          case rel => exact ⟨k + 1, by omega, by go_num, Lib.hid (by rw [HT.out]), Lib.hid (by rw [HT.out]; exact HI5.out rfl), Lib.hid (by rw [HT.out]; exact HA5.out), HK5⟩
          case measure => simp [intOf]; omega
        · have hbw : Below w.heap.size w wc := HBW.out.trans (HK5.out.below HBW.out.size fun b hb h => by unfold BadA at h; omega)
          have HR : Hid (applyR s key x l = ([], noSet, E5)) := Lib.hid (by
            have h1 : (chgsS key (s, x) (l.take (k + 1))).2 ≠ 0 := by rw [HT.out]; exact he5
            rw [HAR.out, chgsS_stop h1, HT.out, if_pos he5])
          have he1 : (E5 != 0) = true := by rw [bne_iff_ne]; exact he5
          clear he5 HA5 HI5 HK5
          go_wp2_with fail
          refine (sfail_any _ E5).mono ?_
          rintro e w9 ⟨rfl, hb9⟩
          have p3 := (hb9.block _ (lt_heap p3)).trans p3
          have p4 := (hb9.block _ (lt_heap p4)).trans p4
          have hbw := below_step hbw hb9
          have c3 := cell_of_one p3
          have f3 := free_of_one p3
          have c40 := cell_of_block p4 0
          have c41 := cell_of_block p4 1
          have c42 := cell_of_block p4 2
          simp only [List.getElem?_toArray, List.getElem?_cons_succ, List.getElem?_cons_zero] at c40 c41 c42
          have f40 := free_of_block p4 0
          have f41 := free_of_block p4 1
          have f42 := free_of_block p4 2
          have l3 := lt_heap p3
          have l4 := lt_heap p4
          obtain ⟨z3, z4, zb, -⟩ := put_set p3 p4 (by omega) (.slice none 0 0) (.string ⟨#[]⟩) (.slice none 0 0) (.slice none 0 0)
          have hbz := zb _ _ hbw (by omega) (by omega)
          unfold putW at z3 z4 hbz
          have v3 := cell_of_one z3
          have v40 := cell_of_block z4 0
          have v41 := cell_of_block z4 1
          have v42 := cell_of_block z4 2
          simp at v40 v41 v42
          go_wp2_with fail
          refine bodyPost_ret (v := .tuple #[.agg #[.slice none 0 0], .agg #[.string ⟨#[]⟩, .slice none 0 0, .slice none 0 0], .int .i64 E5]) (by simp [results, Try.results15, go_sem, v3, v40, v41, v42]) rfl ?_
          rw [HR.out]
          exact doEnd_bad hbz
    · have hlt' : ¬ (k : Int) < ln := by omega
      have hT : l.take k = l := List.take_of_length_le (by have := HLL.out; omega)
      rw [hT] at HE0 HI HA
      have HR : Hid (applyR s key x l = ((chgsS key (s, x) l).1.1, (chgsS key (s, x) l).1.2, 0)) := Lib.hid (by rw [HAR.out, if_neg (by rw [HE0.out]; simp)])
      obtain ⟨P, hP⟩ : ∃ P, (chgsS key (s, x) l).1 = P := ⟨_, rfl⟩
      rw [hP] at HI HA HR
      obtain ⟨t, y⟩ := P
      obtain ⟨a, c, gf, gn, gc, tf, tn, tc, qS, qK, qX, hl2, hs2, hc2, hx2, h85⟩ := HA.out
      simp only at hl2 hs2 hx2 qX
      obtain ⟨hwt, hwy, -, hsm⟩ := HIW.out _ HI.out
      simp only at hwt hwy hsm
      have HCS : Hid (∀ u, Nib wr u → Calls Try.prog 42 #[.agg #[.slice a n c]] u fun e w' => ∃ a4 c4, e = .returned (.agg #[.slice a4 n c4]) ∧ Hid (Nib wr w' ∧ OwnSto w' wr.heap.size (.slice a4 n c4) t)) := Lib.hid fun u hu => (copy_any u a n c t hl2 (hs2.mono hu) hwt hc2 h41).mono fun e w' h => by
        obtain ⟨v4, rfl, ho, hb⟩ := h
        obtain ⟨a4, c4, hv, -, -⟩ := ho.sto
        rw [hl2] at hv
        subst hv
        exact ⟨a4, c4, rfl, Lib.hid ⟨Below.trans hu (hb.mono hu.size), ho.weaken hu.size⟩⟩
      have HCX : Hid (∀ u, Nib wr u → Calls Try.prog 43 #[.agg #[.string y.nm, .slice gf gn gc, .slice tf tn tc]] u fun e w' => ∃ f4 d4 s4 e4, e = .returned (.agg #[.string y.nm, .slice f4 gn d4, .slice s4 tn e4]) ∧ Hid (Below u.heap.size u w' ∧ SetFrom wr.heap.size w' f4 gn d4 s4 tn e4 y)) := Lib.hid fun u hu => (setCopy_any u gf tf gn gc tn tc y (hx2.mono hu).1 hsm).mono fun e w' h => by
        obtain ⟨f4, d4, s4, e4, vs, rfl, ho, hb⟩ := h
        exact ⟨f4, d4, s4, e4, rfl, Lib.hid ⟨hb, OwnX.from_ ho hu.size⟩⟩
      have HBR : Hid (Below w.heap.size w wr) := Lib.hid (HBW.out.trans (HK.out.below HBW.out.size fun b hb h => by unfold BadA at h; omega))
      have HP3 := Lib.hid ((HK.out.block _ (lt_heap p3) (by unfold BadA; omega)).trans p3)
      have HP4 := Lib.hid ((HK.out.block _ (lt_heap p4) (by unfold BadA; omega)).trans p4)
      have cS := cell_of_one qS
      have cX0 := cell_of_block qX 0
      have cX1 := cell_of_block qX 1
      have cX2 := cell_of_block qX 2
      simp only [List.getElem?_toArray, List.getElem?_cons_succ, List.getElem?_cons_zero] at cX0 cX1 cX2
      have HQX := Lib.hid qX
      clear p3 p4 qS qK qX hs2 hx2 hc2 hwt hwy hsm HA HI HE0 HK hP hT
      go_wp2_with fail
      go_region_with (first
        | (go_at_call 42; refine (HCS.out _ (by repeat (first | exact Nib.refl _ | refine Nib.dr ?_))).mono ?_; rintro e w4 ⟨a4, c4, rfl, h4⟩; have qx4 := (h4.out.1.block _ (lt_heap HQX.out)).trans HQX.out; have x0 := cell_of_block qx4 0; have x1 := cell_of_block qx4 1; have x2 := cell_of_block qx4 2; simp only [List.getElem?_toArray, List.getElem?_cons_succ, List.getElem?_cons_zero] at x0 x1 x2; clear qx4)
        | (go_at_call 43; refine (HCX.out _ h4.out.1).mono ?_; rintro e w5 ⟨f4, d4, s4, e4, rfl, h5⟩; have hn5 : Nib wr w5 := Below.trans h4.out.1 (h5.out.1.mono h4.out.1.size); have p3 := (hn5.block _ (lt_heap HP3.out)).trans HP3.out; have p4 := (hn5.block _ (lt_heap HP4.out)).trans HP4.out; have c3 := cell_of_one p3; have f3 := free_of_one p3; have c40 := cell_of_block p4 0; have c41 := cell_of_block p4 1; have c42 := cell_of_block p4 2; simp only [List.getElem?_toArray, List.getElem?_cons_succ, List.getElem?_cons_zero] at c40 c41 c42; have f40 := free_of_block p4 0; have f41 := free_of_block p4 1; have f42 := free_of_block p4 2; have l3 := lt_heap p3; have l4 := lt_heap p4))
      all_goals
        have hbw5 := below_step HBR.out hn5
        have hz5 := HBR.out.size
        obtain ⟨z3, z4, zb, -⟩ := put_set p3 p4 (by omega) (.slice a4 n c4) (.string y.nm) (.slice f4 gn d4) (.slice s4 tn e4)
        have hbz := zb _ _ hbw5 (by omega) (by omega)
        obtain ⟨j1, j2, j3⟩ := h4.out.2.read
        have hsz := put_sto p3 p4 (by omega) (.slice a4 n c4) (.string y.nm) (.slice f4 gn d4) (.slice s4 tn e4) (j2.mono h5.out.1)
        have hxz := h5.out.2.go (w' := putW _ (sb + 3) (sb + 4) (.slice a4 n c4) (.string y.nm) (.slice f4 gn d4) (.slice s4 tn e4)) (by rw [put_size]; exact Nat.le_refl _) (fun b hb _ => put_other b (by omega) (by omega))
        unfold putW at z3 z4 hbz hsz hxz
        have v3 := cell_of_one z3
        have v40 := cell_of_block z4 0
        have v41 := cell_of_block z4 1
        have v42 := cell_of_block z4 2
        simp at v40 v41 v42
        go_wp2_with fail
        refine bodyPost_ret (v := .tuple #[.agg #[.slice a4 n c4], .agg #[.string y.nm, .slice f4 gn d4, .slice s4 tn e4], .int .i64 0]) (by simp [results, Try.results15, go_sem, v3, v40, v41, v42]) rfl ?_
        rw [HR.out]
        exact ⟨a4, n, c4, f4, gn, d4, s4, tn, e4, rfl, hbz, j1, ⟨hsz, fun g o e h => Nat.le_trans hz5 (h4.out.2.from_ g o e h)⟩, j3, hxz.weaken hz5⟩
end Go.Proofs.Ytfmgdjgedhnmeaa
