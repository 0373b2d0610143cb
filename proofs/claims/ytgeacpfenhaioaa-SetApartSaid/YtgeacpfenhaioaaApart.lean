/- rookeryref.SameAnswer: are two answers the same? · SetApart: a clone has what the snap has; whatever is done to it, the set reads as ahead; destroyed, it never was there. · Asks that came in, opened. -/
import Derived.Test.YtgeacpfenhaioaaGather
import Derived.Test.YtgeacpfenhaioaaOpenX
import Derived.Test.YtgeacpfenhaioaaHold
namespace Go.Proofs.Ytgeacpfenhaioaa
open Go.RowKit
set_option linter.unusedVariables false

theorem StrRow.at {w : World} {ao : Option Addr} {xs : List ByteArray} (h : StrRow w ao xs) (i : Nat) (hi : i < xs.length) : ∃ b o, ao = some ⟨b, o, none⟩ ∧ ∀ i (h : i < xs.length), w.cell? ⟨b, o + i, none⟩ = some (.string xs[i]) := by
  rcases h with rfl | h
  · simp at hi
  · exact h

set_option maxRecDepth 100000 in
set_option maxHeartbeats 4000000 in
theorem equal_strs (w : World) (ao bo : Option Addr) (m c m' c' : Nat) (l l' : List ByteArray) (hm : l.length = m) (hm' : l'.length = m') (h63 : m ≤ 1152921504606846976) (h63' : m' ≤ 1152921504606846976) (hr : StrRow w ao l) (hr' : StrRow w bo l') :
    Calls Try.prog 60 #[.slice ao m c, .slice bo m' c'] w fun e w' => e = .returned (.bool (isB l l')) ∧ Below w.heap.size w w' := by
  have HM := Lib.hid hm
  have HM' := Lib.hid hm'
  clear hm hm'
  by_cases hmm : m = m'
  · subst hmm
    have h1 : ((m : Int) != m) = false := by simp
    go_enter Try.func60, Try.ntmps60
    go_wp2_with fail
    clear h1
    go_loopw [13] (fun i wr => ∃ k : Nat, k ≤ m ∧ i = .int .i64 k ∧ Hid (l.take k = l'.take k) ∧ Below w.heap.size w wr) (fun i _ => m - (intOf i).toNat)
    case atStart => exact ⟨0, Nat.zero_le _, rfl, Lib.hid (by simp), Below.refl _ _⟩
    case round =>
      obtain ⟨k, hkm, rfl, HTK, hbel⟩ := hrel
      by_cases hlt : k < m
      · have hk1 : k < l.length := by have := HM.out; omega
        have hk2 : k < l'.length := by have := HM'.out; omega
        have hlt' : (k : Int) < m := by omega
        obtain ⟨b1, o1, rfl, hq1⟩ := (hr.mono hbel).at k hk1
        obtain ⟨b2, o2, rfl, hq2⟩ := (hr'.mono hbel).at k hk2
        have c0 := hq1 k hk1
        have d0 := hq2 k hk2
        have l1 := World.block_lt_of_cell? _ _ c0
        have l2 := World.block_lt_of_cell? _ _ d0
        have HNE := Lib.hid (take_ne k hk1 hk2)
        have HSN := Lib.hid (fun h => take_snoc k hk1 hk2 h HTK.out)
        clear hq1 hq2
        generalize l[k] = x at *
        generalize l'[k] = y at *
        by_cases hxy : x = y
        · have HST := Lib.hid (HSN.out hxy)
          obtain ⟨q1, q2⟩ := str_eq hxy
          clear hxy HNE HSN
          go_upto_region 6 with fail
          go_still (by kernel_rfl)
          go_wp2_with fail
          go_roundw
          case rel => exact ⟨k + 1, by omega, by go_num, HST, hbel.drew⟩
          case measure => simp [intOf]; omega
        · have HR : Hid (isB l l' = false) := Lib.hid (isB_not (HNE.out hxy))
          obtain ⟨q1, q2⟩ := str_ne hxy
          clear hxy HNE HSN
          go_upto_region 6 with fail
          go_still (by kernel_rfl)
          go_wp2_with fail
          go_ret
          exact ⟨ret_bool HR.out.symm, hbel.drew⟩
      · obtain rfl : k = m := by omega
        have HR : Hid (isB l l' = true) := Lib.hid ((isB_iff _ _).2 (by
          have h1 : l.take k = l := List.take_of_length_le (by have := HM.out; omega)
          have h2 : l'.take k = l' := List.take_of_length_le (by have := HM'.out; omega)
          rw [← h1, ← h2]; exact HTK.out))
        have hlt' : ¬ (k : Int) < k := by omega
        go_wp2_with fail
        go_ret
        exact ⟨ret_bool HR.out.symm, hbel⟩
  · have HR : Hid (isB l l' = false) := Lib.hid (isB_not (by rintro rfl; exact hmm (HM.out.symm.trans HM'.out)))
    have h1 : ((m : Int) != m') = true := by rw [bne_iff_ne]; omega
    go_enter Try.func60, Try.ntmps60
    go_wp2_with fail
    go_ret
    exact ⟨ret_bool HR.out.symm, Below.refl _ _⟩

/-- an answer that lies there -/
structure AnsIn (w : World) (na : Option Addr) (nn nc : Nat) (ba : Option Addr) (bn bc : Nat) (a : AnsV) : Prop where
  nlen : a.names.length = nn
  blen : a.bytes.length = bn
  nrow : StrRow w na a.names
  brow : Row .u8 w ba a.bytes
  byt : Byt a.bytes
  nfit : nn ≤ 1152921504606846976
theorem AnsIn.mono {w w' : World} {na : Option Addr} {nn nc : Nat} {ba : Option Addr} {bn bc : Nat} {a : AnsV} (h : AnsIn w na nn nc ba bn bc a) (hb : Below w.heap.size w w') : AnsIn w' na nn nc ba bn bc a :=
  ⟨h.nlen, h.blen, h.nrow.mono hb, h.brow.mono hb, h.byt, h.nfit⟩

set_option maxRecDepth 100000 in
set_option maxHeartbeats 4000000 in
theorem sameAns_any (w : World) (na na' ba ba' : Option Addr) (nn nc bn bc nn' nc' bn' bc' : Nat) (a b : AnsV) (ha : AnsIn w na nn nc ba bn bc a) (hb : AnsIn w na' nn' nc' ba' bn' bc' b) :
    Calls Try.prog 23 #[.agg #[.int .i64 a.e, .int .i64 a.n, .slice na nn nc, .slice ba bn bc], .agg #[.int .i64 b.e, .int .i64 b.n, .slice na' nn' nc', .slice ba' bn' bc']] w fun e w' => e = .returned (.bool (isB a b)) ∧ Below w.heap.size w w' := by
  have hb0 : Below w.heap.size w ((w.alloc (.cells #[.int .i64 a.e, .int .i64 a.n, .slice na nn nc, .slice ba bn bc] 57)).alloc (.cells #[.int .i64 b.e, .int .i64 b.n, .slice na' nn' nc', .slice ba' bn' bc'] 57)) := ((Below.refl _ _).alloc (Nat.le_refl _) _).alloc (by simp) _
  have p0 := heap_alloc2_old w (.cells #[.int .i64 a.e, .int .i64 a.n, .slice na nn nc, .slice ba bn bc] 57) (.cells #[.int .i64 b.e, .int .i64 b.n, .slice na' nn' nc', .slice ba' bn' bc'] 57)
  have p1 := heap_alloc2_new w (.cells #[.int .i64 a.e, .int .i64 a.n, .slice na nn nc, .slice ba bn bc] 57) (.cells #[.int .i64 b.e, .int .i64 b.n, .slice na' nn' nc', .slice ba' bn' bc'] 57)
  have HA := Lib.hid (ha.mono hb0)
  have HB := Lib.hid (hb.mono hb0)
  clear ha hb
  obtain ⟨ae, an, ans, aby⟩ := a
  obtain ⟨be, bn0, bns, bby⟩ := b
  simp only at HA HB p0 p1 hb0 ⊢
  by_cases h1 : ae = be
  rotate_left
  · have HR : Hid (isB (⟨ae, an, ans, aby⟩ : AnsV) ⟨be, bn0, bns, bby⟩ = false) := Lib.hid (isB_not fun e => h1 (AnsV.mk.inj e).1)
    have q1 : (ae == be) = false := by rw [beq_eq_false_iff_ne]; exact h1
    clear h1
    go_enter Try.func23, Try.ntmps23
    go_wp2_with fail
    go_ret
    exact ⟨ret_bool HR.out.symm, hb0⟩
  by_cases h2 : an = bn0
  rotate_left
  · have HR : Hid (isB (⟨ae, an, ans, aby⟩ : AnsV) ⟨be, bn0, bns, bby⟩ = false) := Lib.hid (isB_not fun e => h2 (AnsV.mk.inj e).2.1)
    have q1 : (ae == be) = true := by rw [beq_iff_eq]; exact h1
    have q2 : (an == bn0) = false := by rw [beq_eq_false_iff_ne]; exact h2
    clear h1 h2
    go_enter Try.func23, Try.ntmps23
    go_wp2_with fail
    go_ret
    exact ⟨ret_bool HR.out.symm, hb0⟩
  subst h1 h2
  go_enter Try.func23, Try.ntmps23
  go_wp2_with fail
  generalize (w.alloc (Obj.cells #[Value.int .i64 ae, Value.int .i64 an, Value.slice na nn nc, Value.slice ba bn bc] 57)).alloc (Obj.cells #[Value.int .i64 ae, Value.int .i64 an, Value.slice na' nn' nc', Value.slice ba' bn' bc'] 57) = W at *
  refine (equal_strs W na na' nn nc nn' nc' ans bns HA.out.nlen HB.out.nlen HA.out.nfit HB.out.nfit HA.out.nrow HB.out.nrow).mono ?_
  by_cases h3 : ans = bns
  · rw [(isB_iff _ _).2 h3]
    rintro e w1 ⟨rfl, hb1⟩
    have p0 := (hb1.block _ (lt_heap p0)).trans p0
    have p1 := (hb1.block _ (lt_heap p1)).trans p1
    have c0 := cell_of_block p0 3
    have c1 := cell_of_block p1 3
    simp only [List.getElem?_toArray, List.getElem?_cons_succ, List.getElem?_cons_zero] at c0 c1
    have l0 := lt_heap p0
    have l1 := lt_heap p1
    have HA2 := Lib.hid (HA.out.mono hb1)
    have HB2 := Lib.hid (HB.out.mono hb1)
    have HR : Hid (isB (⟨ae, an, ans, aby⟩ : AnsV) ⟨ae, an, bns, bby⟩ = (aby == bby)) := Lib.hid (by
      by_cases e : aby = bby
      · rw [(isB_iff _ _).2 (by rw [h3, e]), e]; simp
      · rw [isB_not (fun e2 => e (AnsV.mk.inj e2).2.2.2)]
        exact (beq_eq_false_iff_ne.2 e).symm)
    have hbw := below_step hb0 hb1
    clear h3
    go_wp2_with fail
    refine (bytes_equal_n ba ba' bn bn' bc bc' aby bby w1 HA2.out.blen HB2.out.blen HA2.out.brow HB2.out.brow HA2.out.byt HB2.out.byt).mono ?_
    rintro e w2 ⟨rfl, rfl⟩
    go_wp2_with fail
    go_ret
    exact ⟨ret_bool HR.out.symm, hbw⟩
  · rw [isB_not h3]
    rintro e w1 ⟨rfl, hb1⟩
    have HR : Hid (isB (⟨ae, an, ans, aby⟩ : AnsV) ⟨ae, an, bns, bby⟩ = false) := Lib.hid (isB_not fun e => h3 (AnsV.mk.inj e).2.2.1)
    clear h3
    go_wp2_with fail
    go_ret
    exact ⟨ret_bool HR.out.symm, below_step hb0 hb1⟩
end Go.Proofs.Ytgeacpfenhaioaa

namespace Go.Proofs.Ytgeacpfenhaioaa
open Go.RowKit
set_option linter.unusedVariables false

/-- an ask that lies in cells -/
structure AskAt (w : World) (b o : Nat) (a : AskV) (ba : Option Addr) (bc : Nat) : Prop where
  kind : w.cell? ⟨b, o, none⟩ = some (.int .i64 a.kind)
  sname : w.cell? ⟨b, o + 1, none⟩ = some (.string a.sname)
  file : w.cell? ⟨b, o + 2, none⟩ = some (.string a.file)
  dest : w.cell? ⟨b, o + 3, none⟩ = some (.string a.dest)
  at_ : w.cell? ⟨b, o + 4, none⟩ = some (.int .i64 a.at_)
  n : w.cell? ⟨b, o + 5, none⟩ = some (.int .i64 a.n)
  bytes : w.cell? ⟨b, o + 6, none⟩ = some (.slice ba a.bytes.length bc)
  row : Row .u8 w ba a.bytes
  cap : Capd ba a.bytes.length bc
theorem AskAt.mono {w w' : World} {b o : Nat} {a : AskV} {ba : Option Addr} {bc : Nat} (h : AskAt w b o a ba bc) (hb : Below w.heap.size w w') : AskAt w' b o a ba bc := by
  have hl := World.block_lt_of_cell? _ _ h.kind
  have hc : ∀ j, w'.cell? ⟨b, j, none⟩ = w.cell? ⟨b, j, none⟩ := fun j => World.cell?_of_block (a := ⟨b, j, none⟩) (hb.block b hl)
  exact ⟨(hc _).trans h.kind, (hc _).trans h.sname, (hc _).trans h.file, (hc _).trans h.dest, (hc _).trans h.at_, (hc _).trans h.n, (hc _).trans h.bytes, h.row.mono hb, h.cap⟩
/-- asks, side by side -/
def AskRow (w : World) (ao : Option Addr) (l : List AskV) : Prop := l = [] ∨ ∃ b o, ao = some ⟨b, o, none⟩ ∧ ∀ i (h : i < l.length), ∃ ba bc, AskAt w b (o + i * 7) l[i] ba bc
theorem AskRow.mono {w w' : World} {ao : Option Addr} {l : List AskV} (h : AskRow w ao l) (hb : Below w.heap.size w w') : AskRow w' ao l := by
  rcases h with h | ⟨b, o, h1, h⟩
  · exact .inl h
  · refine .inr ⟨b, o, h1, fun i hi => ?_⟩
    obtain ⟨ba, bc, h2⟩ := h i hi
    exact ⟨ba, bc, h2.mono hb⟩
theorem AskRow.at {w : World} {ao : Option Addr} {l : List AskV} (h : AskRow w ao l) (i : Nat) (hi : i < l.length) : ∃ b o ba bc, ao = some ⟨b, o, none⟩ ∧ AskAt w b (o + i * 7) l[i] ba bc := by
  rcases h with rfl | ⟨b, o, h1, h⟩
  · simp at hi
  · obtain ⟨ba, bc, h2⟩ := h i hi
    exact ⟨b, o, ba, bc, h1, h2⟩
/-- the asks' numbers fit -/
def WfA (l : List AskV) : Prop := ∀ a ∈ l, Byt a.bytes ∧ a.bytes.length ≤ 140737488351232

theorem lookR_fit (s : List Blk) (key : Int) (x : SetV) (a : AskV) : Byt (lookR s key x a).1.bytes ∧ (lookR s key x a).1.names.length ≤ x.files.length := by
  have hb : ∀ root z p q, Byt (readR s key root z p q).1 := fun root z p q => by
    unfold readR
    split
    · intro x hx; cases hx
    · split
      · intro x hx; cases hx
      · intro y hy
        exact fileB_byt s key root z y (List.mem_of_mem_take (List.mem_of_mem_drop hy))
  have h0 : Byt [] := fun x hx => by cases hx
  unfold lookR
  split
  · exact ⟨h0, Nat.zero_le _⟩
  · split
    · split
      · exact ⟨h0, Nat.zero_le _⟩
      · split
        · exact ⟨h0, Nat.zero_le _⟩
        · exact ⟨hb _ _ _ _, Nat.zero_le _⟩
    · split
      · exact ⟨h0, by simp⟩
      · exact ⟨h0, Nat.zero_le _⟩
def readA (nm : ByteArray) : AskV := ⟨11, ⟨#[]⟩, nm, ⟨#[]⟩, 0, 256, []⟩

theorem ents_wf {s : List Blk} {key : Int} {l : List Ent} (h : EntsOk s key l) : WfL l := fun x hx => by
  obtain ⟨-, h0, h1, hc, -⟩ := fileE_ok (h.each x hx).2
  obtain ⟨hce, m, hm3, hm, hroot, -, -⟩ := checkT_ok hc
  have h4 := (checkE_zero s hce).1
  refine ⟨?_, by unfold I64; omega⟩
  rcases hroot with h | ⟨h, _⟩
  · rw [h]; unfold I64; omega
  · obtain ⟨k, hk, e, _⟩ := there_in h
    unfold I64; omega
theorem right_wf {s : List Blk} {key : Int} {x : SetV} (h : RightX s key x) : WfX x := ⟨ents_wf h.files, fun y hy => ents_wf (h.snaps y hy).2⟩
theorem setIn_keep {w w' : World} {fo : Option Addr} {fn fc : Nat} {so : Option Addr} {sn sc : Nat} {x : SetV} (h : SetIn w fo fn fc so sn sc x) (hs : w.heap.size ≤ w'.heap.size) (hk : ∀ b, b < w.heap.size → w'.heap[b]? = w.heap[b]?) : SetIn w' fo fn fc so sn sc x := by
  have hb : Below w.heap.size w { w with heap := w'.heap } := ⟨rfl, rfl, rfl, hs, hk⟩
  have h2 := h.mono hb
  exact ⟨h2.flen, h2.slen, h2.frow, h2.srow, h2.fcap, h2.scap⟩
/-- a set that does not hang on two boxes -/
def SetOff (p : Nat) (w : World) (fo : Option Addr) (fn fc : Nat) (so : Option Addr) (sn sc : Nat) (x : SetV) : Prop :=
  SetIn w fo fn fc so sn sc x ∧ ∀ w', w.heap.size ≤ w'.heap.size → (∀ b, b ≠ p → b ≠ p + 1 → b < w.heap.size → w'.heap[b]? = w.heap[b]?) → SetIn w' fo fn fc so sn sc x
section
variable {K p : Nat} {w w' : World} {fo : Option Addr} {fn fc : Nat} {so : Option Addr} {sn sc : Nat} {x : SetV}
theorem SetOff.go (h : SetOff p w fo fn fc so sn sc x) (hs : w.heap.size ≤ w'.heap.size) (hk : ∀ b, b ≠ p → b ≠ p + 1 → b < w.heap.size → w'.heap[b]? = w.heap[b]?) : SetOff p w' fo fn fc so sn sc x :=
  ⟨h.2 w' hs hk, fun w2 h1 h2 => h.2 w2 (Nat.le_trans hs h1) fun b h3 h4 hl => (h2 b h3 h4 (Nat.lt_of_lt_of_le hl hs)).trans (hk b h3 h4 hl)⟩
theorem SetOff.mono (h : SetOff p w fo fn fc so sn sc x) (hb : Below w.heap.size w w') : SetOff p w' fo fn fc so sn sc x := h.go hb.size fun b _ _ hl => hb.block b hl
theorem SetFrom.off (h : SetFrom K w fo fn fc so sn sc x) (hp : p + 2 ≤ K) : SetOff p w fo fn fc so sn sc x := ⟨h.1, fun w2 h1 h2 => h.2 w2 h1 fun b hb hl => h2 b (by omega) (by omega) hl⟩
theorem SetIn.off (h : SetIn w fo fn fc so sn sc x) (hp : w.heap.size ≤ p) (hb : Below w.heap.size w w') : SetOff p w' fo fn fc so sn sc x :=
  ⟨h.mono hb, fun w2 h1 h2 => setIn_keep h (Nat.le_trans hb.size h1) fun b hl => (h2 b (by omega) (by omega) (Nat.lt_of_lt_of_le hl hb.size)).trans (hb.block b hl)⟩
end
/-- the clone's store and set lie in their boxes -/
def CloneAt (wr : World) (bs n : Nat) (p : List Blk × SetV) : Prop :=
  ∃ (a1 : Option Addr) (c1 : Nat) (fo : Option Addr) (fn fc : Nat) (so : Option Addr) (sn sc : Nat), wr.heap[bs]? = some (.cells #[.slice a1 n c1] 24 (0, 0)) ∧ wr.heap[bs + 1]? = some (.cells #[.string p.2.nm, .slice fo fn fc, .slice so sn sc] 28 (0, 0)) ∧
    p.1.length = n ∧ StoRow wr a1 p.1 ∧ Capd a1 n c1 ∧ SetOff bs wr fo fn fc so sn sc p.2
theorem CloneAt.mono {w w' : World} {bs n : Nat} {p : List Blk × SetV} (h : CloneAt w bs n p) (hb : Below w.heap.size w w') : CloneAt w' bs n p := by
  obtain ⟨a1, c1, fo, fn, fc, so, sn, sc, h1, h2, h3, h4, h5, h6⟩ := h
  exact ⟨a1, c1, fo, fn, fc, so, sn, sc, (hb.block _ (lt_heap h1)).trans h1, (hb.block _ (lt_heap h2)).trans h2, h3, h4.mono hb, h5, h6.mono hb⟩

set_option maxRecDepth 100000 in
set_option maxHeartbeats 16000000 in
theorem law_apart (w : World) (ao fo so qa : Option Addr) (n cap fn fc sn sc qn qc : Nat) (s : List Blk) (key : Int) (x : SetV) (frm name : ByteArray) (asks : List AskV) (hn : s.length = n) (h41 : n ≤ 2199023255552) (hs : StoRow w ao s) (hwf : WfS s) (hc : Capd ao n cap) (hx : SetIn w fo fn fc so sn sc x) (hwx : WfX x)
    (hq : asks.length = qn) (hqr : AskRow w qa asks) (hqc : Capd qa qn qc) (hqw : WfA asks) (hq63 : qn ≤ 4611686018427387904) :
    Calls Try.prog 5 #[.agg #[.slice ao n cap], .int .i64 key, .agg #[.string x.nm, .slice fo fn fc, .slice so sn sc], .string frm, .string name, .slice qa qn qc] w fun e w' => e = .returned (.bool true) ∧ Below w.heap.size w w' := by
  have HN := Lib.hid hn
  have HC := Lib.hid hc
  have HWX := Lib.hid hwx
  have HQ := Lib.hid hq
  have HQC := Lib.hid hqc
  have HQW := Lib.hid hqw
  have hb0 : Below w.heap.size w ((w.alloc (.cells #[.slice ao n cap] 24)).alloc (.cells #[.string x.nm, .slice fo fn fc, .slice so sn sc] 28)) := ((Below.refl _ _).alloc (Nat.le_refl _) _).alloc (by simp) _
  have pS := heap_alloc2_old w (.cells #[.slice ao n cap] 24) (.cells #[.string x.nm, .slice fo fn fc, .slice so sn sc] 28)
  have pX := heap_alloc2_new w (.cells #[.slice ao n cap] 24) (.cells #[.string x.nm, .slice fo fn fc, .slice so sn sc] 28)
  have HS0 := Lib.hid (hs.mono hb0)
  have HX0 := Lib.hid (hx.mono hb0)
  have HQ0 := Lib.hid (hqr.mono hb0)
  clear hn hc hwx hs hx hq hqr hqc hqw
  go_enter Try.func5, Try.ntmps5
  go_wp2_with fail
  generalize (w.alloc (Obj.cells #[Value.slice ao n cap] 24)).alloc (Obj.cells #[Value.string x.nm, Value.slice fo fn fc, Value.slice so sn sc] 28) = W0 at *
  refine (crowded_any _ _ _ _ s HN.out h41 HS0.out).mono ?_
  rintro e w1 ⟨rfl, hb1⟩
  have hbw1 := below_step hb0 hb1
  cases hcr : crowdB s with
  | true =>
    clear HS0 HX0 HQ0
    go_wp2_with fail
    go_ret
    exact ⟨rfl, hbw1⟩
  | false =>
    have HFEW := Lib.hid (crowdB_few hcr)
    have HS1 := Lib.hid (HS0.out.mono hb1)
    have HX1 := Lib.hid (HX0.out.mono hb1)
    have HQ1 := Lib.hid (HQ0.out.mono hb1)
    replace pS := (hb1.block _ (lt_heap pS)).trans pS
    replace pX := (hb1.block _ (lt_heap pX)).trans pX
    have HPS := Lib.hid pS
    have HPX := Lib.hid pX
    have HBW1 := Lib.hid hbw1
    have cS := cell_of_one pS
    have cX0 := cell_of_block pX 0
    have cX1 := cell_of_block pX 1
    have cX2 := cell_of_block pX 2
    simp only [List.getElem?_toArray, List.getElem?_cons_succ, List.getElem?_cons_zero] at cX0 cX1 cX2
    have lS := lt_heap pS
    have lX := lt_heap pX
    have HCO := Lib.hid (fun h => cloneR_ok (s := s) (key := key) (x := x) (frm := frm) (name := name) h)
    have HD1 := Lib.hid (clone_any w1 ao fo so n cap fn fc sn sc s key x frm name HN.out h41 HS1.out hwf HC.out HX1.out HWX.out)
    obtain ⟨D1, hD1⟩ : ∃ D, cloneR s key x frm name = D := ⟨_, rfl⟩
    rw [hD1] at HD1 HCO
    clear hD1 hcr HS0 HX0 HQ0 hb0 hb1 hbw1 pS pX
    go_wp2_with fail
    refine HD1.out.mono ?_
    rintro e w2 ⟨ao1, n1, c1, fo1, fn1, fc1, so1, sn1, sc1, rfl, hb2, hn1, hs1, hc1, hx1⟩
    obtain ⟨bs, hbs⟩ : ∃ bs, w2.heap.size = bs := ⟨_, rfl⟩
    have hb3 : Below w2.heap.size w2 ((w2.alloc (.cells #[.slice ao1 n1 c1] 24)).alloc (.cells #[.string D1.2.1.nm, .slice fo1 fn1 fc1, .slice so1 sn1 sc1] 28)) := ((Below.refl _ _).alloc (Nat.le_refl _) _).alloc (by simp) _
    have qS := heap_alloc2_old w2 (.cells #[.slice ao1 n1 c1] 24) (.cells #[.string D1.2.1.nm, .slice fo1 fn1 fc1, .slice so1 sn1 sc1] 28)
    have qX := heap_alloc2_new w2 (.cells #[.slice ao1 n1 c1] 24) (.cells #[.string D1.2.1.nm, .slice fo1 fn1 fc1, .slice so1 sn1 sc1] 28)
    have HS2 := Lib.hid (hs1.mono hb3)
    have hb13 := below_step hb2 hb3
    have HX2 := Lib.hid (hx1.1.off (p := bs) (by omega) hb3)
    have HN1 := Lib.hid hn1
    have HC1 := Lib.hid hc1
    have HB13 := Lib.hid hb13
    rw [hbs] at qS qX
    have HBE := Lib.hid (show w1.heap.size ≤ bs from by rw [← hbs]; exact hb2.size)
    clear hs1 hx1 hn1 hc1 hb2 hb3 HD1 cS cX0 cX1 cX2 lS lX hb13
    go_upto_region 4 with fail
    generalize (w2.alloc (Obj.cells #[Value.slice ao1 n1 c1] 24)).alloc (Obj.cells #[Value.string D1.2.1.nm, Value.slice fo1 fn1 fc1, Value.slice so1 sn1 sc1] 28) = W2 at *
    try simp only [hbs]
    obtain ⟨t1, y1, e1⟩ := D1
    simp only at *
    clear hbs
    go_wp2_with fail
    refine (gathered_any _).mono ?_
    rintro e w3 ⟨rfl, hb4⟩
    have HB14 := Lib.hid (below_step HB13.out hb4)
    by_cases he : e1 = 0
    rotate_left
    · have he1 : (e1 != 0) = true := by rw [bne_iff_ne]; exact he
      clear he HCO
      go_wp2_with fail
      refine (gathered_any _).mono ?_
      rintro e w4 ⟨rfl, hb5⟩
      have hbF := below_step HBW1.out (below_step HB14.out hb5)
      go_wp2_with fail
      go_ret
      exact ⟨rfl, hbF⟩
    · subst he
      obtain ⟨g1, g2, z, hz, g3⟩ := HCO.out rfl
      simp only [Prod.mk.injEq, and_true] at g3
      obtain ⟨rfl, rfl⟩ := g3
      have HRX := Lib.hid (setE_ok g1)
      have HBO := Lib.hid (BaseOk.self HRX.out.chk hwf HFEW.out)
      have HSH := Lib.hid (clone_hold HBO.out HRX.out.kok (HRX.out.snaps z hz).2 g2)
      have HCA : Hid (CloneAt w3 bs n (bump s (rootsF z.files), ⟨name, z.files, []⟩)) := Lib.hid (by
        have hn1 : n1 = n := by have h1 := HN1.out; rw [bump_length] at h1; have := HN.out; omega
        subst hn1
        exact CloneAt.mono ⟨ao1, c1, fo1, fn1, fc1, so1, sn1, sc1, qS, qX, HN1.out, HS2.out, HC1.out, HX2.out⟩ hb4)
      have hY0 : (⟨name, z.files, []⟩ : SetV).snaps = [] := rfl
      generalize bump s (rootsF z.files) = M0 at *
      generalize (⟨name, z.files, []⟩ : SetV) = Y0 at *
      have HY0 := Lib.hid hY0
      clear HCO g1 g2 z hz qS qX HN1 HS2 HC1 HX2 HB13 hb4 hY0
      have hca := HCA.out
      obtain ⟨a2, c2, gf, gn, gc, tf, tn, tc, qS, qX, hl2, hs2, hc2, hx2⟩ := hca
      have HDS := Lib.hid (destroy_any w3 a2 gf tf n c2 gn gc tn tc M0 key Y0 hl2 h41 hs2 HSH.out.wf hc2 hx2.1 (right_wf HSH.out.right))
      rw [SHold.destroy HBO.out HSH.out] at HDS
      have HTN : tn = 0 := by have h1 := hx2.1.slen; rw [HY0.out] at h1; exact h1.symm
      subst HTN
      have cS := cell_of_one qS
      have cX0 := cell_of_block qX 0
      have cX1 := cell_of_block qX 1
      have cX2 := cell_of_block qX 2
      simp only [List.getElem?_toArray, List.getElem?_cons_succ, List.getElem?_cons_zero] at cX0 cX1 cX2
      have lS := lt_heap qS
      have lX := lt_heap qX
      have HQX := Lib.hid qX
      clear qS qX hl2 hs2 hc2 hx2
      go_wp2_with fail
      refine HDS.out.mono ?_
      rintro e w4 ⟨a3, n3, c3, rfl, hb4, hn3, hs3, -⟩
      have hb5 : Below w4.heap.size w4 (w4.alloc (.cells #[.slice a3 n3 c3] 24)) := (Below.refl _ _).alloc (Nat.le_refl _) _
      have rS := heap_alloc_new w4 (.cells #[.slice a3 n3 c3] 24)
      have hb45 := below_step hb4 hb5
      have HS4 := Lib.hid (hs3.mono hb5)
      have HN3 := Lib.hid hn3
      have HCA4 := Lib.hid (HCA.out.mono hb45)
      have hB := below_step HB14.out hb45
      have HB4 := Lib.hid hB
      have HQX4 := Lib.hid ((hb45.block _ (lt_heap HQX.out)).trans HQX.out)
      have HPS4 := Lib.hid ((hB.block _ (lt_heap HPS.out)).trans HPS.out)
      have HS14 := Lib.hid (HS1.out.mono hB)
      clear hs3 hn3 hb4 hb5 hb45 hB HDS cS cX0 cX1 cX2 lS lX HCA HB14 HQX
      go_upto_region 7 with fail
      generalize w4.alloc (Obj.cells #[Value.slice a3 n3 c3] 24) = W4 at *
      have c0 := cell_of_one rS
      have d0 := cell_of_one HPS4.out
      have l0 := lt_heap rS
      have l1 := lt_heap HPS4.out
      go_wp2_with fail
      refine (same_any _ _ _ _ _ _ _ s s HN3.out HN.out (by have := HN3.out; have := HN.out; omega) (by omega) HS4.out HS14.out hwf hwf).mono ?_
      rw [show sameS s s = true from by unfold sameS; simp]
      rintro e w5 ⟨rfl, hb6⟩
      have HCA5 := Lib.hid (HCA4.out.mono hb6)
      have HB5 := Lib.hid (below_step HB4.out hb6)
      have HQX5 := Lib.hid ((hb6.block _ (lt_heap HQX4.out)).trans HQX4.out)
      clear c0 d0 l0 l1 hb6 HCA4 HB4 HQX4 HPS4 HS14 HS4 rS
      have c2 := cell_of_block HQX5.out 2
      simp only [List.getElem?_toArray, List.getElem?_cons_succ, List.getElem?_cons_zero] at c2
      have l2 := lt_heap HQX5.out
      have hm1 : (qn : Int) ≤ qc := by have := HQC.out.1; omega
      have hm2 : min (qn : Int) 12 ≤ qc := by omega
      have hm3 : 0 ≤ min (qn : Int) 12 := by omega
      obtain ⟨qm, hqm⟩ : ∃ qm : Nat, qm = min qn 12 := ⟨_, rfl⟩
      have HQM := Lib.hid hqm
      have HRH := Lib.hid (run_hold4 HBO.out (p := (M0, Y0)) HSH.out (l := asks) (fun a ha => (HQW.out a ha).1))
      go_wp2_with fail
      clear hm1 hm2 hm3 c2 l2 HQX5 HSH HY0 hqm
      go_loopw [74] (fun i wr => ∃ k : Nat, k ≤ qm ∧ i = .int .i64 k ∧ Hid (CloneAt wr bs n (runTo key (M0, Y0) asks k)) ∧ Hid (Below w1.heap.size w1 wr)) (fun i _ => 12 - (intOf i).toNat)
      case atStart => exact ⟨0, Nat.zero_le _, rfl, HCA5, HB5⟩
      case round => as_aux_lemma =>
        clear HCA5 HB5
        obtain ⟨k, hkn, rfl, HC0, HB0⟩ := hrel
        by_cases hlt : k < qm
        · have hlt' : (k : Int) < ((min qn 12 : Nat) : Int) := by have := HQM.out; omega
          have hka : k < asks.length := by have := HQ.out; have := HQM.out; omega
          obtain ⟨qb, qo, ba, bc, rfl, hE0⟩ := HQ1.out.at k hka
          have HRT := Lib.hid (runTo_succ (key := key) (p := (M0, Y0)) hka)
          have HRK := Lib.hid (HRH.out k (by have := HQM.out; omega) (by omega))
          have HAW := Lib.hid (HQW.out _ (List.getElem_mem hka))
          have hE := hE0.mono HB0.out
          clear hE0
          generalize asks[k] = a at *
          generalize runTo key (M0, Y0) asks k = P at *
          obtain ⟨t, y⟩ := P
          simp only at HRK
          have e0 := hE.kind
          have e1 := hE.sname
          have e2 := hE.file
          have e3 := hE.dest
          have e4 := hE.at_
          have e5 := hE.n
          have e6 := hE.bytes
          have lb : qb < wr.heap.size := World.block_lt_of_cell? _ _ e0
          have hca := HC0.out
          obtain ⟨a2, c2, gf, gn, gc, tf, tn, tc, qS, qX, hl2, hs2, hc2, hx2⟩ := hca
          have hb1 : Below wr.heap.size wr (wr.alloc (.cells #[.int .i64 a.kind, .string a.sname, .string a.file, .string a.dest, .int .i64 a.at_, .int .i64 a.n, .slice ba a.bytes.length bc] 35)) := (Below.refl _ _).alloc (Nat.le_refl _) _
          have rA := heap_alloc_new wr (.cells #[.int .i64 a.kind, .string a.sname, .string a.file, .string a.dest, .int .i64 a.at_, .int .i64 a.n, .slice ba a.bytes.length bc] 35)
          have HDO := Lib.hid (do_any (wr.alloc (.cells #[.int .i64 a.kind, .string a.sname, .string a.file, .string a.dest, .int .i64 a.at_, .int .i64 a.n, .slice ba a.bytes.length bc] 35)) a2 gf tf ba n c2 gn gc tn tc a.bytes.length bc t key y a hl2 h41 (hs2.mono hb1) HRK.out.wf hc2 (hx2.mono hb1).1 (right_wf HRK.out.right) rfl (hE.row.mono hb1) hE.cap HAW.out.1 HAW.out.2)
          have HC1 := Lib.hid (HC0.out.mono hb1)
          have HB1 := Lib.hid (below_step HB0.out hb1)
          have qS := (hb1.block _ (lt_heap qS)).trans qS
          have qX := (hb1.block _ (lt_heap qX)).trans qX
          have cS := cell_of_one qS
          have cX0 := cell_of_block qX 0
          have cX1 := cell_of_block qX 1
          have cX2 := cell_of_block qX 2
          have d0 := cell_of_block rA 0
          have d1 := cell_of_block rA 1
          have d2 := cell_of_block rA 2
          have d3 := cell_of_block rA 3
          have d4 := cell_of_block rA 4
          have d5 := cell_of_block rA 5
          have d6 := cell_of_block rA 6
          simp only [List.getElem?_toArray, List.getElem?_cons_succ, List.getElem?_cons_zero] at cX0 cX1 cX2 d0 d1 d2 d3 d4 d5 d6
          have lS := lt_heap qS
          have lX := lt_heap qX
          have lA := lt_heap rA
          obtain ⟨D, hD⟩ : ∃ D, doR writeW t key y a = D := ⟨_, rfl⟩
          have HRS : Hid (runTo key (M0, Y0) asks (k + 1) = if D.2.2 = 0 then (D.1, D.2.1) else (t, y)) := Lib.hid (by rw [HRT.out, ← hD]; rfl)
          rw [hD] at HDO
          clear hD HC0 HRT hE hs2 hx2 hl2 hc2 hb1 qS qX rA HB0
          go_upto_region 12 with fail
          generalize wr.alloc (.cells #[.int .i64 a.kind, .string a.sname, .string a.file, .string a.dest, .int .i64 a.at_, .int .i64 a.n, .slice ba a.bytes.length bc] 35) = W6 at *
          go_wp2_with fail
          refine HDO.out.mono ?_
          rintro e w7 ⟨a4, n4, c4, gf4, gn4, gc4, tf4, tn4, tc4, rfl, hb7, hn4, hs4, hc4, hx4⟩
          have hb8 : Below w7.heap.size w7 ((w7.alloc (.cells #[.slice a4 n4 c4] 24)).alloc (.cells #[.string D.2.1.nm, .slice gf4 gn4 gc4, .slice tf4 tn4 tc4] 28)) := ((Below.refl _ _).alloc (Nat.le_refl _) _).alloc (by simp) _
          have rS := heap_alloc2_old w7 (.cells #[.slice a4 n4 c4] 24) (.cells #[.string D.2.1.nm, .slice gf4 gn4 gc4, .slice tf4 tn4 tc4] 28)
          have rX := heap_alloc2_new w7 (.cells #[.slice a4 n4 c4] 24) (.cells #[.string D.2.1.nm, .slice gf4 gn4 gc4, .slice tf4 tn4 tc4] 28)
          have hb78 := below_step hb7 hb8
          have HC2 := Lib.hid (HC1.out.mono hb78)
          have HB2 := Lib.hid (below_step HB1.out hb78)
          have HS5 := Lib.hid (hs4.mono hb8)
          have HX5 := Lib.hid ((hx4.mono hb8).off (p := bs) (by omega))
          have HLZ : Hid (bs + 1 < w7.heap.size) := Lib.hid (by
            obtain ⟨a6, c6, gf6, gn6, gc6, tf6, tn6, tc6, -, qX, -⟩ := HC1.out
            exact Nat.lt_of_lt_of_le (lt_heap qX) hb7.size)
          have HN5 := Lib.hid hn4
          have HC5 := Lib.hid hc4
          clear hs4 hx4 hn4 hc4 hb7 hb8 hb78 HC1 HB1 HDO cS cX0 cX1 cX2 d0 d1 d2 d3 d4 d5 d6 lS lX lA
          go_upto_region 13 with fail
          generalize (w7.alloc (Obj.cells #[Value.slice a4 n4 c4] 24)).alloc (Obj.cells #[Value.string D.2.1.nm, Value.slice gf4 gn4 gc4, Value.slice tf4 tn4 tc4] 28) = W7 at *
          obtain ⟨t5, y5, e5'⟩ := D
          simp only at *
          by_cases he : e5' = 0
          · subst he
            rw [if_pos rfl] at HRS
            have hn5 : n = n4 := by
              have h1 := (HRH.out (k + 1) (by have := HQM.out; omega) (by omega)).hold.len
              rw [HRS.out] at h1
              have h2 := HN5.out
              have h3 := HN.out
              simp only at h1
              omega
            subst hn5
            obtain ⟨a6, c6, gf6, gn6, gc6, tf6, tn6, tc6, qS, qX, -, -, -, -⟩ := HC2.out
            obtain ⟨z3, z4, hbz, -⟩ := put_set qS qX (by omega) (.slice a4 n c4) (.string y5.nm) (.slice gf4 gn4 gc4) (.slice tf4 tn4 tc4)
            have hsz := put_sto qS qX (by omega) (.slice a4 n c4) (.string y5.nm) (.slice gf4 gn4 gc4) (.slice tf4 tn4 tc4) HS5.out
            have hxz := HX5.out.go (w' := putW W7 bs (bs + 1) (.slice a4 n c4) (.string y5.nm) (.slice gf4 gn4 gc4) (.slice tf4 tn4 tc4)) (by rw [put_size]; exact Nat.le_refl _) (fun b hb hb' _ => put_other b (by omega) (by omega))
            have hbz := hbz _ _ HB2.out HBE.out (by have := HBE.out; omega)
            have hca : CloneAt (putW W7 bs (bs + 1) (.slice a4 n c4) (.string y5.nm) (.slice gf4 gn4 gc4) (.slice tf4 tn4 tc4)) bs n (runTo key (M0, Y0) asks (k + 1)) := by
              rw [HRS.out]
              exact ⟨a4, c4, gf4, gn4, gc4, tf4, tn4, tc4, z3, z4, HN5.out, hsz, HC5.out, hxz⟩
            unfold putW at hbz hca
            have HCZ := Lib.hid hca
            have HBZ := Lib.hid hbz
            have f0 := cell_of_one rS
            have f1 := cell_of_block rX 0
            have f2 := cell_of_block rX 1
            have f3 := cell_of_block rX 2
            have g0 := cell_of_one qS
            have g1 := cell_of_block qX 0
            have g2 := cell_of_block qX 1
            have g3 := cell_of_block qX 2
            simp only [List.getElem?_toArray, List.getElem?_cons_succ, List.getElem?_cons_zero] at f1 f2 f3 g1 g2 g3
            have lS := lt_heap rS
            have lX := lt_heap rX
            have mS := lt_heap qS
            have mX := lt_heap qX
            have yS := free_of_one qS
            have yX := fun j => free_of_block qX j
            have n1 : w7.heap.size ≠ bs := by have := HLZ.out; omega
            have n2 : w7.heap.size ≠ bs + 1 := by have := HLZ.out; omega
            have n3 : w7.heap.size + 1 ≠ bs := by have := HLZ.out; omega
            have n4' : w7.heap.size + 1 ≠ bs + 1 := by have := HLZ.out; omega
            have n5 : bs ≠ w7.heap.size := by have := HLZ.out; omega
            have n6 : bs ≠ w7.heap.size + 1 := by have := HLZ.out; omega
            have n7 : bs + 1 ≠ w7.heap.size := by have := HLZ.out; omega
            have n8 : bs + 1 ≠ w7.heap.size + 1 := by have := HLZ.out; omega
            clear z3 z4 hbz hsz hxz hca HC2 HB2 HS5 HX5 rS rX qS qX
            go_wp2_with fail
            go_region
            all_goals
              go_wp2_with fail
              go_roundw
              case rel => exact ⟨k + 1, by omega, by go_num, Lib.hid (HCZ.out.mono (Below.refl _ _).drew), Lib.hid (HBZ.out.drew)⟩
              case measure => simp [intOf]; have := HQM.out; omega
          · as_aux_lemma =>
            have he1 : (e5' == 0) = false := by rw [beq_eq_false_iff_ne]; exact he
            rw [if_neg he] at HRS
            clear he
            go_wp2_with fail
            go_roundw
            case rel => exact ⟨k + 1, by omega, by go_num, Lib.hid (by rw [HRS.out]; exact HC2.out), HB2⟩
            case measure => simp [intOf]; have := HQM.out; omega
        · obtain rfl : k = qm := by omega
          have hlt' : ¬ (k : Int) < ((min qn 12 : Nat) : Int) := by have := HQM.out; omega
          have HRK := Lib.hid (HRH.out k (by have := HQM.out; omega) (by have := HQM.out; have := HQ.out; omega))
          generalize runTo key (M0, Y0) asks k = P at *
          obtain ⟨t, y⟩ := P
          simp only at HRK
          have qX := (HB0.out.block _ (lt_heap HPX.out)).trans HPX.out
          have cX1 := cell_of_block qX 1
          simp only [List.getElem?_toArray, List.getElem?_cons_succ, List.getElem?_cons_zero] at cX1
          have lX := lt_heap qX
          clear HRH qX
          go_wp2_with fail
          clear cX1 lX hlt'
          go_loopw [95] (fun i wr => ∃ j : Nat, j ≤ fn ∧ i = .int .i64 j ∧ Hid (CloneAt wr bs n (t, y)) ∧ Hid (Below w1.heap.size w1 wr)) (fun i _ => fn - (intOf i).toNat)
          case atStart => exact ⟨0, Nat.zero_le _, rfl, HC0, HB0⟩
          case round => as_aux_lemma =>
            clear HC0 HB0
            obtain ⟨j, hjn, rfl, HC0, HB0⟩ := hrel
            by_cases hlt : j < fn
            · have hlt' : (j : Int) < fn := by omega
              have hf6 : fn ≤ 6 := by have := HRX.out.files.len; have := HX1.out.flen; omega
              have hjl : j < x.files.length := by have := HX1.out.flen; omega
              obtain ⟨b, o, rfl, hq⟩ := HX1.out.frow.at j hjl
              have hE := (hq j hjl).mono HB0.out
              generalize x.files[j] = E at *
              have e0 := hE.nm
              have e1 := hE.root
              have e2 := hE.size
              have lb := hE.lt
              have hb1 : Below _ wr (wr.alloc (.cells #[.string E.nm, .int .i64 E.root, .int .i64 E.size] 47)) := (Below.refl _ _).alloc (Nat.le_refl _) _
              have rE := heap_alloc_new wr (.cells #[.string E.nm, .int .i64 E.root, .int .i64 E.size] 47)
              have HC1 := Lib.hid (HC0.out.mono hb1)
              have HB1 := Lib.hid (below_step HB0.out hb1)
              have HRE := Lib.hid rE
              clear hq rE hE HC0 HB0 hb1
              go_upto_region 19 with fail
              generalize wr.alloc (.cells #[.string E.nm, .int .i64 E.root, .int .i64 E.size] 47) = W6 at *
              have qS := (HB1.out.block _ (lt_heap HPS.out)).trans HPS.out
              have qX := (HB1.out.block _ (lt_heap HPX.out)).trans HPX.out
              have cS := cell_of_one qS
              have cX0 := cell_of_block qX 0
              have cX1 := cell_of_block qX 1
              have cX2 := cell_of_block qX 2
              have d0 := cell_of_block HRE.out 0
              simp only [List.getElem?_toArray, List.getElem?_cons_succ, List.getElem?_cons_zero] at cX0 cX1 cX2 d0
              have lS := lt_heap qS
              have lX := lt_heap qX
              have lE := lt_heap HRE.out
              have HLK := Lib.hid (look_any W6 ao (some ⟨b, o, none⟩) so none n cap fn fc sn sc 0 0 s key x (readA E.nm) HN.out (by omega) (HS1.out.mono HB1.out) hwf HC.out (HX1.out.mono HB1.out) HWX.out)
              clear e0 e1 e2 lb
              clear qS qX
              obtain ⟨R, hR⟩ : ∃ R, lookR s key x (readA E.nm) = R := ⟨_, rfl⟩
              have HR := Lib.hid hR
              have HR0 : Hid (R.2 = 0) := Lib.hid (by rw [← hR]; exact look_ok HRX.out rfl)
              have HRB : Hid (Byt R.1.bytes ∧ R.1.names.length ≤ 6) := Lib.hid (by rw [← hR]; exact ⟨(lookR_fit s key x _).1, Nat.le_trans (lookR_fit s key x _).2 HRX.out.files.len⟩)
              rw [hR] at HLK
              clear hR
              go_wp2_with fail
              refine HLK.out.mono ?_
              rintro e w7 ⟨na, nn, nc, ra, rn, rc, rfl, hb2, hnn, hrn, hnr, hrr, hnc, hrc⟩
              have hb3 : Below w7.heap.size w7 (w7.alloc (.cells #[.int .i64 R.1.e, .int .i64 R.1.n, .slice na nn nc, .slice ra rn rc] 57)) := (Below.refl _ _).alloc (Nat.le_refl _) _
              have rA := heap_alloc_new w7 (.cells #[.int .i64 R.1.e, .int .i64 R.1.n, .slice na nn nc, .slice ra rn rc] 57)
              have hb23 := below_step hb2 hb3
              have HRA := Lib.hid rA
              have HC2 := Lib.hid (HC1.out.mono hb23)
              have HB2 := Lib.hid (below_step HB1.out hb23)
              have HAN := Lib.hid ((AnsIn.mk hnn hrn hnr hrr HRB.out.1 (by have := HRB.out.2; omega) : AnsIn w7 na nn nc ra rn rc R.1).mono hb3)
              have HRE2 := Lib.hid ((hb23.block _ lE).trans HRE.out)
              clear rA hb2 hb3 hb23 hnn hrn hnr hrr hnc hrc HC1 HB1 HLK cS cX0 cX1 cX2 d0 lS lX lE HRE
              go_upto_region 20 with fail
              generalize w7.alloc (.cells #[.int .i64 R.1.e, .int .i64 R.1.n, .slice na nn nc, .slice ra rn rc] 57) = W7 at *
              have hca := HC2.out
              obtain ⟨a2, c2, gf, gn, gc, tf, tn, tc, qS, -, hl2, hs2, hc2, -⟩ := hca
              have qX := (HB2.out.block _ (lt_heap HPX.out)).trans HPX.out
              have cS := cell_of_one qS
              have cX0 := cell_of_block qX 0
              have cX1 := cell_of_block qX 1
              have cX2 := cell_of_block qX 2
              have d0 := cell_of_block HRE2.out 0
              simp only [List.getElem?_toArray, List.getElem?_cons_succ, List.getElem?_cons_zero] at cX0 cX1 cX2 d0
              have lS := lt_heap qS
              have lX := lt_heap qX
              have lE := lt_heap HRE2.out
              have HLK := Lib.hid (look_any W7 a2 (some ⟨b, o, none⟩) so none n c2 fn fc sn sc 0 0 t key x (readA E.nm) hl2 (by omega) hs2 HRK.out.wf hc2 (HX1.out.mono HB2.out) HWX.out)
              rw [look_same HBO.out HRK.out HRX.out, HR.out] at HLK
              clear qS qX hl2 hs2 hc2
              go_wp2_with fail
              refine HLK.out.mono ?_
              rintro e w8 ⟨na', nn', nc', ra', rn', rc', rfl, hb2, hnn, hrn, hnr, hrr, hnc, hrc⟩
              have hb3 : Below w8.heap.size w8 (w8.alloc (.cells #[.int .i64 R.1.e, .int .i64 R.1.n, .slice na' nn' nc', .slice ra' rn' rc'] 57)) := (Below.refl _ _).alloc (Nat.le_refl _) _
              have rA := heap_alloc_new w8 (.cells #[.int .i64 R.1.e, .int .i64 R.1.n, .slice na' nn' nc', .slice ra' rn' rc'] 57)
              have hb23 := below_step hb2 hb3
              have HRA2 := Lib.hid ((hb23.block _ (lt_heap HRA.out)).trans HRA.out)
              have HC3 := Lib.hid (HC2.out.mono hb23)
              have HB3 := Lib.hid (below_step HB2.out hb23)
              have HAN1 := Lib.hid (HAN.out.mono hb23)
              have HAN2 := Lib.hid ((AnsIn.mk hnn hrn hnr hrr HRB.out.1 (by have := HRB.out.2; omega) : AnsIn w8 na' nn' nc' ra' rn' rc' R.1).mono hb3)
              clear hb2 hb3 hb23 hnn hrn hnr hrr hnc hrc HC2 HB2 HLK cS cX0 cX1 cX2 d0 lS lX lE HRE2 HAN HRA
              go_upto_region 21 with fail
              generalize w8.alloc (.cells #[.int .i64 R.1.e, .int .i64 R.1.n, .slice na' nn' nc', .slice ra' rn' rc'] 57) = W8 at *
              rw [HR0.out]
              have f0 := cell_of_block HRA2.out 0
              have f1 := cell_of_block HRA2.out 1
              have f2 := cell_of_block HRA2.out 2
              have f3 := cell_of_block HRA2.out 3
              have g0 := cell_of_block rA 0
              have g1 := cell_of_block rA 1
              have g2 := cell_of_block rA 2
              have g3 := cell_of_block rA 3
              simp only [List.getElem?_toArray, List.getElem?_cons_succ, List.getElem?_cons_zero] at f0 f1 f2 f3 g0 g1 g2 g3
              have lF := lt_heap HRA2.out
              have lG := lt_heap rA
              go_wp2_with fail
              refine (sameAns_any _ _ _ _ _ _ _ _ _ _ _ _ _ R.1 R.1 HAN1.out HAN2.out).mono ?_
              rw [isB_self]
              rintro e w9 ⟨rfl, hb4⟩
              have HC4 := Lib.hid (HC3.out.mono hb4)
              have HB4 := Lib.hid (below_step HB3.out hb4)
              clear HC3 HB3 hb4 f0 f1 f2 f3 g0 g1 g2 g3 lF lG rA
              go_wp2_with fail
              go_roundw
              case rel => exact ⟨j + 1, by omega, by go_num, HC4, HB4⟩
              case measure => simp [intOf]; omega
            · obtain rfl : j = fn := by omega
              have hlt' : ¬ (j : Int) < j := by omega
              have HDR := SHold.destroy HBO.out HRK.out
              have hca := HC0.out
              obtain ⟨a2, c2, gf, gn, gc, tf, tn, tc, qS, qX, hl2, hs2, hc2, hx2⟩ := hca
              have HDS := Lib.hid (destroy_any wr a2 gf tf n c2 gn gc tn tc t key y hl2 h41 hs2 HRK.out.wf hc2 hx2.1 (right_wf HRK.out.right))
              rw [HDR] at HDS
              have cS := cell_of_one qS
              have cX0 := cell_of_block qX 0
              have cX1 := cell_of_block qX 1
              have cX2 := cell_of_block qX 2
              simp only [List.getElem?_toArray, List.getElem?_cons_succ, List.getElem?_cons_zero] at cX0 cX1 cX2
              have lS := lt_heap qS
              have lX := lt_heap qX
              have HQS := Lib.hid qS
              clear qS qX hl2 hs2 hc2 hx2 HDR HC0
              go_wp2_with fail
              refine HDS.out.mono ?_
              rintro e w6 ⟨a5, n5, c5, rfl, hb4, hn5, hs5, -⟩
              have qS := (hb4.block _ lS).trans HQS.out
              have g0 := cell_of_one qS
              have fS := free_of_one qS
              have mS := lt_heap qS
              have z3 := one_setCell (u := .slice a5 n5 c5) qS
              have hbz := (below_step HB0.out hb4).setCell (p := ⟨bs, 0, none⟩) HBE.out (.slice a5 n5 c5)
              have HS5 := Lib.hid (sto_off (p := bs) (w' := w6.setCell ⟨bs, 0, none⟩ (.slice a5 n5 c5)) hs5 (fun o k x hx => by
                rw [cell_of_block qS] at hx
                rcases (show o = 0 ∨ 1 ≤ o from by omega) with rfl | e
                · simp at hx
                · rw [Array.getElem?_eq_none (by simp; omega)] at hx; cases hx) (fun b hb => Below.heap_setCell _ _ _ _ hb))
              have HN5 := Lib.hid hn5
              have HZ3 := Lib.hid z3
              have HBZ := Lib.hid hbz
              clear z3 hbz hs5 hn5 qS HQS HDS cS cX0 cX1 cX2 lS lX hb4
              go_upto_region 25 with fail
              generalize w6.setCell ⟨bs, 0, none⟩ (.slice a5 n5 c5) = W6 at *
              have pS := (HBZ.out.block _ (lt_heap HPS.out)).trans HPS.out
              have c0 := cell_of_one HZ3.out
              have d0 := cell_of_one pS
              have l0 := lt_heap HZ3.out
              have l1 := lt_heap pS
              clear pS g0 fS mS
              go_wp2_with fail
              refine (same_any _ _ _ _ _ _ _ s s HN5.out HN.out (by have := HN5.out; have := HN.out; omega) (by omega) HS5.out (HS1.out.mono HBZ.out) hwf hwf).mono ?_
              rw [show sameS s s = true from by unfold sameS; simp]
              rintro e w7 ⟨rfl, hb6⟩
              have hbF := below_step HBW1.out (below_step HBZ.out hb6)
              clear c0 d0 l0 l1
              go_wp2_with fail
              go_ret
              exact ⟨rfl, hbF⟩
end Go.Proofs.Ytgeacpfenhaioaa

namespace Go.Proofs.Ytgeacpfenhaioaa
open Go.RowKit Go.ChangeShapes Go.WideShapes Go.Deep Go.Joins
set_option linter.unusedVariables false
section
variable {H : Type} {enc : TypeId × Value → H} {w : World} {base : Nat} {spare : Nat → Bool} {held : Bool}

theorem trod_struct7 {P : Program} {t : TypeId} {f0 f1 f2 f3 f4 f5 f6 : Field} {fuel : Nat} {cs : List Value} {x : DataW H × List MemPlace} (ht : P.underlying t = some (.struct #[f0, f1, f2, f3, f4, f5, f6])) (h : DataW.trod enc P w base spare held fuel t cs = some x) :
    ∃ y0 y1 y2 y3 y4 y5 y6 n, x.1 = .agg [y0.1, y1.1, y2.1, y3.1, y4.1, y5.1, y6.1] ∧ DataW.trod enc P w base spare held n f0.type ((cs.drop f0.offset).take (P.cellsOf f0.type)) = some y0 ∧
      DataW.trod enc P w base spare held n f1.type ((cs.drop f1.offset).take (P.cellsOf f1.type)) = some y1 ∧ DataW.trod enc P w base spare held n f2.type ((cs.drop f2.offset).take (P.cellsOf f2.type)) = some y2 ∧
      DataW.trod enc P w base spare held n f3.type ((cs.drop f3.offset).take (P.cellsOf f3.type)) = some y3 ∧ DataW.trod enc P w base spare held n f4.type ((cs.drop f4.offset).take (P.cellsOf f4.type)) = some y4 ∧
      DataW.trod enc P w base spare held n f5.type ((cs.drop f5.offset).take (P.cellsOf f5.type)) = some y5 ∧ DataW.trod enc P w base spare held n f6.type ((cs.drop f6.offset).take (P.cellsOf f6.type)) = some y6 := by
  obtain ⟨xs, n, _, rfl, hl, hlen, hf⟩ := DataW.trod_struct ht h
  match xs, hlen with
  | [y0, y1, y2, y3, y4, y5, y6], _ => exact ⟨y0, y1, y2, y3, y4, y5, y6, n, by simp, by simpa using hf 0 f0 rfl, by simpa using hf 1 f1 rfl, by simpa using hf 2 f2 rfl, by simpa using hf 3 f3 rfl, by simpa using hf 4 f4 rfl, by simpa using hf 5 f5 rfl, by simpa using hf 6 f6 rfl⟩

set_option maxRecDepth 100000 in
/-- an ask that lies in cells -/
theorem open_ask {n b o : Nat} {cs : List Value} {y : DataW H × List MemPlace} (h : DataW.trod enc Try.prog w base spare held n 35 cs = some y) (hcl : cs.length = 7) (hc : ∀ j, j < 7 → w.cell? ⟨b, o + j, none⟩ = cs[j]?) (hw : ∀ n ∈ y.1.weights Try.prog 35, n ≤ reachBytes) :
    ∃ (a : AskV) (ba : Option Addr) (bc : Nat), AskAt w b o a ba bc ∧ Byt a.bytes ∧ a.bytes.length ≤ 140737488351232 := by
  obtain ⟨y0, y1, y2, y3, y4, y5, y6, m, hx, h0, h1, h2, h3, h4, h5, h6⟩ := trod_struct7 Try.underlying35 h
  match cs, hcl with
  | [v0, v1, v2, v3, v4, v5, v6], _ =>
    have c0 := hc 0 (by omega)
    have c1 := hc 1 (by omega)
    have c2 := hc 2 (by omega)
    have c3 := hc 3 (by omega)
    have c4 := hc 4 (by omega)
    have c5 := hc 5 (by omega)
    have c6 := hc 6 (by omega)
    replace h0 : DataW.trod enc Try.prog w base spare held m 3 [v0] = some y0 := h0
    replace h1 : DataW.trod enc Try.prog w base spare held m 9 [v1] = some y1 := h1
    replace h2 : DataW.trod enc Try.prog w base spare held m 9 [v2] = some y2 := h2
    replace h3 : DataW.trod enc Try.prog w base spare held m 9 [v3] = some y3 := h3
    replace h4 : DataW.trod enc Try.prog w base spare held m 3 [v4] = some y4 := h4
    replace h5 : DataW.trod enc Try.prog w base spare held m 3 [v5] = some y5 := h5
    replace h6 : DataW.trod enc Try.prog w base spare held m 33 [v6] = some y6 := h6
    obtain ⟨x0, e0, _, _⟩ := DataW.trod_int Try.underlying3 h0
    obtain ⟨x1, e1, _, _⟩ := DataW.trod_string Try.underlying9 h1
    obtain ⟨x2, e2, _, _⟩ := DataW.trod_string Try.underlying9 h2
    obtain ⟨x3, e3, _, _⟩ := DataW.trod_string Try.underlying9 h3
    obtain ⟨x4, e4, _, _⟩ := DataW.trod_int Try.underlying3 h4
    obtain ⟨x5, e5, _, _⟩ := DataW.trod_int Try.underlying3 h5
    obtain ⟨bs, s6, w6, b6⟩ := open_sl Try.underlying33 Try.underlying5 (by kernel_rfl) h6
    simp at e0 e1 e2 e3 e4 e5
    subst e0 e1 e2 e3 e4 e5
    rw [hx] at hw
    have hbs := b6 (fun n hn => hw n (by simp [DataW.weights, DataW.weightsEach, Try.underlying35, hn]))
    have e1' : Try.prog.bytesOf 5 = 1 := by kernel_rfl
    rw [e1'] at hbs
    have hR : reachBytes = 140737488351232 := rfl
    obtain ⟨ba, bc, rfl, hr, hcp⟩ := s6
    exact ⟨⟨x0, x1, x2, x3, x4, x5, bs⟩, ba, bc, ⟨c0, c1, c2, c3, c4, c5, c6, hr, hcp⟩, byt_of w6, by simp only; omega⟩

set_option maxRecDepth 100000 in
/-- asks -/
theorem open_asks {m : Nat} {c0 : Value} {y0 : DataW H × List MemPlace} (h0 : DataW.trod enc Try.prog w base spare held m 40 [c0] = some y0) (hb0 : ∀ n ∈ y0.1.weights Try.prog 40, n ≤ reachBytes) :
    ∃ ao n cap l, c0 = .slice ao n cap ∧ l.length = n ∧ AskRow w ao l ∧ WfA l ∧ Capd ao n cap ∧ n ≤ 4398046511104 := by
  rcases open_slice Try.underlying40 h0 with ⟨hcs, _⟩ | ⟨a, len, cap, mm, q, D, Pl, hcs, _, hl, hm, hmm, hx0, hi⟩
  · simp at hcs
    subst hcs
    exact ⟨none, 0, 0, [], rfl, rfl, .inl rfl, (by intro x hx; cases hx), ⟨Nat.le_refl _, fun _ => rfl⟩, by omega⟩
  · simp at hcs
    subst hcs
    have hlm : len ≤ mm := by rw [hmm]; split <;> omega
    have hcell : Try.prog.cellsOf 35 = 7 := by kernel_rfl
    rw [hcell] at hi
    rw [hx0] at hb0
    have hbd : ∀ i, i < len → ∀ n ∈ (D i).weights Try.prog 35, n ≤ reachBytes := fun i hi n hn => hb0 n (by
      simp only [DataW.weights, Try.underlying40, List.mem_cons, List.mem_append]
      exact .inr (.inl (weights_all (List.mem_map.2 ⟨i, List.mem_range.2 hi, rfl⟩) hn)))
    have hlen : len ≤ 4398046511104 := by
      have h1 := hb0 ((((List.range len).map D).length + ((List.range (mm - len)).map fun j => D (len + j)).length) * Try.prog.bytesOf 35) (by simp [DataW.weights, Try.underlying40])
      have e96 : Try.prog.bytesOf 35 = 96 := by kernel_rfl
      rw [e96] at h1
      simp at h1
      have hR : reachBytes = 140737488351232 := rfl
      omega
    rcases Nat.eq_zero_or_pos len with hz | hz
    · subst hz
      exact ⟨some a, 0, cap, [], rfl, rfl, .inl rfl, (by intro x hx; cases hx), ⟨Nat.zero_le _, fun h => by cases h⟩, by omega⟩
    have hpl : ∃ b o, a = ⟨b, o, none⟩ := by
      obtain ⟨cs', hc, _⟩ := hi 0 (by omega)
      obtain ⟨_, hcl, hat⟩ := World.cells?_some hc
      have h00 := hat 0 (by omega)
      rw [List.getElem?_eq_getElem (by omega), Nat.zero_mul] at h00
      have e : (a.add 0).add 0 = a.add 0 := by unfold Addr.add; simp
      rw [e] at h00
      exact addr_plain h00
    obtain ⟨b, o, rfl⟩ := hpl
    have hex : ∀ i, ∃ z : AskV × Option Addr × Nat, i < len → (AskAt w b (o + i * 7) z.1 z.2.1 z.2.2 ∧ Byt z.1.bytes ∧ z.1.bytes.length ≤ 140737488351232) := by
      intro i
      by_cases hlt : i < len
      · obtain ⟨cs', hc, ht⟩ := hi i (by omega)
        obtain ⟨_, hcl, hat⟩ := World.cells?_some hc
        obtain ⟨v, x1, x2, hxx⟩ := open_ask (b := b) (o := o + i * 7) ht hcl (fun j hj => by
          have := hat j hj
          rw [add_plain, add_plain] at this
          exact this) (hbd i hlt)
        exact ⟨(v, x1, x2), fun _ => hxx⟩
      · exact ⟨(⟨0, ⟨#[]⟩, ⟨#[]⟩, ⟨#[]⟩, 0, 0, []⟩, none, 0), fun h => absurd h hlt⟩
    have hf : ∀ i, i < len → _ := fun i => Classical.choose_spec (hex i)
    refine ⟨some ⟨b, o, none⟩, len, cap, (List.range len).map fun i => (Classical.choose (hex i)).1, rfl, by simp, .inr ⟨b, o, rfl, fun i hi => ?_⟩, ?_, ⟨hl, fun h => by cases h⟩, by omega⟩
    · have hi' : i < len := by simpa using hi
      refine ⟨(Classical.choose (hex i)).2.1, (Classical.choose (hex i)).2.2, ?_⟩
      have := (hf i hi').1
      simpa using this
    · intro x hx
      obtain ⟨i, hi, rfl⟩ := List.mem_map.1 hx
      exact (hf i (List.mem_range.1 hi)).2
end
end Go.Proofs.Ytgeacpfenhaioaa
