/- set.at's write: bytes are written to a file, or it is cut. -/
import Derived.Test.YtfmgdjgedhnmeaaMove
import Derived.Test.YtfmgdjgedhnmeaaAtDo
namespace Go.Proofs.Ytfmgdjgedhnmeaa
open Go.RowKit
set_option linter.unusedVariables false

/-- the file of a name; none: noughts -/
def oldF (l : List Ent) (nm : ByteArray) : Int × Int := if placeB (l.map Ent.nm) nm = true then ((entAt l (placeN (l.map Ent.nm) nm)).root, (entAt l (placeN (l.map Ent.nm) nm)).size) else (0, 0)
def turnW (s : List Blk) (key : Int) (l : List Ent) (nm : ByteArray) (root z : Int) (b : List Int) : List Blk × List Ent × Int :=
  if (turnR s key root z b).2.2 ≠ 0 then (s, l, (turnR s key root z b).2.2) else layR (turnR s key root z b).1 l nm (turnR s key root z b).2.1 b.length
def writeW (s : List Blk) (key : Int) (l : List Ent) (a : AskV) : List Blk × List Ent × Int :=
  if nameB a.file = false then (s, l, 1)
  else if a.kind = 4 then
    (if placeB (l.map Ent.nm) a.file = false then (s, l, 5) else if a.n < 0 ∨ 256 < a.n then (s, l, 3)
     else turnW s key l a.file (oldF l a.file).1 (oldF l a.file).2 (cutL (fileB s key (oldF l a.file).1 (oldF l a.file).2) a.n.toNat))
  else if (overR (fileB s key (oldF l a.file).1 (oldF l a.file).2) a.at_ a.bytes).2 ≠ 0 then (s, l, (overR (fileB s key (oldF l a.file).1 (oldF l a.file).2) a.at_ a.bytes).2)
  else turnW s key l a.file (oldF l a.file).1 (oldF l a.file).2 (overR (fileB s key (oldF l a.file).1 (oldF l a.file).2) a.at_ a.bytes).1

/-- a box of two integers -/
theorem two_ints {w : World} {p t : Nat} {a b : Int} (h : w.heap[p]? = some (.cells #[.int .i64 a, .int .i64 b] t (0, 0))) : NoKid w p ∧ NoEnt w p := by
  have key0 : ∀ o v, w.cell? ⟨p, o, none⟩ = some v → (o = 0 ∨ o = 1) ∧ ∃ y, v = .int .i64 y := by
    intro o v hv
    rw [cell_of_block h] at hv
    rcases (show o = 0 ∨ o = 1 ∨ 2 ≤ o from by omega) with rfl | rfl | e
    · simp at hv; exact ⟨.inl rfl, a, hv.symm⟩
    · simp at hv; exact ⟨.inr rfl, b, hv.symm⟩
    · rw [Array.getElem?_eq_none (by simp; omega)] at hv; cases hv
  refine ⟨⟨fun o x y z hx _ hz => ?_, fun o x hx => ?_⟩, fun j q x y hq _ _ => ?_⟩
  · have h1 := (key0 _ _ hx).1; have h2 := (key0 _ _ hz).1; omega
  · obtain ⟨_, y, hy⟩ := key0 _ _ hx; cases hy
  · obtain ⟨_, y, hy⟩ := key0 _ _ hq; cases hy
/-- such a box is written -/
theorem AtIn.box {w w' : World} {B P base bx : Nat} {key : Int} {ao : Option Addr} {n cap : Nat} {s : List Blk} {fo : Option Addr} {fn fc : Nat} {so : Option Addr} {sn sc : Nat} {x : SetV} {vs : List Snv} {p m : Nat} (h : AtIn w B P base bx key ao n cap s fo fn fc so sn sc x vs) (hk : NoKid w p) (he : NoEnt w p)
    (hm : m ≤ p) (hbm : bx ≤ m) (hBm : B < m) (hf : ∀ g, fo = some ⟨g, 0, none⟩ → g < m) (hso : ∀ g, so = some ⟨g, 0, none⟩ → g < m) (hkeep : ∀ b, b ≠ p → w'.heap[b]? = w.heap[b]?) (hs : w'.heap.size = w.heap.size) : AtIn w' B P base bx key ao n cap s fo fn fc so sn sc x vs := by
  have hPx := h.hPx
  refine ⟨(hkeep B (by omega)).trans h.abox, (hkeep P (by omega)).trans h.sbox, ownSto_off h.own h.kid4 hk (fun g h1 h2 => by have := (h.row g h1 h2).1; omega) (fun b hb _ => hkeep b hb), ?_, h.slen, h.n4, h.kid4, h.hP, h.hPx, h.hB, by rw [hs]; exact h.hbx, h.row, h.fB, h.sB⟩
  exact OwnXb.off h.ox (p := p) (.inl he) (fun e => by have := hf p e; omega) (fun e => by have := hso p e; omega) (by rw [hs]; exact Nat.le_refl _) (fun b hb _ => hkeep b hb)

theorem row_off {w w' : World} {p : Nat} {ao : Option Addr} {xs : List Int} (h : Row .u8 w ao xs) (hp : NoKid w p) (hk : ∀ b, b ≠ p → w'.heap[b]? = w.heap[b]?) : Row .u8 w' ao xs := by
  rcases Nat.eq_zero_or_pos xs.length with h0 | h0
  · exact .inl (List.eq_nil_of_length_eq_zero h0)
  · obtain ⟨b, o, rfl, hc⟩ := h.at 0 h0
    have hne : b ≠ p := by
      rintro rfl
      exact hp.2 _ _ (hc 0 h0)
    exact .inr ⟨b, o, rfl, fun i hi => (World.cell?_of_block (a := ⟨b, o + i, none⟩) (hk b hne)).trans (hc i hi)⟩

theorem turnR_len {s : List Blk} {key root z : Int} {b : List Int} (hok : fileE s key root z = 0) (hwf : WfS s) (hb : Byt b) (hb4 : b.length ≤ 256) (he : (turnR s key root z b).2.2 = 0) : (turnR s key root z b).1.length = s.length := by
  obtain ⟨-, -, -, hc, -⟩ := fileE_ok hok
  obtain ⟨hce, m, hm3, hm, hroot, -, -⟩ := checkT_ok hc
  obtain rfl : m = 3 := by omega
  have h64 : (64 : Nat) ≤ 64 := Nat.le_refl _
  unfold turnR at *
  generalize h64e : (64 : Nat) = k64 at he h64 ⊢
  exact (turned_all hce hwf hroot (M0 := 1000000) (fun x hx => ((checkE_zero s hce).2.2.2.1 x hx).2) (by omega) (by omega) (pad_len b hb4) (pad_byt hb) k64 (by omega) he).at_.len
theorem Good.low {s : List Blk} {M : Int} (h : Good s M) {n : Nat} (hn : s.length = n) {l : List Int} (hl : RootsIn n l) : RootsLow s l := fun a ha => by
  rcases hl a ha with h1 | ⟨h1, h2⟩
  · exact .inl h1
  · refine .inr ⟨h1, by rw [hn]; exact h2, ?_⟩
    have := h.lv.2 (blk s a) (by rw [blk_in h1 (by rw [hn]; exact h2)]; exact List.getElem_mem _)
    omega

theorem row_take {k : IntKind} {w : World} {ao : Option Addr} {xs : List Int} (h : Row k w ao xs) (m : Nat) : Row k w ao (xs.take m) := by
  rcases h with rfl | ⟨b, o, rfl, h⟩
  · exact .inl (by simp)
  · refine .inr ⟨b, o, rfl, fun i hi => ?_⟩
    rw [List.length_take] at hi
    rw [List.getElem_take]
    exact h i (by omega)

/-- ahead of the turn: the new bytes lie there -/
def WMid (w wx : World) (B P base bx fb : Nat) (key : Int) (ao : Option Addr) (n cap : Nat) (s : List Blk) (fo : Option Addr) (fn fc : Nat) (so : Option Addr) (sn sc : Nat) (x : SetV) (vs : List Snv) (root : Int) (z : Nat) (ask : Array Value) (u : Value) (b : List Int) : Prop :=
  ∃ ba bc, u = .slice ba b.length bc ∧ Row .u8 wx ba b ∧ Capd ba b.length bc ∧ Byt b ∧ b.length ≤ 256 ∧ AtIn wx B P base bx key ao n cap s fo fn fc so sn sc x vs ∧ wx.heap[fb]? = some (.cells #[.int .i64 root, .int .i64 z] 35 (0, 0)) ∧ wx.heap[w.heap.size]? = some (.cells ask 67 (0, 0)) ∧ Below base w wx

/-- the box holds the file that there was -/
def FileBox (w wx : World) (fb : Nat) (root z : Int) : Prop := wx.heap[fb]? = some (.cells #[.int .i64 root, .int .i64 z] 35 (0, 0)) ∧ (∀ b, b ≠ fb → wx.heap[b]? = w.heap[b]?) ∧ wx.heap.size = w.heap.size ∧ Below fb w wx

/-- behind the turn: the new file's box, the store and the set -/
def TAft (w W : World) (pb B P base bx : Nat) (key : Int) (ao : Option Addr) (n cap : Nat) (t1 : List Blk) (fo : Option Addr) (fn fc : Nat) (so : Option Addr) (sn sc : Nat) (x : SetV) (vs : List Snv) (r1 z1 te : Int) (ask : Array Value) : Prop :=
  W.heap[pb]? = some (.cells #[.int .i64 r1, .int .i64 z1] 35 (0, 0)) ∧ W.heap[w.heap.size]? = some (.cells ask 67 (0, 0)) ∧ Below base w W ∧ (te = 0 → AtIn W B P base bx key ao n cap t1 fo fn fc so sn sc x vs)
section
variable {w w7 : World} {B P base bx : Nat} {key : Int} {ao : Option Addr} {n cap : Nat} {t1 : List Blk} {fo : Option Addr} {fn fc : Nat} {so : Option Addr} {sn sc : Nat} {x : SetV} {vs : List Snv} {r1 z1 te : Int} {ask : Array Value}
theorem turnA (hm : te = 0 → AtIn w7 B P base bx key ao n cap t1 fo fn fc so sn sc x vs) (hw : Below base w w7) (hbs : base ≤ w.heap.size) (hq : w7.heap[w.heap.size]? = some (.cells ask 67 (0, 0))) :
    TAft w (w7.alloc (.cells #[.int .i64 r1, .int .i64 z1] 35)) w7.heap.size B P base bx key ao n cap t1 fo fn fc so sn sc x vs r1 z1 te ask := by
  have hb : Below w7.heap.size w7 (w7.alloc (.cells #[.int .i64 r1, .int .i64 z1] 35)) := (Below.refl _ _).alloc (Nat.le_refl _) _
  exact ⟨heap_alloc_new _ _, (hb.block _ (lt_heap hq)).trans hq, hw.trans (hb.mono (Nat.le_trans hbs hw.size)), fun h => (hm h).mono hb⟩
theorem turnB {p : Nat} (hm : te = 0 → AtIn w7 B P base bx key ao n cap t1 fo fn fc so sn sc x vs) (hw : Below base w w7) (hbs : base ≤ w.heap.size) (hq : w7.heap[w.heap.size]? = some (.cells ask 67 (0, 0)))
    (hx : w7.heap[p]? = some (.cells #[.int .i64 0, .int .i64 0] 35 (0, 0))) (hbp : bx ≤ p) (hwp : w.heap.size < p) (hBp : B < p) (hf : ∀ g, fo = some ⟨g, 0, none⟩ → g < p) (hso : ∀ g, so = some ⟨g, 0, none⟩ → g < p) :
    TAft w ((w7.setCell ⟨p, 0, none⟩ (.int .i64 r1)).setCell ⟨p, 1, none⟩ (.int .i64 z1)) p B P base bx key ao n cap t1 fo fn fc so sn sc x vs r1 z1 te ask := by
  have hk : ∀ b, b ≠ p → ((w7.setCell ⟨p, 0, none⟩ (.int .i64 r1)).setCell ⟨p, 1, none⟩ (.int .i64 z1)).heap[b]? = w7.heap[b]? := fun b hb => (Below.heap_setCell _ _ _ _ hb).trans (Below.heap_setCell _ _ _ _ hb)
  have ht := two_ints hx
  exact ⟨file_set hx r1 z1, (hk _ (by omega)).trans hq, (hw.setCell (p := ⟨p, 0, none⟩) (by show base ≤ p; omega) _).setCell (p := ⟨p, 1, none⟩) (by show base ≤ p; omega) _, fun h => (hm h).box ht.1 ht.2 (Nat.le_refl p) hbp hBp hf hso hk (by simp)⟩
end

set_option maxRecDepth 100000 in
set_option maxHeartbeats 16000000 in
theorem write_any2 (w : World) (B P base bx n cap fn fc sn sc bn bc : Nat) (key : Int) (ao fo so ba : Option Addr) (s : List Blk) (x : SetV) (vs : List Snv) (a : AskV) (hA : AtIn w B P base bx key ao n cap s fo fn fc so sn sc x vs) (hsm : x.files.length ≤ 6) (hrise : Rising (x.files.map Ent.nm))
    (hwf : WfS s) (hok : ∀ y ∈ x.files, fileE s key y.root y.size = 0) (hok0 : fileE s key 0 0 = 0) (hbl : a.bytes.length = bn) (hbr : Row .u8 w ba a.bytes) (hbc : Capd ba bn bc) (hby : Byt a.bytes) (hb47 : bn ≤ 140737488351232) :
    Calls Try.prog 69 #[.pointer (some ⟨B, 0, none⟩), .agg #[.int .i64 a.kind, .string a.sname, .string a.file, .string a.dest, .int .i64 a.at_, .int .i64 a.n, .slice ba bn bc]] w fun e w' => e = .returned (.int .i64 (writeW s key x.files a).2.2) ∧ AtEnd w w' B P base bx key ao n cap (writeW s key x.files a).1 x.nm (writeW s key x.files a).2.1 x.snaps (writeW s key x.files a).2.2 := by
  have hbase : base ≤ w.heap.size := by have := hA.hP; have := hA.hPx; have := hA.hbx; omega
  have hbxw := hA.hbx
  have hfgw := hA.fge
  have hsgw := hA.sge
  have hBw := lt_heap hA.abox
  have hfl := hA.ox.len.1
  have hf6 : fn ≤ 6 := by omega
  have hf6' : (fn : Int) ≤ 6 := by omega
  obtain ⟨kind, aset, afile, ato, aat, an, abytes⟩ := a
  simp only at hbl hbr hby
  have hb0 : Below w.heap.size w (w.alloc (.cells #[.int .i64 kind, .string aset, .string afile, .string ato, .int .i64 aat, .int .i64 an, .slice ba bn bc] 67)) := (Below.refl _ _).alloc (Nat.le_refl _) _
  have q0 : (w.alloc (.cells #[.int .i64 kind, .string aset, .string afile, .string ato, .int .i64 aat, .int .i64 an, .slice ba bn bc] 67)).heap[w.heap.size]? = some (.cells #[.int .i64 kind, .string aset, .string afile, .string ato, .int .i64 aat, .int .i64 an, .slice ba bn bc] 67 (0, 0)) := heap_alloc_new _ _
  have hA1 := hA.mono hb0
  obtain ⟨RD, hRD⟩ : ∃ RD, writeW s key x.files ⟨kind, aset, afile, ato, aat, an, abytes⟩ = RD := ⟨_, rfl⟩
  rw [hRD]
  unfold writeW at hRD
  simp only at hRD
  have HRD := Lib.hid hRD
  obtain ⟨PN, hPN⟩ : ∃ PN, placeN (x.files.map Ent.nm) afile = PN := ⟨_, rfl⟩
  obtain ⟨PB, hPB⟩ : ∃ PB, placeB (x.files.map Ent.nm) afile = PB := ⟨_, rfl⟩
  have HOLD : Hid (oldF x.files afile = if PB = true then ((entAt x.files PN).root, (entAt x.files PN).size) else (0, 0)) := Lib.hid (by unfold oldF; rw [hPN, hPB])
  have hplt : PB = true → PN < fn := fun h => by rw [← hPN, hfl]; have := (placeB_lt (hPB.trans h)).1; rwa [List.length_map] at this
  have HPLT := Lib.hid hplt
  have HFL := Lib.hid hfl
  have HP1 := Lib.hid (fun (u : World) (hr : entK.Row u fo x.files) => place_any u fo fn fc x.files afile hfl.symm (by omega) hr hrise)
  rw [hPN, hPB] at HP1
  rw [hPB] at HRD
  have HRISE := Lib.hid hrise
  have HOK := Lib.hid hok
  have HOK0 := Lib.hid hok0
  have HBL := Lib.hid hbl
  have HBC := Lib.hid hbc
  have HBY := Lib.hid hby
  have HRIN : Hid (RootsIn s.length (rootsF x.files)) := Lib.hid (by
    intro r hr
    obtain ⟨y, hy, rfl⟩ := List.mem_map.1 hr
    obtain ⟨-, -, -, hc, -⟩ := fileE_ok (hok y hy)
    obtain ⟨-, m, hm3, hm, hroot, -, -⟩ := checkT_ok hc
    rcases hroot with h | ⟨h, _⟩
    · exact .inl h
    · obtain ⟨k, hk, e, _⟩ := there_in h
      exact .inr (by omega))
  clear hRD hPN hPB hplt hfl hrise hok hok0 hbl hbc hby
  have hbr0 := hbr.mono hb0
  go_enter Try.func69, Try.ntmps69
  go_wp2_with fail
  generalize w.alloc (Obj.cells #[Value.int IntKind.i64 kind, Value.string aset, Value.string afile, Value.string ato, Value.int IntKind.i64 aat, Value.int IntKind.i64 an, Value.slice ba bn bc] 67) = W0 at *
  refine (name_any _ _).mono ?_
  rintro e w' ⟨rfl, rfl⟩
  have hbw0 : Below base w w' := hb0.mono hbase
  cases hnb : nameB afile with
  | false =>
    have HR : Hid (RD = (s, x.files, 1)) := Lib.hid (HRD.out.symm.trans (if_pos hnb))
    clear hA hA1 HRD HP1 hbr hbr0
    go_wp2
    go_ret
    rw [HR.out]
    exact ⟨rfl, hbw0, fun h => by simp at h⟩
  | true =>
    have hR := HRD.out.symm
    rw [if_neg (by rw [hnb]; simp)] at hR
    have HR0 := Lib.hid hR
    clear hR HRD hA hbr
    replace hnb := Lib.hid hnb
    -- the file's box
    have hb1 : Below w'.heap.size w' (w'.alloc (.cells #[.int .i64 0, .int .i64 0] 35)) := (Below.refl _ _).alloc (Nat.le_refl _) _
    have qf : (w'.alloc (.cells #[.int .i64 0, .int .i64 0] 35)).heap[w'.heap.size]? = some (.cells #[.int .i64 0, .int .i64 0] 35 (0, 0)) := heap_alloc_new _ _
    have hA2 := hA1.mono hb1
    have q2 := (hb1.block _ (lt_heap q0)).trans q0
    have hbr2 := hbr0.mono hb1
    have hbw2 := hbw0.trans (hb1.mono (by have := hbw0.size; omega))
    have a3 := cell_of_block hA1.abox 3
    have k2 := cell_of_block q0 2
    simp only [List.getElem?_toArray, List.getElem?_cons_succ, List.getElem?_cons_zero] at a3 k2
    have lA := lt_heap hA1.abox
    have lK := lt_heap q0
    have hwsz : w.heap.size < w'.heap.size := lK
    have hAsz := lt_heap hA2.abox
    have HPM := Lib.hid (fun v => HP1.out (mix (w'.alloc (.cells #[.int .i64 0, .int .i64 0] 35)) v) (hA2.ox.is.frow.mono (mix_below _ _)))
    clear HP1 hA1 q0 hbr0 hbw0
    go_wp2_with fail
    refine wp_region_mix (by kernel_rfl) (by kernel_rfl) ?_
    repeat (go_big_quiet_step (first
      | (go_at_call 111; refine calls_mix (v := .tuple #[.int .i64 PN, .bool PB]) ?_; with_reducible exact HPM.out _)))
    refine wpQuiet_nil ?_
    intro w3 hb3
    have hA3 := hA2.mono hb3
    have q3 := (hb3.block _ (lt_heap q2)).trans q2
    have qf3 := (hb3.block _ (lt_heap qf)).trans qf
    have hbr3 := hbr2.mono hb3
    have hbw3 := hbw2.trans (hb3.mono (by have := hA2.hP; have := hA2.hPx; have := hA2.hbx; omega))
    clear a3 k2 lA lK hAsz HPM hA2 q2 qf hbr2 hbw2 hb3 hb1
    have hfbl := lt_heap qf3
    generalize w'.heap.size = fb at *
    obtain ⟨root, hroot⟩ : ∃ root, (oldF x.files afile).1 = root := ⟨_, rfl⟩
    obtain ⟨z0, hz0⟩ : ∃ z0, (oldF x.files afile).2 = z0 := ⟨_, rfl⟩
    have HROOT := Lib.hid hroot
    have HZ0 := Lib.hid hz0
    rw [hroot, hz0] at HR0
    clear hroot hz0
    go_upto_if 28 with fail
    go_cut [28] (fun u wx => u = .bool PB ∧ Hid (FileBox w3 wx fb root z0))
    case first =>
      cases PB with
      | false =>
        have e1 : root = 0 ∧ z0 = 0 := by
          have := HOLD.out
          rw [if_neg (by simp)] at this
          exact ⟨by rw [← HROOT.out, this], by rw [← HZ0.out, this]⟩
        obtain ⟨rfl, rfl⟩ := e1
        go_wp2_with fail
        go_meet
        exact ⟨rfl, Lib.hid ⟨qf3, fun _ _ => rfl, rfl, Below.refl _ _⟩⟩
      | true =>
        have hlt := HPLT.out rfl
        have hkl : PN < x.files.length := by have := HFL.out; omega
        have hea : entAt x.files PN = x.files[PN] := by unfold entAt; rw [List.getElem?_eq_getElem hkl]; rfl
        have e1 : x.files[PN].root = root ∧ x.files[PN].size = z0 := by
          have := HOLD.out
          rw [if_pos rfl, hea] at this
          exact ⟨by rw [← HROOT.out, this], by rw [← HZ0.out, this]⟩
        obtain ⟨gf, hgf, hgb, hgl, hgfz, hgc⟩ := hA3.ox.files.blk (by omega)
        have hE := ent_cells (b := gf) (o := 0) (fun j v hj => by rw [Nat.zero_add]; exact hgc j v hj) PN hkl
        rw [Nat.zero_add] at hE
        have d0 := hE.nm
        have d1 := hE.root
        have d2 := hE.size
        rw [e1.1] at d1
        rw [e1.2] at d2
        have hPN' : (PN : Int) < fn := by omega
        have a3 := cell_of_block hA3.abox 3
        simp only [List.getElem?_toArray, List.getElem?_cons_succ, List.getElem?_cons_zero] at a3
        have lA := lt_heap hA3.abox
        have f0 := cell_of_block qf3 0
        have f1 := cell_of_block qf3 1
        simp only [List.getElem?_toArray, List.getElem?_cons_succ, List.getElem?_cons_zero] at f0 f1
        have ff := fun j => free_of_block qf3 j
        have hFB : Hid (FileBox w3 ((w3.setCell ⟨fb, 0, none⟩ (.int .i64 root)).setCell ⟨fb, 1, none⟩ (.int .i64 z0)) fb root z0) := Lib.hid (by
          refine ⟨file_set qf3 root z0, fun b hb => (Below.heap_setCell _ _ _ _ hb).trans (Below.heap_setCell _ _ _ _ hb), by simp, ((Below.refl fb w3).setCell (p := ⟨fb, 0, none⟩) (Nat.le_refl fb) _).setCell (p := ⟨fb, 1, none⟩) (Nat.le_refl fb) _⟩)
        subst hgf
        clear hea hgc hE hA3 q3 hbr3 e1
        go_wp2_with fail
        go_meet
        exact ⟨rfl, hFB⟩
    case rest =>
      obtain ⟨rfl, hfbx⟩ := hcut
      obtain ⟨g1, g2, g3, g4⟩ := hfbx.out
      have hbox := two_ints qf3
      have hA4 := hA3.box (w' := wc) (p := fb) (m := w.heap.size) hbox.1 hbox.2 (Nat.le_of_lt hwsz) hbxw hBw (fun g hg => (hfgw g hg).2) (fun g hg => (hsgw g hg).2) g2 g3
      have q4 := (g2 _ (by omega)).trans q3
      have hbr4 := row_off hbr3 hbox.1 g2
      have hbw4 : Below base w wc := hbw3.trans (g4.mono (by omega))
      have hfe : fileE s key root z0 = 0 := by
        have := HOLD.out
        cases PB with
        | false =>
          rw [if_neg (by simp)] at this
          rw [← HROOT.out, ← HZ0.out, this]
          exact HOK0.out
        | true =>
          have hkl : PN < x.files.length := by have := HFL.out; have := HPLT.out rfl; omega
          rw [if_pos rfl, show entAt x.files PN = x.files[PN] from by unfold entAt; rw [List.getElem?_eq_getElem hkl]; rfl] at this
          rw [← HROOT.out, ← HZ0.out, this]
          exact HOK.out _ (List.getElem_mem hkl)
      obtain ⟨z, rfl⟩ : ∃ z : Nat, z0 = z := ⟨z0.toNat, by have := (fileE_ok hfe).2.1; omega⟩
      have HFE := Lib.hid hfe
      clear hA3 q3 hbr3 hbw3 qf3 hfbx g2 g3 g4 hbox hfe HOLD HROOT HZ0 HOK HOK0
      have k0 := cell_of_block q4 0
      have k5 := cell_of_block q4 5
      simp only [List.getElem?_toArray, List.getElem?_cons_succ, List.getElem?_cons_zero] at k0 k5
      have lK := lt_heap q4
      have lF := lt_heap g1
      go_upto_if 40 with fail
      go_cut [8] (fun u wx => ∃ b, Hid (WMid w wx B P base bx fb key ao n cap s fo fn fc so sn sc x vs root z #[.int .i64 kind, .string aset, .string afile, .string ato, .int .i64 aat, .int .i64 an, .slice ba bn bc] u b) ∧ Hid (RD = turnW s key x.files afile root z b))
      case first =>
        by_cases h4 : kind = 4
        · have hR := HR0.out
          rw [if_pos h4] at hR
          have h4' : (kind == 4) = true := by rw [beq_iff_eq]; exact h4
          subst h4
          cases PB with
          | false =>
            have HR : Hid (RD = (s, x.files, 5)) := Lib.hid (hR.trans (if_pos rfl))
            clear hA4 HR0 hR
            go_wp2
            go_ret
            rw [HR.out]
            exact ⟨rfl, hbw4, fun h => by simp at h⟩
          | true =>
            rw [if_neg (by simp)] at hR
            by_cases hr : an < 0 ∨ 256 < an
            · have HR : Hid (RD = (s, x.files, 3)) := Lib.hid (hR.trans (if_pos hr))
              clear hA4 HR0 hR
              rcases hr with hr | hr
              · go_wp2
                go_ret
                rw [HR.out]
                exact ⟨rfl, hbw4, fun h => by simp at h⟩
              · have hr2 : ¬ an < 0 := by omega
                go_wp2
                go_ret
                rw [HR.out]
                exact ⟨rfl, hbw4, fun h => by simp at h⟩
            · rw [if_neg hr] at hR
              obtain ⟨k, rfl⟩ : ∃ k : Nat, an = k := ⟨an.toNat, by omega⟩
              rw [Int.toNat_natCast] at hR
              have HR := Lib.hid hR
              have hk256 : k ≤ 256 := by omega
              have hr1 : ¬ (k : Int) < 0 := by omega
              have hr2 : ¬ (256 : Int) < k := by omega
              have hmk := fun u => make_ints (P := Try.prog) .u8 38 5 1 Try.underlying38 info_u8 k (by omega) (by omega) u
              have hszI : (Try.prog.info? 5).map (·.size) = some 1 := by kernel_rfl
              have f0 := cell_of_block g1 0
              have f1 := cell_of_block g1 1
              simp only [List.getElem?_toArray, List.getElem?_cons_succ, List.getElem?_cons_zero] at f0 f1
              have hbm : Below wc.heap.size wc (wc.alloc (.cells (icells .u8 (zeros k)) 5)) := (Below.refl _ _).alloc (Nat.le_refl _) _
              have pn : (wc.alloc (.cells (icells .u8 (zeros k)) 5)).heap[wc.heap.size]? = some (.cells ((zeros k).map (Value.int .u8)).toArray 5 (0, 0)) := heap_alloc_new _ _
              have HBY5 := Lib.hid (bytes_any (wc.alloc (.cells (icells .u8 (zeros k)) 5)) B P base bx n cap z fn fc sn sc key root ao fo so s x vs (hA4.mono hbm) hwf HFE.out)
              have HFL2 := Lib.hid (fileB_len HFE.out)
              have HFB := Lib.hid (fileB_byt s key root z)
              obtain ⟨F, hF⟩ : ∃ F, fileB s key root z = F := ⟨_, rfl⟩
              rw [hF] at HBY5 HFL2 HFB HR
              have HPN := Lib.hid pn
              have lpn := lt_heap pn
              have HA4 := Lib.hid hA4
              have HQ4 := Lib.hid q4
              have HG1 := Lib.hid g1
              have HBM := Lib.hid hbm
              clear hF hR HR0 hA4 pn hbr4 q4 g1 hbm
              go_wp2_with fail
              generalize hkn : wc.heap.size = kn at *
              replace hkn := Lib.hid hkn
              generalize wc.alloc (.cells (icells .u8 (zeros k)) 5) = WA at *
              refine HBY5.out.mono ?_
              rintro e w5 ⟨ra, rc, rfl, hrr, hrc, hb5⟩
              have pn5 := Lib.hid ((hb5.block _ lpn).trans HPN.out)
              have hcn : (F.take k |>.map (Value.int .u8)).length = Nat.min z k := by
                rw [List.length_map, List.length_take, HFL2.out]
                exact Nat.min_comm _ _
              have hfit : 0 + (F.take k |>.map (Value.int .u8)).length ≤ ((zeros k).map (Value.int .u8)).length := by
                rw [List.length_map, List.length_map, List.length_take, HFL2.out]
                simp only [zeros, List.length_replicate]
                omega
              have HSP : splice ((zeros k).map (Value.int .u8)) 0 ((F.take k).map (Value.int .u8)) = (cutL F k).map (Value.int .u8) := by
                have hl := HFL2.out
                unfold splice cutL
                rw [List.take_zero, List.nil_append, List.length_map, Nat.zero_add, List.map_append, List.length_take, hl]
                congr 1
                unfold zeros
                rw [← List.map_drop, List.drop_replicate]
                congr 2
                omega
              have HCN := Lib.hid hcn
              have HFT := Lib.hid hfit
              have HSPH := Lib.hid HSP
              have HTK := Lib.hid (row_take hrr k)
              have HCB := Lib.hid (cutL_byt HFB.out k)
              have HCL := Lib.hid (cutL_len F k)
              clear hcn hfit HSP hrr HBY5 HPN k0 k5 f0 f1 lF lK
              generalize F.take k = FT at *
              go_wp2_with (with_reducible refine copy_grown rfl (.tmp 54) (.tmp 57) 38 38 rfl 5 Try.underlying38 hszI (some ⟨kn, 0, none⟩) ra k k z rc rfl rfl kn 0 ((zeros k).map (Value.int .u8)) 5 pn5.out (FT.map (Value.int .u8)) HCN.out (fun h => ⟨rfl, row_src HTK.out (by simpa using h)⟩) HFT.out (ints_one _ _) ?_)
              intro w6 HG6 hg6
              have hMID : Hid (WMid w w6 B P base bx fb key ao n cap s fo fn fc so sn sc x vs root z #[.int .i64 4, .string aset, .string afile, .string ato, .int .i64 aat, .int .i64 k, .slice ba bn bc] (.slice (some ⟨kn, 0, none⟩) k k) (cutL F k)) := Lib.hid (by
                have hG6 := HG6.out
                rw [HSPH.out] at hG6
                have hr6 : Row .u8 w6 (some ⟨kn, 0, none⟩) (cutL F k) := row_of_block (k := .u8) (t := 5) hG6
                have hbz := HBM.out
                rw [← hkn.out] at hg6
                have hb6 : Below wc.heap.size wc w6 := (by rw [hkn.out]; exact hbz : Below wc.heap.size wc WA).trans ((hb5.mono (by have := hbz.size; rw [hkn.out] at *; exact this)).trans (grown_below hg6 (Nat.le_refl _) (by have := hbz.size; have := hb5.size; rw [hkn.out] at *; omega)))
                refine ⟨some ⟨kn, 0, none⟩, k, by rw [HCL.out], hr6, ⟨by rw [HCL.out]; exact Nat.le_refl _, fun h => by cases h⟩, HCB.out, by rw [HCL.out]; exact hk256, HA4.out.mono hb6, (hb6.block _ (lt_heap HG1.out)).trans HG1.out, (hb6.block _ (lt_heap HQ4.out)).trans HQ4.out, hbw4.trans (hb6.mono (by have := HA4.out.hP; have := HA4.out.hPx; have := HA4.out.hbx; omega))⟩)
              clear HG6 hg6 hb5 HTK HSPH HCN HFT pn5 hmk
              go_wp2_with fail
              go_meet
              exact ⟨cutL F k, hMID, HR⟩
        · have hR := HR0.out
          rw [if_neg h4] at hR
          have h4' : (kind == 4) = false := by rw [beq_eq_false_iff_ne]; exact h4
          have k4 := cell_of_block q4 4
          have k6 := cell_of_block q4 6
          have f0 := cell_of_block g1 0
          have f1 := cell_of_block g1 1
          simp only [List.getElem?_toArray, List.getElem?_cons_succ, List.getElem?_cons_zero] at k4 k6 f0 f1
          have HBY5 := Lib.hid (bytes_any wc.drew B P base bx n cap z fn fc sn sc key root ao fo so s x vs (hA4.mono (Below.refl wc.heap.size wc).drew) hwf HFE.out)
          have HFL2 := Lib.hid (fileB_len HFE.out)
          have HFB := Lib.hid (fileB_byt s key root z)
          have hz256 : z ≤ 256 := by have := (fileE_ok HFE.out).2.2.1; omega
          obtain ⟨F, hF⟩ : ∃ F, fileB s key root z = F := ⟨_, rfl⟩
          rw [hF] at HBY5 HFL2 HFB hR
          have HBRD := Lib.hid (hbr4.mono (Below.refl wc.heap.size wc).drew)
          have HA4 := Lib.hid hA4
          have HQ4 := Lib.hid q4
          have HG1 := Lib.hid g1
          have HOVL := Lib.hid (fun h => overR_len (b := F) (more := abytes) (at_ := aat) h (by rw [HFL2.out]; exact hz256))
          have HOVB := Lib.hid (overR_byt (b := F) (more := abytes) (at_ := aat) HFB.out HBY.out)
          obtain ⟨OV, hOV⟩ : ∃ OV, overR F aat abytes = OV := ⟨_, rfl⟩
          rw [hOV] at hR HOVL HOVB
          have HOV := Lib.hid hOV
          have HR := Lib.hid hR
          clear hF hR HR0 hA4 hbr4 q4 g1 hOV k5
          go_wp2_with fail
          go_region_with (first
            | (go_at_call 112; refine HBY5.out.mono ?_; rintro e w5 ⟨ra, rc, rfl, hrr, hrc, hb5⟩; have u4 := ((bcell hb5).1 _ _ lK).trans k4; have u6 := ((bcell hb5).1 _ _ lK).trans k6; have zK := Nat.lt_of_lt_of_le lK hb5.size)
            | (go_at_call 113; refine (over_any _ _ _ _ _ _ _ F abytes aat HFL2.out HBL.out (by exact hrr) (HBRD.out.mono hb5) hrc HBC.out (by omega) hb47).mono ?_; rintro e w6 ⟨oa, on, oc, rfl, hol, hor, hoc, hb6⟩))
          all_goals
            rw [HOV.out] at hol hor
            have HOL := Lib.hid hol
            have hb56 := (undrew hb5).trans (hb6.mono (by have h9 : wc.heap.size ≤ w5.heap.size := hb5.size; exact h9))
            have HMID : Hid (OV.2 = 0 → WMid w w6 B P base bx fb key ao n cap s fo fn fc so sn sc x vs root z #[.int .i64 kind, .string aset, .string afile, .string ato, .int .i64 aat, .int .i64 an, .slice ba bn bc] (.slice oa on oc) OV.1) := Lib.hid fun h0 =>
              ⟨oa, oc, by rw [HOL.out], hor, by rw [HOL.out]; exact hoc, HOVB.out, HOVL.out h0, HA4.out.mono hb56, (hb56.block _ (lt_heap HG1.out)).trans HG1.out, (hb56.block _ (lt_heap HQ4.out)).trans HQ4.out, hbw4.trans (hb56.mono (by have := HA4.out.hP; have := HA4.out.hPx; have := HA4.out.hbx; omega))⟩
            have hbF : Below base w w6 := hbw4.trans (hb56.mono (by have := HA4.out.hP; have := HA4.out.hPx; have := HA4.out.hbx; omega))
            rw [HOV.out]
            obtain ⟨b1, e1⟩ := OV
            by_cases he : e1 = 0
            · have HR2 : Hid (RD = turnW s key x.files afile root z b1) := Lib.hid (HR.out.trans (if_neg (fun h => h he)))
              have HM2 := Lib.hid (HMID.out he)
              subst he
              clear hol hor hoc hb5 hb6 hrr hrc u4 u6 zK HBY5 HMID hb56 hbF
              go_wp2_with fail
              go_meet
              exact ⟨b1, HM2, HR2⟩
            · have HR2 : Hid (RD = (s, x.files, e1)) := Lib.hid (HR.out.trans (if_pos he))
              have he1 : (e1 != 0) = true := by rw [bne_iff_ne]; exact he
              clear hol hor hoc hb5 hb6 hrr hrc u4 u6 zK HBY5 HMID hb56
              go_wp2
              go_ret
              rw [HR2.out]
              exact ⟨rfl, hbF, fun h => absurd h he⟩
      case rest =>
        clear hA4 q4 hbr4 hbw4 g1 k0 k5 lK lF HR0 HBL HBC HBY
        obtain ⟨b, hW, HRT⟩ := hcut
        obtain ⟨bb, bc2, rfl, hbb, hbcc, hbyt, hb256, hA5, g5, q5, hbw5⟩ := hW.out
        have HTG := Lib.hid (fun h => turnR_good (b := b) HFE.out hwf hbyt hb256 h)
        have HTL := Lib.hid (fun h => turnR_len (b := b) HFE.out hwf hbyt hb256 h)
        obtain ⟨nb, hnb2⟩ : ∃ nb, b.length = nb := ⟨_, rfl⟩
        have HTURN : Hid (∀ u, AtIn u B P base bx key ao n cap s fo fn fc so sn sc x vs → Row .u8 u bb b → Calls Try.prog 114 #[.pointer (some ⟨P, 0, none⟩), .int .i64 key, .agg #[.int .i64 root, .int .i64 z], .slice bb nb bc2] u fun e w' => TurnEnd e u w' base ao n cap nb s (turnR s key root z b)) := Lib.hid fun u hu hr =>
          turn_any u P base ao bb n cap nb bc2 z s key root b hu.slen hu.sbox hu.own (fun g h1 h2 => Ne.symm (hu.row g h1 h2).2) (by have := hu.hP; have := hu.hPx; have := hu.hbx; omega) hwf HFE.out hbyt hnb2 (by rw [← hnb2]; exact hb256) hr (by rw [← hnb2]; exact hbcc)
        have hRT := HRT.out
        unfold turnW at hRT
        rw [hnb2] at hRT
        rw [hnb2]
        obtain ⟨T, hT⟩ : ∃ T, turnR s key root z b = T := ⟨_, rfl⟩
        rw [hT] at hRT HTG HTL HTURN
        have HRT2 := Lib.hid hRT
        have HBB := Lib.hid hbb
        have HA5 := Lib.hid hA5
        have HQ5 := Lib.hid q5
        have a0 := cell_of_block hA5.abox 0
        have a1 := cell_of_block hA5.abox 1
        have f0 := cell_of_block g5 0
        have f1 := cell_of_block g5 1
        simp only [List.getElem?_toArray, List.getElem?_cons_succ, List.getElem?_cons_zero] at a0 a1 f0 f1
        have lA := lt_heap hA5.abox
        have lF := lt_heap g5
        have hHFE := HFE
        clear hW HRT hRT hbb hbcc hbyt hb256 hT hnb2 hA5 q5 g5
        go_wp2_with fail
        obtain ⟨t1, tr, te⟩ := T
        simp only at HTG HTL HTURN HRT2
        obtain ⟨r1, hr1⟩ : ∃ r1, (if te = 0 then tr else 0) = r1 := ⟨_, rfl⟩
        obtain ⟨z1, hz1⟩ : ∃ z1, (if te = 0 then (nb : Int) else 0) = z1 := ⟨_, rfl⟩
        have HTU : Hid (∀ u, AtIn u B P base bx key ao n cap s fo fn fc so sn sc x vs → Row .u8 u bb b → Calls Try.prog 114 #[.pointer (some ⟨P, 0, none⟩), .int .i64 key, .agg #[.int .i64 root, .int .i64 z], .slice bb nb bc2] u fun e w' => e = .returned (.tuple #[.agg #[.int .i64 r1, .int .i64 z1], .int .i64 te]) ∧ Below base u w' ∧ (∀ c, c < u.heap.size → (∀ g, s ≠ [] → ao = some ⟨g, 0, none⟩ → c ≠ g) → w'.heap[c]? = u.heap[c]?) ∧ Hid (te = 0 → OwnSto w' base (.slice ao n cap) t1)) := Lib.hid fun u hu hr => (HTURN.out u hu hr).mono fun e w' h => by
          obtain ⟨h1, h2, h3, h4⟩ := h
          simp only at h1 h4
          rw [hr1, hz1] at h1
          exact ⟨h1, h2, h3, Lib.hid h4⟩
        have HRE : Hid (te ≠ 0 → RD = (s, x.files, te)) := Lib.hid fun h => HRT2.out.trans (if_pos h)
        have HRZ : Hid (te = 0 → RD = layR t1 x.files afile r1 z1) := Lib.hid fun h => by rw [← hr1, ← hz1, if_pos h, if_pos h]; exact HRT2.out.trans (if_neg (fun g => g h))
        have hslen := HA5.out.slen
        have HMD : Hid (∀ u w7, AtIn u B P base bx key ao n cap s fo fn fc so sn sc x vs → Below base u w7 → (∀ c, c < u.heap.size → (∀ g, s ≠ [] → ao = some ⟨g, 0, none⟩ → c ≠ g) → w7.heap[c]? = u.heap[c]?) → Hid (te = 0 → OwnSto w7 base (.slice ao n cap) t1) → Hid (te = 0 → AtIn w7 B P base bx key ao n cap t1 fo fn fc so sn sc x vs)) := Lib.hid fun u w7 h1 h2 h3 h4 => Lib.hid fun h => h1.store ⟨h4.out h, h2, h3⟩ ((HTL.out h).trans hslen) (HTG.out h).kid4
        have HLO : Hid (te = 0 → Lv t1 ∧ RefsL t1 0 ∧ RootsLow t1 (rootsF x.files)) := Lib.hid fun h => ⟨(HTG.out h).lv.1, (HTG.out h).refsL (by omega), (HTG.out h).low (HTL.out h) HRIN.out⟩
        have HRN := Lib.hid (show ∀ c, bx ≤ c → ∀ g, s ≠ [] → ao = some ⟨g, 0, none⟩ → c ≠ g from fun c hc g h1 h2 => by have := (HA5.out.row g h1 h2).1; omega)
        have lQ := lt_heap HQ5.out
        have HLQ := Lib.hid lQ
        have HBX5 := Lib.hid (show bx ≤ wc.heap.size from HA5.out.hbx)
        have HBQ := Lib.hid (show ∀ u, Below wc.heap.size wc u → u.heap[w.heap.size]? = some (.cells #[.int .i64 kind, .string aset, .string afile, .string ato, .int .i64 aat, .int .i64 an, .slice ba bn bc] 67 (0, 0)) from fun u h => (h.block _ lQ).trans HQ5.out)
        have HBW5 := Lib.hid hbw5
        have HBS := Lib.hid hbase
        have HBXW := Lib.hid hbxw
        have HFG := Lib.hid (show ∀ g, fo = some ⟨g, 0, none⟩ → g < wc.heap.size from fun g hg => (HA5.out.fge g hg).2)
        have HSG := Lib.hid (show ∀ g, so = some ⟨g, 0, none⟩ → g < wc.heap.size from fun g hg => (HA5.out.sge g hg).2)
        have HLA := Lib.hid lA
        have HHR := Lib.hid HRISE.out
        clear HTURN hr1 hz1 hslen HRT2 HTG HTL HFE hHFE hbw5 hbase hbxw hfgw hsgw hBw lQ
        go_upto_region 19 with fail
        go_cut [11, 12] (fun u1 u2 wx => ∃ pb, u1 = .pointer (some ⟨pb, 0, none⟩) ∧ u2 = .int .i64 te ∧ Hid (TAft w wx pb B P base bx key ao n cap t1 fo fn fc so sn sc x vs r1 z1 te #[.int .i64 kind, .string aset, .string afile, .string ato, .int .i64 aat, .int .i64 an, .slice ba bn bc]))
        case first =>
          go_region_with (go_at_call 114; refine (HTU.out _ (by first | exact HA5.out.mono (Below.refl _ _).drew | exact (HA5.out.mono (Below.refl _ _).drew).mono ((Below.refl _ _).alloc (Nat.le_refl _) _)) (by first | exact HBB.out.mono (Below.refl _ _).drew | exact (HBB.out.mono (Below.refl _ _).drew).mono ((Below.refl _ _).alloc (Nat.le_refl _) _))).mono ?_; rintro e w7 ⟨rfl, hb7, hf7, ho7⟩; have z7 := hb7.size; (first | (have qx : w7.heap[wc.heap.size]? = some (.cells #[.int .i64 0, .int .i64 0] 35 (0, 0)) := (hf7 wc.heap.size (by simp) (HRN.out _ HBX5.out)).trans (heap_alloc_new wc.drew _); have y0 := cell_of_block qx 0; have y1 := cell_of_block qx 1; simp only [List.getElem?_toArray, List.getElem?_cons_succ, List.getElem?_cons_zero] at y0 y1; have yf := fun j => free_of_block qx j; have yl := lt_heap qx; have HQX := Lib.hid qx; clear qx) | skip); have HQK := Lib.hid ((hf7 w.heap.size (Nat.lt_of_lt_of_le HLQ.out (by first | exact Nat.le_refl _ | simp)) (HRN.out _ HBXW.out)).trans (by first | exact HBQ.out _ (Below.refl wc.heap.size wc).drew | exact HBQ.out _ ((Below.refl wc.heap.size wc).drew.alloc (Nat.le_refl _) _))); have hm7 := HMD.out _ w7 (by first | exact HA5.out.mono (Below.refl _ _).drew | exact (HA5.out.mono (Below.refl _ _).drew).mono ((Below.refl _ _).alloc (Nat.le_refl _) _)) hb7 hf7 ho7; have hw7 := Lib.hid (HBW5.out.trans ((by first | exact (Below.refl base wc).drew | exact (Below.refl base wc).drew.alloc (Nat.le_trans HBS.out (Nat.le_of_lt HLQ.out)) _ : Below base wc _).trans hb7)); clear hf7 ho7 hb7)
          all_goals
            go_wp2_with fail
            go_meet
            first
              | exact ⟨_, rfl, rfl, Lib.hid (turnA hm7.out hw7.out HBS.out HQK.out)⟩
              | exact ⟨_, rfl, rfl, Lib.hid (turnB hm7.out hw7.out HBS.out HQK.out HQX.out HBX5.out HLQ.out HLA.out HFG.out HSG.out)⟩
        case rest =>
          obtain ⟨pb, rfl, rfl, hT⟩ := hcut
          obtain ⟨g7, q7, hbw7, hA7⟩ := hT.out
          have f0 := cell_of_block g7 0
          have f1 := cell_of_block g7 1
          have u2 := cell_of_block q7 2
          simp only [List.getElem?_toArray, List.getElem?_cons_succ, List.getElem?_cons_zero] at f0 f1 u2
          have lG := lt_heap g7
          have lQ := lt_heap q7
          clear hT g7 q7
          by_cases he : te = 0
          · have HLY := Lib.hid (lay_any _ B P base bx n cap fn fc sn sc key r1 z1 afile ao fo so t1 x vs (hA7 he) hsm HHR.out (HLO.out he).1 (HLO.out he).2.1 (HLO.out he).2.2)
            have hz := HRZ.out he
            rw [← hz] at HLY
            have HB7 := Lib.hid hbw7
            subst he
            clear hz hA7 HRZ HRE HLO HMD HTU hbw7
            go_wp2_with fail
            refine HLY.out.mono ?_
            rintro e w8 ⟨rfl, hend⟩
            have HEND := Lib.hid hend
            clear hend HLY f0 f1 u2 lG lQ
            go_wp2_with fail
            go_ret
            exact ⟨rfl, HB7.out.trans HEND.out.1, HEND.out.2⟩
          · have HR := Lib.hid (HRE.out he)
            have he1 : (te != 0) = true := by rw [bne_iff_ne]; exact he
            clear hA7 HRZ HRE HLO HMD HTU
            go_wp2
            go_ret
            rw [HR.out]
            exact ⟨rfl, hbw7, fun h => absurd h he⟩
end Go.Proofs.Ytfmgdjgedhnmeaa
