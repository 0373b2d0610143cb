/- tree.Set at any level; tree.Put: a leaf is put below a root. · A queue of the call's own: a slice that is cut ahead and grows behind. No program in sight. · rookeryref.MakeIn: a block is made in a store of one's own. · What rookeryref.PutIn calls. · rookeryref.PutIn: the walk. · file.Turn: the walk. -/
import Derived.Test.YtfmgdjgedhnmeaaSetS
import Derived.Deep.AppendSrc
import Derived.Deep.LoopGhost
import Derived.Test.YtfmgdjgedhnmeaaPut
import Derived.Test.YtfmgdjgedhnmeaaLoose
import Derived.Test.YtfmgdjgedhnmeaaForm
import Derived.Test.YtfmgdjgedhnmeaaAll
import Derived.Test.YtfmgdjgedhnmeaaFileBytes
import Derived.Test.YtfmgdjgedhnmeaaTurnF
import Derived.Test.YtfmgdjgedhnmeaaSeal
namespace Go.Proofs.Ytfmgdjgedhnmeaa
open Go.RowKit
set_option linter.unusedVariables false

theorem set_any : ∀ m : Nat, m ≤ 3 → SetAt m := by
  intro m
  induction m with
  | zero =>
    intro _ w pb base ao ba n cap nb bc s root i b M hn hbox ho hpn hbs hg hM1 hM hr hi hby hnb hb4 hbr hbc
    exact set_zero w pb base ao ba n cap nb bc s root i b M hn hbox ho hpn hbs hg (by omega) hnb hb4 hbr hbc
  | succ m ih => intro h; exact set_succ m (by omega) (ih (by omega))

end Go.Proofs.Ytfmgdjgedhnmeaa

namespace Go.Proofs.Ytfmgdjgedhnmeaa
open Go.RowKit
set_option linter.unusedVariables false

end Go.Proofs.Ytfmgdjgedhnmeaa

namespace Go.Proofs.Ytfmgdjgedhnmeaa
open Go.RowKit
set_option linter.unusedVariables false

end Go.Proofs.Ytfmgdjgedhnmeaa

namespace Go.Proofs.Ytfmgdjgedhnmeaa
open Go.RowKit
set_option linter.unusedVariables false

/-- a store of one's own at work -/
structure InAt (w w' : World) (base : Nat) (ao : Option Addr) (n cap : Nat) (s t : List Blk) : Prop where
  own : OwnSto w' base (.slice ao n cap) t
  below : Below base w w'
  frame : ∀ c, c < w.heap.size → (∀ g, s ≠ [] → ao = some ⟨g, 0, none⟩ → c ≠ g) → w'.heap[c]? = w.heap[c]?
end Go.Proofs.Ytfmgdjgedhnmeaa

namespace Go.Proofs.Ytfmgdjgedhnmeaa
open Go.RowKit
set_option linter.unusedVariables false

end Go.Proofs.Ytfmgdjgedhnmeaa

namespace Go.Proofs.Ytfmgdjgedhnmeaa
open Go.RowKit
set_option linter.unusedVariables false

/-- what Turn answers, and leaves -/
def TurnEnd (e : Ending) (w w' : World) (base : Nat) (ao : Option Addr) (n cap nb : Nat) (s : List Blk) (r : List Blk × Int × Int) : Prop :=
  e = .returned (.tuple #[.agg #[.int .i64 (if r.2.2 = 0 then r.2.1 else 0), .int .i64 (if r.2.2 = 0 then (nb : Int) else 0)], .int .i64 r.2.2]) ∧ Below base w w' ∧
    (∀ c, c < w.heap.size → (∀ g, s ≠ [] → ao = some ⟨g, 0, none⟩ → c ≠ g) → w'.heap[c]? = w.heap[c]?) ∧ (r.2.2 = 0 → OwnSto w' base (.slice ao n cap) r.1)

theorem splice_pad (xs : List Int) (h : xs.length ≤ 256) : splice ((zeros 256).map (Value.int .u8)) 0 (xs.map (Value.int .u8)) = (pad xs).map (Value.int .u8) := by
  unfold splice pad
  rw [List.take_zero, List.nil_append, List.length_map, Nat.zero_add, List.map_append]
  congr 1
  unfold zeros
  rw [← List.map_drop, List.drop_replicate]

/-- copy as one step of a region that draws its order: what else there is stays -/
theorem step_copy_grown {P : Program} {ops : Array Oper} {o : Oper} {a : Act} {w : World} {K : Act → World → Prop} {Q : Exit → Act → World → Prop} {E : Prop} (hgd : o.guard = none) (d s : Operand) (dT sT : TypeId)
    (ho : o.op = .call { callee := .builtin .copy, args := #[d, s], argTypes := #[dT, sT] }) (elem : TypeId) (hu : P.underlying dT = some (.slice elem)) (hsz : (P.info? elem).map (·.size) = some 1)
    (dp sp : Option Addr) (dLen dCap sLen sCap : Nat) (hd : a.eval d = .slice dp dLen dCap) (hs : a.eval s = .slice sp sLen sCap)
    (g off : Nat) (cur : List Value) (t : TypeId) (hg : w.heap[g]? = some (.cells cur.toArray t (0, 0))) (cs : List Value) (hn : cs.length = Nat.min sLen dLen)
    (hpos : 0 < cs.length → dp = some ⟨g, off, none⟩ ∧ ∃ ad, sp = some ad ∧ ∀ j v, cs[j]? = some v → w.cell? (ad.add j) = some v)
    (hfit : off + cs.length ≤ cur.length) (h1 : ∀ v ∈ cs, v.oneCell' = true)
    (h : ∀ w', Hid (w'.heap[g]? = some (.cells (splice cur off cs).toArray t (0, 0))) → w.grownBy w' (some g) → K (a.put o.dst (goInt cs.length)) w') :
    if Region.wanted o (yielded ops a.tmps) = true then Oper.wp P o a w K Q else E := by
  have hw : Region.wanted o (yielded ops a.tmps) = true := by simp [Region.wanted, hgd]
  rw [if_pos hw]
  by_cases h0 : cs.length = 0
  · obtain rfl : cs = [] := List.eq_nil_of_length_eq_zero h0
    have hrun := run_copy_none (P := P) w dT sT o.type elem dp sp dLen dCap sLen sCap hu hsz (by simpa using hn.symm)
    unfold Oper.wp
    simp [execOp, ho, resolve, invoke, builtin, hd, hs, hrun, Result.andThen]
    exact h w (Lib.hid (by simpa [splice] using hg)) (grown_of_below (Below.refl _ _) _)
  · obtain ⟨rfl, ad, rfl, hsrc⟩ := hpos (by omega)
    have hrun := run_copy_row (P := P) w dT sT o.type elem g off dLen dCap ad sLen sCap cur.toArray t cs hu hsz hg hn hsrc (by simpa using hfit) h1
    unfold Oper.wp
    simp [execOp, ho, resolve, invoke, builtin, hd, hs, hrun, Result.andThen]
    exact h _ (Lib.hid (by simpa [splice] using setRow_heap w g _ _ t _ hg)) ⟨rfl, rfl, rfl, by simp [World.setRow], fun k hk hne => setRow_other w g k _ (by intro e; subst e; exact hne rfl)⟩

theorem row_four {w : World} {g : Nat} {t : TypeId} {xs : List Int} (h : w.heap[g]? = some (.cells (icells .u8 xs) t (0, 0))) (hl : xs.length = 256) (i : Nat) (hi : i < 64) : Row .u8 w (some ⟨g, i * 4, none⟩) (fourAt xs i) := by
  refine .inr ⟨g, i * 4, rfl, fun k hk => ?_⟩
  have hk4 : k < 4 := by rw [fourAt_len xs hl i hi] at hk; exact hk
  have hx : i * 4 + k < xs.length := by omega
  rw [cell_of_block h, icells_at _ _ _ hx, fourAt_get xs hl i hi k hk]

theorem file_set {w : World} {g t : Nat} {a b : Int} (h : w.heap[g]? = some (.cells #[.int .i64 a, .int .i64 b] t (0, 0))) (x y : Int) :
    ((w.setCell ⟨g, 0, none⟩ (.int .i64 x)).setCell ⟨g, 1, none⟩ (.int .i64 y)).heap[g]? = some (.cells #[.int .i64 x, .int .i64 y] t (0, 0)) := by
  have h1 := heap_setCell_same' h 0 (.int .i64 x)
  have h2 := heap_setCell_same' h1 1 (.int .i64 y)
  simpa using h2

/-- a block of two integers is written: a good store's row stays -/
theorem own_file {w : World} {base n cap k t : Nat} {ao : Option Addr} {s : List Blk} {M a b : Int} (h : OwnSto w base (.slice ao n cap) s) (hG : Good s M) (hp : w.heap[k]? = some (.cells #[.int .i64 a, .int .i64 b] t (0, 0))) (hne : ∀ g, s ≠ [] → ao = some ⟨g, 0, none⟩ → k ≠ g) (x y : Int) :
    OwnSto ((w.setCell ⟨k, 0, none⟩ (.int .i64 x)).setCell ⟨k, 1, none⟩ (.int .i64 y)) base (.slice ao n cap) s := by
  obtain ⟨ao', cap', hv, hc, h1 | ⟨g, hg, hr⟩⟩ := h
  · exact ⟨ao', cap', hv, hc, .inl h1⟩
  by_cases hs : s = []
  · exact ⟨ao', cap', hv, hc, .inl hs⟩
  have hkg : k ≠ g := hne g hs (by simp only [Value.slice.injEq] at hv; rw [hv.1, hg])
  refine ⟨ao', cap', hv, hc, .inr ⟨g, hg, ?_⟩⟩
  have hhp : ∀ c, c ≠ k → ((w.setCell ⟨k, 0, none⟩ (.int .i64 x)).setCell ⟨k, 1, none⟩ (.int .i64 y)).heap[c]? = w.heap[c]? := fun c h => (Below.heap_setCell _ _ _ _ h).trans (Below.heap_setCell _ _ _ _ h)
  generalize (w.setCell ⟨k, 0, none⟩ (.int .i64 x)).setCell ⟨k, 1, none⟩ (.int .i64 y) = w' at *
  have hcell : ∀ b o, b ≠ k → w'.cell? ⟨b, o, none⟩ = w.cell? ⟨b, o, none⟩ := fun b o hb => World.cell?_of_block (w := w) (hhp b hb)
  have hkids : ∀ ao xs, (xs = [] ∨ xs.length = 4) → FarRow g .i64 w ao xs → FarRow g .i64 w' ao xs := by
    intro ao xs hl hf
    rcases hf with rfl | ⟨b, o, rfl, hb, hf⟩
    · exact .inl rfl
    · rcases hl with rfl | hl
      · exact .inl rfl
      · have hne : b ≠ k := by
          rintro rfl
          have h1 := hf 2 (by omega)
          rw [cell_of_block hp, Array.getElem?_eq_none (by simp)] at h1
          cases h1
        exact .inr ⟨b, o, rfl, hb, fun i hi => (hcell b _ hne).trans (hf i hi)⟩
  have hbytes : ∀ ao xs, FarRow g .u8 w ao xs → FarRow g .u8 w' ao xs := by
    intro ao xs hf
    rcases hf with rfl | ⟨b, o, rfl, hb, hf⟩
    · exact .inl rfl
    · rcases Nat.eq_zero_or_pos xs.length with h0 | h0
      · exact .inl (List.eq_nil_of_length_eq_zero h0)
      · have hne : b ≠ k := by
          rintro rfl
          have h1 := hf 0 h0
          rw [cell_of_block hp] at h1
          rcases (show o + 0 = 0 ∨ o + 0 = 1 ∨ 1 < o + 0 from by omega) with e | e | e
          · rw [e] at h1; simp at h1
          · rw [e] at h1; simp at h1
          · rw [Array.getElem?_eq_none (by simp; omega)] at h1; cases h1
        exact .inr ⟨b, o, rfl, hb, fun i hi => (hcell b _ hne).trans (hf i hi)⟩
  have hg2 : ∀ j, w'.cell? ⟨g, j, none⟩ = w.cell? ⟨g, j, none⟩ := fun j => hcell g j (Ne.symm hkg)
  refine ⟨hr.le, ?_, fun i hi => ?_⟩
  · obtain ⟨cur, hc⟩ := hr.heap
    exact ⟨cur, (hhp g (Ne.symm hkg)).trans hc⟩
  · have hB := hr.blks i hi
    obtain ⟨v1, h1, va, vc, hve, hvr, hvc⟩ := hB.kids
    obtain ⟨u1, h3, ua, uc, hue, hur, huc⟩ := hB.bytes
    have hk4 : s[i].kids = [] ∨ s[i].kids.length = 4 := by
      rcases hG.forms _ (List.getElem_mem hi) with e | ⟨_, ⟨_, e, _⟩ | ⟨_, _, e, _⟩⟩
      · left; rw [e]; rfl
      · exact .inl e
      · exact .inr e
    exact ⟨(hg2 _).trans hB.refs, (hg2 _).trans hB.level, ⟨v1, (hg2 _).trans h1, va, vc, hve, hkids _ _ hk4 hvr, hvc⟩, ⟨u1, (hg2 _).trans h3, ua, uc, hue, hbytes _ _ hur, huc⟩⟩

theorem InAt.later {w0 w w' : World} {base n cap : Nat} {ao : Option Addr} {s t : List Blk} (h : InAt w0 w base ao n cap s t) (hb : Below w.heap.size w w') (hbs : base ≤ w0.heap.size) : InAt w0 w' base ao n cap s t :=
  have hz := h.below.size
  ⟨h.own.mono hb, h.below.trans (hb.mono (by omega)), fun c hc hh => (hb.block c (by omega)).trans (h.frame c hc hh)⟩

/-- Loose in a store that lies where one lay -/
theorem loose_in {w0 : World} (w : World) (pb base : Nat) (ao : Option Addr) (n cap : Nat) (s t : List Blk) (rt : Int) (hn : s.length = n) (hlt : t.length = n) (h400 : n ≤ 400) (hbox : w.heap[pb]? = some (.cells #[.slice ao n cap] 24 (0, 0)))
    (hI : InAt w0 w base ao n cap s t) (hbs : base ≤ w0.heap.size) (hpn : ∀ g, s ≠ [] → ao = some ⟨g, 0, none⟩ → pb ≠ g) (hlv : Lv t) (hrl : RefsL t 0) (ha : rt = 0 ∨ (1 ≤ rt ∧ rt ≤ n ∧ (blk t rt).level < (4 : Nat))) :
    Calls Try.prog 117 #[.pointer (some ⟨pb, 0, none⟩), .int .i64 rt] w fun e w' => e = .returned (.tuple #[]) ∧ InAt w0 w' base ao n cap s (looseF 4 t rt) := by
  rcases ha with h0 | ha
  · subst h0
    refine (loose_zero w pb).mono ?_
    rintro e w6 ⟨rfl, rfl⟩
    exact ⟨rfl, by rw [show looseF 4 t 0 = t from by simp [looseF]]; exact hI⟩
  · have hs : s ≠ [] := fun e => by rw [e] at hn; simp at hn; omega
    have ht : t ≠ [] := fun e => by rw [e] at hlt; simp at hlt; omega
    obtain ⟨ao', cap', hv, hcd, h1 | ⟨g, hg, hR⟩⟩ := hI.own
    · exact absurd h1 ht
    · rw [hlt] at hv hcd
      simp only [Value.slice.injEq, true_and] at hv
      obtain ⟨rfl, rfl⟩ := hv
      subst hg
      have hpg := hpn g hs rfl
      have hle := hR.le
      have hsz := hI.below.size
      have hll := (loosed 4 t rt 0 hlv hrl (Int.le_refl _)).len
      refine (loose_any 4 w pb base g n cap t rt 0 (Nat.le_refl _) hlt h400 hbox hR hpg hlv hrl (Int.le_refl _) (by simp [cost]) (.inr ha)).mono ?_
      rintro e w6 ⟨rfl, hR6, hg6⟩
      refine ⟨rfl, hR6.own (by rw [hll]; exact hlt) hcd.1, hI.below.trans (grown_below hg6 hle (by omega)), fun c hc h => ?_⟩
      exact (hg6.block c (by omega) (by simpa using h g hs rfl)).trans (hI.frame c hc h)

set_option maxRecDepth 100000 in
set_option maxHeartbeats 16000000 in
theorem turn_any (w : World) (pb base : Nat) (ao ba : Option Addr) (n cap nb bc z : Nat) (s : List Blk) (key root : Int) (b : List Int) (hn : s.length = n) (hbox : w.heap[pb]? = some (.cells #[.slice ao n cap] 24 (0, 0))) (ho : OwnSto w base (.slice ao n cap) s)
    (hpn : ∀ g, s ≠ [] → ao = some ⟨g, 0, none⟩ → pb ≠ g) (hbs : base ≤ w.heap.size) (hwf : WfS s) (hok : fileE s key root z = 0) (hby : Byt b) (hnb : b.length = nb) (hb4 : nb ≤ 256) (hbr : Row .u8 w ba b) (hbc : Capd ba nb bc) :
    Calls Try.prog 114 #[.pointer (some ⟨pb, 0, none⟩), .int .i64 key, .agg #[.int .i64 root, .int .i64 z], .slice ba nb bc] w fun e w' =>
      TurnEnd e w w' base ao n cap nb s (turnTo key (pad (fileB s key root z)) (pad b) (startR s root) 64) := by
  obtain ⟨hk, -, hz256, hc, -⟩ := fileE_ok hok
  obtain ⟨hce, m, hm3, hm, hroot, -, -⟩ := checkT_ok hc
  obtain rfl : m = 3 := by omega
  have h400 : n ≤ 400 := by have := (checkE_zero s hce).1; omega
  have HN := Lib.hid hn
  have HB := Lib.hid hnb
  have hfl : (fileB s key root z).length ≤ 256 := by
    unfold fileB
    rw [List.length_take, bytesTo_len (leaf_four (checkE_zero s hce).2.1 (by omega) hroot)]
    omega
  have hfz : (fileB s key root z).length = z := by
    unfold fileB
    rw [List.length_take, bytesTo_len (leaf_four (checkE_zero s hce).2.1 (by omega) hroot), Int.toNat_natCast]
    omega
  have HKU := Lib.hid (fun (i : Nat) (hi : i < 64) => keyE_up hk hi)
  have HST := Lib.hid (fun was now => turned_start (M0 := 1000000) hce hwf hroot (fun x hx => ((checkE_zero s hce).2.2.2.1 x hx).2) (by omega) (by omega) key was now)
  have HSTP := Lib.hid (fun (was now : List Int) (h1 : now.length = 256) (h2 : Byt now) (L : List (List Int)) (i : Nat) (hi : i < 64) (r : List Blk × Int × Int) (h : Turned 1000000 s key was now L i r) (he : r.2.2 = 0) (he2 : (turnOne key was now i r).2.2 = 0) => turned_step hce hwf h1 h2 hi (by omega) (by omega) h he he2)
  obtain ⟨RZ, hRZ⟩ : ∃ RZ, turnTo key (pad (fileB s key root z)) (pad b) (startR s root) 64 = RZ := ⟨_, rfl⟩
  rw [hRZ]
  have HRZ := Lib.hid hRZ
  clear hRZ
  have HBB := Lib.hid (fun (u : World) (h : StoRow u ao s) => fileBytes_any u ao n cap s key root z hn (by omega) h hwf hok)
  have HRT := Lib.hid hroot
  have HBY := Lib.hid hby
  obtain ⟨ao', cap', hv', hcd', hsr⟩ := ho.sto
  rw [HN.out] at hv'
  simp only [Value.slice.injEq, true_and] at hv'
  obtain ⟨rfl, rfl⟩ := hv'
  have hlp := lt_heap hbox
  have HHR : Hid ((root = 0 ∨ ∃ k : Nat, ∃ hk : k < s.length, root = (k : Int) + 1 ∧ 0 < s[k].refs ∧ s[k].refs ≤ 1000000)) := Lib.hid (by
    rcases hroot with h0 | ⟨h1, _⟩
    · exact .inl h0
    · obtain ⟨k, hk, rfl, -⟩ := there_in h1
      have h2 := (there_ref h1).2.2
      rw [blk_at s k hk] at h2
      have h3 := (checkE_zero s hce).2.2.2.1 _ (List.getElem_mem hk)
      exact .inr ⟨k, hk, rfl, h2, by omega⟩)
  clear hn hnb hok hk hc hce hm3 hm hroot hby hwf
  generalize fileB s key root z = FB at *
  have hmk : ∀ u : World, (Instr.makeSlice 38 (.int .i64 256) (.int .i64 256)).run Try.prog u = .ok (.slice (some ⟨u.heap.size, 0, none⟩) 256 256) (u.alloc (.cells (icells .u8 (zeros 256)) 5)) := fun u =>
    make_ints (P := Try.prog) .u8 38 5 1 Try.underlying38 info_u8 256 (by omega) (by omega) u
  have hW1 : Below w.heap.size w (((w.alloc (.cells #[.int .i64 root, .int .i64 z] 35)).alloc (.cells #[.int .i64 0, .int .i64 0] 35)).alloc (.cells (icells .u8 (zeros 256)) 5)) :=
    (((Below.refl _ _).alloc (Nat.le_refl _) _).alloc (by simp) _).alloc (by simp; omega) _
  have hz3 : ((w.alloc (.cells #[.int .i64 root, .int .i64 z] 35)).alloc (.cells #[.int .i64 0, .int .i64 0] 35)).heap.size = w.heap.size + 1 + 1 := by simp
  have pf : (((w.alloc (.cells #[.int .i64 root, .int .i64 z] 35)).alloc (.cells #[.int .i64 0, .int .i64 0] 35)).alloc (.cells (icells .u8 (zeros 256)) 5)).heap[w.heap.size]? = some (.cells #[.int .i64 root, .int .i64 z] 35 (0, 0)) := by
    rw [Below.heap_alloc _ _ _ (by simp; omega)]; exact heap_alloc2_old _ _ _
  have pr : (((w.alloc (.cells #[.int .i64 root, .int .i64 z] 35)).alloc (.cells #[.int .i64 0, .int .i64 0] 35)).alloc (.cells (icells .u8 (zeros 256)) 5)).heap[w.heap.size + 1]? = some (.cells #[.int .i64 0, .int .i64 0] 35 (0, 0)) := by
    rw [Below.heap_alloc _ _ _ (by simp)]; exact heap_alloc2_new _ _ _
  have pw : (((w.alloc (.cells #[.int .i64 root, .int .i64 z] 35)).alloc (.cells #[.int .i64 0, .int .i64 0] 35)).alloc (.cells (icells .u8 (zeros 256)) 5)).heap[w.heap.size + 1 + 1]? = some (.cells (icells .u8 (zeros 256)) 5 (0, 0)) := by
    have h := heap_alloc_new ((w.alloc (.cells #[.int .i64 root, .int .i64 z] 35)).alloc (.cells #[.int .i64 0, .int .i64 0] 35)) (.cells (icells .u8 (zeros 256)) 5)
    rw [hz3] at h
    exact h
  clear hz3
  have HFL := Lib.hid hfl
  have HFZ := Lib.hid hfz
  clear hfl hfz
  have hszI : (Try.prog.info? 5).map (·.size) = some 1 := by kernel_rfl
  go_enter Try.func114, Try.ntmps114
  go_upto_region 2 with fail
  generalize ((w.alloc (Obj.cells #[Value.int .i64 root, Value.int .i64 z] 35)).alloc (Obj.cells #[Value.int .i64 0, Value.int .i64 0] 35)).alloc (Obj.cells (icells .u8 (zeros 256)) 5) = W1 at *
  go_cut [11] (fun _ wx => wx.heap[w.heap.size + 1 + 1]? = some (.cells (icells .u8 (pad FB)) 5 (0, 0)) ∧ W1.grownBy wx (some (w.heap.size + 1 + 1)))
  case first =>
    have hb1 := (hW1.block _ hlp).trans hbox
    have c1 := cell_of_one hb1
    have l1 := lt_heap hb1
    have cf0 := cell_of_block pf 0
    have cf1 := cell_of_block pf 1
    simp at cf0 cf1
    have lf := lt_heap pf
    have lw := lt_heap pw
    have hB2 := HBB.out W1.drew ((hsr.mono hW1).mono (Below.refl _ _).drew)
    rw [Int.toNat_natCast] at hB2
    have HB2 := Lib.hid hB2
    clear hB2
    have hcn : (FB.map (Value.int .u8)).length = Nat.min z 256 := by
      rw [List.length_map, HFZ.out]
      exact (Nat.min_eq_left (by omega)).symm
    have hfit : 0 + (FB.map (Value.int .u8)).length ≤ ((zeros 256).map (Value.int .u8)).length := by
      rw [List.length_map, List.length_map, HFZ.out]
      simp only [zeros, List.length_replicate]
      omega
    have HCN := Lib.hid hcn
    have HFT := Lib.hid hfit
    clear hcn hfit
    have HPW : Hid (W1.drew.heap[w.heap.size + 1 + 1]? = some (.cells (icells .u8 (zeros 256)) 5 (0, 0))) := Lib.hid pw
    go_region_law (first
      | (go_simp; go_at_call 36; refine HB2.out.mono ?_; rintro e w4 ⟨g4, c4, rfl, hc4, hg4, hl4, hr4, hb4⟩; have pw4 : Hid (w4.heap[w.heap.size + 1 + 1]? = some (.cells ((zeros 256).map (Value.int .u8)).toArray 5 (0, 0))) := Lib.hid ((hb4.block _ lw).trans HPW.out))
      | (refine step_copy_grown (by rfl) (.tmp 20) (.tmp 26) 38 38 (by rfl) 5 Try.underlying38 hszI _ _ _ _ _ _ (by rfl) (by rfl) (w.heap.size + 1 + 1) 0 ((zeros 256).map (Value.int .u8)) 5 pw4.out (FB.map (Value.int .u8)) HCN.out (fun h => ⟨rfl, row_src hr4 (by simpa using h)⟩) HFT.out (ints_one _ _) ?_; intro w5 HG5 hg5))
    all_goals
      have hG5 := HG5.out
      rw [splice_pad FB HFL.out] at hG5
      have hg1 : W1.grownBy W1.drew (some (w.heap.size + 1 + 1)) := grown_of_below (Below.refl _ _).drew _
      have HZ : Hid (w5.heap[w.heap.size + 1 + 1]? = some (.cells (icells .u8 (pad FB)) 5 (0, 0)) ∧ W1.grownBy w5 (some (w.heap.size + 1 + 1))) := Lib.hid ⟨hG5, grown_trans hg1 (grown_trans (grown_of_below hb4 _) hg5)⟩
      clear HG5 hG5 hg1 hg5
      go_wp2_with fail
      go_meet
      exact HZ.out
  case rest =>
    obtain ⟨pwc, hgr⟩ := hcut
    clear HBB
    have hszW := hW1.size
    have lf := lt_heap pf
    have lr := lt_heap pr
    have pf2 := (hgr.block _ lf (by simp; omega)).trans pf
    have pr2 := (hgr.block _ lr (by simp)).trans pr
    have hbx := hW1.trans (grown_below hgr (by omega) hszW)
    have hA : Below wc.heap.size wc (wc.alloc (.cells (icells .u8 (zeros 256)) 5)) := (Below.refl _ _).alloc (Nat.le_refl _) _
    have pn : (wc.alloc (.cells (icells .u8 (zeros 256)) 5)).heap[wc.heap.size]? = some (.cells ((zeros 256).map (Value.int .u8)).toArray 5 (0, 0)) := heap_alloc_new _ _
    have lwc := lt_heap pwc
    have lf2 := lt_heap pf2
    have lr2 := lt_heap pr2
    have pw3 := (hA.block _ lwc).trans pwc
    have pf3 := (hA.block _ lf2).trans pf2
    have pr3 := (hA.block _ lr2).trans pr2
    have hbr3 := (hbr.mono hbx).mono hA
    have hbx3 := below_step hbx hA
    have hcn : (b.map (Value.int .u8)).length = Nat.min nb 256 := by
      rw [List.length_map, HB.out]
      exact (Nat.min_eq_left (by omega)).symm
    have hfit : 0 + (b.map (Value.int .u8)).length ≤ ((zeros 256).map (Value.int .u8)).length := by
      rw [List.length_map, List.length_map, HB.out]
      simp only [zeros, List.length_replicate]
      omega
    have HPN := Lib.hid pn
    clear pf pr pw lf lr hgr pn
    go_wp2_with (with_reducible refine copy_grown rfl (.tmp 29) (.tmp 30) 38 38 rfl 5 Try.underlying38 hszI (some ⟨wc.heap.size, 0, none⟩) ba 256 256 nb bc rfl rfl wc.heap.size 0 ((zeros 256).map (Value.int .u8)) 5 HPN.out (b.map (Value.int .u8)) hcn (fun h => ⟨rfl, row_src hbr3 (by simpa using h)⟩) hfit (ints_one _ _) ?_)
    intro w5 HG5 hg5
    have hG5 := HG5.out
    rw [splice_pad b (by have := HB.out; omega)] at hG5
    have pn5 : Hid (w5.heap[wc.heap.size]? = some (.cells (icells .u8 (pad b)) 5 (0, 0))) := Lib.hid hG5
    have hsz5 := hA.size
    have pw5 := (hg5.block _ (lt_heap pw3) (by simp; omega)).trans pw3
    have pf5 := (hg5.block _ (lt_heap pf3) (by simp; omega)).trans pf3
    have pr5 := (hg5.block _ (lt_heap pr3) (by simp; omega)).trans pr3
    have hbx5 := hbx3.trans (grown_below hg5 (by have := hbx.size; omega) (by have := hbx3.size; omega))
    have hko : w.heap.size + 1 + 1 < wc.heap.size := lwc
    have ho5 := ho.mono hbx5
    have cf0 := cell_of_block pf5 0
    simp at cf0
    have lf5 := lt_heap pf5
    clear HG5 hG5 hg5 hA hbr3 hcn hfit HPN pf3 pr3 pw3 pf2 pr2 pwc
    have hkn5 : wc.heap.size < w5.heap.size := lt_heap pn5.out
    clear hsz5 hbx3
    generalize wc.heap.size = kn at *
    have HSR0 : Hid (root = 0 → (startR s root).1 = s) := Lib.hid fun h => by unfold startR; rw [if_pos h]
    have HSR1 : Hid (∀ k (hk : k < s.length), root = (k : Int) + 1 → (startR s root).1 = s.set k { s[k] with refs := s[k].refs + 1 }) := Lib.hid fun k hk h => by
      unfold startR
      rw [if_neg (by omega), h, addRef_at s k hk]
    have hbox5 := (hbx5.block _ hlp).trans hbox
    go_upto_if 35 with fail
    go_cut [34] (fun _ wx => InAt w5 wx base ao n cap s (startR s root).1)
    case first =>
      rcases HHR.out with h0 | ⟨k, hk, hrk, hr0, hr1⟩
      · have h1 : (root != 0) = false := by rw [h0]; rfl
        have HO5 : Hid (InAt w5 w5 base ao n cap s (startR s root).1) := Lib.hid (by rw [HSR0.out h0]; exact ⟨ho5, Below.refl _ _, fun _ _ _ => rfl⟩)
        clear h0
        go_wp2_with fail
        go_meet
        exact HO5.out
      · have hs1 := HSR1.out k hk hrk
        obtain ⟨g, cap2, hv2, hR⟩ := ho5.at k hk
        rw [HN.out] at hv2
        simp only [Value.slice.injEq, true_and] at hv2
        obtain ⟨rfl, rfl⟩ := hv2
        have hB := hR.blks k hk
        have c0 := hB.refs
        have f0 := hR.free (k * 4)
        have lg := hR.lt
        have hle := hR.le
        have hR6 := hR.setRefs k hk (s[k].refs + 1)
        have hkn : (k : Int) < n := by have := HN.out; omega
        have hs0 : s ≠ [] := fun e => by rw [e] at hk; simp at hk
        have HI6 : Hid (InAt w5 (w5.setCell ⟨g, k * 4, none⟩ (.int .i64 (s[k].refs + 1))) base (some ⟨g, 0, none⟩) n cap s (startR s root).1) :=
          Lib.hid ⟨by rw [hs1]; exact hR6.own (by rw [List.length_set]; exact HN.out) (by have := hcd'.1; have := HN.out; omega), (Below.refl _ _).setCell (p := ⟨g, k * 4, none⟩) hle _, fun c hc h => Below.heap_setCell _ _ _ _ (h g hs0 rfl)⟩
        have c5 := cell_of_one hbox5
        have l5 := lt_heap hbox5
        have hr2 : (root != 0) = true := by rw [bne_iff_ne]; omega
        clear hB hR hR6 hs1 HSR0 HSR1 HST HRT HHR
        generalize s[k].refs = rk at *
        generalize (startR s root).1 = T0 at *
        subst hrk
        go_wp2_with fail
        go_meet
        exact HI6.out
    case rest =>
      have hI0 := hcut
      clear hcut cf0 lf5 HSR0 HSR1 ho5 hbox5
      have hgw : ∀ g, s ≠ [] → ao = some ⟨g, 0, none⟩ → g < w.heap.size := fun g h1 h2 => own_lt ho h1 h2
      have hsz5' := hbx5.size
      have HFR : Hid (∀ (wr : World) (t : List Blk), InAt w5 wr base ao n cap s t → ∀ c, c < w5.heap.size → (c < base ∨ w.heap.size ≤ c ∨ c = pb) → wr.heap[c]? = w5.heap[c]?) := Lib.hid fun wr t h c hc hcc => by
        rcases hcc with h1 | h1 | h1
        · exact h.below.block c h1
        · exact h.frame c hc fun g h2 h3 e => by have := hgw g h2 h3; omega
        · exact h.frame c hc fun g h2 h3 e => by subst h1; exact hpn g h2 h3 e
      have hwl : (pad FB).length = 256 := pad_len FB HFL.out
      have hnl : (pad b).length = 256 := pad_len b (by have := HB.out; omega)
      have hnby : Byt (pad b) := pad_byt HBY.out
      have hT0 := HST.out (pad FB) (pad b)
      have HSTEP := Lib.hid (fun (i : Nat) (hi : i < 64) (r : List Blk × Int × Int) h he he2 => HSTP.out (pad FB) (pad b) hnl hnby (leavesF 3 s root) i hi r h he he2)
      have HR0 : Hid (turnTo key (pad FB) (pad b) (startR s root) 0 = startR s root) := Lib.hid rfl
      have HRS : Hid (∀ i, turnTo key (pad FB) (pad b) (startR s root) (i + 1) = turnOne key (pad FB) (pad b) i (turnTo key (pad FB) (pad b) (startR s root) i)) := Lib.hid fun i => rfl
      have HBAD := Lib.hid (fun (i : Nat) (hi : i ≤ 64) (he : (turnTo key (pad FB) (pad b) (startR s root) i).2.2 ≠ 0) => turnTo_bad he 64 hi)
      have HS1 : Hid ((startR s root).2.1 = root ∧ (startR s root).2.2 = 0) := Lib.hid ⟨rfl, rfl⟩
      have HWL := Lib.hid hwl
      have HNL := Lib.hid hnl
      have HNBY := Lib.hid hnby
      have HPW := Lib.hid pw5
      have HPF := Lib.hid pf5
      have HPR := Lib.hid pr5
      have HT0 := Lib.hid hT0
      have hbox5 := (hbx5.block _ hlp).trans hbox
      have HBX5 := Lib.hid hbox5
      have hkr5 := lt_heap pr5
      have hkpb := lt_heap hbox5
      clear HST HSTP HRT HHR hwl hnl hnby hT0 pw5 pf5 pr5 hbox5 hmk hsr
      generalize pad FB = was at *
      generalize pad b = now at *
      generalize leavesF 3 s root = LL at *
      generalize turnTo key was now (startR s root) = R at *
      generalize startR s root = S0 at *
      go_wp2
      go_loopw [12, 48] (fun u x wr => ∃ i : Nat, i ≤ 64 ∧ x = .int .i64 i ∧ u = .int .i64 (R i).2.1 ∧ Hid ((R i).2.2 = 0) ∧ Hid (Turned 1000000 s key was now LL i (R i)) ∧ InAt w5 wr base ao n cap s (R i).1) (fun _ x _ => 64 - (intOf x).toNat)
      case atStart => exact ⟨0, by omega, rfl, by rw [HR0.out, HS1.out.1], Lib.hid (by rw [HR0.out]; exact HS1.out.2), Lib.hid (by rw [HR0.out]; exact HT0.out), by rw [HR0.out]; exact hI0⟩
      case round =>
        clear hI0 HT0
        obtain ⟨i, hi, rfl, rfl, HE, HT, hI⟩ := hrel
        by_cases hlt : i < 64
        · have hRs := HRS.out i
          have hpw := (HFR.out wr _ hI _ (by omega) (.inr (.inl (by omega)))).trans HPW.out
          have hpn' := (HFR.out wr _ hI kn (by omega) (.inr (.inl (by omega)))).trans pn5.out
          have hTat := HT.out.at_
          have HRSS := Lib.hid hRs
          clear hRs
          generalize R i = r at *
          obtain ⟨t, rt, re⟩ := r
          simp only at HE HT hI hTat ⊢
          obtain rfl := HE.out
          have hwx := row_four hpw HWL.out i hlt
          have hny := row_four hpn' HNL.out i hlt
          have lw := lt_heap hpw
          have ln := lt_heap hpn'
          have hi64 : (i : Int) < 64 := by omega
          go_wp2_with fail
          go_region
          go_wp2_with fail
          rw [show (i + 1) * 4 - i * 4 = 4 from by omega]
          have hdr : Below wr.heap.size wr wr.drew := (Below.refl _ _).drew
          refine (slices_equal_byte _ _ 4 4 _ _ (fourAt was i) (fourAt now i) _ (fourAt_len was HWL.out i hlt) (fourAt_len now HNL.out i hlt) (hwx.mono hdr) (hny.mono hdr) (by omega)).mono ?_
          rintro e w7 ⟨rfl, hb7⟩
          have hI7 : InAt w5 w7 base ao n cap s t := (hI.later hdr (by omega)).later hb7 (by omega)
          have hny7 := (hny.mono hdr).mono hb7
          obtain ⟨q, hq⟩ : ∃ q, (fourAt was i == fourAt now i) = q := ⟨_, rfl⟩
          rw [hq]
          cases q
          · have hne : fourAt was i ≠ fourAt now i := by simpa using hq
            have HTO : Hid (R (i + 1) = if (setF 3 t rt i (leafOf key i (fourAt now i))).2.2 ≠ 0 then ((setF 3 t rt i (leafOf key i (fourAt now i))).1, 0, (setF 3 t rt i (leafOf key i (fourAt now i))).2.2) else (looseF 4 (setF 3 t rt i (leafOf key i (fourAt now i))).1 rt, (setF 3 t rt i (leafOf key i (fourAt now i))).2.1, 0)) := Lib.hid (by
              rw [HRSS.out]
              unfold turnOne
              rw [if_neg (fun h => h rfl), if_neg hne])
            have HSB : Hid ((turnOne key was now i (t, rt, 0)).2.2 = 0 → Turned 1000000 s key was now LL (i + 1) (turnOne key was now i (t, rt, 0))) := Lib.hid fun h => HSTEP.out i hlt (t, rt, 0) HT.out rfl h
            rw [← HRSS.out] at HSB
            have HGD := Lib.hid hTat.good
            have HRAT := Lib.hid hTat.rt
            have HTL := Lib.hid hTat.len
            have HL4 := Lib.hid (fourAt_len now HNL.out i hlt)
            have HB4 := Lib.hid (fourAt_byt HNBY.out i)
            clear hq hne HRSS hTat hI hwx hny hdr
            generalize fourAt now i = y4 at *
            go_wp2_with fail
            refine (max_byte _ _ 4 _ y4 HL4.out (by omega) (by omega) hny7 HB4.out).mono ?_
            rintro e w8 ⟨mx, rfl, hr0, rfl⟩
            have hkk := HKU.out i hlt
            obtain ⟨la, ln, lc, xs, hxl, hx4, hxr, hxb, hxe, hxv⟩ : ∃ (la : Option Addr) (ln lc : Nat) (xs : List Int), xs.length = ln ∧ ln ≤ 4 ∧ Row .u8 w8 la xs ∧ Byt xs ∧ leafOf key i y4 = sealed 1 key i xs ∧
                (((mx == 0) = true ∧ la = none ∧ ln = 0 ∧ lc = 0) ∨ ((mx == 0) = false ∧ la = some ⟨kn, i * 4, none⟩ ∧ ln = 4 ∧ lc = 256 - i * 4)) := by
              by_cases h0 : mx = 0
              · refine ⟨none, 0, 0, [], rfl, by omega, .inl rfl, (by intro x hx; exact absurd hx (by simp)), ?_, .inl ⟨by rw [h0]; rfl, rfl, rfl, rfl⟩⟩
                unfold leafOf
                rw [if_pos ((zeroB_iff _).2 (hr0.1 h0))]
                rfl
              · refine ⟨_, 4, 256 - i * 4, y4, HL4.out, by omega, hny7, HB4.out, ?_, .inr ⟨by rw [beq_eq_false_iff_ne]; exact h0, rfl, rfl, rfl⟩⟩
                unfold leafOf
                rw [if_neg (fun h => h0 (hr0.2 ((zeroB_iff _).1 h)))]
                rfl
            have hll4 : (sealed 1 key i xs).length = ln := (sealed_length _ _ _ _).trans hxl
            rw [hxe] at HTO
            have HLL := Lib.hid hll4
            have HXL := Lib.hid hxl
            have HRI := Lib.hid hr0
            have hbS := sealed_byt 1 key i xs
            have HSC := Lib.hid (seal_capd_n key i la ln lc xs w8 hxl hkk (by omega) hxr hxb)
            clear hxl hll4 hxe hr0 hny7 hxr hxb HRI hb7
            generalize sealed 1 key i xs = lf at *
            rcases hxv with ⟨hmx, rfl, rfl, rfl⟩ | ⟨hmx, rfl, rfl, rfl⟩
            all_goals
              go_wp2_with fail
              refine HSC.out.mono ?_
              rintro e w9 ⟨sa, sc, hsc, rfl, hsr, hb9⟩
              have hI9 := hI7.later hb9 (by omega)
              have hbox9 := (HFR.out w9 _ hI9 pb hkpb (.inr (.inr rfl))).trans HBX5.out
              go_wp2_with fail
              refine (set_any 3 (by omega) w9 pb base ao sa n cap _ sc t rt i lf _ (HTL.out.trans HN.out) hbox9 hI9.own (fun g h1 h2 => hpn g (fun e => h1 (List.eq_nil_of_length_eq_zero (by rw [HTL.out, e]; rfl))) h2) (by have := hI9.below.size; omega) HGD.out (by omega) (by omega) HRAT.out hlt hbS HLL.out (by omega) hsr hsc).mono ?_
              rintro e w10 ⟨rfl, hset⟩
              have HF10 : Hid (∀ c, c < w5.heap.size → (∀ g, s ≠ [] → ao = some ⟨g, 0, none⟩ → c ≠ g) → w10.heap[c]? = w5.heap[c]?) := Lib.hid fun c hc hh =>
                (hset.2.1 c (by have := hI9.below.size; omega) (fun g h1 h2 => hh g (fun e => h1 (List.eq_nil_of_length_eq_zero (by rw [HTL.out, e]; rfl))) h2)).trans (hI9.frame c hc hh)
              have HB10 := Lib.hid (hI9.below.trans hset.1)
              have HSG := Lib.hid (fun h => set_good 3 t rt i lf _ (by omega) HGD.out (by omega) (by omega) HRAT.out hlt hbS (by have := HLL.out; omega) h)
              have HSO := Lib.hid (fun h => (set_out 3 t rt i lf _ (by omega) HGD.out (by omega) (by omega) HRAT.out hlt hbS (by have := HLL.out; omega) h).1)
              have HOW := Lib.hid (fun h => (hset.2.2 h).1)
              clear hset hI9 hbox9 hsr hb9 hbS HLL HSC
              generalize setF 3 t rt i lf = rr at *
              obtain ⟨t1, k1, e1⟩ := rr
              simp only at HTO HSG HSO HOW ⊢
              by_cases he : e1 = 0
              · subst he
                obtain ⟨hG1, -, hK1⟩ := HSG.out rfl
                have hI10 : InAt w5 w10 base ao n cap s t1 := ⟨HOW.out rfl, HB10.out, HF10.out⟩
                have hbox10 := (HFR.out w10 _ hI10 pb hkpb (.inr (.inr rfl))).trans HBX5.out
                have hRE : R (i + 1) = (looseF 4 t1 rt, k1, 0) := by rw [HTO.out, if_neg (fun h => h rfl)]
                have HTE := Lib.hid (HSB.out (by rw [hRE]))
                have HRE := Lib.hid hRE
                clear HSB HTO hRE
                go_wp2_with fail
                refine (loose_in w10 pb base ao n cap s t1 rt HN.out ((HSO.out trivial).trans (HTL.out.trans HN.out)) h400 hbox10 hI10 (by omega) hpn hG1.lv.1 (hG1.refsL (by omega)) (by
                  rcases hK1.root HRAT.out with h0 | ⟨h1, h2⟩
                  · exact .inl h0
                  · have := there_ref h1
                    have h3 := HSO.out trivial
                    have h4 := HTL.out
                    have h5 := HN.out
                    exact .inr ⟨this.1, by omega, by omega⟩)).mono ?_
                rintro e w11 ⟨rfl, hI11⟩
                go_wp2
                go_roundw
                case rel => exact ⟨i + 1, by omega, rfl, by rw [HRE.out], Lib.hid (by rw [HRE.out]), Lib.hid HTE.out, by rw [HRE.out]; exact hI11⟩
                case measure => simp [intOf]; omega
              · have he1 : (e1 != 0) = true := by rw [bne_iff_ne]; exact he
                have hRE : R (i + 1) = (t1, 0, e1) := by rw [HTO.out, if_pos he]
                have HR64 : Hid (RZ = (t1, 0, e1)) := Lib.hid (HRZ.out.symm.trans ((HBAD.out (i + 1) (by omega) (by rw [hRE]; exact he)).trans hRE))
                have pr10 := (HF10.out _ hkr5 (fun g h1 h2 => by have := hgw g h1 h2; omega)).trans HPR.out
                have c0 := cell_of_block pr10 0
                have c1 := cell_of_block pr10 1
                simp at c0 c1
                have lr10 := lt_heap pr10
                have f0 := free_of_block pr10 0
                have f1 := free_of_block pr10 1
                have pr12 := file_set pr10 0 0
                have d0 := cell_of_block pr12 0
                have d1 := cell_of_block pr12 1
                simp at d0 d1
                have hbz := ((HB10.out.setCell (p := ⟨w.heap.size + 1, 0, none⟩) (by simp; omega) (.int .i64 0)).setCell (p := ⟨w.heap.size + 1, 1, none⟩) (by simp; omega) (.int .i64 0))
                have HFZ : Hid (∀ c, c < w.heap.size → ((w10.setCell ⟨w.heap.size + 1, 0, none⟩ (.int .i64 0)).setCell ⟨w.heap.size + 1, 1, none⟩ (.int .i64 0)).heap[c]? = w10.heap[c]?) := Lib.hid fun c hc =>
                  (Below.heap_setCell _ _ _ _ (by simp; omega)).trans (Below.heap_setCell _ _ _ _ (by simp; omega))
                clear HSB HTO hRE
                go_wp2_with fail
                refine bodyPost_ret (v := .tuple #[.agg #[.int .i64 0, .int .i64 0], .int .i64 e1]) (by simp [results, Try.results114, go_sem, d0, d1]) rfl ⟨?_, ?_, ?_, ?_⟩
                · rw [HR64.out, if_neg he, if_neg he]
                · exact (hbx5.mono hbs).trans hbz
                · intro c hc hh
                  exact (HFZ.out c hc).trans ((HF10.out c (by omega) hh).trans (hbx5.block c hc))
                · intro h
                  rw [HR64.out] at h
                  exact absurd h he
          · have hT1 : turnOne key was now i (t, rt, 0) = (t, rt, 0) := by
              unfold turnOne
              rw [if_neg (fun h => h rfl), if_pos (by simpa using hq)]
            have HRi : Hid (R (i + 1) = (t, rt, 0)) := Lib.hid (by rw [HRSS.out]; exact hT1)
            have HT1 := Lib.hid (HSTEP.out i hlt (t, rt, 0) HT.out rfl (by rw [hT1]))
            rw [hT1] at HT1
            clear hT1 hq hb7 hI hTat hwx hny hdr hny7
            go_wp2
            go_roundw
            case rel => exact ⟨i + 1, by omega, rfl, by rw [HRi.out], Lib.hid (by rw [HRi.out]), Lib.hid (by rw [HRi.out]; exact HT1.out), by rw [HRi.out]; exact hI7⟩
            case measure => simp [intOf]; omega
        · obtain rfl : i = 64 := by omega
          have pr10 := (HFR.out wr _ hI _ hkr5 (.inr (.inl (by omega)))).trans HPR.out
          have c0 := cell_of_block pr10 0
          have c1 := cell_of_block pr10 1
          simp at c0 c1
          have lr10 := lt_heap pr10
          have f0 := free_of_block pr10 0
          have f1 := free_of_block pr10 1
          generalize R 64 = r at *
          obtain ⟨t, rt, re⟩ := r
          simp only at HE hI ⊢
          obtain rfl := HE.out
          have HRY := Lib.hid HRZ.out.symm
          have pr12 := file_set pr10 rt nb
          have d0 := cell_of_block pr12 0
          have d1 := cell_of_block pr12 1
          simp at d0 d1
          have hbz := ((hI.below.setCell (p := ⟨w.heap.size + 1, 0, none⟩) (by simp; omega) (.int .i64 rt)).setCell (p := ⟨w.heap.size + 1, 1, none⟩) (by simp; omega) (.int .i64 nb))
          have HFZ : Hid (∀ c, c < w.heap.size → ((wr.setCell ⟨w.heap.size + 1, 0, none⟩ (.int .i64 rt)).setCell ⟨w.heap.size + 1, 1, none⟩ (.int .i64 nb)).heap[c]? = wr.heap[c]?) := Lib.hid fun c hc =>
            (Below.heap_setCell _ _ _ _ (by simp; omega)).trans (Below.heap_setCell _ _ _ _ (by simp; omega))
          have HOZ := Lib.hid (own_file hI.own HT.out.at_.good pr10 (fun g h1 h2 => by have := hgw g (fun e => h1 (List.eq_nil_of_length_eq_zero (by rw [HT.out.at_.len, e]; rfl))) h2; omega) rt nb)
          clear HT
          go_wp2_with fail
          refine bodyPost_ret (v := .tuple #[.agg #[.int .i64 rt, .int .i64 nb], .int .i64 0]) (by simp [results, Try.results114, go_sem, d0, d1]) rfl ⟨?_, ?_, ?_, ?_⟩
          · rw [HRY.out]; rfl
          · exact (hbx5.mono hbs).trans hbz
          · intro c hc hh
            exact (HFZ.out c hc).trans ((hI.frame c (by omega) hh).trans (hbx5.block c hc))
          · intro h
            rw [HRY.out]
            exact HOZ.out
end Go.Proofs.Ytfmgdjgedhnmeaa
