/- Sets as plain data, and in memory; set.Name. -/
import Derived.Test.YtgeacpfenhaioaaCellRow
import Derived.Test.YtgeacpfenhaioaaSto
import Derived.BigQuiet
import Derived.Lib.Strings
import Derived.Laws.Cover1
namespace Go.Proofs.Ytgeacpfenhaioaa
open Go.RowKit
set_option linter.unusedVariables false

/-- an entry, a snap, a set -/
structure Ent where
  nm : ByteArray
  root : Int
  size : Int
structure Snp where
  nm : ByteArray
  files : List Ent
structure SetV where
  nm : ByteArray
  files : List Ent
  snaps : List Snp

def nameC (c : Int) : Bool := (decide (97 ≤ c) && decide (c ≤ 122)) || (decide (48 ≤ c) && decide (c ≤ 57))
/-- a name: so many first bytes are right -/
def nameTo (s : ByteArray) (k : Nat) : Bool := (s.data.toList.take k).all (fun c => nameC (c.toNat : Int))
def nameB (s : ByteArray) : Bool := decide (0 < s.size) && (decide (s.size ≤ 8) && nameTo s s.size)

theorem nameTo_zero (s : ByteArray) : nameTo s 0 = true := by simp [nameTo]
theorem nameTo_succ (s : ByteArray) (k : Nat) (h : k < s.size) : nameTo s (k + 1) = (nameTo s k && nameC ((s[k]'h).toNat : Int)) := by
  have hl : k < s.data.toList.length := by rw [Array.length_toList]; exact h
  unfold nameTo
  rw [List.take_succ_eq_append_getElem hl, List.all_append]
  have e : s.data.toList[k] = s[k]'h := by
    cases s with
    | mk d => rw [Array.getElem_toList]; rfl
  simp [e]
theorem nameTo_full (s : ByteArray) (k : Nat) (h : nameTo s k = false) (hk : k ≤ s.size) : nameB s = false := by
  have : nameTo s s.size = false := by
    unfold nameTo at h ⊢
    rw [List.all_eq_false] at h ⊢
    obtain ⟨x, hx, hc⟩ := h
    refine ⟨x, ?_, hc⟩
    rw [List.take_of_length_le (by rw [Array.length_toList]; exact Nat.le_refl _)]
    exact List.mem_of_mem_take hx
  simp [nameB, this]

theorem str_empty (s : ByteArray) : (s.toList == []) = decide (s.size = 0) := by
  rw [ByteArray.toList_eq]
  cases s with
  | mk d =>
    rw [Bool.eq_iff_iff, beq_iff_eq, decide_eq_true_eq]
    constructor
    · intro h
      have := congrArg List.length h
      exact this
    · intro h
      exact List.eq_nil_of_length_eq_zero h
theorem str_none : ByteArray.toList { data := #[] } = [] := by rw [ByteArray.toList_eq]
theorem str_none' : ByteArray.toList ByteArray.empty = [] := by rw [ByteArray.toList_eq]; rfl

/-- bytes of a name, one after the other -/
theorem name_loop (s : ByteArray) (k : Nat) (h : k < s.size) (hk : nameTo s k = true) : (nameC ((s[k]'h).toNat : Int) = true → nameTo s (k + 1) = true) ∧ (nameC ((s[k]'h).toNat : Int) = false → nameB s = false) := by
  refine ⟨fun h1 => by rw [nameTo_succ s k h, hk, h1]; rfl, fun h1 => nameTo_full s (k + 1) (by rw [nameTo_succ s k h, h1]; simp) (by omega)⟩

set_option maxRecDepth 100000 in
set_option maxHeartbeats 4000000 in
theorem name_any (w : World) (s : ByteArray) : Calls Try.prog 50 #[.string s] w fun e w' => e = .returned (.bool (nameB s)) ∧ w' = w := by
  have he := str_empty s
  have he1 := str_none
  have he2 := str_none'
  by_cases h0 : s.size = 0
  · have HR := Lib.hid (show nameB s = false by simp [nameB, h0])
    rw [h0] at he
    replace he : (s.toList == []) = true := he.trans rfl
    go_enter Try.func50, Try.ntmps50
    go_wp2
    go_ret
    exact ⟨ret_bool HR.out.symm, rfl⟩
  replace he : (s.toList == []) = false := he.trans (decide_eq_false h0)
  by_cases h8 : 8 < s.size
  · have HR := Lib.hid (show nameB s = false by simp [nameB]; omega)
    have h8' : (8 : Int) < s.size := by omega
    go_enter Try.func50, Try.ntmps50
    go_wp2
    go_ret
    exact ⟨ret_bool HR.out.symm, rfl⟩
  have h8' : ¬ (8 : Int) < s.size := by omega
  have HL := Lib.hid (fun k (h : k < s.size) (hk : nameTo s k = true) => name_loop s k h hk)
  have HF : Hid (nameTo s s.size = true → nameB s = true) := Lib.hid fun h => by simp [nameB, h]; omega
  go_enter Try.func50, Try.ntmps50
  go_wp2
  go_loopw [14] (fun i wr => ∃ k : Nat, k ≤ s.size ∧ i = .int .i64 k ∧ Hid (nameTo s k = true) ∧ wr = w) (fun i _ => s.size - (intOf i).toNat)
  case atStart => exact ⟨0, Nat.zero_le _, rfl, Lib.hid (nameTo_zero s), rfl⟩
  case round =>
    obtain ⟨k, hk, rfl, HK, rfl⟩ := hrel
    by_cases hlt : k < s.size
    · have hn := HL.out k hlt HK.out
      have hn1 := Lib.hid hn.1
      have hn2 := Lib.hid hn.2
      have hlt' : (k : Int) < s.size := by omega
      have hk8 : (k : Int) < 8 := by omega
      clear hn
      obtain ⟨c, hc⟩ : ∃ c : Int, ((s[k]'hlt).toNat : Int) = c := ⟨_, rfl⟩
      rw [hc] at hn1 hn2
      rcases (show c < 48 ∨ (48 ≤ c ∧ c ≤ 57) ∨ (57 < c ∧ c < 97) ∨ (97 ≤ c ∧ c ≤ 122) ∨ 122 < c from by omega) with h | h | h | h | h
      · have e1 : c < 97 := by omega
        have e2 : c < 48 := by omega
        have hb := hn2.out (by simp [nameC]; omega)
        have HR := Lib.hid hb
        clear hb hn1 hn2 h
        go_wp2
        go_ret
        exact ⟨ret_bool HR.out.symm, rfl⟩
      · have e1 : c < 97 := by omega
        have e2 : ¬ c < 48 := by omega
        have e3 : ¬ 57 < c := by omega
        have HK2 := Lib.hid (hn1.out (by simp [nameC]; omega))
        clear hn1 hn2 h
        go_wp2
        go_roundw
        case rel => exact ⟨k + 1, by omega, by go_num, HK2, trivial⟩
        case measure => simp [intOf]; omega
      · have e1 : c < 97 := by omega
        have e2 : ¬ c < 48 := by omega
        have e3 : 57 < c := by omega
        have hb := hn2.out (by simp [nameC]; omega)
        have HR := Lib.hid hb
        clear hb hn1 hn2 h
        go_wp2
        go_ret
        exact ⟨ret_bool HR.out.symm, rfl⟩
      · have e1 : ¬ c < 97 := by omega
        have e2 : ¬ 122 < c := by omega
        have HK2 := Lib.hid (hn1.out (by simp [nameC]; omega))
        clear hn1 hn2 h
        go_wp2
        go_roundw
        case rel => exact ⟨k + 1, by omega, by go_num, HK2, trivial⟩
        case measure => simp [intOf]; omega
      · have e1 : ¬ c < 97 := by omega
        have e2 : 122 < c := by omega
        have e3 : ¬ c < 48 := by omega
        have e4 : 57 < c := by omega
        have hb := hn2.out (by simp [nameC]; omega)
        have HR := Lib.hid hb
        clear hb hn1 hn2 h
        go_wp2
        go_ret
        exact ⟨ret_bool HR.out.symm, rfl⟩
    · obtain rfl : k = s.size := by omega
      have hf := Lib.hid (HF.out HK.out)
      go_wp2
      go_ret
      exact ⟨ret_bool hf.out.symm, rfl⟩

/-- entries, snaps in memory -/
def entK : Kind Ent where
  cells x := [.string x.nm, .int .i64 x.root, .int .i64 x.size]
  k := 3
  zero := ⟨⟨#[]⟩, 0, 0⟩
  elem := 47
  pos := by omega
  len _ := rfl
  one x v hv := by
    simp only [List.mem_cons, List.not_mem_nil, or_false] at hv
    rcases hv with rfl | rfl | rfl <;> rfl
/-- a snap as it lies there: its files are a slice -/
structure Snv where
  nm : ByteArray
  ao : Option Addr
  n : Nat
  cap : Nat
def snvK : Kind Snv where
  cells x := [.string x.nm, .slice x.ao x.n x.cap]
  k := 2
  zero := ⟨⟨#[]⟩, none, 0, 0⟩
  elem := 95
  pos := by omega
  len _ := rfl
  one x v hv := by
    simp only [List.mem_cons, List.not_mem_nil, or_false] at hv
    rcases hv with rfl | rfl <;> rfl

structure EntAt (w : World) (b o : Nat) (x : Ent) : Prop where
  nm : w.cell? ⟨b, o, none⟩ = some (.string x.nm)
  root : w.cell? ⟨b, o + 1, none⟩ = some (.int .i64 x.root)
  size : w.cell? ⟨b, o + 2, none⟩ = some (.int .i64 x.size)
theorem EntAt.lt {w : World} {b o : Nat} {x : Ent} (h : EntAt w b o x) : b < w.heap.size := World.block_lt_of_cell? _ _ h.nm
theorem EntAt.mono {w w' : World} {b o : Nat} {x : Ent} (h : EntAt w b o x) (hb : Below w.heap.size w w') : EntAt w' b o x := by
  have hc := (bcell hb).1 b
  have hl := h.lt
  exact ⟨(hc _ hl).trans h.nm, (hc _ hl).trans h.root, (hc _ hl).trans h.size⟩
def EntRow (w : World) (ao : Option Addr) (l : List Ent) : Prop := entK.Row w ao l
theorem EntRow.mono {w w' : World} {ao : Option Addr} {l : List Ent} (h : EntRow w ao l) (hb : Below w.heap.size w w') : EntRow w' ao l := Kind.Row.mono h hb
theorem ent_cells {l : List Ent} {w : World} {b o : Nat} (h : ∀ j v, (entK.all l)[j]? = some v → w.cell? ⟨b, o + j, none⟩ = some v) (i : Nat) (hi : i < l.length) : EntAt w b (o + i * 3) l[i] := by
  have key : ∀ j, j < 3 → ∀ v, (entK.cells l[i])[j]? = some v → w.cell? ⟨b, o + i * 3 + j, none⟩ = some v := by
    intro j hj v hv
    rw [Nat.add_assoc]
    exact h _ v ((entK.all_at l i hi j hj).trans hv)
  exact ⟨key 0 (by omega) _ rfl, key 1 (by omega) _ rfl, key 2 (by omega) _ rfl⟩
theorem EntRow.at {w : World} {ao : Option Addr} {l : List Ent} (h : EntRow w ao l) (i : Nat) (hi : i < l.length) : ∃ b o, ao = some ⟨b, o, none⟩ ∧ ∀ i (h : i < l.length), EntAt w b (o + i * 3) l[i] := by
  obtain ⟨b, o, h1, _, h2⟩ := Kind.Row.at h (by omega)
  exact ⟨b, o, h1, fun i hi => ent_cells h2 i hi⟩

structure SnvAt (w : World) (b o : Nat) (x : Snv) : Prop where
  nm : w.cell? ⟨b, o, none⟩ = some (.string x.nm)
  sl : w.cell? ⟨b, o + 1, none⟩ = some (.slice x.ao x.n x.cap)
theorem SnvAt.lt {w : World} {b o : Nat} {x : Snv} (h : SnvAt w b o x) : b < w.heap.size := World.block_lt_of_cell? _ _ h.nm
theorem SnvAt.mono {w w' : World} {b o : Nat} {x : Snv} (h : SnvAt w b o x) (hb : Below w.heap.size w w') : SnvAt w' b o x := by
  have hc := (bcell hb).1 b
  have hl := h.lt
  exact ⟨(hc _ hl).trans h.nm, (hc _ hl).trans h.sl⟩
theorem snv_cells {l : List Snv} {w : World} {b o : Nat} (h : ∀ j v, (snvK.all l)[j]? = some v → w.cell? ⟨b, o + j, none⟩ = some v) (i : Nat) (hi : i < l.length) : SnvAt w b (o + i * 2) l[i] := by
  have key : ∀ j, j < 2 → ∀ v, (snvK.cells l[i])[j]? = some v → w.cell? ⟨b, o + i * 2 + j, none⟩ = some v := by
    intro j hj v hv
    rw [Nat.add_assoc]
    exact h _ v ((snvK.all_at l i hi j hj).trans hv)
  exact ⟨key 0 (by omega) _ rfl, key 1 (by omega) _ rfl⟩
theorem SnvRow.at {w : World} {ao : Option Addr} {l : List Snv} (h : snvK.Row w ao l) (i : Nat) (hi : i < l.length) : ∃ b o, ao = some ⟨b, o, none⟩ ∧ ∀ i (h : i < l.length), SnvAt w b (o + i * 2) l[i] := by
  obtain ⟨b, o, h1, _, h2⟩ := Kind.Row.at h (by omega)
  exact ⟨b, o, h1, fun i hi => snv_cells h2 i hi⟩
/-- a snap's files -/
def Snv.Is (w : World) (v : Snv) (y : Snp) : Prop := v.nm = y.nm ∧ v.n = y.files.length ∧ EntRow w v.ao y.files ∧ Capd v.ao v.n v.cap
theorem Snv.Is.mono {w w' : World} {v : Snv} {y : Snp} (h : v.Is w y) (hb : Below w.heap.size w w') : v.Is w' y := ⟨h.1, h.2.1, h.2.2.1.mono hb, h.2.2.2⟩
/-- a row of snaps -/
def SnpRow (w : World) (ao : Option Addr) (l : List Snp) : Prop := ∃ vs : List Snv, vs.length = l.length ∧ snvK.Row w ao vs ∧ ∀ i (h : i < vs.length) (h' : i < l.length), vs[i].Is w l[i]
theorem SnpRow.mono {w w' : World} {ao : Option Addr} {l : List Snp} (h : SnpRow w ao l) (hb : Below w.heap.size w w') : SnpRow w' ao l := by
  obtain ⟨vs, h1, h2, h3⟩ := h
  exact ⟨vs, h1, h2.mono hb, fun i a b => (h3 i a b).mono hb⟩

end Go.Proofs.Ytgeacpfenhaioaa
