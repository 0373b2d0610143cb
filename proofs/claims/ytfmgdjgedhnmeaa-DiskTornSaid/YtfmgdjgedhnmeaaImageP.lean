/- A pool as bytes, and bytes as a pool: what is written is read, and the other way round. No program in sight. -/
import Derived.Test.YtfmgdjgedhnmeaaPoolP
namespace Go.Proofs.Ytfmgdjgedhnmeaa
open Go.RowKit
set_option linter.unusedVariables false

/-- a number in two bytes -/
def nb (n : Int) : List Int := [n / 256, n % 256]
def nbs (l : List Int) : List Int := l.flatMap nb
def strL (s : ByteArray) : List Int := s.data.toList.map fun c => (c.toNat : Int)
def blkI (b : Blk) : List Int := nbs [b.refs, b.level, b.kids.length] ++ nbs b.kids ++ nb b.bytes.length ++ b.bytes
def strI (s : ByteArray) : List Int := nb s.size ++ strL s
def entI (x : Ent) : List Int := strI x.nm ++ nbs [x.root, x.size]
def entsI (l : List Ent) : List Int := nb l.length ++ l.flatMap entI
def snpI (y : Snp) : List Int := strI y.nm ++ entsI y.files
def setI (x : SetV) : List Int := strI x.nm ++ entsI x.files ++ nb x.snaps.length ++ x.snaps.flatMap snpI
def tenI (t : TenV) : List Int := nbs [t.key, t.quota, t.sets.length] ++ t.sets.flatMap setI
def imageL (p : PoolV) : List Int := nb p.s.length ++ p.s.flatMap blkI ++ nb p.tens.length ++ p.tens.flatMap tenI

/-- a reader -/
def Rd (α : Type) := List Int → Option (α × List Int)
def Rd.ret {α : Type} (x : α) : Rd α := fun b => some (x, b)
def Rd.then {α β : Type} (f : Rd α) (g : α → Rd β) : Rd β := fun b => match f b with | none => none | some (x, r) => g x r
def takeR (n : Nat) : Rd (List Int) := fun b => if n ≤ b.length then some (b.take n, b.drop n) else none
def getR2 : Rd Int := fun b => match b with | x :: y :: r => some (x * 256 + y, r) | _ => none
def strOf (l : List Int) : ByteArray := ⟨(l.map fun n => UInt8.ofNat n.toNat).toArray⟩
def repR {α : Type} (f : Rd α) : Nat → Rd (List α)
  | 0 => Rd.ret []
  | n + 1 => f.then fun x => (repR f n).then fun l => Rd.ret (x :: l)
def strR : Rd ByteArray := getR2.then fun n => (takeR n.toNat).then fun l => Rd.ret (strOf l)
def entR : Rd Ent := strR.then fun nm => getR2.then fun r => getR2.then fun z => Rd.ret ⟨nm, r, z⟩
def entsR : Rd (List Ent) := getR2.then fun n => repR entR n.toNat
def snpR : Rd Snp := strR.then fun nm => entsR.then fun l => Rd.ret ⟨nm, l⟩
def setR2 : Rd SetV := strR.then fun nm => entsR.then fun l => getR2.then fun n => (repR snpR n.toNat).then fun ss => Rd.ret ⟨nm, l, ss⟩
def blkR : Rd Blk := getR2.then fun r => getR2.then fun l => getR2.then fun n => (repR getR2 n.toNat).then fun ks => getR2.then fun m => (takeR m.toNat).then fun bs => Rd.ret ⟨r, l, ks, bs⟩
def tenR : Rd TenV := getR2.then fun k => getR2.then fun q => getR2.then fun n => (repR setR2 n.toNat).then fun l => Rd.ret ⟨k, q, l⟩
def poolR : Rd PoolV := getR2.then fun n => (repR blkR n.toNat).then fun s => getR2.then fun m => (repR tenR m.toNat).then fun l => Rd.ret ⟨s, l⟩

theorem then_some {α β : Type} {f : Rd α} {g : α → Rd β} {b : List Int} {z : β × List Int} : f.then g b = some z ↔ ∃ x r, f b = some (x, r) ∧ g x r = some z := by
  unfold Rd.then
  cases f b with
  | none => simp
  | some p =>
    obtain ⟨x, r⟩ := p
    simp only [Option.some.injEq, Prod.mk.injEq]
    exact ⟨fun h => ⟨x, r, ⟨rfl, rfl⟩, h⟩, fun ⟨_, _, ⟨e1, e2⟩, h⟩ => by rw [e1, e2]; exact h⟩
theorem ret_some {α : Type} {x y : α} {b r : List Int} : Rd.ret x b = some (y, r) ↔ y = x ∧ r = b := by
  simp only [Rd.ret, Option.some.injEq, Prod.mk.injEq]
  exact ⟨fun h => ⟨h.1.symm, h.2.symm⟩, fun h => ⟨h.1.symm, h.2.symm⟩⟩

/-- what follows stays -/
def App {α : Type} (f : Rd α) : Prop := ∀ b x r c, f b = some (x, r) → f (b ++ c) = some (x, r ++ c)
theorem App.ret {α : Type} (x : α) : App (Rd.ret x) := fun b y r c h => by
  obtain ⟨rfl, rfl⟩ := ret_some.1 h
  exact ret_some.2 ⟨rfl, rfl⟩
theorem App.then {α β : Type} {f : Rd α} {g : α → Rd β} (h1 : App f) (h2 : ∀ x, App (g x)) : App (f.then g) := fun b y r c h => by
  obtain ⟨x, q, e1, e2⟩ := then_some.1 h
  exact then_some.2 ⟨x, q ++ c, h1 _ _ _ _ e1, h2 x _ _ _ _ e2⟩
theorem App.take (n : Nat) : App (takeR n) := fun b x r c h => by
  unfold takeR at *
  split at h
  · rename_i h1
    simp only [Option.some.injEq, Prod.mk.injEq] at h
    obtain ⟨rfl, rfl⟩ := h
    rw [if_pos (by rw [List.length_append]; omega), List.take_append_of_le_length h1, List.drop_append_of_le_length h1]
  · cases h
theorem App.get : App getR2 := fun b x r c h => by
  match b, h with
  | u :: v :: b, h =>
    simp only [getR2, Option.some.injEq, Prod.mk.injEq] at h
    obtain ⟨rfl, rfl⟩ := h
    rfl
theorem App.rep {α : Type} {f : Rd α} (h : App f) : ∀ n, App (repR f n)
  | 0 => App.ret []
  | n + 1 => App.then h fun x => App.then (App.rep h n) fun l => App.ret _
theorem App.str : App strR := App.get.then fun n => (App.take _).then fun l => App.ret _
theorem App.ent : App entR := App.str.then fun _ => App.get.then fun _ => App.get.then fun _ => App.ret _
theorem App.ents : App entsR := App.get.then fun _ => App.rep App.ent _
theorem App.snp : App snpR := App.str.then fun _ => App.ents.then fun _ => App.ret _
theorem App.set : App setR2 := App.str.then fun _ => App.ents.then fun _ => App.get.then fun _ => (App.rep App.snp _).then fun _ => App.ret _
theorem App.blk : App blkR := App.get.then fun _ => App.get.then fun _ => App.get.then fun _ => (App.rep App.get _).then fun _ => App.get.then fun _ => (App.take _).then fun _ => App.ret _
theorem App.ten : App tenR := App.get.then fun _ => App.get.then fun _ => App.get.then fun _ => (App.rep App.set _).then fun _ => App.ret _
theorem App.pool : App poolR := App.get.then fun _ => (App.rep App.blk _).then fun _ => App.get.then fun _ => (App.rep App.ten _).then fun _ => App.ret _

theorem Byt.left {a b : List Int} (h : Byt (a ++ b)) : Byt a := fun x hx => h x (by simp [hx])
theorem Byt.right {a b : List Int} (h : Byt (a ++ b)) : Byt b := fun x hx => h x (by simp [hx])

/-- what was read is what is written -/
def Inv {α : Type} (f : Rd α) (e : α → List Int) (P : α → Prop) : Prop := ∀ b x r, Byt b → f b = some (x, r) → b = e x ++ r ∧ P x
theorem nb_two {x y : Int} (h1 : 0 ≤ x) (h2 : 0 ≤ y) (h3 : y ≤ 255) : nb (x * 256 + y) = [x, y] := by
  have e1 : (x * 256 + y) / 256 = x := by omega
  have e2 : (x * 256 + y) % 256 = y := by omega
  simp [nb, e1, e2]
theorem Inv.get : Inv getR2 nb (fun n => 0 ≤ n ∧ n < 65536) := fun b x r hb h => by
  match b, hb, h with
  | u :: v :: b, hb, h =>
    simp only [getR2, Option.some.injEq, Prod.mk.injEq] at h
    obtain ⟨rfl, rfl⟩ := h
    have hu := hb u (by simp)
    have hv := hb v (by simp)
    exact ⟨by rw [nb_two hu.1 hv.1 hv.2]; rfl, by omega, by omega⟩
theorem Inv.take (n : Nat) : Inv (takeR n) id (fun l => l.length = n ∧ Byt l) := fun b x r hb h => by
  unfold takeR at h
  split at h
  · rename_i h1
    simp only [Option.some.injEq, Prod.mk.injEq] at h
    obtain ⟨rfl, rfl⟩ := h
    exact ⟨(List.take_append_drop n b).symm, by simp [h1], fun x hx => hb x (List.mem_of_mem_take hx)⟩
  · cases h
theorem Inv.rep {α : Type} {f : Rd α} {e : α → List Int} {P : α → Prop} (h : Inv f e P) : ∀ n, Inv (repR f n) (fun l => l.flatMap e) (fun l => l.length = n ∧ ∀ x ∈ l, P x)
  | 0 => fun b x r hb h => by
    obtain ⟨rfl, rfl⟩ := ret_some.1 h
    exact ⟨rfl, rfl, by simp⟩
  | n + 1 => fun b x r hb hx => by
    obtain ⟨y, q, e1, e2⟩ := then_some.1 hx
    obtain ⟨l, q2, e3, e4⟩ := then_some.1 e2
    obtain ⟨rfl, rfl⟩ := ret_some.1 e4
    obtain ⟨g1, p1⟩ := h b y q hb e1
    obtain ⟨g2, p2, p3⟩ := Inv.rep h n q l r (by rw [g1] at hb; exact hb.right) e3
    refine ⟨by simp only [g1, g2, List.flatMap_cons, List.append_assoc], by simp [p2], fun z hz => ?_⟩
    rcases List.mem_cons.1 hz with rfl | hz
    · exact p1
    · exact p3 z hz
theorem strL_of {l : List Int} (h : Byt l) : strL (strOf l) = l := by
  unfold strL strOf
  simp only [List.map_map]
  have : ∀ x ∈ l, ((fun c : UInt8 => (c.toNat : Int)) ∘ fun n : Int => UInt8.ofNat n.toNat) x = x := fun x hx => by
    have := h x hx
    simp only [Function.comp, UInt8.toNat_ofNat']
    omega
  rw [List.map_congr_left this]
  simp
theorem strOf_size (l : List Int) : (strOf l).size = l.length := by simp [strOf, ByteArray.size]
theorem Inv.str : Inv strR strI (fun _ => True) := fun b x r hb h => by
  obtain ⟨n, q, e1, e2⟩ := then_some.1 h
  obtain ⟨l, q2, e3, e4⟩ := then_some.1 e2
  obtain ⟨rfl, rfl⟩ := ret_some.1 e4
  obtain ⟨g1, p1⟩ := Inv.get b n q hb e1
  have hb2 : Byt q := by rw [g1] at hb; exact hb.right
  obtain ⟨g2, p2, p3⟩ := Inv.take _ q l r hb2 e3
  refine ⟨?_, trivial⟩
  rw [g1, g2]
  unfold strI
  rw [strL_of p3, strOf_size, p2, show ((n.toNat : Nat) : Int) = n from by omega, List.append_assoc]
  rfl
theorem Inv.ent : Inv entR entI (fun _ => True) := fun b x r hb h => by
  obtain ⟨nm, q, e1, h⟩ := then_some.1 h
  obtain ⟨g1, -⟩ := Inv.str b nm q hb e1
  rw [g1] at hb
  obtain ⟨n, q2, e2, h⟩ := then_some.1 h
  obtain ⟨g2, p2⟩ := Inv.get q n q2 hb.right e2
  rw [g2] at hb
  obtain ⟨m, q3, e3, h⟩ := then_some.1 h
  obtain ⟨g3, p3⟩ := Inv.get q2 m q3 hb.right.right e3
  obtain ⟨rfl, rfl⟩ := ret_some.1 h
  refine ⟨?_, trivial⟩
  rw [g1, g2, g3]
  simp [entI, nbs]
theorem Inv.ents : Inv entsR entsI (fun _ => True) := fun b x r hb h => by
  obtain ⟨n, q, e1, h⟩ := then_some.1 h
  obtain ⟨g1, p1⟩ := Inv.get b n q hb e1
  rw [g1] at hb
  obtain ⟨g2, p2, -⟩ := Inv.rep Inv.ent _ q x r hb.right h
  refine ⟨?_, trivial⟩
  rw [g1, g2]
  simp only [entsI, p2, List.append_assoc]
  rw [show ((n.toNat : Nat) : Int) = n from by omega]
theorem Inv.snp : Inv snpR snpI (fun _ => True) := fun b x r hb h => by
  obtain ⟨nm, q, e1, h⟩ := then_some.1 h
  obtain ⟨g1, -⟩ := Inv.str b nm q hb e1
  rw [g1] at hb
  obtain ⟨l, q2, e2, h⟩ := then_some.1 h
  obtain ⟨g2, -⟩ := Inv.ents q l q2 hb.right e2
  obtain ⟨rfl, rfl⟩ := ret_some.1 h
  exact ⟨by rw [g1, g2]; simp [snpI], trivial⟩
theorem Inv.set : Inv setR2 setI (fun _ => True) := fun b x r hb h => by
  obtain ⟨nm, q, e1, h⟩ := then_some.1 h
  obtain ⟨g1, -⟩ := Inv.str b nm q hb e1
  rw [g1] at hb
  obtain ⟨l, q2, e2, h⟩ := then_some.1 h
  obtain ⟨g2, -⟩ := Inv.ents q l q2 hb.right e2
  rw [g2] at hb
  obtain ⟨n, q3, e3, h⟩ := then_some.1 h
  obtain ⟨g3, p3⟩ := Inv.get q2 n q3 hb.right.right e3
  rw [g3] at hb
  obtain ⟨ss, q4, e4, h⟩ := then_some.1 h
  obtain ⟨g4, p4, -⟩ := Inv.rep Inv.snp _ q3 ss q4 hb.right.right.right e4
  obtain ⟨rfl, rfl⟩ := ret_some.1 h
  refine ⟨?_, trivial⟩
  rw [g1, g2, g3, g4]
  simp only [setI, p4, List.append_assoc]
  rw [show ((n.toNat : Nat) : Int) = n from by omega]
theorem flat_nb (l : List Int) : l.flatMap nb = nbs l := rfl
theorem nbs_three (a b c : Int) : nbs [a, b, c] = nb a ++ (nb b ++ nb c) := by simp [nbs]
theorem Inv.blk : Inv blkR blkI (fun _ => True) := fun b x r hb h => by
  obtain ⟨r0, q, e1, h⟩ := then_some.1 h
  obtain ⟨g1, -⟩ := Inv.get b r0 q hb e1
  rw [g1] at hb
  obtain ⟨l, q2, e2, h⟩ := then_some.1 h
  obtain ⟨g2, -⟩ := Inv.get q l q2 hb.right e2
  rw [g2] at hb
  obtain ⟨n, q3, e3, h⟩ := then_some.1 h
  obtain ⟨g3, p3⟩ := Inv.get q2 n q3 hb.right.right e3
  rw [g3] at hb
  obtain ⟨ks, q4, e4, h⟩ := then_some.1 h
  obtain ⟨g4, p4, -⟩ := Inv.rep Inv.get _ q3 ks q4 hb.right.right.right e4
  rw [g4] at hb
  obtain ⟨m, q5, e5, h⟩ := then_some.1 h
  obtain ⟨g5, p5⟩ := Inv.get q4 m q5 hb.right.right.right.right e5
  rw [g5] at hb
  obtain ⟨bs, q6, e6, h⟩ := then_some.1 h
  obtain ⟨g6, p6, -⟩ := Inv.take _ q5 bs q6 hb.right.right.right.right.right e6
  obtain ⟨rfl, rfl⟩ := ret_some.1 h
  refine ⟨?_, trivial⟩
  rw [g1, g2, g3, g4, g5, g6]
  simp only [blkI, p4, p6, List.append_assoc, nbs_three, flat_nb, id]
  rw [show ((n.toNat : Nat) : Int) = n from by omega, show ((m.toNat : Nat) : Int) = m from by omega]
theorem Inv.ten : Inv tenR tenI (fun _ => True) := fun b x r hb h => by
  obtain ⟨r0, q, e1, h⟩ := then_some.1 h
  obtain ⟨g1, -⟩ := Inv.get b r0 q hb e1
  rw [g1] at hb
  obtain ⟨l, q2, e2, h⟩ := then_some.1 h
  obtain ⟨g2, -⟩ := Inv.get q l q2 hb.right e2
  rw [g2] at hb
  obtain ⟨n, q3, e3, h⟩ := then_some.1 h
  obtain ⟨g3, p3⟩ := Inv.get q2 n q3 hb.right.right e3
  rw [g3] at hb
  obtain ⟨ks, q4, e4, h⟩ := then_some.1 h
  obtain ⟨g4, p4, -⟩ := Inv.rep Inv.set _ q3 ks q4 hb.right.right.right e4
  obtain ⟨rfl, rfl⟩ := ret_some.1 h
  refine ⟨?_, trivial⟩
  rw [g1, g2, g3, g4]
  simp only [tenI, p4, List.append_assoc, nbs_three]
  rw [show ((n.toNat : Nat) : Int) = n from by omega]
theorem Inv.pool : Inv poolR imageL (fun _ => True) := fun b x r hb h => by
  obtain ⟨n, q, e1, h⟩ := then_some.1 h
  obtain ⟨g1, p1⟩ := Inv.get b n q hb e1
  rw [g1] at hb
  obtain ⟨s, q2, e2, h⟩ := then_some.1 h
  obtain ⟨g2, p2, -⟩ := Inv.rep Inv.blk _ q s q2 hb.right e2
  rw [g2] at hb
  obtain ⟨m, q3, e3, h⟩ := then_some.1 h
  obtain ⟨g3, p3⟩ := Inv.get q2 m q3 hb.right.right e3
  rw [g3] at hb
  obtain ⟨l, q4, e4, h⟩ := then_some.1 h
  obtain ⟨g4, p4, -⟩ := Inv.rep Inv.ten _ q3 l q4 hb.right.right.right e4
  obtain ⟨rfl, rfl⟩ := ret_some.1 h
  refine ⟨?_, trivial⟩
  rw [g1, g2, g3, g4]
  simp only [imageL, p2, p4, List.append_assoc]
  rw [show ((n.toNat : Nat) : Int) = n from by omega, show ((m.toNat : Nat) : Int) = m from by omega]

/-- what is written is read -/
def Fwd {α : Type} (f : Rd α) (e : α → List Int) (x : α) : Prop := ∀ r, f (e x ++ r) = some (x, r)
def W16 (n : Int) : Prop := 0 ≤ n ∧ n < 65536
theorem Fwd.get {n : Int} (h : W16 n) : Fwd getR2 nb n := fun r => by
  have : n / 256 * 256 + n % 256 = n := by omega
  simp [nb, getR2, this]
theorem Fwd.take (l : List Int) (r : List Int) : takeR l.length (l ++ r) = some (l, r) := by simp [takeR]
theorem Fwd.rep {α : Type} {f : Rd α} {e : α → List Int} : ∀ (l : List α), (∀ x ∈ l, Fwd f e x) → ∀ r, repR f l.length (l.flatMap e ++ r) = some (l, r)
  | [], _, r => rfl
  | x :: l, h, r => by
    rw [List.flatMap_cons, List.append_assoc]
    exact then_some.2 ⟨x, _, h x (by simp) _, then_some.2 ⟨l, _, Fwd.rep l (fun y hy => h y (by simp [hy])) r, ret_some.2 ⟨rfl, rfl⟩⟩⟩
theorem strOf_L (s : ByteArray) : strOf (strL s) = s := by
  unfold strOf strL
  cases s with
  | mk d =>
    congr 1
    apply Array.ext'
    simp only [List.map_map]
    have : ∀ x ∈ d.toList, ((fun n : Int => UInt8.ofNat n.toNat) ∘ fun c : UInt8 => (c.toNat : Int)) x = x := fun x _ => by
      show UInt8.ofNat ((x.toNat : Int)).toNat = x
      rw [Int.toNat_natCast, UInt8.ofNat_toNat]
    rw [List.map_congr_left this]
    simp
theorem strL_len (s : ByteArray) : (strL s).length = s.size := by
  unfold strL
  rw [List.length_map, Array.length_toList]
  rfl
theorem strL_byt (s : ByteArray) : Byt (strL s) := fun x hx => by
  obtain ⟨c, -, rfl⟩ := List.mem_map.1 hx
  have : c.toNat < 256 := c.toNat_lt
  omega
theorem Fwd.str {s : ByteArray} (h : s.size < 65536) : Fwd strR strI s := fun r => by
  unfold strI
  rw [List.append_assoc]
  refine then_some.2 ⟨(s.size : Int), _, Fwd.get ⟨by omega, by omega⟩ _, then_some.2 ⟨strL s, r, ?_, ?_⟩⟩
  · have := Fwd.take (strL s) r
    rwa [strL_len] at this
  · rw [strOf_L]; rfl
/-- all numbers fit -/
def FitE (x : Ent) : Prop := x.nm.size < 65536 ∧ W16 x.root ∧ W16 x.size
theorem Fwd.ent {x : Ent} (h : FitE x) : Fwd entR entI x := fun r => by
  unfold entI nbs
  simp only [List.append_assoc, List.flatMap_cons, List.flatMap_nil, List.nil_append]
  exact then_some.2 ⟨_, _, Fwd.str h.1 _, then_some.2 ⟨_, _, Fwd.get h.2.1 _, then_some.2 ⟨_, _, Fwd.get h.2.2 _, rfl⟩⟩⟩
def FitL (l : List Ent) : Prop := l.length < 65536 ∧ ∀ x ∈ l, FitE x
theorem Fwd.ents {l : List Ent} (h : FitL l) : Fwd entsR entsI l := fun r => by
  unfold entsI
  rw [List.append_assoc]
  exact then_some.2 ⟨_, _, Fwd.get ⟨by omega, by have := h.1; omega⟩ _, Fwd.rep l (fun x hx => Fwd.ent (h.2 x hx)) r⟩
def FitS (y : Snp) : Prop := y.nm.size < 65536 ∧ FitL y.files
theorem Fwd.snp {y : Snp} (h : FitS y) : Fwd snpR snpI y := fun r => by
  unfold snpI
  rw [List.append_assoc]
  exact then_some.2 ⟨_, _, Fwd.str h.1 _, then_some.2 ⟨_, _, Fwd.ents h.2 _, rfl⟩⟩
structure FitSet (x : SetV) : Prop where
  nm : x.nm.size < 65536
  files : FitL x.files
  len : x.snaps.length < 65536
  snaps : ∀ y ∈ x.snaps, FitS y
theorem Fwd.set {x : SetV} (h : FitSet x) : Fwd setR2 setI x := fun r => by
  unfold setI
  simp only [List.append_assoc]
  exact then_some.2 ⟨_, _, Fwd.str h.nm _, then_some.2 ⟨_, _, Fwd.ents h.files _, then_some.2 ⟨_, _, Fwd.get ⟨by omega, by have := h.len; omega⟩ _, then_some.2 ⟨_, _, Fwd.rep x.snaps (fun y hy => Fwd.snp (h.snaps y hy)) r, rfl⟩⟩⟩⟩
structure FitB (x : Blk) : Prop where
  refs : W16 x.refs
  level : W16 x.level
  klen : x.kids.length < 65536
  kids : ∀ k ∈ x.kids, W16 k
  blen : x.bytes.length < 65536
  byt : Byt x.bytes
theorem Fwd.blk {x : Blk} (h : FitB x) : Fwd blkR blkI x := fun r => by
  unfold blkI
  simp only [List.append_assoc, nbs_three]
  exact then_some.2 ⟨_, _, Fwd.get h.refs _, then_some.2 ⟨_, _, Fwd.get h.level _, then_some.2 ⟨_, _, Fwd.get ⟨by omega, by have := h.klen; omega⟩ _, then_some.2 ⟨_, _, Fwd.rep x.kids (fun y hy => Fwd.get (h.kids y hy)) _, then_some.2 ⟨_, _, Fwd.get ⟨by omega, by have := h.blen; omega⟩ _, then_some.2 ⟨_, _, Fwd.take x.bytes r, rfl⟩⟩⟩⟩⟩⟩
structure FitTen (t : TenV) : Prop where
  key : W16 t.key
  quota : W16 t.quota
  len : t.sets.length < 65536
  sets : ∀ x ∈ t.sets, FitSet x
theorem Fwd.ten {t : TenV} (h : FitTen t) : Fwd tenR tenI t := fun r => by
  unfold tenI
  simp only [List.append_assoc, nbs_three]
  exact then_some.2 ⟨_, _, Fwd.get h.key _, then_some.2 ⟨_, _, Fwd.get h.quota _, then_some.2 ⟨_, _, Fwd.get ⟨by omega, by have := h.len; omega⟩ _, then_some.2 ⟨_, _, Fwd.rep t.sets (fun y hy => Fwd.set (h.sets y hy)) _, rfl⟩⟩⟩⟩
structure FitPool (p : PoolV) : Prop where
  slen : p.s.length < 65536
  sto : ∀ x ∈ p.s, FitB x
  len : p.tens.length < 65536
  tens : ∀ t ∈ p.tens, FitTen t
theorem Fwd.pool {p : PoolV} (h : FitPool p) : Fwd poolR imageL p := fun r => by
  unfold imageL
  simp only [List.append_assoc]
  exact then_some.2 ⟨_, _, Fwd.get ⟨by omega, by have := h.slen; omega⟩ _, then_some.2 ⟨_, _, Fwd.rep p.s (fun y hy => Fwd.blk (h.sto y hy)) _, then_some.2 ⟨_, _, Fwd.get ⟨by omega, by have := h.len; omega⟩ _, then_some.2 ⟨_, _, Fwd.rep p.tens (fun y hy => Fwd.ten (h.tens y hy)) _, rfl⟩⟩⟩⟩

/-- the image of a right pool -/
theorem count_kidsOf_le (s : List Blk) (v : Int) (c : Nat) (h : ∀ x ∈ s, x.kids.length ≤ c) : (kidsOf s).count v ≤ c * s.length := by
  induction s with
  | nil => simp [kidsOf]
  | cons x s ih =>
    have h1 := h x (by simp)
    have h2 := ih fun y hy => h y (by simp [hy])
    have h3 : x.kids.count v ≤ x.kids.length := List.count_le_length
    simp only [kidsOf, List.flatMap_cons, List.count_append, List.length_cons] at *
    rw [Nat.mul_add]
    omega
theorem PoolOk.refs {p : PoolV} (h : PoolOk p) : ∀ x ∈ p.s, x.refs ≤ 1816 := fun x hx => by
  obtain ⟨j, hj, rfl⟩ := List.mem_iff_getElem.1 hx
  have h1 := h.out j hj
  obtain ⟨h4, hf, -⟩ := checkE_zero _ h.chk
  have h2 := count_kidsOf_le p.s ((j : Int) + 1) 4 fun x hx => by
    rcases formB_zero _ x (formsE_all _ _ hf x hx) with ⟨-, -, e, -⟩ | ⟨-, -, -, e, -⟩ | ⟨-, -, -, -, e, -⟩
    · simp [e]
    · simp [e]
    · omega
  have h3 : (p.tens.flatMap rootsT).count ((j : Int) + 1) ≤ (p.tens.flatMap rootsT).length := List.count_le_length
  have key : ∀ l : List TenV, (∀ t ∈ l, TenOk p.s t) → (l.flatMap rootsT).length ≤ 72 * l.length := by
    intro l
    induction l with
    | nil => simp
    | cons x l ih =>
      intro h
      have h1 := rootsT_len (h x (by simp))
      have h2 := ih fun y hy => h y (by simp [hy])
      simp only [List.flatMap_cons, List.length_append, List.length_cons] at *
      omega
  have h5 := key p.tens h.ten
  have h6 := h.len
  unfold outA at h1
  rw [blk_at p.s j hj] at h1
  omega

theorem name_size {s : ByteArray} (h : nameB s = true) : s.size ≤ 8 := by
  simp [nameB] at h
  exact h.2.1
theorem file_fit {s : List Blk} {key r z : Int} (hc : checkE s = 0) (h : fileE s key r z = 0) : W16 r ∧ W16 z := by
  obtain ⟨-, hz0, hz1, hct, -⟩ := fileE_ok h
  obtain ⟨-, m, hm3, hm, hroot, -, -⟩ := checkT_ok hct
  obtain ⟨h4, -⟩ := checkE_zero _ hc
  refine ⟨?_, by omega, by omega⟩
  rcases hroot with h | ⟨h, _⟩
  · subst h; exact ⟨by omega, by omega⟩
  · obtain ⟨k, hk, e, _⟩ := there_in h
    exact ⟨by omega, by omega⟩
theorem ents_fit {s : List Blk} {key : Int} {l : List Ent} (hc : checkE s = 0) (h : EntsOk s key l) : FitL l := ⟨by have := h.len; omega, fun x hx => ⟨by have := name_size (h.each x hx).1; omega, (file_fit hc (h.each x hx).2).1, (file_fit hc (h.each x hx).2).2⟩⟩
theorem set_fit {s : List Blk} {key : Int} {x : SetV} (h : RightX s key x) : FitSet x :=
  ⟨by have := name_size h.nm; omega, ents_fit h.chk h.files, by have := h.slen; omega, fun y hy => ⟨by have := name_size (h.snaps y hy).1; omega, ents_fit h.chk (h.snaps y hy).2⟩⟩
theorem key_range {k : Int} (h : keyE k 0 = 0) : 0 ≤ k ∧ k ≤ 1000 := by
  unfold keyE at h
  split at h
  · omega
  · omega
theorem PoolOk.fit {p : PoolV} (h : PoolOk p) (hw : WfS p.s) : FitPool p := by
  obtain ⟨h4, hf, hk, -⟩ := checkE_zero _ h.chk
  refine ⟨by omega, fun x hx => ?_, by have := h.len; omega, fun t ht => ?_⟩
  · have h1 := h.refs x hx
    have hwx := hw x hx
    have h2 := formB_zero _ x (formsE_all _ _ hf x hx)
    refine ⟨⟨?_, by omega⟩, ⟨?_, ?_⟩, ?_, fun k hkx => ?_, ?_, hwx.bytes⟩
    · rcases h2 with ⟨e, -⟩ | ⟨e, -⟩ | ⟨e, -⟩ <;> omega
    · rcases h2 with ⟨-, e, -⟩ | ⟨-, -, e, -⟩ | ⟨-, -, e, -⟩ <;> omega
    · rcases h2 with ⟨-, e, -⟩ | ⟨-, -, e, -⟩ | ⟨-, -, -, e, -⟩ <;> omega
    · rcases h2 with ⟨-, -, e, -⟩ | ⟨-, -, -, e, -⟩ | ⟨-, -, -, -, e, -⟩ <;> simp [e]
    · have hs2 := Good.of_check h.chk hw
      rcases h2 with ⟨-, -, e, -⟩ | ⟨-, -, -, e, -⟩ | ⟨-, -, -, -, -, -, e, -⟩
      · rw [e] at hkx; cases hkx
      · rw [e] at hkx; cases hkx
      · have := List.all_eq_true.1 e k hkx
        unfold kidOk at this
        simp only [Bool.or_eq_true, decide_eq_true_eq, Bool.and_eq_true] at this
        rcases this with h0 | ⟨h0, -⟩
        · subst h0; exact ⟨by omega, by omega⟩
        · obtain ⟨a1, a2, a3⟩ := there_ref h0
          exact ⟨by omega, by omega⟩
    · rcases h2 with ⟨-, -, -, e⟩ | ⟨-, -, -, -, e⟩ | ⟨-, -, -, -, -, e, -⟩
      · simp [e]
      · omega
      · simp [e]
  · have hT := h.ten t ht
    have hkr := key_range hT.kok
    exact ⟨⟨by omega, by omega⟩, ⟨hT.q0, by have := hT.q4; omega⟩, by have := hT.len; omega, fun x hx => set_fit (hT.sets x hx)⟩

theorem flat_len {α : Type} (f : α → List Int) (c : Nat) : ∀ l : List α, (∀ x ∈ l, (f x).length ≤ c) → (l.flatMap f).length ≤ c * l.length
  | [], _ => by simp
  | x :: l, h => by
    have h1 := h x (by simp)
    have h2 := flat_len f c l fun y hy => h y (by simp [hy])
    simp only [List.flatMap_cons, List.length_append, List.length_cons]
    rw [Nat.mul_add]
    omega
theorem nb_len (n : Int) : (nb n).length = 2 := rfl
theorem nbs_len (l : List Int) : (nbs l).length = 2 * l.length := by
  induction l with
  | nil => rfl
  | cons x l ih => simp only [nbs, List.flatMap_cons, List.length_append, nb_len, List.length_cons] at *; omega
theorem ents_len {s : List Blk} {key : Int} {l : List Ent} (h : EntsOk s key l) : (entsI l).length ≤ 86 := by
  have h1 := flat_len entI 14 l fun x hx => by
    have := name_size (h.each x hx).1
    simp only [entI, strI, List.length_append, nb_len, strL_len, nbs_len, List.length_cons, List.length_nil]
    omega
  have := h.len
  simp only [entsI, List.length_append, nb_len]
  omega
theorem set_len {s : List Blk} {key : Int} {x : SetV} (h : RightX s key x) : (setI x).length ≤ 386 := by
  have h1 := flat_len snpI 96 x.snaps fun y hy => by
    have := name_size (h.snaps y hy).1
    have := ents_len (h.snaps y hy).2
    simp only [snpI, strI, List.length_append, nb_len, strL_len]
    omega
  have := name_size h.nm
  have := ents_len h.files
  have := h.slen
  simp only [setI, strI, List.length_append, nb_len, strL_len]
  omega
theorem PoolOk.small {p : PoolV} (h : PoolOk p) : (imageL p).length ≤ 9896 := by
  obtain ⟨h4, hf, -⟩ := checkE_zero _ h.chk
  have h1 := flat_len blkI 16 p.s fun x hx => by
    simp only [blkI, List.length_append, nb_len, nbs_len, List.length_cons, List.length_nil]
    rcases formB_zero _ x (formsE_all _ _ hf x hx) with ⟨-, -, e1, e2⟩ | ⟨-, -, -, e1, e2⟩ | ⟨-, -, -, -, e1, e2, -⟩
    · simp [e1, e2]
    · simp [e1, e2]
    · simp [e1, e2]
  have h2 := flat_len tenI 1164 p.tens fun t ht => by
    have hT := h.ten t ht
    have h3 := flat_len setI 386 t.sets fun x hx => set_len (hT.sets x hx)
    have := hT.len
    simp only [tenI, List.length_append, nbs_len, List.length_cons, List.length_nil]
    omega
  have := h.len
  simp only [imageL, List.length_append, nb_len]
  omega

/-- read a pool -/
def noPool : PoolV := ⟨[], []⟩
def readI (b : List Int) : PoolV × Int :=
  if 20000 < b.length then (noPool, 2) else match poolR b with
    | some (p, []) => if poolE p ≠ 0 then (noPool, poolE p) else (p, 0)
    | _ => (noPool, 9)
theorem read_of {b : List Int} {p : PoolV} (h : readI b = (p, 0)) : poolE p = 0 ∧ poolR b = some (p, []) := by
  unfold readI at h
  split at h
  · simp at h
  · split at h
    · rename_i q e
      split at h
      · rename_i h1
        simp only [Prod.mk.injEq] at h
        exact absurd h.2 h1
      · rename_i h1
        simp only [Prod.mk.injEq, and_true] at h
        subst h
        exact ⟨by simpa using h1, e⟩
    · simp at h
/-- what is read is written as it was -/
theorem read_back {b : List Int} (hb : Byt b) {p : PoolV} (h : readI b = (p, 0)) : imageL p = b := by
  obtain ⟨-, h2⟩ := read_of h
  have := (Inv.pool b p [] hb h2).1
  rw [List.append_nil] at this
  exact this.symm
/-- what is written is read; without its last byte, or with one more, it isn't -/
theorem write_back {p : PoolV} (hw : WfS p.s) (h : poolE p = 0) : readI (imageL p) = (p, 0) := by
  have hk := poolE_ok h
  unfold readI
  rw [if_neg (by have := hk.small; omega)]
  have := Fwd.pool (hk.fit hw) []
  rw [List.append_nil] at this
  rw [this]
  simp only
  rw [if_neg (by simp [h])]
theorem write_less {p : PoolV} (hw : WfS p.s) (h : poolE p = 0) (n : Nat) (hn : n < (imageL p).length) : readI ((imageL p).take n) = (noPool, 9) := by
  have hk := poolE_ok h
  have hs := hk.small
  have h1 := Fwd.pool (hk.fit hw) []
  rw [List.append_nil] at h1
  unfold readI
  rw [if_neg (by rw [List.length_take]; omega)]
  cases e : poolR ((imageL p).take n) with
  | none => rfl
  | some z =>
    obtain ⟨q, r⟩ := z
    cases r with
    | cons x r => rfl
    | nil =>
      have h2 := App.pool _ _ _ ((imageL p).drop n) e
      rw [List.take_append_drop, h1, List.nil_append] at h2
      simp only [Option.some.injEq, Prod.mk.injEq] at h2
      have := congrArg List.length h2.2
      rw [List.length_nil, List.length_drop] at this
      omega
theorem write_more {p : PoolV} (hw : WfS p.s) (h : poolE p = 0) (x : Int) : readI (imageL p ++ [x]) = (noPool, 9) := by
  have hk := poolE_ok h
  have hs := hk.small
  unfold readI
  rw [if_neg (by rw [List.length_append, List.length_singleton]; omega), Fwd.pool (hk.fit hw) [x]]

theorem nb_byt {n : Int} (h : W16 n) : Byt (nb n) := fun x hx => by
  unfold W16 at h
  simp only [nb, List.mem_cons, List.not_mem_nil, or_false] at hx
  rcases hx with rfl | rfl <;> omega
end Go.Proofs.Ytfmgdjgedhnmeaa
