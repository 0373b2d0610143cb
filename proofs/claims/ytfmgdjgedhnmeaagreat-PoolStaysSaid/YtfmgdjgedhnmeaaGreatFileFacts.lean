/- The reference's files in plain words. · What a turn of a file keeps, gives and takes, in plain words. -/
import Derived.Test.YtfmgdjgedhnmeaaGreatFileOver
import Derived.Test.YtfmgdjgedhnmeaaGreatFileWrite
import Derived.Test.YtfmgdjgedhnmeaaGreatSeal
import Derived.Test.YtfmgdjgedhnmeaaGreatTurnF
namespace Go.Proofs.YtfmgdjgedhnmeaaGreat
open Go.RowKit
set_option linter.unusedVariables false
set_option linter.unusedSimpArgs false
theorem ext_getD {a b:List Int} (h:a.length=b.length) (h2:∀ j,j<a.length->a.getD j 0=b.getD j 0):a=b:=by
 refine zNd h fun j h3 h4=>?_
 have:=h2 j h3
 rw [zMH,zMH,zMt h3,zMt h4] at this
 exact this
theorem zKg (n j:Nat):(zeros n).getD j 0=0:=by
 rw [zMH]
 unfold zeros
 rw [List.getElem?_replicate]
 split<;>rfl
theorem zHW (a b:List Int) (j:Nat):(a++b).getD j 0=if j<a.length then a.getD j 0 else b.getD (j - a.length) 0:=by
 simp only [zMH,List.getElem?_append]
 split<;>rfl
theorem zJh {a:List Int} {j:Nat} (h:a.length<=j):a.getD j 0=0:=by
 rw [zMH,zNt h];rfl
theorem zCu (a:List Int) (n j:Nat):(a++zeros n).getD j 0=a.getD j 0:=by
 rw [zHW]
 split
 . rfl
 . rename_i h
   rw [zKg,zJh (by omega)]
theorem zFg (a:List Int) (k j:Nat):(a.take k).getD j 0=if j<k then a.getD j 0 else 0:=by
 simp only [zMH,zNY]
 split<;>rfl
theorem zHc (a:List Int) (k j:Nat):(a.drop k).getD j 0=a.getD (k+j) 0:=by
 simp only [zMH,zNs]
theorem zK4 (f:Nat->List Int) (h:∀ i,(f i).length=4):∀ k,((List.range k).flatMap f).length=4*k/\∀ i,i<k->(((List.range k).flatMap f).drop (i*4)).take 4=f i:=by
 intro k
 induction k with
 | zero=>exact ⟨rfl,fun i hi=>by omega⟩
 | succ k ih=>
  obtain ⟨h1,h2⟩:=ih
  rw [zOe,zNv]
  simp only [zM0,List.flatMap_nil,zNW]
  refine ⟨by rw [zMG,h1,h];omega,fun i hi=>?_⟩
  by_cases e:i=k
  . subst e
    rw [zN0 (by omega),List.drop_eq_nil_of_le (by omega),zNy,zMM (by rw [h];omega)]
  . rw [zN0 (by omega),zNL (by rw [zMF,h1];omega)]
    exact h2 i (by omega)
theorem zKr (B:List Int) (h:B.length=256):∀ k,k<=64->(List.range k).flatMap (fourAt B)=B.take (k*4):=by
 intro k
 induction k with
 | zero=>intro _;simp
 | succ k ih=>
  intro hk
  rw [zOe,zNv,ih (by omega)]
  simp only [zM0,List.flatMap_nil,zNW]
  rw [show (k+1)*4=k*4+4 from by omega,List.take_add]
  rfl
theorem zKZ {ys:List Int} (h:ys.length=4) (hz:zeroB ys=true):ys=[0,0,0,0]:=by
 rw [zCl] at hz
 match ys,h with
 | [a,b,c,d],_=>
  have h1:=hz a (by simp)
  have h2:=hz b (by simp)
  have h3:=hz c (by simp)
  have h4:=hz d (by simp)
  subst h1 h2 h3 h4
  rfl
theorem zGN {key:Int} {i:Nat} {ys:List Int} (h:ys.length=4) (hb:Byt ys):zAQ key i (zAJ key i ys)=ys:=by
 unfold zAQ zAJ
 cases hz:zeroB ys with
 | true=>simp only [if_true];exact (zKZ h hz).symm
 | false=>
  simp only [zOv,if_false]
  rw [if_neg (fun e=>by
   have h2:=congrArg List.length e
   rw [sealL,zAu,h] at h2
   simp at h2)]
  exact zFN key i ys hb
theorem zJO {key size:Int} {i:Nat} {ys:List Int} (h:ys.length=4) (hb:Byt ys) (hs:∀ q:Nat,q<4->size<=(i:Int)*4+q->ys.getD q 0=0):zB2 key size i (zAJ key i ys)=false:=by
 unfold zAJ
 cases hz:zeroB ys with
 | true=>rfl
 | false=>
  simp only [zOv,if_false]
  have e:openL key i (sealL key i ys)=ys:=zFN key i ys hb
  unfold zB2
  rw [e,hz,Bool.false_or,show (sealL key i ys).length=4 from (zAu _ _ _ _).trans h]
  have:zBs size i ys 4=false:=by
   unfold zBs
   rw [List.any_eq_false]
   intro q hq
   have hq:=List.mem_range.1 hq
   simp only [zMW,decide_eq_true_eq,not_and,Decidable.not_not]
   exact hs q hq
  rw [this,Bool.and_false]
theorem zCy (s:List Blk) (root:Int) (j:Nat) (hj:j<64):(leavesF 3 s root).getD j []=leafB 3 s root j:=by
 rw [zMH,zMt (by rw [zBD];exact hj),zM3,zEX]
theorem zHp {s:List Blk} {key root:Int} {b:List Int} (hc:checkE s=0) (hr:zAs s 3 root) (hk:keyE key 0=0) (hb:Byt b) (hl:b.length<=256) (hL:∀ j,j<64->leafB 3 s root j=zAJ key j (fourAt (pad b) j)) :
 fileE s key root b.length=0/\fileB s key root b.length=b:=by
 have hpl:=zB5 b hl
 have hct:checkT s root (3:Nat) ((0:Nat):Int)=0:=zFv hc (by omega) hr (show 0<p4n 3 by decide)
 have hct:checkT s root 3 0=0:=hct
 constructor
 . unfold fileE
   rw [if_neg (by simp [hk]),if_neg (by omega),if_neg (by simp [hct]),if_neg]
   intro h
   unfold zA2 at h
   rw [zNZ] at h
   obtain ⟨i,hi,h⟩:=h
   have hi:=List.mem_range.1 hi
   rw [zCy s root i hi,hL i hi,zJO (zA3 _ hpl i hi) (zEm (zCU hb) i)] at h
   . cases h
   . intro q hq h1
     unfold fourAt pad
     rw [zFg,if_pos hq,zHc,zCu,zJh (by omega)]
 . unfold fileB zBm
   have e:(List.range 64).flatMap (fun i=>zAQ key i ((leavesF 3 s root).getD i []))=(List.range 64).flatMap (fourAt (pad b)):=by
    unfold List.flatMap
    congr 1
    apply zNT
    intro i hi
    have hi:=List.mem_range.1 hi
    rw [zCy s root i hi,hL i hi]
    exact zGN (zA3 _ hpl i hi) (zEm (zCU hb) i)
   rw [e,zKr _ hpl 64 (zMs _),zNA,List.take_take,zNb (by omega)]
   unfold pad
   rw [zOs rfl]
theorem zHG {key:Int} {L:List (List Int)} (h:∀ x∈L,x=[]\/x.length=4) (i:Nat) (hi:i<64):fourAt (zBm key L 64) i=zAQ key i (L.getD i []):=by
 refine (zK4 (fun i=>zAQ key i (L.getD i [])) (fun i=>zDW ?_) 64).2 i hi
 by_cases hk:i<L.length
 . rw [zMH,zMt hk,zM3]
   exact h _ (zMr hk)
 . rw [zMH,zNt (by omega)]
   exact .inl rfl
theorem zGs {key size:Int} {L:List (List Int)} (h:zA2 key size L 64=false) (i:Nat) (hi:i<64):zB2 key size i (L.getD i [])=false:=by
 unfold zA2 at h
 rw [List.any_eq_false] at h
 simpa using h i (List.mem_range.2 hi)
theorem zIq {s:List Blk} {key root:Int} {z:Nat} (hok:fileE s key root z=0) (hw:WfS s) (j:Nat) (hj:j<64):leafB 3 s root j=zAJ key j (fourAt (pad (fileB s key root z)) j):=by
 obtain ⟨hk,-,hz,hct,hfb⟩:=zAA hok
 obtain ⟨hce,m,hm3,hm,hroot,-,-⟩:=zAP hct
 obtain rfl:m=3:=by omega
 have h4:=zB7 (zAg s hce).2.1 (by omega) hroot
 have hlen:=zBC (key:=key) h4 64
 have hget:∀ i,i<64->(leavesF 3 s root).getD i []=leafB 3 s root i:=zCy s root
 have hby:=zDk hw 3 root
 have hbad:=fun i hi=>zGs hfb i hi
 have hfour:=fun i hi=>zHG (key:=key) h4 i hi
 have hpad:pad (fileB s key root z)=zBm key (leavesF 3 s root) 64:=by
  unfold fileB
  rw [zNA]
  have hpl:=zB5 ((zBm key (leavesF 3 s root) 64).take z) (by rw [zMI];omega)
  refine ext_getD (by omega) fun p hp=>?_
  unfold pad
  rw [zCu,zFg]
  by_cases h1:p<z
  . rw [if_pos h1]
  . rw [if_neg h1]
    have hp64:p / 4<64:=by omega
    have e1:(zBm key (leavesF 3 s root) 64).getD p 0=(fourAt (zBm key (leavesF 3 s root) 64) (p / 4)).getD (p%4) 0:=by
     unfold fourAt
     rw [zFg,if_pos (by omega),zHc]
     congr 1
     omega
    rw [e1,hfour _ hp64]
    have hb:=hbad _ hp64
    have hx4:(leavesF 3 s root).getD (p / 4) []=[]\/((leavesF 3 s root).getD (p / 4) []).length=4:=by
     rw [zMH,zMt (by rw [zBD];exact hp64),zM3]
     exact h4 _ (zMr _)
    generalize (leavesF 3 s root).getD (p / 4) []=xs at *
    unfold zAQ
    by_cases hx:xs=[]
    . rw [if_pos hx]
      have:p%4=0\/p%4=1\/p%4=2\/p%4=3:=by omega
      rcases this with e | e | e | e<;>rw [e]<;>rfl
    . rw [if_neg hx]
      have hx4:=hx4.resolve_left hx
      unfold zB2 at hb
      rw [decide_eq_true hx,zOu,hx4,Bool.or_eq_false_iff] at hb
      have hb2:=hb.2
      unfold zBs at hb2
      rw [List.any_eq_false] at hb2
      have h3:=hb2 (p%4) (List.mem_range.2 (by omega))
      simp only [zMW,decide_eq_true_eq,not_and,Decidable.not_not] at h3
      exact (h3 (by omega)).symm
 rw [hpad,hfour j hj,<- hget j hj]
 have hb:=hbad j hj
 have hxb:Byt ((leavesF 3 s root).getD j []):=by
  rw [zMH,zMt (by rw [zBD];exact hj),zM3]
  exact hby _ (zMr _)
 generalize (leavesF 3 s root).getD j []=xs at *
 unfold zAQ
 by_cases hx:xs=[]
 . rw [if_pos hx,hx]
   rfl
 . rw [if_neg hx]
   unfold zB2 at hb
   rw [decide_eq_true hx,zOu,Bool.or_eq_false_iff] at hb
   unfold zAJ
   rw [if_neg (by rw [hb.1];simp)]
   exact (zH8 key j xs hxb).symm
structure zO6 (s t:List Blk) (key rt M:Int) (b:List Int):Prop where
 at_:zFp s t rt M
 leaf:∀ j,j<64->leafB 3 t rt j=zAJ key j (fourAt (pad b) j)
theorem turnR_ok {s:List Blk} (hw:WfS s) {key root M0:Int} {z:Nat} (hok:fileE s key root z=0) (hfew:∀ x∈s,x.refs<=M0) (hM:1<=M0) (hM2:M0<=1000000) {b:List Int} (hb:Byt b) (hl:b.length<=256) (he:(turnR s key root z b).2.2=0) :
 zO6 s (turnR s key root z b).1 key (turnR s key root z b).2.1 (M0+833) b:=by
 obtain ⟨hk,-,hz,hct,-⟩:=zAA hok
 obtain ⟨hce,m,hm3,hm,hroot,-,-⟩:=zAP hct
 obtain rfl:m=3:=by omega
 have h64:(64:Nat)<=64:=zMs _
 have hlv:=fun j hj=>zIq hok hw j hj
 have hT:∃ k:Nat,k=64/\zEB M0 s key (pad (fileB s key root z)) (pad b) (leavesF 3 s root) k (turnR s key root z b):=by
  unfold turnR at he ⊢
  generalize hke:(64:Nat)=k at he h64 ⊢
  exact ⟨k,rfl,zBV hce hw hroot hfew hM hM2 (zB5 b hl) (zCU hb) k (by omega) he⟩
 obtain ⟨k,rfl,hT⟩:=hT
 generalize turnR s key root z b=r at *
 have h1:=hT.at_
 refine ⟨⟨h1.good.weaken (by omega),h1.len,h1.keeps,h1.rt,h1.out⟩,fun j hj=>?_⟩
 rw [hT.leaf j hj]
 by_cases e:fourAt (pad (fileB s key root z)) j=fourAt (pad b) j
 . rw [if_neg (fun h=>h.2 e),zCy s root j hj,hlv j hj,e]
 . rw [if_pos ⟨hj,e⟩]
theorem zFT {s:List Blk} {key:Int} (hc:checkE s=0) (hk:keyE key 0=0):fileE s key 0 ((0:Nat):Int)=0/\fileB s key 0 ((0:Nat):Int)=[]:=by
 have h:=zHp (s:=s) (root:=0) (b:=[]) hc (.inl rfl) hk (fun x hx=>by cases hx) (by simp) fun j hj=>?_
 . exact h
 . rw [zDe]
   have hz:zeroB (fourAt (pad []) j)=true:=by
    rw [zCl]
    intro x hx
    have:=List.mem_of_mem_drop (zNl hx)
    exact (List.mem_replicate.1 this).2
   unfold zAJ
   rw [if_pos hz]
end Go.Proofs.YtfmgdjgedhnmeaaGreat
