/- Loose: what is held from outside, and that the store stays right. · What is dropped leaves a right store; a store that nobody holds has nothing. · What is let go one by one, in whatever order, ends in the same store. · What is reached, in plain words. · What is made and let go, or held and let go, was never there: in plain words. · What stays where one is let go; what is reached from what is held: in plain words. -/
import Derived.Test.YtfmgdjgedhnmeaaGreatLoose
namespace Go.Proofs.YtfmgdjgedhnmeaaGreat
open Go.RowKit
set_option linter.unusedVariables false
set_option linter.unusedSimpArgs false
def outA (s:List Blk) (j:Nat):Int:=(blk s ((j:Int)+1)).refs - (((kidsOf s).count ((j:Int)+1):Nat):Int)
theorem zKY (s:List Blk) (j:Nat) (h:j<s.length) (h':j<(outL s).length):(outL s)[j]=outA s j:=by
 simp [outL,outA,zGR,zAk s j h,h]
theorem zF6 (a b:List Blk) (x:Blk) (v:Int):(kidsOf (a++x::b)).count v=(kidsOf a).count v+(x.kids.count v+(kidsOf b).count v):=by
 simp [kidsOf,zNv,zMZ]
theorem zIW (s:List Blk) (k:Nat) (h:k<s.length) (x:Blk) (v:Int):(kidsOf (s.set k x)).count v+s[k].kids.count v=(kidsOf s).count v+x.kids.count v:=by
 have e1:s=s.take k++s[k]::s.drop (k+1):=by rw [<- zNz h,zNC]
 have e2:s.set k x=s.take k++x::s.drop (k+1):=by rw [zN2,if_pos h]
 have f1:(kidsOf s).count v=(kidsOf (s.take k)).count v+(s[k].kids.count v+(kidsOf (s.drop (k+1))).count v):=by
  rw [<- zF6,<- e1]
 have f2:(kidsOf (s.set k x)).count v=(kidsOf (s.take k)).count v+(x.kids.count v+(kidsOf (s.drop (k+1))).count v):=by
  rw [e2,zF6]
 omega
theorem zGB (s:List Blk) (k:Nat) (h:k<s.length) (x:Blk) (j:Nat):outA (s.set k x) j=outA s j+(((s[k].kids.count ((j:Int)+1):Nat):Int) - ((x.kids.count ((j:Int)+1):Nat):Int))+if j=k then x.refs - s[k].refs else 0:=by
 have h1:=zIW s k h x ((j:Int)+1)
 unfold outA
 rw [zCI]
 by_cases e:j=k
 . subst e
   rw [if_pos ⟨by omega,h⟩,if_pos rfl,zAk s j h]
   omega
 . rw [if_neg (fun hh=>e (by omega)),if_neg e]
   omega
theorem zHv (s:List Blk) (k:Nat) (h:k<s.length) (j:Nat):outA (addRef s ((k:Int)+1) (-1)) j=outA s j - if j=k then 1 else 0:=by
 rw [zBN s k h,zGB s k h]
 simp only
 split<;>omega
def Live (s:List Blk):Prop:=∀ x∈s,x=noBlk\/0<x.refs
structure Sub (s s':List Blk):Prop where
 len:s'.length=s.length
 each:∀ j (h:j<s.length) (h':j<s'.length),s'[j]=noBlk\/(0<s'[j].refs/\s'[j].refs<=s[j].refs/\s'[j]={ s[j] with refs:=s'[j].refs })
theorem Sub.refl {s:List Blk} (h:Live s):Sub s s:=⟨rfl,fun j hj _=>(h _ (zMr hj)).imp id fun p=>⟨p,zNc _,rfl⟩⟩
theorem Sub.live {s s':List Blk} (h:Sub s s'):Live s':=by
 intro x hx
 obtain ⟨j,hj,rfl⟩:=zMR hx
 rcases h.each j (by have:=h.len;omega) hj with h1 | ⟨h1,_⟩
 . exact .inl h1
 . exact .inr h1
theorem Sub.trans {a b c:List Blk} (h:Sub a b) (k:Sub b c):Sub a c:=by
 refine ⟨k.len.trans h.len,fun j hj hj'=>?_⟩
 have hb:j<b.length:=by have:=h.len;omega
 rcases k.each j hb hj' with h1 | ⟨h1,h2,h3⟩
 . exact .inl h1
 . rcases h.each j hj hb with g1 | ⟨g1,g2,g3⟩
   . rw [g1] at h2;simp [noBlk] at h2;omega
   . refine .inr ⟨h1,by omega,?_⟩
     rw [h3,g3]
theorem Sub.less {s:List Blk} (h:Live s) (k:Nat) (hk:k<s.length) (h1:1<s[k].refs):Sub s (addRef s ((k:Int)+1) (-1)):=by
 rw [zBN s k hk]
 refine ⟨by simp,fun j hj hj'=>?_⟩
 rw [zMP]
 split
 . rename_i e
   subst e
   exact .inr ⟨by simp;omega,by simp;omega,rfl⟩
 . exact (h _ (zMr hj)).imp id fun p=>⟨p,zNc _,rfl⟩
theorem Sub.free {s:List Blk} (h:Live s) (k:Nat):Sub s (s.set k noBlk):=by
 refine ⟨by simp,fun j hj hj'=>?_⟩
 rw [zMP]
 split
 . exact .inl rfl
 . exact (h _ (zMr hj)).imp id fun p=>⟨p,zNc _,rfl⟩
def Low (s:List Blk) (f:Nat) (a:Int):Prop:=a=0\/(1<=a/\a<=s.length/\(blk s a).level<f)
structure zDI (s s':List Blk) (l:List Int):Prop where
 sub:Sub s s'
 lv:Lv s'
 lev:∀ b,(blk s' b).level<=(blk s b).level
 out:∀ j,j<s.length->outA s' j=outA s j - ((l.count ((j:Int)+1):Nat):Int)
theorem zCE (f:Nat) (ih:∀ (s:List Blk) (a:Int) (P:List Int),Lv s->Live s->Low s f a->(∀ j,j<s.length->(((a::P).count ((j:Int)+1):Nat):Int)<=outA s j)->zDI s (zAj f s a) [a]) (ks:List Int) :
 ∀ (s:List Blk) (P:List Int),Lv s->Live s->(∀ k∈ks,Low s f k)->(∀ j,j<s.length->(((ks++P).count ((j:Int)+1):Nat):Int)<=outA s j)->zDI s (ks.foldl (zAj f) s) ks:=by
 induction ks with
 | nil=>intro s P h1 h2 _ _;exact ⟨Sub.refl h2,h1,fun _=>zNc _,fun j _=>by simp⟩
 | cons a ks hi=>
  intro s P h1 h2 h3 h4
  have p:=ih s a (ks++P) h1 h2 (h3 a (zNJ ..)) (fun j hj=>by simpa using h4 j hj)
  have q:=hi (zAj f s a) P p.lv p.sub.live (fun k hk=>by
   rcases h3 k (zNq _ hk) with h0 | ⟨g1,g2,g3⟩
   . exact .inl h0
   . have:=p.lev k
     exact .inr ⟨g1,by rw [p.sub.len];exact g2,by omega⟩) (fun j hj=>by
   have hj':j<s.length:=by rw [<- p.sub.len];exact hj
   have e1:=p.out j hj'
   have e2:=h4 j hj'
   simp only [List.cons_append,zNU,zOy] at e1 e2
   omega)
  refine ⟨p.sub.trans q.sub,q.lv,fun b=>Int.le_trans (q.lev b) (p.lev b),fun j hj=>?_⟩
  have e1:=p.out j hj
  have e2:=q.out j (by rw [p.sub.len];exact hj)
  simp only [zNa]
  simp only [zNU,zOy] at *
  omega
theorem zGC (f:Nat):∀ (s:List Blk) (a:Int) (P:List Int),Lv s->Live s->Low s f a->(∀ j,j<s.length->(((a::P).count ((j:Int)+1):Nat):Int)<=outA s j)->zDI s (zAj f s a) [a]:=by
 induction f with
 | zero=>
  intro s a P h1 h2 h3 h4
  have hz:a=0:=by
   rcases h3 with h | ⟨_,_,h⟩
   . exact h
   . have:=h1.lev a;omega
  subst hz
  exact ⟨Sub.refl h2,h1,fun _=>zNc _,fun j _=>by rw [zNn (by omega)];simp [zAj]⟩
 | succ f ih=>
  intro s a P h1 h2 h3 h4
  by_cases hz:a=0
  . subst hz
    exact ⟨by simpa [zAj] using Sub.refl h2,by simpa [zAj] using h1,fun _=>by simp [zAj],fun j _=>by rw [zNn (by omega)];simp [zAj]⟩
  obtain ⟨g1,g2,g3⟩:=h3.resolve_left hz
  obtain ⟨k,rfl⟩:∃ k:Nat,a=k+1:=⟨(a - 1).toNat,by omega⟩
  have hk:k<s.length:=by omega
  have hu:zAj (f+1) s ((k:Int)+1)=if 1<s[k].refs then addRef s ((k:Int)+1) (-1) else s[k].kids.foldl (zAj f) (s.set k noBlk):=by
   conv=>lhs;unfold zAj
   rw [if_neg hz,zAk s k hk,show ((k:Int)+1 - 1).toNat=k from by omega]
  have hcnt:∀ j:Nat,(([(k:Int)+1].count ((j:Int)+1):Nat):Int)=if j=k then 1 else 0:=by
   intro j
   by_cases e:j=k
   . subst e;simp
   . rw [zNn (by omega),if_neg e];simp
  rw [hu]
  split
  . rename_i hone
    exact ⟨Sub.less h2 k hk hone,h1.addRef _ _,fun b=>by rw [zDh];exact zNc _,fun j hj=>by rw [zHv s k hk,hcnt]⟩
  . rename_i hone
    have ho:=h4 k hk
    simp only [List.count_cons_self] at ho
    have hoA:outA s k=s[k].refs - (((kidsOf s).count ((k:Int)+1):Nat):Int):=by unfold outA;rw [zAk s k hk]
    have hr1:s[k].refs=1:=by omega
    have hlk:=(h1 _ (zMr hk))
    rw [zAk s k hk] at g3
    have hset:∀ j,outA (s.set k noBlk) j=outA s j+((s[k].kids.count ((j:Int)+1):Nat):Int)+if j=k then 0 - s[k].refs else 0:=fun j=>by
     rw [zGB s k hk noBlk j]
     show _+(_ - ((([]:List Int).count _:Nat):Int))+(if j=k then 0 - s[k].refs else 0)=_
     simp
    have hp:=zCE f ih s[k].kids (s.set k noBlk) P (h1.free k) (Sub.free h2 k).live (fun x hx=>by
     rcases hlk.2.2 x hx with h0 | ⟨e1,e2,e3⟩
     . exact .inl h0
     . have:=zDJ h1 k x
       exact .inr ⟨e1,by simpa using e2,by omega⟩) (fun j hj=>by
     have hj':j<s.length:=by simpa using hj
     have e1:=hset j
     have e2:=h4 j hj'
     have e3:=hcnt j
     simp only [zOy,zNU,zMZ] at e2 e3 ⊢
     by_cases e:j=k
     . rw [if_pos e] at e1 e3;subst e;omega
     . rw [if_neg e] at e1 e3;omega)
    refine ⟨(Sub.free h2 k).trans hp.sub,hp.lv,fun b=>Int.le_trans (hp.lev b) (zDJ h1 k b),fun j hj=>?_⟩
    have e1:=hset j
    have e2:=hp.out j (by simpa using hj)
    rw [hcnt]
    by_cases e:j=k
    . rw [if_pos e] at e1 ⊢;omega
    . rw [if_neg e] at e1 ⊢;omega
theorem zLb (s l:List Blk) (h:∀ x∈l,formB s x=0):zAI s l=0:=by
 induction l with
 | nil=>rfl
 | cons x l ih=>
  simp only [zAI]
  rw [if_pos (h x (zNJ ..))]
  exact ih fun y hy=>h y (zNq _ hy)
theorem zHg (s:List Blk) (h4:s.length<=400) (hf:∀ x∈s,formB s x=0) (ho:∀ j,j<s.length->0<=outA s j):checkE s=0:=by
 have h1:=zLb s s hf
 rw [zEQ s (by omega) h1,if_neg]
 intro h
 rw [zNZ] at h
 obtain ⟨x,hx,h3⟩:=h
 obtain ⟨j,hj,rfl⟩:=zMR hx
 have hj':j<s.length:=by rw [<- zA8];exact hj
 have:=ho j hj'
 rw [zKY s j hj' hj] at h3
 simp at h3
 omega
theorem zEl (s:List Blk) (r:Int) (bs:List Int) (h1:0<r) (h2:r<=1000000) (h3:bs.length=4):formE s r 0 [] bs=0:=by
 unfold formE
 rw [if_neg (by omega),if_neg (by omega),if_pos rfl,if_neg (by simp [h3])]
theorem zEp (s:List Blk) (r l:Int) (ks:List Int) (h1:0<r) (h2:r<=1000000) (h3:1<=l) (h4:l<=3) (h5:ks.length=4) (h6:ks.all (kidOk s l)=true) (h7:ks.all (fun k=>decide (k=0))=false):formE s r l ks []=0:=by
 unfold formE
 rw [if_neg (by omega),if_neg (by omega),if_neg (by omega),if_neg (by simp [h5]),if_neg (by simp only [h6];simp),if_neg (by simp only [h7];simp)]
theorem zEo {s:List Blk} {j:Nat} (h:j<s.length) {v:Int} (hv:v∈s[j].kids):0<(kidsOf s).count v:=
 List.count_pos_iff.2 (List.mem_flatMap.2 ⟨s[j],zMr h,hv⟩)
theorem zLv (s s':List Blk) (hc:checkE s=0) (hs:Sub s s') (ho:∀ j,j<s.length->0<=outA s' j):checkE s'=0:=by
 obtain ⟨h4,hf,_,_,_⟩:=zAg s hc
 have hl:=hs.len
 refine zHg s' (by omega) (fun x hx=>?_) (fun j hj=>ho j (by omega))
 obtain ⟨j,hj,rfl⟩:=zMR hx
 have hjs:j<s.length:=by omega
 rcases hs.each j hjs hj with h1 | ⟨h1,h2,h3⟩
 . rw [h1];simp [formB,formE,noBlk]
 have hk:s'[j].kids=s[j].kids:=by rw [h3]
 have hlv:s'[j].level=s[j].level:=by rw [h3]
 have hby:s'[j].bytes=s[j].bytes:=by rw [h3]
 unfold formB
 rcases zAY s s[j] (zBa s s hf _ (zMr hjs)) with ⟨e1,_⟩ | ⟨_,e2,e3,e4,e5⟩ | ⟨_,e2,e3,e4,e5,e6,e7,e8⟩
 . omega
 . rw [hk,hlv,hby,e3,e4]
   exact zEl _ _ _ h1 (by omega) e5
 . rw [hk,hlv,hby,e6]
   refine zEp _ _ _ _ h1 (by omega) e3 e4 e5 ?_ e8
   rw [zNF]
   intro v hv
   have hv0:=zNF.1 e7 v hv
   unfold kidOk at hv0 ⊢
   simp only [zNk,decide_eq_true_eq,zMW] at hv0 ⊢
   rcases hv0 with h0 | ⟨g1,g2⟩
   . exact .inl h0
   . refine .inr ?_
     obtain ⟨i,hi,rfl,_⟩:=zAt g1
     have hi':i<s'.length:=by omega
     have hcnt:=zEo hj (v:=(i:Int)+1) (by rw [hk];exact hv)
     have hoi:=ho i hi
     unfold outA at hoi
     rw [zAk s' i hi'] at hoi
     rw [zAF s' i hi',zAk s' i hi']
     rw [zAk s i hi] at g2
     have hr:0<s'[i].refs:=by omega
     rcases hs.each i hi hi' with q1 | ⟨_,_,q3⟩
     . rw [q1] at hr;simp [noBlk] at hr
     . refine ⟨by simpa using hr,?_⟩
       rw [q3];exact g2
def zLY (s:List Blk) (a:Int):Prop:=∀ j,j<s.length->(([a].count ((j:Int)+1):Nat):Int)<=outA s j
def reachF:Nat->List Blk->Int->List Int
 | 0,_,_=>[]
 | f+1,s,a=>if a=0 then [] else a::(blk s a).kids.flatMap (reachF f s)
def allF (s:List Blk) (roots:List Int):List Int:=roots.flatMap (reachF 4 s)
def addrs (s:List Blk):List Int:=(List.range s.length).map fun (i:Nat)=>(i:Int)+1
def reachL (s:List Blk) (roots:List Int):List Int:=(addrs s).filter fun x=>decide (x∈allF s roots)
def rootsOk (s:List Blk) (roots:List Int):Bool:=roots.all fun a=>decide (a=0)||zAi s a
def reachR (s:List Blk) (roots:List Int):List Int×Int:=
 if checkE s≠0 then ([],checkE s) else if rootsOk s roots=false then ([],5) else (reachL s roots,0)
structure Tiers (s:List Blk):Prop where
 kid:∀ a,zAi s a=true->∀ k∈(blk s a).kids,k=0\/(zAi s k=true/\(blk s k).level=(blk s a).level - 1)
 lev:∀ a,zAi s a=true->0<=(blk s a).level/\(blk s a).level<=3
 leaf:∀ a,zAi s a=true->(blk s a).level=0->(blk s a).kids=[]
theorem zDz (s:List Blk) (h:zAI s s=0):Tiers s:=by
 have key:∀ a,zAi s a=true->formB s (blk s a)=0/\0<(blk s a).refs:=by
  intro a ha
  obtain ⟨k,hk,rfl,hr⟩:=zAt ha
  rw [zAk s k hk]
  rw [zMt hk] at hr
  exact ⟨zBa s s h _ (zMr hk),hr⟩
 refine ⟨fun a ha k hk=>?_,fun a ha=>?_,fun a ha hl=>?_⟩<;>obtain ⟨h1,h2⟩:=key a ha<;>rcases zAY s _ h1 with ⟨e,_⟩ | ⟨_,_,e1,e2,_⟩ | ⟨_,_,e1,e2,e3,e4,e5,_⟩
 . omega
 . rw [e2] at hk;cases hk
 . have:=zNF.1 e5 k hk
   unfold kidOk at this
   simpa using this
 . omega
 . omega
 . omega
 . omega
 . exact e2
 . omega
theorem zFQ {α β:Type} (l:List α) (f g:α->List β) (h:∀ x∈l,f x=g x):l.flatMap f=l.flatMap g:=by
 induction l with
 | nil=>rfl
 | cons x l ih=>rw [zM0,zM0,h x (by simp),ih fun y hy=>h y (by simp [hy])]
theorem zKd {s:List Blk} (h:Tiers s):∀ (f:Nat) (a:Int),zAi s a=true->(blk s a).level<f->∀ g:Nat,(blk s a).level<g->reachF f s a=reachF g s a:=by
 intro f
 induction f with
 | zero=>intro a ha hf;have:=(h.lev a ha).1;omega
 | succ f ih=>
  intro a ha hf g hg
  cases g with
  | zero=>have:=(h.lev a ha).1;omega
  | succ g=>
   unfold reachF
   split
   . rfl
   . congr 1
     have hm:∀ k∈(blk s a).kids,reachF f s k=reachF g s k:=by
      intro k hk
      rcases h.kid a ha k hk with h0 | ⟨h1,h2⟩
      . subst h0
        cases f<;>cases g<;>simp [reachF]
      . exact ih k h1 (by omega) g (by omega)
     exact zFQ _ _ _ hm
theorem zGf {s:List Blk} {a:Int} (h:zAi s a=true):a≠0:=by
 intro e;subst e;rw [zFd s 0 (by omega)] at h;cases h
theorem zCk {s:List Blk} (h:Tiers s) (a:Int) (ha:zAi s a=true) (x:Int):x∈reachF 4 s a↔x=a\/∃ k∈(blk s a).kids,x∈reachF 4 s k:=by
 have hl:=h.lev a ha
 conv=>lhs;unfold reachF
 rw [if_neg (zGf ha),zNP,List.mem_flatMap]
 refine or_congr Iff.rfl (exists_congr fun k=>?_)
 refine and_congr_right fun hk=>?_
 rcases h.kid a ha k hk with h0 | ⟨h1,h2⟩
 . subst h0;simp [reachF]
 . rw [zKd h 3 k h1 (by omega) 4 (by omega)]
theorem zBn (s:List Blk) (f:Nat):reachF f s 0=[]:=by cases f<;>simp [reachF]
theorem zEb {s:List Blk} (h:Tiers s) {a:Int} (ha:zAi s a=true):a∈reachF 4 s a:=(zCk h a ha a).2 (.inl rfl)
theorem zJw {s:List Blk} (h:Tiers s) (P:Int->Prop) (hp:∀ a,zAi s a=true->(∀ k∈(blk s a).kids,zAi s k=true->P k)->P a):∀ a,zAi s a=true->P a:=by
 have key:∀ (n:Nat) (a:Int),zAi s a=true->(blk s a).level<n->P a:=by
  intro n
  induction n with
  | zero=>intro a ha hl;have:=(h.lev a ha).1;omega
  | succ n ih=>
   intro a ha hl
   refine hp a ha fun k hk hkt=>?_
   rcases h.kid a ha k hk with h0 | ⟨h1,h2⟩
   . exact absurd h0 (zGf hkt)
   . exact ih k h1 (by omega)
 intro a ha
 have:=h.lev a ha
 exact key 4 a ha (by omega)
theorem zDp {s:List Blk} (h:Tiers s) (a:Int) (ha:zAi s a=true):∀ x∈reachF 4 s a,zAi s x=true:=by
 refine zJw h (fun a=>∀ x∈reachF 4 s a,zAi s x=true) (fun a ha ih x hx=>?_) a ha
 rcases (zCk h a ha x).1 hx with h1 | ⟨k,hk,hx⟩
 . rw [h1];exact ha
 . rcases h.kid a ha k hk with h0 | ⟨h1,_⟩
   . rw [h0,zBn] at hx;cases hx
   . exact ih k hk h1 x hx
theorem zCH {s:List Blk} (h:Tiers s) (a:Int) (ha:zAi s a=true):∀ x∈reachF 4 s a,∀ y∈reachF 4 s x,y∈reachF 4 s a:=by
 refine zJw h (fun a=>∀ x∈reachF 4 s a,∀ y∈reachF 4 s x,y∈reachF 4 s a) (fun a ha ih x hx y hy=>?_) a ha
 rcases (zCk h a ha x).1 hx with h1 | ⟨k,hk,hx⟩
 . rw [<- h1];exact hy
 . rcases h.kid a ha k hk with h0 | ⟨h1,_⟩
   . rw [h0,zBn] at hx;cases hx
   . exact (zCk h a ha y).2 (.inr ⟨k,hk,ih k hk h1 x hx y hy⟩)
theorem zG2 {s:List Blk} (h:Tiers s) {a:Int} (ha:zAi s a=true) {k:Int} (hk:k∈(blk s a).kids) (hkt:zAi s k=true):k∈reachF 4 s a:=(zCk h a ha k).2 (.inr ⟨k,hk,zEb h hkt⟩)
def Clos (s:List Blk) (f:Int) (S:List Int):Prop:=∀ x∈S,zAi s x=true/\((blk s x).level<f->∀ y∈reachF 4 s x,y∈S)
theorem Clos.lower {s:List Blk} {f g:Int} {S:List Int} (h:Clos s f S) (hg:g<=f):Clos s g S:=fun x hx=>⟨(h x hx).1,fun hl=>(h x hx).2 (by omega)⟩
theorem Clos.add {s:List Blk} {f:Int} {S:List Int} (h:Clos s (f+1) S) {a:Int} (ha:zAi s a=true) (hl:(blk s a).level=f):Clos s f (S++[a]):=by
 intro x hx
 rcases zNo.1 hx with h1 | h1
 . exact ⟨(h x h1).1,fun hx=>fun y hy=>zNo.2 (.inl ((h x h1).2 (by omega) y hy))⟩
 . simp at h1;subst h1;exact ⟨ha,fun hx=>by omega⟩
def Seen (s:List Blk) (S:List Int) (a:Int) (S':List Int):Prop:=∀ x,x∈S'↔x∈S\/x∈reachF 4 s a
theorem Seen.clos {s:List Blk} (ht:Tiers s) {f:Int} {S S':List Int} {a:Int} (h:Seen s S a S') (hc:Clos s f S) (ha:a=0\/zAi s a=true):Clos s f S':=by
 intro x hx
 rcases (h x).1 hx with h1 | h1
 . exact ⟨(hc x h1).1,fun hl y hy=>(h y).2 (.inl ((hc x h1).2 hl y hy))⟩
 . rcases ha with h0 | h0
   . rw [h0,zBn] at h1;cases h1
   . exact ⟨zDp ht a h0 x h1,fun _ y hy=>(h y).2 (.inr (zCH ht a h0 x h1 y hy))⟩
theorem Seen.old {s:List Blk} {f:Int} {S:List Int} {a:Int} (hc:Clos s f S) (ha:a∈S) (hl:(blk s a).level<f):Seen s S a S:=fun x=>⟨.inl,fun h=>h.elim id fun h=>(hc a ha).2 hl x h⟩
theorem zG1:∀ (n:Nat) (S:List Int),S.Nodup->(∀ x∈S,1<=x/\x<=n)->S.length<=n:=by
 intro n
 induction n with
 | zero=>
  intro S _ h
  cases S with
  | nil=>simp
  | cons x S=>have:=h x (by simp);omega
 | succ n ih=>
  intro S hn h
  have h1:=ih (S.erase ((n:Int)+1)) (hn.erase _) (fun x hx=>by
   have:=(hn.mem_erase_iff).1 hx
   have h2:=h x this.2
   omega)
  have h3:=List.le_length_erase (a:=((n:Int)+1)) (l:=S)
  omega
theorem seen_len {s:List Blk} {S:List Int} (hn:S.Nodup) (h:∀ x∈S,zAi s x=true):S.length<=s.length:=by
 refine zG1 _ S hn fun x hx=>?_
 obtain ⟨k,hk,rfl,_⟩:=zAt (h x hx)
 omega
def zDM (s:List Blk) (roots:List Int) (S:List Int):Prop:=∀ x,x∈S↔x∈allF s roots
theorem zHh (s:List Blk) (l:List Int) (a:Int) (x:Int):x∈allF s (l++[a])↔x∈allF s l\/x∈reachF 4 s a:=by simp [allF,zNv]
theorem zEu (s:List Blk) (l:List Int) (a:Int):rootsOk s (l++[a])=(rootsOk s l&&(decide (a=0)||zAi s a)):=by simp [rootsOk,zOq]
def zCr (s:List Blk) (S:List Int) (k:Nat):List Int:=((List.range k).map fun (i:Nat)=>(i:Int)+1).filter fun x=>decide (x∈S)
theorem zIm (s:List Blk) (S:List Int) (k:Nat):zCr s S (k+1)=zCr s S k++if (k:Int)+1∈S then [(k:Int)+1] else []:=by
 unfold zCr
 rw [zOe,zNV,List.filter_append]
 congr 1
 by_cases h:(k:Int)+1∈S<;>simp [h]
theorem zJW (s:List Blk) (S:List Int) (k:Nat):(zCr s S k).length<=k:=by
 unfold zCr
 refine zMN (List.length_filter_le _ _) (by simp)
theorem told_all (s:List Blk) (roots S:List Int) (h:zDM s roots S):zCr s S s.length=reachL s roots:=by
 unfold zCr reachL addrs
 congr 1
 funext x
 rw [decide_eq_decide]
 exact h x
theorem blk_in {s:List Blk} {a:Int} (h1:1<=a) (h2:a<=s.length):blk s a=s[(a - 1).toNat]'(by omega):=by
 unfold blk
 rw [zMt (by omega)];rfl
theorem zBT (s:List Blk) (a d:Int) (j:Nat) (h:j<s.length) (h':j<(addRef s a d).length) (h1:1<=a):(addRef s a d)[j]={ s[j] with refs:=s[j].refs+if a=(j:Int)+1 then d else 0 }:=by
 have e0:(addRef s a d)[j]=(s.set (a - 1).toNat { blk s a with refs:=(blk s a).refs+d })[j]'(by simpa using h):=rfl
 rw [e0,zMP]
 by_cases e:(a - 1).toNat=j
 . have ea:a=(j:Int)+1:=by omega
   rw [if_pos e,if_pos ea]
   subst ea
   rw [zAk s j h]
 . rw [if_neg e,if_neg (by omega)]
   simp
def Adr (s:List Blk) (ks:List Int):Prop:=∀ k∈ks,k=0\/(1<=k/\k<=s.length)
theorem Adr.len {s t:List Blk} {ks:List Int} (h:Adr s ks) (e:t.length=s.length):Adr t ks:=fun k hk=>by rw [e];exact h k hk
theorem zCh (s:List Blk) (k:Int) (ks:List Int):bump s (k::ks)=bump (if 0<k then addRef s k 1 else s) ks:=rfl
theorem zBS (ks:List Int):∀ (s:List Blk) (j:Nat) (h:j<s.length) (h':j<(bump s ks).length),Adr s ks->(bump s ks)[j]={ s[j] with refs:=s[j].refs+((ks.count ((j:Int)+1):Nat):Int) }:=by
 induction ks with
 | nil=>intro s j h h' _;simp [bump]
 | cons k ks ih=>
  intro s j h h' ha
  have hk:=ha k (zNJ ..)
  have ht:Adr s ks:=fun x hx=>ha x (zNq _ hx)
  by_cases h0:0<k
  . have e:bump s (k::ks)=bump (addRef s k 1) ks:=by rw [zCh,if_pos h0]
    have hl:(addRef s k 1).length=s.length:=zAK _ _ _
    have h2:=ih (addRef s k 1) j (by omega) (by rw [zAp];omega) (ht.len hl)
    have h3:(bump s (k::ks))[j]=(bump (addRef s k 1) ks)[j]'(by rw [zAp];omega):=by simp only [e]
    rw [h3,h2,zBT s k 1 j h (by omega) (by omega),zNU]
    simp only [Blk.mk.injEq,and_true]
    by_cases e2:k=(j:Int)+1
    . subst e2;simp;omega
    . have:(k==(j:Int)+1)=false:=by rw [beq_eq_false_iff_ne];exact e2
      rw [if_neg e2,this];simp
  . have e:bump s (k::ks)=bump s ks:=by rw [zCh,if_neg h0]
    have h2:=ih s j h (by rw [zAp];omega) ht
    have h3:(bump s (k::ks))[j]=(bump s ks)[j]'(by rw [zAp];omega):=by simp only [e]
    have:(k==(j:Int)+1)=false:=by rw [beq_eq_false_iff_ne];omega
    rw [h3,h2,zNU,this]
    simp
theorem zGr (s:List Blk) (a d:Int):kidsOf (addRef s a d)=kidsOf s:=by
 have h:(addRef s a d).map Blk.kids=s.map Blk.kids:=by
  refine zNd (by simp [addRef]) fun j h1 h2=>?_
  have hj:j<s.length:=by simpa using h2
  simp only [zM2,addRef,zMP]
  split
  . rename_i e
    subst e
    unfold blk
    rw [zMt hj];rfl
  . rfl
 unfold kidsOf
 rw [List.flatMap_def,List.flatMap_def,h]
theorem zEU (ks:List Int):∀ s:List Blk,kidsOf (bump s ks)=kidsOf s:=by
 induction ks with
 | nil=>intro s;rfl
 | cons k ks ih=>
  intro s
  rw [zCh,ih]
  split
  . exact zGr _ _ _
  . rfl
theorem zIR {s:List Blk} (hc:checkE s=0) (j:Nat) (hj:j<s.length):0<=outA s j:=by
 have hj':j<(outL s).length:=by rw [zA8];exact hj
 rw [<- zKY s j hj hj']
 exact (zAg s hc).2.2.2.2 _ (zMr hj')
def putM (s:List Blk) (l:Int) (ks bs:List Int) (f:Nat):List Blk:=bump (s.set f ⟨1,l,ks,bs⟩) ks
theorem zAy {s:List Blk} {k:Int} (h:zAi s k=true):1<=k/\k<=s.length/\0<(blk s k).refs:=by
 unfold zAi at h
 simpa using h
theorem zGx {s:List Blk} {k:Int} (h1:1<=k) (h2:k<=s.length) (h3:0<(blk s k).refs):zAi s k=true:=by
 unfold zAi
 simp [h1,h2,h3]
theorem zAq (s:List Blk) (l:Int) (ks bs:List Int) (f:Nat):(putM s l ks bs f).length=s.length:=by simp [putM,zAp]
theorem keep_out (s:List Blk) (k:Nat) (hk:k<s.length) (j:Nat):outA (addRef s ((k:Int)+1) 1) j=outA s j+if j=k then 1 else 0:=by
 rw [zBN s k hk,zGB s k hk]
 simp only
 split<;>omega
def selTo (p:Nat->Bool) (k:Nat):List Int:=((List.range k).filter p).map fun (i:Nat)=>(i:Int)+1
theorem zDL (p:Nat->Bool) (k:Nat) (x:Int):x∈selTo p k↔∃ i,i<k/\p i=true/\x=(i:Int)+1:=by
 unfold selTo
 simp only [List.mem_map,zOr,List.mem_range]
 exact ⟨fun ⟨i,⟨h1,h2⟩,h3⟩=>⟨i,h1,h2,h3.symm⟩,fun ⟨i,h1,h2,h3⟩=>⟨i,⟨h1,h2⟩,h3.symm⟩⟩
theorem zKa (s:List Blk) (roots:List Int):reachL s roots=selTo (fun i=>decide ((i:Int)+1∈allF s roots)) s.length:=by
 unfold reachL addrs selTo
 rw [List.filter_map]
 rfl
theorem zGX {s:List Blk} (h:checkE s=0):Tiers s:=zDz s (zAg s h).2.1
theorem zFU {s:List Blk} (hc:checkE s=0) (i:Nat) (hi:i<s.length) (h:0<outA s i):zAi s ((i:Int)+1)=true:=by
 rw [zAF s i hi]
 unfold outA at h
 rw [zAk s i hi] at h
 simp only [decide_eq_true_eq]
 omega
def heldL (s:List Blk):List Int:=selTo (fun i=>decide (0<outA s i)) s.length
theorem held_all {s:List Blk} (hc:checkE s=0) (j:Nat) (hj:j<s.length) (hr:0<s[j].refs):(j:Int)+1∈allF s (heldL s):=by
 have ht:=zGX hc
 have hf:=(zAg s hc).2.1
 have key:∀ (n:Nat) (j:Nat) (hj:j<s.length),0<s[j].refs->(3:Int) - n<s[j].level->(j:Int)+1∈allF s (heldL s):=by
  intro n
  induction n with
  | zero=>
   intro j hj hr hl
   have:=(lv_of s hf).2 _ (zMr hj)
   omega
  | succ n ih=>
   intro j hj hr hl
   have hth:zAi s ((j:Int)+1)=true:=by rw [zAF s j hj];simpa using hr
   by_cases ho:0<outA s j
   . refine List.mem_flatMap.2 ⟨_,(zDL _ _ _).2 ⟨j,hj,by simpa using ho,rfl⟩,zEb ht hth⟩
   . have h0:=ho
     unfold outA at h0
     rw [zAk s j hj] at h0
     have hcn:0<(kidsOf s).count ((j:Int)+1):=by omega
     obtain ⟨x,hx,hv⟩:=List.mem_flatMap.1 (List.count_pos_iff.1 hcn)
     obtain ⟨i,hi,rfl⟩:=zMR hx
     have hri:0<s[i].refs:=by
      rcases zAY s s[i] (zBa s s hf _ (zMr hi)) with ⟨_,_,e,_⟩ | ⟨_,_,_,e,_⟩ | ⟨e1,_⟩
      . rw [e] at hv;cases hv
      . rw [e] at hv;cases hv
      . exact e1
     have hti:zAi s ((i:Int)+1)=true:=by rw [zAF s i hi];simpa using hri
     have hv':(j:Int)+1∈(blk s ((i:Int)+1)).kids:=by rw [zAk s i hi];exact hv
     rcases ht.kid _ hti _ hv' with e | ⟨_,e⟩
     . omega
     . rw [zAk s i hi,zAk s j hj] at e
       have hm:=ih i hi hri (by omega)
       obtain ⟨r,hr1,hr2⟩:=List.mem_flatMap.1 hm
       refine List.mem_flatMap.2 ⟨r,hr1,?_⟩
       have hrt:zAi s r=true:=by
        obtain ⟨q,hq,hp,rfl⟩:=(zDL _ _ _).1 hr1
        exact zFU hc q hq (by simpa using hp)
       exact zCH ht r hrt _ hr2 _ (zG2 ht hti hv' hth)
 exact key 4 j hj hr (by have:=((lv_of s hf).1 _ (zMr hj)).1;omega)
theorem zKn {s:List Blk} {roots:List Int} (h:rootsOk s roots=true) {a:Int} (ha:a∈roots):a=0\/zAi s a=true:=by
 have:=zNF.1 h a ha
 simpa using this
theorem zD5 {s:List Blk} (hc:checkE s=0) {roots:List Int} (h:rootsOk s roots=true) {x:Int} (hx:x∈allF s roots):zAi s x=true:=by
 obtain ⟨r,hr,hx⟩:=List.mem_flatMap.1 hx
 rcases zKn h hr with h0 | h0
 . rw [h0,zBn] at hx;cases hx
 . exact zDp (zGX hc) r h0 x hx
theorem zCm {s:List Blk} (hc:checkE s=0) {roots:List Int} (h:rootsOk s roots=true) (x:Int):x∈reachL s roots↔x∈allF s roots:=by
 rw [zKa,zDL]
 constructor
 . rintro ⟨i,_,h1,rfl⟩;simpa using h1
 . intro hx
   obtain ⟨k,hk,rfl,_⟩:=zAt (zD5 hc h hx)
   exact ⟨k,hk,by simpa using hx,rfl⟩
end Go.Proofs.YtfmgdjgedhnmeaaGreat
