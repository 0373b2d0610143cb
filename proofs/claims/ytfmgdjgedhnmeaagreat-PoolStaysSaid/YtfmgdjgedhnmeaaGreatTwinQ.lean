/- Two stores that are alike in a part: what is done there keeps them so. No program in sight. · Two stores that are alike in a part: leaves, a turn of a file. No program in sight. · Two stores that are alike in a part: what is asked of a set there. No program in sight. · There is room for a turn where few blocks are used. No program in sight. · Two stores that are alike in a part: what is right, and what is reached, there. No program in sight. -/
import Derived.Test.YtfmgdjgedhnmeaaGreatTurnF
import Derived.Test.YtfmgdjgedhnmeaaGreatFileOver
import Derived.Test.YtfmgdjgedhnmeaaGreatHold
import Derived.Test.YtfmgdjgedhnmeaaGreatPoolP
namespace Go.Proofs.YtfmgdjgedhnmeaaGreat
open Go.RowKit
set_option linter.unusedVariables false
set_option linter.unusedSimpArgs false
section
variable {α β:Type}
def Rel (R:α->β->Prop):List α->List β->Prop
 | [],[]=>True
 | a::l,b::l'=>R a b/\Rel R l l'
 | [],_::_=>False
 | _::_,[]=>False
variable {R S:α->β->Prop}
theorem Rel.len:∀ {l:List α} {l':List β},Rel R l l'->l.length=l'.length
 | [],[],_=>rfl
 | _::l,_::l',h=>by simp [Rel.len (l:=l) (l':=l') h.2]
 | [],_::_,h=>h.elim
 | _::_,[],h=>h.elim
theorem Rel.mono':∀ {l:List α} {l':List β},Rel R l l'->(∀ a∈l,∀ b,R a b->S a b)->Rel S l l'
 | [],[],_,_=>trivial
 | a::l,b::l',h,hRS=>⟨hRS a (by simp) b h.1,Rel.mono' h.2 fun x hx=>hRS x (by simp [hx])⟩
 | [],_::_,h,_=>h.elim
 | _::_,[],h,_=>h.elim
theorem Rel.get:∀ {l:List α} {l':List β},Rel R l l'->∀ i (h:i<l.length) (h':i<l'.length),R l[i] l'[i]
 | [],[],_,i,h,_=>absurd h (by simp)
 | _::_,_::_,hR,0,_,_=>hR.1
 | _::l,_::l',hR,i+1,h,h'=>Rel.get hR.2 i (by simpa using h) (by simpa using h')
 | [],_::_,h,_,_,_=>h.elim
 | _::_,[],h,_,_,_=>h.elim
theorem Rel.mk:∀ {l:List α} {l':List β},l.length=l'.length->(∀ i (h:i<l.length) (h':i<l'.length),R l[i] l'[i])->Rel R l l'
 | [],[],_,_=>trivial
 | a::l,b::l',hl,h=>⟨h 0 (by simp) (by simp),Rel.mk (by simpa using hl) fun i h1 h2=>h (i+1) (by simpa using h1) (by simpa using h2)⟩
 | [],_::_,hl,_=>by simp at hl
 | _::_,[],hl,_=>by simp at hl
theorem Rel.app {l m:List α} {l' m':List β} (h:Rel R l l') (k:Rel R m m'):Rel R (l++m) (l'++m'):=by
 refine Rel.mk (by simp [h.len,k.len]) fun i h1 h2=>?_
 have e:=h.len
 by_cases hi:i<l.length
 . rw [zMY hi,zMY (by omega)]
   exact h.get i hi (by omega)
 . have hl1:=h1
   have hl2:=h2
   rw [zMG] at hl1 hl2
   rw [zMX (by omega),zMX (by omega)]
   have:=k.get (i - l.length) (by omega) (by omega)
   simpa [e] using this
theorem Rel.set {l:List α} {l':List β} (h:Rel R l l') (k:Nat) {a:α} {b:β} (hab:R a b):Rel R (l.set k a) (l'.set k b):=by
 refine Rel.mk (by simp [h.len]) fun i h1 h2=>?_
 rw [zMP,zMP]
 split
 . exact hab
 . exact h.get i (by simpa using h1) (by simpa using h2)
theorem Rel.take {l:List α} {l':List β} (h:Rel R l l') (k:Nat):Rel R (l.take k) (l'.take k):=by
 refine Rel.mk (by simp [h.len]) fun i h1 h2=>?_
 rw [zNO,zNO]
 exact h.get i _ _
theorem Rel.drop {l:List α} {l':List β} (h:Rel R l l') (k:Nat):Rel R (l.drop k) (l'.drop k):=by
 refine Rel.mk (by simp [h.len]) fun i h1 h2=>?_
 rw [zOj,zOj]
 exact h.get _ _ _
theorem Rel.erase {l:List α} {l':List β} (h:Rel R l l') (k:Nat):Rel R (l.eraseIdx k) (l'.eraseIdx k):=by
 rw [zM1,zM1]
 exact (h.take k).app (h.drop (k+1))
theorem Rel.left {l:List α} {l':List β} (h:Rel R l l'):∀ a∈l,∃ b∈l',R a b:=fun a ha=>by
 obtain ⟨i,hi,rfl⟩:=List.mem_iff_getElem.1 ha
 have hi':i<l'.length:=by rw [<- h.len];exact hi
 exact ⟨l'[i],zMr hi',h.get i hi hi'⟩
theorem Rel.right {l:List α} {l':List β} (h:Rel R l l'):∀ b∈l',∃ a∈l,R a b:=fun b hb=>by
 obtain ⟨i,hi,rfl⟩:=List.mem_iff_getElem.1 hb
 have hi':i<l.length:=by rw [h.len];exact hi
 exact ⟨l[i],zMr hi',h.get i hi' hi⟩
theorem Rel.map {γ δ:Type} {T:γ->δ->Prop} {f:α->γ} {g:β->δ} (hf:∀ a b,R a b->T (f a) (g b)):∀ {l:List α} {l':List β},Rel R l l'->Rel T (l.map f) (l'.map g)
 | [],[],_=>trivial
 | _::_,_::_,h=>⟨hf _ _ h.1,Rel.map hf h.2⟩
 | [],_::_,h=>h.elim
 | _::_,[],h=>h.elim
theorem Rel.flat {γ δ:Type} {T:γ->δ->Prop} {f:α->List γ} {g:β->List δ} (hf:∀ a b,R a b->Rel T (f a) (g b)):∀ {l:List α} {l':List β},Rel R l l'->Rel T (l.flatMap f) (l'.flatMap g)
 | [],[],_=>trivial
 | _::_,_::_,h=>by
  rw [zM0,zM0]
  exact (hf _ _ h.1).app (Rel.flat hf h.2)
 | [],_::_,h=>h.elim
 | _::_,[],h=>h.elim
theorem Rel.eq_map {γ:Type} {f:α->γ} {g:β->γ} (hf:∀ a b,R a b->f a=g b):∀ {l:List α} {l':List β},Rel R l l'->l.map f=l'.map g
 | [],[],_=>rfl
 | _::_,_::_,h=>by rw [zNw,zNw,hf _ _ h.1,Rel.eq_map hf h.2]
 | [],_::_,h=>h.elim
 | _::_,[],h=>h.elim
theorem Rel.opt {l:List α} {l':List β} (h:Rel R l l') {a:α} {b:β} (hab:R a b) (i:Nat):R (l[i]?.getD a) (l'[i]?.getD b):=by
 by_cases hi:i<l.length
 . have hi':i<l'.length:=by rw [<- h.len];exact hi
   rw [zMt hi,zMt hi']
   exact h.get i hi hi'
 . rw [zNt (by omega),zNt (by rw [<- h.len];omega)]
   exact hab
end
def E0 (E:Int->Int->Prop) (k k':Int):Prop:=(k=0/\k'=0)\/E k k'
structure Tw (s s':List Blk) (E:Int->Int->Prop):Prop where
 rng:∀ a a',E a a'->1<=a/\a<=s.length/\1<=a'/\a'<=s'.length
 refs:∀ a a',E a a'->(blk s' a').refs=(blk s a).refs
 level:∀ a a',E a a'->(blk s' a').level=(blk s a).level
 bytes:∀ a a',E a a'->(blk s' a').bytes=(blk s a).bytes
 kids:∀ a a',E a a'->Rel (E0 E) (blk s a).kids (blk s' a').kids
 fn:∀ a b c,E a b->E a c->b=c
 inj:∀ a b c,E a c->E b c->a=b
theorem Tw.zero {s s':List Blk} {E:Int->Int->Prop} (h:Tw s s' E) {a a':Int} (hE:E0 E a a'):a=0↔a'=0:=by
 rcases hE with ⟨rfl,rfl⟩ | hE
 . simp
 . have:=h.rng _ _ hE
   omega
theorem Tw.there {s s':List Blk} {E:Int->Int->Prop} (h:Tw s s' E) {a a':Int} (hE:E a a'):zAi s' a'=zAi s a:=by
 have h1:=h.rng _ _ hE
 have h2:=h.refs _ _ hE
 unfold zAi
 rw [h2,decide_eq_true h1.1,decide_eq_true h1.2.1,decide_eq_true h1.2.2.1,decide_eq_true h1.2.2.2]
theorem blk_put {s:List Blk} {a:Int} (x:Blk) (h1:1<=a) (h2:a<=s.length) (b:Int):blk (s.set (a - 1).toNat x) b=if b=a then x else if 1<=b then blk s b else blk (s.set (a - 1).toNat x) b:=by
 by_cases hb:b=a
 . subst hb
   rw [if_pos rfl,zCI,if_pos ⟨rfl,by omega⟩]
 . rw [if_neg hb]
   split
   . rw [zCI,if_neg (by omega)]
   . rfl
theorem zGD {s:List Blk} {a:Int} (x:Blk) (h1:1<=a) (h2:a<=s.length):blk (s.set (a - 1).toNat x) a=x:=by rw [blk_put x h1 h2,if_pos rfl]
theorem zDX {s:List Blk} {a b:Int} (x:Blk) (h1:1<=a) (hb:1<=b) (hn:b≠a):blk (s.set (a - 1).toNat x) b=blk s b:=by
 rw [zCI,if_neg (by omega)]
theorem Tw.put {s s':List Blk} {E:Int->Int->Prop} (h:Tw s s' E) {a a':Int} (hE:E a a') {x x':Blk} (h1:x'.refs=x.refs) (h2:x'.level=x.level) (h3:x'.bytes=x.bytes) (h4:Rel (E0 E) x.kids x'.kids) :
 Tw (s.set (a - 1).toNat x) (s'.set (a' - 1).toNat x') E:=by
 obtain ⟨r1,r2,r3,r4⟩:=h.rng _ _ hE
 have key:∀ b b',E b b'->(b=a/\b'=a'/\blk (s.set (a - 1).toNat x) b=x/\blk (s'.set (a' - 1).toNat x') b'=x')\/(blk (s.set (a - 1).toNat x) b=blk s b/\blk (s'.set (a' - 1).toNat x') b'=blk s' b'):=by
  intro b b' hb
  obtain ⟨q1,q2,q3,q4⟩:=h.rng _ _ hb
  by_cases e:b=a
  . subst e
    obtain rfl:=h.fn _ _ _ hb hE
    exact .inl ⟨rfl,rfl,zGD x r1 r2,zGD x' r3 r4⟩
  . have e':b'≠a':=fun e'=>e (h.inj _ _ _ hb (e'▸hE))
    exact .inr ⟨zDX x r1 q1 e,zDX x' r3 q3 e'⟩
 refine ⟨fun b b' hb=>by simpa using h.rng b b' hb,fun b b' hb=>?_,fun b b' hb=>?_,fun b b' hb=>?_,fun b b' hb=>?_,h.fn,h.inj⟩
 all_goals
  rcases key b b' hb with ⟨rfl,rfl,e1,e2⟩ | ⟨e1,e2⟩
  all_goals rw [e1,e2]
 . exact h1
 . exact h.refs _ _ hb
 . exact h2
 . exact h.level _ _ hb
 . exact h3
 . exact h.bytes _ _ hb
 . exact h4
 . exact h.kids _ _ hb
theorem Tw.addRef {s s':List Blk} {E:Int->Int->Prop} (h:Tw s s' E) {a a':Int} (hE:E a a') (d:Int):Tw (addRef s a d) (addRef s' a' d) E:=by
 unfold Go.Proofs.YtfmgdjgedhnmeaaGreat.addRef
 exact h.put hE (by simp only;rw [h.refs _ _ hE]) (h.level _ _ hE) (h.bytes _ _ hE) (h.kids _ _ hE)
theorem zLy {α β:Type} {R:α->β->Prop}:Rel R [] []:=trivial
theorem Tw.loose {E:Int->Int->Prop}:∀ (f:Nat) (s s':List Blk) (a a':Int),Tw s s' E->E0 E a a'->Tw (zAj f s a) (zAj f s' a') E
 | 0,s,s',a,a',h,_=>h
 | f+1,s,s',a,a',h,hE=>by
  unfold zAj
  by_cases h0:a=0
  . rw [if_pos h0,if_pos ((h.zero hE).1 h0)]
    exact h
  . rw [if_neg h0,if_neg (fun e=>h0 ((h.zero hE).2 e))]
    rcases hE with ⟨e,_⟩ | hE
    . exact absurd e h0
    . rw [h.refs _ _ hE]
      split
      . exact h.addRef hE (-1)
      . have h1:Tw (s.set (a - 1).toNat noBlk) (s'.set (a' - 1).toNat noBlk) E:=h.put hE rfl rfl rfl zLy
        have key:∀ (l l':List Int) (u u':List Blk),Tw u u' E->Rel (E0 E) l l'->Tw (l.foldl (zAj f) u) (l'.foldl (zAj f) u') E:=by
         intro l
         induction l with
         | nil=>
          intro l' u u' hu hl
          cases l' with
          | nil=>exact hu
          | cons _ _=>exact hl.elim
         | cons k l ih=>
          intro l' u u' hu hl
          cases l' with
          | nil=>exact hl.elim
          | cons k' l'=>
           rw [zNa,zNa]
           exact ih l' _ _ (Tw.loose f _ _ _ _ hu hl.1) hl.2
        exact key _ _ _ _ h1 (h.kids _ _ hE)
theorem Tw.less {E:Int->Int->Prop}:∀ (l l':List Int) (s s':List Blk),Tw s s' E->Rel (E0 E) l l'->Tw (l.foldl (zAj 4) s) (l'.foldl (zAj 4) s') E:=by
 intro l
 induction l with
 | nil=>
  intro l' u u' hu hl
  cases l' with
  | nil=>exact hu
  | cons _ _=>exact hl.elim
 | cons k l ih=>
  intro l' u u' hu hl
  cases l' with
  | nil=>exact hl.elim
  | cons k' l'=>
   rw [zNa,zNa]
   exact ih l' _ _ (Tw.loose 4 _ _ _ _ hu hl.1) hl.2
theorem Tw.bump {E:Int->Int->Prop}:∀ (l l':List Int) (s s':List Blk),Tw s s' E->Rel (E0 E) l l'->Tw (bump s l) (bump s' l') E:=by
 intro l
 induction l with
 | nil=>
  intro l' u u' hu hl
  cases l' with
  | nil=>exact hu
  | cons _ _=>exact hl.elim
 | cons k l ih=>
  intro l' u u' hu hl
  cases l' with
  | nil=>exact hl.elim
  | cons k' l'=>
   rw [zCh,zCh]
   rcases hl.1 with ⟨rfl,rfl⟩ | hE
   . rw [if_neg (by decide),if_neg (by decide)]
     exact ih l' _ _ hu hl.2
   . obtain ⟨r1,r2,r3,r4⟩:=hu.rng _ _ hE
     rw [if_pos (by omega),if_pos (by omega)]
     exact ih l' _ _ (hu.addRef hE 1) hl.2
structure Fr (s:List Blk) (D:Int->Prop) (t:List Blk) (D':Int->Prop):Prop where
 len:t.length=s.length
 old:∀ a,D' a->D a\/zAi s a=false
 keep:∀ a,zAi s a=true->¬ D a->blk t a=blk s a
 all:∀ a,zAi t a=true->D' a\/(zAi s a=true/\¬ D a)
theorem zFD {s t:List Blk} (hl:t.length=s.length) {a:Int} (h:blk t a=blk s a):zAi t a=zAi s a:=by unfold zAi;rw [h,hl]
theorem Fr.refl (s:List Blk) (D:Int->Prop):Fr s D s D:=⟨rfl,fun _ h=>.inl h,fun _ _ _=>rfl,fun a h=>(Classical.em (D a)).imp id fun hn=>⟨h,hn⟩⟩
theorem Fr.trans {s t u:List Blk} {D D' D'':Int->Prop} (h:Fr s D t D') (k:Fr t D' u D''):Fr s D u D'':=by
 refine ⟨k.len.trans h.len,fun a ha=>?_,fun a h1 h2=>?_,fun a ha=>?_⟩
 . rcases k.old a ha with h1 | h1
   . exact h.old a h1
   . by_cases hs:zAi s a=true
     . by_cases hD:D a
       . exact .inl hD
       . rw [zFD h.len (h.keep a hs hD),hs] at h1
         cases h1
     . exact .inr (by simpa using hs)
 . have e:=h.keep a h1 h2
   have h3:¬ D' a:=fun hd=>by
    rcases h.old a hd with h4 | h4
    . exact h2 h4
    . rw [h1] at h4;cases h4
   rw [k.keep a (by rw [zFD h.len e,h1]) h3,e]
 . rcases k.all a ha with h1 | ⟨h1,h2⟩
   . exact .inl h1
   . rcases h.all a h1 with h3 | h3
     . exact absurd h3 h2
     . exact .inr h3
def Off (s:List Blk) (D:Int->Prop) (t:List Blk):Prop:=t.length=s.length/\∀ a,1<=a->¬ D a->blk t a=blk s a
theorem Off.fr {s t:List Blk} {D:Int->Prop} (h:Off s D t):Fr s D t D:=by
 refine ⟨h.1,fun _ h=>.inl h,fun a h1 h2=>h.2 a (zAy h1).1 h2,fun a ha=>?_⟩
 by_cases hD:D a
 . exact .inl hD
 . exact .inr ⟨by rw [<- zFD h.1 (h.2 a (zAy ha).1 hD)];exact ha,hD⟩
theorem Off.refl (s:List Blk) (D:Int->Prop):Off s D s:=⟨rfl,fun _ _ _=>rfl⟩
theorem Off.trans {s t u:List Blk} {D:Int->Prop} (h:Off s D t) (k:Off t D u):Off s D u:=⟨k.1.trans h.1,fun a h1 h2=>(k.2 a h1 h2).trans (h.2 a h1 h2)⟩
theorem Off.put {s:List Blk} {D:Int->Prop} {a:Int} (h1:1<=a) (hD:D a) (x:Blk):Off s D (s.set (a - 1).toNat x):=⟨by simp,fun b hb hn=>zDX x h1 hb fun e=>hn (e▸hD)⟩
def Shut (s:List Blk) (D:Int->Prop):Prop:=∀ a,D a->1<=a/\a<=s.length/\∀ k∈(blk s a).kids,k=0\/D k
theorem Shut.put {s:List Blk} {D:Int->Prop} (h:Shut s D) {a:Int} (hD:D a) {x:Blk} (hx:∀ k∈x.kids,k=0\/D k):Shut (s.set (a - 1).toNat x) D:=fun b hb=>by
 obtain ⟨r1,r2,r3⟩:=h a hD
 obtain ⟨q1,q2,q3⟩:=h b hb
 refine ⟨q1,by simpa using q2,?_⟩
 by_cases e:b=a
 . subst e
   rw [zGD x q1 q2]
   exact hx
 . rw [zDX x r1 q1 e]
   exact q3
theorem Off.loose {D:Int->Prop}:∀ (f:Nat) (s:List Blk) (a:Int),Shut s D->(a=0\/D a)->Off s D (zAj f s a)/\Shut (zAj f s a) D
 | 0,s,a,h,_=>⟨Off.refl _ _,h⟩
 | f+1,s,a,h,hE=>by
  unfold zAj
  by_cases h0:a=0
  . rw [if_pos h0]
    exact ⟨Off.refl _ _,h⟩
  . rw [if_neg h0]
    rcases hE with e | hE
    . exact absurd e h0
    . obtain ⟨r1,r2,r3⟩:=h a hE
      split
      . exact ⟨Off.put r1 hE _,h.put hE r3⟩
      . have key:∀ (l:List Int) (u:List Blk),Shut u D->(∀ k∈l,k=0\/D k)->Off u D (l.foldl (zAj f) u)/\Shut (l.foldl (zAj f) u) D:=by
         intro l
         induction l with
         | nil=>intro u hu _;exact ⟨Off.refl _ _,hu⟩
         | cons k l ih=>
          intro u hu hl
          rw [zNa]
          obtain ⟨o1,o2⟩:=Off.loose f u k hu (hl k (by simp))
          obtain ⟨p1,p2⟩:=ih _ o2 fun x hx=>hl x (by simp [hx])
          exact ⟨o1.trans p1,p2⟩
        obtain ⟨o1,o2⟩:=key _ _ (h.put (x:=noBlk) hE (by intro k hk;cases hk)) r3
        exact ⟨(Off.put r1 hE _).trans o1,o2⟩
theorem Tw.shut {s s':List Blk} {E:Int->Int->Prop} (h:Tw s s' E):Shut s fun a=>∃ a',E a a':=fun a ⟨a',ha⟩=>by
 obtain ⟨r1,r2,r3,r4⟩:=h.rng _ _ ha
 refine ⟨r1,r2,fun k hk=>?_⟩
 obtain ⟨k',-,h1⟩:=(h.kids _ _ ha).left k hk
 exact h1.imp (fun e=>e.1) fun e=>⟨k',e⟩
theorem Tw.symm {s s':List Blk} {E:Int->Int->Prop} (h:Tw s s' E):Tw s' s fun a b=>E b a:=by
 refine ⟨fun a a' ha=>?_,fun a a' ha=>(h.refs _ _ ha).symm,fun a a' ha=>(h.level _ _ ha).symm,fun a a' ha=>(h.bytes _ _ ha).symm,fun a a' ha=>?_,fun a b c h1 h2=>h.inj _ _ _ h1 h2,fun a b c h1 h2=>h.fn _ _ _ h1 h2⟩
 . obtain ⟨r1,r2,r3,r4⟩:=h.rng _ _ ha
   exact ⟨r3,r4,r1,r2⟩
 . have:=h.kids _ _ ha
   refine Rel.mk this.len.symm fun i h1 h2=>(this.get i h2 h1).imp (fun e=>⟨e.2,e.1⟩) id
def domE (E:Int->Int->Prop) (a:Int):Prop:=∃ a',E a a'
def ranE (E:Int->Int->Prop) (a':Int):Prop:=∃ a,E a a'
structure Stp (s s':List Blk) (E:Int->Int->Prop) (t t':List Blk) (F:Int->Int->Prop):Prop where
 tw:Tw t t' F
 f1:Fr s (domE E) t (domE F)
 f2:Fr s' (ranE E) t' (ranE F)
theorem Stp.refl {s s':List Blk} {E:Int->Int->Prop} (h:Tw s s' E):Stp s s' E s s' E:=⟨h,Fr.refl _ _,Fr.refl _ _⟩
theorem Stp.trans {s s' t t' u u':List Blk} {E F G:Int->Int->Prop} (h:Stp s s' E t t' F) (k:Stp t t' F u u' G):Stp s s' E u u' G:=⟨k.tw,h.f1.trans k.f1,h.f2.trans k.f2⟩
theorem Tw.shut' {s s':List Blk} {E:Int->Int->Prop} (h:Tw s s' E):Shut s' (ranE E):=h.symm.shut
theorem E0.dom {E:Int->Int->Prop} {k k':Int} (h:E0 E k k'):k=0\/domE E k:=h.imp (fun e=>e.1) fun e=>⟨_,e⟩
theorem E0.ran {E:Int->Int->Prop} {k k':Int} (h:E0 E k k'):k'=0\/ranE E k':=h.imp (fun e=>e.2) fun e=>⟨_,e⟩
theorem Stp.loose {s s':List Blk} {E:Int->Int->Prop} (h:Tw s s' E) {a a':Int} (hE:E0 E a a'):Stp s s' E (zAj 4 s a) (zAj 4 s' a') E:=
 ⟨Tw.loose 4 _ _ _ _ h hE,(Off.loose 4 s a h.shut hE.dom).1.fr,(Off.loose 4 s' a' h.shut' hE.ran).1.fr⟩
theorem zIQ {D:Int->Prop}:∀ (l:List Int) (u:List Blk),Shut u D->(∀ k∈l,k=0\/D k)->Off u D (l.foldl (zAj 4) u)/\Shut (l.foldl (zAj 4) u) D:=by
 intro l
 induction l with
 | nil=>intro u hu _;exact ⟨Off.refl _ _,hu⟩
 | cons k l ih=>
  intro u hu hl
  rw [zNa]
  obtain ⟨o1,o2⟩:=Off.loose 4 u k hu (hl k (by simp))
  obtain ⟨p1,p2⟩:=ih _ o2 fun x hx=>hl x (by simp [hx])
  exact ⟨o1.trans p1,p2⟩
theorem zJm {D:Int->Prop}:∀ (l:List Int) (u:List Blk),Shut u D->(∀ k∈l,k=0\/D k)->Off u D (bump u l)/\Shut (bump u l) D:=by
 intro l
 induction l with
 | nil=>intro u hu _;exact ⟨Off.refl _ _,hu⟩
 | cons k l ih=>
  intro u hu hl
  rw [zCh]
  rcases hl k (by simp) with rfl | hk
  . rw [if_neg (by decide)]
    exact ih _ hu fun x hx=>hl x (by simp [hx])
  . obtain ⟨r1,r2,r3⟩:=hu k hk
    rw [if_pos (by omega)]
    have o1:Off u D (addRef u k 1):=Off.put r1 hk _
    have o2:Shut (addRef u k 1) D:=hu.put hk r3
    obtain ⟨p1,p2⟩:=ih _ o2 fun x hx=>hl x (by simp [hx])
    exact ⟨o1.trans p1,p2⟩
theorem zDm {E:Int->Int->Prop} {l l':List Int} (h:Rel (E0 E) l l'):(∀ k∈l,k=0\/domE E k)/\∀ k∈l',k=0\/ranE E k:=
 ⟨fun k hk=>by obtain ⟨k',-,h1⟩:=h.left k hk;exact h1.dom,fun k hk=>by obtain ⟨k',-,h1⟩:=h.right k hk;exact h1.ran⟩
theorem Stp.less {s s':List Blk} {E:Int->Int->Prop} (h:Tw s s' E) {l l':List Int} (hE:Rel (E0 E) l l'):Stp s s' E (l.foldl (zAj 4) s) (l'.foldl (zAj 4) s') E:=
 ⟨Tw.less _ _ _ _ h hE,(zIQ l s h.shut (zDm hE).1).1.fr,(zIQ l' s' h.shut' (zDm hE).2).1.fr⟩
theorem Stp.bump {s s':List Blk} {E:Int->Int->Prop} (h:Tw s s' E) {l l':List Int} (hE:Rel (E0 E) l l'):Stp s s' E (Go.Proofs.YtfmgdjgedhnmeaaGreat.bump s l) (Go.Proofs.YtfmgdjgedhnmeaaGreat.bump s' l') E:=
 ⟨Tw.bump _ _ _ _ h hE,(zJm l s h.shut (zDm hE).1).1.fr,(zJm l' s' h.shut' (zDm hE).2).1.fr⟩
theorem Stp.addRef {s s':List Blk} {E:Int->Int->Prop} (h:Tw s s' E) {a a':Int} (hE:E a a') (d:Int):Stp s s' E (Go.Proofs.YtfmgdjgedhnmeaaGreat.addRef s a d) (Go.Proofs.YtfmgdjgedhnmeaaGreat.addRef s' a' d) E:=by
 obtain ⟨r1,r2,r3,r4⟩:=h.rng _ _ hE
 exact ⟨h.addRef hE d,(Off.put r1 ⟨_,hE⟩ _).fr,(Off.put r3 ⟨_,hE⟩ _).fr⟩
theorem PutG.blk {s:List Blk} {l:Int} {ks bs:List Int} {f:Nat} (h:PutG s l ks bs f) {a:Int} (h1:1<=a) (h2:a<=s.length) :
 Go.Proofs.YtfmgdjgedhnmeaaGreat.blk (putM s l ks bs f) a=if a=(f:Int)+1 then ⟨1,l,ks,bs⟩ else { Go.Proofs.YtfmgdjgedhnmeaaGreat.blk s a with refs:=(Go.Proofs.YtfmgdjgedhnmeaaGreat.blk s a).refs+((ks.count a:Nat):Int) }:=by
 obtain ⟨j,rfl⟩:∃ j:Nat,a=j+1:=⟨(a - 1).toNat,by omega⟩
 have hj:j<s.length:=by omega
 have hj':j<(putM s l ks bs f).length:=by rw [zAq];exact hj
 rw [zAk _ j hj',zAk s j hj,h.get j hj hj']
 by_cases e:j=f
 . subst e
   rw [if_pos rfl,if_pos rfl]
 . rw [if_neg e,if_neg (by omega)]
theorem PutG.none' {s:List Blk} {l:Int} {ks bs:List Int} {f:Nat} (h:PutG s l ks bs f):zAi s ((f:Int)+1)=false:=by
 rw [zAF s f h.lt,h.free]
 simp [noBlk]
theorem Good.kidT {s:List Blk} {M:Int} (h:Good s M) {a:Int} (ha:zAi s a=true):∀ k∈(Go.Proofs.YtfmgdjgedhnmeaaGreat.blk s a).kids,k=0\/zAi s k=true:=by
 obtain ⟨j,hj,rfl,hr⟩:=zAt ha
 rw [zAk s j hj]
 rcases h.forms _ (zMr hj) with e | ⟨_,⟨_,e1,_⟩ | ⟨_,_,e3,_,e5,_⟩⟩
 . rw [e];intro k hk;cases hk
 . rw [e1];intro k hk;cases hk
 . intro k hk
   exact (zDE (zNF.1 e5 k hk)).imp id fun p=>p.1
theorem zGZ {E:Int->Int->Prop} {a a':Int} (ha:a≠0) (ha':a'≠0) (hE:E a a') (fn:∀ a b c,E a b->E a c->b=c) (inj:∀ a b c,E a c->E b c->a=b):∀ {l l':List Int},Rel (E0 E) l l'->l'.count a'=l.count a
 | [],[],_=>rfl
 | k::l,k'::l',h=>by
  rw [zNU,zNU,zGZ ha ha' hE fn inj h.2]
  have e:(k'==a')=(k==a):=by
   rw [zOt,beq_iff_eq,beq_iff_eq]
   rcases h.1 with ⟨rfl,rfl⟩ | h1
   . exact ⟨fun e=>absurd e.symm ha',fun e=>absurd e.symm ha⟩
   . exact ⟨fun e=>inj _ _ _ (e▸h1) hE,fun e=>fn _ _ _ (e▸h1) hE⟩
  rw [e]
 | [],_::_,h=>h.elim
 | _::_,[],h=>h.elim
theorem putFr {s:List Blk} {l:Int} {ks bs:List Int} {f:Nat} (h:PutG s l ks bs f) {D D':Int->Prop} (hks:∀ k∈ks,k=0\/D k) (hD:∀ a,D' a↔((D a/\zAi s a=true)\/a=(f:Int)+1)):Fr s D (putM s l ks bs f) D':=by
 refine ⟨zAq _ _ _ _ _,fun a ha=>?_,fun a h1 h2=>?_,fun a ha=>?_⟩
 . rcases (hD a).1 ha with h1 | rfl
   . exact .inl h1.1
   . exact .inr h.none'
 . obtain ⟨r1,r2,r3⟩:=zAy h1
   rw [h.blk r1 r2,if_neg (fun e=>by rw [e,h.none'] at h1;cases h1)]
   have hc:ks.count a=0:=by
    rw [List.count_eq_zero]
    intro hm
    rcases hks a hm with h0 | h0
    . omega
    . exact h2 h0
   rw [hc]
   simp
 . obtain ⟨r1,r2,r3⟩:=zAy ha
   rw [zAq] at r2
   by_cases e:a=(f:Int)+1
   . exact .inl ((hD a).2 (.inr e))
   . have hs:zAi s a=true:=by
      rw [h.blk r1 r2,if_neg e] at r3
      simp only at r3
      by_cases hz:0<(Go.Proofs.YtfmgdjgedhnmeaaGreat.blk s a).refs
      . exact zGx r1 r2 hz
      . obtain ⟨j,rfl⟩:∃ j:Nat,a=j+1:=⟨(a - 1).toNat,by omega⟩
        have hj:j<s.length:=by omega
        rw [zAk s j hj] at r3 hz
        rw [h.none j hj (by omega)] at r3
        omega
     by_cases hd:D a
     . exact .inl ((hD a).2 (.inl ⟨hd,hs⟩))
     . exact .inr ⟨hs,hd⟩
theorem Stp.put {s s':List Blk} {E:Int->Int->Prop} {M M':Int} (hg:Good s M) (hg':Good s' M') (h:Tw s s' E) {l:Int} {ks ks' bs:List Int} (hk:Rel (E0 E) ks ks') (he:(putR s l ks bs).2.2=0) (he':(putR s' l ks' bs).2.2=0) :
 ∃ F,Stp s s' E (putR s l ks bs).1 (putR s' l ks' bs).1 F/\(∀ a a',E a a'->zAi s a=true->F a a')/\F (putR s l ks bs).2.1 (putR s' l ks' bs).2.1:=by
 obtain ⟨hp,e⟩:=zBd hg he
 obtain ⟨hp',e'⟩:=zBd hg' he'
 rw [e,e']
 simp only
 generalize freeIx s=f at *
 generalize freeIx s'=f' at *
 have hlt:=hp.lt
 have hlt':=hp'.lt
 refine ⟨fun a a'=>(E a a'/\zAi s a=true)\/(a=(f:Int)+1/\a'=(f':Int)+1),⟨?_,?_,?_⟩,fun a a' h1 h2=>.inl ⟨h1,h2⟩,.inr ⟨rfl,rfl⟩⟩
 . have hold:∀ a a',E a a'->zAi s a=true->a≠(f:Int)+1/\a'≠(f':Int)+1:=fun a a' h1 h2=>
    ⟨fun e=>(by rw [e,hp.none'] at h2;cases h2),fun e=>(by rw [<- h.there h1,e,hp'.none'] at h2;cases h2)⟩
   have hb:∀ a a',E a a'->zAi s a=true->blk (putM s l ks bs f) a={ blk s a with refs:=(blk s a).refs+((ks.count a:Nat):Int) }/\blk (putM s' l ks' bs f') a'={ blk s' a' with refs:=(blk s a).refs+((ks.count a:Nat):Int) }:=fun a a' h1 h2=>by
    obtain ⟨r1,r2,r3,r4⟩:=h.rng _ _ h1
    obtain ⟨n1,n2⟩:=hold a a' h1 h2
    rw [hp.blk r1 r2,if_neg n1,hp'.blk r3 r4,if_neg n2,h.refs _ _ h1,zGZ (by omega) (by omega) h1 h.fn h.inj hk]
    exact ⟨rfl,rfl⟩
   have hn:blk (putM s l ks bs f) ((f:Int)+1)=⟨1,l,ks,bs⟩:=by rw [hp.blk (by omega) (by omega),if_pos rfl]
   have hn':blk (putM s' l ks' bs f') ((f':Int)+1)=⟨1,l,ks',bs⟩:=by rw [hp'.blk (by omega) (by omega),if_pos rfl]
   refine ⟨?_,?_,?_,?_,?_,?_,?_⟩
   . rintro a a' (⟨h1,h2⟩ | ⟨rfl,rfl⟩)
     . rw [zAq,zAq];exact h.rng _ _ h1
     . rw [zAq,zAq];omega
   . rintro a a' (⟨h1,h2⟩ | ⟨rfl,rfl⟩)
     . rw [(hb a a' h1 h2).1,(hb a a' h1 h2).2]
     . rw [hn,hn']
   . rintro a a' (⟨h1,h2⟩ | ⟨rfl,rfl⟩)
     . rw [(hb a a' h1 h2).1,(hb a a' h1 h2).2];exact h.level _ _ h1
     . rw [hn,hn']
   . rintro a a' (⟨h1,h2⟩ | ⟨rfl,rfl⟩)
     . rw [(hb a a' h1 h2).1,(hb a a' h1 h2).2];exact h.bytes _ _ h1
     . rw [hn,hn']
   . rintro a a' (⟨h1,h2⟩ | ⟨rfl,rfl⟩)
     . rw [(hb a a' h1 h2).1,(hb a a' h1 h2).2]
       refine (h.kids _ _ h1).mono' fun k hkm k' hE=>?_
       rcases hE with hE | hE
       . exact .inl hE
       . rcases hg.kidT h2 k hkm with h0 | h0
         . have:=h.rng _ _ hE;omega
         . exact .inr (.inl ⟨hE,h0⟩)
     . rw [hn,hn']
       refine hk.mono' fun k hkm k' hE=>?_
       rcases hE with hE | hE
       . exact .inl hE
       . rcases hp.kid k hkm with h0 | ⟨h0,h1,h2⟩
         . have:=h.rng _ _ hE;omega
         . exact .inr (.inl ⟨hE,zGx h0 h1 h2⟩)
   . rintro a b c (⟨h1,h2⟩ | ⟨e1,rfl⟩) (⟨h3,h4⟩ | ⟨e2,rfl⟩)
     . exact h.fn _ _ _ h1 h3
     . exact absurd e2 (hold _ _ h1 h2).1
     . exact absurd e1 (hold _ _ h3 h4).1
     . rfl
   . rintro a b c (⟨h1,h2⟩ | ⟨rfl,e1⟩) (⟨h3,h4⟩ | ⟨rfl,e2⟩)
     . exact h.inj _ _ _ h1 h3
     . exact absurd e2 (hold _ _ h1 h2).2
     . exact absurd e1 (hold _ _ h3 h4).2
     . rfl
 . refine putFr hp (zDm hk).1 fun a=>?_
   constructor
   . rintro ⟨a',⟨h1,h2⟩ | ⟨h1,h2⟩⟩
     . exact .inl ⟨⟨a',h1⟩,h2⟩
     . exact .inr h1
   . rintro (⟨⟨a',h1⟩,h2⟩ | h1)
     . exact ⟨a',.inl ⟨h1,h2⟩⟩
     . exact ⟨_,.inr ⟨h1,rfl⟩⟩
 . refine putFr hp' (zDm hk).2 fun a=>?_
   constructor
   . rintro ⟨a',⟨h1,h2⟩ | ⟨h1,h2⟩⟩
     . exact .inl ⟨⟨a',h1⟩,by rw [h.there h1];exact h2⟩
     . exact .inr h2
   . rintro (⟨⟨a',h1⟩,h2⟩ | h1)
     . exact ⟨a',.inl ⟨h1,by rw [<- h.there h1];exact h2⟩⟩
     . exact ⟨_,.inr ⟨rfl,h1⟩⟩
theorem zLu {s s':List Blk} {E:Int->Int->Prop} (h:Tw s s' E) {root root':Int} (hE:E0 E root root'):Rel (E0 E) (kids0 s root) (kids0 s' root'):=by
 unfold kids0
 rcases hE with ⟨rfl,rfl⟩ | hE
 . rw [if_pos rfl,if_pos rfl]
   exact ⟨.inl ⟨rfl,rfl⟩,.inl ⟨rfl,rfl⟩,.inl ⟨rfl,rfl⟩,.inl ⟨rfl,rfl⟩,trivial⟩
 . obtain ⟨r1,r2,r3,r4⟩:=h.rng _ _ hE
   rw [if_neg (by omega),if_neg (by omega)]
   exact h.kids _ _ hE
theorem Stp.set:∀ (m:Nat) (s s':List Blk) (E:Int->Int->Prop) (root root':Int) (i:Nat) (b:List Int) (M M':Int),m<=3->Good s M->Good s' M'->1<=M->1<=M'->M+4*m<=800000000->M'+4*m<=800000000->
 zAs s m root->zAs s' m root'->i<p4n m->Byt b->b.length<=4->Tw s s' E->E0 E root root'->(setF m s root i b).2.2=0->(setF m s' root' i b).2.2=0->
 ∃ F,Stp s s' E (setF m s root i b).1 (setF m s' root' i b).1 F/\(∀ a a',E a a'->zAi s a=true->F a a')/\E0 F (setF m s root i b).2.1 (setF m s' root' i b).2.1:=by
 intro m
 induction m with
 | zero=>
  intro s s' E root root' i b M M' hm hg hg' hM hM' hM2 hM2' hr hr' hi hb hb4 h hE he he'
  unfold setF at he he' ⊢
  split
  . exact ⟨E,Stp.refl h,fun a a' h1 _=>h1,.inl ⟨rfl,rfl⟩⟩
  . rename_i hne
    rw [if_neg hne] at he he'
    obtain ⟨F,h1,h2,h3⟩:=Stp.put hg hg' h (ks:=[]) (ks':=[]) zLy he he'
    exact ⟨F,h1,h2,.inr h3⟩
 | succ m ih=>
  intro s s' E root root' i b M M' hm hg hg' hM hM' hM2 hM2' hr hr' hi hb hb4 h hE he he'
  obtain ⟨h4,hkr⟩:=zBG hg hr
  obtain ⟨h4',hkr'⟩:=zBG hg' hr'
  have hpp:=zB9 m
  have hps:=zBu m (by omega)
  have hd4:i / p4n m<4:=zBO hpp (by omega)
  have hge:(kids0 s root)[i / p4n m]?.getD 0=(kids0 s root)[i / p4n m]'(by omega):=by rw [zMt (by omega)];rfl
  have hge':(kids0 s' root')[i / p4n m]?.getD 0=(kids0 s' root')[i / p4n m]'(by omega):=by rw [zMt (by omega)];rfl
  have hK:=zLu h hE
  rw [zDN] at he he' ⊢
  rw [zDN]
  unfold setN at he he' ⊢
  by_cases h0:(setF m s ((kids0 s root)[i / p4n m]?.getD 0) (i%p4n m) b).2.2=0
  . by_cases h0':(setF m s' ((kids0 s' root')[i / p4n m]?.getD 0) (i%p4n m) b).2.2=0
    . rw [if_neg (not_not_intro h0)] at he ⊢
      rw [if_neg (not_not_intro h0')] at he' ⊢
      have hroot:zAs s m ((kids0 s root)[i / p4n m]?.getD 0):=by rw [hge];exact hkr _ (zMr _)
      have hroot':zAs s' m ((kids0 s' root')[i / p4n m]?.getD 0):=by rw [hge'];exact hkr' _ (zMr _)
      obtain ⟨g1,g2,g3⟩:=zBx m s _ (i%p4n m) b M (by omega) hg hM (by omega) hroot (zNu _ hpp) hb hb4 h0
      obtain ⟨g1',g2',g3'⟩:=zBx m s' _ (i%p4n m) b M' (by omega) hg' hM' (by omega) hroot' (zNu _ hpp) hb hb4 h0'
      obtain ⟨F,st,hs,hr1⟩:=ih s s' E _ _ (i%p4n m) b M M' (by omega) hg hg' hM hM' (by omega) (by omega) hroot hroot' (zNu _ hpp) hb hb4 h (hK.opt (.inl ⟨rfl,rfl⟩) _) h0 h0'
      generalize setF m s ((kids0 s root)[i / p4n m]?.getD 0) (i%p4n m) b=r at *
      generalize setF m s' ((kids0 s' root')[i / p4n m]?.getD 0) (i%p4n m) b=r' at *
      have hK2:Rel (E0 F) ((kids0 s root).set (i / p4n m) r.2.1) ((kids0 s' root').set (i / p4n m) r'.2.1):=by
       refine Rel.set ?_ _ hr1
       refine hK.mono' fun k hk k' hkk=>?_
       rcases hkk with hkk | hkk
       . exact .inl hkk
       . rcases hkr k hk with h5 | h5
         . have:=h.rng _ _ hkk;omega
         . exact .inr (hs _ _ hkk h5.1)
      have hall:((kids0 s root).set (i / p4n m) r.2.1).all (fun k=>decide (k=0))=((kids0 s' root').set (i / p4n m) r'.2.1).all (fun k=>decide (k=0)):=by
       rw [zOt,zNF,zNF]
       constructor
       . intro ha k' hk'
         obtain ⟨k,hk,h1⟩:=hK2.right k' hk'
         have:=ha k hk
         simp only [decide_eq_true_eq] at this ⊢
         exact (st.tw.zero h1).1 this
       . intro ha k hk
         obtain ⟨k',hk',h1⟩:=hK2.left k hk
         have:=ha k' hk'
         simp only [decide_eq_true_eq] at this ⊢
         exact (st.tw.zero h1).2 this
      by_cases hz:((kids0 s root).set (i / p4n m) r.2.1).all (fun k=>decide (k=0))=true
      . rw [if_pos hz,if_pos (hall▸hz)]
        exact ⟨F,st,hs,.inl ⟨rfl,rfl⟩⟩
      . rw [if_neg hz] at he ⊢
        rw [if_neg (hall▸hz)] at he' ⊢
        simp only at he he' ⊢
        obtain ⟨G,st2,hs2,hn⟩:=Stp.put g1 g1' st.tw hK2 he he'
        have hr2:E0 G r.2.1 r'.2.1:=by
         refine hr1.imp id fun h1=>hs2 _ _ h1 ?_
         rcases g2 with h5 | h5
         . have:=st.tw.rng _ _ h1;omega
         . exact h5.1
        refine ⟨G,(st.trans st2).trans (Stp.loose st2.tw hr2),fun a a' h1 h2=>hs2 _ _ (hs _ _ h1 h2) (g3 a h2).1,.inr hn⟩
    . rw [if_pos h0'] at he'
      exact absurd he' h0'
  . rw [if_pos h0] at he
    exact absurd he h0
end Go.Proofs.YtfmgdjgedhnmeaaGreat

namespace Go.Proofs.YtfmgdjgedhnmeaaGreat
open Go.RowKit
set_option linter.unusedVariables false
set_option linter.unusedSimpArgs false
theorem Tw.leafA {s s':List Blk} {E:Int->Int->Prop} (h:Tw s s' E):∀ (m:Nat) (a a':Int) (i:Nat),E0 E a a'->E0 E (leafA m s a i) (leafA m s' a' i)
 | 0,a,a',i,hE=>hE
 | m+1,a,a',i,hE=>by
  unfold Go.Proofs.YtfmgdjgedhnmeaaGreat.leafA
  by_cases h0:a=0
  . rw [if_pos h0,if_pos ((h.zero hE).1 h0)]
    exact .inl ⟨rfl,rfl⟩
  . rw [if_neg h0,if_neg (fun e=>h0 ((h.zero hE).2 e))]
    rcases hE with ⟨e,_⟩ | hE
    . exact absurd e h0
    . exact Tw.leafA h m _ _ _ ((h.kids _ _ hE).opt (.inl ⟨rfl,rfl⟩) _)
theorem Tw.leafB {s s':List Blk} {E:Int->Int->Prop} (h:Tw s s' E) (m:Nat) {a a':Int} (hE:E0 E a a') (i:Nat):leafB m s' a' i=leafB m s a i:=by
 have h1:=h.leafA m a a' i hE
 unfold Go.Proofs.YtfmgdjgedhnmeaaGreat.leafB
 by_cases h0:Go.Proofs.YtfmgdjgedhnmeaaGreat.leafA m s a i=0
 . rw [if_pos h0,if_pos ((h.zero h1).1 h0)]
 . rw [if_neg h0,if_neg (fun e=>h0 ((h.zero h1).2 e))]
   rcases h1 with ⟨e,_⟩ | h1
   . exact absurd e h0
   . exact h.bytes _ _ h1
theorem Tw.leaves {s s':List Blk} {E:Int->Int->Prop} (h:Tw s s' E) (m:Nat) {a a':Int} (hE:E0 E a a'):leavesF m s' a'=leavesF m s a:=by
 unfold leavesF
 refine zNT fun i _=>?_
 exact h.leafB m hE i
theorem Tw.fileB {s s':List Blk} {E:Int->Int->Prop} (h:Tw s s' E) (key:Int) {a a':Int} (hE:E0 E a a') (z:Int):fileB s' key a' z=fileB s key a z:=by
 unfold Go.Proofs.YtfmgdjgedhnmeaaGreat.fileB
 rw [h.leaves 3 hE]
theorem Stp.start {s s':List Blk} {E:Int->Int->Prop} (h:Tw s s' E) {root root':Int} (hE:E0 E root root'):Stp s s' E (startR s root).1 (startR s' root').1 E:=by
 unfold startR
 by_cases h0:root=0
 . rw [if_pos h0,if_pos ((h.zero hE).1 h0)]
   exact Stp.refl h
 . rw [if_neg h0,if_neg (fun e=>h0 ((h.zero hE).2 e))]
   rcases hE with ⟨e,_⟩ | hE
   . exact absurd e h0
   . exact Stp.addRef h hE 1
theorem zFz {key:Int} {was now:List Int} {r:List Blk×Int×Int} {i:Nat} (he:(turnTo key was now r (i+1)).2.2=0):(turnTo key was now r i).2.2=0:=by
 by_cases h:(turnTo key was now r i).2.2=0
 . exact h
 . rw [zD8 h (i+1) (by omega)] at he
   exact absurd he h
theorem Stp.turn {s s':List Blk} {E:Int->Int->Prop} (hc:checkE s=0) (hc':checkE s'=0) (hw:WfS s) (hw':WfS s') {root root':Int} (hr:zAs s 3 root) (hr':zAs s' 3 root') {key:Int} {was now:List Int} (hnow:now.length=256) (hby:Byt now)
 (h:Tw s s' E) (hE:E0 E root root'):∀ i,i<=64->(turnTo key was now (startR s root) i).2.2=0->(turnTo key was now (startR s' root') i).2.2=0->
 ∃ F,Stp s s' E (turnTo key was now (startR s root) i).1 (turnTo key was now (startR s' root') i).1 F/\(∀ a a',E a a'->zAi s a=true->F a a')/\E0 F (turnTo key was now (startR s root) i).2.1 (turnTo key was now (startR s' root') i).2.1:=by
 intro i
 induction i with
 | zero=>intro _ _ _;exact ⟨E,Stp.start h hE,fun _ _ h1 _=>h1,hE⟩
 | succ i ih=>
  intro hi he he'
  have h0:=zFz he
  have h0':=zFz he'
  obtain ⟨F,st,hs,hr1⟩:=ih (by omega) h0 h0'
  have T:=zBV hc hw hr (M0:=1000000) (fun x hx=>((zAg s hc).2.2.2.1 x hx).2) (by omega) (by omega) (key:=key) (was:=was) hnow hby i (by omega) h0
  have T':=zBV hc' hw' hr' (M0:=1000000) (fun x hx=>((zAg s' hc').2.2.2.1 x hx).2) (by omega) (by omega) (key:=key) (was:=was) hnow hby i (by omega) h0'
  have e1:turnTo key was now (startR s root) (i+1)=zBc key was now i (turnTo key was now (startR s root) i):=rfl
  have e2:turnTo key was now (startR s' root') (i+1)=zBc key was now i (turnTo key was now (startR s' root') i):=rfl
  rw [e1] at he ⊢
  rw [e2] at he' ⊢
  clear e1 e2
  generalize turnTo key was now (startR s root) i=r at *
  generalize turnTo key was now (startR s' root') i=r' at *
  unfold zBc at he he' ⊢
  rw [if_neg (not_not_intro h0)] at he ⊢
  rw [if_neg (not_not_intro h0')] at he' ⊢
  by_cases hx:fourAt was i=fourAt now i
  . rw [if_pos hx,if_pos hx]
    exact ⟨F,st,hs,hr1⟩
  . rw [if_neg hx] at he ⊢
    rw [if_neg hx] at he' ⊢
    have hl:=zD1 (key:=key) (i:=i) (zA3 now hnow i (by omega))
    by_cases hs1:(setF 3 r.1 r.2.1 i (zAJ key i (fourAt now i))).2.2=0
    . by_cases hs1':(setF 3 r'.1 r'.2.1 i (zAJ key i (fourAt now i))).2.2=0
      . rw [if_neg (not_not_intro hs1),if_neg (not_not_intro hs1')]
        obtain ⟨G,st2,hs2,hr2⟩:=Stp.set 3 r.1 r'.1 F r.2.1 r'.2.1 i (zAJ key i (fourAt now i)) _ _ (by omega) T.at_.good T'.at_.good (by omega) (by omega) (by omega) (by omega) T.at_.rt T'.at_.rt (by show i<64;omega) (zC1 key i (fourAt now i)) (by omega) st.tw hr1 hs1 hs1'
        have hr3:E0 G r.2.1 r'.2.1:=by
         refine hr1.imp id fun h1=>hs2 _ _ h1 ?_
         rcases T.at_.rt with h5 | h5
         . have:=st.tw.rng _ _ h1;omega
         . exact h5.1
        exact ⟨G,(st.trans st2).trans (Stp.loose st2.tw hr3),fun a a' h1 h2=>hs2 _ _ (hs _ _ h1 h2) (T.at_.keeps a h2).1,hr2⟩
      . rw [if_pos hs1'] at he'
        exact absurd he' hs1'
    . rw [if_pos hs1] at he
      exact absurd he hs1
end Go.Proofs.YtfmgdjgedhnmeaaGreat

namespace Go.Proofs.YtfmgdjgedhnmeaaGreat
open Go.RowKit
set_option linter.unusedVariables false
set_option linter.unusedSimpArgs false
def EntR (E:Int->Int->Prop) (x y:Ent):Prop:=x.nm=y.nm/\E0 E x.root y.root/\x.size=y.size
def SnpR (E:Int->Int->Prop) (x y:Snp):Prop:=x.nm=y.nm/\Rel (EntR E) x.files y.files
structure SetR (E:Int->Int->Prop) (x y:SetV):Prop where
 nm:x.nm=y.nm
 files:Rel (EntR E) x.files y.files
 snaps:Rel (SnpR E) x.snaps y.snaps
theorem zFF {E:Int->Int->Prop} {l l':List Ent} (h:Rel (EntR E) l l'):l.map Ent.nm=l'.map Ent.nm:=Rel.eq_map (fun _ _ h=>h.1) h
theorem zKw {E:Int->Int->Prop} {l l':List Snp} (h:Rel (SnpR E) l l'):l.map Snp.nm=l'.map Snp.nm:=Rel.eq_map (fun _ _ h=>h.1) h
theorem zBY {E:Int->Int->Prop} {l l':List Ent} (h:Rel (EntR E) l l'):Rel (E0 E) (rootsF l) (rootsF l'):=Rel.map (fun _ _ h=>h.2.1) h
theorem SetR.roots {E:Int->Int->Prop} {x y:SetV} (h:SetR E x y):Rel (E0 E) (rootsL x) (rootsL y):=(zBY h.files).app (Rel.flat (fun _ _ h=>zBY h.2) h.snaps)
theorem zFu {E:Int->Int->Prop} {l l':List Ent} (h:Rel (EntR E) l l') (k:Nat):EntR E (entAt l k) (entAt l' k):=h.opt ⟨rfl,.inl ⟨rfl,rfl⟩,rfl⟩ k
theorem zLB {E:Int->Int->Prop} {l l':List Snp} (h:Rel (SnpR E) l l') (k:Nat):SnpR E (snpAt l k) (snpAt l' k):=h.opt (a:=⟨⟨#[]⟩,[]⟩) (b:=⟨⟨#[]⟩,[]⟩) ⟨rfl,trivial⟩ k
theorem Rel.insL {α β:Type} {R:α->β->Prop} {l:List α} {l':List β} (h:Rel R l l') (k:Nat) {a:α} {b:β} (hab:R a b):Rel R (insL l k a) (insL l' k b):=by
 unfold Go.Proofs.YtfmgdjgedhnmeaaGreat.insL
 exact (h.take k).app (show Rel R (a::l.drop k) (b::l'.drop k) from ⟨hab,h.drop k⟩)
theorem zLD {E F:Int->Int->Prop} {l l':List Ent} (h:Rel (EntR E) l l') (hu:∀ x∈l,∀ a',E x.root a'->F x.root a'):Rel (EntR F) l l':=
 h.mono' fun x hx y hy=>⟨hy.1,hy.2.1.imp id (hu x hx _),hy.2.2⟩
structure Bth (s s':List Blk) (E:Int->Int->Prop) (t t':List Blk) (F:Int->Int->Prop):Prop where
 stp:Stp s s' E t t' F
 up:∀ a a',E a a'->zAi s a=true->F a a'
theorem Bth.of {s s' t t':List Blk} {E:Int->Int->Prop} (h:Stp s s' E t t' E):Bth s s' E t t' E:=⟨h,fun _ _ h _=>h⟩
theorem tw_lay {s s':List Blk} {E:Int->Int->Prop} (h:Tw s s' E) {l l':List Ent} (hl:Rel (EntR E) l l') (nm:ByteArray) {r r':Int} (hr:E0 E r r') (z:Int) :
 (layR s l nm r z).2.2=(layR s' l' nm r' z).2.2/\Stp s s' E (layR s l nm r z).1 (layR s' l' nm r' z).1 E/\Rel (EntR E) (layR s l nm r z).2.1 (layR s' l' nm r' z).2.1:=by
 unfold layR
 rw [<- zFF hl,<- hl.len]
 have he:=zFu hl (placeN (l.map Ent.nm) nm)
 split
 . exact ⟨rfl,Stp.loose h he.2.1,hl.set _ ⟨he.1,hr,rfl⟩⟩
 . split
   . exact ⟨rfl,Stp.refl h,hl⟩
   . exact ⟨rfl,Stp.refl h,hl.insL _ ⟨rfl,hr,rfl⟩⟩
theorem tw_move {s s':List Blk} {E:Int->Int->Prop} (h:Tw s s' E) {l l':List Ent} (hl:Rel (EntR E) l l') (a:AskV) :
 (moveR s l a).2.2=(moveR s' l' a).2.2/\Stp s s' E (moveR s l a).1 (moveR s' l' a).1 E/\Rel (EntR E) (moveR s l a).2.1 (moveR s' l' a).2.1:=by
 unfold moveR
 rw [<- zFF hl]
 have he:=zFu hl (placeN (l.map Ent.nm) a.file)
 split
 . exact ⟨rfl,Stp.refl h,hl⟩
 . split
   . split
     . exact ⟨rfl,Stp.refl h,hl⟩
     . split
       . exact ⟨rfl,Stp.refl h,hl⟩
       . rw [<- he.2.2]
         exact tw_lay h (hl.erase _) a.dest he.2.1 _
   . exact ⟨rfl,Stp.loose h he.2.1,hl.erase _⟩
theorem tw_snaps {s s':List Blk} {E:Int->Int->Prop} (h:Tw s s' E) {x x':SetV} (hx:SetR E x x') (a:AskV) :
 (snapsR s x a).2.2=(snapsR s' x' a).2.2/\Stp s s' E (snapsR s x a).1 (snapsR s' x' a).1 E/\SetR E (snapsR s x a).2.1 (snapsR s' x' a).2.1:=by
 unfold snapsR
 rw [<- zKw hx.snaps,<- hx.snaps.len]
 have he:=zLB hx.snaps (placeN (x.snaps.map Snp.nm) a.dest)
 split
 . exact ⟨rfl,Stp.refl h,hx⟩
 . split
   . split
     . exact ⟨rfl,Stp.refl h,hx⟩
     . split
       . exact ⟨rfl,Stp.refl h,hx⟩
       . exact ⟨rfl,Stp.bump h (zBY hx.files),hx.nm,hx.files,hx.snaps.insL _ ⟨rfl,hx.files⟩⟩
   . split
     . exact ⟨rfl,Stp.refl h,hx⟩
     . split
       . exact ⟨rfl,Stp.less h (zBY he.2),hx.nm,hx.files,hx.snaps.erase _⟩
       . have h1:=Stp.bump h (zBY he.2)
         exact ⟨rfl,h1.trans (Stp.less h1.tw (zBY hx.files)),hx.nm,he.2,hx.snaps⟩
def RoomT (s:List Blk) (key:Int):Prop:=∀ root (z:Nat) b,fileE s key root z=0->Byt b->b.length<=256->(turnR s key root z b).2.2=0
theorem zI6 {s s':List Blk} {E:Int->Int->Prop} {key:Int} (h:Tw s s' E) (hc:checkE s=0) (hc':checkE s'=0) (hw:WfS s) (hw':WfS s') (hT:RoomT s key) (hT':RoomT s' key) {l l':List Ent} (hl:Rel (EntR E) l l')
 (hlive:∀ x∈l,x.root=0\/zAi s x.root=true) (nm:ByteArray) {r r':Int} {z:Nat} (hr:E0 E r r') (hf:fileE s key r z=0) (hf':fileE s' key r' z=0) {b:List Int} (hb:Byt b) (hb4:b.length<=256) :
 (turnW s key l nm r z b).2.2=(turnW s' key l' nm r' z b).2.2/\((turnW s key l nm r z b).2.2=0->∃ F,Bth s s' E (turnW s key l nm r z b).1 (turnW s' key l' nm r' z b).1 F/\Rel (EntR F) (turnW s key l nm r z b).2.1 (turnW s' key l' nm r' z b).2.1):=by
 have e:=hT r z b hf hb hb4
 have e':=hT' r' z b hf' hb hb4
 have hFB:=h.fileB key hr z
 have hrt:=zBl hf
 have hrt':=zBl hf'
 have e2:=e
 have e2':=e'
 unfold turnR at e2 e2'
 rw [hFB] at e2'
 obtain ⟨F,st,up,hr2⟩:=Stp.turn hc hc' hw hw' hrt hrt' (zB5 b hb4) (zCU hb) h hr 64 (zMs _) e2 e2'
 have q1:turnR s key r z b=turnTo key (pad (fileB s key r z)) (pad b) (startR s r) 64:=rfl
 have q2:turnR s' key r' z b=turnTo key (pad (fileB s key r z)) (pad b) (startR s' r') 64:=by unfold turnR;rw [hFB]
 rw [<- q1,<- q2] at st hr2
 have hl2:Rel (EntR F) l l':=zLD hl fun x hx a' ha=>by
  rcases hlive x hx with h0 | h0
  . have:=h.rng _ _ ha;omega
  . exact up _ _ ha h0
 obtain ⟨l1,l2,l3⟩:=tw_lay st.tw hl2 nm hr2 b.length
 unfold turnW
 rw [if_neg (not_not_intro e),if_neg (not_not_intro e')]
 exact ⟨l1,fun _=>⟨F,⟨st.trans l2,up⟩,l3⟩⟩
theorem oldF_rel {E:Int->Int->Prop} {l l':List Ent} (hl:Rel (EntR E) l l') (nm:ByteArray):E0 E (oldF l nm).1 (oldF l' nm).1/\(oldF l' nm).2=(oldF l nm).2:=by
 unfold oldF
 rw [<- zFF hl]
 have he:=zFu hl (placeN (l.map Ent.nm) nm)
 split
 . exact ⟨he.2.1,he.2.2.symm⟩
 . exact ⟨.inl ⟨rfl,rfl⟩,rfl⟩
theorem zE7 {s:List Blk} {key:Int} {l:List Ent} (hl:zA5 s key l):∀ x∈l,x.root=0\/zAi s x.root=true:=fun x hx=>(zBl (hl.each x hx).2).imp id fun h=>h.1
theorem tw_write {s s':List Blk} {E:Int->Int->Prop} {key:Int} (h:Tw s s' E) (hc:checkE s=0) (hc':checkE s'=0) (hw:WfS s) (hw':WfS s') (hT:RoomT s key) (hT':RoomT s' key) (hk:keyE key 0=0) {l l':List Ent} (hl:Rel (EntR E) l l') (ho:zA5 s key l) (ho':zA5 s' key l') {a:AskV} (hb:Byt a.bytes) :
 (writeW s key l a).2.2=(writeW s' key l' a).2.2/\((writeW s key l a).2.2=0->∃ F,Bth s s' E (writeW s key l a).1 (writeW s' key l' a).1 F/\Rel (EntR F) (writeW s key l a).2.1 (writeW s' key l' a).2.1):=by
 obtain ⟨r1,r2⟩:=oldF_rel hl a.file
 obtain ⟨z,hz,hf⟩:=zLZ ho hc hk a.file
 obtain ⟨z',hz',hf'⟩:=zLZ ho' hc' hk a.file
 have hzz:z'=z:=by
  have:(z':Int)=z:=by rw [<- hz',<- hz,r2]
  omega
 subst hzz
 have hfl:(fileB s key (oldF l a.file).1 z').length<=256:=by rw [zB4 hf];have:=(zAA hf).2.2.1;omega
 have hfb:=zDQ s key (oldF l a.file).1 z'
 have hFB:=h.fileB key r1 (z':Int)
 unfold writeW
 rw [hz,hz',hFB,<- zFF hl]
 have same:∀ e:Int,e≠0->((s,l,e):List Blk×List Ent×Int).2.2=((s',l',e):List Blk×List Ent×Int).2.2/\(((s,l,e):List Blk×List Ent×Int).2.2=0->∃ F,Bth s s' E ((s,l,e):List Blk×List Ent×Int).1 ((s',l',e):List Blk×List Ent×Int).1 F/\Rel (EntR F) ((s,l,e):List Blk×List Ent×Int).2.1 ((s',l',e):List Blk×List Ent×Int).2.1):=fun e he=>⟨rfl,fun h0=>absurd h0 he⟩
 split
 . exact same 1 (by decide)
 . split
   . split
     . exact same 5 (by decide)
     . split
       . exact same 3 (by decide)
       . rename_i hr
         exact zI6 h hc hc' hw hw' hT hT' hl (zE7 ho) a.file r1 hf hf' (zGg hfb _) (by rw [zGe];omega)
   . split
     . rename_i he
       exact same _ he
     . rename_i he
       have he0:(overR (fileB s key (oldF l a.file).1 z') a.at_ a.bytes).2=0:=by simpa using he
       exact zI6 h hc hc' hw hw' hT hT' hl (zE7 ho) a.file r1 hf hf' (zE1 hfb hb) (zFy he0 hfl)
theorem tw_do {s s':List Blk} {E:Int->Int->Prop} {key:Int} (h:Tw s s' E) (hw:WfS s) (hw':WfS s') {x x':SetV} (hx:SetR E x x') (hR:zAV s key x) (hR':zAV s' key x') (hh:heldE s x=0) (hh':heldE s' x'=0) (hT:RoomT s key) (hT':RoomT s' key) {a:AskV} (hb:Byt a.bytes) :
 (doR writeW s key x a).2.2=(doR writeW s' key x' a).2.2/\((doR writeW s key x a).2.2=0->∃ F,Bth s s' E (doR writeW s key x a).1 (doR writeW s' key x' a).1 F/\SetR F (doR writeW s key x a).2.1 (doR writeW s' key x' a).2.1):=by
 have e1:setE s key x=0:=hR.zero
 have e1':setE s' key x'=0:=hR'.zero
 have key1:(askR writeW s key x a).2.2=(askR writeW s' key x' a).2.2/\((askR writeW s key x a).2.2=0->∃ F,Bth s s' E (askR writeW s key x a).1 (askR writeW s' key x' a).1 F/\SetR F (askR writeW s key x a).2.1 (askR writeW s' key x' a).2.1):=by
  unfold askR
  split
  . obtain ⟨w1,w2⟩:=tw_write h hR.chk hR'.chk hw hw' hT hT' hR.kok hx.files hR.files hR'.files hb
    refine ⟨w1,fun h0=>?_⟩
    obtain ⟨F,f1,f2⟩:=w2 h0
    refine ⟨F,f1,hx.nm,f2,hx.snaps.mono' fun y hy y' hyy=>⟨hyy.1,zLD hyy.2 fun e he a' ha=>?_⟩⟩
    rcases zE7 (hR.snaps y hy).2 e he with h1 | h1
    . have:=h.rng _ _ ha;omega
    . exact f1.up _ _ ha h1
  . split
    . obtain ⟨m1,m2,m3⟩:=tw_move h hx.files a
      exact ⟨m1,fun _=>⟨E,Bth.of m2,hx.nm,m3,hx.snaps⟩⟩
    . split
      . obtain ⟨m1,m2,m3⟩:=tw_snaps h hx a
        exact ⟨m1,fun _=>⟨E,Bth.of m2,m3⟩⟩
      . exact ⟨rfl,fun h0=>absurd (show (4:Int)=0 from h0) (by decide)⟩
 unfold doR
 rw [if_neg (not_not_intro e1),if_neg (not_not_intro hh),if_neg (not_not_intro e1'),if_neg (not_not_intro hh'),<- key1.1]
 split
 . exact ⟨rfl,fun h0=>absurd h0 (by assumption)⟩
 . exact key1
end Go.Proofs.YtfmgdjgedhnmeaaGreat

namespace Go.Proofs.YtfmgdjgedhnmeaaGreat
open Go.RowKit
set_option linter.unusedVariables false
set_option linter.unusedSimpArgs false
theorem zLO {s:List Blk} {l:Int} {ks bs:List Int} (h:formE s 1 l ks bs=0):(putR s l ks bs).2.2=0\/(putR s l ks bs).2.2=8:=by
 unfold putR
 rw [if_neg (by simp [h])]
 split
 . exact .inr rfl
 . exact .inl rfl
theorem set_err:∀ (m:Nat) (s:List Blk) (root:Int) (i:Nat) (b:List Int) (M:Int),m<=3->Good s M->1<=M->M+4*m<=800000000->zAs s m root->i<p4n m->Byt b->(b.length=0\/b.length=4)->
 (setF m s root i b).2.2=0\/(setF m s root i b).2.2=8:=by
 intro m
 induction m with
 | zero=>
  intro s root i b M _ hg hM hM2 hr hi hb hb4
  unfold setF
  split
  . exact .inl rfl
  . rename_i hne
    have h4:b.length=4:=by
     rcases hb4 with h | h
     . exact absurd (zMv h) hne
     . exact h
    exact zLO (zEl s 1 b (by omega) (by omega) h4)
 | succ m ih=>
  intro s root i b M hm hg hM hM2 hr hi hb hb4
  obtain ⟨h4,hkr⟩:=zBG hg hr
  have hps:=zBu m (by omega)
  have hpp:=zB9 m
  have hd4:i / p4n m<4:=zBO hpp (by omega)
  have hge:(kids0 s root)[i / p4n m]?.getD 0=(kids0 s root)[i / p4n m]'(by omega):=by rw [zMt (by omega)];rfl
  have hky:=hkr _ (zMr (show i / p4n m<(kids0 s root).length by omega))
  have hih:=ih s ((kids0 s root)[i / p4n m]?.getD 0) (i%p4n m) b M (by omega) hg hM (by omega) (by rw [hge];exact hky) (zNu _ hpp) hb hb4
  unfold setF
  split
  . rename_i h
    rcases hih with e | e
    . exact absurd e h
    . exact .inr e
  . rename_i h
    have h0:(setF m s ((kids0 s root)[i / p4n m]?.getD 0) (i%p4n m) b).2.2=0:=by simpa using h
    obtain ⟨g1,g2,g3⟩:=zBx m s _ (i%p4n m) b M (by omega) hg hM (by omega) (by rw [hge];exact hky) (zNu _ hpp) hb (by omega) h0
    clear hih
    generalize setF m s ((kids0 s root)[i / p4n m]?.getD 0) (i%p4n m) b=r at *
    split
    . exact .inl rfl
    . rename_i hz
      refine zLO (zEp r.1 1 ((m:Int)+1) _ (by omega) (by omega) (by omega) (by omega) (by rw [zMK];exact h4) ?_ ?_)
      . rw [zNF]
        intro k hk
        have hrk:zAs r.1 m k:=by
         rcases zMU hk with e | e
         . exact g3.root (hkr k e)
         . rw [e];exact g2
        rcases hrk with e | ⟨e1,e2⟩
        . simp [kidOk,e]
        . simp only [kidOk,e1,zOu,zNk,decide_eq_true_eq]
          exact .inr (by omega)
      . simpa using hz
def usedL (s:List Blk):List Nat:=(List.range s.length).filter fun i=>decide (0<(atB s i).refs)
def used (s:List Blk):Nat:=(usedL s).length
theorem zE9 {s:List Blk} {i:Nat}:i∈usedL s↔i<s.length/\0<(atB s i).refs:=by simp [usedL]
theorem zER (s:List Blk):(usedL s).Nodup:=List.Pairwise.filter _ List.nodup_range
theorem zH0 {s t:List Blk} {A:List Nat} (h:∀ i,i<t.length->0<(atB t i).refs->i∈A\/(i<s.length/\0<(atB s i).refs)):used t<=used s+A.length:=by
 have h1:=zB8 (usedL t) (usedL s++A) (zER t) fun i hi=>by
  obtain ⟨h1,h2⟩:=zE9.1 hi
  rcases h i h1 h2 with h3 | h3
  . exact zNo.2 (.inr h3)
  . exact zNo.2 (.inl (zE9.2 h3))
 rw [zMG] at h1
 exact h1
theorem zLd {s:List Blk} {M:Int} (hg:Good s M) (h:freeIx s=s.length):used s=s.length:=by
 have hall:∀ i,i<s.length->0<(atB s i).refs:=fun i hi=>by
  rw [zAH hi]
  have h1:=List.not_of_lt_findIdx (show i<s.findIdx (fun x=>decide (x.refs=0)) from by rw [show s.findIdx (fun x=>decide (x.refs=0))=s.length from h];exact hi)
  have h2:¬ (s[i].refs=0):=by simpa using h1
  have:=(hg.refs _ (zMr hi)).1
  omega
 unfold used usedL
 rw [List.filter_eq_self.2 (fun i hi=>by simpa using hall i (List.mem_range.1 hi)),List.length_range]
theorem zJe {s:List Blk} {l:Int} {ks bs:List Int} {f:Nat} (h:PutG s l ks bs f):used (putM s l ks bs f)<=used s+1:=by
 refine zH0 (A:=[f]) fun i hi hp=>?_
 rw [zAq] at hi
 by_cases e:i=f
 . exact .inl (by simp [e])
 . refine .inr ⟨hi,?_⟩
   rw [zAH (by rw [zAq];exact hi),h.get i hi (by rw [zAq];exact hi),if_neg e] at hp
   simp only at hp
   rw [zAH hi]
   by_cases hz:0<s[i].refs
   . exact hz
   . rw [h.none i hi (by omega)] at hp
     omega
theorem zHo:∀ (f:Nat) (s:List Blk) (a b:Int),0<(blk (zAj f s a) b).refs->0<(blk s b).refs
 | 0,s,a,b,h=>h
 | f+1,s,a,b,h=>by
  unfold zAj at h
  split at h
  . exact h
  . split at h
    . unfold addRef at h
      rw [zCI] at h
      split at h
      . rename_i h1 h2 h3
        simp only at h
        have e:blk s b=blk s a:=by unfold blk;rw [h3.1]
        rw [e]
        omega
      . exact h
    . have key:∀ (l:List Int) (u:List Blk),0<(blk (l.foldl (zAj f) u) b).refs->0<(blk u b).refs:=by
       intro l
       induction l with
       | nil=>intro u hu;exact hu
       | cons k l ih=>
        intro u hu
        rw [zNa] at hu
        exact zHo f u k b (ih _ hu)
      have h1:=key _ _ h
      rw [zCI] at h1
      split at h1
      . simp [noBlk] at h1
      . exact h1
theorem zEk:∀ (f:Nat) (s:List Blk) (a:Int),(zAj f s a).length=s.length
 | 0,s,a=>rfl
 | f+1,s,a=>by
  unfold zAj
  split
  . rfl
  . split
    . exact zAK _ _ _
    . have key:∀ (l:List Int) (u:List Blk),(l.foldl (zAj f) u).length=u.length:=by
       intro l
       induction l with
       | nil=>intro u;rfl
       | cons k l ih=>intro u;rw [zNa,ih,zEk f u k]
      rw [key,zMK]
theorem zJV (f:Nat) (s:List Blk) (a:Int):used (zAj f s a)<=used s:=by
 have h:=zH0 (s:=s) (t:=zAj f s a) (A:=[]) fun i hi hp=>.inr ⟨by rw [zEk] at hi;exact hi,zHo f s a _ hp⟩
 simpa using h
theorem zJg {s:List Blk} {M:Int} (hg:Good s M) {l:Int} {ks bs:List Int} (he:(putR s l ks bs).2.2=8):used s=s.length:=by
 unfold putR at he
 split at he
 . rename_i h
   exfalso
   replace he:formE s 1 l ks bs=8:=he
   unfold formE at he
   split at he
   . split at he<;>cases he
   . split at he
     . cases he
     . split at he
       . split at he<;>cases he
       . split at he
         . cases he
         . split at he
           . cases he
           . split at he<;>cases he
 . split at he
   . rename_i h
     exact zLd hg h
   . cases he
theorem set_used:∀ (m:Nat) (s:List Blk) (root:Int) (i:Nat) (b:List Int) (M:Int),m<=3->Good s M->1<=M->M+4*m<=800000000->zAs s m root->i<p4n m->Byt b->b.length<=4->
 ((setF m s root i b).2.2=8->s.length<=used s+m)/\((setF m s root i b).2.2=0->used (setF m s root i b).1<=used s+(m+1)/\(setF m s root i b).1.length=s.length):=by
 intro m
 induction m with
 | zero=>
  intro s root i b M hm hg hM hM2 hr hi hb hb4
  unfold setF
  split
  . exact ⟨fun h=>absurd (show (0:Int)=8 from h) (by decide),fun _=>⟨by show used s<=_;omega,rfl⟩⟩
  . refine ⟨fun h=>by have:=zJg hg h;omega,fun h=>?_⟩
    obtain ⟨hp,e⟩:=zBd hg h
    rw [e]
    exact ⟨zJe hp,zAq _ _ _ _ _⟩
 | succ m ih=>
  intro s root i b M hm hg hM hM2 hr hi hb hb4
  obtain ⟨h4,hkr⟩:=zBG hg hr
  have hps:=zBu m (by omega)
  have hpp:=zB9 m
  have hd4:i / p4n m<4:=zBO hpp (by omega)
  have hge:(kids0 s root)[i / p4n m]?.getD 0=(kids0 s root)[i / p4n m]'(by omega):=by rw [zMt (by omega)];rfl
  have hroot:zAs s m ((kids0 s root)[i / p4n m]?.getD 0):=by rw [hge];exact hkr _ (zMr _)
  obtain ⟨i1,i2⟩:=ih s _ (i%p4n m) b M (by omega) hg hM (by omega) hroot (zNu _ hpp) hb hb4
  rw [zDN]
  unfold setN
  split
  . rename_i h
    refine ⟨fun h8=>?_,fun h0=>absurd h0 h⟩
    have:=i1 h8
    omega
  . rename_i h
    have h0:(setF m s ((kids0 s root)[i / p4n m]?.getD 0) (i%p4n m) b).2.2=0:=by simpa using h
    obtain ⟨g1,g2,g3⟩:=zBx m s _ (i%p4n m) b M (by omega) hg hM (by omega) hroot (zNu _ hpp) hb hb4 h0
    obtain ⟨u1,u2⟩:=i2 h0
    generalize setF m s ((kids0 s root)[i / p4n m]?.getD 0) (i%p4n m) b=r at *
    split
    . exact ⟨fun h=>absurd (show (0:Int)=8 from h) (by decide),fun _=>⟨by show used r.1<=_;omega,u2⟩⟩
    . simp only
      refine ⟨fun h8=>?_,fun h9=>?_⟩
      . have:=zJg g1 h8
        omega
      . obtain ⟨hp,e⟩:=zBd g1 h9
        rw [e]
        simp only
        refine ⟨?_,by rw [zEk,zAq,u2]⟩
        have h1:=zJV 4 (putM r.1 ((m:Int)+1) ((kids0 s root).set (i / p4n m) r.2.1) [] (freeIx r.1)) r.2.1
        have h2:=zJe hp
        omega
theorem zK1 {s t:List Blk} {root M0 M:Int} (hg:Good s M0) (hn:∀ j,j<s.length->0<=outA s j) (h:zFp s t root M):used t<=used s+85:=by
 have H0:=zHS hg
 have H:Hold s t [root] M:=H0.turn h
 have hO:OldIn s s t (liveB s):=(zGo hg).keeps h.keeps h.len
 obtain ⟨n3,n2,n1⟩:=H.few hg hO (N:=[root]) (k:=1) (by simp) (fun r hr=>.inr (.inr hr))
 have n0:(newL (liveB s) t 0).length<=4*(newL (liveB s) t 1).length:=by
  refine cover (m:=t) (zC3 0) (fun p hp=>H.good.kids4 (zAO.1 hp).1) fun i hi=>?_
  refine H.above hg hO hi fun hm=>?_
  obtain ⟨hil,hr,hz,hlv⟩:=zAO.1 hi
  rcases h.rt with h0 | ⟨h1,h2⟩
  . simp only [zN3] at hm;omega
  . simp only [zN3] at hm
    rw [<- hm] at h2
    rw [show blk t ((i:Int)+1)=atB t i from rfl,hlv] at h2
    omega
 have h5:=zH0 (s:=s) (t:=t) (A:=newL (liveB s) t 0++newL (liveB s) t 1++newL (liveB s) t 2++newL (liveB s) t 3) fun i hi hp=>by
  by_cases ho:liveB s i=true
  . simp only [liveB,zMW,decide_eq_true_eq] at ho
    exact .inr ho
  . have hl:0<=(atB t i).level/\(atB t i).level<=3:=by
     have h6:=H.good.lv
     rw [zAH hi]
     exact ⟨(h6.1 _ (zMr hi)).1,h6.2 _ (zMr hi)⟩
    have ho':liveB s i=false:=by simpa using ho
    refine .inl ?_
    rcases (show (atB t i).level=0\/(atB t i).level=1\/(atB t i).level=2\/(atB t i).level=3 by omega) with e | e | e | e
    all_goals simp only [zNo]
    . exact .inl (.inl (.inl (zAO.2 ⟨hi,hp,ho',e⟩)))
    . exact .inl (.inl (.inr (zAO.2 ⟨hi,hp,ho',e⟩)))
    . exact .inl (.inr (zAO.2 ⟨hi,hp,ho',e⟩))
    . exact .inr (zAO.2 ⟨hi,hp,ho',e⟩)
 simp only [zMG] at h5
 omega
theorem zLr {s:List Blk} {key:Int} (hw:WfS s) (hu:used s+89<=s.length):RoomT s key:=by
 intro root z b hf hb hb4
 obtain ⟨hk,h1,hz,hct,hfb⟩:=zAA hf
 obtain ⟨hce,m,hm3,hm,hroot,-,-⟩:=zAP hct
 obtain rfl:m=3:=by omega
 have hg:=Good.of_check hce hw
 have hn:∀ j,j<s.length->0<=outA s j:=fun j hj=>zIR hce j hj
 have key1:∀ i,i<=64->(turnTo key (pad (fileB s key root z)) (pad b) (startR s root) i).2.2=0:=by
  intro i
  induction i with
  | zero=>intro _;rfl
  | succ i ih=>
   intro hi
   have h0:=ih (by omega)
   have T:=zBV hce hw hroot (M0:=1000000) (fun x hx=>((zAg s hce).2.2.2.1 x hx).2) (by omega) (by omega) (key:=key) (was:=pad (fileB s key root z)) (zB5 b hb4) (zCU hb) i (by omega) h0
   have hut:=zK1 hg hn T.at_
   have hlen:=T.at_.len
   have e1:turnTo key (pad (fileB s key root z)) (pad b) (startR s root) (i+1)=zBc key (pad (fileB s key root z)) (pad b) i (turnTo key (pad (fileB s key root z)) (pad b) (startR s root) i):=rfl
   rw [e1]
   clear e1
   generalize turnTo key (pad (fileB s key root z)) (pad b) (startR s root) i=r at *
   unfold zBc
   rw [if_neg (not_not_intro h0)]
   split
   . exact h0
   . have hl:=zD1 (key:=key) (i:=i) (zA3 (pad b) (zB5 b hb4) i (by omega))
     have hl4:(zAJ key i (fourAt (pad b) i)).length=0\/(zAJ key i (fourAt (pad b) i)).length=4:=by
      unfold zAJ
      split
      . exact .inl rfl
      . right
        unfold sealL
        rw [zAu]
        exact zA3 (pad b) (zB5 b hb4) i (by omega)
     have hE:(setF 3 r.1 r.2.1 i (zAJ key i (fourAt (pad b) i))).2.2=0:=by
      rcases set_err 3 r.1 r.2.1 i _ _ (by omega) T.at_.good (by omega) (by omega) T.at_.rt (by show i<64;omega) (zC1 key i _) hl4 with h8 | h8
      . exact h8
      . have:=(set_used 3 r.1 r.2.1 i _ _ (by omega) T.at_.good (by omega) (by omega) T.at_.rt (by show i<64;omega) (zC1 key i _) (by omega)).1 h8
        omega
     rw [if_neg (not_not_intro hE)]
 have h64:(64:Nat)<=64:=zMs _
 unfold turnR
 generalize h64e:(64:Nat)=k64 at h64 key1 ⊢
 exact key1 k64 (zMs _)
end Go.Proofs.YtfmgdjgedhnmeaaGreat

namespace Go.Proofs.YtfmgdjgedhnmeaaGreat
open Go.RowKit
set_option linter.unusedVariables false
set_option linter.unusedSimpArgs false
theorem Tw.checkT {s s':List Blk} {E:Int->Int->Prop} (h:Tw s s' E) (hc:checkE s=0) (hc':checkE s'=0) {a a':Int} (hE:E0 E a a'):checkT s' a' 3 0=checkT s a 3 0:=by
 unfold Go.Proofs.YtfmgdjgedhnmeaaGreat.checkT
 rw [if_neg (not_not_intro hc),if_neg (not_not_intro hc')]
 rcases hE with ⟨rfl,rfl⟩ | hE
 . simp
 . obtain ⟨r1,r2,r3,r4⟩:=h.rng _ _ hE
   rw [h.there hE,h.level _ _ hE]
   have e1:a≠0:=by omega
   have e2:a'≠0:=by omega
   simp only [ne_eq,e1,e2,not_false_eq_true,true_and]
theorem Tw.fileE {s s':List Blk} {E:Int->Int->Prop} (h:Tw s s' E) (hc:checkE s=0) (hc':checkE s'=0) (key:Int) {a a':Int} (hE:E0 E a a') (z:Int):fileE s' key a' z=fileE s key a z:=by
 unfold Go.Proofs.YtfmgdjgedhnmeaaGreat.fileE
 rw [h.checkT hc hc' hE,h.leaves 3 hE]
theorem zLl {s s':List Blk} {E:Int->Int->Prop} (h:Tw s s' E) (hc:checkE s=0) (hc':checkE s'=0) {key:Int} {l l':List Ent} (hl:Rel (EntR E) l l') (ho:zA5 s key l):zA5 s' key l':=by
 refine ⟨by rw [<- hl.len];exact ho.len,fun x' hx'=>?_,by rw [<- zFF hl];exact ho.rise⟩
 obtain ⟨x,hx,h1,h2,h3⟩:=hl.right x' hx'
 have h4:=ho.each x hx
 exact ⟨by rw [<- h1];exact h4.1,by rw [<- h3,h.fileE hc hc' key h2];exact h4.2⟩
theorem tw_right {s s':List Blk} {E:Int->Int->Prop} (h:Tw s s' E) (hc:checkE s=0) (hc':checkE s'=0) {key:Int} {x x':SetV} (hx:SetR E x x') (ho:zAV s key x):zAV s' key x':=by
 refine ⟨ho.kok,hc',by rw [<- hx.nm];exact ho.nm,zLl h hc hc' hx.files ho.files,by rw [<- hx.snaps.len];exact ho.slen,fun y' hy'=>?_,by rw [<- zKw hx.snaps];exact ho.rise⟩
 obtain ⟨y,hy,h1,h2⟩:=hx.snaps.right y' hy'
 have h3:=ho.snaps y hy
 exact ⟨by rw [<- h1];exact h3.1,zLl h hc hc' h2 h3.2⟩
theorem zG6 {s s':List Blk} {E:Int->Int->Prop} (h:Tw s s' E):∀ (f:Nat) (a a':Int),E0 E a a'->∀ x∈reachF f s a,∃ x',E x x'/\x'∈reachF f s' a'
 | 0,a,a',hE,x,hx=>by cases hx
 | f+1,a,a',hE,x,hx=>by
  unfold reachF at hx ⊢
  by_cases h0:a=0
  . rw [if_pos h0] at hx;cases hx
  . rw [if_neg h0] at hx
    rw [if_neg (fun e=>h0 ((h.zero hE).2 e))]
    rcases hE with ⟨e,_⟩ | hE
    . exact absurd e h0
    . rcases zNP.1 hx with rfl | hx
      . exact ⟨a',hE,zNP.2 (.inl rfl)⟩
      . obtain ⟨k,hk,hx⟩:=List.mem_flatMap.1 hx
        obtain ⟨k',hk',hkk⟩:=(h.kids _ _ hE).left k hk
        obtain ⟨x',h1,h2⟩:=zG6 h f k k' hkk x hx
        exact ⟨x',h1,zNP.2 (.inr (List.mem_flatMap.2 ⟨k',hk',h2⟩))⟩
theorem zEf {s:List Blk} {R:List Int} {x:Int}:x∈reachL s R↔1<=x/\x<=s.length/\x∈allF s R:=by
 unfold reachL addrs
 simp only [zOr,List.mem_map,List.mem_range,decide_eq_true_eq]
 constructor
 . rintro ⟨⟨i,hi,rfl⟩,h⟩
   exact ⟨by omega,by omega,h⟩
 . rintro ⟨h1,h2,h3⟩
   exact ⟨⟨(x - 1).toNat,by omega,by omega⟩,h3⟩
theorem zI1 {s s':List Blk} {E:Int->Int->Prop} (h:Tw s s' E) {R R':List Int} (hR:Rel (E0 E) R R'):∀ x∈reachL s R,∃ x',E x x'/\x'∈reachL s' R':=fun x hx=>by
 obtain ⟨-,-,h3⟩:=zEf.1 hx
 obtain ⟨a,ha,hx2⟩:=List.mem_flatMap.1 h3
 obtain ⟨a',ha',haa⟩:=hR.left a ha
 obtain ⟨x',h1,h2⟩:=zG6 h 4 a a' haa x hx2
 obtain ⟨r1,r2,r3,r4⟩:=h.rng _ _ h1
 exact ⟨x',h1,zEf.2 ⟨r3,r4,List.mem_flatMap.2 ⟨a',ha',h2⟩⟩⟩
theorem rel_symm {E:Int->Int->Prop} {l l':List Int} (h:Rel (E0 E) l l'):Rel (E0 fun a b=>E b a) l' l:=
 Rel.mk h.len.symm fun i h1 h2=>(h.get i h2 h1).imp (fun e=>⟨e.2,e.1⟩) id
def Same (D:Int->Prop) (a b:Int):Prop:=a=b/\D a
theorem zDd {D:Int->Prop}:∀ {l:List Int},(∀ k∈l,k=0\/D k)->Rel (E0 (Same D)) l l
 | [],_=>trivial
 | k::l,h=>⟨(h k (by simp)).imp (fun e=>⟨e,e⟩) fun e=>⟨rfl,e⟩,zDd fun x hx=>h x (by simp [hx])⟩
theorem zLq {s s':List Blk} {D:Int->Prop} (hl:s'.length=s.length) (hs:Shut s D) (hb:∀ a,D a->blk s' a=blk s a):Tw s s' (Same D):=by
 refine ⟨?_,?_,?_,?_,?_,?_,?_⟩
 . rintro a b ⟨rfl,h⟩
   obtain ⟨h1,h2,-⟩:=hs a h
   exact ⟨h1,h2,h1,by omega⟩
 . rintro a b ⟨rfl,h⟩;rw [hb a h]
 . rintro a b ⟨rfl,h⟩;rw [hb a h]
 . rintro a b ⟨rfl,h⟩;rw [hb a h]
 . rintro a b ⟨rfl,h⟩
   rw [hb a h]
   exact zDd (hs a h).2.2
 . rintro a b c ⟨rfl,_⟩ ⟨rfl,_⟩;rfl
 . rintro a b c ⟨rfl,_⟩ ⟨rfl,_⟩;rfl
theorem zFM {D:Int->Prop}:∀ {l:List Ent},(∀ k∈rootsF l,k=0\/D k)->Rel (EntR (Same D)) l l
 | [],_=>trivial
 | x::l,h=>⟨⟨rfl,(h x.root (by simp [rootsF])).imp (fun e=>⟨e,e⟩) fun e=>⟨rfl,e⟩,rfl⟩,zFM fun k hk=>h k (by simp only [rootsF,zNw,zNP];exact .inr hk)⟩
theorem zHt {D:Int->Prop}:∀ {l:List Snp},(∀ k∈rootsS l,k=0\/D k)->Rel (SnpR (Same D)) l l
 | [],_=>trivial
 | y::l,h=>⟨⟨rfl,zFM fun k hk=>h k (by simp only [rootsS,zM0,zNo];exact .inl hk)⟩,zHt fun k hk=>h k (by simp only [rootsS,zM0,zNo];exact .inr hk)⟩
theorem zI3 {D:Int->Prop} {x:SetV} (h:∀ k∈rootsL x,k=0\/D k):SetR (Same D) x x:=
 ⟨rfl,zFM fun k hk=>h k (zNo.2 (.inl hk)),zHt fun k hk=>h k (zNo.2 (.inr hk))⟩
end Go.Proofs.YtfmgdjgedhnmeaaGreat
