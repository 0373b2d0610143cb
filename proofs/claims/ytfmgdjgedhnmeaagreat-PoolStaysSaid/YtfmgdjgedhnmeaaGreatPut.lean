/- Put, in plain words; the first free block. · store.Put: a block at the first free address. -/
import Derived.Deep.RegionHeld3
import Derived.Deep.RegionWith
import Derived.Test.YtfmgdjgedhnmeaaGreatCopy
namespace Go.Proofs.YtfmgdjgedhnmeaaGreat
open Go.RowKit
set_option linter.unusedVariables false
set_option linter.unusedSimpArgs false
def freeIx (s:List Blk):Nat:=s.findIdx fun x=>decide (x.refs=0)
theorem zLh (s:List Blk) (k:Nat) (h:k<s.length) (h0:s[k].refs=0) (hb:∀ j (hj:j<k),(s[j]'(by omega)).refs≠0):freeIx s=k:=by
 unfold freeIx
 rw [List.findIdx_eq h]
 exact ⟨by simpa using h0,fun j hj=>by simpa using hb j hj⟩
theorem zIg (s:List Blk) (hb:∀ j (hj:j<s.length),s[j].refs≠0):freeIx s=s.length:=by
 unfold freeIx
 rw [List.findIdx_eq_length]
 intro x hx
 obtain ⟨j,hj,rfl⟩:=zMR hx
 simpa using hb j hj
theorem zHl (s:List Blk):freeIx s<=s.length:=List.findIdx_le_length
theorem zFJ (s:List Blk) (h:freeIx s<s.length):s[freeIx s].refs=0:=by
 exact of_decide_eq_true (List.findIdx_getElem (w:=h) (p:=fun x:Blk=>decide (x.refs=0)) (xs:=s))
def bump (s:List Blk) (ks:List Int):List Blk:=ks.foldl (fun s a=>if 0<a then addRef s a 1 else s) s
theorem zE8 (s:List Blk) (ks:List Int) (a:Int):bump s (ks++[a])=if 0<a then addRef (bump s ks) a 1 else bump s ks:=by
 simp [bump,zOg]
theorem zAp (s:List Blk) (ks:List Int):(bump s ks).length=s.length:=by
 induction ks generalizing s with
 | nil=>rfl
 | cons a ks ih=>
  have:=ih (if 0<a then addRef s a 1 else s)
  simp only [bump,zNa] at *
  rw [this]
  split
  . exact zAK _ _ _
  . rfl
def RefsB (s:List Blk) (M:Int):Prop:=∀ x∈s,0<=x.refs/\x.refs<=M
theorem zHB {s:List Blk} {M:Int} (h:RefsB s M) (a:Int) (h0:0<=M):RefsB (addRef s a 1) (M+1):=by
 intro x hx
 unfold addRef at hx
 rcases zMU hx with h1 | h1
 . have:=h x h1;omega
 . rw [h1]
   simp only
   unfold blk
   cases h2:s[(a - 1).toNat]? with
   | none=>simp [noBlk];omega
   | some y=>
    have:=h y (zM6 h2)
    simp only [zM3]
    omega
theorem zJF {s:List Blk} {M:Int} (h:RefsB s M) (h0:0<=M) (ks:List Int):RefsB (bump s ks) (M+ks.length):=by
 induction ks generalizing s M with
 | nil=>simpa [bump] using h
 | cons a ks ih=>
  simp only [bump,zNa]
  have h1:RefsB (if 0<a then addRef s a 1 else s) (M+1):=by
   split
   . exact zHB h a h0
   . intro x hx;have:=h x hx;omega
  have:=ih h1 (by omega)
  intro x hx
  have h3:=this x hx
  simp only [zMT]
  omega
def putR (s:List Blk) (l:Int) (ks bs:List Int):List Blk×Int×Int:=
 if formE s 1 l ks bs≠0 then (s,0,formE s 1 l ks bs)
 else if freeIx s=s.length then (s,0,8)
 else (bump (s.set (freeIx s) ⟨1,l,ks,bs⟩) ks,(freeIx s:Int)+1,0)
theorem zI2 (s:List Blk) (l:Int) (ks bs:List Int) (h:formE s 1 l ks bs≠0):putR s l ks bs=(s,0,formE s 1 l ks bs):=by unfold putR;rw [if_pos h]
theorem zHK (s:List Blk) (l:Int) (ks bs:List Int) (h:formE s 1 l ks bs=0) (h1:freeIx s=s.length):putR s l ks bs=(s,0,8):=by unfold putR;rw [if_neg (by simp [h]),if_pos h1]
theorem zL3 (s:List Blk) (l:Int) (ks bs:List Int) (h:formE s 1 l ks bs=0) (h1:freeIx s<s.length):putR s l ks bs=(bump (s.set (freeIx s) ⟨1,l,ks,bs⟩) ks,(freeIx s:Int)+1,0):=by
 unfold putR;rw [if_neg (by simp [h]),if_neg (by omega)]
theorem zE2 (s:List Blk) (l:Int) (ks bs:List Int) (h:formE s 1 l ks bs=0):ks.length<=4/\bs.length<=4/\∀ k∈ks,k=0\/(1<=k/\k<=s.length/\zAi s k=true):=by
 have h1:formB s ⟨1,l,ks,bs⟩=0:=h
 rcases zAY s _ h1 with ⟨h2,_⟩ | ⟨_,_,_,hk,hb⟩ | ⟨_,_,_,_,hk,hb,ha,_⟩
 . simp at h2
 . simp only at hk hb
   rw [hk,hb];exact ⟨by simp,by simp,fun k h=>by cases h⟩
 . simp only at hk hb ha
   rw [hb]
   refine ⟨by omega,by simp,fun k hkm=>?_⟩
   have:=zNF.1 ha k hkm
   unfold kidOk at this
   simp only [zNk,decide_eq_true_eq,zMW] at this
   rcases this with h0 | ⟨h1,_⟩
   . exact .inl h0
   . obtain ⟨j,hj,rfl,_⟩:=zAt h1
     exact .inr ⟨by omega,by omega,h1⟩
theorem zKb (w:World) (b:Blk) (kv bv:Value) (hk:∃ a n c,kv=.slice a n c) (hb:∃ a n c,bv=.slice a n c) :
 Calls Tryz.prog 111 #[.agg #[.int .i64 b.refs,.int .i64 b.level,kv,bv]] w fun e w'=>e=.returned (.bool (b.refs==0))/\Below w.heap.size w w':=by
 obtain ⟨a1,n1,c1,rfl⟩:=hk
 obtain ⟨a2,n2,c2,rfl⟩:=hb
 go_enter Tryz.func111,Tryz.ntmps111
 go_wp2
 go_ret
 exact ⟨rfl,(zMy _ _).alloc (zMs _) _⟩
def freeI (s:List Blk):Int:=if freeIx s<s.length then (freeIx s:Int) else -1
set_option maxRecDepth 100000 in
set_option maxHeartbeats 1000000 in
theorem zKx (w:World) (ao:Option Addr) (n cap:Nat) (s:List Blk) (hn:s.length=n) (h400:n<=400) (hs:StoRow w ao s) :
 Calls Tryz.prog 110 #[.slice ao n cap,.func (.func 111) #[] #[]] w fun e w'=>e=.returned (.int .i64 (freeI s))/\Below w.heap.size w w':=by
 have HN:=lH hn
 clear hn
 go_enter Tryz.func110,Tryz.ntmps110
 go_wp2
 go_loopw [8] (fun i wr=>∃ k:Nat,k<=n/\i=.int .i64 k/\(∀ j (hj:j<s.length),j<k->s[j].refs≠0)/\Below w.heap.size w wr) (fun i _=>n - (intOf i).toNat)
 case atStart=>exact ⟨0,zMO _,rfl,fun j _ hj=>absurd hj (Nat.not_lt_zero _),zMy _ _⟩
 case round=>
  obtain ⟨k,hkn,rfl,hno,hbel⟩:=hrel
  have HNO:=lH hno
  clear hno
  by_cases hlt:k<n
  . have hks:k<s.length:=by have:=HN.out;omega
    obtain ⟨b,o,rfl,hq⟩:=(hs.mono hbel).at k hks
    have hB:=hq k hks
    have c0:=hB.refs
    have c1:=hB.level
    obtain ⟨v2,c2,kao,kcap,rfl,hrow,hcd⟩:=hB.kids
    obtain ⟨v3,c3,bao,bcap,rfl,hrow3,hcd3⟩:=hB.bytes
    have lb:=hB.lt
    clear hq hB hrow hrow3 hcd hcd3
    go_wp2_with fail
    refine (zKb _ s[k] _ _ ⟨_,_,_,rfl⟩ ⟨_,_,_,rfl⟩).mono ?_
    rintro e w2 ⟨rfl,hb2⟩
    by_cases h0:s[k].refs=0
    . have hb:(s[k].refs==0)=true:=by rw [h0];rfl
      have hfx:=zLh s k hks h0 (fun j hj=>HNO.out j (by omega) hj)
      have HF:=lH (show freeI s=k by unfold freeI;rw [hfx,if_pos hks])
      clear h0 hfx
      go_wp2
      go_ret
      exact ⟨zAm HF.out.symm,zAd hbel hb2⟩
    . have hb:(s[k].refs==0)=false:=by rw [beq_eq_false_iff_ne];exact h0
      have H0:=lH h0
      clear h0
      go_wp2
      go_roundw
      case rel=>
       refine ⟨k+1,by omega,by go_num,fun j hj hjk=>?_,zAd hbel hb2⟩
       rcases (show j<k\/j=k from by omega) with e | rfl
       . exact HNO.out j hj e
       . exact H0.out
      case measure=>simp [intOf];omega
  . obtain rfl:k=n:=by omega
    have hfx:=zIg s (fun j hj=>HNO.out j hj (by have:=HN.out;omega))
    have HF:=lH (show freeI s=-1 by unfold freeI;rw [hfx,if_neg (by omega)])
    clear hfx
    go_wp2
    go_ret
    exact ⟨zAm HF.out.symm,hbel⟩
theorem zAr {w w':World} (h:Below w.heap.size w w') (r:Option Nat):w.grownBy w' r:=⟨h.os,h.tape,h.output,h.size,fun k hk _=>h.block k hk⟩
theorem zA0 {a b c:World} {r:Option Nat} (h:a.grownBy b r) (k:b.grownBy c r):a.grownBy c r:=
 ⟨k.os.trans h.os,k.tape.trans h.tape,k.output.trans h.output,zMN h.size k.size,fun i hi hr=>(k.block i (zMw hi h.size) hr).trans (h.block i hi hr)⟩
theorem zBJ {a b:World} {g:Nat} (h:a.grownBy b (some g)) (p:Addr) (hp:p.block=g) (v:Value):a.grownBy (b.setCell p v) (some g):=
 zA0 h ⟨rfl,rfl,rfl,by simp,fun i _ hr=>zMu _ _ _ _ (fun e=>hr (by rw [e,hp]))⟩
theorem zAv {w w':World} {g B:Nat} (h:w.grownBy w' (some g)) (hg:B<=g) (hB:B<=w.heap.size):Below B w w':=
 ⟨h.os,h.tape,h.output,h.size,fun k hk=>h.block k (by omega) (fun e=>by cases e;omega)⟩
def zAW (w w':World) (g n B:Nat):Prop:=∀ j,j<n->∀ b o l c,0<l->b<B->
 (w'.cell? ⟨g,j*4+2,none⟩=some (.slice (some ⟨b,o,none⟩) l c)->w.cell? ⟨g,j*4+2,none⟩=some (.slice (some ⟨b,o,none⟩) l c))/\
 (w'.cell? ⟨g,j*4+3,none⟩=some (.slice (some ⟨b,o,none⟩) l c)->w.cell? ⟨g,j*4+3,none⟩=some (.slice (some ⟨b,o,none⟩) l c))
theorem zAW.same {w w':World} {g n B:Nat} (h:∀ i,w'.cell? ⟨g,i,none⟩=w.cell? ⟨g,i,none⟩):zAW w w' g n B:=fun j _ b o l c _ _=>⟨fun e=>(h _).symm.trans e,fun e=>(h _).symm.trans e⟩
theorem zAW.below {w w':World} {g n B:Nat} (h:Below w.heap.size w w') (hg:g<w.heap.size):zAW w w' g n B:=.same fun i=>zMB (w:=w) (h.block g hg)
theorem zAW.trans {w w1 w2:World} {g n B:Nat} (h:zAW w w1 g n B) (k:zAW w1 w2 g n B):zAW w w2 g n B:=fun j hj b o l c hl hb=>
 ⟨fun e=>(h j hj b o l c hl hb).1 ((k j hj b o l c hl hb).1 e),fun e=>(h j hj b o l c hl hb).2 ((k j hj b o l c hl hb).2 e)⟩
theorem zAW.lower {w w':World} {g n B B':Nat} (h:zAW w w' g n B) (hb:B'<=B):zAW w w' g n B':=fun j hj b o l c hl hlt=>h j hj b o l c hl (by omega)
theorem zAW.refs {w w':World} {g n B:Nat} (h:zAW w w' g n B) (i:Nat) (v:Value):zAW w (w'.setCell ⟨g,i*4,none⟩ v) g n B:=fun j hj b o l c hl hb=>
 ⟨fun e=>(h j hj b o l c hl hb).1 (by rwa [zAf (by omega)] at e),fun e=>(h j hj b o l c hl hb).2 (by rwa [zAf (by omega)] at e)⟩
theorem zJd {w:World} {base g n cap:Nat} {ao:Option Addr} {s:List Blk} (h:OwnSto w base (.slice ao n cap) s) (hne:s≠[]) (hg:ao=some ⟨g,0,none⟩):g<w.heap.size:=by
 obtain ⟨_,_,e1,_,e3⟩:=h
 subst hg
 simp only [Value.slice.injEq] at e1
 rcases e3 with e3 | ⟨g2,e4,e5⟩
 . exact absurd e3 hne
 . have h1:=e1.1
   rw [e4] at h1
   simp only [zMz,zME] at h1
   have:=e5.lt
   omega
set_option maxRecDepth 100000 in
set_option maxHeartbeats 4000000 in
theorem zHd (w:World) (pb base:Nat) (ao ka ba:Option Addr) (n cap nk kc nb bc:Nat) (s:List Blk) (r0 l:Int) (ks bs:List Int) (hn:s.length=n) (h400:n<=400)
 (hbox:w.heap[pb]?=some (.cells #[.slice ao n cap] 24 (0,0))) (ho:OwnSto w base (.slice ao n cap) s) (hpn:∀ g,s≠[]->ao=some ⟨g,0,none⟩->pb≠g) (hbs:base<=w.heap.size) (hwf:WfS s) (hrb:RefsB s 1000000000)
 (hk:ks.length=nk) (hb:bs.length=nb) (hkr:Row .i64 w ka ks) (hbr:Row .u8 w ba bs) (hka:Capd ka nk kc) (hba:Capd ba nb bc) (hkw:∀ k∈ks,I64 k) (hnk:nk<=17592186044416) (hnb:nb<=140737488351232) :
 Calls Tryz.prog 104 #[.pointer (some ⟨pb,0,none⟩),.agg #[.int .i64 r0,.int .i64 l,.slice ka nk kc,.slice ba nb bc]] w fun e w'=>
  e=.returned (.tuple #[.int .i64 (putR s l ks bs).2.1,.int .i64 (putR s l ks bs).2.2])/\OwnSto w' base (.slice ao n cap) (putR s l ks bs).1/\Below base w w'/\(∀ b,b<w.heap.size->(∀ g,s≠[]->ao=some ⟨g,0,none⟩->b≠g)->w'.heap[b]?=w.heap[b]?)/\∀ g,s≠[]->ao=some ⟨g,0,none⟩->zAW w w' g n w.heap.size:=by
 have HN:=lH hn
 have HK:=lH hk
 have HB:=lH hb
 have HNK:=lH hnk
 have HNB:=lH hnb
 have HKA:=lH hka
 have HBA:=lH hba
 clear hn hk hb hnk hnb hka hba
 have hb0:=bA0 w (.cells #[.int .i64 1,.int .i64 l,.slice ka nk kc,.slice ba nb bc] 99)
 have p0:=heap_alloc_new w (.cells #[.int .i64 1,.int .i64 l,.slice ka nk kc,.slice ba nb bc] 99)
 have hpw:pb<w.heap.size:=zAb hbox
 go_enter Tryz.func104,Tryz.ntmps104
 go_wp2_with fail
 have p1:=Zm hb0 hbox
 have ho1:=ho.mono hb0
 generalize w.alloc (.cells #[Value.int .i64 1,Value.int .i64 l,.slice ka nk kc,.slice ba nb bc] 99)=W1 at *
 obtain ⟨ao',cap',hv',hcd',hsr⟩:=ho1.sto
 rw [HN.out] at hv'
 simp only [Value.slice.injEq,true_and] at hv'
 obtain ⟨rfl,rfl⟩:=hv'
 have c0:=zAa p0 0
 have c1:=zAa p0 1
 have c2:=zAa p0 2
 have c3:=zAa p0 3
 simp at c0 c1 c2 c3
 have c4:=cell_of_one p1
 have l0:=zAb p0
 have l1:=zAb p1
 have hkr1:=hkr.mono hb0
 have hbr1:=hbr.mono hb0
 refine zAT (by kernel_rfl) (by kernel_rfl) ?_
 repeat (go_big_quiet_step ((refine zBq (v:=.int .i64 (formE s 1 l ks bs)) ?_;exact zGq _ _ _ _ _ _ _ _ _ _ s 1 l ks bs HN.out (by omega) (hsr.mono (zAZ _ _)) hwf (hkr1.mono (zAZ _ _)) hkw HK.out HB.out HNK.out HNB.out)))
 refine wpQuiet_nil ?_
 intro w2 hb2
 have hb02:=zAd hb0 hb2
 by_cases hfe:formE s 1 l ks bs=0
 rotate_left
 . have hx1:(formE s 1 l ks bs != 0)=true:=by rw [bne_iff_ne];exact hfe
   have hx2:(formE s 1 l ks bs==0)=false:=by rw [beq_eq_false_iff_ne];exact hfe
   have HR:=lH (zI2 s l ks bs hfe)
   clear hfe c0 c1 c2 c3 c4
   go_wp2
   go_ret2
   exact ⟨by rw [HR.out];rfl,by rw [HR.out];exact ho1.mono hb2,hb02.mono hbs,fun b hb _=>hb02.block b hb,fun g hne hg=>.below hb02 (zJd ho hne hg)⟩
 . have hx2:(formE s 1 l ks bs==0)=true:=by rw [hfe];rfl
   obtain ⟨hk4,hbl4,hkin⟩:=zE2 s l ks bs hfe
   have HFE:=lH hfe
   have q1:=Zm hb2 p1
   have q0:=Zm hb2 p0
   have d4:=cell_of_one q1
   have l2:=zAb q1
   clear hfe c0 c1 c2 c3 c4
   go_wp2_with fail
   refine (zKx _ _ _ _ s HN.out h400 (hsr.mono hb2)).mono ?_
   rintro e w3 ⟨rfl,hb3⟩
   have hb03:=zAd hb02 hb3
   have q1:=Zm hb3 q1
   have q0:=Zm hb3 q0
   have ho3:=(ho1.mono hb2).mono hb3
   rcases zNp (freeIx s) s.length with hf | hf
   rotate_left
   . have hf':freeIx s=s.length:=Nat.le_antisymm (zHl s) hf
     have HR:=lH (zHK s l ks bs HFE.out hf')
     have hfi:freeI s=-1:=by unfold freeI;rw [if_neg (by omega)]
     clear d4
     go_wp2
     go_ret2
     exact ⟨by rw [HR.out];rfl,by rw [HR.out];exact ho3,hb03.mono hbs,fun b hb _=>hb03.block b hb,fun g hne hg=>.below hb03 (zJd ho hne hg)⟩
   . have HR:=lH (zL3 s l ks bs HFE.out hf)
     have hfi:freeI s=freeIx s:=by unfold freeI;rw [if_pos hf]
     rw [hfi]
     have hfr:=zFJ s hf
     generalize freeIx s=k at *
     have hkn:k<n:=by have:=HN.out;omega
     have hk0:(0:Int)<=k:=by omega
     have hkn':(k:Int)<n:=by omega
     obtain ⟨g,cap2,hv2,hR⟩:=ho3.at k hf
     rw [HN.out] at hv2
     simp only [Value.slice.injEq,true_and] at hv2
     obtain ⟨rfl,rfl⟩:=hv2
     have hle:=hR.le
     have hne0:s≠[]:=fun e=>by rw [e] at hf;simp at hf
     have hpg:pb≠g:=hpn g hne0 rfl
     have e0:=zAa q0 0
     have e1:=zAa q0 1
     have e2:=zAa q0 2
     have e3:=zAa q0 3
     simp at e0 e1 e2 e3
     have e4:=cell_of_one q1
     have z0:=zAb q0
     have z1:=zAb q1
     have hkr3:=(hkr1.mono hb2).mono hb3
     have hbr3:=(hbr1.mono hb2).mono hb3
     have fz:=fun j=>zAc q0 j
     clear d4 hfi hsr hfr
     go_wp2_with fail
     go_region_with (first
      | (go_at_call 50;refine (zD2 _ _ _ ks _ HK.out (by exact hkr3) HKA.out.2 HNK.out).mono ?_;rintro e w4 ⟨v4,rfl,hown4,-,hb4⟩;obtain ⟨a4,k4,rfl,-,-,-,-⟩:=hown4.shape';have u2:=Zc hb4 z0 e2;have u3:=Zc hb4 z0 e3;have z4:=hb4.size;have uf:=fun j=>((bcell hb4).2 w.heap.size j z0).trans (fz j))
      | (go_at_call 51;refine (zAE _ _ _ bs _ HB.out (by exact Row.mono (w:=w3.drew) hbr3 hb4) HBA.out.2 (by have:=HNB.out;omega)).mono ?_;rintro e w5 ⟨v5,rfl,hown5,-,hb5⟩;obtain ⟨a5,k5,rfl,-,-,-,-⟩:=hown5.shape';have y2:=((bcell hb5).1 _ _ (zMw z0 z4)).trans u2;have y3:=((bcell hb5).1 _ _ (zMw z0 z4)).trans u3;have z5:=hb5.size;have yf:=fun j=>((bcell hb5).2 w.heap.size j (zMw z0 z4)).trans (uf j)))
     all_goals
      have hb34:Below w3.heap.size w3 w4:=zBL hb4
      have z34:w3.heap.size<=w4.heap.size:=hb34.size
      have z45:=hb5.size
      have z03:=hb03.size
      have r0:=(hb5.block _ (zMw z0 z34)).trans ((hb34.block _ z0).trans q0)
      have r1:=zAe (zAe r0 2 (.slice a4 ks.length k4)) 3 (.slice a5 bs.length k5)
      simp only [zMS,zM7,zM9] at r1
      have hW:Below w.heap.size w ((w5.setCell ⟨w.heap.size,2,none⟩ (.slice a4 ks.length k4)).setCell ⟨w.heap.size,3,none⟩ (.slice a5 bs.length k5)):=
       ((hb03.trans ((hb34.mono z03).trans (hb5.mono (by omega)))).setCell (zMs _) _).setCell (zMs _) _
      have hR6:OwnR ((w5.setCell ⟨w.heap.size,2,none⟩ (.slice a4 ks.length k4)).setCell ⟨w.heap.size,3,none⟩ (.slice a5 bs.length k5)) base g s:=by
       obtain ⟨g',cap',hv,hRw⟩:=ho.at k hf
       simp only [Value.slice.injEq,zMz,zME] at hv
       obtain ⟨⟨rfl,_⟩,_,_⟩:=hv
       exact hRw.mono hW
      have l3g:g<w3.heap.size:=hR.lt
      have o4:Own .i64 3 w3.heap.size ((w5.setCell ⟨w.heap.size,2,none⟩ (.slice a4 ks.length k4)).setCell ⟨w.heap.size,3,none⟩ (.slice a5 bs.length k5)) (.slice a4 ks.length k4) ks:=
       ownsRow_setCell_below (ownsRow_setCell_below (a:=⟨w.heap.size,2,none⟩) (hown4.mono hb5) z0 _) (a:=⟨w.heap.size,3,none⟩) z0 _
      have o5:Own .u8 5 w4.heap.size ((w5.setCell ⟨w.heap.size,2,none⟩ (.slice a4 ks.length k4)).setCell ⟨w.heap.size,3,none⟩ (.slice a5 bs.length k5)) (.slice a5 bs.length k5) bs:=
       ownsRow_setCell_below (ownsRow_setCell_below (a:=⟨w.heap.size,2,none⟩) hown5 (zMw z0 z34) _) (a:=⟨w.heap.size,3,none⟩) (zMw z0 z34) _
      have s4:=o4.slx l3g
      have s5:=o5.slx (g:=g) (by omega)
      have t1:((w5.setCell ⟨w.heap.size,2,none⟩ (.slice a4 ks.length k4)).setCell ⟨w.heap.size,3,none⟩ (.slice a5 bs.length k5)).heap[pb]?=_:=(hW.block _ hpw).trans hbox
      have hg1:=zAr hW (some g)
      clear e0 e1 e2 e3 e4 u2 u3 y2 y3 uf yf fz hown4 hown5 hb4 hb5 r0 q0 q1
      generalize (w5.setCell ⟨w.heap.size,2,none⟩ (.slice a4 ks.length k4)).setCell ⟨w.heap.size,3,none⟩ (.slice a5 bs.length k5)=W6 at *
      have e0:=zAa r1 0
      have e1:=zAa r1 1
      have e2:=zAa r1 2
      have e3:=zAa r1 3
      simp at e0 e1 e2 e3
      have e4:=cell_of_one t1
      have hB6:=hR6.blks k hf
      have g0:=hB6.refs
      have g1:=hB6.level
      obtain ⟨kv,g2,-⟩:=hB6.kids
      obtain ⟨bv,g3,-⟩:=hB6.bytes
      have gf:=hR6.free
      have lg:=hR6.lt
      have hR7:=hR6.setBlk k hf ⟨1,l,ks,bs⟩ _ _ s4 s5
      have lgw:g<w.heap.size:=by
       obtain ⟨g',cap',hv,hRw⟩:=ho.at k hf
       simp only [Value.slice.injEq,zMz,zME] at hv
       obtain ⟨⟨rfl,_⟩,_,_⟩:=hv
       exact hRw.lt
      have hkeep0:∀ b,b≠g->((((W6.setCell ⟨g,k*4,none⟩ (.int .i64 1)).setCell ⟨g,k*4+1,none⟩ (.int .i64 l)).setCell ⟨g,k*4+2,none⟩ (.slice a4 ks.length k4)).setCell ⟨g,k*4+3,none⟩ (.slice a5 bs.length k5)).heap[b]?=W6.heap[b]?:=fun b hb=>by
       rw [zMu _ _ _ _ hb,zMu _ _ _ _ hb,zMu _ _ _ _ hb,zMu _ _ _ _ hb]
      have hkeep:∀ b,b≠g->((((W6.setCell ⟨g,k*4,none⟩ (.int .i64 1)).setCell ⟨g,k*4+1,none⟩ (.int .i64 l)).setCell ⟨g,k*4+2,none⟩ (.slice a4 ks.length k4)).setCell ⟨g,k*4+3,none⟩ (.slice a5 bs.length k5)).drew.heap[b]?=W6.heap[b]?:=hkeep0
      have hg7:w.grownBy ((((W6.setCell ⟨g,k*4,none⟩ (.int .i64 1)).setCell ⟨g,k*4+1,none⟩ (.int .i64 l)).setCell ⟨g,k*4+2,none⟩ (.slice a4 ks.length k4)).setCell ⟨g,k*4+3,none⟩ (.slice a5 bs.length k5)) (some g):=by
       refine ⟨hg1.os,hg1.tape,hg1.output,?_,fun b hlt hb=>?_⟩
       . have:=hg1.size;simp;exact this
       . rw [hkeep0 b (fun e=>hb (by rw [e]))];exact hg1.block b hlt hb
      have hR8:OwnR (((((W6.setCell ⟨g,k*4,none⟩ (.int .i64 1)).setCell ⟨g,k*4+1,none⟩ (.int .i64 l)).setCell ⟨g,k*4+2,none⟩ (.slice a4 ks.length k4)).setCell ⟨g,k*4+3,none⟩ (.slice a5 bs.length k5)).drew) base g (s.set k ⟨1,l,ks,bs⟩):=OwnR.keep hR7 (fun _ _=>rfl)
      have s8:SlX g .i64 (((((W6.setCell ⟨g,k*4,none⟩ (.int .i64 1)).setCell ⟨g,k*4+1,none⟩ (.int .i64 l)).setCell ⟨g,k*4+2,none⟩ (.slice a4 ks.length k4)).setCell ⟨g,k*4+3,none⟩ (.slice a5 bs.length k5)).drew) (.slice a4 ks.length k4) ks:=s4.keep fun b hb _=>hkeep b hb
      have x2:=zAa ((hkeep w.heap.size (by omega)).trans r1) 2
      simp only [cA1,cA2,cA3] at x2
      have x4:=(hkeep pb hpg).trans t1
      have hg8:w.grownBy ((((W6.setCell ⟨g,k*4,none⟩ (.int .i64 1)).setCell ⟨g,k*4+1,none⟩ (.int .i64 l)).setCell ⟨g,k*4+2,none⟩ (.slice a4 ks.length k4)).setCell ⟨g,k*4+3,none⟩ (.slice a5 bs.length k5)).drew (some g):=⟨hg7.os,hg7.tape,hg7.output,hg7.size,hg7.block⟩
      have hRF8:zAW w ((((W6.setCell ⟨g,k*4,none⟩ (.int .i64 1)).setCell ⟨g,k*4+1,none⟩ (.int .i64 l)).setCell ⟨g,k*4+2,none⟩ (.slice a4 ks.length k4)).setCell ⟨g,k*4+3,none⟩ (.slice a5 bs.length k5)).drew g n w.heap.size:=by
       have hcw:∀ i,W6.cell? ⟨g,i,none⟩=w.cell? ⟨g,i,none⟩:=fun i=>zMB (w:=w) (hW.block g lgw)
       intro j hj b o ll c hl hb
       by_cases e:j=k
       . subst e
         have e2:((((W6.setCell ⟨g,j*4,none⟩ (.int .i64 1)).setCell ⟨g,j*4+1,none⟩ (.int .i64 l)).setCell ⟨g,j*4+2,none⟩ (.slice a4 ks.length k4)).setCell ⟨g,j*4+3,none⟩ (.slice a5 bs.length k5)).cell? ⟨g,j*4+2,none⟩=some (.slice a4 ks.length k4):=by
          rw [zAf (by omega)]
          exact zMQ _ _ _ ((zAf (by omega)).trans ((zAf (by omega)).trans g2))
         have e3:((((W6.setCell ⟨g,j*4,none⟩ (.int .i64 1)).setCell ⟨g,j*4+1,none⟩ (.int .i64 l)).setCell ⟨g,j*4+2,none⟩ (.slice a4 ks.length k4)).setCell ⟨g,j*4+3,none⟩ (.slice a5 bs.length k5)).cell? ⟨g,j*4+3,none⟩=some (.slice a5 bs.length k5):=
          zMQ _ _ _ ((zAf (by omega)).trans ((zAf (by omega)).trans ((zAf (by omega)).trans g3)))
         refine ⟨fun h=>?_,fun h=>?_⟩
         . have h':=e2.symm.trans h
           simp only [zMz,Value.slice.injEq] at h'
           rcases o4.block with ⟨q1,_⟩ | ⟨b',cap',cur',q1,q2,_⟩
           . simp only [Value.slice.injEq] at q1
             rw [q1.1] at h'
             cases h'.1
           . simp only [Value.slice.injEq] at q1
             rw [q1.1] at h'
             have:=h'.1
             simp only [zMz,zME] at this
             omega
         . have h':=e3.symm.trans h
           simp only [zMz,Value.slice.injEq] at h'
           rcases o5.block with ⟨q1,_⟩ | ⟨b',cap',cur',q1,q2,_⟩
           . simp only [Value.slice.injEq] at q1
             rw [q1.1] at h'
             cases h'.1
           . simp only [Value.slice.injEq] at q1
             rw [q1.1] at h'
             have:=h'.1
             simp only [zMz,zME] at this
             omega
       . have e2:∀ r,2<=r->r<=3->((((W6.setCell ⟨g,k*4,none⟩ (.int .i64 1)).setCell ⟨g,k*4+1,none⟩ (.int .i64 l)).setCell ⟨g,k*4+2,none⟩ (.slice a4 ks.length k4)).setCell ⟨g,k*4+3,none⟩ (.slice a5 bs.length k5)).cell? ⟨g,j*4+r,none⟩=w.cell? ⟨g,j*4+r,none⟩:=fun r h1 h2=>by
          rw [zAf (by omega),zAf (by omega),zAf (by omega),zAf (by omega),hcw]
         exact ⟨fun h=>(e2 2 (by omega) (by omega)).symm.trans h,fun h=>(e2 3 (by omega) (by omega)).symm.trans h⟩
      clear hg7 hkeep0
      clear hR7 s4 s5 o4 o5 hkeep
      go_wp2_with fail
      go_region
      generalize ((((W6.setCell ⟨g,k*4,none⟩ (Value.int .i64 1)).setCell ⟨g,k*4+1,none⟩ (Value.int .i64 l)).setCell ⟨g,k*4+2,none⟩ (.slice a4 ks.length k4)).setCell ⟨g,k*4+3,none⟩ (.slice a5 bs.length k5)).drew=W7 at *
      clear e0 e1 e2 e3 e4 g0 g1 g2 g3 gf hB6 hR6 r1 t1
      have xl:=zAb x4
      have hrbs:RefsB (s.set k ⟨1,l,ks,bs⟩) 1000000000:=by
       intro x hx
       rcases zMU hx with h | h
       . exact hrb x h
       . rw [h];simp
      obtain ⟨a4',c4',hv4,hf4,hc4⟩:=s8
      simp only [Value.slice.injEq,true_and] at hv4
      obtain ⟨rfl,rfl⟩:=hv4
      clear ho ho1 ho3 hR hkr hbr hkr1 hbr1 hkr3 hbr3 hwf hkw hrb
      go_wp2_with fail
      clear x2
      go_loopw [44] (fun i wr=>∃ m:Nat,m<=ks.length/\i=.int .i64 m/\OwnR wr base g (bump (s.set k ⟨1,l,ks,bs⟩) (ks.take m))/\w.grownBy wr (some g)/\zA4 g .i64 wr a4 ks/\zAW w wr g n w.heap.size) (fun i _=>ks.length - (intOf i).toNat)
      case atStart=>exact ⟨0,zMO _,rfl,hR8,hg8,hf4,hRF8⟩
      case round=>
       clear hR8 hg8 hf4 x4 xl hg1 hW hRF8
       obtain ⟨m,hm,rfl,hR,hg,hf4,hrf⟩:=hrel
       have q1:=(hg.block pb hpw (by simp [hpg])).trans hbox
       have d1:=cell_of_one q1
       have dl:=zAb q1
       have lg:=hR.lt
       by_cases hlt:m<ks.length
       . have hm4:m<=4:=by omega
         have hbl:(bump (s.set k ⟨1,l,ks,bs⟩) (ks.take m)).length=n:=by rw [zAp,zMK];exact HN.out
         have hrb:=zJF hrbs (by omega) (ks.take m)
         have hsn:=zE8 (s.set k ⟨1,l,ks,bs⟩) (ks.take m) ks[m]
         rw [<- zMD hlt] at hsn
         obtain ⟨kb,ko,rfl,hkg,hkc⟩:∃ b o,a4=some ⟨b,o,none⟩/\b≠g/\∀ i (h:i<ks.length),wr.cell? ⟨b,o+i,none⟩=some (.int .i64 ks[i]):=by
          rcases hf4 with h | h
          . rw [h] at hlt;simp at hlt
          . exact h
         have hck:=hkc m hlt
         have hlk:=zMx _ _ hck
         have hki:=hkin _ (zMr hlt)
         have HSN:=lH hsn
         have HF4:=lH hf4
         clear hsn hkc hf4
         generalize ks[m]=y at *
         rcases hki with rfl | ⟨hy1,hy2,_⟩
         . go_wp2
           go_roundw
           case rel=>exact ⟨m+1,by omega,by go_num,by rw [HSN.out,if_neg (by omega)];exact hR,hg,HF4.out,hrf⟩
           case measure=>simp [intOf];omega
         . obtain ⟨j,rfl⟩:∃ j:Nat,y=j+1:=⟨(y - 1).toNat,by omega⟩
           have hj:j<n:=by have:=HN.out;omega
           have hjs:j<(bump (s.set k ⟨1,l,ks,bs⟩) (ks.take m)).length:=by omega
           have hR2:=hR.setRefs j hjs ((bump (s.set k ⟨1,l,ks,bs⟩) (ks.take m))[j].refs+1)
           have hsn:=HSN.out
           rw [if_pos (by omega),zBN _ j hjs] at hsn
           rw [<- hsn] at hR2
           have cj:=(hR.blks j hjs).refs
           have fj:=hR.free (j*4)
           have hbj:=hrb _ (zMr hjs)
           have hlm:((ks.take m).length:Int)<=4:=by simp;omega
           have hb1:=hbj.1
           have hb2:(bump (s.set k ⟨1,l,ks,bs⟩) (ks.take m))[j].refs<=1000000004:=by omega
           have HR2:=lH hR2
           have hjn:(j:Int)<n:=by omega
           clear hsn hR2 hbj hrb hR hlm hbl hy1 hy2
           generalize (bump (s.set k ⟨1,l,ks,bs⟩) (ks.take m))[j].refs=rj at *
           have HG:=lH (zBJ hg ⟨g,j*4,none⟩ rfl (.int .i64 (rj+1)))
           have HF5:=lH (HF4.out.keep (w':=wr.setCell ⟨g,j*4,none⟩ (.int .i64 (rj+1))) fun b hb _=>zMu _ _ _ _ hb)
           go_wp2
           go_roundw
           case rel=>exact ⟨m+1,by omega,by go_num,HR2.out,HG.out,HF5.out,hrf.refs j _⟩
           case measure=>simp [intOf];omega
       . obtain rfl:m=ks.length:=by omega
         rw [zNR] at hR
         clear d1
         go_wp2
         go_ret2
         exact ⟨by rw [HR.out];rfl,by rw [HR.out];exact hR.own (by rw [zAp,zMK];exact HN.out) (by have:=hcd'.1;have:=HN.out;omega),zAv hg hR.le hbs,fun b hb hn=>hg.block b hb (by simpa using hn g hne0 rfl),fun g' _ hg'=>by
          simp only [zMz,zME,and_true] at hg'
          subst hg'
          exact hrf⟩
end Go.Proofs.YtfmgdjgedhnmeaaGreat
