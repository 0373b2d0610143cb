/- Two pools held against each other by the document's own means. · An ask that came in, opened. · The law PoolStays. -/
import Derived.Test.YtfmgdjgedhnmeaaGreatPoolRow
import Derived.Test.YtfmgdjgedhnmeaaGreatPoolX
import Derived.Test.YtfmgdjgedhnmeaaGreatPoolY
import Derived.BigQuiet
import Derived.Deep.RegionWith
import Derived.Test.YtfmgdjgedhnmeaaGreatPooled
namespace Go.Proofs.YtfmgdjgedhnmeaaGreat
open Go.RowKit
set_option linter.unusedVariables false
set_option linter.unusedSimpArgs false
set_option maxRecDepth 100000 in
set_option maxHeartbeats 4000000 in
theorem zOV (w:World) (ao bo:Option Addr) (m c m' c':Nat) (l l':List SetV) (hm:l.length=m) (hm':l'.length=m') (h63:m<=1152921504606846976) (h63':m'<=1152921504606846976) (hf:∀ y∈l,FitX y) (hf':∀ y∈l',FitX y) (hr:zEs w ao l) (hr':zEs w bo l') :
 Calls Tryz.prog 8 #[.slice ao m c,.slice bo m' c',.func (.func 9) #[] #[]] w fun e w'=>e=.returned (.bool (isB l l'))/\Below w.heap.size w w':=by
 have HM:=lH hm
 have HM':=lH hm'
 clear hm hm'
 by_cases hmm:m=m'
 . subst hmm
   go_enter Tryz.func8,Tryz.ntmps8
   go_wp2
   go_loopw [17] (fun i wr=>∃ k:Nat,k<=m/\i=.int .i64 k/\Hid (l.take k=l'.take k)/\Below w.heap.size w wr) (fun i _=>m - (intOf i).toNat)
   case atStart=>exact ⟨0,zMO _,rfl,lH rfl,zMy _ _⟩
   case round=>
    obtain ⟨k,hkm,rfl,HTK,hbel⟩:=hrel
    by_cases hlt:k<m
    . have hk1:k<l.length:=by have:=HM.out;omega
      have hk2:k<l'.length:=by have:=HM'.out;omega
      have hlt':(k:Int)<m:=by omega
      obtain ⟨b1,o1,rfl,hq1⟩:=zEs.at (hr.mono hbel) k hk1
      obtain ⟨b2,o2,rfl,hq2⟩:=zEs.at (hr'.mono hbel) k hk2
      obtain ⟨fo1,fn1,fc1,so1,sn1,sc1,hE1,hI1⟩:=hq1 k hk1
      obtain ⟨fo2,fn2,fc2,so2,sn2,sc2,hE2,hI2⟩:=hq2 k hk2
      clear hq1 hq2
      have c0:=hE1.nm
      have c1:=hE1.fl
      have c2:=hE1.sl
      have d0:=hE2.nm
      have d1:=hE2.fl
      have d2:=hE2.sl
      simp only at c0 c1 c2 d0 d1 d2
      have l1:=hE1.lt
      have l2:=hE2.lt
      have HNE:=lH (zOJ k hk1 hk2)
      have HSN:=lH (fun h=>zOF k hk1 hk2 h HTK.out)
      have hf1:=hf _ (zMr hk1)
      have hf2:=hf' _ (zMr hk2)
      clear hE1 hE2
      generalize l[k]=x at *
      generalize l'[k]=y at *
      have hbb:Below wr.heap.size wr ((wr.alloc (.cells #[.string x.nm,.slice fo1 fn1 fc1,.slice so1 sn1 sc1] 47)).alloc (.cells #[.string y.nm,.slice fo2 fn2 fc2,.slice so2 sn2 sc2] 47)):=((zMy _ _).alloc (zMs _) _).alloc (by simp) _
      have HCL:=lH (zOP ((wr.alloc (.cells #[.string x.nm,.slice fo1 fn1 fc1,.slice so1 sn1 sc1] 47)).alloc (.cells #[.string y.nm,.slice fo2 fn2 fc2,.slice so2 sn2 sc2] 47)) fo1 so1 fo2 so2 fn1 fc1 sn1 sc1 fn2 fc2 sn2 sc2 x y (hI1.mono hbb) (hI2.mono hbb) hf1 hf2)
      clear hI1 hI2 hf1 hf2
      go_wp2_with fail
      refine HCL.out.mono ?_
      by_cases hxy:x=y
      . rw [(zOD _ _).2 hxy]
        rintro e w2 ⟨rfl,hb2⟩
        have HST:=lH (HSN.out hxy)
        have hbw:=zAd hbel (zAd hbb hb2)
        clear hxy HNE HSN HCL
        go_wp2
        go_roundw
        case rel=>exact ⟨k+1,by omega,by go_num,HST,hbw⟩
        case measure=>simp [intOf];omega
      . rw [zOC hxy]
        rintro e w2 ⟨rfl,hb2⟩
        have HR:Hid (isB l l'=false):=lH (zOC (HNE.out hxy))
        have hbw:=zAd hbel (zAd hbb hb2)
        clear hxy HNE HSN HCL
        go_wp2
        go_ret
        exact ⟨zBi HR.out.symm,hbw⟩
    . obtain rfl:k=m:=by omega
      have HR:Hid (isB l l'=true):=lH ((zOD _ _).2 (by
       have h1:l.take k=l:=zMM (by have:=HM.out;omega)
       have h2:l'.take k=l':=zMM (by have:=HM'.out;omega)
       rw [<- h1,<- h2];exact HTK.out))
      have hlt':¬ (k:Int)<k:=by omega
      go_wp2_with fail
      go_ret
      exact ⟨zBi HR.out.symm,hbel⟩
 . have HR:Hid (isB l l'=false):=lH (zOC (by rintro rfl;exact hmm (HM.out.symm.trans HM'.out)))
   have h1:((m:Int) != m')=true:=by rw [bne_iff_ne];omega
   go_enter Tryz.func8,Tryz.ntmps8
   go_wp2_with fail
   go_ret
   exact ⟨zBi HR.out.symm,zMy _ _⟩
set_option maxRecDepth 100000 in
set_option maxHeartbeats 4000000 in
theorem zOR (w:World) (ao bo:Option Addr) (n c n' c':Nat) (t u:TenV) (ht:TenIn w ao n c t) (hu:TenIn w bo n' c' u) (wt:WfT t) (wu:WfT u) :
 Calls Tryz.prog 23 #[.agg #[.int .i64 t.key,.int .i64 t.quota,.slice ao n c],.agg #[.int .i64 u.key,.int .i64 u.quota,.slice bo n' c']] w fun e w'=>e=.returned (.bool (isB t u))/\Below w.heap.size w w':=by
 have hb0:Below w.heap.size w ((w.alloc (.cells #[.int .i64 t.key,.int .i64 t.quota,.slice ao n c] 42)).alloc (.cells #[.int .i64 u.key,.int .i64 u.quota,.slice bo n' c'] 42)):=((zMy _ _).alloc (zMs _) _).alloc (by simp) _
 have HQ:=lH (zOV ((w.alloc (.cells #[.int .i64 t.key,.int .i64 t.quota,.slice ao n c] 42)).alloc (.cells #[.int .i64 u.key,.int .i64 u.quota,.slice bo n' c'] 42)) ao bo n c n' c' t.sets u.sets ht.len hu.len (by have:=ht.len;have:=wt.len;omega) (by have:=hu.len;have:=wu.len;omega) (fun y hy=>(wt.sets y hy).2) (fun y hy=>(wu.sets y hy).2) (ht.row.mono hb0) (hu.row.mono hb0))
 obtain ⟨tk,tq,ts⟩:=t
 obtain ⟨uk,uq,us⟩:=u
 simp only at hb0 HQ
 by_cases hk:tk=uk
 . have h1:(tk==uk)=true:=by rw [beq_iff_eq];exact hk
   by_cases hq:tq=uq
   . have h2:(tq==uq)=true:=by rw [beq_iff_eq];exact hq
     have HR:Hid (isB (⟨tk,tq,ts⟩:TenV) ⟨uk,uq,us⟩=isB ts us):=lH (by
      by_cases e:ts=us
      . rw [(zOD _ _).2 e,(zOD _ _).2 (by rw [hk,hq,e])]
      . rw [zOC e,zOC (fun e2=>e (TenV.mk.inj e2).2.2)])
     clear ht hu wt wu hk hq
     go_enter Tryz.func23,Tryz.ntmps23
     go_wp2_with fail
     refine HQ.out.mono ?_
     rintro e w1 ⟨rfl,hb1⟩
     go_wp2_with fail
     go_ret
     exact ⟨zBi HR.out.symm,zAd hb0 hb1⟩
   . have h2:(tq==uq)=false:=by rw [beq_eq_false_iff_ne];exact hq
     have HR:Hid (isB (⟨tk,tq,ts⟩:TenV) ⟨uk,uq,us⟩=false):=lH (zOC fun e=>hq (TenV.mk.inj e).2.1)
     clear ht hu wt wu hk hq HQ
     go_enter Tryz.func23,Tryz.ntmps23
     go_wp2_with fail
     go_ret
     exact ⟨zBi HR.out.symm,hb0⟩
 . have h1:(tk==uk)=false:=by rw [beq_eq_false_iff_ne];exact hk
   have HR:Hid (isB (⟨tk,tq,ts⟩:TenV) ⟨uk,uq,us⟩=false):=lH (zOC fun e=>hk (TenV.mk.inj e).1)
   clear ht hu wt wu hk HQ
   go_enter Tryz.func23,Tryz.ntmps23
   go_wp2_with fail
   go_ret
   exact ⟨zBi HR.out.symm,hb0⟩
set_option maxRecDepth 100000 in
set_option maxHeartbeats 4000000 in
theorem zOU (w:World) (ao bo:Option Addr) (m c m' c':Nat) (l l':List TenV) (hm:l.length=m) (hm':l'.length=m') (h63:m<=1152921504606846976) (h63':m'<=1152921504606846976) (hf:∀ y∈l,WfT y) (hf':∀ y∈l',WfT y) (hr:zDy w ao l) (hr':zDy w bo l') :
 Calls Tryz.prog 22 #[.slice ao m c,.slice bo m' c',.func (.func 23) #[] #[]] w fun e w'=>e=.returned (.bool (isB l l'))/\Below w.heap.size w w':=by
 have HM:=lH hm
 have HM':=lH hm'
 clear hm hm'
 by_cases hmm:m=m'
 . subst hmm
   go_enter Tryz.func22,Tryz.ntmps22
   go_wp2
   go_loopw [17] (fun i wr=>∃ k:Nat,k<=m/\i=.int .i64 k/\Hid (l.take k=l'.take k)/\Below w.heap.size w wr) (fun i _=>m - (intOf i).toNat)
   case atStart=>exact ⟨0,zMO _,rfl,lH rfl,zMy _ _⟩
   case round=>
    obtain ⟨k,hkm,rfl,HTK,hbel⟩:=hrel
    by_cases hlt:k<m
    . have hk1:k<l.length:=by have:=HM.out;omega
      have hk2:k<l'.length:=by have:=HM'.out;omega
      have hlt':(k:Int)<m:=by omega
      obtain ⟨b1,o1,q1,m1,e1,rfl,hE1,hI1⟩:=zDy.at (hr.mono hbel) k hk1
      obtain ⟨b2,o2,q2,m2,e2,rfl,hE2,hI2⟩:=zDy.at (hr'.mono hbel) k hk2
      have c0:=hE1.key
      have c1:=hE1.quota
      have c2:=hE1.sl
      have d0:=hE2.key
      have d1:=hE2.quota
      have d2:=hE2.sl
      simp only at c0 c1 c2 d0 d1 d2
      have l1:=hE1.lt
      have l2:=hE2.lt
      have HNE:=lH (zOJ k hk1 hk2)
      have HSN:=lH (fun h=>zOF k hk1 hk2 h HTK.out)
      have hf1:=hf _ (zMr hk1)
      have hf2:=hf' _ (zMr hk2)
      clear hE1 hE2
      generalize l[k]=x at *
      generalize l'[k]=y at *
      have hbb:Below wr.heap.size wr ((wr.alloc (.cells #[.int .i64 x.key,.int .i64 x.quota,.slice q1 m1 e1] 42)).alloc (.cells #[.int .i64 y.key,.int .i64 y.quota,.slice q2 m2 e2] 42)):=((zMy _ _).alloc (zMs _) _).alloc (by simp) _
      have HCL:=lH (zOR ((wr.alloc (.cells #[.int .i64 x.key,.int .i64 x.quota,.slice q1 m1 e1] 42)).alloc (.cells #[.int .i64 y.key,.int .i64 y.quota,.slice q2 m2 e2] 42)) q1 q2 m1 e1 m2 e2 x y (hI1.mono hbb) (hI2.mono hbb) hf1 hf2)
      clear hI1 hI2 hf1 hf2
      go_wp2_with fail
      refine HCL.out.mono ?_
      by_cases hxy:x=y
      . rw [(zOD _ _).2 hxy]
        rintro e w2 ⟨rfl,hb2⟩
        have HST:=lH (HSN.out hxy)
        have hbw:=zAd hbel (zAd hbb hb2)
        clear hxy HNE HSN HCL
        go_wp2
        go_roundw
        case rel=>exact ⟨k+1,by omega,by go_num,HST,hbw⟩
        case measure=>simp [intOf];omega
      . rw [zOC hxy]
        rintro e w2 ⟨rfl,hb2⟩
        have HR:Hid (isB l l'=false):=lH (zOC (HNE.out hxy))
        have hbw:=zAd hbel (zAd hbb hb2)
        clear hxy HNE HSN HCL
        go_wp2
        go_ret
        exact ⟨zBi HR.out.symm,hbw⟩
    . obtain rfl:k=m:=by omega
      have HR:Hid (isB l l'=true):=lH ((zOD _ _).2 (by
       have h1:l.take k=l:=zMM (by have:=HM.out;omega)
       have h2:l'.take k=l':=zMM (by have:=HM'.out;omega)
       rw [<- h1,<- h2];exact HTK.out))
      have hlt':¬ (k:Int)<k:=by omega
      go_wp2_with fail
      go_ret
      exact ⟨zBi HR.out.symm,hbel⟩
 . have HR:Hid (isB l l'=false):=lH (zOC (by rintro rfl;exact hmm (HM.out.symm.trans HM'.out)))
   have h1:((m:Int) != m')=true:=by rw [bne_iff_ne];omega
   go_enter Tryz.func22,Tryz.ntmps22
   go_wp2_with fail
   go_ret
   exact ⟨zBi HR.out.symm,zMy _ _⟩
set_option maxRecDepth 100000 in
set_option maxHeartbeats 4000000 in
theorem zO7 (w:World) (so ao so' ao':Option Addr) (sn sc n cap sn' sc' n' cap':Nat) (p q:PoolV) (hp:zAG w so sn sc ao n cap p) (hq:zAG w so' sn' sc' ao' n' cap' q) (wp:WfP p) (wq:WfP q) :
 Calls Tryz.prog 7 #[.agg #[.slice so sn sc,.slice ao n cap],.agg #[.slice so' sn' sc',.slice ao' n' cap']] w fun e w'=>e=.returned (.bool (isB p q))/\Below w.heap.size w w':=by
 have hb0:Below w.heap.size w ((w.alloc (.cells #[.slice so sn sc,.slice ao n cap] 27)).alloc (.cells #[.slice so' sn' sc',.slice ao' n' cap'] 27)):=((zMy _ _).alloc (zMs _) _).alloc (by simp) _
 have p0:=heap_alloc2_old w (.cells #[.slice so sn sc,.slice ao n cap] 27) (.cells #[.slice so' sn' sc',.slice ao' n' cap'] 27)
 have p1:=heap_alloc2_new w (.cells #[.slice so sn sc,.slice ao n cap] 27) (.cells #[.slice so' sn' sc',.slice ao' n' cap'] 27)
 have HS:=lH (zOI ((w.alloc (.cells #[.slice so sn sc,.slice ao n cap] 27)).alloc (.cells #[.slice so' sn' sc',.slice ao' n' cap'] 27)) so so' sn sc sn' sc' p.s q.s hp.slen hq.slen (by have:=hp.slen;have:=wp.slen;omega) (by have:=hq.slen;have:=wq.slen;omega) (hp.srow.mono hb0) (hq.srow.mono hb0) wp.sto wq.sto)
 have HP:=lH (hp.mono hb0)
 have HQ:=lH (hq.mono hb0)
 have HWP:=lH wp
 have HWQ:=lH wq
 have z0:=zAa p0 1
 have z1:=zAa p1 1
 have y0:=zAa p0 0
 have y1:=zAa p1 0
 simp only [cA1,cA2,cA3] at z0 z1 y0 y1
 clear hp hq wp wq
 go_enter Tryz.func7,Tryz.ntmps7
 clear z0 z1 y0 y1
 go_wp2_with fail
 refine HS.out.mono ?_
 rintro e w2 ⟨rfl,hb2⟩
 have p0:=Zm hb2 p0
 have p1:=Zm hb2 p1
 have HP:=lH (HP.out.mono hb2)
 have HQ:=lH (HQ.out.mono hb2)
 have hbw:=zAd hb0 hb2
 clear hb0 hb2 HS
 have z0:=zAa p0 1
 have z1:=zAa p1 1
 simp only [cA1,cA2,cA3] at z0 z1
 have l0:=zAb p0
 have l1:=zAb p1
 by_cases h:p.s=q.s
 . rw [show sameS p.s q.s=true from by unfold sameS;rw [h];simp]
   have HR:Hid (isB p q=isB p.tens q.tens):=lH (by
    obtain ⟨ps,pt⟩:=p
    obtain ⟨qs,qt⟩:=q
    simp only at h
    subst h
    by_cases e:pt=qt
    . rw [(zOD _ _).2 e,(zOD _ _).2 (by rw [e])]
    . rw [zOC e,zOC (fun e2=>e (PoolV.mk.inj e2).2)])
   clear h p0 p1
   go_wp2_with fail
   refine (zOU w2 ao ao' n cap n' cap' p.tens q.tens HP.out.len HQ.out.len (by have:=HP.out.len;have:=HWP.out.len;omega) (by have:=HQ.out.len;have:=HWQ.out.len;omega) HWP.out.tens HWQ.out.tens HP.out.row HQ.out.row).mono ?_
   rintro e w3 ⟨rfl,hb3⟩
   go_wp2_with fail
   go_ret
   exact ⟨zBi HR.out.symm,zAd hbw hb3⟩
 . rw [show sameS p.s q.s=false from by unfold sameS;rw [decide_eq_false];exact fun e=>h e]
   have HR:Hid (isB p q=false):=lH (zOC fun e=>h (by rw [e]))
   clear h p0 p1
   go_wp2_with fail
   go_ret
   exact ⟨zBi HR.out.symm,hbw⟩
end Go.Proofs.YtfmgdjgedhnmeaaGreat

namespace Go.Proofs.YtfmgdjgedhnmeaaGreat
open Go.RowKit Go.ChangeShapes Go.WideShapes Go.Deep Go.Joins
set_option linter.unusedVariables false
set_option linter.unusedSimpArgs false
section
variable {H:Type} {enc:TypeId×Value->H} {w:World} {base:Nat} {spare:Nat->Bool} {held:Bool}
set_option maxRecDepth 100000 in
theorem zKP {r:Reach} {b0:Nat} {v:Value} {d:DataW H} {q:List MemPlace} (hv:Value.okWide Tryz.prog w r b0 30 v) (h:DataW.Trod enc Tryz.prog w base spare held 30 v d q) (hw:∀ n∈d.weights Tryz.prog 30,n<=reachBytes) :
 ∃ ba bn bc a,v=.agg #[.int .i64 a.kind,.string a.sname,.string a.file,.string a.dest,.int .i64 a.at_,.int .i64 a.n,.slice ba bn bc]/\AskIn w ba bn bc a:=by
 obtain ⟨cs,rfl,hsz⟩:=okWide_struct Tryz.underlying30 hv
 obtain ⟨cl⟩:=cs
 have hsz1:cl.length=7:=hsz.trans (by kernel_rfl)
 match cl,hsz1 with
 | [v0,v1,v2,v3,v4,v5,v6],_=>
  obtain ⟨fuel,hf⟩:=h
  obtain ⟨y0,y1,y2,y3,y4,y5,y6,m,hx,h0,h1,h2,h3,h4,h5,h6⟩:=zGT Tryz.underlying30 hf
  replace h0:DataW.trod enc Tryz.prog w base spare held m 3 [v0]=some y0:=h0
  replace h1:DataW.trod enc Tryz.prog w base spare held m 9 [v1]=some y1:=h1
  replace h2:DataW.trod enc Tryz.prog w base spare held m 9 [v2]=some y2:=h2
  replace h3:DataW.trod enc Tryz.prog w base spare held m 9 [v3]=some y3:=h3
  replace h4:DataW.trod enc Tryz.prog w base spare held m 3 [v4]=some y4:=h4
  replace h5:DataW.trod enc Tryz.prog w base spare held m 3 [v5]=some y5:=h5
  replace h6:DataW.trod enc Tryz.prog w base spare held m 28 [v6]=some y6:=h6
  have hd:d=.agg [y0.1,y1.1,y2.1,y3.1,y4.1,y5.1,y6.1]:=by simpa using hx
  subst hd
  obtain ⟨x0,e0,_,_⟩:=DataW.trod_int Tryz.underlying3 h0
  obtain ⟨x1,e1,_,_⟩:=DataW.trod_string Tryz.underlying9 h1
  obtain ⟨x2,e2,_,_⟩:=DataW.trod_string Tryz.underlying9 h2
  obtain ⟨x3,e3,_,_⟩:=DataW.trod_string Tryz.underlying9 h3
  obtain ⟨x4,e4,_,_⟩:=DataW.trod_int Tryz.underlying3 h4
  obtain ⟨x5,e5,_,_⟩:=DataW.trod_int Tryz.underlying3 h5
  obtain ⟨bs,s6,w6,b6⟩:=zID Tryz.underlying28 Tryz.underlying5 (by kernel_rfl) h6
  simp at e0 e1 e2 e3 e4 e5
  subst e0 e1 e2 e3 e4 e5
  have hbs:=b6 (fun n hn=>hw n (by simp [DataW.weights,DataW.weightsEach,Tryz.underlying30,hn]))
  have e1':Tryz.prog.bytesOf 5=1:=by kernel_rfl
  rw [e1'] at hbs
  have hR:reachBytes=140737488351232:=rfl
  obtain ⟨ba,bc,rfl,hr,hcp⟩:=s6
  exact ⟨ba,bs.length,bc,⟨x0,x1,x2,x3,x4,x5,bs⟩,rfl,⟨rfl,hr,hcp,byt_of w6,by omega⟩⟩
end
end Go.Proofs.YtfmgdjgedhnmeaaGreat

namespace Go.Proofs.YtfmgdjgedhnmeaaGreat
open Go.RowKit
set_option linter.unusedVariables false
set_option linter.unusedSimpArgs false
theorem doP_rng {p:PoolV} {i:Int} {a:AskV} (h:(doP p i a).2.2=0):poolE p=0/\0<=i/\i<p.tens.length:=by
 unfold doP at h
 split at h
 . rename_i h1;exact absurd h h1
 . rename_i h1
   split at h
   . exact absurd h (show ¬ (5:Int)=0 by decide)
   . rename_i h2
     exact ⟨Classical.not_not.1 h1,by omega,by omega⟩
theorem zO4 {s:List Blk} {t:TenV} {a:AskV} (h:(doT s t a).2.2.1.e≠0\/a.kind=11\/a.kind=12\/a.kind=13):(doT s t a).1=s/\(doT s t a).2.1=t:=by
 unfold doT at h ⊢
 by_cases k1:a.kind=1
 . exfalso
   rw [if_pos k1] at h
   rcases h with h | h | h | h
   . exact h rfl
   . omega
   . omega
   . omega
 . simp only [if_neg k1] at h ⊢
   by_cases k2:a.kind=13
   . simp only [if_pos k2];exact ⟨trivial,trivial⟩
   . simp only [if_neg k2] at h ⊢
     by_cases k3:placeB (t.sets.map SetV.nm) a.sname=false
     . simp only [if_pos k3];exact ⟨trivial,trivial⟩
     . simp only [if_neg k3] at h ⊢
       by_cases k4:a.kind=11\/a.kind=12
       . simp only [if_pos k4];exact ⟨trivial,trivial⟩
       . simp only [if_neg k4] at h ⊢
         exfalso
         rcases h with h | h | h | h
         . apply h
           repeat' split
           all_goals rfl
         . exact k4 (.inl h)
         . exact k4 (.inr h)
         . exact k2 h
theorem zO3 {p:PoolV} (hw:WfS p.s) {i:Int} {a:AskV} (hb:Byt a.bytes) (h:(doP p i a).2.2=0) :
 poolE (doP p i a).1=0/\WfP (doP p i a).1/\(doP p i a).1.tens.length=p.tens.length/\(doP p i a).1.s.length=p.s.length/\
  ((doP p i a).2.1.e≠0\/a.kind=11\/a.kind=12\/a.kind=13->(doP p i a).1=p)/\
  ∀ k (h1:k<p.tens.length) (h2:k<(doP p i a).1.tens.length),(doP p i a).1.tens[k].key=p.tens[k].key/\(doP p i a).1.tens[k].quota=p.tens[k].quota/\((k:Int)≠i->(doP p i a).1.tens[k].sets=p.tens[k].sets):=by
 obtain ⟨h1,h2,h3⟩:=doP_rng h
 have hp:=zCC h1
 obtain ⟨hq,hqw⟩:=zIP hp hw hb h
 refine ⟨hq.zero,hq.wfp hqw,?_⟩
 clear hq hqw
 have hi:i.toNat<p.tens.length:=by omega
 have e:tenAt p i=p.tens[i.toNat]:=by unfold tenAt;rw [zMt hi];rfl
 unfold doP at h ⊢
 simp only [if_neg (not_not_intro h1),if_neg (show ¬ (i<0\/(p.tens.length:Int)<=i) by omega)] at h ⊢
 by_cases h4:(doT p.s (tenAt p i) a).2.2.2≠0
 . simp only [if_pos h4]
   exact ⟨trivial,trivial,fun _=>trivial,fun k _ _=>⟨trivial,trivial,fun _=>trivial⟩⟩
 . simp only [if_neg h4] at h ⊢
   have h4':=Classical.not_not.1 h4
   have hS:=zKu hp hw (zMr hi) hb (a:=a) (by rw [<- e];exact h4')
   rw [<- e] at hS
   refine ⟨by simp,hS.len,fun h5=>?_,fun k hk1 hk2=>?_⟩
   . obtain ⟨e1,e2⟩:=zO4 h5
     rw [e1,e2,e,zOf]
   . simp only [zMP]
     split
     . rename_i e2
       subst e2
       rw [hS.key,hS.quota,e]
       exact ⟨rfl,rfl,fun h=>absurd (by omega) h⟩
     . exact ⟨rfl,rfl,fun _=>rfl⟩
set_option maxRecDepth 100000 in
set_option maxHeartbeats 8000000 in
theorem zO2 (w:World) (so ao ba:Option Addr) (sn sc n cap bn bc:Nat) (p:PoolV) (a:AskV) (i:Int) (hp:zAG w so sn sc ao n cap p) (hw:WfP p) (ha:AskIn w ba bn bc a) :
 Calls Tryz.prog 3 #[.agg #[.slice so sn sc,.slice ao n cap],.int .i64 i,.agg #[.int .i64 a.kind,.string a.sname,.string a.file,.string a.dest,.int .i64 a.at_,.int .i64 a.n,.slice ba bn bc]] w fun e w'=>e=.returned (.bool true)/\Below w.heap.size w w':=by
 obtain ⟨hb0,p4,p6,hz2⟩:=zCz w (.cells #[.slice so sn sc,.slice ao n cap] 27) (.cells #[.int .i64 a.kind,.string a.sname,.string a.file,.string a.dest,.int .i64 a.at_,.int .i64 a.n,.slice ba bn bc] 30)
 have HP:=lH hp
 have HW:=lH hw
 have HA:=lH ha
 have e0:=zAa p4 0
 have e1:=zAa p4 1
 have k0:=zAa p6 0
 have k1:=zAa p6 1
 have k2:=zAa p6 2
 have k3:=zAa p6 3
 have k4:=zAa p6 4
 have k5:=zAa p6 5
 have k6:=zAa p6 6
 simp only [cA1,cA2,cA3] at e0 e1 k0 k1 k2 k3 k4 k5 k6
 clear hp hw ha hz2
 go_enter Tryz.func3,Tryz.ntmps3
 go_wp2_with fail
 generalize (w.alloc (.cells #[.slice so sn sc,.slice ao n cap] 27)).alloc (.cells #[.int .i64 a.kind,.string a.sname,.string a.file,.string a.dest,.int .i64 a.at_,.int .i64 a.n,.slice ba bn bc] 30)=W0 at *
 obtain ⟨RT,hRT⟩:∃ RT,doP p i a=RT:=⟨_,rfl⟩
 refine (zC8 W0 so ao ba sn sc n cap bn bc p i a RT hRT (HP.out.mono hb0) HW.out (HA.out.mono hb0)).mono ?_
 rintro e w1 ⟨so1,sn1,sc1,ao1,n1,cap1,na,nn,nc,b2,n2,c2,rfl,hb1,hq,-,-,-⟩
 have HRT:=lH hRT
 have hbA:Below w1.heap.size w1 ((w1.alloc (.cells #[.slice so1 sn1 sc1,.slice ao1 n1 cap1] 27)).alloc (.cells #[.int .i64 RT.2.1.e,.int .i64 RT.2.1.n,.slice na nn nc,.slice b2 n2 c2] 34)):=((zMy _ _).alloc (zMs _) _).alloc (by simp) _
 have p9:((w1.alloc (.cells #[.slice so1 sn1 sc1,.slice ao1 n1 cap1] 27)).alloc (.cells #[.int .i64 RT.2.1.e,.int .i64 RT.2.1.n,.slice na nn nc,.slice b2 n2 c2] 34)).heap[w1.heap.size]?=some (.cells #[.slice so1 sn1 sc1,.slice ao1 n1 cap1] 27 (0,0)):=heap_alloc2_old _ _ _
 have p10:((w1.alloc (.cells #[.slice so1 sn1 sc1,.slice ao1 n1 cap1] 27)).alloc (.cells #[.int .i64 RT.2.1.e,.int .i64 RT.2.1.n,.slice na nn nc,.slice b2 n2 c2] 34)).heap[w1.heap.size+1]?=some (.cells #[.int .i64 RT.2.1.e,.int .i64 RT.2.1.n,.slice na nn nc,.slice b2 n2 c2] 34 (0,0)):=heap_alloc2_new _ _ _
 have hb2:=zAd hb1 hbA
 have p4:=Zm hb2 p4
 have p6:=Zm hb2 p6
 have HQ:=lH (hq.mono hbA)
 have HB:=lH (zAd hb0 hb2)
 clear hRT hb1 hq hbA hb2 hb0 e0 e1 k0 k1 k2 k3 k4 k5 k6
 go_upto_region 2 with fail
 generalize (w1.alloc (.cells #[.slice so1 sn1 sc1,.slice ao1 n1 cap1] 27)).alloc (.cells #[.int .i64 RT.2.1.e,.int .i64 RT.2.1.n,.slice na nn nc,.slice b2 n2 c2] 34)=W2 at *
 go_wp2_with fail
 refine (zGc _).mono ?_
 rintro e w3 ⟨rfl,hb3⟩
 have p4:=Zm hb3 p4
 have p6:=Zm hb3 p6
 have p9:=Zm hb3 p9
 have p10:=Zm hb3 p10
 have HQ:=lH (HQ.out.mono hb3)
 have HB:=lH (zAd HB.out hb3)
 clear hb3
 by_cases he:RT.2.2=0
 rotate_left
 . have he1:(RT.2.2 != 0)=true:=by rw [bne_iff_ne];exact he
   generalize RT.2.2=de at *
   clear p4 p6 p9 p10 HQ HP HW HA HRT
   go_wp2_with fail
   refine (zGc _).mono ?_
   rintro e w4 ⟨rfl,hb4⟩
   go_wp2_with fail
   go_ret
   exact ⟨rfl,zAd HB.out hb4⟩
 have hlaw:=zO3 HW.out.sto HA.out.byt (show (doP p i a).2.2=0 by rw [HRT.out];exact he)
 rw [HRT.out] at hlaw
 obtain ⟨t1,t2,t3,t4,t5,t6⟩:=hlaw
 rw [he]
 have HWQ:=lH t2
 have HST:=lH t5
 have HTK:=lH t6
 obtain rfl:n1=n:=by have h1:=HQ.out.len;have h2:=HP.out.len;omega
 obtain rfl:sn1=sn:=by have h1:=HQ.out.slen;have h2:=HP.out.slen;omega
 have HL3:=lH t3
 obtain ⟨q,y,d⟩:=RT
 obtain ⟨ye,yn,yl,yb⟩:=y
 simp only at he p10 HQ HWQ HST HTK t1
 have e0:=zAa p4 0
 have e1:=zAa p4 1
 have f0:=zAa p9 0
 have f1:=zAa p9 1
 simp only [cA1,cA2,cA3] at e0 e1 f0 f1
 have l4:=zAb p4
 have l9:=zAb p9
 have HCK:=lH (zBQ w3 so1 ao1 sn1 sc1 n1 cap1 q HQ.out HWQ.out)
 have HT1:=lH t1
 clear t1 t2 t3 t4 t5 t6 he HRT
 go_wp2_with fail
 refine HCK.out.mono ?_
 rintro e w4 ⟨rfl,hb4⟩
 rw [HT1.out]
 have p4:=Zm hb4 p4
 have p6:=Zm hb4 p6
 have p9:=Zm hb4 p9
 have p10:=Zm hb4 p10
 have HQ:=lH (HQ.out.mono hb4)
 have HB:=lH (zAd HB.out hb4)
 clear hb4 HCK HT1 e0 e1 f0 f1 l4 l9
 have e0:=zAa p4 0
 have e1:=zAa p4 1
 have f0:=zAa p9 0
 have f1:=zAa p9 1
 simp only [cA1,cA2,cA3] at e0 e1 f0 f1
 have l4:=zAb p4
 have l9:=zAb p9
 go_upto_region 6 with fail
 have k0:=zAa p6 0
 have x0:=zAa p10 0
 simp only [cA1,cA2,cA3] at k0 x0
 have l6:=zAb p6
 have l10:=zAb p10
 obtain ⟨kd,hkd⟩:∃ kd,a.kind=kd:=⟨_,rfl⟩
 rw [hkd] at k0
 have HST2:Hid (ye≠0\/kd=11\/kd=12\/kd=13->q=p):=lH (by rw [<- hkd];exact HST.out)
 clear hkd HST
 go_cut [10] (fun u wx=>∃ st:Bool,u=.bool st/\Hid (st=true->ye≠0\/kd=11\/kd=12\/kd=13)/\Below w4.heap.size w4 wx)
 case first=>
  by_cases c1:ye=0
  rotate_left
  . have d1:(ye != 0)=true:=by rw [bne_iff_ne];exact c1
    have HR:=lH c1
    clear c1
    go_wp2_with fail
    go_meet
    exact ⟨_,rfl,lH fun _=>.inl HR.out,zMy _ _⟩
  have d1:(ye != 0)=false:=by rw [c1];rfl
  clear c1
  by_cases c2:kd=11
  . have d2:(kd==11)=true:=by rw [beq_iff_eq];exact c2
    have HR:=lH c2
    clear c2
    go_wp2_with fail
    go_meet
    exact ⟨_,rfl,lH fun _=>.inr (.inl HR.out),zMy _ _⟩
  have d2:(kd==11)=false:=by rw [beq_eq_false_iff_ne];exact c2
  clear c2
  by_cases c3:kd=12
  . have d3:(kd==12)=true:=by rw [beq_iff_eq];exact c3
    have HR:=lH c3
    clear c3
    go_wp2_with fail
    go_meet
    exact ⟨_,rfl,lH fun _=>.inr (.inr (.inl HR.out)),zMy _ _⟩
  have d3:(kd==12)=false:=by rw [beq_eq_false_iff_ne];exact c3
  clear c3
  by_cases c4:kd=13
  . have d4:(kd==13)=true:=by rw [beq_iff_eq];exact c4
    have HR:=lH c4
    clear c4
    go_wp2_with fail
    go_meet
    exact ⟨_,rfl,lH fun _=>.inr (.inr (.inr HR.out)),zMy _ _⟩
  have d4:(kd==13)=false:=by rw [beq_eq_false_iff_ne];exact c4
  clear c4
  go_wp2_with fail
  go_meet
  exact ⟨_,rfl,lH fun h=>(by cases h),zMy _ _⟩
 case rest=>
  obtain ⟨st,rfl,HSI,hb5⟩:=hcut
  have p4:=Zm hb5 p4
  have p9:=Zm hb5 p9
  have HQ:=lH (HQ.out.mono hb5)
  have HB:=lH (zAd HB.out hb5)
  clear e0 e1 f0 f1 l4 l9 k0 x0 l6 l10 p6 p10
  have e0:=zAa p4 0
  have e1:=zAa p4 1
  have f0:=zAa p9 0
  have f1:=zAa p9 1
  simp only [cA1,cA2,cA3] at e0 e1 f0 f1
  have l4:=zAb p4
  have l9:=zAb p9
  generalize wc=w5 at *
  go_upto_region 7 with fail
  go_cut [76] (fun u wx=>u=.bool false/\Below w5.heap.size w5 wx)
  case first=>
   cases st with
   | false=>
    go_wp2_with fail
    go_meet
    exact ⟨rfl,zMy _ _⟩
   | true=>
    have hqp:=HST2.out (HSI.out rfl)
    subst hqp
    have HSM:=lH (zO7 w5 so ao so1 ao1 sn1 sc n1 cap sn1 sc1 n1 cap1 q q (HP.out.mono HB.out) HQ.out HW.out HW.out)
    go_wp2_with fail
    refine HSM.out.mono ?_
    rw [(zOD _ _).2 rfl]
    rintro e w6 ⟨rfl,hb6⟩
    clear HSM
    go_wp2_with fail
    go_meet
    exact ⟨rfl,hb6⟩
  case rest=>
   obtain ⟨rfl,hb6⟩:=hcut
   have p4:=Zm hb6 p4
   have p9:=Zm hb6 p9
   have HQ:=lH (HQ.out.mono hb6)
   have HB:=lH (zAd HB.out hb6)
   clear e0 e1 f0 f1 l4 l9 HST2 HSI
   have e0:=zAa p4 0
   have e1:=zAa p4 1
   simp only [cA1,cA2,cA3] at e0 e1
   have l4:=zAb p4
   generalize wc=w6 at *
   go_wp2_with fail
   go_loopw [80] (fun j wr=>∃ k:Nat,k<=n1/\j=.int .i64 k/\Below w6.heap.size w6 wr) (fun j _=>n1 - (intOf j).toNat)
   case atStart=>exact ⟨0,zMO _,rfl,zMy _ _⟩
   case round=>
    obtain ⟨k,hkm,rfl,hbel⟩:=hrel
    clear e0 e1 l4
    have q9:=Zm hbel p9
    have f1:=zAa q9 1
    simp only [cA1,cA2,cA3] at f1
    have l9:=zAb q9
    have hbw:=zAd HB.out hbel
    by_cases hlt:k<n1
    . have hk1:k<p.tens.length:=by have:=HP.out.len;omega
      have hk2:k<q.tens.length:=by have:=HQ.out.len;omega
      have hlt':(k:Int)<n1:=by omega
      have hn3:n1<=4398046511104:=by have:=HP.out.len;have:=HW.out.len;omega
      have HTKK:=lH (HTK.out k hk1 hk2)
      obtain ⟨b1,o1,s1,m1,c1,hae,hE1,hI1⟩:=zDy.at (HP.out.row.mono hbw) k hk1
      obtain ⟨b2,o2,s2,m2,c2,hae2,hE2,hI2⟩:=zDy.at (HQ.out.row.mono hbel) k hk2
      subst hae
      subst hae2
      have c0:=hE1.key
      have c1':=hE1.quota
      have c2':=hE1.sl
      have d0:=hE2.key
      have d1:=hE2.quota
      have d2:=hE2.sl
      simp only at c0 c1' c2' d0 d1 d2
      have l1:=hE1.lt
      have l2:=hE2.lt
      have hf1:=HW.out.tens _ (zMr hk1)
      have hf2:=HWQ.out.tens _ (zMr hk2)
      clear hE1 hE2
      generalize p.tens[k]=x at *
      generalize q.tens[k]=y at *
      obtain ⟨xk,xq,xs⟩:=x
      obtain ⟨yk,yq,ys⟩:=y
      obtain ⟨g1,g2,HG⟩:=HTKK.out
      simp only at g1 g2 c0 c1' c2' d0 d1 d2
      subst g1 g2
      have HGG:Hid ((k:Int)≠i->ys=xs):=lH HG
      clear HTKK HG
      have hbb:Below wr.heap.size wr ((wr.alloc (.cells #[.int .i64 yk,.int .i64 yq,.slice s1 m1 c1] 42)).alloc (.cells #[.int .i64 yk,.int .i64 yq,.slice s2 m2 c2] 42)):=((zMy _ _).alloc (zMs _) _).alloc (by simp) _
      have HCL:=lH (zOV ((wr.alloc (.cells #[.int .i64 yk,.int .i64 yq,.slice s1 m1 c1] 42)).alloc (.cells #[.int .i64 yk,.int .i64 yq,.slice s2 m2 c2] 42)) s1 s2 m1 c1 m2 c2 xs ys hI1.len hI2.len (by have h1:=hI1.len;have h2:=hf1.len;simp only at h1 h2;omega) (by have h1:=hI2.len;have h2:=hf2.len;simp only at h1 h2;omega) (fun z hz=>(hf1.sets z hz).2) (fun z hz=>(hf2.sets z hz).2) (hI1.row.mono hbb) (hI2.row.mono hbb))
      clear hI1 hI2 hf1 hf2
      have hne1:(yk != yk)=false:=by rw [bne_self_eq_false]
      have hne2:(yq != yq)=false:=by rw [bne_self_eq_false]
      by_cases hki:(k:Int)=i
      . have hne3:((k:Int) != i)=false:=by rw [hki];rw [bne_self_eq_false]
        have HKI:=lH hki
        clear hki HCL
        go_wp2_with fail
        go_roundw
        case rel=>exact ⟨k+1,by omega,by go_num,zAd hbel hbb⟩
        case measure=>simp [intOf];omega
      . have hne3:((k:Int) != i)=true:=by rw [bne_iff_ne];exact hki
        have hys:=HGG.out hki
        subst hys
        clear hki
        go_wp2_with fail
        refine HCL.out.mono ?_
        rw [(zOD _ _).2 rfl]
        rintro e w7 ⟨rfl,hb7⟩
        clear HCL
        go_wp2_with fail
        go_roundw
        case rel=>exact ⟨k+1,by omega,by go_num,zAd hbel (zAd hbb hb7)⟩
        case measure=>simp [intOf];omega
    . obtain rfl:k=n1:=by omega
      have hlt':¬ (k:Int)<k:=by omega
      go_wp2_with fail
      go_ret
      exact ⟨rfl,hbw⟩
end Go.Proofs.YtfmgdjgedhnmeaaGreat
