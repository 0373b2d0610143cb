/- pool.do: what is done to a set. -/
import Derived.Deep.RegionWith
import Derived.Deep.RegionHeld3
import Derived.StillTail
import Derived.StillTactics
import Derived.Test.YtfmgdjgedhnmeaaGreatPdoA
namespace Go.Proofs.YtfmgdjgedhnmeaaGreat
open Go.RowKit
set_option linter.unusedVariables false
set_option linter.unusedSimpArgs false
set_option maxRecDepth 100000 in
set_option maxHeartbeats 8000000 in
theorem zLG (w0 w:World) (K W Z:Nat) (B:Nat->Prop) (pb i:Nat) (so:Option Addr) (sn sc:Nat) (ao:Option Addr) (n cap:Nat) (p:PoolV) (vs:List Tnv) (t:TenV) (ba:Option Addr) (bn bc:Nat) (a:AskV) (r:List Blk×TenV×AnsV×Int) (h:DoIn w0 w K W Z B pb i so sn sc ao n cap p vs t ba bn bc a) (hr:doT p.s t a=r) (hk:¬ a.kind=1/\¬ a.kind=13/\¬ a.kind=11/\¬ a.kind=12/\¬ a.kind=2/\¬ a.kind=10) :
 Calls Tryz.prog 11 #[.pointer (some ⟨pb,0,none⟩),.int .i64 i,.agg #[.int .i64 a.kind,.string a.sname,.string a.file,.string a.dest,.int .i64 a.at_,.int .i64 a.n,.slice ba bn bc]] w fun e w'=>zBB e w0 w w' K W Z pb ao n cap p i r:=by
 obtain ⟨kind,aset,afile,ato,aat,an,abytes⟩:=a
 simp only at hk
 have HR:Hid (r=if placeB (t.sets.map SetV.nm) aset=false then (p.s,t,noAns,5) else
  if (doR writeW p.s t.key (setAt t.sets (placeN (t.sets.map SetV.nm) aset)) ⟨kind,aset,afile,ato,aat,an,abytes⟩).2.2≠0 then (p.s,t,noAns,(doR writeW p.s t.key (setAt t.sets (placeN (t.sets.map SetV.nm) aset)) ⟨kind,aset,afile,ato,aat,an,abytes⟩).2.2)
  else if t.quota<((reachR (doR writeW p.s t.key (setAt t.sets (placeN (t.sets.map SetV.nm) aset)) ⟨kind,aset,afile,ato,aat,an,abytes⟩).1 (rootsT { t with sets:=t.sets.set (placeN (t.sets.map SetV.nm) aset) (doR writeW p.s t.key (setAt t.sets (placeN (t.sets.map SetV.nm) aset)) ⟨kind,aset,afile,ato,aat,an,abytes⟩).2.1 })).1.length:Int) then (p.s,t,noAns,8)
  else ((doR writeW p.s t.key (setAt t.sets (placeN (t.sets.map SetV.nm) aset)) ⟨kind,aset,afile,ato,aat,an,abytes⟩).1,{ t with sets:=t.sets.set (placeN (t.sets.map SetV.nm) aset) (doR writeW p.s t.key (setAt t.sets (placeN (t.sets.map SetV.nm) aset)) ⟨kind,aset,afile,ato,aat,an,abytes⟩).2.1 },noAns,0)):=lH (by rw [<- hr];exact zKG hk)
 obtain ⟨n1,n13,n11,n12,n2,n10⟩:=hk
 have e1:(kind==1)=false:=by rw [beq_eq_false_iff_ne];exact n1
 have e13:(kind==13)=false:=by rw [beq_eq_false_iff_ne];exact n13
 have e11:(kind==11)=false:=by rw [beq_eq_false_iff_ne];exact n11
 have e12:(kind==12)=false:=by rw [beq_eq_false_iff_ne];exact n12
 have e2:(kind==2)=false:=by rw [beq_eq_false_iff_ne];exact n2
 have e10:(kind==10)=false:=by rw [beq_eq_false_iff_ne];exact n10
 clear hr
 obtain ⟨hb0,p5,p6,hz2⟩:=zCz w (.cells #[.int .i64 kind,.string aset,.string afile,.string ato,.int .i64 aat,.int .i64 an,.slice ba bn bc] 30) (.cells #[.int .i64 0,.int .i64 0,.slice none 0 0,.slice none 0 0] 34)
 have hst:=h.st.widen (B2:=fun b=>B b\/b=w.heap.size+1) hb0 (fun b h=>.inl h) (fun b hl h=>h.elim id fun e=>absurd hl (by omega))
 obtain ⟨tb,oo,on,oc,rfl,hon,hvs,c0,c1,t0,t1,t2,hTI,htW,htl,hpl,hpt,htf,hpf,hin⟩:=hst.at h.ht
 have hwp:=zAb h.st.box
 have htw:tb<w.heap.size:=by obtain ⟨tb',-,-,-,e,-,-,-,-,-,-,-,-,-,h9,-⟩:=h.st.at h.ht;simp only [zMz,zME,and_true] at e;omega
 have k0:=zAa p5 0
 have k1:=zAa p5 1
 have k2:=zAa p5 2
 have k3:=zAa p5 3
 have k4:=zAa p5 4
 have k5:=zAa p5 5
 have k6:=zAa p5 6
 simp only [cA1,cA2,cA3] at k0 k1 k2 k3 k4 k5 k6
 have kl:=zAb p5
 have HST:=lH hst
 have HTI:=lH hTI
 have HI:=lH h.hi
 have HTM:=lH (zM6 h.ht)
 have HTK:=lH (h.ok.ten t HTM.out)
 have HFAR:=lH h.far
 have HSL:=lH h.slen
 have HSC:=lH h.scap
 have HASK:=lH (h.ask.mono hb0)
 have HOK:=lH h.ok
 have HWF:=lH h.wf
 have HH:=lH h
 have HON:=lH hon
 have HVS:=lH hvs
 have HP5:=lH p5
 have HP6:=lH p6
 have HBW:=lH hb0
 have HZ2:=lH hz2
 have hws:=h.st.hw
 have HWS:=lH hws
 have HQ:Hid (pb≠w.heap.size+1/\K<=w.heap.size+1):=lH ⟨by omega,by have:=h.st.ten.kle;omega⟩
 have hn3:n<=3:=by have:=h.st.ten.len;have:=h.ok.len;omega
 have hon3:on<=3:=by have:=HTK.out.len;omega
 clear h hst hTI hon hvs p5 p6 hb0 hz2
 go_enter Tryz.func11,Tryz.ntmps11
 go_upto_region 1 with fail
 generalize (w.alloc (.cells #[.int .i64 kind,.string aset,.string afile,.string ato,.int .i64 aat,.int .i64 an,.slice ba bn bc] 30)).alloc (.cells #[.int .i64 0,.int .i64 0,.slice none 0 0,.slice none 0 0] 34)=W1 at *
 go_upto_region 7 with fail
 have HPL:=lH (zBg W1.drew t.key t.quota oo on oc t aset (HTI.out.mono (zMy _ _).drew) (by omega) HTK.out.rise)
 have HPT:=lH (fun h=>zFX (t:=t) (nm:=aset) h)
 obtain ⟨PN,hPN⟩:∃ PN,placeN (t.sets.map SetV.nm) aset=PN:=⟨_,rfl⟩
 obtain ⟨PB,hPB⟩:∃ PB,placeB (t.sets.map SetV.nm) aset=PB:=⟨_,rfl⟩
 rw [hPN,hPB] at HPL HPT HR
 clear hPN hPB
 refine zA7 5 _ rfl (by kernel_rfl) (by kernel_rfl) ?_
 simp only [zND,zNH,zNM,zN9]
 repeat still_step
 refine wpStill_nil ?_
 intro K hK
 go_simp
 refine HPL.out.mono ?_
 rintro e w2 ⟨rfl,hb2⟩
 have hb2:=zBL hb2
 refine hK _ _ ?_
 clear hK K HPL
 repeat still_step
 refine wpStill_nil ?_
 have hbW2:Below W w w2:=(HBW.out.mono HWS.out).trans (hb2.mono (by have:=HZ2.out;omega))
 have HST2:=lH (HST.out.mono hb2)
 have HTI2:=lH (HTI.out.mono hb2)
 have HASK2:=lH (HASK.out.mono hb2)
 have p5:=(hb2.block _ (zAb HP5.out)).trans HP5.out
 have p6:=(hb2.block _ (zAb HP6.out)).trans HP6.out
 have c0:=Zc hb2 hpl c0
 have c1:=Zc hb2 hpl c1
 have t0:=Zc hb2 htl t0
 have t1:=Zc hb2 htl t1
 have t2:=Zc hb2 htl t2
 have htf:=fun j=>Zf hb2 j htl (htf j)
 have hpf:=fun j=>Zf hb2 j hpl (hpf j)
 have hpl:=zMw hpl hb2.size
 have htl:=zMw htl hb2.size
 have HB2:=lH hb2
 clear k0 k1 k2 k3 k4 k5 k6 kl
 have k0:=zAa p5 0
 have k1:=zAa p5 1
 have k2:=zAa p5 2
 have k3:=zAa p5 3
 have k4:=zAa p5 4
 have k5:=zAa p5 5
 have k6:=zAa p5 6
 simp only [cA1,cA2,cA3] at k0 k1 k2 k3 k4 k5 k6
 have kl:=zAb p5
 cases PB with
 | false=>
  have HR2:Hid (r=(p.s,t,noAns,5)):=lH (by rw [HR.out,if_pos rfl])
  clear HPT hb2
  obtain ⟨z6,zb,-⟩:=zAS p6 (.int .i64 0) (.int .i64 0) (.slice none 0 0) (.slice none 0 0)
  have hbz:=zb _ _ hbW2 (show W<=w.heap.size+1 by omega)
  unfold putA at z6 hbz
  have v0:=zAa z6 0
  have v1:=zAa z6 1
  have v2:=zAa z6 2
  have v3:=zAa z6 3
  have y0:=zAa p6 0
  have y1:=zAa p6 1
  have y2:=zAa p6 2
  have y3:=zAa p6 3
  simp only [cA1,cA2,cA3] at v0 v1 v2 v3 y0 y1 y2 y3
  have yf:=fun j=>zAc p6 j
  have yl:=zAb p6
  clear zb z6
  go_wp2_with fail
  refine bodyPost_ret (v:=.tuple #[.agg #[.int .i64 0,.int .i64 0,.slice none 0 0,.slice none 0 0],.int .i64 5]) (by simp [results,Tryz.results11,go_sem,v0,v1,v2,v3]) rfl ?_
  rw [HR2.out]
  exact zBB.same (r:=(noAns,5)) (HST2.out.ans p6 HQ.out.1 HQ.out.2 (.inr rfl) _ _ _ _) HH.out.ht HFAR.out HSL.out HSC.out hbz ⟨none,0,0,none,0,0,rfl,AnwIn.none _ 0 0⟩
 | true=>
  obtain ⟨hPl,hPx⟩:=HPT.out (by simp)
  obtain ⟨x,hx⟩:∃ x,t.sets[PN]=x:=⟨_,rfl⟩
  obtain ⟨g,fo,fn,fc,yo,yn,yc,rfl,g0,g1,g2,hset,hgW,hgl,hgB,hgf,hgp,hgt⟩:=HST2.out.set_at HH.out.ht HVS.out hPl
  have HR2:=lH (HR.out.trans (if_neg (by simp)))
  rw [hPx,hx] at HR2
  rw [hx] at g0 hset
  have hx0:=hx
  have HX:=lH hx
  have HSET:=lH hset
  have HPL:=lH hPl
  have hpi:(PN:Int)<on:=by have:=HON.out;omega
  have HGT:=lH hgt
  have HG:=lH (And.intro g0 (And.intro g1 g2))
  clear HR hPx hx hset HPT hb2 hgt
  obtain ⟨RD,hRD⟩:∃ RD,doR writeW p.s t.key x ⟨kind,aset,afile,ato,aat,an,abytes⟩=RD:=⟨_,rfl⟩
  have hDM:=fun h=>do_mid (a:=⟨kind,aset,afile,ato,aat,an,abytes⟩) HOK.out HWF.out HTM.out hPl HASK.out.byt h
  rw [hx0] at hDM
  rw [hRD] at HR2 hDM
  have HK4:Hid (Kid4 RD.1):=lH (by
   by_cases h:RD.2.2=0
   . obtain ⟨h1,h2,-⟩:=hDM h
     exact (Good.of_check h2 h1).kid4
   . rw [show RD.1=[] from by rw [<- hRD] at h ⊢;exact doR_err h]
     intro x hx
     cases hx)
  have HDM:=lH hDM
  have HRD:=lH hRD
  clear hDM hRD
  have hb3:=bA0 w2 (.cells #[.string x.nm,.slice fo fn fc,.slice yo yn yc] 47)
  have b0:(w2.alloc (.cells #[.string x.nm,.slice fo fn fc,.slice yo yn yc] 47)).cell? ⟨w2.heap.size,0,none⟩=some (.string x.nm):=by simp
  have b1:(w2.alloc (.cells #[.string x.nm,.slice fo fn fc,.slice yo yn yc] 47)).cell? ⟨w2.heap.size,1,none⟩=some (.slice fo fn fc):=by simp
  have b2:(w2.alloc (.cells #[.string x.nm,.slice fo fn fc,.slice yo yn yc] 47)).cell? ⟨w2.heap.size,2,none⟩=some (.slice yo yn yc):=by simp
  have bl:w2.heap.size<(w2.alloc (.cells #[.string x.nm,.slice fo fn fc,.slice yo yn yc] 47)).heap.size:=by simp
  go_upto_region 27 with fail
  generalize w2.alloc (.cells #[.string x.nm,.slice fo fn fc,.slice yo yn yc] 47)=W3 at *
  replace c0:=Zc hb3 hpl c0
  replace c1:=Zc hb3 hpl c1
  replace t0:=Zc hb3 htl t0
  replace t1:=Zc hb3 htl t1
  replace t2:=Zc hb3 htl t2
  replace k0:=Zc hb3 kl k0
  replace k1:=Zc hb3 kl k1
  replace k2:=Zc hb3 kl k2
  replace k3:=Zc hb3 kl k3
  replace k4:=Zc hb3 kl k4
  replace k5:=Zc hb3 kl k5
  replace k6:=Zc hb3 kl k6
  replace p6:=Zm hb3 p6
  replace htf:=fun j=>Zf hb3 j htl (htf j)
  replace hpf:=fun j=>Zf hb3 j hpl (hpf j)
  replace hpl:=zMw hpl hb3.size
  replace htl:=zMw htl hb3.size
  replace kl:=zMw kl hb3.size
  have HST3:=lH (HST2.out.mono hb3)
  have HASK3:=lH (HASK2.out.mono hb3)
  have HSET3:=lH (HSET.out.mono hb3)
  have hbW3:Below W w W3:=hbW2.trans (hb3.mono (by have:=hbW2.size;omega))
  have HRX:=lH (HTK.out.sets x (by rw [<- HX.out];exact zMr _))
  have HS4:=lH (zAg p.s HOK.out.chk).1
  have HB3:=lH hb3
  clear hb3 p5 g0 g1 g2
  obtain ⟨T5,y,de⟩:=RD
  simp only at HR2 HK4 HDM
  have HDO:Hid (∀ u,Up W3 u->Calls Tryz.prog 37 #[.agg #[.slice so sn sc],.int .i64 t.key,.agg #[.string x.nm,.slice fo fn fc,.slice yo yn yc],.agg #[.int .i64 kind,.string aset,.string afile,.string ato,.int .i64 aat,.int .i64 an,.slice ba bn bc]] u fun e w'=>∃ a5 n5 c5 f6 m6 d6 y6 ym yd,e=.returned (.tuple #[.agg #[.slice a5 n5 c5],.agg #[.string y.nm,.slice f6 m6 d6,.slice y6 ym yd],.int .i64 de])/\Below u.heap.size u w'/\Hid (Aft W3 u w' a5 n5 c5 T5/\zA1 u.heap.size w' f6 m6 d6 y6 ym yd y)):=lH fun u hu=>(do_any u so fo yo ba sn sc fn fc yn yc bn bc p.s t.key x ⟨kind,aset,afile,ato,aat,an,abytes⟩ HSL.out (by have:=HSL.out;have:=HS4.out;omega) (HST3.out.sto.now.mono hu.bel) HWF.out HSC.out (HSET3.out.now.mono hu.bel) HRX.out.wf HASK3.out.len (HASK3.out.row.mono hu.bel) HASK3.out.cap HASK3.out.byt HASK3.out.fit).mono fun e w' h=>by
   obtain ⟨a5,n5,c5,f6,m6,d6,y6,ym,yd,e1,hb,hl,hs,hc,hy⟩:=h
   rw [HRD.out] at e1 hl hs hy
   exact ⟨a5,n5,c5,f6,m6,d6,y6,ym,yd,e1,hb,lH ⟨Aft.of hu hb hl hs hc HK4.out,hy⟩⟩
  have HSK:Hid (∀ u,Bel W3 u->u.cell? ⟨pb,0,none⟩=some (.slice so sn sc)/\u.cell? ⟨tb,i*3,none⟩=some (.int .i64 t.key)/\u.cell? ⟨w2.heap.size,0,none⟩=some (.string x.nm)/\u.cell? ⟨w2.heap.size,1,none⟩=some (.slice fo fn fc)/\u.cell? ⟨w2.heap.size,2,none⟩=some (.slice yo yn yc)/\
   u.cell? ⟨w.heap.size,0,none⟩=some (.int .i64 kind)/\u.cell? ⟨w.heap.size,1,none⟩=some (.string aset)/\u.cell? ⟨w.heap.size,2,none⟩=some (.string afile)/\u.cell? ⟨w.heap.size,3,none⟩=some (.string ato)/\u.cell? ⟨w.heap.size,4,none⟩=some (.int .i64 aat)/\u.cell? ⟨w.heap.size,5,none⟩=some (.int .i64 an)/\u.cell? ⟨w.heap.size,6,none⟩=some (.slice ba bn bc)):=
   lH fun u h=>⟨Zc h hpl c0,Zc h htl t0,Zc h bl b0,Zc h bl b1,Zc h bl b2,Zc h kl k0,Zc h kl k1,Zc h kl k2,Zc h kl k3,Zc h kl k4,Zc h kl k5,Zc h kl k6⟩
  have HC0:=lH c0
  have HC2:=lH t2
  have HT1:=lH t1
  have HP6':=lH p6
  clear c0 c1 t0 t1 t2 b0 b1 b2 k0 k1 k2 k3 k4 k5 k6 p6 e1 e13 e11 e12 e2 e10 n1 n13 n11 n12 n2 n10
  go_cut [19,20,21] (fun u1 u2 u3 wx=>∃ (q5 q6:Nat) (a5:Option Addr) (n5 c5:Nat) (f6:Option Addr) (m6 d6:Nat) (y6:Option Addr) (ym yd:Nat),u1=.pointer (some ⟨q5,0,none⟩)/\u2=.pointer (some ⟨q6,0,none⟩)/\u3=.int .i64 de/\wx.cell? ⟨q5,0,none⟩=some (.slice a5 n5 c5)/\wx.cell? ⟨q6,0,none⟩=some (.string y.nm)/\wx.cell? ⟨q6,1,none⟩=some (.slice f6 m6 d6)/\wx.cell? ⟨q6,2,none⟩=some (.slice y6 ym yd)/\
   Hid (Bel W3 wx/\(StoAt W3.heap.size wx a5 T5/\T5.length=n5/\Capd a5 n5 c5)/\zA1 W3.heap.size wx f6 m6 d6 y6 ym yd y/\W3.heap.size<=q5/\W3.heap.size<=q6))
  case first=>
   go_region_held3 (fun u=>u.cell? ⟨pb,0,none⟩=some (.slice so sn sc)/\u.cell? ⟨tb,i*3,none⟩=some (.int .i64 t.key)/\u.cell? ⟨w2.heap.size,0,none⟩=some (.string x.nm)/\u.cell? ⟨w2.heap.size,1,none⟩=some (.slice fo fn fc)/\u.cell? ⟨w2.heap.size,2,none⟩=some (.slice yo yn yc)/\
    u.cell? ⟨w.heap.size,0,none⟩=some (.int .i64 kind)/\u.cell? ⟨w.heap.size,1,none⟩=some (.string aset)/\u.cell? ⟨w.heap.size,2,none⟩=some (.string afile)/\u.cell? ⟨w.heap.size,3,none⟩=some (.string ato)/\u.cell? ⟨w.heap.size,4,none⟩=some (.int .i64 aat)/\u.cell? ⟨w.heap.size,5,none⟩=some (.int .i64 an)/\u.cell? ⟨w.heap.size,6,none⟩=some (.slice ba bn bc))
    ((refine HSK.out _ ?_;repeat (first | assumption | exact Bel.refl _ | refine Bel.dr ?_ | refine Bel.alloc ?_ _ | refine Bel.set ?_ (by first | exact zMs _ | (simp;done) | (simp;omega)) _)))
    (first
    | (go_at_call 37;refine (HDO.out _ (by repeat (first | exact Up.refl _ | refine Up.dr ?_ | refine Up.one ?_ | refine Up.three ?_))).mono ?_;rintro e w5 ⟨a5,n5,c5,f6,m6,d6,y6,ym,yd,rfl,hb5,ha5⟩;have bl5:Bel W3 w5:=Bel.call (by repeat (first | exact Bel.refl _ | refine Bel.dr ?_ | refine Bel.alloc ?_ _)) hb5;(first | (have qx:w5.heap[W3.heap.size]?=some (.cells #[.slice none 0 0] 24 (0,0)):=(hb5.block _ (by simp;omega)).trans (heap_alloc2_old W3 _ _);have qy:w5.heap[W3.heap.size+1]?=some (.cells #[.string ⟨#[]⟩,.slice none 0 0,.slice none 0 0] 47 (0,0)):=(hb5.block _ (by simp)).trans (heap_alloc2_new W3 _ _);have y0:=cell_of_one qx;have yf:=free_of_one qx;have yl:=zAb qx;clear qx;have z0:=zAa qy 0;have z1:=zAa qy 1;have z2:=zAa qy 2;simp only [cA1,cA2,cA3] at z0 z1 z2;have zf:=fun j=>zAc qy j;have zl:=zAb qy;clear qy) | (have qx:w5.heap[W3.heap.size+1]?=some (.cells #[.slice none 0 0] 24 (0,0)):=(hb5.block _ (by simp)).trans (heap_alloc2_new W3 _ _);have qy:w5.heap[W3.heap.size]?=some (.cells #[.string ⟨#[]⟩,.slice none 0 0,.slice none 0 0] 47 (0,0)):=(hb5.block _ (by simp;omega)).trans (heap_alloc2_old W3 _ _);have y0:=cell_of_one qx;have yf:=free_of_one qx;have yl:=zAb qx;clear qx;have z0:=zAa qy 0;have z1:=zAa qy 1;have z2:=zAa qy 2;simp only [cA1,cA2,cA3] at z0 z1 z2;have zf:=fun j=>zAc qy j;have zl:=zAb qy;clear qy) | (have qx:w5.heap[W3.heap.size]?=some (.cells #[.slice none 0 0] 24 (0,0)):=(hb5.block _ (by simp)).trans (heap_alloc_new W3 _);have y0:=cell_of_one qx;have yf:=free_of_one qx;have yl:=zAb qx;clear qx) | (have qy:w5.heap[W3.heap.size]?=some (.cells #[.string ⟨#[]⟩,.slice none 0 0,.slice none 0 0] 47 (0,0)):=(hb5.block _ (by simp)).trans (heap_alloc_new W3 _);have z0:=zAa qy 0;have z1:=zAa qy 1;have z2:=zAa qy 2;simp only [cA1,cA2,cA3] at z0 z1 z2;have zf:=fun j=>zAc qy j;have zl:=zAb qy;clear qy) | skip)))
   all_goals
    go_wp2_with fail
    go_meet
    refine ⟨_,_,a5,n5,c5,f6,m6,d6,y6,ym,yd,rfl,rfl,rfl,?_,?_,?_,?_,lH ⟨?_,ha5.out.1.done ?_,zA1.done ha5.out.2 ?_ ?_,?_,?_⟩⟩
    . first | (simp;done) | (go_simp;done)
    . first | (simp;done) | (go_simp;done)
    . first | (simp;done) | (go_simp;done)
    . first | (simp;done) | (go_simp;done)
    . repeat (first | assumption | exact Bel.refl _ | refine Bel.dr ?_ | refine Bel.alloc ?_ _ | refine Bel.set ?_ (by first | exact zMs _ | (simp;done) | (simp;omega) | (have:=zNB bl5;omega)) _)
    . repeat (first | exact Kept.refl _ _ | refine Kept.dr ?_ | refine Kept.alloc ?_ _ | refine Kept.set ?_ (by first | exact .inl (zMs _) | exact .inl (zOo _) | (refine .inr ⟨?_,?_⟩<;>(first | exact zMs _ | (simp;done) | (simp;omega) | omega))) _)
    . first
       | exact zMs _
       | (simp;done)
       | (simp;omega)
    . repeat (first | exact Kept.refl _ _ | refine Kept.dr ?_ | refine Kept.alloc ?_ _ | refine Kept.set ?_ (by first | exact .inl (zMs _) | exact .inl (zOo _) | (refine .inr ⟨?_,?_⟩<;>(first | exact zMs _ | (simp;done) | (simp;omega) | omega))) _)
    . first
       | exact zMs _
       | exact zNB bl5
       | (have:=zNB bl5;simp;omega)
       | (simp;done)
    . first
       | exact zMs _
       | exact zNB bl5
       | (have:=zNB bl5;simp;omega)
       | (simp;done)
  case rest=>
   obtain ⟨q5,q6,a5,n5,c5,f6,m6,d6,y6,ym,yd,rfl,rfl,rfl,d5,s0,s1,s2,hD⟩:=hcut
   obtain ⟨hbl,⟨hsa,hl5,hc5⟩,hsf,hq5,hq6⟩:=hD.out
   have p6:=(Below.block hbl _ (zAb HP6'.out)).trans HP6'.out
   have hbw2:=hbW3.trans (Below.mono hbl (by have:=hbW3.size;omega))
   by_cases hde:de=0
   . have hHR3:=HR2.out.trans (if_neg (fun h=>h hde))
     obtain ⟨hwf5,hchk5,hlen5,hten5,hnm5⟩:=HDM.out hde
     subst hde
     obtain ⟨t',ht'⟩:∃ t',({ t with sets:=t.sets.set PN y }:TenV)=t':=⟨_,rfl⟩
     have hF:=HST3.out.fresh (sn2:=n5) (sc2:=c5) (Below.drew hbl) (⟨hsa.1.mono (zMy _ _).drew,hsa.2⟩:StoAt W3.heap.size wc.drew a5 T5) HK4.out
     have hP:=hF.put HH.out.ht HVS.out hPl (y:=y) (by rw [hx0];exact hnm5) (fo:=f6) (fn:=m6) (fc:=d6) (yo:=y6) (yn:=ym) (yc:=yd) ((((hsf.offs (bad:=Few W3 (fun b=>B b\/b=w.heap.size+1)) fun b hb=>hb.2.1)).step ((Kept.drew _ _).set (.inr hF.hB) _) fun _ _ h=>h))
     rw [ht'] at hP hten5 hHR3
     have hkq:t'.key=t.key/\t'.quota=t.quota:=by rw [<- ht'];exact ⟨rfl,rfl⟩
     rw [<- hkq.2] at hHR3
     have HR3:=lH hHR3
     have HVS':Hid (vs[i]?=some ⟨t'.key,t'.quota,some ⟨g,0,none⟩,on,oc⟩):=lH (by rw [hkq.1,hkq.2];exact HVS.out)
     have HT':Hid ((p.tens.set i t')[i]?=some t'):=lH (List.getElem?_set_self HI.out)
     have HP:=lH hP
     have hb23:Below w2.heap.size w2 wc:=HB3.out.trans (Below.mono hbl (HB3.out.size))
     have e0:=Zc hb23 hgl HG.out.1
     have e1:=Zc hb23 hgl HG.out.2.1
     have e2:=Zc hb23 hgl HG.out.2.2
     have ef:=fun j=>Zf hb23 j hgl (hgf j)
     have c0:=Zc hbl hpl HC0.out
     have t2:=Zc hbl htl HC2.out
     have xf:=fun j=>Zf hbl j hpl (hpf j)
     have hq5p:q5≠pb:=by omega
     have hq6p:q6≠pb:=by omega
     have hq6g:q6≠g:=by have:=HB3.out.size;omega
     have htg:tb≠g:=fun e=>HGT.out (by rw [e])
     have h6g:w.heap.size+1≠g:=fun e=>by
      obtain ⟨hiv,hv⟩:=List.getElem?_eq_some_iff.1 HVS.out
      have h9:=(((HST3.out.ten.mono hbl).typ p6 (by decide) (by decide)).2 _ hiv)
      rw [hv] at h9
      exact h9 (by rw [e])
     have lpb:=zMw hpl (zNB hbl)
     have lgc:=zMw hgl hb23.size
     have HP6w:Hid (((((wc.drew.setCell ⟨pb,0,none⟩ (.slice a5 n5 c5)).setCell ⟨g,PN*3,none⟩ (.string y.nm)).setCell ⟨g,PN*3+1,none⟩ (.slice f6 m6 d6)).setCell ⟨g,PN*3+2,none⟩ (.slice y6 ym yd)).heap[w.heap.size+1]?=some (.cells #[.int .i64 0,.int .i64 0,.slice none 0 0,.slice none 0 0] 34 (0,0))):=lH (
      (zMu _ _ _ _ (fun e=>h6g e)).trans ((zMu _ _ _ _ (fun e=>h6g e)).trans ((zMu _ _ _ _ (fun e=>h6g e)).trans ((zMu _ _ _ _ (fun e=>by have e:w.heap.size+1=pb:=e;omega)).trans p6))))
     have HBw:Hid (Below W w ((((wc.drew.setCell ⟨pb,0,none⟩ (.slice a5 n5 c5)).setCell ⟨g,PN*3,none⟩ (.string y.nm)).setCell ⟨g,PN*3+1,none⟩ (.slice f6 m6 d6)).setCell ⟨g,PN*3+2,none⟩ (.slice y6 ym yd))):=lH (
      ((((hbw2.drew.setCell (p:=⟨pb,0,none⟩) HH.out.wle _).setCell (p:=⟨g,PN*3,none⟩) hgW _).setCell (p:=⟨g,PN*3+1,none⟩) hgW _).setCell (p:=⟨g,PN*3+2,none⟩) hgW _))
     have HFA:Hid (∀ q o,a5=some ⟨q,o,none⟩->T5≠[]->Z<=q):=lH fun q o e h=>by
      have h1:=hsa.2 q o e h
      have h2:=hbW3.size
      have h3:=HH.out.zle
      omega
     have HL5:=lH (show T5.length=n5/\Capd a5 n5 c5 from ⟨hl5,hc5⟩)
     have HT5:=lH hten5
     have HW5:=lH hwf5
     have hl400:n5<=400:=by have:=(zAg T5 hchk5).1;omega
     clear ht' hkq hx0 hHR3 hF hP hb23 hbl hsa hl5 hc5 hsf hD p6 hbw2 HSK HDO hten5 hwf5 hchk5 hlen5 hnm5 HK4 HDM
     go_upto_region 30 with fail
     go_cut [] (fun wx=>Hid (zAz w0 wx K W (Few W3 (fun b=>B b\/b=w.heap.size+1)) pb a5 n5 c5 (some ⟨tb,0,none⟩) n cap T5 (p.tens.set i t') vs/\wx.heap[w.heap.size+1]?=some (.cells #[.int .i64 0,.int .i64 0,.slice none 0 0,.slice none 0 0] 34 (0,0))/\Below W w wx))
     case first=>
      go_region
      all_goals
       go_wp2_with fail
       go_meet
       exact lH ⟨HP.out,HP6w.out,HBw.out⟩
     case rest=>
     clear e0 e1 e2 ef c0 t2 xf d5 s0 s1 s2 HP HP6w HBw
     obtain ⟨hP6,hp6w,hbw6⟩:=hcut.out
     have HP:=lH hP6
     have HP6w:=lH hp6w
     have HBw:=lH hbw6
     clear hcut hP6 hp6w hbw6
     generalize wc=W6 at *
     obtain ⟨tb',oo',on',oc',e1,-,e3,c0,c1,t0,t1,t2,-,-,htl6,hpl6,-,-,-,-⟩:=HP.out.at HT'.out
     simp only [zMz,zME,and_true] at e1
     rw [HVS'.out] at e3
     simp only [zMz,Tnv.mk.injEq,true_and] at e3
     obtain ⟨rfl,rfl,rfl⟩:=e3
     subst e1
     have HTI6:=lH (HP.out.own HT'.out HVS'.out).is
     have hI64:∀ a∈rootsT t',I64 a:=fun a ha=>by
      have:=HT5.out.live a ha
      have:=HL5.out.1
      unfold I64;omega
     have hRL:=zC6 HT5.out
     have HTR:=lH (fun u (hb:Below W6.heap.size W6 u)=>zD9 u (some ⟨g,0,none⟩) on oc t' (HTI6.out.mono hb) (fun x hx=>(HT5.out.sets x hx).small) HT5.out.len)
     have HRE:=lH (fun u ro m rc (hb:Below W6.heap.size W6 u) (hm:(rootsT t').length=m) (hr:Row .i64 u ro (rootsT t'))=>zFq u a5 ro n5 c5 m rc T5 (rootsT t') HL5.out.1 (by omega) (HP.out.sto.now.mono hb) HW5.out hm (by omega) hr hI64)
     clear hI64 hRL
     go_upto_region 31 with fail
     go_cut [22] (fun u wx=>Own .i64 3 W6.heap.size wx u (reachR T5 (rootsT t')).1/\Below W6.heap.size W6 wx)
     case first=>
      go_region_with (first
       | (go_at_call 18;refine (HTR.out _ (zMy _ _).drew).mono ?_;rintro e w6 ⟨v6,rfl,ho6,hb6⟩;obtain ⟨ro6,rc6,rfl,hl6,_,hr6,hc6⟩:=ho6.shape';have f0:=Zc hb6 hpl6 c0;have f1:=Zc hb6 htl6 t0;have f2:=Zc hb6 htl6 t1;have f3:=Zc hb6 htl6 t2;have l3:=zMw hpl6 hb6.size;have l4:=zMw htl6 hb6.size)
       | (go_at_call 17;refine (HRE.out _ _ _ _ ((zMy _ _).drew.trans hb6) rfl hr6).mono ?_;rintro e w7 ⟨v7,rfl,ho7,hb7⟩;have hb75:=(zMy _ _).drew.trans (hb6.trans (hb7.mono hb6.size))))
      all_goals (go_wp2_with fail;go_meet;exact ⟨ho7.weaken hb6.size,hb75⟩)
     case rest=>
      obtain ⟨hL,hb7⟩:=hcut
      generalize (reachR T5 (rootsT t')).1=L at *
      obtain ⟨lo,lc,rfl,hlc1,_,hrL,hlc2⟩:=hL.shape'
      have p6:=(hb7.block _ (zAb HP6w.out)).trans HP6w.out
      have hbw7:=HBw.out.trans (hb7.mono (by have:=HBw.out.size;omega))
      have t1:=Zc hb7 htl6 t1
      have HP7:=lH (HP.out.mono hb7)
      clear hL hrL HRE HTR hb7 c0 c1 t0 t2
      by_cases hq:t'.quota<(L.length:Int)
      . have HR4:Hid (r=(p.s,t,noAns,8)):=lH (HR3.out.trans (if_pos hq))
        obtain ⟨z6,zb,-⟩:=zAS p6 (.int .i64 0) (.int .i64 0) (.slice none 0 0) (.slice none 0 0)
        have hbz:=zb _ _ hbw7 (show W<=w.heap.size+1 by omega)
        unfold putA at z6 hbz
        have v0:=zAa z6 0
        have v1:=zAa z6 1
        have v2:=zAa z6 2
        have v3:=zAa z6 3
        have y0:=zAa p6 0
        have y1:=zAa p6 1
        have y2:=zAa p6 2
        have y3:=zAa p6 3
        simp only [cA1,cA2,cA3] at v0 v1 v2 v3 y0 y1 y2 y3
        have yf:=fun j=>zAc p6 j
        have yl:=zAb p6
        clear zb z6
        go_wp2_with fail
        refine bodyPost_ret (v:=.tuple #[.agg #[.int .i64 0,.int .i64 0,.slice none 0 0,.slice none 0 0],.int .i64 8]) (by simp [results,Tryz.results11,go_sem,v0,v1,v2,v3]) rfl ?_
        rw [HR4.out]
        exact ⟨⟨none,0,0,none,0,0,rfl,AnwIn.none _ 0 0⟩,hbz,fun h=>absurd h (show ¬ (8:Int)=0 by decide)⟩
      . have HR4:Hid (r=(T5,t',noAns,0)):=lH (HR3.out.trans (if_neg hq))
        obtain ⟨z6,zb,-⟩:=zAS p6 (.int .i64 0) (.int .i64 0) (.slice none 0 0) (.slice none 0 0)
        have hbz:=zb _ _ hbw7 (show W<=w.heap.size+1 by omega)
        unfold putA at z6 hbz
        have v0:=zAa z6 0
        have v1:=zAa z6 1
        have v2:=zAa z6 2
        have v3:=zAa z6 3
        have y0:=zAa p6 0
        have y1:=zAa p6 1
        have y2:=zAa p6 2
        have y3:=zAa p6 3
        simp only [cA1,cA2,cA3] at v0 v1 v2 v3 y0 y1 y2 y3
        have yf:=fun j=>zAc p6 j
        have yl:=zAb p6
        clear zb z6
        have hth:=zFx p6
        unfold putA at hth
        have HTH:=lH hth
        clear hth
        go_wp2_with fail
        refine bodyPost_ret (v:=.tuple #[.agg #[.int .i64 0,.int .i64 0,.slice none 0 0,.slice none 0 0],.int .i64 0]) (by simp [results,Tryz.results11,go_sem,v0,v1,v2,v3]) rfl ?_
        rw [HR4.out]
        exact ⟨⟨none,0,0,none,0,0,rfl,AnwIn.none _ 0 0⟩,hbz,fun _=>⟨_,a5,n5,c5,vs,HP7.out.mono HTH.out,HFA.out,HL5.out.1,HL5.out.2⟩⟩
   . have HR3:Hid (r=(p.s,t,noAns,de)):=lH (HR2.out.trans (if_pos hde))
     have he1:(de != 0)=true:=by rw [bne_iff_ne];exact hde
     have HDE:=lH hde
     obtain ⟨z6,zb,-⟩:=zAS p6 (.int .i64 0) (.int .i64 0) (.slice none 0 0) (.slice none 0 0)
     have hbz:=zb _ _ hbw2 (show W<=w.heap.size+1 by omega)
     unfold putA at z6 hbz
     have v0:=zAa z6 0
     have v1:=zAa z6 1
     have v2:=zAa z6 2
     have v3:=zAa z6 3
     have y0:=zAa p6 0
     have y1:=zAa p6 1
     have y2:=zAa p6 2
     have y3:=zAa p6 3
     simp only [cA1,cA2,cA3] at v0 v1 v2 v3 y0 y1 y2 y3
     have yf:=fun j=>zAc p6 j
     have yl:=zAb p6
     clear zb z6
     clear HSK HDO d5 s0 s1 s2 hD hbl hsa hl5 hc5 hsf p6
     go_wp2_with fail
     refine bodyPost_ret (v:=.tuple #[.agg #[.int .i64 0,.int .i64 0,.slice none 0 0,.slice none 0 0],.int .i64 de]) (by simp [results,Tryz.results11,go_sem,v0,v1,v2,v3]) rfl ?_
     rw [HR3.out]
     exact ⟨⟨none,0,0,none,0,0,rfl,AnwIn.none _ 0 0⟩,hbz,fun h=>absurd h HDE.out⟩
end Go.Proofs.YtfmgdjgedhnmeaaGreat
