/- pool.do: Destroy. · pool.do: Clone. -/
import Derived.Deep.RegionWith
import Derived.Deep.RegionHeld3
import Derived.StillTail
import Derived.StillTactics
import Derived.Test.YtfmgdjgedhnmeaaGreatPdoA
namespace Go.Proofs.YtfmgdjgedhnmeaaGreat
open Go.RowKit
set_option linter.unusedVariables false
set_option linter.unusedSimpArgs false
set_option maxRecDepth 100000 in
set_option maxHeartbeats 8000000 in
theorem zHU (w0 w:World) (K W Z:Nat) (B:Nat->Prop) (pb i:Nat) (so:Option Addr) (sn sc:Nat) (ao:Option Addr) (n cap:Nat) (p:PoolV) (vs:List Tnv) (t:TenV) (ba:Option Addr) (bn bc:Nat) (a:AskV) (r:List Blk×TenV×AnsV×Int) (h:DoIn w0 w K W Z B pb i so sn sc ao n cap p vs t ba bn bc a) (hr:doT p.s t a=r) (hk:a.kind=2) :
 Calls Tryz.prog 11 #[.pointer (some ⟨pb,0,none⟩),.int .i64 i,.agg #[.int .i64 a.kind,.string a.sname,.string a.file,.string a.dest,.int .i64 a.at_,.int .i64 a.n,.slice ba bn bc]] w fun e w'=>zBB e w0 w w' K W Z pb ao n cap p i r:=by
 obtain ⟨kind,aset,afile,ato,aat,an,abytes⟩:=a
 simp only at hk
 subst hk
 have HR:Hid (r=if placeB (t.sets.map SetV.nm) aset=false then (p.s,t,noAns,5) else if (zAN p.s t.key (setAt t.sets (placeN (t.sets.map SetV.nm) aset))).2≠0 then (p.s,t,noAns,(zAN p.s t.key (setAt t.sets (placeN (t.sets.map SetV.nm) aset))).2)
  else ((zAN p.s t.key (setAt t.sets (placeN (t.sets.map SetV.nm) aset))).1,{ t with sets:=t.sets.eraseIdx (placeN (t.sets.map SetV.nm) aset) },noAns,0)):=lH (by rw [<- hr];exact zIh rfl)
 clear hr
 obtain ⟨hb0,p5,p6,hz2⟩:=zCz w (.cells #[.int .i64 2,.string aset,.string afile,.string ato,.int .i64 aat,.int .i64 an,.slice ba bn bc] 30) (.cells #[.int .i64 0,.int .i64 0,.slice none 0 0,.slice none 0 0] 34)
 have hst:=h.st.widen (B2:=fun b=>B b\/b=w.heap.size+1) hb0 (fun b h=>.inl h) (fun b hl h=>h.elim id fun e=>absurd hl (by omega))
 obtain ⟨tb,oo,on,oc,rfl,hon,hvs,c0,c1,t0,t1,t2,hTI,htW,htl,hpl,hpt,htf,hpf,hin⟩:=hst.at h.ht
 have hwp:=zAb h.st.box
 have htw:tb<w.heap.size:=by obtain ⟨tb',-,-,-,e,-,-,-,-,-,-,-,-,-,h9,-⟩:=h.st.at h.ht;simp only [zMz,zME,and_true] at e;omega
 have k0:=zAa p5 0
 have k1:=zAa p5 1
 have k2:=zAa p5 2
 have k3:=zAa p5 3
 have k4:=zAa p5 4
 have k5:=zAa p5 5
 have k6:=zAa p5 6
 simp only [cA1,cA2,cA3] at k0 k1 k2 k3 k4 k5 k6
 have kl:=zAb p5
 have HST:=lH hst
 have HTI:=lH hTI
 have HI:=lH h.hi
 have HTM:=lH (zM6 h.ht)
 have HTK:=lH (h.ok.ten t HTM.out)
 have HFAR:=lH h.far
 have HSL:=lH h.slen
 have HSC:=lH h.scap
 have HASK:=lH (h.ask.mono hb0)
 have HOK:=lH h.ok
 have HWF:=lH h.wf
 have HH:=lH h
 have HON:=lH hon
 have HVS:=lH hvs
 have HP5:=lH p5
 have HP6:=lH p6
 have HBW:=lH hb0
 have HZ2:=lH hz2
 have hws:=h.st.hw
 have HWS:=lH hws
 have HQ:Hid (pb≠w.heap.size+1/\K<=w.heap.size+1):=lH ⟨by omega,by have:=h.st.ten.kle;omega⟩
 have hn3:n<=3:=by have:=h.st.ten.len;have:=h.ok.len;omega
 have hon3:on<=3:=by have:=HTK.out.len;omega
 clear h hst hTI hon hvs p5 p6 hb0 hz2
 go_enter Tryz.func11,Tryz.ntmps11
 go_upto_region 1 with fail
 generalize (w.alloc (.cells #[.int .i64 2,.string aset,.string afile,.string ato,.int .i64 aat,.int .i64 an,.slice ba bn bc] 30)).alloc (.cells #[.int .i64 0,.int .i64 0,.slice none 0 0,.slice none 0 0] 34)=W1 at *
 go_upto_region 7 with fail
 have HPL:=lH (zBg W1.drew t.key t.quota oo on oc t aset (HTI.out.mono (zMy _ _).drew) (by omega) HTK.out.rise)
 have HPT:=lH (fun h=>zFX (t:=t) (nm:=aset) h)
 obtain ⟨PN,hPN⟩:∃ PN,placeN (t.sets.map SetV.nm) aset=PN:=⟨_,rfl⟩
 obtain ⟨PB,hPB⟩:∃ PB,placeB (t.sets.map SetV.nm) aset=PB:=⟨_,rfl⟩
 rw [hPN,hPB] at HPL HPT HR
 clear hPN hPB
 refine zA7 5 _ rfl (by kernel_rfl) (by kernel_rfl) ?_
 simp only [zND,zNH,zNM,zN9]
 repeat still_step
 refine wpStill_nil ?_
 intro K hK
 go_simp
 refine HPL.out.mono ?_
 rintro e w2 ⟨rfl,hb2⟩
 have hb2:=zBL hb2
 refine hK _ _ ?_
 clear hK K HPL
 repeat still_step
 refine wpStill_nil ?_
 have hbW2:Below W w w2:=(HBW.out.mono HWS.out).trans (hb2.mono (by have:=HZ2.out;omega))
 have HST2:=lH (HST.out.mono hb2)
 have HTI2:=lH (HTI.out.mono hb2)
 have HASK2:=lH (HASK.out.mono hb2)
 have p5:=(hb2.block _ (zAb HP5.out)).trans HP5.out
 have p6:=(hb2.block _ (zAb HP6.out)).trans HP6.out
 have c0:=Zc hb2 hpl c0
 have c1:=Zc hb2 hpl c1
 have t0:=Zc hb2 htl t0
 have t1:=Zc hb2 htl t1
 have t2:=Zc hb2 htl t2
 have htf:=fun j=>Zf hb2 j htl (htf j)
 have hpf:=fun j=>Zf hb2 j hpl (hpf j)
 have hpl:=zMw hpl hb2.size
 have htl:=zMw htl hb2.size
 have HB2:=lH hb2
 clear k0 k1 k2 k3 k4 k5 k6 kl
 have k0:=zAa p5 0
 have k1:=zAa p5 1
 have k2:=zAa p5 2
 have k3:=zAa p5 3
 have k4:=zAa p5 4
 have k5:=zAa p5 5
 have k6:=zAa p5 6
 simp only [cA1,cA2,cA3] at k0 k1 k2 k3 k4 k5 k6
 have kl:=zAb p5
 cases PB with
 | false=>
  have HR2:Hid (r=(p.s,t,noAns,5)):=lH (by rw [HR.out,if_pos rfl])
  clear HPT hb2
  obtain ⟨z6,zb,-⟩:=zAS p6 (.int .i64 0) (.int .i64 0) (.slice none 0 0) (.slice none 0 0)
  have hbz:=zb _ _ hbW2 (show W<=w.heap.size+1 by omega)
  unfold putA at z6 hbz
  have v0:=zAa z6 0
  have v1:=zAa z6 1
  have v2:=zAa z6 2
  have v3:=zAa z6 3
  have y0:=zAa p6 0
  have y1:=zAa p6 1
  have y2:=zAa p6 2
  have y3:=zAa p6 3
  simp only [cA1,cA2,cA3] at v0 v1 v2 v3 y0 y1 y2 y3
  have yf:=fun j=>zAc p6 j
  have yl:=zAb p6
  clear zb z6
  go_wp2_with fail
  refine bodyPost_ret (v:=.tuple #[.agg #[.int .i64 0,.int .i64 0,.slice none 0 0,.slice none 0 0],.int .i64 5]) (by simp [results,Tryz.results11,go_sem,v0,v1,v2,v3]) rfl ?_
  rw [HR2.out]
  exact zBB.same (r:=(noAns,5)) (HST2.out.ans p6 HQ.out.1 HQ.out.2 (.inr rfl) _ _ _ _) HH.out.ht HFAR.out HSL.out HSC.out hbz ⟨none,0,0,none,0,0,rfl,AnwIn.none _ 0 0⟩
 | true=>
  obtain ⟨hPl,hPx⟩:=HPT.out (by simp)
  obtain ⟨x,hx⟩:∃ x,t.sets[PN]=x:=⟨_,rfl⟩
  obtain ⟨g,fo,fn,fc,yo,yn,yc,rfl,g0,g1,g2,hset,hgW,hgl,hgB,hgf,hgp,hgt⟩:=HST2.out.set_at HH.out.ht HVS.out hPl
  have HR2:=lH (HR.out.trans (if_neg (by simp)))
  rw [hPx,hx] at HR2
  rw [hx] at g0 hset
  have hx0:=hx
  have HX:=lH hx
  have HSET:=lH hset
  have HPL:=lH hPl
  have hpi:(PN:Int)<on:=by have:=HON.out;omega
  have HGT:=lH hgt
  have HG:=lH (And.intro g0 (And.intro g1 g2))
  clear HR hPx hx hset HPT hb2 hgt
  have hSD:=zEw HOK.out HWF.out HTM.out HPL.out
  rw [hx0] at hSD
  obtain ⟨hz0,hok⟩:=hSD
  have HR3:Hid (r=((zAN p.s t.key x).1,{ t with sets:=t.sets.eraseIdx PN },noAns,0)):=lH (HR2.out.trans (if_neg (fun h=>h hz0)))
  obtain ⟨T5,hT5⟩:∃ T5,(zAN p.s t.key x).1=T5:=⟨_,rfl⟩
  rw [hT5] at HR3 hok
  have HK4:=lH (Good.of_check hok.chk hok.wf).kid4
  clear hok HR2
  have hb3:=bA0 w2 (.cells #[.string x.nm,.slice fo fn fc,.slice yo yn yc] 47)
  have b0:(w2.alloc (.cells #[.string x.nm,.slice fo fn fc,.slice yo yn yc] 47)).cell? ⟨w2.heap.size,0,none⟩=some (.string x.nm):=by simp
  have b1:(w2.alloc (.cells #[.string x.nm,.slice fo fn fc,.slice yo yn yc] 47)).cell? ⟨w2.heap.size,1,none⟩=some (.slice fo fn fc):=by simp
  have b2:(w2.alloc (.cells #[.string x.nm,.slice fo fn fc,.slice yo yn yc] 47)).cell? ⟨w2.heap.size,2,none⟩=some (.slice yo yn yc):=by simp
  have bl:w2.heap.size<(w2.alloc (.cells #[.string x.nm,.slice fo fn fc,.slice yo yn yc] 47)).heap.size:=by simp
  go_upto_region 16 with fail
  generalize w2.alloc (.cells #[.string x.nm,.slice fo fn fc,.slice yo yn yc] 47)=W3 at *
  replace c0:=Zc hb3 hpl c0
  replace c1:=Zc hb3 hpl c1
  replace t0:=Zc hb3 htl t0
  replace t1:=Zc hb3 htl t1
  replace t2:=Zc hb3 htl t2
  replace k0:=Zc hb3 kl k0
  replace k1:=Zc hb3 kl k1
  replace k2:=Zc hb3 kl k2
  replace k3:=Zc hb3 kl k3
  replace k4:=Zc hb3 kl k4
  replace k5:=Zc hb3 kl k5
  replace k6:=Zc hb3 kl k6
  replace p6:=Zm hb3 p6
  replace htf:=fun j=>Zf hb3 j htl (htf j)
  replace hpf:=fun j=>Zf hb3 j hpl (hpf j)
  replace hpl:=zMw hpl hb3.size
  replace htl:=zMw htl hb3.size
  replace kl:=zMw kl hb3.size
  have HST3:=lH (HST2.out.mono hb3)
  have HASK3:=lH (HASK2.out.mono hb3)
  have HSET3:=lH (HSET.out.mono hb3)
  have hbW3:Below W w W3:=hbW2.trans (hb3.mono (by have:=hbW2.size;omega))
  have HRX:=lH (HTK.out.sets x (by rw [<- HX.out];exact zMr _))
  have HS4:=lH (zAg p.s HOK.out.chk).1
  have HB3:=lH hb3
  clear hb3 p5 g0 g1 g2
  have HDES:Hid (∀ u,Up W3 u->Calls Tryz.prog 34 #[.agg #[.slice so sn sc],.int .i64 t.key,.agg #[.string x.nm,.slice fo fn fc,.slice yo yn yc]] u fun e w'=>∃ a5 n5 c5,e=.returned (.tuple #[.agg #[.slice a5 n5 c5],.int .i64 0])/\Below u.heap.size u w'/\Hid (Aft W3 u w' a5 n5 c5 T5)):=lH fun u hu=>(zIw u so fo yo sn sc fn fc yn yc p.s t.key x HSL.out (by have:=HSL.out;have:=HS4.out;omega) (HST3.out.sto.now.mono hu.bel) HWF.out HSC.out (HSET3.out.now.mono hu.bel) HRX.out.wf).mono fun e w' h=>by
   obtain ⟨a5,n5,c5,e1,hb,hl,hs,hc⟩:=h
   rw [hz0] at e1
   rw [hT5] at hl hs
   exact ⟨a5,n5,c5,e1,hb,lH (Aft.of hu hb hl hs hc HK4.out)⟩
  have HSK:Hid (∀ u,Bel W3 u->u.cell? ⟨pb,0,none⟩=some (.slice so sn sc)/\u.cell? ⟨tb,i*3,none⟩=some (.int .i64 t.key)/\u.cell? ⟨w2.heap.size,0,none⟩=some (.string x.nm)/\u.cell? ⟨w2.heap.size,1,none⟩=some (.slice fo fn fc)/\u.cell? ⟨w2.heap.size,2,none⟩=some (.slice yo yn yc)):=lH fun u h=>⟨Zc h hpl c0,Zc h htl t0,Zc h bl b0,Zc h bl b1,Zc h bl b2⟩
  have HC0:=lH c0
  have HC2:=lH t2
  clear hz0 c0 c1 t0 t1 t2 b0 b1 b2
  go_cut [14,15] (fun u1 u2 wx=>∃ (q5:Nat) (a5:Option Addr) (n5 c5:Nat),u1=.pointer (some ⟨q5,0,none⟩)/\u2=.int .i64 0/\W3.heap.size<=q5/\wx.cell? ⟨q5,0,none⟩=some (.slice a5 n5 c5)/\Hid (Bel W3 wx/\StoAt W3.heap.size wx a5 T5/\T5.length=n5/\Capd a5 n5 c5))
  case first=>
   go_region_held3 (fun u=>u.cell? ⟨pb,0,none⟩=some (.slice so sn sc)/\u.cell? ⟨tb,i*3,none⟩=some (.int .i64 t.key)/\u.cell? ⟨w2.heap.size,0,none⟩=some (.string x.nm)/\u.cell? ⟨w2.heap.size,1,none⟩=some (.slice fo fn fc)/\u.cell? ⟨w2.heap.size,2,none⟩=some (.slice yo yn yc))
    ((refine HSK.out _ ?_;repeat (first | assumption | exact Bel.refl _ | refine Bel.dr ?_ | refine Bel.alloc ?_ _ | refine Bel.set ?_ (by first | exact zMs _ | (simp;done) | (simp;omega)) _)))
    (first
    | (go_at_call 34;refine (HDES.out _ (by repeat (first | exact Up.refl _ | refine Up.dr ?_ | refine Up.one ?_))).mono ?_;rintro e w5 ⟨a5,n5,c5,rfl,hb5,ha5⟩;have bl5:Bel W3 w5:=Bel.call (by repeat (first | exact Bel.refl _ | refine Bel.dr ?_ | refine Bel.alloc ?_ _)) hb5;(first | (have qx:w5.heap[W3.heap.size]?=some (.cells #[.slice none 0 0] 24 (0,0)):=(hb5.block _ (by simp)).trans (heap_alloc_new W3 _);have y0:=cell_of_one qx;have yf:=free_of_one qx;have yl:=zAb qx;clear qx) | skip)))
   all_goals
    go_wp2_with fail
    go_meet
    refine ⟨_,a5,n5,c5,rfl,rfl,(by first | exact zMs _ | exact zNB bl5),?_,lH ⟨?_,ha5.out.done ?_⟩⟩
    . first
       | (simp;done)
       | exact zMQ _ _ _ y0
    . repeat (first | assumption | exact Bel.refl _ | refine Bel.dr ?_ | refine Bel.alloc ?_ _ | refine Bel.set ?_ (by first | exact zMs _ | (simp;done) | (simp;omega)) _)
    . repeat (first | exact Kept.refl _ _ | refine Kept.dr ?_ | refine Kept.alloc ?_ _ | refine Kept.set ?_ (by first | exact .inl (zMs _) | exact .inl (zOo _) | (refine .inr ⟨?_,?_⟩<;>(first | exact zMs _ | (simp;done) | (simp;omega) | omega))) _)
  case rest=>
   obtain ⟨q5,a5,n5,c5,rfl,rfl,hq5,d5,hD⟩:=hcut
   obtain ⟨hbl,hsa,hl5,hc5⟩:=hD.out
   have hF:=HST3.out.fresh (sn2:=n5) (sc2:=c5) hbl hsa HK4.out
   obtain ⟨us,v1,v2,v3⟩:=hF.own HH.out.ht HVS.out
   have v2w:stvK.Own wc W (.slice (some ⟨g,0,none⟩) on oc) us:=v2.other fun q hq hl=>(zMu _ _ _ _ (fun e=>by
    simp only [zMz,zME,and_true] at hq
    have e:q=pb:=e
    omega)).symm
   obtain ⟨m,rfl⟩:∃ m,on=m+1:=⟨on - 1,by omega⟩
   have HDEL:=lH (zIv wc.drew W (some ⟨g,0,none⟩) m oc PN us (v1.trans HON.out.symm) (by omega) (by omega) (v2w.mono (zMy _ _).drew))
   have hw1:IntKind.i64.wrap ((PN:Int)+1)=(PN:Int)+1:=by rw [IntKind.wrap_i64];omega
   have c0:=Zc hbl hpl HC0.out
   have t2:=Zc hbl htl HC2.out
   have lq:=zMx _ _ d5
   simp only at lq
   replace htf:=fun j=>Zf hbl j htl (htf j)
   replace hpf:=fun j=>Zf hbl j hpl (hpf j)
   have hq5p:q5≠pb:=by omega
   have hq5t:q5≠tb:=by omega
   have hgw:g<W3.heap.size:=zMw hgl (by omega)
   replace p6:=(Below.block hbl _ (zAb p6)).trans p6
   have h6g:w.heap.size+1≠g:=fun e=>by
    obtain ⟨hiv,hv⟩:=List.getElem?_eq_some_iff.1 HVS.out
    have h9:=(((HST3.out.ten.mono hbl).typ p6 (by decide) (by decide)).2 _ hiv)
    rw [hv] at h9
    exact h9 (by rw [e])
   replace hpl:=zMw hpl (zNB hbl)
   replace htl:=zMw htl (zNB hbl)
   have hq5g:q5≠g:=by omega
   have htg:tb≠g:=fun e=>HGT.out (by rw [e])
   have HF:=lH hF
   have HV1:=lH v1
   have HV3:=lH v3
   have HBL:=lH hbl
   have HL5:=lH (show T5.length=n5/\Capd a5 n5 c5 from ⟨hl5,hc5⟩)
   have HP6':=lH p6
   have HSA:=lH hsa
   clear hF v1 v2 v3 v2w hbl hsa hl5 hc5 hD HSK HDES p6 k0 k1 k2 k3 k4 k5 k6
   go_upto_region 19 with fail
   go_cut [] (fun wx=>Hid ((∃ B' vs',zAz w0 wx K W B' pb a5 n5 c5 (some ⟨tb,0,none⟩) n cap T5 (p.tens.set i { t with sets:=t.sets.eraseIdx PN }) vs')/\wx.heap[w.heap.size+1]?=some (.cells #[.int .i64 0,.int .i64 0,.slice none 0 0,.slice none 0 0] 34 (0,0))/\Below W w wx))
   case first=>
    go_region_with (go_at_call 35;refine HDEL.out.mono ?_;rintro e w7 ⟨rfl,hown7,hb7,hk7⟩;have x0:=(zMB (a:=⟨pb,0,none⟩) (hk7 pb hpl (fun e=>hgp (by simpa using e.symm)))).trans c0;have x2:=(zMB (a:=⟨tb,i*3+2,none⟩) (hk7 tb htl (fun e=>htg (by simpa using e.symm)))).trans t2;have x5:=(zMB (a:=⟨q5,0,none⟩) (hk7 q5 lq (fun e=>hq5g (by simpa using e.symm)))).trans d5;have xl:=zMw hpl hb7.size;have xl2:=zMw htl hb7.size;have xf:=fun j=>(World.frozen?_of_block (a:=⟨pb,j,none⟩) (hk7 pb hpl (fun e=>hgp (by simpa using e.symm)))).trans (hpf j);have xf2:=fun j=>(World.frozen?_of_block (a:=⟨tb,j,none⟩) (hk7 tb htl (fun e=>htg (by simpa using e.symm)))).trans (htf j))
    all_goals
     go_wp2_with fail
     go_meet
     have hFIN:Hid (∃ B' vs',zAz w0 ((w7.setCell ⟨pb,0,none⟩ (.slice a5 n5 c5)).setCell ⟨tb,i*3+2,none⟩ (.slice (some ⟨g,0,none⟩) m oc)) K W B' pb a5 n5 c5 (some ⟨tb,0,none⟩) n cap T5 (p.tens.set i { t with sets:=t.sets.eraseIdx PN }) vs'):=lH (by
      have hk:Kept (fun b=>b=g) wc w7:=⟨hb7.os,hb7.tape,hb7.output,hb7.size,fun b hl hb=>hk7 b hl (fun e=>hb (by simpa using e.symm))⟩
      have hk2:=hk.both pb 0 (.slice a5 n5 c5)
      have hF:=HF.out
      have hBg:=hF.blk_of HH.out.ht HVS.out
      refine hF.cut HH.out.ht HVS.out ⟨rfl,rfl⟩ hk2 ⟨us.eraseIdx PN,?_,hown7.other (fun q hq hl=>zMu _ _ _ _ (fun e=>by
       simp only [zMz,zME,and_true] at hq
       have e:q=pb:=e
       omega)),zJG (R:=fun (u:Stv) (y:SetV)=>u.nm=y.nm/\Hangs _ _ fun w=>SetIn w u.fo u.fn u.fc u.so u.sn u.sc y) (fun k a b=>⟨(HV3.out k a b).1,(HV3.out k a b).2.step (hk2.sub fun b e=>by rw [e];exact hBg) fun _ _ h=>h⟩) PN⟩
      rw [zNm,zNm,HV1.out])
     have hP9:Hid (((w7.setCell ⟨pb,0,none⟩ (.slice a5 n5 c5)).setCell ⟨tb,i*3+2,none⟩ (.slice (some ⟨g,0,none⟩) m oc)).heap[w.heap.size+1]?=some (.cells #[.int .i64 0,.int .i64 0,.slice none 0 0,.slice none 0 0] 34 (0,0))):=lH (
      (zMu _ _ _ _ (fun e=>by have e:w.heap.size+1=tb:=e;omega)).trans ((zMu _ _ _ _ (fun e=>by have e:w.heap.size+1=pb:=e;omega)).trans ((hk7 _ (zAb HP6'.out) (fun e=>h6g (by simpa using e.symm))).trans HP6'.out)))
     have hbw9:Hid (Below W w ((w7.setCell ⟨pb,0,none⟩ (.slice a5 n5 c5)).setCell ⟨tb,i*3+2,none⟩ (.slice (some ⟨g,0,none⟩) m oc))):=lH (
      ((((hbW3.trans (Below.mono HBL.out (by have:=hbW3.size;omega))).trans ((zMy _ _).drew.mono (by have:=hbW3.size;have:=zNB HBL.out;omega))).trans hb7).setCell (p:=⟨pb,0,none⟩) (HH.out.wle) _).setCell (p:=⟨tb,i*3+2,none⟩) htW _)
     exact lH ⟨hFIN.out,hP9.out,hbw9.out⟩
   case rest=>
    obtain ⟨hFIN,p6,hbw9'⟩:=hcut.out
    clear hcut c0 t2 htf hpf d5 HDEL HK4
    obtain ⟨z6,zb,-⟩:=zAS p6 (.int .i64 0) (.int .i64 0) (.slice none 0 0) (.slice none 0 0)
    have hbz:=zb _ _ hbw9' (show W<=w.heap.size+1 by omega)
    unfold putA at z6 hbz
    have v0:=zAa z6 0
    have v1:=zAa z6 1
    have v2:=zAa z6 2
    have v3:=zAa z6 3
    have y0:=zAa p6 0
    have y1:=zAa p6 1
    have y2:=zAa p6 2
    have y3:=zAa p6 3
    simp only [cA1,cA2,cA3] at v0 v1 v2 v3 y0 y1 y2 y3
    have yf:=fun j=>zAc p6 j
    have yl:=zAb p6
    clear zb z6
    have hth:=zFx p6
    unfold putA at hth
    have HTH:=lH hth
    clear hth
    go_wp2_with fail
    refine bodyPost_ret (v:=.tuple #[.agg #[.int .i64 0,.int .i64 0,.slice none 0 0,.slice none 0 0],.int .i64 0]) (by simp [results,Tryz.results11,go_sem,v0,v1,v2,v3]) rfl ?_
    rw [HR3.out]
    obtain ⟨B',vs',hst9⟩:=hFIN
    exact ⟨⟨none,0,0,none,0,0,rfl,AnwIn.none _ 0 0⟩,hbz,fun _=>⟨B',a5,n5,c5,vs',hst9.mono HTH.out,fun q o e h=>by
     have h1:=HSA.out.2 q o e h
     have h2:=hbW3.size
     have h3:=HH.out.zle
     omega,HL5.out.1,HL5.out.2⟩⟩
end Go.Proofs.YtfmgdjgedhnmeaaGreat

namespace Go.Proofs.YtfmgdjgedhnmeaaGreat
open Go.RowKit
set_option linter.unusedVariables false
set_option linter.unusedSimpArgs false
set_option maxRecDepth 100000 in
set_option maxHeartbeats 8000000 in
theorem zLR (w0 w:World) (K W Z:Nat) (B:Nat->Prop) (pb i:Nat) (so:Option Addr) (sn sc:Nat) (ao:Option Addr) (n cap:Nat) (p:PoolV) (vs:List Tnv) (t:TenV) (ba:Option Addr) (bn bc:Nat) (a:AskV) (r:List Blk×TenV×AnsV×Int) (h:DoIn w0 w K W Z B pb i so sn sc ao n cap p vs t ba bn bc a) (hr:doT p.s t a=r) (hk:a.kind=10) :
 Calls Tryz.prog 11 #[.pointer (some ⟨pb,0,none⟩),.int .i64 i,.agg #[.int .i64 a.kind,.string a.sname,.string a.file,.string a.dest,.int .i64 a.at_,.int .i64 a.n,.slice ba bn bc]] w fun e w'=>zBB e w0 w w' K W Z pb ao n cap p i r:=by
 obtain ⟨kind,aset,afile,ato,aat,an,abytes⟩:=a
 simp only at hk
 subst hk
 have HR:Hid (r=if placeB (t.sets.map SetV.nm) aset=false then (p.s,t,noAns,5) else if (zAL p.s t.key (setAt t.sets (placeN (t.sets.map SetV.nm) aset)) ato afile).2.2≠0 then (p.s,t,noAns,(zAL p.s t.key (setAt t.sets (placeN (t.sets.map SetV.nm) aset)) ato afile).2.2)
  else ((zAL p.s t.key (setAt t.sets (placeN (t.sets.map SetV.nm) aset)) ato afile).1,(layP t (zAL p.s t.key (setAt t.sets (placeN (t.sets.map SetV.nm) aset)) ato afile).2.1).1,noAns,(layP t (zAL p.s t.key (setAt t.sets (placeN (t.sets.map SetV.nm) aset)) ato afile).2.1).2)):=lH (by rw [<- hr];exact zL2 rfl)
 clear hr
 obtain ⟨hb0,p5,p6,hz2⟩:=zCz w (.cells #[.int .i64 10,.string aset,.string afile,.string ato,.int .i64 aat,.int .i64 an,.slice ba bn bc] 30) (.cells #[.int .i64 0,.int .i64 0,.slice none 0 0,.slice none 0 0] 34)
 have hst:=h.st.widen (B2:=fun b=>B b\/b=w.heap.size+1) hb0 (fun b h=>.inl h) (fun b hl h=>h.elim id fun e=>absurd hl (by omega))
 obtain ⟨tb,oo,on,oc,rfl,hon,hvs,c0,c1,t0,t1,t2,hTI,htW,htl,hpl,hpt,htf,hpf,hin⟩:=hst.at h.ht
 have hwp:=zAb h.st.box
 have htw:tb<w.heap.size:=by obtain ⟨tb',-,-,-,e,-,-,-,-,-,-,-,-,-,h9,-⟩:=h.st.at h.ht;simp only [zMz,zME,and_true] at e;omega
 have k0:=zAa p5 0
 have k1:=zAa p5 1
 have k2:=zAa p5 2
 have k3:=zAa p5 3
 have k4:=zAa p5 4
 have k5:=zAa p5 5
 have k6:=zAa p5 6
 simp only [cA1,cA2,cA3] at k0 k1 k2 k3 k4 k5 k6
 have kl:=zAb p5
 have HST:=lH hst
 have HTI:=lH hTI
 have HI:=lH h.hi
 have HTM:=lH (zM6 h.ht)
 have HTK:=lH (h.ok.ten t HTM.out)
 have HFAR:=lH h.far
 have HSL:=lH h.slen
 have HSC:=lH h.scap
 have HASK:=lH (h.ask.mono hb0)
 have HOK:=lH h.ok
 have HWF:=lH h.wf
 have HH:=lH h
 have HON:=lH hon
 have HVS:=lH hvs
 have HP5:=lH p5
 have HP6:=lH p6
 have HBW:=lH hb0
 have HZ2:=lH hz2
 have hws:=h.st.hw
 have HWS:=lH hws
 have HQ:Hid (pb≠w.heap.size+1/\K<=w.heap.size+1):=lH ⟨by omega,by have:=h.st.ten.kle;omega⟩
 have hn3:n<=3:=by have:=h.st.ten.len;have:=h.ok.len;omega
 have hon3:on<=3:=by have:=HTK.out.len;omega
 clear h hst hTI hon hvs p5 p6 hb0 hz2
 go_enter Tryz.func11,Tryz.ntmps11
 go_upto_region 1 with fail
 generalize (w.alloc (.cells #[.int .i64 10,.string aset,.string afile,.string ato,.int .i64 aat,.int .i64 an,.slice ba bn bc] 30)).alloc (.cells #[.int .i64 0,.int .i64 0,.slice none 0 0,.slice none 0 0] 34)=W1 at *
 go_upto_region 7 with fail
 have HPL:=lH (zBg W1.drew t.key t.quota oo on oc t aset (HTI.out.mono (zMy _ _).drew) (by omega) HTK.out.rise)
 have HPT:=lH (fun h=>zFX (t:=t) (nm:=aset) h)
 obtain ⟨PN,hPN⟩:∃ PN,placeN (t.sets.map SetV.nm) aset=PN:=⟨_,rfl⟩
 obtain ⟨PB,hPB⟩:∃ PB,placeB (t.sets.map SetV.nm) aset=PB:=⟨_,rfl⟩
 rw [hPN,hPB] at HPL HPT HR
 clear hPN hPB
 refine zA7 5 _ rfl (by kernel_rfl) (by kernel_rfl) ?_
 simp only [zND,zNH,zNM,zN9]
 repeat still_step
 refine wpStill_nil ?_
 intro K hK
 go_simp
 refine HPL.out.mono ?_
 rintro e w2 ⟨rfl,hb2⟩
 have hb2:=zBL hb2
 refine hK _ _ ?_
 clear hK K HPL
 repeat still_step
 refine wpStill_nil ?_
 have hbW2:Below W w w2:=(HBW.out.mono HWS.out).trans (hb2.mono (by have:=HZ2.out;omega))
 have HST2:=lH (HST.out.mono hb2)
 have HTI2:=lH (HTI.out.mono hb2)
 have HASK2:=lH (HASK.out.mono hb2)
 have p5:=(hb2.block _ (zAb HP5.out)).trans HP5.out
 have p6:=(hb2.block _ (zAb HP6.out)).trans HP6.out
 have c0:=Zc hb2 hpl c0
 have c1:=Zc hb2 hpl c1
 have t0:=Zc hb2 htl t0
 have t1:=Zc hb2 htl t1
 have t2:=Zc hb2 htl t2
 have htf:=fun j=>Zf hb2 j htl (htf j)
 have hpf:=fun j=>Zf hb2 j hpl (hpf j)
 have hpl:=zMw hpl hb2.size
 have htl:=zMw htl hb2.size
 have HB2:=lH hb2
 clear k0 k1 k2 k3 k4 k5 k6 kl
 have k0:=zAa p5 0
 have k1:=zAa p5 1
 have k2:=zAa p5 2
 have k3:=zAa p5 3
 have k4:=zAa p5 4
 have k5:=zAa p5 5
 have k6:=zAa p5 6
 simp only [cA1,cA2,cA3] at k0 k1 k2 k3 k4 k5 k6
 have kl:=zAb p5
 cases PB with
 | false=>
  have HR2:Hid (r=(p.s,t,noAns,5)):=lH (by rw [HR.out,if_pos rfl])
  clear HPT hb2
  obtain ⟨z6,zb,-⟩:=zAS p6 (.int .i64 0) (.int .i64 0) (.slice none 0 0) (.slice none 0 0)
  have hbz:=zb _ _ hbW2 (show W<=w.heap.size+1 by omega)
  unfold putA at z6 hbz
  have v0:=zAa z6 0
  have v1:=zAa z6 1
  have v2:=zAa z6 2
  have v3:=zAa z6 3
  have y0:=zAa p6 0
  have y1:=zAa p6 1
  have y2:=zAa p6 2
  have y3:=zAa p6 3
  simp only [cA1,cA2,cA3] at v0 v1 v2 v3 y0 y1 y2 y3
  have yf:=fun j=>zAc p6 j
  have yl:=zAb p6
  clear zb z6
  go_wp2_with fail
  refine bodyPost_ret (v:=.tuple #[.agg #[.int .i64 0,.int .i64 0,.slice none 0 0,.slice none 0 0],.int .i64 5]) (by simp [results,Tryz.results11,go_sem,v0,v1,v2,v3]) rfl ?_
  rw [HR2.out]
  exact zBB.same (r:=(noAns,5)) (HST2.out.ans p6 HQ.out.1 HQ.out.2 (.inr rfl) _ _ _ _) HH.out.ht HFAR.out HSL.out HSC.out hbz ⟨none,0,0,none,0,0,rfl,AnwIn.none _ 0 0⟩
 | true=>
  obtain ⟨hPl,hPx⟩:=HPT.out (by simp)
  obtain ⟨x,hx⟩:∃ x,t.sets[PN]=x:=⟨_,rfl⟩
  obtain ⟨g,fo,fn,fc,yo,yn,yc,rfl,g0,g1,g2,hset,hgW,hgl,hgB,hgf,hgp,hgt⟩:=HST2.out.set_at HH.out.ht HVS.out hPl
  have HR2:=lH (HR.out.trans (if_neg (by simp)))
  rw [hPx,hx] at HR2
  rw [hx] at g0 hset
  have hx0:=hx
  have HX:=lH hx
  have HSET:=lH hset
  have HPL:=lH hPl
  have hpi:(PN:Int)<on:=by have:=HON.out;omega
  have HGT:=lH hgt
  have HG:=lH (And.intro g0 (And.intro g1 g2))
  clear HR hPx hx hset HPT hb2 hgt
  obtain ⟨RD,hRD⟩:∃ RD,zAL p.s t.key x ato afile=RD:=⟨_,rfl⟩
  have hDM:=fun h=>zKL (frm:=ato) (nm:=afile) HOK.out HWF.out HTM.out hPl h
  rw [hx0] at hDM
  rw [hRD] at HR2 hDM
  have HK4:Hid (Kid4 RD.1):=lH (by
   by_cases h:RD.2.2=0
   . obtain ⟨h1,h2,-⟩:=hDM h
     exact (Good.of_check h2 h1).kid4
   . rw [show RD.1=[] from by rw [<- hRD] at h ⊢;exact zKl h]
     intro x hx
     cases hx)
  have HDM:=lH hDM
  have HRD:=lH hRD
  clear hDM hRD
  have hb3:=bA0 w2 (.cells #[.string x.nm,.slice fo fn fc,.slice yo yn yc] 47)
  have b0:(w2.alloc (.cells #[.string x.nm,.slice fo fn fc,.slice yo yn yc] 47)).cell? ⟨w2.heap.size,0,none⟩=some (.string x.nm):=by simp
  have b1:(w2.alloc (.cells #[.string x.nm,.slice fo fn fc,.slice yo yn yc] 47)).cell? ⟨w2.heap.size,1,none⟩=some (.slice fo fn fc):=by simp
  have b2:(w2.alloc (.cells #[.string x.nm,.slice fo fn fc,.slice yo yn yc] 47)).cell? ⟨w2.heap.size,2,none⟩=some (.slice yo yn yc):=by simp
  have bl:w2.heap.size<(w2.alloc (.cells #[.string x.nm,.slice fo fn fc,.slice yo yn yc] 47)).heap.size:=by simp
  go_upto_region 22 with fail
  generalize w2.alloc (.cells #[.string x.nm,.slice fo fn fc,.slice yo yn yc] 47)=W3 at *
  replace c0:=Zc hb3 hpl c0
  replace c1:=Zc hb3 hpl c1
  replace t0:=Zc hb3 htl t0
  replace t1:=Zc hb3 htl t1
  replace t2:=Zc hb3 htl t2
  replace k0:=Zc hb3 kl k0
  replace k1:=Zc hb3 kl k1
  replace k2:=Zc hb3 kl k2
  replace k3:=Zc hb3 kl k3
  replace k4:=Zc hb3 kl k4
  replace k5:=Zc hb3 kl k5
  replace k6:=Zc hb3 kl k6
  replace p6:=Zm hb3 p6
  replace htf:=fun j=>Zf hb3 j htl (htf j)
  replace hpf:=fun j=>Zf hb3 j hpl (hpf j)
  replace hpl:=zMw hpl hb3.size
  replace htl:=zMw htl hb3.size
  replace kl:=zMw kl hb3.size
  have HST3:=lH (HST2.out.mono hb3)
  have HASK3:=lH (HASK2.out.mono hb3)
  have HSET3:=lH (HSET.out.mono hb3)
  have hbW3:Below W w W3:=hbW2.trans (hb3.mono (by have:=hbW2.size;omega))
  have HRX:=lH (HTK.out.sets x (by rw [<- HX.out];exact zMr _))
  have HS4:=lH (zAg p.s HOK.out.chk).1
  have HB3:=lH hb3
  clear hb3 p5 g0 g1 g2
  obtain ⟨T5,y,de⟩:=RD
  simp only at HR2 HK4 HDM
  have HDO:Hid (∀ u,Up W3 u->Calls Tryz.prog 36 #[.agg #[.slice so sn sc],.int .i64 t.key,.agg #[.string x.nm,.slice fo fn fc,.slice yo yn yc],.string ato,.string afile] u fun e w'=>∃ a5 n5 c5 f6 m6 d6 y6 ym yd,e=.returned (.tuple #[.agg #[.slice a5 n5 c5],.agg #[.string y.nm,.slice f6 m6 d6,.slice y6 ym yd],.int .i64 de])/\Below u.heap.size u w'/\Hid (Aft W3 u w' a5 n5 c5 T5/\zA1 u.heap.size w' f6 m6 d6 y6 ym yd y)):=lH fun u hu=>(zLJ u so fo yo sn sc fn fc yn yc p.s t.key x ato afile HSL.out (by have:=HSL.out;have:=HS4.out;omega) (HST3.out.sto.now.mono hu.bel) HWF.out HSC.out (HSET3.out.now.mono hu.bel) HRX.out.wf).mono fun e w' h=>by
   obtain ⟨a5,n5,c5,f6,m6,d6,y6,ym,yd,e1,hb,hl,hs,hc,hy⟩:=h
   rw [HRD.out] at e1 hl hs hy
   exact ⟨a5,n5,c5,f6,m6,d6,y6,ym,yd,e1,hb,lH ⟨Aft.of hu hb hl hs hc HK4.out,hy⟩⟩
  have HSK:Hid (∀ u,Bel W3 u->u.cell? ⟨pb,0,none⟩=some (.slice so sn sc)/\u.cell? ⟨tb,i*3,none⟩=some (.int .i64 t.key)/\u.cell? ⟨w2.heap.size,0,none⟩=some (.string x.nm)/\u.cell? ⟨w2.heap.size,1,none⟩=some (.slice fo fn fc)/\u.cell? ⟨w2.heap.size,2,none⟩=some (.slice yo yn yc)/\
   u.cell? ⟨w.heap.size,2,none⟩=some (.string afile)/\u.cell? ⟨w.heap.size,3,none⟩=some (.string ato)):=
   lH fun u h=>⟨Zc h hpl c0,Zc h htl t0,Zc h bl b0,Zc h bl b1,Zc h bl b2,Zc h kl k2,Zc h kl k3⟩
  have HC0:=lH c0
  have HC2:=lH t2
  have HT1:=lH t1
  have HP6':=lH p6
  clear c0 c1 t0 t1 t2 b0 b1 b2 k0 k1 k2 k3 k4 k5 k6 p6
  go_cut [16,17,18] (fun u1 u2 u3 wx=>∃ (q5 q6:Nat) (a5:Option Addr) (n5 c5:Nat) (f6:Option Addr) (m6 d6:Nat) (y6:Option Addr) (ym yd:Nat),u1=.pointer (some ⟨q5,0,none⟩)/\u2=.pointer (some ⟨q6,0,none⟩)/\u3=.int .i64 de/\wx.cell? ⟨q5,0,none⟩=some (.slice a5 n5 c5)/\wx.cell? ⟨q6,0,none⟩=some (.string y.nm)/\wx.cell? ⟨q6,1,none⟩=some (.slice f6 m6 d6)/\wx.cell? ⟨q6,2,none⟩=some (.slice y6 ym yd)/\
   Hid (Bel W3 wx/\(StoAt W3.heap.size wx a5 T5/\T5.length=n5/\Capd a5 n5 c5)/\zA1 W3.heap.size wx f6 m6 d6 y6 ym yd y/\W3.heap.size<=q5/\W3.heap.size<=q6))
  case first=>
   go_region_held3 (fun u=>u.cell? ⟨pb,0,none⟩=some (.slice so sn sc)/\u.cell? ⟨tb,i*3,none⟩=some (.int .i64 t.key)/\u.cell? ⟨w2.heap.size,0,none⟩=some (.string x.nm)/\u.cell? ⟨w2.heap.size,1,none⟩=some (.slice fo fn fc)/\u.cell? ⟨w2.heap.size,2,none⟩=some (.slice yo yn yc)/\
    u.cell? ⟨w.heap.size,2,none⟩=some (.string afile)/\u.cell? ⟨w.heap.size,3,none⟩=some (.string ato))
    ((refine HSK.out _ ?_;repeat (first | assumption | exact Bel.refl _ | refine Bel.dr ?_ | refine Bel.alloc ?_ _ | refine Bel.set ?_ (by first | exact zMs _ | (simp;done) | (simp;omega)) _)))
    (first
    | (go_at_call 36;refine (HDO.out _ (by repeat (first | exact Up.refl _ | refine Up.dr ?_ | refine Up.one ?_ | refine Up.three ?_))).mono ?_;rintro e w5 ⟨a5,n5,c5,f6,m6,d6,y6,ym,yd,rfl,hb5,ha5⟩;have bl5:Bel W3 w5:=Bel.call (by repeat (first | exact Bel.refl _ | refine Bel.dr ?_ | refine Bel.alloc ?_ _)) hb5;(first | (have qx:w5.heap[W3.heap.size]?=some (.cells #[.slice none 0 0] 24 (0,0)):=(hb5.block _ (by simp;omega)).trans (heap_alloc2_old W3 _ _);have qy:w5.heap[W3.heap.size+1]?=some (.cells #[.string ⟨#[]⟩,.slice none 0 0,.slice none 0 0] 47 (0,0)):=(hb5.block _ (by simp)).trans (heap_alloc2_new W3 _ _);have y0:=cell_of_one qx;have yf:=free_of_one qx;have yl:=zAb qx;clear qx;have z0:=zAa qy 0;have z1:=zAa qy 1;have z2:=zAa qy 2;simp only [cA1,cA2,cA3] at z0 z1 z2;have zf:=fun j=>zAc qy j;have zl:=zAb qy;clear qy) | (have qx:w5.heap[W3.heap.size+1]?=some (.cells #[.slice none 0 0] 24 (0,0)):=(hb5.block _ (by simp)).trans (heap_alloc2_new W3 _ _);have qy:w5.heap[W3.heap.size]?=some (.cells #[.string ⟨#[]⟩,.slice none 0 0,.slice none 0 0] 47 (0,0)):=(hb5.block _ (by simp;omega)).trans (heap_alloc2_old W3 _ _);have y0:=cell_of_one qx;have yf:=free_of_one qx;have yl:=zAb qx;clear qx;have z0:=zAa qy 0;have z1:=zAa qy 1;have z2:=zAa qy 2;simp only [cA1,cA2,cA3] at z0 z1 z2;have zf:=fun j=>zAc qy j;have zl:=zAb qy;clear qy) | (have qx:w5.heap[W3.heap.size]?=some (.cells #[.slice none 0 0] 24 (0,0)):=(hb5.block _ (by simp)).trans (heap_alloc_new W3 _);have y0:=cell_of_one qx;have yf:=free_of_one qx;have yl:=zAb qx;clear qx) | (have qy:w5.heap[W3.heap.size]?=some (.cells #[.string ⟨#[]⟩,.slice none 0 0,.slice none 0 0] 47 (0,0)):=(hb5.block _ (by simp)).trans (heap_alloc_new W3 _);have z0:=zAa qy 0;have z1:=zAa qy 1;have z2:=zAa qy 2;simp only [cA1,cA2,cA3] at z0 z1 z2;have zf:=fun j=>zAc qy j;have zl:=zAb qy;clear qy) | skip)))
   all_goals
    go_wp2_with fail
    go_meet
    refine ⟨_,_,a5,n5,c5,f6,m6,d6,y6,ym,yd,rfl,rfl,rfl,?_,?_,?_,?_,lH ⟨?_,ha5.out.1.done ?_,zA1.done ha5.out.2 ?_ ?_,?_,?_⟩⟩
    . first | (simp;done) | (go_simp;done)
    . first | (simp;done) | (go_simp;done)
    . first | (simp;done) | (go_simp;done)
    . first | (simp;done) | (go_simp;done)
    . repeat (first | assumption | exact Bel.refl _ | refine Bel.dr ?_ | refine Bel.alloc ?_ _ | refine Bel.set ?_ (by first | exact zMs _ | (simp;done) | (simp;omega) | (have:=zNB bl5;omega)) _)
    . repeat (first | exact Kept.refl _ _ | refine Kept.dr ?_ | refine Kept.alloc ?_ _ | refine Kept.set ?_ (by first | exact .inl (zMs _) | exact .inl (zOo _) | (refine .inr ⟨?_,?_⟩<;>(first | exact zMs _ | (simp;done) | (simp;omega) | omega))) _)
    . first
       | exact zMs _
       | (simp;done)
       | (simp;omega)
    . repeat (first | exact Kept.refl _ _ | refine Kept.dr ?_ | refine Kept.alloc ?_ _ | refine Kept.set ?_ (by first | exact .inl (zMs _) | exact .inl (zOo _) | (refine .inr ⟨?_,?_⟩<;>(first | exact zMs _ | (simp;done) | (simp;omega) | omega))) _)
    . first
       | exact zMs _
       | exact zNB bl5
       | (have:=zNB bl5;simp;omega)
       | (simp;done)
    . first
       | exact zMs _
       | exact zNB bl5
       | (have:=zNB bl5;simp;omega)
       | (simp;done)
  case rest=>
   obtain ⟨q5,q6,a5,n5,c5,f6,m6,d6,y6,ym,yd,rfl,rfl,rfl,d5,s0,s1,s2,hD⟩:=hcut
   obtain ⟨hbl,⟨hsa,hl5,hc5⟩,hsf,hq5,hq6⟩:=hD.out
   have p6:=(Below.block hbl _ (zAb HP6'.out)).trans HP6'.out
   have hbw2:=hbW3.trans (Below.mono hbl (by have:=hbW3.size;omega))
   by_cases hde:de=0
   . have hHR3:=HR2.out.trans (if_neg (fun h=>h hde))
     obtain ⟨hwf5,hchk5,hlen5⟩:=HDM.out hde
     subst hde
     have hF:=HST3.out.fresh (sn2:=n5) (sc2:=c5) hbl hsa HK4.out
     have HX5:=lH (((hsf.offs (bad:=Few W3 (fun b=>B b\/b=w.heap.size+1)) fun b hb=>hb.2.1)).step ((Kept.refl _ wc).set (j:=0) (.inr hF.hB) (.slice a5 n5 c5)) fun _ _ h=>h)
     have HLAY:=lH (zFK w0 (wc.setCell ⟨pb,0,none⟩ (.slice a5 n5 c5)) K W (Few W3 (fun b=>B b\/b=w.heap.size+1)) pb i a5 (some ⟨tb,0,none⟩) f6 y6 n5 c5 n cap m6 d6 ym yd T5 p.tens vs y t _ rfl hF HI.out (List.getElem?_eq_some_iff.1 HH.out.ht).2 (by omega) HTK.out.len HTK.out.rise HX5.out)
     generalize layP t y=L at *
     have HR3:=lH hHR3
     have c0:=Zc hbl hpl HC0.out
     have xf:=fun j=>Zf hbl j hpl (hpf j)
     have lpb:=zMw hpl (zNB hbl)
     have hq6p:q6≠pb:=by omega
     have hkb:∀ b,b≠pb->(wc.setCell ⟨pb,0,none⟩ (.slice a5 n5 c5)).heap[b]?=wc.heap[b]?:=fun b hb=>zMu _ _ _ _ hb
     have r0:=(zMB (a:=⟨q6,0,none⟩) (hkb q6 hq6p)).trans s0
     have r1:=(zMB (a:=⟨q6,1,none⟩) (hkb q6 hq6p)).trans s1
     have r2:=(zMB (a:=⟨q6,2,none⟩) (hkb q6 hq6p)).trans s2
     have HP6w:=lH ((hkb (w.heap.size+1) (by omega)).trans p6)
     have HBw:Hid (Below W w (wc.setCell ⟨pb,0,none⟩ (.slice a5 n5 c5))):=lH (hbw2.setCell (p:=⟨pb,0,none⟩) HH.out.wle _)
     have HFA:Hid (∀ q o,a5=some ⟨q,o,none⟩->T5≠[]->Z<=q):=lH fun q o e h=>by
      have h1:=hsa.2 q o e h
      have h2:=hbW3.size
      have h3:=HH.out.zle
      omega
     have HL5:=lH (show T5.length=n5/\Capd a5 n5 c5 from ⟨hl5,hc5⟩)
     clear hHR3 hF hbl hsa hl5 hc5 hsf hD p6 hbw2 HSK HDO hwf5 hchk5 hlen5 HK4 HDM hkb s0 s1 s2 HX5
     go_upto_region 26 with fail
     generalize wc.setCell ⟨pb,0,none⟩ (.slice a5 n5 c5)=W6 at *
     clear c0 xf d5
     go_wp2_with fail
     refine HLAY.out.mono ?_
     rintro e w7 ⟨rfl,hbW7,hfr,hend⟩
     have p6:=(hfr _ _ _ _ HP6w.out (by decide) (by decide)).trans HP6w.out
     have hbw7:Below W w w7:=HBw.out.trans hbW7
     obtain ⟨z6,zb,-⟩:=zAS p6 (.int .i64 0) (.int .i64 0) (.slice none 0 0) (.slice none 0 0)
     have hbz:=zb _ _ hbw7 (show W<=w.heap.size+1 by omega)
     unfold putA at z6 hbz
     have v0:=zAa z6 0
     have v1:=zAa z6 1
     have v2:=zAa z6 2
     have v3:=zAa z6 3
     have y0:=zAa p6 0
     have y1:=zAa p6 1
     have y2:=zAa p6 2
     have y3:=zAa p6 3
     simp only [cA1,cA2,cA3] at v0 v1 v2 v3 y0 y1 y2 y3
     have yf:=fun j=>zAc p6 j
     have yl:=zAb p6
     clear zb z6
     have hth:=zFx p6
     unfold putA at hth
     have HTH:=lH hth
     clear hth r0 r1 r2 hfr HLAY
     go_wp2_with fail
     refine bodyPost_ret (v:=.tuple #[.agg #[.int .i64 0,.int .i64 0,.slice none 0 0,.slice none 0 0],.int .i64 L.2]) (by simp [results,Tryz.results11,go_sem,v0,v1,v2,v3]) rfl ?_
     rw [HR3.out]
     refine ⟨⟨none,0,0,none,0,0,rfl,AnwIn.none _ 0 0⟩,hbz,fun h0=>?_⟩
     obtain ⟨B',vs',g1,-,-⟩:=hend h0
     exact ⟨B',a5,n5,c5,vs',g1.mono HTH.out,HFA.out,HL5.out.1,HL5.out.2⟩
   . have HR3:Hid (r=(p.s,t,noAns,de)):=lH (HR2.out.trans (if_pos hde))
     have he1:(de != 0)=true:=by rw [bne_iff_ne];exact hde
     have HDE:=lH hde
     obtain ⟨z6,zb,-⟩:=zAS p6 (.int .i64 0) (.int .i64 0) (.slice none 0 0) (.slice none 0 0)
     have hbz:=zb _ _ hbw2 (show W<=w.heap.size+1 by omega)
     unfold putA at z6 hbz
     have v0:=zAa z6 0
     have v1:=zAa z6 1
     have v2:=zAa z6 2
     have v3:=zAa z6 3
     have y0:=zAa p6 0
     have y1:=zAa p6 1
     have y2:=zAa p6 2
     have y3:=zAa p6 3
     simp only [cA1,cA2,cA3] at v0 v1 v2 v3 y0 y1 y2 y3
     have yf:=fun j=>zAc p6 j
     have yl:=zAb p6
     clear zb z6
     clear HSK HDO d5 s0 s1 s2 hD hbl hsa hl5 hc5 hsf p6
     go_wp2_with fail
     refine bodyPost_ret (v:=.tuple #[.agg #[.int .i64 0,.int .i64 0,.slice none 0 0,.slice none 0 0],.int .i64 de]) (by simp [results,Tryz.results11,go_sem,v0,v1,v2,v3]) rfl ?_
     rw [HR3.out]
     exact ⟨⟨none,0,0,none,0,0,rfl,AnwIn.none _ 0 0⟩,hbz,fun h=>absurd h HDE.out⟩
end Go.Proofs.YtfmgdjgedhnmeaaGreat
