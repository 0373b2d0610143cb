/- pool.do: Uses; Read and List. -/
import Derived.Deep.RegionWith
import Derived.Deep.RegionHeld3
import Derived.StillTail
import Derived.StillTactics
import Derived.Test.YtfmgdjgedhnmeaaGreatPdoA
namespace Go.Proofs.YtfmgdjgedhnmeaaGreat
open Go.RowKit
set_option linter.unusedVariables false
set_option linter.unusedSimpArgs false
set_option maxRecDepth 100000 in
set_option maxHeartbeats 8000000 in
theorem pdo_uses (w0 w:World) (K W Z:Nat) (B:Nat->Prop) (pb i:Nat) (so:Option Addr) (sn sc:Nat) (ao:Option Addr) (n cap:Nat) (p:PoolV) (vs:List Tnv) (t:TenV) (ba:Option Addr) (bn bc:Nat) (a:AskV) (r:List Blk×TenV×AnsV×Int) (h:DoIn w0 w K W Z B pb i so sn sc ao n cap p vs t ba bn bc a) (hr:doT p.s t a=r) (hk:a.kind=13) :
 Calls Tryz.prog 11 #[.pointer (some ⟨pb,0,none⟩),.int .i64 i,.agg #[.int .i64 a.kind,.string a.sname,.string a.file,.string a.dest,.int .i64 a.at_,.int .i64 a.n,.slice ba bn bc]] w fun e w'=>zBB e w0 w w' K W Z pb ao n cap p i r:=by
 obtain ⟨kind,aset,afile,ato,aat,an,abytes⟩:=a
 simp only at hk
 subst hk
 have HR:Hid (r=(p.s,t,⟨0,(reachR p.s (rootsT t)).1.length,[],[]⟩,0)):=lH (by rw [<- hr];exact zIZ rfl)
 clear hr
 obtain ⟨hb0,p5,p6,hz2⟩:=zCz w (.cells #[.int .i64 13,.string aset,.string afile,.string ato,.int .i64 aat,.int .i64 an,.slice ba bn bc] 30) (.cells #[.int .i64 0,.int .i64 0,.slice none 0 0,.slice none 0 0] 34)
 have hst:=h.st.widen (B2:=fun b=>B b\/b=w.heap.size+1) hb0 (fun b h=>.inl h) (fun b hl h=>h.elim id fun e=>absurd hl (by omega))
 obtain ⟨tb,oo,on,oc,rfl,hon,hvs,c0,c1,t0,t1,t2,hTI,htW,htl,hpl,hpt,htf,hpf,hin⟩:=hst.at h.ht
 have hwp:=zAb h.st.box
 have htw:tb<w.heap.size:=by obtain ⟨tb',-,-,-,e,-,-,-,-,-,-,-,-,-,h9,-⟩:=h.st.at h.ht;simp only [zMz,zME,and_true] at e;omega
 have k0:=zAa p5 0
 have k1:=zAa p5 1
 have k2:=zAa p5 2
 have k3:=zAa p5 3
 have k4:=zAa p5 4
 have k5:=zAa p5 5
 have k6:=zAa p5 6
 simp only [cA1,cA2,cA3] at k0 k1 k2 k3 k4 k5 k6
 have kl:=zAb p5
 have HST:=lH hst
 have HTI:=lH hTI
 have HI:=lH h.hi
 have HTM:=lH (zM6 h.ht)
 have HTK:=lH (h.ok.ten t HTM.out)
 have HFAR:=lH h.far
 have HSL:=lH h.slen
 have HSC:=lH h.scap
 have HASK:=lH (h.ask.mono hb0)
 have HOK:=lH h.ok
 have HWF:=lH h.wf
 have HH:=lH h
 have HON:=lH hon
 have HVS:=lH hvs
 have HP5:=lH p5
 have HP6:=lH p6
 have HBW:=lH hb0
 have HZ2:=lH hz2
 have hws:=h.st.hw
 have HWS:=lH hws
 have HQ:Hid (pb≠w.heap.size+1/\K<=w.heap.size+1):=lH ⟨by omega,by have:=h.st.ten.kle;omega⟩
 have hn3:n<=3:=by have:=h.st.ten.len;have:=h.ok.len;omega
 have hon3:on<=3:=by have:=HTK.out.len;omega
 clear h hst hTI hon hvs p5 p6 hb0 hz2
 go_enter Tryz.func11,Tryz.ntmps11
 go_upto_region 1 with fail
 generalize (w.alloc (.cells #[.int .i64 13,.string aset,.string afile,.string ato,.int .i64 aat,.int .i64 an,.slice ba bn bc] 30)).alloc (.cells #[.int .i64 0,.int .i64 0,.slice none 0 0,.slice none 0 0] 34)=W1 at *
 have hs400:=(zAg p.s HOK.out.chk).1
 have hI64:∀ a∈rootsT t,I64 a:=fun a ha=>by
  have:=HTK.out.live a ha
  unfold I64;omega
 have hRL:=zC6 HTK.out
 have HTR:=lH (fun u (hb:Below W1.heap.size W1 u)=>zD9 u oo on oc t (HTI.out.mono hb) (fun x hx=>(HTK.out.sets x hx).small) HTK.out.len)
 have HRE:=lH (fun u ro m rc (hb:Below W1.heap.size W1 u) (hm:(rootsT t).length=m) (hr:Row .i64 u ro (rootsT t))=>zFq u so ro sn sc m rc p.s (rootsT t) HSL.out (by have:=HSL.out;omega) (HST.out.sto.now.mono hb) HWF.out hm (by omega) hr hI64)
 clear hI64 hRL
 go_upto_region 5 with fail
 go_cut [9] (fun u wx=>Own .i64 3 W1.heap.size wx u (reachR p.s (rootsT t)).1/\Below W1.heap.size W1 wx)
 case first=>
  go_region_with (first
   | (go_at_call 18;refine (HTR.out _ (zMy _ _).drew).mono ?_;rintro e w6 ⟨v6,rfl,ho6,hb6⟩;obtain ⟨ro6,rc6,rfl,hl6,_,hr6,hc6⟩:=ho6.shape';have f0:=Zc hb6 hpl c0;have f1:=Zc hb6 htl t0;have f2:=Zc hb6 htl t1;have f3:=Zc hb6 htl t2;have l3:=zMw hpl hb6.size;have l4:=zMw htl hb6.size)
   | (go_at_call 17;refine (HRE.out _ _ _ _ ((zMy _ _).drew.trans hb6) rfl hr6).mono ?_;rintro e w7 ⟨v7,rfl,ho7,hb7⟩;have hb75:=(zMy _ _).drew.trans (hb6.trans (hb7.mono hb6.size))))
  all_goals (go_wp2_with fail;go_meet;exact ⟨ho7.weaken hb6.size,hb75⟩)
 case rest=>
  obtain ⟨hL,hb7⟩:=hcut
  generalize (reachR p.s (rootsT t)).1=L at *
  obtain ⟨lo,lc,rfl,hlc1,_,hrL,hlc2⟩:=hL.shape'
  have p6:=(hb7.block _ (zAb HP6.out)).trans HP6.out
  have hbw2:=(HBW.out.mono HWS.out).trans (hb7.mono (by have:=HZ2.out;omega))
  have HB7:=lH hb7
  obtain ⟨z6,zb,-⟩:=zAS p6 (.int .i64 0) (.int .i64 L.length) (.slice none 0 0) (.slice none 0 0)
  have hbz:=zb _ _ hbw2 (show W<=w.heap.size+1 by omega)
  unfold putA at z6 hbz
  have v0:=zAa z6 0
  have v1:=zAa z6 1
  have v2:=zAa z6 2
  have v3:=zAa z6 3
  have y0:=zAa p6 0
  have y1:=zAa p6 1
  have y2:=zAa p6 2
  have y3:=zAa p6 3
  simp only [cA1,cA2,cA3] at v0 v1 v2 v3 y0 y1 y2 y3
  have yf:=fun j=>zAc p6 j
  have yl:=zAb p6
  clear zb z6
  clear c0 c1 t0 t1 t2 hL hrL HRE HTR hb7
  go_wp2_with fail
  refine bodyPost_ret (v:=.tuple #[.agg #[.int .i64 0,.int .i64 L.length,.slice none 0 0,.slice none 0 0],.int .i64 0]) (by simp [results,Tryz.results11,go_sem,v0,v1,v2,v3]) rfl ?_
  rw [HR.out]
  exact zBB.same (r:=(⟨0,L.length,[],[]⟩,0)) ((HST.out.mono HB7.out).ans p6 HQ.out.1 HQ.out.2 (.inr rfl) _ _ _ _) HH.out.ht HFAR.out HSL.out HSC.out hbz ⟨none,0,0,none,0,0,rfl,AnwIn.none _ 0 _⟩
set_option maxRecDepth 100000 in
set_option maxHeartbeats 8000000 in
theorem zJA (w0 w:World) (K W Z:Nat) (B:Nat->Prop) (pb i:Nat) (so:Option Addr) (sn sc:Nat) (ao:Option Addr) (n cap:Nat) (p:PoolV) (vs:List Tnv) (t:TenV) (ba:Option Addr) (bn bc:Nat) (a:AskV) (r:List Blk×TenV×AnsV×Int) (h:DoIn w0 w K W Z B pb i so sn sc ao n cap p vs t ba bn bc a) (hr:doT p.s t a=r) (hk:a.kind=11) :
 Calls Tryz.prog 11 #[.pointer (some ⟨pb,0,none⟩),.int .i64 i,.agg #[.int .i64 a.kind,.string a.sname,.string a.file,.string a.dest,.int .i64 a.at_,.int .i64 a.n,.slice ba bn bc]] w fun e w'=>zBB e w0 w w' K W Z pb ao n cap p i r:=by
 obtain ⟨kind,aset,afile,ato,aat,an,abytes⟩:=a
 simp only at hk
 subst hk
 have HR:Hid (r=if placeB (t.sets.map SetV.nm) aset=false then (p.s,t,noAns,5) else (p.s,t,(lookR p.s t.key (setAt t.sets (placeN (t.sets.map SetV.nm) aset)) ⟨11,aset,afile,ato,aat,an,abytes⟩).1,(lookR p.s t.key (setAt t.sets (placeN (t.sets.map SetV.nm) aset)) ⟨11,aset,afile,ato,aat,an,abytes⟩).2)):=lH (by rw [<- hr];exact zJb (by simp))
 clear hr
 obtain ⟨hb0,p5,p6,hz2⟩:=zCz w (.cells #[.int .i64 11,.string aset,.string afile,.string ato,.int .i64 aat,.int .i64 an,.slice ba bn bc] 30) (.cells #[.int .i64 0,.int .i64 0,.slice none 0 0,.slice none 0 0] 34)
 have hst:=h.st.widen (B2:=fun b=>B b\/b=w.heap.size+1) hb0 (fun b h=>.inl h) (fun b hl h=>h.elim id fun e=>absurd hl (by omega))
 obtain ⟨tb,oo,on,oc,rfl,hon,hvs,c0,c1,t0,t1,t2,hTI,htW,htl,hpl,hpt,htf,hpf,hin⟩:=hst.at h.ht
 have hwp:=zAb h.st.box
 have htw:tb<w.heap.size:=by obtain ⟨tb',-,-,-,e,-,-,-,-,-,-,-,-,-,h9,-⟩:=h.st.at h.ht;simp only [zMz,zME,and_true] at e;omega
 have k0:=zAa p5 0
 have k1:=zAa p5 1
 have k2:=zAa p5 2
 have k3:=zAa p5 3
 have k4:=zAa p5 4
 have k5:=zAa p5 5
 have k6:=zAa p5 6
 simp only [cA1,cA2,cA3] at k0 k1 k2 k3 k4 k5 k6
 have kl:=zAb p5
 have HST:=lH hst
 have HTI:=lH hTI
 have HI:=lH h.hi
 have HTM:=lH (zM6 h.ht)
 have HTK:=lH (h.ok.ten t HTM.out)
 have HFAR:=lH h.far
 have HSL:=lH h.slen
 have HSC:=lH h.scap
 have HASK:=lH (h.ask.mono hb0)
 have HOK:=lH h.ok
 have HWF:=lH h.wf
 have HH:=lH h
 have HON:=lH hon
 have HVS:=lH hvs
 have HP5:=lH p5
 have HP6:=lH p6
 have HBW:=lH hb0
 have HZ2:=lH hz2
 have hws:=h.st.hw
 have HWS:=lH hws
 have HQ:Hid (pb≠w.heap.size+1/\K<=w.heap.size+1):=lH ⟨by omega,by have:=h.st.ten.kle;omega⟩
 have hn3:n<=3:=by have:=h.st.ten.len;have:=h.ok.len;omega
 have hon3:on<=3:=by have:=HTK.out.len;omega
 clear h hst hTI hon hvs p5 p6 hb0 hz2
 go_enter Tryz.func11,Tryz.ntmps11
 go_upto_region 1 with fail
 generalize (w.alloc (.cells #[.int .i64 11,.string aset,.string afile,.string ato,.int .i64 aat,.int .i64 an,.slice ba bn bc] 30)).alloc (.cells #[.int .i64 0,.int .i64 0,.slice none 0 0,.slice none 0 0] 34)=W1 at *
 go_upto_region 7 with fail
 have HPL:=lH (zBg W1.drew t.key t.quota oo on oc t aset (HTI.out.mono (zMy _ _).drew) (by omega) HTK.out.rise)
 have HPT:=lH (fun h=>zFX (t:=t) (nm:=aset) h)
 obtain ⟨PN,hPN⟩:∃ PN,placeN (t.sets.map SetV.nm) aset=PN:=⟨_,rfl⟩
 obtain ⟨PB,hPB⟩:∃ PB,placeB (t.sets.map SetV.nm) aset=PB:=⟨_,rfl⟩
 rw [hPN,hPB] at HPL HPT HR
 clear hPN hPB
 refine zA7 5 _ rfl (by kernel_rfl) (by kernel_rfl) ?_
 simp only [zND,zNH,zNM,zN9]
 repeat still_step
 refine wpStill_nil ?_
 intro K hK
 go_simp
 refine HPL.out.mono ?_
 rintro e w2 ⟨rfl,hb2⟩
 have hb2:=zBL hb2
 refine hK _ _ ?_
 clear hK K HPL
 repeat still_step
 refine wpStill_nil ?_
 have hbW2:Below W w w2:=(HBW.out.mono HWS.out).trans (hb2.mono (by have:=HZ2.out;omega))
 have HST2:=lH (HST.out.mono hb2)
 have HTI2:=lH (HTI.out.mono hb2)
 have HASK2:=lH (HASK.out.mono hb2)
 have p5:=(hb2.block _ (zAb HP5.out)).trans HP5.out
 have p6:=(hb2.block _ (zAb HP6.out)).trans HP6.out
 have c0:=Zc hb2 hpl c0
 have c1:=Zc hb2 hpl c1
 have t0:=Zc hb2 htl t0
 have t1:=Zc hb2 htl t1
 have t2:=Zc hb2 htl t2
 have htf:=fun j=>Zf hb2 j htl (htf j)
 have hpf:=fun j=>Zf hb2 j hpl (hpf j)
 have hpl:=zMw hpl hb2.size
 have htl:=zMw htl hb2.size
 have HB2:=lH hb2
 clear k0 k1 k2 k3 k4 k5 k6 kl
 have k0:=zAa p5 0
 have k1:=zAa p5 1
 have k2:=zAa p5 2
 have k3:=zAa p5 3
 have k4:=zAa p5 4
 have k5:=zAa p5 5
 have k6:=zAa p5 6
 simp only [cA1,cA2,cA3] at k0 k1 k2 k3 k4 k5 k6
 have kl:=zAb p5
 cases PB with
 | false=>
  have HR2:Hid (r=(p.s,t,noAns,5)):=lH (by rw [HR.out,if_pos rfl])
  clear HPT hb2
  obtain ⟨z6,zb,-⟩:=zAS p6 (.int .i64 0) (.int .i64 0) (.slice none 0 0) (.slice none 0 0)
  have hbz:=zb _ _ hbW2 (show W<=w.heap.size+1 by omega)
  unfold putA at z6 hbz
  have v0:=zAa z6 0
  have v1:=zAa z6 1
  have v2:=zAa z6 2
  have v3:=zAa z6 3
  have y0:=zAa p6 0
  have y1:=zAa p6 1
  have y2:=zAa p6 2
  have y3:=zAa p6 3
  simp only [cA1,cA2,cA3] at v0 v1 v2 v3 y0 y1 y2 y3
  have yf:=fun j=>zAc p6 j
  have yl:=zAb p6
  clear zb z6
  go_wp2_with fail
  refine bodyPost_ret (v:=.tuple #[.agg #[.int .i64 0,.int .i64 0,.slice none 0 0,.slice none 0 0],.int .i64 5]) (by simp [results,Tryz.results11,go_sem,v0,v1,v2,v3]) rfl ?_
  rw [HR2.out]
  exact zBB.same (r:=(noAns,5)) (HST2.out.ans p6 HQ.out.1 HQ.out.2 (.inr rfl) _ _ _ _) HH.out.ht HFAR.out HSL.out HSC.out hbz ⟨none,0,0,none,0,0,rfl,AnwIn.none _ 0 0⟩
 | true=>
  obtain ⟨hPl,hPx⟩:=HPT.out (by simp)
  obtain ⟨x,hx⟩:∃ x,t.sets[PN]=x:=⟨_,rfl⟩
  obtain ⟨g,fo,fn,fc,yo,yn,yc,rfl,g0,g1,g2,hset,hgW,hgl,hgB,hgf,hgp,hgt⟩:=HST2.out.set_at HH.out.ht HVS.out hPl
  have HR2:=lH (HR.out.trans (if_neg (by simp)))
  rw [hPx,hx] at HR2
  rw [hx] at g0 hset
  have hx0:=hx
  have HX:=lH hx
  have HSET:=lH hset
  have HPL:=lH hPl
  have hpi:(PN:Int)<on:=by have:=HON.out;omega
  have HGT:=lH hgt
  have HG:=lH (And.intro g0 (And.intro g1 g2))
  clear HR hPx hx hset HPT hb2 hgt
  obtain ⟨RL,hRL⟩:∃ RL,lookR p.s t.key x ⟨11,aset,afile,ato,aat,an,abytes⟩=RL:=⟨_,rfl⟩
  rw [hRL] at HR2
  have HRL:=lH hRL
  clear hRL
  have hb3:=bA0 w2 (.cells #[.string x.nm,.slice fo fn fc,.slice yo yn yc] 47)
  have b0:(w2.alloc (.cells #[.string x.nm,.slice fo fn fc,.slice yo yn yc] 47)).cell? ⟨w2.heap.size,0,none⟩=some (.string x.nm):=by simp
  have b1:(w2.alloc (.cells #[.string x.nm,.slice fo fn fc,.slice yo yn yc] 47)).cell? ⟨w2.heap.size,1,none⟩=some (.slice fo fn fc):=by simp
  have b2:(w2.alloc (.cells #[.string x.nm,.slice fo fn fc,.slice yo yn yc] 47)).cell? ⟨w2.heap.size,2,none⟩=some (.slice yo yn yc):=by simp
  have bl:w2.heap.size<(w2.alloc (.cells #[.string x.nm,.slice fo fn fc,.slice yo yn yc] 47)).heap.size:=by simp
  go_upto_region 14 with fail
  generalize w2.alloc (.cells #[.string x.nm,.slice fo fn fc,.slice yo yn yc] 47)=W3 at *
  replace c0:=Zc hb3 hpl c0
  replace c1:=Zc hb3 hpl c1
  replace t0:=Zc hb3 htl t0
  replace t1:=Zc hb3 htl t1
  replace t2:=Zc hb3 htl t2
  replace k0:=Zc hb3 kl k0
  replace k1:=Zc hb3 kl k1
  replace k2:=Zc hb3 kl k2
  replace k3:=Zc hb3 kl k3
  replace k4:=Zc hb3 kl k4
  replace k5:=Zc hb3 kl k5
  replace k6:=Zc hb3 kl k6
  replace p6:=Zm hb3 p6
  replace htf:=fun j=>Zf hb3 j htl (htf j)
  replace hpf:=fun j=>Zf hb3 j hpl (hpf j)
  replace hpl:=zMw hpl hb3.size
  replace htl:=zMw htl hb3.size
  replace kl:=zMw kl hb3.size
  have HST3:=lH (HST2.out.mono hb3)
  have HASK3:=lH (HASK2.out.mono hb3)
  have HSET3:=lH (HSET.out.mono hb3)
  have hbW3:Below W w W3:=hbW2.trans (hb3.mono (by have:=hbW2.size;omega))
  have HRX:=lH (HTK.out.sets x (by rw [<- HX.out];exact zMr _))
  have HS4:=lH (zAg p.s HOK.out.chk).1
  have HB3:=lH hb3
  clear hb3 p5 g0 g1 g2
  obtain ⟨⟨le,ln,lnames,lbytes⟩,lc⟩:=RL
  have HLOOK:Hid (∀ u,Bel W3 u->Calls Tryz.prog 33 #[.agg #[.slice so sn sc],.int .i64 t.key,.agg #[.string x.nm,.slice fo fn fc,.slice yo yn yc],.agg #[.int .i64 11,.string aset,.string afile,.string ato,.int .i64 aat,.int .i64 an,.slice ba bn bc]] u fun e w'=>∃ na nn nc a2 n2 c2,e=.returned (.tuple #[.agg #[.int .i64 le,.int .i64 ln,.slice na nn nc,.slice a2 n2 c2],.int .i64 lc])/\Below u.heap.size u w'/\Hid (AnwIn w' na nn nc a2 n2 c2 ⟨le,ln,lnames,lbytes⟩)):=lH fun u hu=>(zI8 u so fo yo ba sn sc fn fc yn yc bn bc p.s t.key x ⟨11,aset,afile,ato,aat,an,abytes⟩ HSL.out (by have:=HSL.out;have:=HS4.out;omega) (HST3.out.sto.now.mono hu) HWF.out HSC.out (HSET3.out.now.mono hu) HRX.out.wf).mono fun e w' h=>by
   obtain ⟨na,nn,nc,a2,n2,c2,e1,hb,h1,h2,h3,h4,h5,h6⟩:=h
   rw [HRL.out] at e1 h1 h2 h3 h4
   exact ⟨na,nn,nc,a2,n2,c2,e1,hb,lH ⟨h1,h2,h3,h4,h5,h6⟩⟩
  have HSK:Hid (∀ u,Kept (fun b=>b=w.heap.size+1) W3 u->u.cell? ⟨pb,0,none⟩=some (.slice so sn sc)/\u.cell? ⟨tb,i*3,none⟩=some (.int .i64 t.key)/\u.cell? ⟨w2.heap.size,0,none⟩=some (.string x.nm)/\u.cell? ⟨w2.heap.size,1,none⟩=some (.slice fo fn fc)/\u.cell? ⟨w2.heap.size,2,none⟩=some (.slice yo yn yc)/\
   u.cell? ⟨w.heap.size,0,none⟩=some (.int .i64 11)/\u.cell? ⟨w.heap.size,1,none⟩=some (.string aset)/\u.cell? ⟨w.heap.size,2,none⟩=some (.string afile)/\u.cell? ⟨w.heap.size,3,none⟩=some (.string ato)/\u.cell? ⟨w.heap.size,4,none⟩=some (.int .i64 aat)/\u.cell? ⟨w.heap.size,5,none⟩=some (.int .i64 an)/\u.cell? ⟨w.heap.size,6,none⟩=some (.slice ba bn bc)):=
   lH fun u h=>⟨(h.cell hpl (by omega)).trans c0,(h.cell htl (by omega)).trans t0,(h.cell bl (by have:=HZ2.out;have:=HB2.out.size;omega)).trans b0,(h.cell bl (by have:=HZ2.out;have:=HB2.out.size;omega)).trans b1,(h.cell bl (by have:=HZ2.out;have:=HB2.out.size;omega)).trans b2,(h.cell kl (by omega)).trans k0,(h.cell kl (by omega)).trans k1,(h.cell kl (by omega)).trans k2,(h.cell kl (by omega)).trans k3,(h.cell kl (by omega)).trans k4,(h.cell kl (by omega)).trans k5,(h.cell kl (by omega)).trans k6⟩
  have lp6:=zAb p6
  have HP7:=lH p6
  clear c0 c1 t0 t1 t2 b0 b1 b2 k0 k1 k2 k3 k4 k5 k6 p6
  go_cut [7] (fun u wx=>∃ (na:Option Addr) (nn nc:Nat) (a2:Option Addr) (n2 c2:Nat),u=.int .i64 lc/\wx.cell? ⟨w.heap.size+1,0,none⟩=some (.int .i64 le)/\wx.cell? ⟨w.heap.size+1,1,none⟩=some (.int .i64 ln)/\wx.cell? ⟨w.heap.size+1,2,none⟩=some (.slice na nn nc)/\wx.cell? ⟨w.heap.size+1,3,none⟩=some (.slice a2 n2 c2)/\
   Hid (AnwIn wx na nn nc a2 n2 c2 ⟨le,ln,lnames,lbytes⟩/\Below W w wx/\zAz w0 wx K W (fun b=>B b\/b=w.heap.size+1) pb so sn sc (some ⟨tb,0,none⟩) n cap p.s p.tens vs))
  case first=>
   go_region_held3 (fun u=>u.cell? ⟨pb,0,none⟩=some (.slice so sn sc)/\u.cell? ⟨tb,i*3,none⟩=some (.int .i64 t.key)/\u.cell? ⟨w2.heap.size,0,none⟩=some (.string x.nm)/\u.cell? ⟨w2.heap.size,1,none⟩=some (.slice fo fn fc)/\u.cell? ⟨w2.heap.size,2,none⟩=some (.slice yo yn yc)/\
    u.cell? ⟨w.heap.size,0,none⟩=some (.int .i64 11)/\u.cell? ⟨w.heap.size,1,none⟩=some (.string aset)/\u.cell? ⟨w.heap.size,2,none⟩=some (.string afile)/\u.cell? ⟨w.heap.size,3,none⟩=some (.string ato)/\u.cell? ⟨w.heap.size,4,none⟩=some (.int .i64 aat)/\u.cell? ⟨w.heap.size,5,none⟩=some (.int .i64 an)/\u.cell? ⟨w.heap.size,6,none⟩=some (.slice ba bn bc))
    ((refine HSK.out _ ?_;repeat (first | assumption | exact Kept.refl _ _ | refine Kept.dr ?_ | refine Kept.set (bad:=fun b=>b=w.heap.size+1) ?_ (.inr rfl) _)))
    (first
    | (go_at_call 33;refine (HLOOK.out _ (Bel.drew _)).mono ?_;rintro e w4 ⟨na,nn,nc,a2,n2,c2,rfl,hb4,ha4⟩;have kk4:Kept (fun b=>b=w.heap.size+1) W3 w4:=(Kept.drew _ _).call hb4;have p7:=(hb4.block _ lp6).trans HP7.out;have y0:=zAa p7 0;have y1:=zAa p7 1;have y2:=zAa p7 2;have y3:=zAa p7 3;simp only [cA1,cA2,cA3] at y0 y1 y2 y3;have yf:=fun j=>zAc p7 j;have yl:=zAb p7))
   all_goals
    go_wp2_with fail
    go_meet
    have hb34:Below W3.heap.size W3 w4:=zBL hb4
    obtain ⟨z6,zb,-⟩:=zAS p7 (.int .i64 le) (.int .i64 ln) (.slice na nn nc) (.slice a2 n2 c2)
    have hbz:=zb _ _ (hbW3.trans (hb34.mono (by have:=hbW3.size;omega))) (show W<=w.heap.size+1 by omega)
    have v0:=zAa z6 0
    have v1:=zAa z6 1
    have v2:=zAa z6 2
    have v3:=zAa z6 3
    simp only [cA1,cA2,cA3] at v0 v1 v2 v3
    exact ⟨na,nn,nc,a2,n2,c2,rfl,v0,v1,v2,v3,lH ⟨ha4.out.put p7 _ _ _ _,hbz,(HST3.out.mono hb34).ans p7 HQ.out.1 HQ.out.2 (.inr rfl) _ _ _ _⟩⟩
  case rest=>
   obtain ⟨na,nn,nc,a2,n2,c2,rfl,v0,v1,v2,v3,hL⟩:=hcut
   clear HSK HLOOK
   go_wp2_with fail
   refine bodyPost_ret (v:=.tuple #[.agg #[.int .i64 le,.int .i64 ln,.slice na nn nc,.slice a2 n2 c2],.int .i64 lc]) (by simp [results,Tryz.results11,go_sem,v0,v1,v2,v3]) rfl ?_
   rw [HR2.out]
   exact zBB.same (r:=(⟨le,ln,lnames,lbytes⟩,lc)) hL.out.2.2 HH.out.ht HFAR.out HSL.out HSC.out hL.out.2.1 ⟨na,nn,nc,a2,n2,c2,rfl,hL.out.1⟩
set_option maxRecDepth 100000 in
set_option maxHeartbeats 8000000 in
theorem zKj (w0 w:World) (K W Z:Nat) (B:Nat->Prop) (pb i:Nat) (so:Option Addr) (sn sc:Nat) (ao:Option Addr) (n cap:Nat) (p:PoolV) (vs:List Tnv) (t:TenV) (ba:Option Addr) (bn bc:Nat) (a:AskV) (r:List Blk×TenV×AnsV×Int) (h:DoIn w0 w K W Z B pb i so sn sc ao n cap p vs t ba bn bc a) (hr:doT p.s t a=r) (hk:a.kind=12) :
 Calls Tryz.prog 11 #[.pointer (some ⟨pb,0,none⟩),.int .i64 i,.agg #[.int .i64 a.kind,.string a.sname,.string a.file,.string a.dest,.int .i64 a.at_,.int .i64 a.n,.slice ba bn bc]] w fun e w'=>zBB e w0 w w' K W Z pb ao n cap p i r:=by
 obtain ⟨kind,aset,afile,ato,aat,an,abytes⟩:=a
 simp only at hk
 subst hk
 have HR:Hid (r=if placeB (t.sets.map SetV.nm) aset=false then (p.s,t,noAns,5) else (p.s,t,(lookR p.s t.key (setAt t.sets (placeN (t.sets.map SetV.nm) aset)) ⟨12,aset,afile,ato,aat,an,abytes⟩).1,(lookR p.s t.key (setAt t.sets (placeN (t.sets.map SetV.nm) aset)) ⟨12,aset,afile,ato,aat,an,abytes⟩).2)):=lH (by rw [<- hr];exact zJb (by simp))
 clear hr
 obtain ⟨hb0,p5,p6,hz2⟩:=zCz w (.cells #[.int .i64 12,.string aset,.string afile,.string ato,.int .i64 aat,.int .i64 an,.slice ba bn bc] 30) (.cells #[.int .i64 0,.int .i64 0,.slice none 0 0,.slice none 0 0] 34)
 have hst:=h.st.widen (B2:=fun b=>B b\/b=w.heap.size+1) hb0 (fun b h=>.inl h) (fun b hl h=>h.elim id fun e=>absurd hl (by omega))
 obtain ⟨tb,oo,on,oc,rfl,hon,hvs,c0,c1,t0,t1,t2,hTI,htW,htl,hpl,hpt,htf,hpf,hin⟩:=hst.at h.ht
 have hwp:=zAb h.st.box
 have htw:tb<w.heap.size:=by obtain ⟨tb',-,-,-,e,-,-,-,-,-,-,-,-,-,h9,-⟩:=h.st.at h.ht;simp only [zMz,zME,and_true] at e;omega
 have k0:=zAa p5 0
 have k1:=zAa p5 1
 have k2:=zAa p5 2
 have k3:=zAa p5 3
 have k4:=zAa p5 4
 have k5:=zAa p5 5
 have k6:=zAa p5 6
 simp only [cA1,cA2,cA3] at k0 k1 k2 k3 k4 k5 k6
 have kl:=zAb p5
 have HST:=lH hst
 have HTI:=lH hTI
 have HI:=lH h.hi
 have HTM:=lH (zM6 h.ht)
 have HTK:=lH (h.ok.ten t HTM.out)
 have HFAR:=lH h.far
 have HSL:=lH h.slen
 have HSC:=lH h.scap
 have HASK:=lH (h.ask.mono hb0)
 have HOK:=lH h.ok
 have HWF:=lH h.wf
 have HH:=lH h
 have HON:=lH hon
 have HVS:=lH hvs
 have HP5:=lH p5
 have HP6:=lH p6
 have HBW:=lH hb0
 have HZ2:=lH hz2
 have hws:=h.st.hw
 have HWS:=lH hws
 have HQ:Hid (pb≠w.heap.size+1/\K<=w.heap.size+1):=lH ⟨by omega,by have:=h.st.ten.kle;omega⟩
 have hn3:n<=3:=by have:=h.st.ten.len;have:=h.ok.len;omega
 have hon3:on<=3:=by have:=HTK.out.len;omega
 clear h hst hTI hon hvs p5 p6 hb0 hz2
 go_enter Tryz.func11,Tryz.ntmps11
 go_upto_region 1 with fail
 generalize (w.alloc (.cells #[.int .i64 12,.string aset,.string afile,.string ato,.int .i64 aat,.int .i64 an,.slice ba bn bc] 30)).alloc (.cells #[.int .i64 0,.int .i64 0,.slice none 0 0,.slice none 0 0] 34)=W1 at *
 go_upto_region 7 with fail
 have HPL:=lH (zBg W1.drew t.key t.quota oo on oc t aset (HTI.out.mono (zMy _ _).drew) (by omega) HTK.out.rise)
 have HPT:=lH (fun h=>zFX (t:=t) (nm:=aset) h)
 obtain ⟨PN,hPN⟩:∃ PN,placeN (t.sets.map SetV.nm) aset=PN:=⟨_,rfl⟩
 obtain ⟨PB,hPB⟩:∃ PB,placeB (t.sets.map SetV.nm) aset=PB:=⟨_,rfl⟩
 rw [hPN,hPB] at HPL HPT HR
 clear hPN hPB
 refine zA7 5 _ rfl (by kernel_rfl) (by kernel_rfl) ?_
 simp only [zND,zNH,zNM,zN9]
 repeat still_step
 refine wpStill_nil ?_
 intro K hK
 go_simp
 refine HPL.out.mono ?_
 rintro e w2 ⟨rfl,hb2⟩
 have hb2:=zBL hb2
 refine hK _ _ ?_
 clear hK K HPL
 repeat still_step
 refine wpStill_nil ?_
 have hbW2:Below W w w2:=(HBW.out.mono HWS.out).trans (hb2.mono (by have:=HZ2.out;omega))
 have HST2:=lH (HST.out.mono hb2)
 have HTI2:=lH (HTI.out.mono hb2)
 have HASK2:=lH (HASK.out.mono hb2)
 have p5:=(hb2.block _ (zAb HP5.out)).trans HP5.out
 have p6:=(hb2.block _ (zAb HP6.out)).trans HP6.out
 have c0:=Zc hb2 hpl c0
 have c1:=Zc hb2 hpl c1
 have t0:=Zc hb2 htl t0
 have t1:=Zc hb2 htl t1
 have t2:=Zc hb2 htl t2
 have htf:=fun j=>Zf hb2 j htl (htf j)
 have hpf:=fun j=>Zf hb2 j hpl (hpf j)
 have hpl:=zMw hpl hb2.size
 have htl:=zMw htl hb2.size
 have HB2:=lH hb2
 clear k0 k1 k2 k3 k4 k5 k6 kl
 have k0:=zAa p5 0
 have k1:=zAa p5 1
 have k2:=zAa p5 2
 have k3:=zAa p5 3
 have k4:=zAa p5 4
 have k5:=zAa p5 5
 have k6:=zAa p5 6
 simp only [cA1,cA2,cA3] at k0 k1 k2 k3 k4 k5 k6
 have kl:=zAb p5
 cases PB with
 | false=>
  have HR2:Hid (r=(p.s,t,noAns,5)):=lH (by rw [HR.out,if_pos rfl])
  clear HPT hb2
  obtain ⟨z6,zb,-⟩:=zAS p6 (.int .i64 0) (.int .i64 0) (.slice none 0 0) (.slice none 0 0)
  have hbz:=zb _ _ hbW2 (show W<=w.heap.size+1 by omega)
  unfold putA at z6 hbz
  have v0:=zAa z6 0
  have v1:=zAa z6 1
  have v2:=zAa z6 2
  have v3:=zAa z6 3
  have y0:=zAa p6 0
  have y1:=zAa p6 1
  have y2:=zAa p6 2
  have y3:=zAa p6 3
  simp only [cA1,cA2,cA3] at v0 v1 v2 v3 y0 y1 y2 y3
  have yf:=fun j=>zAc p6 j
  have yl:=zAb p6
  clear zb z6
  go_wp2_with fail
  refine bodyPost_ret (v:=.tuple #[.agg #[.int .i64 0,.int .i64 0,.slice none 0 0,.slice none 0 0],.int .i64 5]) (by simp [results,Tryz.results11,go_sem,v0,v1,v2,v3]) rfl ?_
  rw [HR2.out]
  exact zBB.same (r:=(noAns,5)) (HST2.out.ans p6 HQ.out.1 HQ.out.2 (.inr rfl) _ _ _ _) HH.out.ht HFAR.out HSL.out HSC.out hbz ⟨none,0,0,none,0,0,rfl,AnwIn.none _ 0 0⟩
 | true=>
  obtain ⟨hPl,hPx⟩:=HPT.out (by simp)
  obtain ⟨x,hx⟩:∃ x,t.sets[PN]=x:=⟨_,rfl⟩
  obtain ⟨g,fo,fn,fc,yo,yn,yc,rfl,g0,g1,g2,hset,hgW,hgl,hgB,hgf,hgp,hgt⟩:=HST2.out.set_at HH.out.ht HVS.out hPl
  have HR2:=lH (HR.out.trans (if_neg (by simp)))
  rw [hPx,hx] at HR2
  rw [hx] at g0 hset
  have hx0:=hx
  have HX:=lH hx
  have HSET:=lH hset
  have HPL:=lH hPl
  have hpi:(PN:Int)<on:=by have:=HON.out;omega
  have HGT:=lH hgt
  have HG:=lH (And.intro g0 (And.intro g1 g2))
  clear HR hPx hx hset HPT hb2 hgt
  obtain ⟨RL,hRL⟩:∃ RL,lookR p.s t.key x ⟨12,aset,afile,ato,aat,an,abytes⟩=RL:=⟨_,rfl⟩
  rw [hRL] at HR2
  have HRL:=lH hRL
  clear hRL
  have hb3:=bA0 w2 (.cells #[.string x.nm,.slice fo fn fc,.slice yo yn yc] 47)
  have b0:(w2.alloc (.cells #[.string x.nm,.slice fo fn fc,.slice yo yn yc] 47)).cell? ⟨w2.heap.size,0,none⟩=some (.string x.nm):=by simp
  have b1:(w2.alloc (.cells #[.string x.nm,.slice fo fn fc,.slice yo yn yc] 47)).cell? ⟨w2.heap.size,1,none⟩=some (.slice fo fn fc):=by simp
  have b2:(w2.alloc (.cells #[.string x.nm,.slice fo fn fc,.slice yo yn yc] 47)).cell? ⟨w2.heap.size,2,none⟩=some (.slice yo yn yc):=by simp
  have bl:w2.heap.size<(w2.alloc (.cells #[.string x.nm,.slice fo fn fc,.slice yo yn yc] 47)).heap.size:=by simp
  go_upto_region 14 with fail
  generalize w2.alloc (.cells #[.string x.nm,.slice fo fn fc,.slice yo yn yc] 47)=W3 at *
  replace c0:=Zc hb3 hpl c0
  replace c1:=Zc hb3 hpl c1
  replace t0:=Zc hb3 htl t0
  replace t1:=Zc hb3 htl t1
  replace t2:=Zc hb3 htl t2
  replace k0:=Zc hb3 kl k0
  replace k1:=Zc hb3 kl k1
  replace k2:=Zc hb3 kl k2
  replace k3:=Zc hb3 kl k3
  replace k4:=Zc hb3 kl k4
  replace k5:=Zc hb3 kl k5
  replace k6:=Zc hb3 kl k6
  replace p6:=Zm hb3 p6
  replace htf:=fun j=>Zf hb3 j htl (htf j)
  replace hpf:=fun j=>Zf hb3 j hpl (hpf j)
  replace hpl:=zMw hpl hb3.size
  replace htl:=zMw htl hb3.size
  replace kl:=zMw kl hb3.size
  have HST3:=lH (HST2.out.mono hb3)
  have HASK3:=lH (HASK2.out.mono hb3)
  have HSET3:=lH (HSET.out.mono hb3)
  have hbW3:Below W w W3:=hbW2.trans (hb3.mono (by have:=hbW2.size;omega))
  have HRX:=lH (HTK.out.sets x (by rw [<- HX.out];exact zMr _))
  have HS4:=lH (zAg p.s HOK.out.chk).1
  have HB3:=lH hb3
  clear hb3 p5 g0 g1 g2
  obtain ⟨⟨le,ln,lnames,lbytes⟩,lc⟩:=RL
  have HLOOK:Hid (∀ u,Bel W3 u->Calls Tryz.prog 33 #[.agg #[.slice so sn sc],.int .i64 t.key,.agg #[.string x.nm,.slice fo fn fc,.slice yo yn yc],.agg #[.int .i64 12,.string aset,.string afile,.string ato,.int .i64 aat,.int .i64 an,.slice ba bn bc]] u fun e w'=>∃ na nn nc a2 n2 c2,e=.returned (.tuple #[.agg #[.int .i64 le,.int .i64 ln,.slice na nn nc,.slice a2 n2 c2],.int .i64 lc])/\Below u.heap.size u w'/\Hid (AnwIn w' na nn nc a2 n2 c2 ⟨le,ln,lnames,lbytes⟩)):=lH fun u hu=>(zI8 u so fo yo ba sn sc fn fc yn yc bn bc p.s t.key x ⟨12,aset,afile,ato,aat,an,abytes⟩ HSL.out (by have:=HSL.out;have:=HS4.out;omega) (HST3.out.sto.now.mono hu) HWF.out HSC.out (HSET3.out.now.mono hu) HRX.out.wf).mono fun e w' h=>by
   obtain ⟨na,nn,nc,a2,n2,c2,e1,hb,h1,h2,h3,h4,h5,h6⟩:=h
   rw [HRL.out] at e1 h1 h2 h3 h4
   exact ⟨na,nn,nc,a2,n2,c2,e1,hb,lH ⟨h1,h2,h3,h4,h5,h6⟩⟩
  have HSK:Hid (∀ u,Kept (fun b=>b=w.heap.size+1) W3 u->u.cell? ⟨pb,0,none⟩=some (.slice so sn sc)/\u.cell? ⟨tb,i*3,none⟩=some (.int .i64 t.key)/\u.cell? ⟨w2.heap.size,0,none⟩=some (.string x.nm)/\u.cell? ⟨w2.heap.size,1,none⟩=some (.slice fo fn fc)/\u.cell? ⟨w2.heap.size,2,none⟩=some (.slice yo yn yc)/\
   u.cell? ⟨w.heap.size,0,none⟩=some (.int .i64 12)/\u.cell? ⟨w.heap.size,1,none⟩=some (.string aset)/\u.cell? ⟨w.heap.size,2,none⟩=some (.string afile)/\u.cell? ⟨w.heap.size,3,none⟩=some (.string ato)/\u.cell? ⟨w.heap.size,4,none⟩=some (.int .i64 aat)/\u.cell? ⟨w.heap.size,5,none⟩=some (.int .i64 an)/\u.cell? ⟨w.heap.size,6,none⟩=some (.slice ba bn bc)):=
   lH fun u h=>⟨(h.cell hpl (by omega)).trans c0,(h.cell htl (by omega)).trans t0,(h.cell bl (by have:=HZ2.out;have:=HB2.out.size;omega)).trans b0,(h.cell bl (by have:=HZ2.out;have:=HB2.out.size;omega)).trans b1,(h.cell bl (by have:=HZ2.out;have:=HB2.out.size;omega)).trans b2,(h.cell kl (by omega)).trans k0,(h.cell kl (by omega)).trans k1,(h.cell kl (by omega)).trans k2,(h.cell kl (by omega)).trans k3,(h.cell kl (by omega)).trans k4,(h.cell kl (by omega)).trans k5,(h.cell kl (by omega)).trans k6⟩
  have lp6:=zAb p6
  have HP7:=lH p6
  clear c0 c1 t0 t1 t2 b0 b1 b2 k0 k1 k2 k3 k4 k5 k6 p6
  go_cut [7] (fun u wx=>∃ (na:Option Addr) (nn nc:Nat) (a2:Option Addr) (n2 c2:Nat),u=.int .i64 lc/\wx.cell? ⟨w.heap.size+1,0,none⟩=some (.int .i64 le)/\wx.cell? ⟨w.heap.size+1,1,none⟩=some (.int .i64 ln)/\wx.cell? ⟨w.heap.size+1,2,none⟩=some (.slice na nn nc)/\wx.cell? ⟨w.heap.size+1,3,none⟩=some (.slice a2 n2 c2)/\
   Hid (AnwIn wx na nn nc a2 n2 c2 ⟨le,ln,lnames,lbytes⟩/\Below W w wx/\zAz w0 wx K W (fun b=>B b\/b=w.heap.size+1) pb so sn sc (some ⟨tb,0,none⟩) n cap p.s p.tens vs))
  case first=>
   go_region_held3 (fun u=>u.cell? ⟨pb,0,none⟩=some (.slice so sn sc)/\u.cell? ⟨tb,i*3,none⟩=some (.int .i64 t.key)/\u.cell? ⟨w2.heap.size,0,none⟩=some (.string x.nm)/\u.cell? ⟨w2.heap.size,1,none⟩=some (.slice fo fn fc)/\u.cell? ⟨w2.heap.size,2,none⟩=some (.slice yo yn yc)/\
    u.cell? ⟨w.heap.size,0,none⟩=some (.int .i64 12)/\u.cell? ⟨w.heap.size,1,none⟩=some (.string aset)/\u.cell? ⟨w.heap.size,2,none⟩=some (.string afile)/\u.cell? ⟨w.heap.size,3,none⟩=some (.string ato)/\u.cell? ⟨w.heap.size,4,none⟩=some (.int .i64 aat)/\u.cell? ⟨w.heap.size,5,none⟩=some (.int .i64 an)/\u.cell? ⟨w.heap.size,6,none⟩=some (.slice ba bn bc))
    ((refine HSK.out _ ?_;repeat (first | assumption | exact Kept.refl _ _ | refine Kept.dr ?_ | refine Kept.set (bad:=fun b=>b=w.heap.size+1) ?_ (.inr rfl) _)))
    (first
    | (go_at_call 33;refine (HLOOK.out _ (Bel.drew _)).mono ?_;rintro e w4 ⟨na,nn,nc,a2,n2,c2,rfl,hb4,ha4⟩;have kk4:Kept (fun b=>b=w.heap.size+1) W3 w4:=(Kept.drew _ _).call hb4;have p7:=(hb4.block _ lp6).trans HP7.out;have y0:=zAa p7 0;have y1:=zAa p7 1;have y2:=zAa p7 2;have y3:=zAa p7 3;simp only [cA1,cA2,cA3] at y0 y1 y2 y3;have yf:=fun j=>zAc p7 j;have yl:=zAb p7))
   all_goals
    go_wp2_with fail
    go_meet
    have hb34:Below W3.heap.size W3 w4:=zBL hb4
    obtain ⟨z6,zb,-⟩:=zAS p7 (.int .i64 le) (.int .i64 ln) (.slice na nn nc) (.slice a2 n2 c2)
    have hbz:=zb _ _ (hbW3.trans (hb34.mono (by have:=hbW3.size;omega))) (show W<=w.heap.size+1 by omega)
    have v0:=zAa z6 0
    have v1:=zAa z6 1
    have v2:=zAa z6 2
    have v3:=zAa z6 3
    simp only [cA1,cA2,cA3] at v0 v1 v2 v3
    exact ⟨na,nn,nc,a2,n2,c2,rfl,v0,v1,v2,v3,lH ⟨ha4.out.put p7 _ _ _ _,hbz,(HST3.out.mono hb34).ans p7 HQ.out.1 HQ.out.2 (.inr rfl) _ _ _ _⟩⟩
  case rest=>
   obtain ⟨na,nn,nc,a2,n2,c2,rfl,v0,v1,v2,v3,hL⟩:=hcut
   clear HSK HLOOK
   go_wp2_with fail
   refine bodyPost_ret (v:=.tuple #[.agg #[.int .i64 le,.int .i64 ln,.slice na nn nc,.slice a2 n2 c2],.int .i64 lc]) (by simp [results,Tryz.results11,go_sem,v0,v1,v2,v3]) rfl ?_
   rw [HR2.out]
   exact zBB.same (r:=(⟨le,ln,lnames,lbytes⟩,lc)) hL.out.2.2 HH.out.ht HFAR.out HSL.out HSC.out hL.out.2.1 ⟨na,nn,nc,a2,n2,c2,rfl,hL.out.1⟩
end Go.Proofs.YtfmgdjgedhnmeaaGreat
