/- pool.Run. -/
import Derived.Deep.RegionWith
import Derived.Deep.RegionHeld3
import Derived.Test.YtfmgdjgedhnmeaaGreatPoolX
import Derived.Test.YtfmgdjgedhnmeaaGreatPoolY
namespace Go.Proofs.YtfmgdjgedhnmeaaGreat
open Go.RowKit
set_option linter.unusedVariables false
set_option linter.unusedSimpArgs false
set_option maxRecDepth 100000 in
set_option maxHeartbeats 8000000 in
theorem zIj (w:World) (so0 ao0 wo lo:Option Addr) (sn0 sc0 n0 cap0 wn wcp ln lcp:Nat) (p:PoolV) (who:List Int) (l:List AskV) (r:PoolV×List AnsV×Int) (hr:runP p who l=r) (hp:zAG w so0 sn0 sc0 ao0 n0 cap0 p) (hw:WfP p) (hwl:who.length=wn) (hwr:Row .i64 w wo who) (hll:l.length=ln) (hlr:zIS w lo l) (hla:WfA l) (hw63:wn<=1152921504606846976) (hl63:ln<=1152921504606846976) :
 Calls Tryz.prog 13 #[.agg #[.slice so0 sn0 sc0,.slice ao0 n0 cap0],.slice wo wn wcp,.slice lo ln lcp] w fun e w'=>RunEnd e w w' r:=by
 have hb0:Below w.heap.size w ((w.alloc (.cells #[.slice so0 sn0 sc0,.slice ao0 n0 cap0] 27)).alloc (.cells #[.slice none 0 0,.slice none 0 0] 27)):=((zMy _ _).alloc (zMs _) _).alloc (by simp) _
 have p3:((w.alloc (.cells #[.slice so0 sn0 sc0,.slice ao0 n0 cap0] 27)).alloc (.cells #[.slice none 0 0,.slice none 0 0] 27)).heap[w.heap.size]?=some (.cells #[.slice so0 sn0 sc0,.slice ao0 n0 cap0] 27 (0,0)):=heap_alloc2_old _ _ _
 have p6:((w.alloc (.cells #[.slice so0 sn0 sc0,.slice ao0 n0 cap0] 27)).alloc (.cells #[.slice none 0 0,.slice none 0 0] 27)).heap[w.heap.size+1]?=some (.cells #[.slice none 0 0,.slice none 0 0] 27 (0,0)):=heap_alloc2_new _ _ _
 have HP:=lH hp
 have HW:=lH hw
 have HRD:=lH hr
 have HWL:=lH hwl
 have HWR:=lH hwr
 have HLL:=lH hll
 have HLR:=lH hlr
 have HLA:=lH hla
 have e0:=zAa p3 0
 have e1:=zAa p3 1
 simp at e0 e1
 clear hp hw hr hwl hwr hll hlr hla
 go_enter Tryz.func13,Tryz.ntmps13
 go_wp2_with fail
 generalize (w.alloc (.cells #[.slice so0 sn0 sc0,.slice ao0 n0 cap0] 27)).alloc (.cells #[.slice none 0 0,.slice none 0 0] 27)=W0 at *
 refine (zBQ _ so0 ao0 sn0 sc0 n0 cap0 p (HP.out.mono hb0) HW.out).mono ?_
 rintro e w1 ⟨rfl,hb1⟩
 have hbw:=zAd hb0 hb1
 replace p3:=Zm hb1 p3
 replace p6:=Zm hb1 p6
 clear e0 e1 hb0 hb1
 have e0:=zAa p3 0
 have e1:=zAa p3 1
 have q0:=zAa p6 0
 have q1:=zAa p6 1
 simp only [cA1,cA2,cA3] at e0 e1 q0 q1
 have qf:=fun j=>zAc p6 j
 have ef:=fun j=>zAc p3 j
 have l3:=zAb p3
 have l6:=zAb p6
 by_cases hpe:poolE p=0
 rotate_left
 . have HR:Hid (r=(⟨[],[]⟩,[],poolE p)):=lH (by rw [<- HRD.out];unfold runP;rw [if_pos hpe])
   have he1:(poolE p != 0)=true:=by rw [bne_iff_ne];exact hpe
   generalize poolE p=ce at *
   clear hpe HRD HP HW HLR HWR HLA
   obtain ⟨z6,zb⟩:=zDr p6 (.slice none 0 0) (.slice none 0 0)
   have hbz:=zb _ _ hbw (by omega)
   have x0:=zAa z6 0
   have x1:=zAa z6 1
   simp only [cA1,cA2,cA3] at x0 x1
   clear zb z6
   go_wp2_with fail
   refine bodyPost_ret (v:=.tuple #[.agg #[.slice none 0 0,.slice none 0 0],.slice none 0 0,.int .i64 ce]) (by simp [results,Tryz.results13,go_sem,x0,x1]) rfl ?_
   rw [HR.out]
   exact zD7 hbz
 have HPE:=lH hpe
 have HOK:=lH (zCC hpe)
 rw [hpe]
 clear hpe
 by_cases h60:(60:Int)<ln
 . have HR:Hid (r=(⟨[],[]⟩,[],2)):=lH (by rw [<- HRD.out];unfold runP;rw [if_neg (fun h=>h HPE.out),if_pos (by have:=HLL.out;omega)])
   clear HRD HP HW HOK HPE HLR HWR HLA
   obtain ⟨z6,zb⟩:=zDr p6 (.slice none 0 0) (.slice none 0 0)
   have hbz:=zb _ _ hbw (by omega)
   have x0:=zAa z6 0
   have x1:=zAa z6 1
   simp only [cA1,cA2,cA3] at x0 x1
   clear zb z6
   go_wp2_with fail
   refine bodyPost_ret (v:=.tuple #[.agg #[.slice none 0 0,.slice none 0 0],.slice none 0 0,.int .i64 2]) (by simp [results,Tryz.results13,go_sem,x0,x1]) rfl ?_
   rw [HR.out]
   exact zD7 hbz
 by_cases hwl2:(wn:Int)=ln
 rotate_left
 . have HR:Hid (r=(⟨[],[]⟩,[],4)):=lH (by rw [<- HRD.out];unfold runP;rw [if_neg (fun h=>h HPE.out),if_neg (by have:=HLL.out;omega),if_pos (by have:=HLL.out;have:=HWL.out;omega)])
   have he2:((wn:Int) != ln)=true:=by rw [bne_iff_ne];exact hwl2
   clear HRD HP HW HOK HPE HLR HWR HLA
   obtain ⟨z6,zb⟩:=zDr p6 (.slice none 0 0) (.slice none 0 0)
   have hbz:=zb _ _ hbw (by omega)
   have x0:=zAa z6 0
   have x1:=zAa z6 1
   simp only [cA1,cA2,cA3] at x0 x1
   clear zb z6
   go_wp2_with fail
   refine bodyPost_ret (v:=.tuple #[.agg #[.slice none 0 0,.slice none 0 0],.slice none 0 0,.int .i64 4]) (by simp [results,Tryz.results13,go_sem,x0,x1]) rfl ?_
   rw [HR.out]
   exact zD7 hbz
 have hne2:((wn:Int) != ln)=false:=by rw [hwl2];simp
 have HR:Hid (r=((runL p who l).1,(runL p who l).2,0)):=lH (by rw [<- HRD.out];unfold runP;rw [if_neg (fun h=>h HPE.out),if_neg (by have:=HLL.out;omega),if_neg (by have:=HLL.out;have:=HWL.out;omega)])
 have HL60:Hid (ln<=60):=lH (by omega)
 have hn3:n0<=3:=by have:=HP.out.len;have:=HOK.out.len;omega
 have hsm:∀ t∈p.tens,t.sets.length<=3/\∀ x∈t.sets,zCM x:=fun t ht=>⟨(HOK.out.ten t ht).len,fun x hx=>((HOK.out.ten t ht).sets x hx).small⟩
 have HCP:=lH (zEF w w1 w.heap.size so0 ao0 sn0 sc0 n0 cap0 p rfl hbw HP.out HW.out.sto (by have:=HP.out.slen;have:=HW.out.slen;omega) (by omega) hsm)
 have HP3:=lH p3
 have HP6:=lH p6
 have HBW:=lH hbw
 have HWL2:Hid (wn=ln):=lH (by omega)
 clear hsm HRD q0 q1 qf
 go_wp2_with fail
 refine HCP.out.mono ?_
 rintro e w2 ⟨so1,sc1,ao1,cap1,rfl,WC,B,vs,hW1,hl1,hc1,hst,hten,hB,hb2,hfar⟩
 have hpi:zAG w2 so1 sn0 sc1 ao1 n0 cap1 p:=(hten.pool hst hl1 hc1 (X:=fun _=>False) (fun b hb=>hb.elim)).now
 have hag:=hten.ao_ge
 have p3:=(hb2.block _ l3).trans p3
 have p6:=(hb2.block _ l6).trans p6
 have hz2:=hb2.size
 have hz1:=hbw.size
 obtain ⟨z3,zb⟩:=zDr p3 (.slice so1 sn0 sc1) (.slice ao1 n0 cap1)
 have hbz:=zb _ _ (zAd hbw hb2) (zMs _)
 have hM0:zEt w w2 p who l 0 so1 sn0 sc1 ao1 n0 cap1 none 0 0 p [] []:=⟨by simp [runL],hpi,⟨HOK.out,HW.out.sto⟩,.inl ⟨rfl,rfl⟩,⟨rfl,rfl,fun i h=>absurd h (by simp)⟩,fun g o e h=>⟨by have:=hfar g o e h;omega,fun e=>by cases e⟩,fun g o e _=>⟨by have:=hag g o e;omega,fun e=>by cases e⟩⟩
 have HM1:=lH (hM0.kept (t:=27) (by decide) p3 (((Kept.refl (fun b=>b=w.heap.size) w2).set (j:=0) (.inr rfl) (.slice so1 sn0 sc1)).set (j:=1) (.inr rfl) (.slice ao1 n0 cap1)))
 have z6:((w2.setCell ⟨w.heap.size,0,none⟩ (.slice so1 sn0 sc1)).setCell ⟨w.heap.size,1,none⟩ (.slice ao1 n0 cap1)).heap[w.heap.size+1]?=_:=((zMu _ _ _ _ (show w.heap.size+1≠w.heap.size by omega)).trans (zMu _ _ _ _ (show w.heap.size+1≠w.heap.size by omega))).trans p6
 have e0:=zAa p3 0
 have e1:=zAa p3 1
 simp only [cA1,cA2,cA3] at e0 e1
 have ef:=fun j=>zAc p3 j
 have l3:=zAb p3
 clear hW1 hl1 hc1 hst hten hB hb2 hfar hpi hag hM0 zb p3 p6 HCP
 go_wp2_with fail
 generalize (w2.setCell ⟨w.heap.size,0,none⟩ (.slice so1 sn0 sc1)).setCell ⟨w.heap.size,1,none⟩ (.slice ao1 n0 cap1)=W4 at *
 clear e0 e1 ef
 obtain ⟨i0,z,hi0,hz0,hsz,hby,hzc⟩:=zKA
 go_loopw [10,36] (fun v i wr=>∃ (k:Nat) (so:Option Addr) (sn sc:Nat) (ao:Option Addr) (n cap:Nat) (oa:Option Addr) (on oc:Nat) (q:PoolV) (out:List AnsV) (vs:List Anv),k<=ln/\i=.int .i64 k/\v=.slice oa on oc/\Hid (zEt w wr p who l k so sn sc ao n cap oa on oc q out vs)/\wr.heap[w.heap.size]?=some (.cells #[.slice so sn sc,.slice ao n cap] 27 (0,0))/\
  wr.heap[w.heap.size+1]?=some (.cells #[.slice none 0 0,.slice none 0 0] 27 (0,0))/\Below w.heap.size w wr) (fun _ i _=>ln - (intOf i).toNat)
 case atStart=>exact ⟨0,_,_,_,_,_,_,_,_,_,_,_,_,zMO _,rfl,rfl,HM1,z3,z6,hbz⟩
 case round=>
  clear z3 z6 hbz HM1
  obtain ⟨k,so,sn,sc,ao,n,cap,oa,on,oc,q,out,vs,hkn,rfl,rfl,HM,p3,p6,hbw4⟩:=hrel
  have l3:=zAb p3
  have l6:=zAb p6
  have e0:=zAa p3 0
  have e1:=zAa p3 1
  simp only [cA1,cA2,cA3] at e0 e1
  by_cases hlt:k<ln
  . have hlt':(k:Int)<ln:=by omega
    have hkl:k<l.length:=by have:=HLL.out;omega
    have hkw:k<who.length:=by have:=HWL.out;have:=HWL2.out;omega
    have hkw':(k:Int)<wn:=by omega
    obtain ⟨b,o,ba,bc,rfl,hA⟩:=HLR.out.at k hkl
    obtain ⟨wb,wof,rfl,hwc⟩:=HWR.out.at k hkw
    have hA:=hA.mono hbw4
    have hwk:=((bcell hbw4).1 _ _ (zMx _ _ (hwc k hkw))).trans (hwc k hkw)
    obtain ⟨a,ha⟩:∃ a,l[k]=a:=⟨_,rfl⟩
    obtain ⟨wk,hwk2⟩:∃ wk,who[k]=wk:=⟨_,rfl⟩
    rw [ha] at hA
    rw [hwk2] at hwk
    have HST0:Hid (stepP q who[k] l[k]=stepP q wk a):=lH (by rw [ha,hwk2])
    have HBY:Hid (Byt l[k].bytes):=lH (HLA.out _ (zMr hkl)).1
    have HFA:Hid (Byt a.bytes/\a.bytes.length<=140737488351232):=lH (by rw [<- ha];exact HLA.out _ (zMr hkl))
    have a0:=hA.kind
    have a1:=hA.sname
    have a2:=hA.file
    have a3:=hA.dest
    have a4:=hA.at_
    have a5:=hA.n
    have a6:=hA.bytes
    have la:=zMx _ _ a0
    have lw:=zMx _ _ hwk
    simp only at la lw
    have hba:=bA0 wr (.cells #[.int .i64 a.kind,.string a.sname,.string a.file,.string a.dest,.int .i64 a.at_,.int .i64 a.n,.slice ba a.bytes.length bc] 30)
    have HASK:=lH (show AskIn wr ba a.bytes.length bc a from ⟨rfl,hA.row,hA.cap,HFA.out.1,HFA.out.2⟩)
    have k0:(wr.alloc (.cells #[.int .i64 a.kind,.string a.sname,.string a.file,.string a.dest,.int .i64 a.at_,.int .i64 a.n,.slice ba a.bytes.length bc] 30)).cell? ⟨wr.heap.size,0,none⟩=some (.int .i64 a.kind):=by simp
    have k1:(wr.alloc (.cells #[.int .i64 a.kind,.string a.sname,.string a.file,.string a.dest,.int .i64 a.at_,.int .i64 a.n,.slice ba a.bytes.length bc] 30)).cell? ⟨wr.heap.size,1,none⟩=some (.string a.sname):=by simp
    have k2:(wr.alloc (.cells #[.int .i64 a.kind,.string a.sname,.string a.file,.string a.dest,.int .i64 a.at_,.int .i64 a.n,.slice ba a.bytes.length bc] 30)).cell? ⟨wr.heap.size,2,none⟩=some (.string a.file):=by simp
    have k3:(wr.alloc (.cells #[.int .i64 a.kind,.string a.sname,.string a.file,.string a.dest,.int .i64 a.at_,.int .i64 a.n,.slice ba a.bytes.length bc] 30)).cell? ⟨wr.heap.size,3,none⟩=some (.string a.dest):=by simp
    have k4:(wr.alloc (.cells #[.int .i64 a.kind,.string a.sname,.string a.file,.string a.dest,.int .i64 a.at_,.int .i64 a.n,.slice ba a.bytes.length bc] 30)).cell? ⟨wr.heap.size,4,none⟩=some (.int .i64 a.at_):=by simp
    have k5:(wr.alloc (.cells #[.int .i64 a.kind,.string a.sname,.string a.file,.string a.dest,.int .i64 a.at_,.int .i64 a.n,.slice ba a.bytes.length bc] 30)).cell? ⟨wr.heap.size,5,none⟩=some (.int .i64 a.n):=by simp
    have k6:(wr.alloc (.cells #[.int .i64 a.kind,.string a.sname,.string a.file,.string a.dest,.int .i64 a.at_,.int .i64 a.n,.slice ba a.bytes.length bc] 30)).cell? ⟨wr.heap.size,6,none⟩=some (.slice ba a.bytes.length bc):=by simp
    have bl:wr.heap.size<(wr.alloc (.cells #[.int .i64 a.kind,.string a.sname,.string a.file,.string a.dest,.int .i64 a.at_,.int .i64 a.n,.slice ba a.bytes.length bc] 30)).heap.size:=by simp
    have HBA0:=lH hba
    clear ha hwk2 hA
    go_upto_region 13 with fail
    generalize wr.alloc (.cells #[.int .i64 a.kind,.string a.sname,.string a.file,.string a.dest,.int .i64 a.at_,.int .i64 a.n,.slice ba a.bytes.length bc] 30)=W3 at *
    replace e0:=Zc hba l3 e0
    replace e1:=Zc hba l3 e1
    replace hwk:=Zc hba lw hwk
    have l3':=zMw l3 hba.size
    have lw':=zMw lw hba.size
    obtain ⟨RT,hRT⟩:∃ RT,doP q wk a=RT:=⟨_,rfl⟩
    have HK4:Hid (Kid4 RT.1.s):=lH (by rw [<- hRT];exact doP_kid4 HM.out.2.2.1.1 HM.out.2.2.1.2 HFA.out.1)
    have HSTP0:Hid (stepP q who[k] l[k]=if RT.2.2≠0 then (q,⟨RT.2.2,0,[],[]⟩) else (RT.1,RT.2.1)):=lH (by rw [HST0.out];unfold stepP;rw [hRT])
    have HRT:=lH hRT
    obtain ⟨Q5,⟨ae,an,anames,abytes⟩,de⟩:=RT
    simp only at HK4 HSTP0
    have HDO:Hid (∀ u,UpP W3 u->Calls Tryz.prog 4 #[.agg #[.slice so sn sc,.slice ao n cap],.int .i64 wk,.agg #[.int .i64 a.kind,.string a.sname,.string a.file,.string a.dest,.int .i64 a.at_,.int .i64 a.n,.slice ba a.bytes.length bc]] u fun e w'=>∃ so5 sn5 sc5 ao5 n5 c5 na nn nc b2 n2 c2,e=.returned (.tuple #[.agg #[.slice so5 sn5 sc5,.slice ao5 n5 c5],.agg #[.int .i64 ae,.int .i64 an,.slice na nn nc,.slice b2 n2 c2],.int .i64 de])/\Below u.heap.size u w'/\Hid (AftP W3 u w' so5 sn5 sc5 ao5 n5 c5 Q5 na nn nc b2 n2 c2 ⟨ae,an,anames,abytes⟩)):=lH fun u hu=>(zC8 u so ao ba sn sc n cap a.bytes.length bc q wk a _ HRT.out ((HM.out.2.1.mono HBA0.out).mono hu.bel) (HM.out.2.2.1.1.wfp HM.out.2.2.1.2) ((HASK.out.mono HBA0.out).mono hu.bel)).mono fun e w' h=>by
     obtain ⟨so5,sn5,sc5,ao5,n5,c5,na,nn,nc,b2,n2,c2,e1,hb,hq,han,h1,h2⟩:=h
     exact ⟨so5,sn5,sc5,ao5,n5,c5,na,nn,nc,b2,n2,c2,e1,hb,lH (AftP.of hu hb hq han h1 h2 HK4.out)⟩
    have HSK:Hid (∀ u,Bel W3 u->u.cell? ⟨w.heap.size,0,none⟩=some (.slice so sn sc)/\u.cell? ⟨w.heap.size,1,none⟩=some (.slice ao n cap)/\u.cell? ⟨wb,wof+k,none⟩=some (.int .i64 wk)/\u.cell? ⟨wr.heap.size,0,none⟩=some (.int .i64 a.kind)/\u.cell? ⟨wr.heap.size,1,none⟩=some (.string a.sname)/\u.cell? ⟨wr.heap.size,2,none⟩=some (.string a.file)/\u.cell? ⟨wr.heap.size,3,none⟩=some (.string a.dest)/\u.cell? ⟨wr.heap.size,4,none⟩=some (.int .i64 a.at_)/\u.cell? ⟨wr.heap.size,5,none⟩=some (.int .i64 a.n)/\u.cell? ⟨wr.heap.size,6,none⟩=some (.slice ba a.bytes.length bc)):=lH fun u h=>⟨Zc h l3' e0,Zc h l3' e1,Zc h lw' hwk,Zc h bl k0,Zc h bl k1,Zc h bl k2,Zc h bl k3,Zc h bl k4,Zc h bl k5,Zc h bl k6⟩
    have HBA:=lH hba
    have HP3r:=lH p3
    have HP6r:=lH p6
    have HBWr:=lH hbw4
    clear hRT a0 a1 a2 a3 a4 a5 a6 k0 k1 k2 k3 k4 k5 k6 e0 e1 hwk hba p3 p6 hbw4 hwc
    go_cut [13,14,15] (fun u1 u2 u3 wx=>∃ (q13 q14:Nat) (so5:Option Addr) (sn5 sc5:Nat) (ao5:Option Addr) (n5 c5:Nat) (na:Option Addr) (nn nc:Nat) (b2:Option Addr) (n2 c2:Nat),u1=.pointer (some ⟨q13,0,none⟩)/\u2=.pointer (some ⟨q14,0,none⟩)/\u3=.int .i64 de/\wx.cell? ⟨q13,0,none⟩=some (.slice so5 sn5 sc5)/\wx.cell? ⟨q13,1,none⟩=some (.slice ao5 n5 c5)/\
     wx.cell? ⟨q14,0,none⟩=some (.int .i64 ae)/\wx.cell? ⟨q14,1,none⟩=some (.int .i64 an)/\wx.cell? ⟨q14,2,none⟩=some (.slice na nn nc)/\wx.cell? ⟨q14,3,none⟩=some (.slice b2 n2 c2)/\(∀ j,wx.frozen? ⟨q14,j,none⟩=false)/\q14<wx.heap.size/\
     Hid (Bel W3 wx/\(zAG wx so5 sn5 sc5 ao5 n5 c5 Q5/\AnwIn wx na nn nc b2 n2 c2 ⟨ae,an,anames,abytes⟩)/\((∀ g o,so5=some ⟨g,o,none⟩->Q5.s≠[]->W3.heap.size<=g)/\∀ g o,ao5=some ⟨g,o,none⟩->W3.heap.size<=g)/\W3.heap.size<=q13/\W3.heap.size<=q14))
    case first=>
     go_region_held3 (fun u=>u.cell? ⟨w.heap.size,0,none⟩=some (.slice so sn sc)/\u.cell? ⟨w.heap.size,1,none⟩=some (.slice ao n cap)/\u.cell? ⟨wb,wof+k,none⟩=some (.int .i64 wk)/\u.cell? ⟨wr.heap.size,0,none⟩=some (.int .i64 a.kind)/\u.cell? ⟨wr.heap.size,1,none⟩=some (.string a.sname)/\u.cell? ⟨wr.heap.size,2,none⟩=some (.string a.file)/\u.cell? ⟨wr.heap.size,3,none⟩=some (.string a.dest)/\u.cell? ⟨wr.heap.size,4,none⟩=some (.int .i64 a.at_)/\u.cell? ⟨wr.heap.size,5,none⟩=some (.int .i64 a.n)/\u.cell? ⟨wr.heap.size,6,none⟩=some (.slice ba a.bytes.length bc))
      ((refine HSK.out _ ?_;repeat (first | with_reducible assumption | with_reducible exact Bel.refl _ | with_reducible refine Bel.dr ?_ | with_reducible refine Bel.alloc ?_ _ | with_reducible refine Bel.set ?_ (by first | exact zMs _ | (simp;done) | (simp;omega)) _)))
      (first
      | (go_at_call 4;refine (HDO.out _ (by repeat (first | with_reducible exact UpP.refl _ | with_reducible refine UpP.dr ?_ | with_reducible refine UpP.two ?_ | with_reducible refine UpP.ans ?_))).mono ?_;rintro e w5 ⟨so5,sn5,sc5,ao5,n5,c5,na,nn,nc,b2,n2,c2,rfl,hb5,ha5⟩;have bl5:Bel W3 w5:=Bel.call (by show Bel W3 _;repeat (first | with_reducible exact Bel.refl _ | with_reducible refine Bel.dr ?_ | with_reducible refine Bel.alloc ?_ _)) hb5;(first | (have qx:w5.heap[W3.heap.size]?=some (.cells #[.slice none 0 0,.slice none 0 0] 27 (0,0)):=(hb5.block _ (by simp;omega)).trans (heap_alloc2_old W3 _ _);have qy:w5.heap[W3.heap.size+1]?=some (.cells #[.int .i64 0,.int .i64 0,.slice none 0 0,.slice none 0 0] 34 (0,0)):=(hb5.block _ (by simp)).trans (heap_alloc2_new W3 _ _);have y0:=zAa qx 0;have y1:=zAa qx 1;simp only [cA1,cA2,cA3] at y0 y1;have yf:=fun j=>zAc qx j;have yl:=zAb qx;clear qx;have z0:=zAa qy 0;have z1:=zAa qy 1;have z2:=zAa qy 2;have z3:=zAa qy 3;simp only [cA1,cA2,cA3] at z0 z1 z2 z3;have zf:=fun j=>zAc qy j;have zl:=zAb qy;clear qy) | (have qx:w5.heap[W3.heap.size+1]?=some (.cells #[.slice none 0 0,.slice none 0 0] 27 (0,0)):=(hb5.block _ (by simp)).trans (heap_alloc2_new W3 _ _);have qy:w5.heap[W3.heap.size]?=some (.cells #[.int .i64 0,.int .i64 0,.slice none 0 0,.slice none 0 0] 34 (0,0)):=(hb5.block _ (by simp;omega)).trans (heap_alloc2_old W3 _ _);have y0:=zAa qx 0;have y1:=zAa qx 1;simp only [cA1,cA2,cA3] at y0 y1;have yf:=fun j=>zAc qx j;have yl:=zAb qx;clear qx;have z0:=zAa qy 0;have z1:=zAa qy 1;have z2:=zAa qy 2;have z3:=zAa qy 3;simp only [cA1,cA2,cA3] at z0 z1 z2 z3;have zf:=fun j=>zAc qy j;have zl:=zAb qy;clear qy) | (have qx:w5.heap[W3.heap.size]?=some (.cells #[.slice none 0 0,.slice none 0 0] 27 (0,0)):=(hb5.block _ (by simp)).trans (heap_alloc_new W3 _);have y0:=zAa qx 0;have y1:=zAa qx 1;simp only [cA1,cA2,cA3] at y0 y1;have yf:=fun j=>zAc qx j;have yl:=zAb qx;clear qx) | (have qy:w5.heap[W3.heap.size]?=some (.cells #[.int .i64 0,.int .i64 0,.slice none 0 0,.slice none 0 0] 34 (0,0)):=(hb5.block _ (by simp)).trans (heap_alloc_new W3 _);have z0:=zAa qy 0;have z1:=zAa qy 1;have z2:=zAa qy 2;have z3:=zAa qy 3;simp only [cA1,cA2,cA3] at z0 z1 z2 z3;have zf:=fun j=>zAc qy j;have zl:=zAb qy;clear qy) | skip)))
     all_goals
      go_wp2_with fail
      go_meet
      refine ⟨_,_,so5,sn5,sc5,ao5,n5,c5,na,nn,nc,b2,n2,c2,rfl,rfl,rfl,?_,?_,?_,?_,?_,?_,?_,?_,lH ⟨?_,ha5.out.hang _ ?_,ha5.out.far,?_,?_⟩⟩
      . first | (simp;done) | (go_simp;done)
      . first | (simp;done) | (go_simp;done)
      . first | (simp;done) | (go_simp;done)
      . first | (simp;done) | (go_simp;done)
      . first | (simp;done) | (go_simp;done)
      . first | (simp;done) | (go_simp;done)
      . intro j
        first | (simp;done) | (simp;exact zf j) | (go_simp;done)
      . first | (simp;done) | (simp;omega) | (go_simp;done)
      . repeat (first | with_reducible assumption | with_reducible exact Bel.refl _ | with_reducible refine Bel.dr ?_ | with_reducible refine Bel.alloc ?_ _ | with_reducible refine Bel.set ?_ (by first | exact zMs _ | (simp;done) | (simp;omega) | (have:=zNB bl5;omega)) _)
      . repeat (first | with_reducible exact Kept.refl _ _ | with_reducible refine Kept.dr ?_ | with_reducible refine Kept.alloc ?_ _ | with_reducible refine Kept.set ?_ (by first | exact .inl (zMs _) | exact .inl (zOo _) | (refine .inr ⟨?_,?_⟩<;>(first | exact zMs _ | (simp;done) | (simp;omega) | omega))) _)
      . first | exact zMs _ | exact zNB bl5 | (have:=zNB bl5;simp;omega) | (simp;done)
      . first | exact zMs _ | exact zNB bl5 | (have:=zNB bl5;simp;omega) | (simp;done)
    case rest=>
     obtain ⟨q13,q14,so5,sn5,sc5,ao5,n5,c5,na,nn,nc,b2,n2,c2,rfl,rfl,rfl,d0,d1,v0,v1,v2,v3,vf,vl,hD⟩:=hcut
     obtain ⟨hbl,⟨hq5,hx5⟩,⟨hf5,hf6⟩,h13,h14⟩:=hD.out
     have hbc:Below wr.heap.size wr wc:=zAd HBA.out hbl
     have p3:=(hbc.block _ l3).trans HP3r.out
     have p6:=(hbc.block _ l6).trans HP6r.out
     have hbwc:=zAd HBWr.out hbc
     have hz3:=HBA.out.size
     clear HSK HDO hD
     have hlw:w.heap.size+2<=wr.heap.size:=by omega
     have hoal:∀ g,oa=some ⟨g,0,none⟩->g<wr.heap.size:=fun g hg=>by
      have h4:=HM.out.2.2.2.1
      rw [hg] at h4
      exact h4.ge.2
     by_cases hde:de=0
     . have HSTP:=lH (HSTP0.out.trans (if_neg (fun h=>h hde)))
       subst hde
       have hk3:Kept (fun b=>b=w.heap.size) wr ((wc.setCell ⟨w.heap.size,0,none⟩ (.slice so5 sn5 sc5)).setCell ⟨w.heap.size,1,none⟩ (.slice ao5 n5 c5)):=((Kept.of (bad:=fun b=>b=w.heap.size) hbc).set (j:=0) (.inr rfl) _).set (j:=1) (.inr rfl) _
       have hk3c:Kept (fun b=>b=w.heap.size) wc ((wc.setCell ⟨w.heap.size,0,none⟩ (.slice so5 sn5 sc5)).setCell ⟨w.heap.size,1,none⟩ (.slice ao5 n5 c5)):=((Kept.refl (fun b=>b=w.heap.size) wc).set (j:=0) (.inr rfl) _).set (j:=1) (.inr rfl) _
       have HM6:=lH (HM.out.kept (t:=27) (by decide) HP3r.out hk3)
       have hXc:∀ b,b<wc.heap.size->b=w.heap.size->Plain wc b:=fun b _ e=>by rw [e];exact zBI p3
       have hk4:Kid4 Q5.s:=HK4.out
       have HQ6:=lH (zBU hq5 (X:=fun b=>b=w.heap.size) (fun g o e hs h=>by have:=hf5 g o e hs;omega) (fun g o e hs h=>by have:=hf6 g o e;omega) hk4 hXc _ hk3c)
       have HX6:=lH (hx5.hang hXc _ hk3c)
       have HF6:Hid ((∀ g o,so5=some ⟨g,o,none⟩->Q5.s≠[]->w.heap.size+2<=g/\oa≠some ⟨g,0,none⟩)/\∀ g o,ao5=some ⟨g,o,none⟩->Q5.tens≠[]->w.heap.size+2<=g/\oa≠some ⟨g,0,none⟩):=lH ⟨fun g o e hs=>⟨by have:=hf5 g o e hs;omega,fun e2=>by have:=hf5 g o e hs;have:=hoal g e2;omega⟩,fun g o e _=>⟨by have:=hf6 g o e;omega,fun e2=>by have:=hf6 g o e;have:=hoal g e2;omega⟩⟩
       have e0:=zAa p3 0
       have e1:=zAa p3 1
       simp only [cA1,cA2,cA3] at e0 e1
       have ef:=fun j=>zAc p3 j
       have lz3:=zAb p3
       have hq13:q13≠w.heap.size:=by omega
       have hq14:q14≠w.heap.size:=by omega
       have r0:=(hk3c.cell (j:=0) vl hq14).trans v0
       have r1:=(hk3c.cell (j:=1) vl hq14).trans v1
       have r2:=(hk3c.cell (j:=2) vl hq14).trans v2
       have r3:=(hk3c.cell (j:=3) vl hq14).trans v3
       obtain ⟨z3,zb⟩:=zDr p3 (.slice so5 sn5 sc5) (.slice ao5 n5 c5)
       have hbw6:=zb _ _ hbwc (zMs _)
       have z6:=(hk3c.block _ (zAb p6) (show ¬ w.heap.size+1=w.heap.size by omega)).trans p6
       clear p3 p6 hk3 hk3c hXc zb hq5 hx5 hf5 hf6 v0 v1 v2 v3 vf vl hbl hbc hbwc hoal
       go_upto_region 17 with fail
       generalize (wc.setCell ⟨w.heap.size,0,none⟩ (.slice so5 sn5 sc5)).setCell ⟨w.heap.size,1,none⟩ (.slice ao5 n5 c5)=W6 at *
       have p3:=z3
       have p6:=z6
       clear z3 z6 e0 e1 ef d0 d1
       have hb7:=bA0 W6 (.cells #[.int .i64 ae,.int .i64 an,.slice na nn nc,.slice b2 n2 c2] 34)
       obtain ⟨v7,w7,hrun,hown7,hg7,hat7⟩:=Kind.run_append (M:=anvK) (P:=Tryz.prog) (W6.alloc (.cells #[.int .i64 ae,.int .i64 an,.slice na nn nc,.slice b2 n2 c2] 34)) w.heap.size 56 i0 z 64 Tryz.underlying56 hi0 hz0 hsz hby hzc (x:=⟨ae,an,na,nn,nc,b2,n2,c2⟩) (HM6.out.2.2.2.1.mono hb7) W6.heap.size (heap_alloc_new _ _) (by have h1:=HM6.out.2.2.2.2.1.1;have h2:=HM6.out.2.2.2.2.1.2.1;have:=HL60.out;omega) (by omega) (by have:=hbw6.size;have:=hb7.size;omega)
       obtain ⟨oa7,on7,oc7,rfl⟩:∃ a b c,v7=.slice a b c:=by
        obtain ⟨a,c,e1,-⟩:=hown7.row
        exact ⟨a,_,c,e1⟩
       have HM7:=lH (HM6.out.next (by have:=HWL.out;have:=HLL.out;omega) (by have:=HLL.out;omega) HSTP.out HBY.out HQ6.out HF6.out.1 HF6.out.2 ⟨rfl,rfl,HX6.out⟩ hg7 hown7 hat7)
       have hob:∀ b,b<W6.heap.size->(∃ cs,W6.heap[b]?=some (.cells cs 27 (0,0)))->w7.heap[b]?=W6.heap[b]?:=fun b hl ⟨cs,hc⟩=>by
        refine (hg7.block b (zMw hl hb7.size) fun e=>?_).trans (hb7.block b hl)
        rcases HM6.out.2.2.2.1 with ⟨_,e1⟩ | ⟨g',cap',sp',e1,-,-,e4⟩
        . simp only [Value.slice.injEq] at e1
          rw [e1.1] at e
          cases e
        . simp only [Value.slice.injEq] at e1
          rw [e1.1] at e
          simp only [Value.ownBlock,zMz] at e
          rw [<- e,hc] at e4
          simp only [zMz,Obj.cells.injEq] at e4
          exact absurd e4.2.1 (by decide)
       have hp3:=(hob _ (zAb p3) ⟨_,p3⟩).trans p3
       have hp6:=(hob _ (zAb p6) ⟨_,p6⟩).trans p6
       have hbw7:Below w.heap.size w w7:=⟨hg7.os.trans (hb7.os.trans hbw6.os),hg7.tape.trans (hb7.tape.trans hbw6.tape),hg7.output.trans (hb7.output.trans hbw6.output),zMN hbw6.size (zMN hb7.size hg7.size),fun b hl=>(hg7.block b (by have:=hbw6.size;have:=hb7.size;omega) fun e=>by
        rcases HM6.out.2.2.2.1 with ⟨_,e1⟩ | ⟨g',cap',sp',e1,hge,-,-⟩
        . simp only [Value.slice.injEq] at e1
          rw [e1.1] at e
          cases e
        . simp only [Value.slice.injEq] at e1
          rw [e1.1] at e
          simp only [Value.ownBlock,zMz] at e
          omega).trans ((hb7.block b (by have:=hbw6.size;omega)).trans (hbw6.block b hl))⟩
       have HREL:=lH (And.intro hp3 (And.intro hp6 hbw7))
       clear hown7 hg7 hat7 hob hp3 hp6 hbw7 hb7 HM6 HQ6 HF6 HX6 HSTP p3 p6 hbw6
       go_wp2_with (at_builtin;refine zA6 rfl (.tmp 57) (.tmp 59) _ _ rfl rfl rfl hrun ?_)
       go_roundw
       case rel=>exact ⟨k+1,_,_,_,_,_,_,_,_,_,_,_,_,by omega,by go_num,rfl,HM7,HREL.out.1,HREL.out.2.1,HREL.out.2.2⟩
       case measure=>simp [intOf];omega
     . have HSTP:=lH (HSTP0.out.trans (if_pos hde))
       have he1:(de != 0)=true:=by rw [bne_iff_ne];exact hde
       have hk3:Kept (fun b=>b=w.heap.size) wr ((((wc.setCell ⟨q14,0,none⟩ (.int .i64 de)).setCell ⟨q14,1,none⟩ (.int .i64 0)).setCell ⟨q14,2,none⟩ (.slice none 0 0)).setCell ⟨q14,3,none⟩ (.slice none 0 0)):=((((Kept.of (bad:=fun b=>b=w.heap.size) hbc).set (j:=0) (.inl (by omega)) _).set (j:=1) (.inl (by omega)) _).set (j:=2) (.inl (by omega)) _).set (j:=3) (.inl (by omega)) _
       have HM6:=lH (HM.out.kept (t:=27) (by decide) HP3r.out hk3)
       have HQ6:=lH HM6.out.2.1
       have HX6:=lH (AnwIn.none ((((wc.setCell ⟨q14,0,none⟩ (.int .i64 de)).setCell ⟨q14,1,none⟩ (.int .i64 0)).setCell ⟨q14,2,none⟩ (.slice none 0 0)).setCell ⟨q14,3,none⟩ (.slice none 0 0)) de 0)
       have HF6:=lH HM6.out.2.2.2.2.2
       have hne3:w.heap.size≠q14:=by omega
       have hne6:w.heap.size+1≠q14:=by omega
       have hother:∀ b,b≠q14->((((wc.setCell ⟨q14,0,none⟩ (.int .i64 de)).setCell ⟨q14,1,none⟩ (.int .i64 0)).setCell ⟨q14,2,none⟩ (.slice none 0 0)).setCell ⟨q14,3,none⟩ (.slice none 0 0)).heap[b]?=wc.heap[b]?:=fun b hb=>(zMu _ _ _ _ hb).trans ((zMu _ _ _ _ hb).trans ((zMu _ _ _ _ hb).trans (zMu _ _ _ _ hb)))
       have z3:=(hother _ hne3).trans p3
       have z6:=(hother _ hne6).trans p6
       have r0:((((wc.setCell ⟨q14,0,none⟩ (.int .i64 de)).setCell ⟨q14,1,none⟩ (.int .i64 0)).setCell ⟨q14,2,none⟩ (.slice none 0 0)).setCell ⟨q14,3,none⟩ (.slice none 0 0)).cell? ⟨q14,0,none⟩=some (.int .i64 de):=by
        rw [zAf (by omega),zAf (by omega),zAf (by omega)]
        exact zMQ _ _ _ v0
       have r1:((((wc.setCell ⟨q14,0,none⟩ (.int .i64 de)).setCell ⟨q14,1,none⟩ (.int .i64 0)).setCell ⟨q14,2,none⟩ (.slice none 0 0)).setCell ⟨q14,3,none⟩ (.slice none 0 0)).cell? ⟨q14,1,none⟩=some (.int .i64 0):=by
        rw [zAf (by omega),zAf (by omega)]
        exact zMQ _ _ _ ((zAf (by omega)).trans v1)
       have r2:((((wc.setCell ⟨q14,0,none⟩ (.int .i64 de)).setCell ⟨q14,1,none⟩ (.int .i64 0)).setCell ⟨q14,2,none⟩ (.slice none 0 0)).setCell ⟨q14,3,none⟩ (.slice none 0 0)).cell? ⟨q14,2,none⟩=some (.slice none 0 0):=by
        rw [zAf (by omega)]
        exact zMQ _ _ _ ((zAf (by omega)).trans ((zAf (by omega)).trans v2))
       have r3:((((wc.setCell ⟨q14,0,none⟩ (.int .i64 de)).setCell ⟨q14,1,none⟩ (.int .i64 0)).setCell ⟨q14,2,none⟩ (.slice none 0 0)).setCell ⟨q14,3,none⟩ (.slice none 0 0)).cell? ⟨q14,3,none⟩=some (.slice none 0 0):=zMQ _ _ _ ((zAf (by omega)).trans ((zAf (by omega)).trans ((zAf (by omega)).trans v3)))
       have hbw6:Below w.heap.size w ((((wc.setCell ⟨q14,0,none⟩ (.int .i64 de)).setCell ⟨q14,1,none⟩ (.int .i64 0)).setCell ⟨q14,2,none⟩ (.slice none 0 0)).setCell ⟨q14,3,none⟩ (.slice none 0 0)):=(((hbwc.setCell (p:=⟨q14,0,none⟩) (by show w.heap.size<=q14;omega) _).setCell (p:=⟨q14,1,none⟩) (by show w.heap.size<=q14;omega) _).setCell (p:=⟨q14,2,none⟩) (by show w.heap.size<=q14;omega) _).setCell (p:=⟨q14,3,none⟩) (by show w.heap.size<=q14;omega) _
       clear p3 p6 hk3 hother hq5 hx5 hf5 hf6 hbl hbc hbwc hoal d0 d1
       go_upto_region 17 with fail
       generalize (((wc.setCell ⟨q14,0,none⟩ (.int .i64 de)).setCell ⟨q14,1,none⟩ (.int .i64 0)).setCell ⟨q14,2,none⟩ (.slice none 0 0)).setCell ⟨q14,3,none⟩ (.slice none 0 0)=W6 at *
       have p3:=z3
       have p6:=z6
       clear z3 z6 v0 v1 v2 v3 vf vl
       have hb7:=bA0 W6 (.cells #[.int .i64 de,.int .i64 0,.slice none 0 0,.slice none 0 0] 34)
       obtain ⟨v7,w7,hrun,hown7,hg7,hat7⟩:=Kind.run_append (M:=anvK) (P:=Tryz.prog) (W6.alloc (.cells #[.int .i64 de,.int .i64 0,.slice none 0 0,.slice none 0 0] 34)) w.heap.size 56 i0 z 64 Tryz.underlying56 hi0 hz0 hsz hby hzc (x:=⟨de,0,none,0,0,none,0,0⟩) (HM6.out.2.2.2.1.mono hb7) W6.heap.size (heap_alloc_new _ _) (by have h1:=HM6.out.2.2.2.2.1.1;have h2:=HM6.out.2.2.2.2.1.2.1;have:=HL60.out;omega) (by omega) (by have:=hbw6.size;have:=hb7.size;omega)
       obtain ⟨oa7,on7,oc7,rfl⟩:∃ a b c,v7=.slice a b c:=by
        obtain ⟨a,c,e1,-⟩:=hown7.row
        exact ⟨a,_,c,e1⟩
       have HM7:=lH (HM6.out.next (by have:=HWL.out;have:=HLL.out;omega) (by have:=HLL.out;omega) HSTP.out HBY.out HQ6.out HF6.out.1 HF6.out.2 ⟨rfl,rfl,HX6.out⟩ hg7 hown7 hat7)
       have hob:∀ b,b<W6.heap.size->(∃ cs,W6.heap[b]?=some (.cells cs 27 (0,0)))->w7.heap[b]?=W6.heap[b]?:=fun b hl ⟨cs,hc⟩=>by
        refine (hg7.block b (zMw hl hb7.size) fun e=>?_).trans (hb7.block b hl)
        rcases HM6.out.2.2.2.1 with ⟨_,e1⟩ | ⟨g',cap',sp',e1,-,-,e4⟩
        . simp only [Value.slice.injEq] at e1
          rw [e1.1] at e
          cases e
        . simp only [Value.slice.injEq] at e1
          rw [e1.1] at e
          simp only [Value.ownBlock,zMz] at e
          rw [<- e,hc] at e4
          simp only [zMz,Obj.cells.injEq] at e4
          exact absurd e4.2.1 (by decide)
       have hp3:=(hob _ (zAb p3) ⟨_,p3⟩).trans p3
       have hp6:=(hob _ (zAb p6) ⟨_,p6⟩).trans p6
       have hbw7:Below w.heap.size w w7:=⟨hg7.os.trans (hb7.os.trans hbw6.os),hg7.tape.trans (hb7.tape.trans hbw6.tape),hg7.output.trans (hb7.output.trans hbw6.output),zMN hbw6.size (zMN hb7.size hg7.size),fun b hl=>(hg7.block b (by have:=hbw6.size;have:=hb7.size;omega) fun e=>by
        rcases HM6.out.2.2.2.1 with ⟨_,e1⟩ | ⟨g',cap',sp',e1,hge,-,-⟩
        . simp only [Value.slice.injEq] at e1
          rw [e1.1] at e
          cases e
        . simp only [Value.slice.injEq] at e1
          rw [e1.1] at e
          simp only [Value.ownBlock,zMz] at e
          omega).trans ((hb7.block b (by have:=hbw6.size;omega)).trans (hbw6.block b hl))⟩
       have HREL:=lH (And.intro hp3 (And.intro hp6 hbw7))
       clear hown7 hg7 hat7 hob hp3 hp6 hbw7 hb7 HM6 HQ6 HF6 HX6 HSTP p3 p6 hbw6
       go_wp2_with (at_builtin;refine zA6 rfl (.tmp 57) (.tmp 59) _ _ rfl rfl rfl hrun ?_)
       go_roundw
       case rel=>exact ⟨k+1,_,_,_,_,_,_,_,_,_,_,_,_,by omega,by go_num,rfl,HM7,HREL.out.1,HREL.out.2.1,HREL.out.2.2⟩
       case measure=>simp [intOf];omega
  . obtain rfl:k=ln:=by omega
    have hlt':¬ (k:Int)<k:=by omega
    have hM:=HM.out
    obtain ⟨m1,m2,m3,m4,⟨m5,m6,m7⟩,m8,m9⟩:=hM
    have ht1:who.take k=who:=zMM (by have:=HWL.out;have:=HWL2.out;omega)
    have ht2:l.take k=l:=zMM (by have:=HLL.out;omega)
    rw [ht1,ht2] at m1
    have q0:=zAa p6 0
    have q1:=zAa p6 1
    simp only [cA1,cA2,cA3] at q0 q1
    have qf:=fun j=>zAc p6 j
    obtain ⟨z6,zb⟩:=zDr p6 (.slice so sn sc) (.slice ao n cap)
    have hbz:=zb _ _ hbw4 (zOo _)
    have x0:=zAa z6 0
    have x1:=zAa z6 1
    simp only [cA1,cA2,cA3] at x0 x1
    have HRR:Hid (r=(q,out,0)):=lH (by rw [HR.out,m1])
    have hX:∀ b,b<wr.heap.size->b=w.heap.size+1->Plain wr b:=fun b _ e=>by rw [e];exact zBI p6
    have hkp:Kept (fun b=>b=w.heap.size+1) wr ((wr.setCell ⟨w.heap.size+1,0,none⟩ (.slice so sn sc)).setCell ⟨w.heap.size+1,1,none⟩ (.slice ao n cap)):=((Kept.refl (fun b=>b=w.heap.size+1) wr).set (j:=0) (.inr rfl) _).set (j:=1) (.inr rfl) _
    have HFIN:Hid (zAG ((wr.setCell ⟨w.heap.size+1,0,none⟩ (.slice so sn sc)).setCell ⟨w.heap.size+1,1,none⟩ (.slice ao n cap)) so sn sc ao n cap q/\OutIn w.heap.size ((wr.setCell ⟨w.heap.size+1,0,none⟩ (.slice so sn sc)).setCell ⟨w.heap.size+1,1,none⟩ (.slice ao n cap)) (.slice oa on oc) out):=lH ⟨zBU m2 (X:=fun b=>b=w.heap.size+1) (fun g o e hs h=>by have:=(m8 g o e hs).1;omega) (fun g o e hs h=>by have:=(m9 g o e hs).1;omega) (Good.of_check m3.1.chk m3.2).kid4 hX _ hkp,vs,m4.other (fun g hg hl=>hkp.block g hl fun e=>by
     have e:g=w.heap.size+1:=e
     subst hg
     have h10:=m4.typ (by rw [e];exact p6)
     exact absurd h10 (by decide)),m5,fun i a b=>⟨(m7 i a b).1,(m7 i a b).2.1,(m7 i a b).2.2.hang hX _ hkp⟩⟩
    clear z6 zb hX hkp m1 m2 m3 m4 m5 m6 m7 m8 m9 ht1 ht2 HM p3 p6
    go_wp2_with fail
    refine bodyPost_ret (v:=.tuple #[.agg #[.slice so sn sc,.slice ao n cap],.slice oa on oc,.int .i64 0]) (by simp [results,Tryz.results13,go_sem,x0,x1]) rfl ?_
    rw [HRR.out]
    exact ⟨so,sn,sc,ao,n,cap,oa,on,oc,rfl,hbz,HFIN.out.1,HFIN.out.2⟩
end Go.Proofs.YtfmgdjgedhnmeaaGreat
