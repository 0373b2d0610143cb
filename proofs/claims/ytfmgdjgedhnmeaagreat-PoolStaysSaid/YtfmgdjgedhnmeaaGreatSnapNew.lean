/- set.at's snaps: one is made. -/
import Derived.Test.YtfmgdjgedhnmeaaGreatSnapsP
namespace Go.Proofs.YtfmgdjgedhnmeaaGreat
open Go.RowKit
set_option linter.unusedVariables false
set_option linter.unusedSimpArgs false
set_option maxRecDepth 100000 in
set_option maxHeartbeats 16000000 in
theorem snap_new (w:World) (B P base bx n cap fn fc sn sc bn bc:Nat) (key:Int) (ao fo so ba:Option Addr) (s:List Blk) (x:SetV) (vs:List Snv) (a:AskV) (hA:AtIn w B P base bx key ao n cap s fo fn fc so sn sc x vs) (hsm:zCM x) (hrise:zAw (x.snaps.map Snp.nm))
 (hlv:Lv s) (hri:zF4 s) (hlow:zAC s (rootsF x.files)) (hlows:∀ y∈x.snaps,zAC s (rootsF y.files)) (hk7:a.kind=7) :
 Calls Tryz.prog 66 #[.pointer (some ⟨B,0,none⟩),.agg #[.int .i64 a.kind,.string a.sname,.string a.file,.string a.dest,.int .i64 a.at_,.int .i64 a.n,.slice ba bn bc]] w fun e w'=>e=.returned (.int .i64 (snapsR s x a).2.2)/\SnEnd w w' B P base bx key ao n cap (snapsR s x a):=by
 have hbase:base<=w.heap.size:=by have:=hA.hP;have:=hA.hPx;have:=hA.hbx;omega
 have hbxw:=hA.hbx
 have hfgw:=hA.fge
 have hsgw:=hA.sge
 have hBw:=zAb hA.abox
 have hfl:=hA.ox.len.1
 have hsl:=hA.ox.len.2
 have hf6:fn<=6:=by have:=hsm.files;omega
 have hs3:sn<=3:=by have:=hsm.snaps;omega
 have hf6':(fn:Int)<=6:=by omega
 have hs3':(sn:Int)<=3:=by omega
 obtain ⟨kind,aset,afile,ato,aat,an,abytes⟩:=a
 have HK7:Hid (kind=7):=lH hk7
 clear hk7
 have hb0:=bA0 w (.cells #[.int .i64 kind,.string aset,.string afile,.string ato,.int .i64 aat,.int .i64 an,.slice ba bn bc] 30)
 have q0:=heap_alloc_new w (.cells #[.int .i64 kind,.string aset,.string afile,.string ato,.int .i64 aat,.int .i64 an,.slice ba bn bc] 30)
 have hA1:=hA.mono hb0
 obtain ⟨RD,hRD⟩:∃ RD,snapsR s x ⟨kind,aset,afile,ato,aat,an,abytes⟩=RD:=⟨_,rfl⟩
 rw [hRD]
 unfold snapsR at hRD
 simp only at hRD
 obtain ⟨PN,hPN⟩:∃ PN,placeN (x.snaps.map Snp.nm) ato=PN:=⟨_,rfl⟩
 obtain ⟨PB,hPB⟩:∃ PB,placeB (x.snaps.map Snp.nm) ato=PB:=⟨_,rfl⟩
 have hple:PN<=sn:=by rw [<- hPN,hsl];have:=zBt (x.snaps.map Snp.nm) ato;rwa [zMA] at this
 have hplt:PB=true->PN<sn:=fun h=>by rw [<- hPN,hsl];have:=(zAU (hPB.trans h)).1;rwa [zMA] at this
 have HPLT:=lH hplt
 have HFL:=lH hfl
 have HSL:=lH hsl
 have HNM:=lH hA.ox.names
 have HVL:Hid (vs.length=sn):=lH (hA.ox.vlen.trans hsl.symm)
 have HP1:=lH (fun (u:World) (hr:snvK.Row u so vs)=>zGu u x.nm fo so fn fc sn sc vs ato HVL.out (by omega) hr (by rw [HNM.out];exact hrise))
 rw [HNM.out,hPN,hPB] at HP1
 rw [hPN,hPB] at hRD
 have HRD:=lH hRD
 have HFGW:=lH hfgw
 have HSGW:=lH hsgw
 have HLOW:=lH hlow
 have HLOWS:=lH hlows
 have HLV:=lH hlv
 have HRI:=lH hri
 have HSM:=lH hsm
 clear hRD hPN hPB hplt hfl hsl hrise hA hfgw hsgw hlow hlows hlv hri hsm HNM
 have hA1':=hA1
 go_enter Tryz.func66,Tryz.ntmps66
 go_wp2_with fail
 generalize w.alloc (.cells #[.int .i64 kind,.string aset,.string afile,.string ato,.int .i64 aat,.int .i64 an,.slice ba bn bc] 30)=W0 at *
 refine (zBR _ _).mono ?_
 rintro e w' ⟨rfl,rfl⟩
 have hbw0:Below base w w':=hb0.mono hbase
 cases hnb:nameB ato with
 | false=>
  have HR:Hid (RD=(s,x,1)):=lH (HRD.out.symm.trans (if_pos hnb))
  clear hA1 hA1' HRD HP1
  go_wp2
  go_ret
  rw [HR.out]
  exact ⟨rfl,hbw0,fun h=>by simp at h⟩
 | true=>
  have hR:=HRD.out.symm
  rw [if_neg (by rw [hnb];simp)] at hR
  have HR0:=lH hR
  clear hR HRD hA1'
  replace hnb:=lH hnb
  have a2:=zAa hA1.abox 2
  have a3:=zAa hA1.abox 3
  have a4:=zAa hA1.abox 4
  have k3:=zAa q0 3
  simp only [cA1,cA2,cA3] at a2 a3 a4 k3
  have lA:=zAb hA1.abox
  have lK:=zAb q0
  obtain ⟨sa,scc,hsv,hsr,-,-⟩:=hA1.ox.snaps.row
  simp only [Value.slice.injEq] at hsv
  obtain ⟨rfl,-,rfl⟩:=hsv
  have HPM:=lH (fun v=>HP1.out (mix w' v) (hsr.mono (zAZ _ _)))
  clear hsr HP1
  go_wp2_with fail
  refine zAT (by kernel_rfl) (by kernel_rfl) ?_
  repeat (go_big_quiet_step (first
   | (go_at_call 63;refine zBq (v:=.tuple #[.int .i64 PN,.bool PB]) ?_;with_reducible exact HPM.out _)))
  refine wpQuiet_nil ?_
  intro w2 hb2
  have hA2:=hA1.mono hb2
  have q2:=Zm hb2 q0
  have hbw2:Below base w w2:=hbw0.trans (hb2.mono (by have:=hA1.hP;have:=hA1.hPx;have:=hA1.hbx;omega))
  have hsz2:w.heap.size<w2.heap.size:=zAb q2
  clear a2 a3 a4 k3 lA lK HPM hA1 q0 hb2 hbw0 hb0
  have a0:=zAa hA2.abox 0
  have a3:=zAa hA2.abox 3
  have a4:=zAa hA2.abox 4
  have k0:=zAa q2 0
  have k3:=zAa q2 3
  simp only [cA1,cA2,cA3] at a0 a3 a4 k0 k3
  have lA:=zAb hA2.abox
  have lK:=zAb q2
  have h7:kind=7:=HK7.out
  all_goals
   have hR:=HR0.out
   rw [if_pos h7] at hR
   have h7':(kind==7)=true:=by rw [beq_iff_eq];exact h7
   subst h7
   cases PB with
   | true=>
    have HR:Hid (RD=(s,x,6)):=lH (hR.trans (if_pos rfl))
    clear hA2 HR0 hR
    go_wp2
    go_ret
    rw [HR.out]
    exact ⟨rfl,hbw2,fun h=>by simp at h⟩
   | false=>
    rw [if_neg (by simp)] at hR
    by_cases h3:sn=3
    . rw [if_pos (by rw [<- HSL.out];exact h3)] at hR
      have HR:=lH hR
      subst h3
      clear hA2 HR0 hR
      go_wp2
      go_ret
      rw [HR.out]
      exact ⟨rfl,hbw2,fun h=>by simp at h⟩
    . rw [if_neg (by rw [<- HSL.out];exact h3)] at hR
      have HR:=lH hR
      have h3':((sn:Int)==3)=false:=by rw [beq_eq_false_iff_ne];omega
      have h3'':¬ ((sn:Int)=3):=by omega
      clear HR0 hR
      have HA3:=lH (hA2.mono (zMy w2.heap.size w2).drew)
      have HB3:Hid (Below base w w2.drew):=lH hbw2.drew
      have q3:w2.drew.heap[w.heap.size]?=_:=q2
      have HQ3:=lH q3
      clear hA2 hbw2 q2 q3
      go_wp2_with fail
      go_still_tail 9,(by kernel_rfl)
      change wpList _ _ _ _ _ w2.drew
      clear a0 a3 a4 k0 k3 lA lK
      generalize w2.drew=w3 at *
      go_wp2_with fail
      have hA3:=HA3.out
      refine (zFn w3 P base ao fo n cap fn fc s x.files hA3.slen hA3.n4 hA3.sbox hA3.own (zMN hbase HB3.out.size) (fun g h1 h2=>Ne.symm (hA3.row g h1 h2).2) (fun y hy=>by have:=HRI.out y hy;omega) HFL.out.symm hf6 hA3.filesFar (HLOW.out.in_ hA3.slen)).mono ?_
      rintro e w4 ⟨rfl,hI4⟩
      have hA4:=hA3.store hI4 ((zAp _ _).trans hA3.slen) (hA3.kid4.bump _)
      have hbw4:Below base w w4:=HB3.out.trans hI4.below
      have q4:=(hI4.frame _ (zAb HQ3.out) (fun g h1 h2=>by have:=(hA3.row g h1 h2).1;omega)).trans HQ3.out
      clear hA3 HA3 HB3 HQ3 hI4
      have HSG:Hid (∀ g,so=some ⟨g,0,none⟩->g<w4.heap.size):=lH fun g hg=>(hA4.sge g hg).2
      have HFG:Hid (∀ g,fo=some ⟨g,0,none⟩->g<w4.heap.size):=lH fun g hg=>(hA4.fge g hg).2
      have hAd:=hA4.mono (zMy w4.heap.size w4).drew
      have HA4:=lH hAd
      have a3:=zAa hA4.abox 3
      have a4:=zAa hA4.abox 4
      have k3:=zAa q4 3
      simp only [cA1,cA2,cA3] at a3 a4 k3
      have lA:=zAb hA4.abox
      have lK:=zAb q4
      have HCL:=lH (zCq w4.drew fo fn fc x.files HFL.out.symm hAd.ox.is.frow hAd.ox.is.fcap (by omega))
      have HINS:Hid (∀ (u:World) (vb:Nat) (y:Snv),AtIn u B P base bx key ao n cap (bump s (rootsF x.files)) fo fn fc so sn sc x vs->u.heap[vb]?=some (.cells (snvK.cells y).toArray 79 (0,0))->so≠some ⟨vb,0,none⟩->Calls Tryz.prog 86 #[.slice so sn sc,.int .i64 PN,.slice (some ⟨vb,0,none⟩) 1 1] u fun e w'=>zDR snvK u w' bx so vs PN y e):=
       lH fun u vb y hu hv hvb=>zIo u bx so sn sc PN vb vs y HVL.out (by omega) hple hu.ox.snaps hu.hbx hv hvb
      have HB4:=lH hbw4.drew
      clear hA4 hAd q4 hbw4
      go_wp2_with fail
      go_region_with (first
       | (go_at_call 52;refine HCL.out.mono ?_;rintro e w5 ⟨v5,rfl,ho5,hb5⟩;obtain ⟨a5,c5,rfl,-,hc5,hz5⟩:=ho5.row;have u3:=Zc hb5 lA a3;have u4:=Zc hb5 lA a4;have uk:=Zc hb5 lK k3;have zA:=zMw lA hb5.size;have zK:=zMw lK hb5.size)
       | (go_at_call 86;refine (HINS.out _ w5.heap.size ⟨ato,a5,x.files.length,c5⟩ ((HA4.out.mono hb5).mono ((zMy _ _).alloc (zMs _) _)) (heap_alloc_new _ _) (fun e=>by have:=HSG.out _ e;have h9:w4.heap.size<=w5.heap.size:=hb5.size;omega)).mono ?_;rintro e w6 ⟨so6,sc6,rfl,ho6,hb6,hk6,hnew6⟩;have ab6:=(hk6 B (by have:=zA;simp;omega) HA4.out.sB).trans ((HA4.out.mono hb5).mono ((zMy _ _).alloc (zMs _) _)).abox;have y4:=zAa ab6 4;simp only [cA1,cA2,cA3] at y4;have yf:=fun j=>zAc ab6 j;have y1:=zAb ab6))
      all_goals
       have hFIN:=lH (zIl HA4.out hb5 ho5 hc5 hz5 ((zMy _ _).alloc (zMs _) _) ho6 hb6 hk6 hnew6 HB4.out)
       clear ho5 hb5 hc5 hz5 ho6 hb6 hk6 hnew6 ab6 y4 yf y1 u3 u4 uk zA zK a3 a4 k3 lA lK HCL HINS HA4
       go_wp2
       go_ret
       rw [HR.out]
       exact ⟨rfl,hFIN.out⟩
end Go.Proofs.YtfmgdjgedhnmeaaGreat
