/- An ask that came in, opened. · The law PoolUses. -/
import Derived.Test.YtfmgdjgedhnmeaaPoolX
import Derived.Test.YtfmgdjgedhnmeaaPoolY
import Derived.BigQuiet
import Derived.Deep.RegionWith
import Derived.Test.YtfmgdjgedhnmeaaPooled
namespace Go.Proofs.Ytfmgdjgedhnmeaa
open Go.RowKit Go.ChangeShapes Go.WideShapes Go.Deep Go.Joins
set_option linter.unusedVariables false
set_option linter.unusedSimpArgs false
section
variable {H:Type} {enc:TypeId×Value→H} {w:World} {base:Nat} {spare:Nat→Bool} {held:Bool}
set_option maxRecDepth 100000 in
theorem zKP {r:Reach} {b0:Nat} {v:Value} {d:DataW H} {q:List MemPlace} (hv:Value.okWide Try.prog w r b0 67 v) (h:DataW.Trod enc Try.prog w base spare held 67 v d q) (hw:∀ n∈d.weights Try.prog 67,n≤reachBytes) :
 ∃ ba bn bc a,v=.agg #[.int .i64 a.kind,.string a.sname,.string a.file,.string a.dest,.int .i64 a.at_,.int .i64 a.n,.slice ba bn bc]∧AskIn w ba bn bc a:=by
 obtain ⟨cs,rfl,hsz⟩:=okWide_struct Try.underlying67 hv
 obtain ⟨cl⟩:=cs
 have hsz1:cl.length=7:=hsz.trans (by kernel_rfl)
 match cl,hsz1 with
 | [v0,v1,v2,v3,v4,v5,v6],_=>
  obtain ⟨fuel,hf⟩:=h
  obtain ⟨y0,y1,y2,y3,y4,y5,y6,m,hx,h0,h1,h2,h3,h4,h5,h6⟩:=zGT Try.underlying67 hf
  replace h0:DataW.trod enc Try.prog w base spare held m 3 [v0]=some y0:=h0
  replace h1:DataW.trod enc Try.prog w base spare held m 9 [v1]=some y1:=h1
  replace h2:DataW.trod enc Try.prog w base spare held m 9 [v2]=some y2:=h2
  replace h3:DataW.trod enc Try.prog w base spare held m 9 [v3]=some y3:=h3
  replace h4:DataW.trod enc Try.prog w base spare held m 3 [v4]=some y4:=h4
  replace h5:DataW.trod enc Try.prog w base spare held m 3 [v5]=some y5:=h5
  replace h6:DataW.trod enc Try.prog w base spare held m 38 [v6]=some y6:=h6
  have hd:d=.agg [y0.1,y1.1,y2.1,y3.1,y4.1,y5.1,y6.1]:=by simpa using hx
  subst hd
  obtain ⟨x0,e0,_,_⟩:=DataW.trod_int Try.underlying3 h0
  obtain ⟨x1,e1,_,_⟩:=DataW.trod_string Try.underlying9 h1
  obtain ⟨x2,e2,_,_⟩:=DataW.trod_string Try.underlying9 h2
  obtain ⟨x3,e3,_,_⟩:=DataW.trod_string Try.underlying9 h3
  obtain ⟨x4,e4,_,_⟩:=DataW.trod_int Try.underlying3 h4
  obtain ⟨x5,e5,_,_⟩:=DataW.trod_int Try.underlying3 h5
  obtain ⟨bs,s6,w6,b6⟩:=zID Try.underlying38 Try.underlying5 (by kernel_rfl) h6
  simp at e0 e1 e2 e3 e4 e5
  subst e0 e1 e2 e3 e4 e5
  have hbs:=b6 (fun n hn=>hw n (by simp [DataW.weights,DataW.weightsEach,Try.underlying67,hn]))
  have e1':Try.prog.bytesOf 5=1:=by kernel_rfl
  rw [e1'] at hbs
  have hR:reachBytes=140737488351232:=rfl
  obtain ⟨ba,bc,rfl,hr,hcp⟩:=s6
  exact ⟨ba,bs.length,bc,⟨x0,x1,x2,x3,x4,x5,bs⟩,rfl,⟨rfl,hr,hcp,byt_of w6,by omega⟩⟩
end
end Go.Proofs.Ytfmgdjgedhnmeaa

namespace Go.Proofs.Ytfmgdjgedhnmeaa
open Go.RowKit
set_option linter.unusedVariables false
set_option linter.unusedSimpArgs false
theorem zHk {p:PoolV} {i:Int} {a:AskV} (h:(doP p i a).2.2=0):poolE p=0∧0≤i∧i<p.tens.length:=by
 unfold doP at h
 split at h
 · rename_i h1;exact absurd h h1
 · rename_i h1
   split at h
   · exact absurd h (show ¬ (5:Int)=0 by decide)
   · rename_i h2
     exact ⟨Classical.not_not.1 h1,by omega,by omega⟩
theorem zJa {p:PoolV} (hp:zAM p) {k:Nat} (hk:k<p.tens.length) {u:AskV} (hu:u.kind=13):(doP p (k:Int) u).2=(⟨0,(reachL p.s (rootsT p.tens[k])).length,[],[]⟩,0):=by
 have e:tenAt p (k:Int)=p.tens[k]:=zGP (zMt hk)
 unfold doP
 rw [if_neg (not_not_intro hp.zero),if_neg (by omega),e,zIZ hu,if_neg (by simp),(hp.ten _ (zMr hk)).reach hp.chk]
theorem uses_law {p:PoolV} (hw:WfS p.s) {i:Int} {a:AskV} (hb:Byt a.bytes) (h:(doP p i a).2.2=0) {k:Nat} (hk:k<p.tens.length) {u:AskV} (hu:u.kind=13) :
 ∃ N M:Nat,(doP p (k:Int) u).2=(⟨0,N,[],[]⟩,0)∧(doP (doP p i a).1 (k:Int) u).2=(⟨0,M,[],[]⟩,0)∧(N:Int)≤p.tens[k].quota∧(M:Int)≤p.tens[k].quota∧((k:Int)=i∨N=M):=by
 obtain ⟨h1,h2,h3⟩:=zHk h
 have hp:=zCC h1
 obtain ⟨hq,hqw⟩:=zIP hp hw hb h
 have hi:i.toNat<p.tens.length:=by omega
 have e:tenAt p i=p.tens[i.toNat]:=by unfold tenAt;rw [zMt hi];rfl
 have hfit:=hp.fits _ (zMr hk)
 have key:∃ hkq:k<(doP p i a).1.tens.length,((reachL (doP p i a).1.s (rootsT (doP p i a).1.tens[k])).length:Int)≤p.tens[k].quota∧((k:Int)=i∨reachL (doP p i a).1.s (rootsT (doP p i a).1.tens[k])=reachL p.s (rootsT p.tens[k])):=by
  unfold doP at h ⊢
  rw [if_neg (not_not_intro h1)] at h ⊢
  rw [if_neg (by omega)] at h ⊢
  split
  · exact ⟨hk,hfit,.inr rfl⟩
  · rename_i h4
    have h4':=Classical.not_not.1 h4
    have hS:=zKu hp hw (zMr hi) hb (a:=a) (by rw [← e];exact h4')
    rw [← e] at hS
    refine ⟨by simpa using hk,?_,?_⟩
    · simp only [zMP]
      split
      · rename_i e2
        have e3:p.tens[k]=tenAt p i:=by rw [e];congr 1;omega
        rw [e3]
        exact hS.fits
      · rename_i e2
        have hap:=List.pairwise_iff_getElem.1 hp.apart
        have hne:∀ x∈reachL p.s (rootsT p.tens[k]),x∉reachL p.s (rootsT p.tens[i.toNat]):=fun x hx hx2=>by
         rcases zNp k i.toNat with c | c
         · exact hap k i.toNat hk hi c x hx hx2
         · exact hap i.toNat k hi hk (by omega) x hx2 hx
        rw [← e] at hne
        rw [(hS.other hp.chk (hp.ten _ (zMr hk)) hne).2.2]
        exact hfit
    · by_cases e2:(k:Int)=i
      · exact .inl e2
      · right
        have hne':¬ i.toNat=k:=by omega
        simp only [zMP,if_neg hne']
        have hap:=List.pairwise_iff_getElem.1 hp.apart
        have hne:∀ x∈reachL p.s (rootsT p.tens[k]),x∉reachL p.s (rootsT p.tens[i.toNat]):=fun x hx hx2=>by
         rcases zNp k i.toNat with c | c
         · exact hap k i.toNat hk hi c x hx hx2
         · exact hap i.toNat k hi hk (by omega) x hx2 hx
        rw [← e] at hne
        exact (hS.other hp.chk (hp.ten _ (zMr hk)) hne).2.2
 obtain ⟨hkq,hf,hs⟩:=key
 exact ⟨_,_,zJa hp hk hu,zJa hq hkq hu,hfit,hf,hs.imp id fun h=>by rw [h]⟩
theorem law_at (k:Int) (n:Nat) (w:World) (hn:0<n) (hs:n≤1152921504606846976) (h1:-9223372036854775808≤k) (h2:k≤9223372036854775807) :
 Calls Try.prog 26 #[.int .i64 k,.int .i64 n] w fun e w'=>∃ r:Nat,r<n∧e=.returned (.int .i64 r)∧w=w':=by
 have hn':(1:Int)≤n:=by omega
 have hs':(n:Int)≤1152921504606846976:=by omega
 rcases (show k<0∨0≤k from by omega) with hk | hk
 · have e0:k.tmod n=-((-k)%n):=by
    have:=Int.neg_tmod (-k) n
    rw [Int.neg_neg,Int.tmod_eq_emod_of_nonneg (a:=-k) (by omega)] at this
    exact this
   have b1:=Int.emod_nonneg (-k) (show (n:Int)≠0 by omega)
   have b2:=Int.emod_lt_of_pos (-k) (show (0:Int)<n by omega)
   have hm:-(n:Int)<k.tmod n∧k.tmod n≤0:=by omega
   obtain ⟨m1,m2⟩:=hm
   have HN:=Lib.hid hn
   have hne:((n:Int)==0)=false:=by simp;omega
   clear e0 b1 b2 hn hs
   rcases (show k.tmod n<0∨k.tmod n=0 from by omega) with hz | hz
   · obtain ⟨r,hr⟩:=Int.eq_ofNat_of_zero_le (show 0≤k.tmod n+n by omega)
     have HR:=Lib.hid hr
     have hlt:r<n:=by omega
     clear hr
     go_enter Try.func26,Try.ntmps26
     go_wp2
     go_ret
     exact ⟨r,hlt,zAm HR.out,rfl⟩
   · have HZ:=Lib.hid hz
     have hz':¬ k.tmod n<0:=by omega
     clear hz
     go_enter Try.func26,Try.ntmps26
     go_wp2
     go_ret
     exact ⟨0,HN.out,zAm HZ.out,rfl⟩
 · have b1:=Int.emod_nonneg k (show (n:Int)≠0 by omega)
   have b2:=Int.emod_lt_of_pos k (show (0:Int)<n by omega)
   obtain ⟨r,hr⟩:=Int.eq_ofNat_of_zero_le b1
   have HR:=Lib.hid hr
   have hlt:r<n:=by omega
   clear hn hs b2 hr
   go_enter Try.func26,Try.ntmps26
   go_wp2
   go_ret
   exact ⟨r,hlt,zAm HR.out,rfl⟩
set_option maxRecDepth 100000 in
set_option maxHeartbeats 8000000 in
theorem law_uses (w:World) (so ao ba:Option Addr) (sn sc n cap bn bc:Nat) (p:PoolV) (a:AskV) (i k:Int) (hp:zAG w so sn sc ao n cap p) (hw:WfP p) (ha:AskIn w ba bn bc a) (hk:I64 k) :
 Calls Try.prog 9 #[.agg #[.slice so sn sc,.slice ao n cap],.int .i64 i,.agg #[.int .i64 a.kind,.string a.sname,.string a.file,.string a.dest,.int .i64 a.at_,.int .i64 a.n,.slice ba bn bc],.int .i64 k] w fun e w'=>e=.returned (.bool true)∧Below w.heap.size w w':=by
 obtain ⟨hb0,p4,p6,hz2⟩:=zCz w (.cells #[.slice so sn sc,.slice ao n cap] 49) (.cells #[.int .i64 a.kind,.string a.sname,.string a.file,.string a.dest,.int .i64 a.at_,.int .i64 a.n,.slice ba bn bc] 67)
 have HP:=Lib.hid hp
 have HW:=Lib.hid hw
 have HA:=Lib.hid ha
 have HK:=Lib.hid hk
 have e0:=zAa p4 0
 have e1:=zAa p4 1
 have k0:=zAa p6 0
 have k1:=zAa p6 1
 have k2:=zAa p6 2
 have k3:=zAa p6 3
 have k4:=zAa p6 4
 have k5:=zAa p6 5
 have k6:=zAa p6 6
 simp only [cA1,cA2,cA3] at e0 e1 k0 k1 k2 k3 k4 k5 k6
 clear hp hw ha hk hz2 p6
 go_enter Try.func9,Try.ntmps9
 go_wp2_with fail
 generalize (w.alloc (.cells #[.slice so sn sc,.slice ao n cap] 49)).alloc (.cells #[.int .i64 a.kind,.string a.sname,.string a.file,.string a.dest,.int .i64 a.at_,.int .i64 a.n,.slice ba bn bc] 67)=W0 at *
 obtain ⟨RT,hRT⟩:∃ RT,doP p i a=RT:=⟨_,rfl⟩
 refine (zC8 W0 so ao ba sn sc n cap bn bc p i a RT hRT (HP.out.mono hb0) HW.out (HA.out.mono hb0)).mono ?_
 rintro e w1 ⟨so1,sn1,sc1,ao1,n1,cap1,na,nn,nc,b2,n2,c2,rfl,hb1,hq,-,-,-⟩
 have HRT:=Lib.hid hRT
 have hbA:Below w1.heap.size w1 ((w1.alloc (.cells #[.slice so1 sn1 sc1,.slice ao1 n1 cap1] 49)).alloc (.cells #[.int .i64 RT.2.1.e,.int .i64 RT.2.1.n,.slice na nn nc,.slice b2 n2 c2] 70)):=((zMy _ _).alloc (zMs _) _).alloc (by simp) _
 have p9:((w1.alloc (.cells #[.slice so1 sn1 sc1,.slice ao1 n1 cap1] 49)).alloc (.cells #[.int .i64 RT.2.1.e,.int .i64 RT.2.1.n,.slice na nn nc,.slice b2 n2 c2] 70)).heap[w1.heap.size]?=some (.cells #[.slice so1 sn1 sc1,.slice ao1 n1 cap1] 49 (0,0)):=heap_alloc2_old _ _ _
 have hb2:=zAd hb1 hbA
 have p4:=Zm hb2 p4
 have HQ:=Lib.hid (hq.mono hbA)
 have HB:=Lib.hid (zAd hb0 hb2)
 clear hRT hb1 hq hbA hb2 hb0 e0 e1 k0 k1 k2 k3 k4 k5 k6
 go_upto_region 2 with fail
 generalize (w1.alloc (.cells #[.slice so1 sn1 sc1,.slice ao1 n1 cap1] 49)).alloc (.cells #[.int .i64 RT.2.1.e,.int .i64 RT.2.1.n,.slice na nn nc,.slice b2 n2 c2] 70)=W2 at *
 go_wp2_with fail
 refine (zGc _).mono ?_
 rintro e w3 ⟨rfl,hb3⟩
 have p4:=Zm hb3 p4
 have p9:=Zm hb3 p9
 have HQ:=Lib.hid (HQ.out.mono hb3)
 have HB:=Lib.hid (zAd HB.out hb3)
 clear hb3
 by_cases he:RT.2.2=0
 rotate_left
 · have he1:(RT.2.2 != 0)=true:=by rw [bne_iff_ne];exact he
   generalize RT.2.2=de at *
   clear p4 p9 HQ HP HW HA HRT
   go_wp2_with fail
   refine (zGc _).mono ?_
   rintro e w4 ⟨rfl,hb4⟩
   go_wp2_with fail
   go_ret
   exact ⟨rfl,zAd HB.out hb4⟩
 have HE:=Lib.hid (show (doP p i a).2.2=0 by rw [HRT.out];exact he)
 rw [he]
 obtain ⟨hpe,hi0,hi1⟩:=zHk HE.out
 have hn:p.tens.length=n:=HP.out.len
 have HN:=Lib.hid hn
 have HOK:=Lib.hid (zCC hpe)
 have hn3:n≤3:=by have:=HOK.out.len;omega
 have hn0:0<n:=by omega
 have hOKQ:=zIP HOK.out HW.out.sto HA.out.byt HE.out
 rw [HRT.out] at hOKQ
 have HOKQ:=Lib.hid hOKQ
 have e0:=zAa p4 0
 have e1:=zAa p4 1
 simp only [cA1,cA2,cA3] at e0 e1
 have l4:=zAb p4
 have HAT:=Lib.hid (law_at k n w3 hn0 (by omega) HK.out.1 HK.out.2)
 clear hpe hi0 hi1 he hOKQ hn
 go_wp2_with fail
 refine HAT.out.mono ?_
 rintro e w4 ⟨m,hm,rfl,rfl⟩
 have hmi:(m:Int)<n:=by omega
 have hml:m<p.tens.length:=by have:=HN.out;omega
 obtain ⟨N,M,u1,u2,u3,u4,u5⟩:=uses_law HW.out.sto HA.out.byt HE.out hml (u:=⟨13,⟨#[]⟩,⟨#[]⟩,⟨#[]⟩,0,0,[]⟩) rfl
 rw [HRT.out] at u2
 have HU1:=Lib.hid u1
 have HU2:=Lib.hid u2
 obtain ⟨t,ht⟩:∃ t,p.tens[m]=t:=⟨_,rfl⟩
 rw [ht] at u3 u4
 have HT:Hid (p.tens[m]?=some t):=Lib.hid (by rw [zMt hml,ht])
 have HASK:∀ u:World,AskIn u none 0 0 ⟨13,⟨#[]⟩,⟨#[]⟩,⟨#[]⟩,0,0,[]⟩:=fun u=>⟨rfl,.inl rfl,⟨zMs _,fun _=>rfl⟩,by simp [Byt],by omega⟩
 have HASK:=Lib.hid HASK
 have HU5:=Lib.hid u5
 have HTT:=Lib.hid ht
 clear u1 u2 u5 ht HAT
 go_wp2_with fail
 refine (zC8 _ so ao none sn sc n cap 0 0 p m ⟨13,⟨#[]⟩,⟨#[]⟩,⟨#[]⟩,0,0,[]⟩ _ rfl (HP.out.mono HB.out) HW.out (HASK.out _)).mono ?_
 rintro e w5 ⟨so5,sn5,sc5,ao5,n5,cap5,na5,nn5,nc5,b5,bn5,bc5,rfl,hb5,-,-,-,-⟩
 rw [HU1.out]
 have hbB:Below w5.heap.size w5 ((w5.alloc (.cells #[.slice so5 sn5 sc5,.slice ao5 n5 cap5] 49)).alloc (.cells #[.int .i64 0,.int .i64 N,.slice na5 nn5 nc5,.slice b5 bn5 bc5] 70)):=((zMy _ _).alloc (zMs _) _).alloc (by simp) _
 have p13:((w5.alloc (.cells #[.slice so5 sn5 sc5,.slice ao5 n5 cap5] 49)).alloc (.cells #[.int .i64 0,.int .i64 N,.slice na5 nn5 nc5,.slice b5 bn5 bc5] 70)).heap[w5.heap.size+1]?=some (.cells #[.int .i64 0,.int .i64 N,.slice na5 nn5 nc5,.slice b5 bn5 bc5] 70 (0,0)):=heap_alloc2_new _ _ _
 have hb6:=zAd hb5 hbB
 have p4:=(hb6.block _ l4).trans p4
 have p9:=Zm hb6 p9
 have HQ:=Lib.hid (HQ.out.mono hb6)
 have HB:=Lib.hid (zAd HB.out hb6)
 clear hb5 hbB hb6 e0 e1 l4
 simp only
 go_upto_region 6 with fail
 generalize (w5.alloc (.cells #[.slice so5 sn5 sc5,.slice ao5 n5 cap5] 49)).alloc (.cells #[.int .i64 0,.int .i64 N,.slice na5 nn5 nc5,.slice b5 bn5 bc5] 70)=W6 at *
 have f0:=zAa p9 0
 have f1:=zAa p9 1
 simp only [cA1,cA2,cA3] at f0 f1
 go_wp2_with fail
 refine (zC8 _ so1 ao1 none sn1 sc1 n1 cap1 0 0 RT.1 m ⟨13,⟨#[]⟩,⟨#[]⟩,⟨#[]⟩,0,0,[]⟩ _ rfl HQ.out (HOKQ.out.1.wfp HOKQ.out.2) (HASK.out _)).mono ?_
 rintro e w7 ⟨so7,sn7,sc7,ao7,n7,cap7,na7,nn7,nc7,b7,bn7,bc7,rfl,hb7,-,-,-,-⟩
 rw [HU2.out]
 have hbC:Below w7.heap.size w7 ((w7.alloc (.cells #[.slice so7 sn7 sc7,.slice ao7 n7 cap7] 49)).alloc (.cells #[.int .i64 0,.int .i64 M,.slice na7 nn7 nc7,.slice b7 bn7 bc7] 70)):=((zMy _ _).alloc (zMs _) _).alloc (by simp) _
 have p15:((w7.alloc (.cells #[.slice so7 sn7 sc7,.slice ao7 n7 cap7] 49)).alloc (.cells #[.int .i64 0,.int .i64 M,.slice na7 nn7 nc7,.slice b7 bn7 bc7] 70)).heap[w7.heap.size+1]?=some (.cells #[.int .i64 0,.int .i64 M,.slice na7 nn7 nc7,.slice b7 bn7 bc7] 70 (0,0)):=heap_alloc2_new _ _ _
 have hb8:=zAd hb7 hbC
 have p4:=Zm hb8 p4
 have p13:=Zm hb8 p13
 have HB:=Lib.hid (zAd HB.out hb8)
 have HROW:=Lib.hid ((HP.out.mono HB.out).row)
 clear hb7 hbC hb8 f0 f1 p9 HQ
 simp only
 go_upto_region 7 with fail
 generalize (w7.alloc (.cells #[.slice so7 sn7 sc7,.slice ao7 n7 cap7] 49)).alloc (.cells #[.int .i64 0,.int .i64 M,.slice na7 nn7 nc7,.slice b7 bn7 bc7] 70)=W8 at *
 have e0:=zAa p4 0
 have e1:=zAa p4 1
 have g1:=zAa p13 1
 have h1:=zAa p15 1
 simp only [cA1,cA2,cA3] at e0 e1 g1 h1
 obtain ⟨b,o,qo,qn,qc,rfl,hE,-⟩:=HROW.out.at m hml
 rw [HTT.out] at hE
 have d1:=hE.quota
 simp only at d1
 have hd1:decide ((N:Int)≤t.quota)=true:=by simpa using u3
 have hd2:decide ((M:Int)≤t.quota)=true:=by simpa using u4
 have lb:=hE.lt
 have l4:=zAb p4
 have l13:=zAb p13
 have l15:=zAb p15
 rcases HU5.out with h5 | h5
 · have h6:((m:Int)==i)=true:=by rw [beq_iff_eq];exact h5
   clear u3 u4 hE p4 p13 p15 HROW HU5 HU1 HU2 HASK HTT HT h5
   go_quiet (fail)
   go_wp2_with fail
   go_ret
   exact ⟨rfl,⟨HB.out.os,HB.out.tape,HB.out.output,HB.out.size,HB.out.block⟩⟩
 · subst h5
   by_cases h5:(m:Int)=i
   · have h6:((m:Int)==i)=true:=by rw [beq_iff_eq];exact h5
     clear u3 u4 hE p4 p13 p15 HROW HU5 HU1 HU2 HASK HTT HT h5
     go_quiet (fail)
     go_wp2_with fail
     go_ret
     exact ⟨rfl,⟨HB.out.os,HB.out.tape,HB.out.output,HB.out.size,HB.out.block⟩⟩
   · have h6:((m:Int)==i)=false:=by rw [beq_eq_false_iff_ne];exact h5
     clear u3 u4 hE p4 p13 p15 HROW HU5 HU1 HU2 HASK HTT HT
     go_quiet (fail)
     go_wp2_with fail
     go_ret
     exact ⟨rfl,⟨HB.out.os,HB.out.tape,HB.out.output,HB.out.size,HB.out.block⟩⟩
end Go.Proofs.Ytfmgdjgedhnmeaa
