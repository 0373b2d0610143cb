/- pool.tenant: what is wrong with a tenant; its roots. · pool.Check: what is wrong with a pool. -/
import Derived.Test.YtfmgdjgedhnmeaaGreatPoolP
import Derived.Deep.CutBlock
namespace Go.Proofs.YtfmgdjgedhnmeaaGreat
open Go.RowKit
set_option linter.unusedVariables false
set_option linter.unusedSimpArgs false
theorem zEY (l:List SetV) (k:Nat) (hk:k<=l.length) (h:∀ x∈l,zCM x):((l.take k).flatMap rootsL).length<=24*k:=by
 induction k with
 | zero=>simp
 | succ k ih=>
  rw [zFI l k (by omega),zMG]
  have h1:=ih (by omega)
  have h2:=(h l[k] (zMr _)).roots
  omega
set_option maxRecDepth 100000 in
set_option maxHeartbeats 8000000 in
theorem zD9 (w:World) (ao:Option Addr) (n cap:Nat) (t:TenV) (ht:TenIn w ao n cap t) (hsm:∀ x∈t.sets,zCM x) (h3:t.sets.length<=3) :
 Calls Tryz.prog 18 #[.agg #[.int .i64 t.key,.int .i64 t.quota,.slice ao n cap]] w fun e w'=>∃ v,e=.returned v/\Own .i64 3 w.heap.size w' v (rootsT t)/\Below w.heap.size w w':=by
 have HT:=lH ht
 have HSM:=lH hsm
 have hn3:(n:Int)<=3:=by have:=ht.len;omega
 have hb0:=bA0 w (.cells #[.int .i64 t.key,.int .i64 t.quota,.slice ao n cap] 42)
 have p0:=heap_alloc_new w (.cells #[.int .i64 t.key,.int .i64 t.quota,.slice ao n cap] 42)
 clear ht hsm h3
 go_enter Tryz.func18,Tryz.ntmps18
 go_wp2
 have HT:=lH (HT.out.mono hb0)
 generalize w.alloc (.cells #[Value.int .i64 t.key,Value.int .i64 t.quota,.slice ao n cap] 42)=W1 at *
 go_loopw [3,9] (fun v i wr=>∃ k:Nat,k<=n/\i=.int .i64 k/\Own .i64 3 W1.heap.size wr v ((t.sets.take k).flatMap rootsL)/\Below W1.heap.size W1 wr) (fun _ i _=>n - (intOf i).toNat)
 case atStart=>exact ⟨0,zMO _,rfl,Own.nil _ _ _ _,zMy _ _⟩
 case round=>
  obtain ⟨k,hkn,rfl,hown,hbel⟩:=hrel
  by_cases hlt:k<n
  . have hkl:k<t.sets.length:=by have:=HT.out.len;omega
    have hlt':(k:Int)<n:=by omega
    obtain ⟨b,o,rfl,hq⟩:=(HT.out.row.mono hbel).at k hkl
    obtain ⟨fo,fn,fc,so,sn,sc,hE,hX⟩:=hq k hkl
    have c0:=hE.nm
    have c1:=hE.fl
    have c2:=hE.sl
    have lb:=hE.lt
    have HKT:=lH (zFI t.sets k hkl)
    have HLEN:=lH (zEY t.sets k (by omega) HSM.out)
    have hsx:=HSM.out _ (zMr hkl)
    clear hq hE
    generalize t.sets[k]=x at *
    obtain ⟨nm,xf,xs⟩:=x
    simp only at c0 c1 c2
    have hb2:=bA0 wr (.cells #[.string nm,.slice fo fn fc,.slice so sn sc] 47)
    have hown2:=hown.mono hb2
    have hX2:=hX.mono hb2
    have hbel2:=zAd hbel hb2
    have q2:=heap_alloc_new wr (.cells #[.string nm,.slice fo fn fc,.slice so sn sc] 47)
    have d0:=zAa q2 0
    have d1:=zAa q2 1
    have d2:=zAa q2 2
    simp at d0 d1 d2
    have l2:=zAb q2
    clear hown hb2 q2 hX hbel
    go_wp2_with fail
    generalize wr.alloc (.cells #[.string nm,.slice fo fn fc,.slice so sn sc] 47)=W2 at *
    refine (zHb W2 _ _ _ _ _ _ _ hX2 hsx).mono ?_
    rintro e w3 ⟨v3,rfl,ho3,hb3⟩
    have hsr:=hsx.roots
    obtain ⟨ro,rc,rfl,_,_,hrow3,hrc3⟩:=ho3.shape'
    have hown3:=hown2.mono hb3
    have hbel3:=zAd hbel2 hb3
    have hsz3:=hbel3.size
    clear hown2 hX2 d0 d1 d2 l2 c0 c1 c2 lb hsx ho3
    go_wp2_with (first
     | (at_builtin;refine zDv rfl (.tmp 13) (.tmp 15) _ rfl .i64 3 8 W1.heap.size Tryz.underlying59 zCd _ _ _ _ _ rfl hown3 rfl hrow3 hrc3 ?_ ?_ hsz3 ?_;rotate_right;intro v' w4 hown4 hbel4 hnil4))
    . clear hnil4
      go_roundw
      case rel=>exact ⟨k+1,by omega,by go_num,by rw [HKT.out];exact hown4,hbel3.trans hbel4⟩
      case measure=>simp [intOf];omega
    . have:=HLEN.out;unfold maxLen;omega
    . have:=HLEN.out;omega
  . obtain rfl:k=n:=by omega
    have ht:t.sets.take k=t.sets:=zMM (by have:=HT.out.len;omega)
    rw [ht] at hown
    have hbw:=hb0.trans (hbel.mono hb0.size)
    have hown':Own .i64 3 w.heap.size wr _ (rootsT t):=hown.weaken hb0.size
    clear ht hown
    have hlt':¬ (k:Int)<k:=by omega
    go_wp2
    go_ret
    exact ⟨_,rfl,hown',hbw⟩
def nzB (l:List Int):Bool:=l.any fun n=>decide (n≠0)
theorem any_take (l:List Int) (k:Nat) (h:k<l.length):nzB (l.take (k+1))=(nzB (l.take k)||decide (l[k]≠0)):=by
 unfold nzB
 rw [zMD h,List.any_append]
 simp
theorem any_hit (l:List Int) (k:Nat) (h:k<l.length) (hz:l[k]≠0):nzB l=true:=zNZ.2 ⟨l[k],zMr h,by simp [hz]⟩
theorem nz_any (w:World) (x:Int):Calls Tryz.prog 20 #[.int .i64 x] w fun e w'=>e=.returned (.bool (x != 0))/\w=w':=by
 go_enter Tryz.func20,Tryz.ntmps20
 go_wp2
 go_ret
 exact ⟨rfl,rfl⟩
set_option maxRecDepth 100000 in
set_option maxHeartbeats 4000000 in
theorem indexNz (w:World) (ao:Option Addr) (n cap:Nat) (l:List Int) (hn:l.length=n) (hl:n<=400) (hr:Row .i64 w ao l) :
 Calls Tryz.prog 46 #[.slice ao n cap,.func (.func 20) #[] #[]] w fun e w'=>∃ z,e=.returned (.int .i64 z)/\Hid (decide (0<=z)=nzB l)/\w=w':=by
 have HN:=lH hn
 clear hn
 have hl':(n:Int)<=400:=by omega
 go_enter Tryz.func46,Tryz.ntmps46
 go_wp2
 go_loopw [8] (fun i wr=>∃ k:Nat,k<=n/\i=.int .i64 k/\Hid (nzB (l.take k)=false)/\wr=w) (fun i _=>n - (intOf i).toNat)
 case atStart=>exact ⟨0,zMO _,rfl,lH rfl,rfl⟩
 case round=>
  obtain ⟨k,hkn,rfl,HK,rfl⟩:=hrel
  by_cases hlt:k<n
  . have hkl:k<l.length:=by have:=HN.out;omega
    have hlt':(k:Int)<n:=by omega
    obtain ⟨b,o,rfl,hq⟩:=hr.at k hkl
    have c0:=hq k hkl
    have lb:=zMx _ _ c0
    have HT:=lH (any_take l k hkl)
    have HH:=lH (any_hit l k hkl)
    clear hq
    generalize l[k]=x at *
    go_wp2_with fail
    refine (nz_any _ x).mono ?_
    rintro e w2 ⟨rfl,rfl⟩
    by_cases hx:x=0
    . have hb:(x != 0)=false:=by rw [hx];rfl
      have HK2:=lH (show nzB (l.take (k+1))=false by rw [HT.out,HK.out,hx];rfl)
      clear hx
      go_wp2
      go_roundw
      case rel=>exact ⟨k+1,by omega,by go_num,HK2,trivial⟩
      case measure=>simp [intOf];omega
    . have hb:(x != 0)=true:=by rw [bne_iff_ne];exact hx
      have HR:=lH (HH.out hx)
      clear hx
      go_wp2
      go_ret
      exact ⟨_,rfl,lH (by rw [HR.out];exact decide_eq_true (by omega)),rfl⟩
  . obtain rfl:k=n:=by omega
    have ht:l.take k=l:=zMM (by have:=HN.out;omega)
    rw [ht] at HK
    have hlt':¬ (k:Int)<k:=by omega
    clear ht
    go_wp2
    go_ret
    exact ⟨_,rfl,lH (by rw [HK.out];exact decide_eq_false (by omega)),rfl⟩
set_option maxRecDepth 100000 in
theorem zKi (w:World) (ao:Option Addr) (n cap:Nat) (l:List Int) (hn:l.length=n) (hl:n<=400) (hr:Row .i64 w ao l) :
 Calls Tryz.prog 19 #[.slice ao n cap,.func (.func 20) #[] #[]] w fun e w'=>e=.returned (.bool (nzB l))/\w=w':=by
 have HI:=lH (indexNz w ao n cap l hn hl hr)
 clear hn hr
 go_enter Tryz.func19,Tryz.ntmps19
 go_wp2_with fail
 refine HI.out.mono ?_
 rintro e w2 ⟨z,rfl,HZ,rfl⟩
 go_wp2
 go_ret
 exact ⟨zBi HZ.out,rfl⟩
set_option maxRecDepth 100000 in
set_option maxHeartbeats 8000000 in
theorem zJ4 (w:World) (ao ta:Option Addr) (n cap tn tc:Nat) (s:List Blk) (t:TenV) (hn:s.length=n) (hn63:n<=1152921504606846976) (hs:StoRow w ao s) (hwf:WfS s) (hc:checkE s=0) (ht:TenIn w ta tn tc t) (hwt:WfT t) :
 Calls Tryz.prog 16 #[.agg #[.slice ao n cap],.agg #[.int .i64 t.key,.int .i64 t.quota,.slice ta tn tc]] w fun e w'=>e=.returned (.int .i64 (tenE s t))/\Below w.heap.size w w':=by
 have HN:=lH hn
 have HT:=lH ht
 have HWT:=lH hwt
 obtain ⟨RD,hRD⟩:∃ RD,tenE s t=RD:=⟨_,rfl⟩
 rw [hRD]
 have HRD:=lH hRD
 have hb0:Below w.heap.size w ((w.alloc (.cells #[.slice ao n cap] 24)).alloc (.cells #[.int .i64 t.key,.int .i64 t.quota,.slice ta tn tc] 42)):=((zMy _ _).alloc (zMs _) _).alloc (by simp) _
 have p0:((w.alloc (.cells #[.slice ao n cap] 24)).alloc (.cells #[.int .i64 t.key,.int .i64 t.quota,.slice ta tn tc] 42)).heap[w.heap.size]?=some (.cells #[.slice ao n cap] 24 (0,0)):=heap_alloc2_old _ _ _
 have p1:((w.alloc (.cells #[.slice ao n cap] 24)).alloc (.cells #[.int .i64 t.key,.int .i64 t.quota,.slice ta tn tc] 42)).heap[w.heap.size+1]?=some (.cells #[.int .i64 t.key,.int .i64 t.quota,.slice ta tn tc] 42 (0,0)):=heap_alloc2_new _ _ _
 clear hn hRD ht hwt hc
 obtain ⟨key,quota,sets⟩:=t
 simp only at *
 go_enter Tryz.func16,Tryz.ntmps16
 go_wp2_with fail
 have hs:=hs.mono hb0
 have HT:=lH (HT.out.mono hb0)
 generalize (w.alloc (.cells #[.slice ao n cap] 24)).alloc (.cells #[Value.int .i64 key,Value.int .i64 quota,.slice ta tn tc] 42)=W0 at *
 refine (zCv key 0 W0).mono ?_
 rintro e w1 ⟨rfl,rfl⟩
 by_cases hk:keyE key 0=0
 rotate_left
 . have HR:Hid (RD=keyE key 0):=lH (by rw [<- HRD.out];unfold tenE;rw [if_pos hk])
   have he1:(keyE key 0 != 0)=true:=by rw [bne_iff_ne];exact hk
   generalize keyE key 0=ce at *
   clear hk hs
   go_wp2
   go_ret
   exact ⟨zAm HR.out.symm,hb0⟩
 rw [hk]
 have c0:=cell_of_one p0
 have c10:=zAa p1 0
 have c11:=zAa p1 1
 have c12:=zAa p1 2
 simp at c10 c11 c12
 have l0:=zAb p0
 have l1:=zAb p1
 by_cases hq:quota<0\/400<quota
 . have HR:Hid (RD=3):=lH (by rw [<- HRD.out];unfold tenE;rw [if_neg (fun h=>h hk),if_pos hq])
   clear hk hs
   rcases (show quota<0\/(¬ quota<0/\400<quota) from by omega) with hq1 | ⟨hq1,hq2⟩
   . clear hq
     go_wp2
     go_ret
     exact ⟨zAm HR.out.symm,hb0⟩
   . clear hq
     go_wp2
     go_ret
     exact ⟨zAm HR.out.symm,hb0⟩
 have hq1:¬ quota<0:=by omega
 have hq2:¬ 400<quota:=by omega
 by_cases h3:3<tn
 . have HR:Hid (RD=2):=lH (by rw [<- HRD.out];unfold tenE;rw [if_neg (fun h=>h hk),if_neg hq,if_pos (by have:=HT.out.len;simp only at this ⊢;omega)])
   have h3':(3:Int)<tn:=by omega
   clear hk hs hq
   go_wp2
   go_ret
   exact ⟨zAm HR.out.symm,hb0⟩
 have HR0:Hid (RD=zCw s key (prevT sets 0) (sets.drop 0)):=lH (by rw [<- HRD.out];unfold tenE;rw [if_neg (fun h=>h hk),if_neg hq,if_neg (by have:=HT.out.len;simp only at this ⊢;omega)];rfl)
 have h3':¬ (3:Int)<tn:=by omega
 clear hk hq
 go_wp2
 go_loopw [30] (fun i wr=>∃ k:Nat,k<=tn/\i=.int .i64 k/\Hid (RD=zCw s key (prevT sets k) (sets.drop k))/\Below W0.heap.size W0 wr) (fun i _=>tn - (intOf i).toNat)
 case atStart=>exact ⟨0,zMO _,rfl,HR0,zMy _ _⟩
 case round=>
  clear c0 c10 c11 c12
  obtain ⟨k,hkm,rfl,HK,hbel⟩:=hrel
  have hbw2:=zAd hb0 hbel
  by_cases hlt:k<tn
  . have hkl:k<sets.length:=by have:=HT.out.len;simp only at this;omega
    have hlt':(k:Int)<tn:=by omega
    obtain ⟨b,o,rfl,hq⟩:=(HT.out.row.mono hbel).at k hkl
    simp only at hq
    obtain ⟨fo,fn,fc,so,sn,sc,hE,hX⟩:=hq k hkl
    have c0:=hE.nm
    have c1:=hE.fl
    have c2:=hE.sl
    have lb:=hE.lt
    have hst:=zH3 s key sets k hkl
    have hsi:=(HWT.out.sets _ (zMr hkl)).1
    have hk6:(k:Int)<3:=by omega
    have HPV:k≠0->∃ q:ByteArray,wr.cell? ⟨b,o+(k - 1)*3,none⟩=some (.string q)/\prevT sets k=some q:=fun h0=>by
     have h2:k - 1<sets.length:=by omega
     obtain ⟨_,_,_,_,_,_,hE2,_⟩:=hq (k - 1) h2
     exact ⟨_,hE2.nm,by unfold prevT;rw [if_neg h0,zMt h2];rfl⟩
    replace HPV:=lH HPV
    have HST:=lH hst
    have hs1:=hs.mono hbel
    have p0':=(hbel.block _ l0).trans p0
    have p1':=(hbel.block _ l1).trans p1
    clear hq hE hst
    generalize sets[k]=x at *
    obtain ⟨nm,xf,xs⟩:=x
    simp only at c0 c1 c2
    have x0:=cell_of_one p0'
    have x1:=zAa p1' 0
    simp at x1
    have y0:=zAb p0'
    have y1:=zAb p1'
    go_wp2_with fail
    have hb2:=bA0 wr (.cells #[.string nm,.slice fo fn fc,.slice so sn sc] 47)
    have q2:=heap_alloc_new wr (.cells #[.string nm,.slice fo fn fc,.slice so sn sc] 47)
    have p2:=(hb2.block _ (zAb p0')).trans p0'
    have p3:=(hb2.block _ (zAb p1')).trans p1'
    have hs2:=hs1.mono hb2
    have hX2:=hX.mono hb2
    have HPV2:Hid (k≠0->∃ q:ByteArray,(wr.alloc (.cells #[.string nm,.slice fo fn fc,.slice so sn sc] 47)).cell? ⟨b,o+(k - 1)*3,none⟩=some (.string q)/\prevT sets k=some q):=lH fun h0=>by
     obtain ⟨q,hq,hp⟩:=HPV.out h0
     exact ⟨q,Zc hb2 lb hq,hp⟩
    have hbl2:=zAd hbel hb2
    have hbw3:=zAd hbw2 hb2
    have lb2:b<(wr.alloc (.cells #[.string nm,.slice fo fn fc,.slice so sn sc] 47)).heap.size:=zMw lb hb2.size
    clear hb2 hs1 p0' p1' c0 c1 c2 x0 x1 y0 y1 HPV lb hbw2 hbel hX
    generalize hwr:wr.alloc (.cells #[.string nm,.slice fo fn fc,.slice so sn sc] 47)=W2 at *
    clear hwr
    generalize wr.heap.size=B2 at *
    refine (zBM W2 _ _ _ _ _ _ _ _ _ s key ⟨nm,xf,xs⟩ HN.out hn63 hs2 hwf hX2 hsi).mono ?_
    rintro e w3 ⟨rfl,hb3⟩
    by_cases hse:setE s key ⟨nm,xf,xs⟩=0
    rotate_left
    . have HR:Hid (RD=setE s key ⟨nm,xf,xs⟩):=lH (HK.out.trans (HST.out.trans (if_pos hse)))
      have he1:(setE s key ⟨nm,xf,xs⟩ != 0)=true:=by rw [bne_iff_ne];exact hse
      generalize setE s key ⟨nm,xf,xs⟩=ce at *
      clear hs hs2 hX2 hse HPV2
      go_wp2
      go_ret
      exact ⟨zAm HR.out.symm,zAd hbw3 hb3⟩
    have HST2:=lH (HST.out.trans (if_neg (fun h=>h hse)))
    rw [hse]
    have q2:=Zm hb3 q2
    have p2:=Zm hb3 p2
    have p3:=Zm hb3 p3
    have HPV3:Hid (k≠0->∃ q:ByteArray,w3.cell? ⟨b,o+(k - 1)*3,none⟩=some (.string q)/\prevT sets k=some q):=lH fun h0=>by
     obtain ⟨q,hq,hp⟩:=HPV2.out h0
     exact ⟨q,Zc hb3 lb2 hq,hp⟩
    have lb3:b<w3.heap.size:=zMw lb2 hb3.size
    have hbl3:=zAd hbl2 hb3
    have hbw4:=zAd hbw3 hb3
    have d0:=zAa q2 0
    have d3:=zAa p3 2
    simp at d0 d3
    have l2:=zAb q2
    have lp3:=zAb p3
    clear hse HPV2 hs hs2 hX2 HST lb2 hsi
    have hbd:∀ nq,Below w3.heap.size w3 (w3.drewN nq):=fun nq=>⟨rfl,rfl,rfl,zMs _,fun _ _=>rfl⟩
    by_cases hk0:k=0
    . have hpv:prevT sets k=none:=by rw [hk0];rfl
      have hst:=HST2.out.trans (if_neg (by rw [hpv];simp [befB]))
      have HKN:Hid (RD=zCw s key (prevT sets (k+1)) (sets.drop (k+1))):=lH (HK.out.trans hst)
      have k0:¬ (0:Int)<k:=by omega
      have k1:decide ((0:Int)<k)=false:=decide_eq_false k0
      have k2:¬ 0<k:=by omega
      have k3:decide (0<k)=false:=decide_eq_false k2
      clear hst HPV3 hpv HST2
      replace hk0:=lH hk0
      go_wp2_with fail
      go_quiet (fail)
      go_wp2
      go_roundw
      case rel=>exact ⟨k+1,by omega,by go_num,HKN,zAd hbl3 (hbd _)⟩
      case measure=>simp [intOf];omega
    . obtain ⟨q,cq,hp⟩:=HPV3.out hk0
      have k0:(0:Int)<k:=by omega
      have k1:decide ((0:Int)<k)=true:=decide_eq_true k0
      have k2:0<k:=by omega
      have k3:decide (0<k)=true:=decide_eq_true k2
      have k4:(0:Int)<=(k:Int) - 1:=by omega
      have k5:(k:Int) - 1<tn:=by omega
      have k6:((k:Int) - 1).toNat=k - 1:=by omega
      clear HPV3
      cases hbl:Op.bytesLess q.toList nm.toList with
      | false=>
       have HR:Hid (RD=6):=lH (HK.out.trans (HST2.out.trans (if_pos (by rw [hp];simp [befB,hbl]))))
       clear HST2 hp
       go_wp2_with fail
       go_quiet (fail)
       go_wp2
       go_ret
       exact ⟨zAm HR.out.symm,zAd hbw4 (hbd _)⟩
      | true=>
       have hst:=HST2.out.trans (if_neg (by rw [hp];simp [befB,hbl]))
       have HKN:Hid (RD=zCw s key (prevT sets (k+1)) (sets.drop (k+1))):=lH (HK.out.trans hst)
       clear hst hp HST2
       go_wp2_with fail
       go_quiet (fail)
       go_wp2
       go_roundw
       case rel=>exact ⟨k+1,by omega,by go_num,HKN,zAd hbl3 (hbd _)⟩
       case measure=>simp [intOf];omega
  . obtain rfl:k=tn:=by omega
    have HR:Hid (RD=0):=lH (by rw [HK.out,zJ1 s key sets _ (by have:=HT.out.len;simp only at this;omega)])
    have hlt':¬ (k:Int)<k:=by omega
    clear hs
    go_wp2
    go_ret
    exact ⟨zAm HR.out.symm,hbw2⟩
end Go.Proofs.YtfmgdjgedhnmeaaGreat

namespace Go.Proofs.YtfmgdjgedhnmeaaGreat
open Go.RowKit
set_option linter.unusedVariables false
set_option linter.unusedSimpArgs false
theorem Row.grown' {k:IntKind} {w w':World} {ao:Option Addr} {xs:List Int} {r:Option Nat} (h:Row k w ao xs) (hg:w.grownBy w' r) (hne:∀ b o,ao=some ⟨b,o,none⟩->some b≠r):Row k w' ao xs:=by
 rcases h with h | ⟨b,o,rfl,h⟩
 . exact .inl h
 . refine .inr ⟨b,o,rfl,fun i hi=>?_⟩
   have hc:=h i hi
   rw [zMB (hg.block b (zMx _ _ hc) (hne b o rfl))]
   exact hc
theorem Own.grown' {k:IntKind} {e base:Nat} {w w':World} {v:Value} {xs:List Int} {g:Nat} (h:Own k e base w v xs) (hg:w.grownBy w' (some g)) (hne:g<base):Own k e base w' v xs:=
 by
 obtain ⟨h1,h2⟩:=h
 refine ⟨h1,?_⟩
 rcases h2 with h2 | ⟨g2,cap,cur,hv,hg2,hh,r⟩
 . exact .inl h2
 . exact .inr ⟨g2,cap,cur,hv,hg2,by rw [hg.block g2 (zAb hh) (fun e=>by cases e;omega)];exact hh,r⟩
theorem zJi {l:List Int} {k:Nat} (h:k<l.length):l.getD k 0=l[k]:=by rw [zMH,zMt h];rfl
theorem own_size {k:IntKind} {e base g n cap:Nat} {w:World} {xs:List Int} (h:Own k e base w (.slice (some ⟨g,0,none⟩) n cap) xs):g<w.heap.size:=by
 rcases h.block with ⟨h1,_⟩ | ⟨g2,_,_,h1,_,h2,_⟩
 . cases h1
 . simp only [Value.slice.injEq,zMz,zME,and_true] at h1
   rw [h1.1]
   exact zAb h2
theorem Own.rowOf {k:IntKind} {e base n cap:Nat} {ao:Option Addr} {w:World} {xs:List Int} (h:Own k e base w (.slice ao n cap) xs):Row k w ao xs:=by
 obtain ⟨oo,oc,hoe,_,_,hor,_⟩:=h.shape'
 simp only [Value.slice.injEq] at hoe
 rw [hoe.1]
 exact hor
theorem Own.blockOf {k:IntKind} {e base n cap:Nat} {ao:Option Addr} {w:World} {xs:List Int} (h:Own k e base w (.slice ao n cap) xs):∀ a,ao=some a->a=⟨a.block,0,none⟩/\base<=a.block/\a.block<w.heap.size:=by
 rcases h.block with ⟨h1,_⟩ | ⟨g2,_,_,h1,h3,h2,_⟩
 . simp only [Value.slice.injEq] at h1
   intro a e
   rw [h1.1] at e
   cases e
 . simp only [Value.slice.injEq] at h1
   intro a e
   rw [h1.1] at e
   cases e
   exact ⟨rfl,h3,zAb h2⟩
theorem Own.grownN {k:IntKind} {e base g n cap:Nat} {w w':World} {xs:List Int} {r:Option Nat} (h:Own k e base w (.slice (some ⟨g,0,none⟩) n cap) xs) (hg:w.grownBy w' r) (hne:some g≠r):Own k e base w' (.slice (some ⟨g,0,none⟩) n cap) xs:=by
 obtain ⟨h1,h2⟩:=h
 refine ⟨h1,?_⟩
 rcases h2 with ⟨h2,_⟩ | ⟨g2,cap,cur,hv,hg2,hh,r⟩
 . cases h2
 . have hv2:=hv
   simp only [Value.slice.injEq,zMz,zME,and_true] at hv2
   exact .inr ⟨g2,cap,cur,hv,hg2,by rw [hg.block g2 (zAb hh) (by rw [<- hv2.1];exact hne)];exact hh,r⟩
def OutB (c:Int) (l:List Int):Prop:=∀ x∈l,-c<=x/\x<=1000000
theorem OutB.weaken {c d:Int} {l:List Int} (h:OutB c l) (hd:c<=d):OutB d l:=fun x hx=>⟨by have:=(h x hx).1;omega,(h x hx).2⟩
theorem OutB.less {c:Int} {l:List Int} (h:OutB c l) (k:Nat) (hk:k<l.length):OutB (c+1) (l.set k (l[k] - 1)):=fun x hx=>by
 rcases zMU hx with hx | rfl
 . have:=h x hx;omega
 . have:=h _ (zMr hk);omega
theorem zKU {s:List Blk} (hri:zF4 s) (h:checkE s=0):OutB 0 (outL s):=fun x hx=>by
 refine ⟨by have:=(zAg s h).2.2.2.2 x hx;omega,?_⟩
 unfold outL at hx
 obtain ⟨i,hi,rfl⟩:=List.mem_map.1 hx
 have hl:i<s.length:=List.mem_range.1 hi
 have:=hri _ (zMr hl)
 simp only [zMt hl,zM3,zGR]
 omega
set_option maxRecDepth 100000 in
set_option maxHeartbeats 16000000 in
theorem zBQ (w:World) (so ao:Option Addr) (sn sc n cap:Nat) (p:PoolV) (hp:zAG w so sn sc ao n cap p) (hw:WfP p) :
 Calls Tryz.prog 6 #[.agg #[.slice so sn sc,.slice ao n cap]] w fun e w'=>e=.returned (.int .i64 (poolE p))/\Below w.heap.size w w':=by
 have HP:=lH hp
 have HW:=lH hw
 have hn63:sn<=1152921504606846976:=by have:=hp.slen;have:=hw.slen;omega
 obtain ⟨RD,hRD⟩:∃ RD,poolE p=RD:=⟨_,rfl⟩
 rw [hRD]
 have HRD:=lH hRD
 have hb0:=bA0 w (.cells #[.slice so sn sc,.slice ao n cap] 27)
 have p0:=heap_alloc_new w (.cells #[.slice so sn sc,.slice ao n cap] 27)
 clear hp hw hRD
 go_enter Tryz.func6,Tryz.ntmps6
 go_wp2_with fail
 have HP:=lH (HP.out.mono hb0)
 generalize w.alloc (.cells #[.slice so sn sc,.slice ao n cap] 27)=W0 at *
 refine (zCR W0 so sn sc p.s HP.out.slen hn63 HP.out.srow HW.out.sto).mono ?_
 rintro e w1 ⟨rfl,hb1⟩
 have hbw:=zAd hb0 hb1
 have p0:=Zm hb1 p0
 have HP:=lH (HP.out.mono hb1)
 by_cases hce:checkE p.s=0
 rotate_left
 . have HR:Hid (RD=checkE p.s):=lH (by rw [<- HRD.out];unfold poolE;rw [if_pos hce])
   have he1:(checkE p.s != 0)=true:=by rw [bne_iff_ne];exact hce
   generalize checkE p.s=ce at *
   clear hce
   go_wp2
   go_ret
   exact ⟨zAm HR.out.symm,hbw⟩
 rw [hce]
 have HCE:=lH hce
 have c00:=zAa p0 0
 have c01:=zAa p0 1
 simp at c00 c01
 have l0:=zAb p0
 by_cases h3:3<n
 . have HR:Hid (RD=2):=lH (by rw [<- HRD.out];unfold poolE;rw [if_neg (fun h=>h hce),if_pos (by rw [HP.out.len];exact h3)])
   have h3':(3:Int)<n:=by omega
   clear hce
   go_wp2
   go_ret
   exact ⟨zAm HR.out.symm,hbw⟩
 obtain ⟨hs400,-,-,hri,-⟩:=zAg _ hce
 have hsn:sn<=400:=by have:=HP.out.slen;omega
 have hsn':(sn:Int)<=400:=by omega
 have hn3:n<=3:=by omega
 have HR0:Hid (RD=tensE p.s (0:Nat) ((sn:Int) - 90) (zeros sn) (outL p.s) (p.tens.drop 0)):=lH (by rw [<- HRD.out];unfold poolE;rw [if_neg (fun h=>h hce),if_neg (by rw [HP.out.len];exact h3),HP.out.slen];rfl)
 have HOB:=lH (zKU hri hce)
 have h3':¬ (3:Int)<n:=by omega
 have hmk:=make_ints (P:=Tryz.prog) .i64 59 3 8 Tryz.underlying59 zCd sn (by omega) (by omega)
 have hw1:IntKind.i64.wrap ((sn:Int) - 90)=(sn:Int) - 90:=zN7 _ (by omega)
 have hown5:Own .i64 3 w1.heap.size (w1.alloc (.cells (icells .i64 (zeros sn)) 3)) (.slice (some ⟨w1.heap.size,0,none⟩) sn sn) (zeros sn):=by
  have h1:(zeros sn).length=sn:=by simp [zeros]
  have h2:(zeros sn).map (Value.int .i64)=List.replicate sn (Value.int .i64 0):=by simp [zeros]
  refine ⟨by rw [h1];simp [h2],.inr ⟨w1.heap.size,sn,icells .i64 (zeros sn),by rw [h1],zMs _,heap_alloc_new _ _,by rw [h1];exact zMs _,?_,?_,?_⟩⟩
  . unfold maxLen;omega
  . simp [icells,h1]
  . rw [h1];simp [icells,h2]
 have bW2:Below w1.heap.size w1 (w1.alloc (.cells (icells .i64 (zeros sn)) 3)):=(zMy _ _).alloc (zMs _) _
 have hsz2:(w1.alloc (.cells (icells .i64 (zeros sn)) 3)).heap.size=w1.heap.size+1:=by simp
 clear hce h3 hri
 go_wp2_with fail
 have HP2:=lH (HP.out.mono bW2)
 have p0':=(bW2.block _ l0).trans p0
 generalize w1.alloc (.cells (icells .i64 (zeros sn)) 3)=W2 at *
 refine (zF2 W2 so sn sc p.s HP2.out.slen HP2.out.srow HW.out.sto HCE.out).mono ?_
 rintro e w3 ⟨ao6,rfl,hown6,hb3⟩
 have p0'':=(hb3.block _ (zAb p0')).trans p0'
 have hown5:=hown5.mono hb3
 have hbw3:Below w1.heap.size w1 w3:=bW2.trans (hb3.mono bW2.size)
 have c00:=zAa p0'' 0
 have c01:=zAa p0'' 1
 simp at c00 c01
 have l0':=zAb p0''
 have hown6:Own .i64 3 (w1.heap.size+1) w3 (.slice ao6 sn sn) (outL p.s):=by rw [<- hsz2];exact hown6
 clear hmk hw1 bW2 hb3 p0' p0'' HP2
 go_wp2
 go_loopw [4,46] (fun rm i wr=>∃ (k:Nat) (room:Int) (own out:List Int),k<=n/\rm=.int .i64 room/\i=.int .i64 k/\-2000<=room/\room<=400/\own.length=sn/\out.length=sn/\(∀ x∈own,0<=x/\x<=10)/\OutB (72*k) out/\Own .i64 3 w1.heap.size wr (.slice (some ⟨w1.heap.size,0,none⟩) sn sn) own/\Own .i64 3 (w1.heap.size+1) wr (.slice ao6 sn sn) out/\Hid (RD=tensE p.s (k:Int) room own out (p.tens.drop k))/\Below w1.heap.size w1 wr) (fun _ i _=>n - (intOf i).toNat)
 case atStart=>exact ⟨0,(sn:Int) - 90,zeros sn,outL p.s,zMO _,by go_num,rfl,by omega,by omega,by simp [zeros],by rw [<- HP.out.slen];simp [outL],fun x hx=>by simp [zeros] at hx;omega,by simpa using HOB.out,hown5,hown6,HR0,hbw3⟩
 case round=>
  clear c00 c01 l0' hown5 hown6 hbw3 HR0
  obtain ⟨k,room,own,out,hkn,rfl,rfl,hr1,hr2,hol,hul,hob,hub,hown,hout,HK,hbel⟩:=hrel
  have HPr:=lH (HP.out.mono hbel)
  have p0r:=(hbel.block _ l0).trans p0
  have c00:=zAa p0r 0
  have c01:=zAa p0r 1
  simp at c00 c01
  have l0r:=zAb p0r
  have hsz:=hbel.size
  by_cases hlt:k<n
  . have hkl:k<p.tens.length:=by have:=HP.out.len;omega
    have hlt':(k:Int)<n:=by omega
    obtain ⟨b,o,qo,qn,qc,rfl,hE,hT1⟩:=HP.out.row.at k hkl
    have hE:=hE.mono hbel
    have hT:=hT1.mono hbel
    have HT1:=lH hT1
    have c0:=hE.key
    have c1:=hE.quota
    have c2:=hE.sl
    have lb:=hE.lt
    have HST:=lH (zJ3 p.s (k:Int) room own out p.tens k hkl)
    have hwt:=HW.out.tens _ (zMr hkl)
    have hsr:=HPr.out.srow
    clear hE hT1
    generalize p.tens[k]=t at *
    simp only at c0 c1 c2
    have hb2:=bA0 wr (.cells #[.int .i64 t.key,.int .i64 t.quota,.slice qo qn qc] 42)
    have q2:=heap_alloc_new wr (.cells #[.int .i64 t.key,.int .i64 t.quota,.slice qo qn qc] 42)
    have p1:=(hb2.block _ l0r).trans p0r
    have hsr:=hsr.mono hb2
    have hT:=hT.mono hb2
    have hg5:=hown
    have hown:=hown.mono hb2
    have hout:=hout.mono hb2
    have hbel:=hbel.trans (hb2.mono hsz)
    have d0:=zAa q2 0
    have d1:=zAa q2 1
    have d2:=zAa q2 2
    simp at d0 d1 d2
    have e0:=zAa p1 0
    have e1:=zAa p1 1
    simp at e0 e1
    have l1:=zAb p1
    have l2:=zAb q2
    have hTB:=own_size hg5
    have hTW4:(wr.alloc (.cells #[.int .i64 t.key,.int .i64 t.quota,.slice qo qn qc] 42)).heap.size=wr.heap.size+1:=by simp
    clear hb2 hsz p0r c00 c01 hg5
    go_wp2_with fail
    generalize wr.alloc (.cells #[.int .i64 t.key,.int .i64 t.quota,.slice qo qn qc] 42)=W4 at *
    generalize wr.heap.size=TB at *
    refine (zJ4 W4 so qo sn sc qn qc p.s t HP.out.slen hn63 hsr HW.out.sto HCE.out hT hwt).mono ?_
    rintro e w5 ⟨rfl,hb5⟩
    have hbel5:=hbel.trans (hb5.mono hbel.size)
    have hbw5:=hbw.trans (hbel5.mono hbw.size)
    by_cases hte:tenE p.s t=0
    rotate_left
    . have HR:Hid (RD=tenE p.s t):=lH (HK.out.trans (HST.out.trans (if_pos hte)))
      have he1:(tenE p.s t != 0)=true:=by rw [bne_iff_ne];exact hte
      generalize tenE p.s t=ce at *
      clear hte hsr hT hown hout
      go_wp2
      go_ret
      exact ⟨zAm HR.out.symm,hbw5⟩
    have hOK:=zKK hte
    rw [hte]
    have HST2:=lH (HST.out.trans (if_neg (fun h=>h hte)))
    have hsr:=hsr.mono hb5
    have hT:=hT.mono hb5
    have hown:=hown.mono hb5
    have hout:=hout.mono hb5
    have p1:=(hb5.block _ l1).trans p1
    have q2:=(hb5.block _ l2).trans q2
    clear d0 d1 d2 e0 e1 l1 l2
    have d0:=zAa q2 0
    have d1:=zAa q2 1
    have d2:=zAa q2 2
    simp at d0 d1 d2
    have e0:=zAa p1 0
    have e1:=zAa p1 1
    simp at e0 e1
    have l1:=zAb p1
    have l2:=zAb q2
    have hq0:=hOK.q0
    have hq4:=hOK.q4
    have hw2:IntKind.i64.wrap (room - t.quota)=room - t.quota:=zN7 _ (by omega)
    by_cases h1:room - t.quota<0
    . have HR:Hid (RD=8):=lH (HK.out.trans (HST2.out.trans (if_pos h1)))
      clear hte hsr hT hown hout HST HST2 hOK
      go_wp2
      go_ret
      exact ⟨zAm HR.out.symm,hbw5⟩
    have HRC:=lH (hOK.reach HCE.out)
    have HST3:=lH (HST2.out.trans (if_neg h1))
    have HTR:=lH (fun W (hb:Below w1.heap.size w1 W)=>zD9 W qo qn qc t (HT1.out.mono hb) (fun x hx=>(hOK.sets x hx).small) hOK.len)
    have hI64:∀ a∈rootsT t,I64 a:=fun a ha=>by
     have:=hOK.live a ha
     have:=HP.out.slen
     unfold I64;omega
    have hRL:=zC6 hOK
    have HRE:=lH (fun W ro m rc (hb:Below w5.heap.size w5 W) (hm:(rootsT t).length=m) (hr:Row .i64 W ro (rootsT t))=>zFq W so ro sn sc m rc p.s (rootsT t) HP.out.slen hn63 (hsr.mono hb) HW.out.sto hm (by omega) hr hI64)
    have HLV:=lH hOK.live
    have HRL:=lH hRL
    clear hte hI64 hOK HST HST2 hsr hT hRL
    go_upto_region 18 with fail
    go_cut [11] (fun u wx=>Own .i64 3 w5.heap.size wx u (reachR p.s (rootsT t)).1/\Below w5.heap.size w5 wx)
    case first=>
     go_region_with (first
      | (go_at_call 18;refine (HTR.out _ (hbel5.trans ((zMy _ _).drew.mono hbel5.size))).mono ?_;rintro e w6 ⟨v6,rfl,ho6,hb6⟩;obtain ⟨ro6,rc6,rfl,hl6,_,hr6,hc6⟩:=ho6.shape';have f0:=((bcell hb6).1 _ 0 l1).trans e0;have f1:=((bcell hb6).1 _ 0 l2).trans d0;have f2:=((bcell hb6).1 _ 1 l2).trans d1;have f3:=((bcell hb6).1 _ 2 l2).trans d2;have l3:=zMw l1 hb6.size;have l4:=zMw l2 hb6.size)
      | (go_at_call 17;refine (HRE.out _ _ _ _ ((zMy _ _).drew.trans hb6) rfl hr6).mono ?_;rintro e w7 ⟨v7,rfl,ho7,hb7⟩;have hb75:=(zMy _ _).drew.trans (hb6.trans (hb7.mono hb6.size))))
     all_goals (go_wp2_with fail;go_meet;exact ⟨ho7.weaken hb6.size,hb75⟩)
    case rest=>
     obtain ⟨hL,hb7⟩:=hcut
     generalize hRL2:(reachR p.s (rootsT t)).1=L at *
     have hin:∀ a∈L,1<=a/\a<=(sn:Int):=fun a ha=>by
      rw [<- hRL2,HRC.out] at ha
      have:=zCn ha
      have:=HP.out.slen
      omega
     have hLn:L.length<=400:=by
      have h1:L.Nodup:=by rw [<- hRL2,HRC.out];exact zCZ _ _
      have:=zG1 sn L h1 hin
      omega
     have HIN:=lH hin
     clear hRL2 hin HRC
     obtain ⟨lo,lc,rfl,hlc1,_,hrL,hlc2⟩:=hL.shape'
     have hbel7:=hbel5.trans (hb7.mono hbel5.size)
     have hbw7:=hbw.trans (hbel7.mono hbw.size)
     have hown:=hown.mono hb7
     have hout:=hout.mono hb7
     have p1:=(hb7.block _ l1).trans p1
     have q2:=(hb7.block _ l2).trans q2
     clear HRE d0 d1 d2 e0 e1 l1 l2
     have d1:=zAa q2 1
     simp at d1
     have l1:=zAb p1
     have l2:=zAb q2
     have hL4:(L.length:Int)<=400:=by omega
     by_cases h2:t.quota<(L.length:Int)
     . have HR:Hid (RD=8):=lH (HK.out.trans (HST3.out.trans (if_pos h2)))
       clear hown hout HST3 HTR hL hrL
       go_wp2
       go_ret
       exact ⟨zAm HR.out.symm,hbw7⟩
     have HST4:=lH (HK.out.trans (HST3.out.trans (if_neg h2)))
     clear HST3
     go_wp2
     go_loopw [79] (fun i wr2=>∃ (q:Nat) (own2:List Int),q<=L.length/\i=.int .i64 q/\own2.length=sn/\(∀ x∈own2,0<=x/\x<=10)/\Own .i64 3 w1.heap.size wr2 (.slice (some ⟨w1.heap.size,0,none⟩) sn sn) own2/\Hid (RD=tensC p.s (k:Int) room out t (p.tens.drop (k+1)) (ownE (k:Int) own2 (L.drop q)))/\wc.grownBy wr2 (some w1.heap.size)) (fun i _=>L.length - (intOf i).toNat)
     case atStart=>exact ⟨0,own,zMO _,rfl,hol,hob,hown,lH (by rw [HST4.out,zN9]),zAr (zMy _ _) _⟩
     case round=>
      obtain ⟨q,own2,hql,rfl,hol2,hob2,hown2,HK2,hg⟩:=hrel
      have hTW:w1.heap.size<w5.heap.size:=by have:=hb5.size;omega
      have hrow:Row .i64 wr lo L:=(hL.grown' hg hTW).rowOf
      by_cases hlq:q<L.length
      . have hlq':(q:Int)<L.length:=by omega
        obtain ⟨lb2,lo2,rfl,hq2⟩:=hrow.at q hlq
        have e0:=hq2 q hlq
        have le0:=zMx _ _ e0
        have HST:=lH (zLj (k:Int) own2 L q hlq)
        have hin:=HIN.out _ (zMr hlq)
        clear hq2
        generalize L[q]=a at *
        obtain ⟨j,rfl⟩:∃ j:Nat,a=(j:Int)+1:=⟨(a - 1).toNat,by omega⟩
        rw [show ((j:Int)+1 - 1).toNat=j from by omega] at HST
        have hak:j<own2.length:=by omega
        obtain ⟨g5,c5,hv5,-,hc5,hf5,lg5⟩:=hown2.at j hak
        simp only [Value.slice.injEq,zMz,zME,and_true] at hv5
        obtain ⟨h5a,-,h5b⟩:=hv5
        subst h5a
        clear h5b
        have hob3:=hob2 _ (zMr hak)
        have hset:=hown2.set j ((k:Int)+1)
        have HGD:=lH (zJi hak)
        have hw3:IntKind.i64.wrap ((j:Int)+1 - 1)=(j:Int):=by rw [Int.add_sub_cancel];exact zN7 _ (by omega)
        have hw4:IntKind.i64.wrap ((k:Int)+1)=(k:Int)+1:=zN7 _ (by omega)
        have ha0:(0:Int)<=(j:Int):=by omega
        have ha1:(j:Int)<(sn:Int):=by omega
        generalize own2[j]=y at *
        by_cases hy:0<y
        . have HR:Hid (RD=7):=lH (by rw [HK2.out,HST.out,if_pos (by rw [HGD.out];exact hy)];rfl)
          have hbw8:=hbw7.trans ((zAv hg hbw.size hbw7.size))
          clear HST HK2 hset hown2
          go_wp2
          go_ret
          exact ⟨zAm HR.out.symm,hbw8⟩
        . have HK3:Hid (RD=tensC p.s (k:Int) room out t (p.tens.drop (k+1)) (ownE (k:Int) (own2.set j ((k:Int)+1)) (L.drop (q+1)))):=lH (by rw [HK2.out,HST.out,if_neg (by rw [HGD.out];exact hy)])
          have hol3:(own2.set j ((k:Int)+1)).length=sn:=by rw [zMK];exact hol2
          have HOL3:=lH hol3
          have HOB3:Hid (∀ x∈own2.set j ((k:Int)+1),0<=x/\x<=10):=lH fun x hx=>by
           rcases zMU hx with hx | rfl
           . exact hob2 x hx
           . omega
          have HSET:=lH hset
          clear HST HK2 hset hown2 hol3 hob2 HGD
          go_wp2
          go_roundw
          case rel=>exact ⟨q+1,_,by omega,by go_num,HOL3.out,HOB3.out,HSET.out,HK3,zBJ hg ⟨w1.heap.size,j,none⟩ rfl _⟩
          case measure=>simp [intOf];omega
      . obtain rfl:q=L.length:=by omega
        rw [zOl] at HK2
        have HK3:Hid (RD=tensE p.s ((k:Int)+1) (room - t.quota) own2 (lessO out (rootsT t)) (p.tens.drop (k+1))):=HK2
        have hlq':¬ (L.length:Int)<L.length:=by omega
        have hTB2:w1.heap.size<TB:=hTB
        have hb8:Below w1.heap.size wc wr:=zAv hg (zMs _) (by have:=hbel7.size;omega)
        have hbel8:=hbel7.trans hb8
        have q3:=(hg.block TB l2 (fun h=>by cases h;omega)).trans q2
        have hout2:=hout.grown' hg (Nat.lt_succ_self _)
        have hbw8:=hbw.trans (hbel8.mono hbw.size)
        have HTR2:=lH (HTR.out wr hbel8)
        have HB6:=lH hout2.blockOf
        have HOL2:=lH hol2
        have HUL:=lH hul
        have hsz8:=hg.size
        have l3:=zAb q3
        have d0:=zAa q3 0
        have d1:=zAa q3 1
        have d2:=zAa q3 2
        simp at d0 d1 d2
        clear HTR HK2 hrow hout hb8 q2 HST4 hol2 hul hol
        generalize wr=w8 at *
        go_wp2_with fail
        refine HTR2.out.mono ?_
        rintro e w9 ⟨v9,rfl,hR9,hb9⟩
        obtain ⟨ro,rc,rfl,hrc1,_,hrR,hrc2⟩:=hR9.shape'
        have hbel9:=hbel8.trans (hb9.mono hbel8.size)
        have hown9:=hown2.mono hb9
        have hout9:=hout2.mono hb9
        have HRB:=lH hR9.blockOf
        generalize hRT:rootsT t=R at *
        have hsz9:=hb9.size
        have HRT:=lH hRT
        have HRL2:=lH HRL.out
        clear hRT HTR2 hown2 hout2 d0 d1 d2 hR9 HRL
        have hR72:(R.length:Int)<=72:=by have:=HRL2.out;omega
        go_wp2
        go_loopw [99] (fun i wr2=>∃ (q:Nat) (out2:List Int),q<=R.length/\i=.int .i64 q/\Hid (out2=lessO out (R.take q))/\Hid (out2.length=sn)/\OutB (72*k+q) out2/\Own .i64 3 (w1.heap.size+1) wr2 (.slice ao6 sn sn) out2/\w9.grownBy wr2 (ao6.map Addr.block)) (fun i _=>R.length - (intOf i).toNat)
        case atStart=>exact ⟨0,out,zMO _,rfl,lH rfl,HUL,by simpa using hub,hout9,zAr (zMy _ _) _⟩
        case round=>
         clear hlq'
         obtain ⟨q,out2,hqr,rfl,HO,HUL2,hub2,hout3,hg9⟩:=hrel
         have hne6:∀ b2 o2,ro=some ⟨b2,o2,none⟩->some b2≠ao6.map Addr.block:=fun b2 o2 e h=>by
          have h1:=(HRB.out _ e).2.1
          cases ao6 with
          | none=>cases h
          | some a6=>
           simp only [zNx,zMz] at h
           have h2:=(HB6.out _ rfl).2.2
           simp only at h1
           omega
         have hrow9:Row .i64 wr ro R:=hrR.grown' hg9 hne6
         clear hne6
         by_cases hlr:q<R.length
         . have hlr':(q:Int)<R.length:=by omega
           obtain ⟨rb,ro2,rfl,hq2⟩:=hrow9.at q hlr
           have e0:=hq2 q hlr
           have le0:=zMx _ _ e0
           have HST:=lH (zKm out R q hlr)
           have hla:=HLV.out _ (zMr hlr)
           clear hq2
           generalize R[q]=a at *
           by_cases ha:0<a
           . obtain ⟨j,rfl⟩:∃ j:Nat,a=(j:Int)+1:=⟨(a - 1).toNat,by omega⟩
             rw [if_pos ha,show ((j:Int)+1 - 1).toNat=j from by omega] at HST
             have hsl:=HP.out.slen
             have hjs:j<out2.length:=by have:=HUL2.out;omega
             have hpos:(0:Int)<(j:Int)+1:=by omega
             have ha1:(j:Int)<(sn:Int):=by omega
             have ha0:(0:Int)<=(j:Int):=by omega
             obtain ⟨g6,c6,hv6,hg6,hc6,hf6,lg6⟩:=hout3.at j hjs
             simp only [Value.slice.injEq] at hv6
             obtain ⟨rfl,-,-⟩:=hv6
             have hset:=hout3.set j (out2[j] - 1)
             have hub3:=hub2.less j hjs
             have hw5:IntKind.i64.wrap ((j:Int)+1 - 1)=(j:Int):=by rw [Int.add_sub_cancel];exact zN7 _ (by omega)
             have hwo:IntKind.i64.wrap (out2[j] - 1)=out2[j] - 1:=zN7 _ (by have:=hub2 _ (zMr hjs);omega)
             have HO2:Hid (out2.set j (out2[j] - 1)=lessO out (R.take (q+1))):=lH (by rw [HST.out,<- HO.out,zJi hjs])
             have HL2:Hid ((out2.set j (out2[j] - 1)).length=sn):=lH (by rw [zMK];exact HUL2.out)
             have HSET:=lH hset
             have HUB:=lH (hub3.weaken (d:=72*k+((q+1:Nat):Int)) (by omega))
             clear HST HO hset hub3 hout3 hsl hla ha
             generalize out2[j]=y at *
             go_wp2
             go_roundw
             case rel=>exact ⟨q+1,_,by omega,by go_num,HO2,HL2,HUB.out,HSET.out,zBJ hg9 ⟨g6,j,none⟩ rfl _⟩
             case measure=>simp [intOf];omega
           . rw [if_neg ha] at HST
             have HO2:Hid (out2=lessO out (R.take (q+1))):=lH (by rw [HST.out,<- HO.out])
             have HUB:=lH (hub2.weaken (d:=72*k+((q+1:Nat):Int)) (by omega))
             clear HST HO hla
             go_wp2
             go_roundw
             case rel=>exact ⟨q+1,_,by omega,by go_num,HO2,HUL2,HUB.out,hout3,hg9⟩
             case measure=>simp [intOf];omega
         . obtain rfl:q=R.length:=by omega
           rw [zNR] at HO
           have hlr':¬ (R.length:Int)<R.length:=by omega
           have HK4:Hid (RD=tensE p.s (((k+1:Nat)):Int) (room - t.quota) own2 out2 (p.tens.drop (k+1))):=lH (by rw [HK3.out,HO.out];rfl)
           have hown10:=hown9.grownN hg9 (fun h=>by
            cases ao6 with
            | none=>cases h
            | some a6=>
             simp only [zNx,zMz] at h
             have:=(HB6.out _ rfl).2.1
             omega)
           have hb10:Below w1.heap.size w9 wr:=⟨hg9.os,hg9.tape,hg9.output,hg9.size,fun b hb=>hg9.block b (by have:=hbel9.size;omega) (fun h=>by
            cases ao6 with
            | none=>cases h
            | some a6=>
             simp only [zNx,zMz] at h
             have:=(HB6.out _ rfl).2.1
             omega)⟩
           have HUB:=lH (hub2.weaken (d:=72*((k+1:Nat):Int)) (by omega))
           have hbel10:=hbel9.trans hb10
           clear HO HK3 hown9 hb10
           go_wp2
           go_roundw
           case rel=>exact ⟨k+1,room - t.quota,own2,out2,by omega,rfl,by go_num,by omega,by omega,HOL2.out,HUL2.out,hob2,HUB.out,hown10,hout3,HK4,hbel10⟩
           case measure=>simp [intOf];omega
  . obtain rfl:k=n:=by omega
    have HR:Hid (RD=if nzB out=true then 7 else 0):=lH (HK.out.trans (zMk p.s _ room own out p.tens _ (by have:=HP.out.len;omega)))
    have hlt':¬ (k:Int)<k:=by omega
    have hbw2:=hbw.trans (hbel.mono hbw.size)
    have hor:=hout.rowOf
    have hcn:=fun W (hb:Below wr.heap.size wr W)=>zKi W ao6 sn sn out hul hsn (hor.mono hb)
    clear hown hout HK hor
    cases hz:nzB out with
    | true=>
     have HR2:Hid (RD=7):=lH (by rw [HR.out,if_pos hz])
     simp only [hz] at hcn
     have HCN:=lH hcn
     clear hz hcn
     go_wp2_with (go_at_call 19;refine (HCN.out _ (zMy _ _)).mono ?_;rintro e w9 ⟨rfl,rfl⟩)
     go_ret
     exact ⟨zAm HR2.out.symm,hbw2⟩
    | false=>
     have HR2:Hid (RD=0):=lH (by rw [HR.out,if_neg (by rw [hz];simp)])
     simp only [hz] at hcn
     have HCN:=lH hcn
     clear hz hcn
     go_wp2_with (go_at_call 19;refine (HCN.out _ (zMy _ _)).mono ?_;rintro e w9 ⟨rfl,rfl⟩)
     go_ret
     exact ⟨zAm HR2.out.symm,hbw2⟩
end Go.Proofs.YtfmgdjgedhnmeaaGreat
