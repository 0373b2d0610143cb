/- Are two blocks, two stores, the same? · tree.Leaves, tree.check, tree.get, tree.Get; rookeryref.CheckRoot: roots of a level, places below them. · tree.get, tree.Get: the leaf at a place. -/
import Derived.Test.YtfmgdjgedhnmeaaGreatCopy
import Derived.BigQuiet
import Derived.Test.YtfmgdjgedhnmeaaGreatBackQ
import Derived.Test.YtfmgdjgedhnmeaaGreatOutside
import Derived.Test.YtfmgdjgedhnmeaaGreatForm
namespace Go.Proofs.YtfmgdjgedhnmeaaGreat
open Go.RowKit
set_option linter.unusedVariables false
set_option linter.unusedSimpArgs false
def sameB (x y:Blk):Bool:=(x.refs==y.refs)&&((x.level==y.level)&&((x.kids==y.kids)&&(x.bytes==y.bytes)))
theorem zO0 (x y:Blk):sameB x y=true↔x=y:=by
 obtain ⟨r,l,ks,bs⟩:=x
 obtain ⟨r',l',ks',bs'⟩:=y
 simp [sameB]
def sameS (s t:List Blk):Bool:=decide (s=t)
structure BlkV (w:World) (kv bv:Value) (x:Blk):Prop where
 kids:Sl .i64 w kv x.kids
 bytes:Sl .u8 w bv x.bytes
theorem BlkV.mono {w w':World} {kv bv:Value} {x:Blk} (h:BlkV w kv bv x) (hb:Below w.heap.size w w'):BlkV w' kv bv x:=⟨h.kids.mono hb,h.bytes.mono hb⟩
theorem BlkAt.v {w:World} {b o:Nat} {x:Blk} (h:BlkAt w b o x):∃ ka kc ba bc,w.cell? ⟨b,o+2,none⟩=some (.slice ka x.kids.length kc)/\w.cell? ⟨b,o+3,none⟩=some (.slice ba x.bytes.length bc)/\BlkV w (.slice ka x.kids.length kc) (.slice ba x.bytes.length bc) x:=by
 obtain ⟨v2,c2,kao,kcap,rfl,hrow,hcd⟩:=h.kids
 obtain ⟨v3,c3,bao,bcap,rfl,hrow3,hcd3⟩:=h.bytes
 exact ⟨_,_,_,_,c2,c3,⟨⟨_,_,rfl,hrow,hcd⟩,⟨_,_,rfl,hrow3,hcd3⟩⟩⟩
set_option maxRecDepth 100000 in
set_option maxHeartbeats 1000000 in
theorem zOL (w:World) (ka ba ka' ba':Option Addr) (nk kc nb bc nk' kc' nb' bc':Nat) (x y:Blk) (hx:BlkV w (.slice ka nk kc) (.slice ba nb bc) x) (hy:BlkV w (.slice ka' nk' kc') (.slice ba' nb' bc') y) (wx:WfB x) (wy:WfB y) :
 Calls Tryz.prog 48 #[.agg #[.int .i64 x.refs,.int .i64 x.level,.slice ka nk kc,.slice ba nb bc],.agg #[.int .i64 y.refs,.int .i64 y.level,.slice ka' nk' kc',.slice ba' nb' bc']] w fun e w'=>
  e=.returned (.bool (sameB x y))/\Below w.heap.size w w':=by
 obtain ⟨hk,hkr,_⟩:=hx.kids.at
 obtain ⟨hb,hbr,_⟩:=hx.bytes.at
 obtain ⟨hk',hkr',_⟩:=hy.kids.at
 obtain ⟨hb',hbr',_⟩:=hy.bytes.at
 have b1:=wx.bytes
 have b2:=wy.bytes
 have k1:=wx.klen
 have k3:=wx.blen
 have HK:=lH hk.symm
 have HB:=lH hb.symm
 have HK':=lH hk'.symm
 have HB':=lH hb'.symm
 clear hx hy wx wy hk hb hk' hb'
 cases h1:(x.refs==y.refs) with
 | false=>
  have HR:=lH (show sameB x y=false by unfold sameB;rw [h1];rfl)
  go_enter Tryz.func48,Tryz.ntmps48
  go_wp2
  go_ret
  exact ⟨zBi HR.out.symm,((zMy _ _).alloc (zMs _) _).alloc (by simp) _⟩
 | true=>
  cases h2:(x.level==y.level) with
  | false=>
   have HR:=lH (show sameB x y=false by unfold sameB;rw [h1,h2];rfl)
   go_enter Tryz.func48,Tryz.ntmps48
   go_wp2
   go_ret
   exact ⟨zBi HR.out.symm,((zMy _ _).alloc (zMs _) _).alloc (by simp) _⟩
  | true=>
   have hb0:Below w.heap.size w ((w.alloc (.cells #[.int .i64 x.refs,.int .i64 x.level,.slice ka nk kc,.slice ba nb bc] 99)).alloc (.cells #[.int .i64 y.refs,.int .i64 y.level,.slice ka' nk' kc',.slice ba' nb' bc'] 99)):=((zMy _ _).alloc (zMs _) _).alloc (by simp) _
   cases h3:(x.kids==y.kids) with
   | false=>
    have HR:=lH (show sameB x y=false by unfold sameB;rw [h1,h2,h3];rfl)
    have H3:=lH h3
    clear h3
    go_enter Tryz.func48,Tryz.ntmps48
    go_wp2_with fail
    refine (zOE _ _ _ _ _ _ x.kids y.kids _ HK.out HK'.out (hkr.mono hb0) (hkr'.mono hb0) (by have:=HK.out;omega)).mono ?_
    rw [H3.out]
    rintro e w1 ⟨rfl,hb1⟩
    go_wp2
    go_ret
    exact ⟨zBi HR.out.symm,zAd hb0 hb1⟩
   | true=>
    have HR:=lH (show sameB x y=(x.bytes==y.bytes) by unfold sameB;rw [h1,h2,h3];rfl)
    have H3:=lH h3
    clear h3
    go_enter Tryz.func48,Tryz.ntmps48
    go_wp2_with fail
    refine (zOE _ _ _ _ _ _ x.kids y.kids _ HK.out HK'.out (hkr.mono hb0) (hkr'.mono hb0) (by have:=HK.out;omega)).mono ?_
    rw [H3.out]
    rintro e w1 ⟨rfl,hb1⟩
    have hb01:=zAd hb0 hb1
    have d1:w1.cell? ⟨w.heap.size,3,none⟩=some (.slice ba nb bc):=((bcell hb1).1 w.heap.size 3 (by simp;omega)).trans (zAa (heap_alloc2_old _ _ _) 3)
    have d2:w1.cell? ⟨w.heap.size+1,3,none⟩=some (.slice ba' nb' bc'):=((bcell hb1).1 (w.heap.size+1) 3 (by simp)).trans (zAa (heap_alloc2_new _ _ _) 3)
    have z1:w.heap.size+1<w1.heap.size:=by have:=hb1.size;simp at this;omega
    clear hkr hkr' HK HK' H3
    go_wp2_with fail
    refine (zOK _ _ _ _ _ _ x.bytes y.bytes _ HB.out HB'.out (hbr.mono hb01) (hbr'.mono hb01) b1 b2).mono ?_
    rintro e w2 ⟨rfl,rfl⟩
    go_wp2
    go_ret
    exact ⟨zBi HR.out.symm,hb01⟩
set_option maxRecDepth 100000 in
set_option maxHeartbeats 1000000 in
theorem zOM (w:World) (ao bo:Option Addr) (n cap m cap':Nat) (s t:List Blk) (hn:s.length=n) (hm:t.length=m) (h63:n<=1152921504606846976) (h63':m<=1152921504606846976) (hs:StoRow w ao s) (ht:StoRow w bo t) (ws:WfS s) (wt:WfS t) :
 Calls Tryz.prog 47 #[.slice ao n cap,.slice bo m cap',.func (.func 48) #[] #[]] w fun e w'=>e=.returned (.bool (sameS s t))/\Below w.heap.size w w':=by
 have HN:=lH hn
 have HM:=lH hm
 clear hn hm
 by_cases hnm:n=m
 . subst hnm
   go_enter Tryz.func47,Tryz.ntmps47
   go_wp2
   go_loopw [17] (fun i wr=>∃ k:Nat,k<=n/\i=.int .i64 k/\Hid (s.take k=t.take k)/\Below w.heap.size w wr) (fun i _=>n - (intOf i).toNat)
   case atStart=>exact ⟨0,zMO _,rfl,lH rfl,zMy _ _⟩
   case round=>
    obtain ⟨k,hkn,rfl,HT,hbel⟩:=hrel
    by_cases hlt:k<n
    . have hks:k<s.length:=by have:=HN.out;omega
      have hkt:k<t.length:=by have:=HM.out;omega
      obtain ⟨b,o,rfl,hq⟩:=(hs.mono hbel).at k hks
      obtain ⟨b',o',rfl,hq'⟩:=(ht.mono hbel).at k hkt
      have hB:=hq k hks
      have hB':=hq' k hkt
      have c0:=hB.refs
      have c1:=hB.level
      obtain ⟨ka,kc,ba,bc,c2,c3,hv⟩:=hB.v
      have d0:=hB'.refs
      have d1:=hB'.level
      obtain ⟨ka',kc',ba',bc',d2,d3,hv'⟩:=hB'.v
      have lb:=hB.lt
      have lb':=hB'.lt
      have wx:=ws.at k hks
      have wy:=wt.at k hkt
      have hts:s.take (k+1)=s.take k++[s[k]]:=by rw [zMD hks]
      have htt:t.take (k+1)=t.take k++[t[k]]:=by rw [zMD hkt]
      have HS:=lH hts
      have HTT:=lH htt
      have hsb:=zO0 s[k] t[k]
      have HSB:=lH hsb
      have hbb:Below wr.heap.size wr ((wr.alloc (.cells #[.int .i64 s[k].refs,.int .i64 s[k].level,.slice ka s[k].kids.length kc,.slice ba s[k].bytes.length bc] 99)).alloc (.cells #[.int .i64 t[k].refs,.int .i64 t[k].level,.slice ka' t[k].kids.length kc',.slice ba' t[k].bytes.length bc'] 99)):=((zMy _ _).alloc (zMs _) _).alloc (by simp) _
      have HNE:=lH (show s[k]≠t[k]->sameS s t=false from fun h=>by
       unfold sameS
       rw [decide_eq_false]
       intro e
       apply h
       simp only [e])
      clear hq hq' hB hB' hts htt hsb
      go_wp2_with fail
      refine (zOL _ _ _ _ _ _ _ _ _ _ _ _ _ s[k] t[k] (hv.mono hbb) (hv'.mono hbb) wx wy).mono ?_
      cases hsm:sameB s[k] t[k] with
      | false=>
       rintro e w2 ⟨rfl,hb2⟩
       have HF:=lH (HNE.out fun e=>by rw [HSB.out.2 e] at hsm;cases hsm)
       have hbw:=zAd hbel (zAd hbb hb2)
       clear hsm HNE hv hv'
       go_wp2
       go_ret
       exact ⟨zBi HF.out.symm,hbw⟩
      | true=>
       rintro e w2 ⟨rfl,hb2⟩
       have HE:=lH (HSB.out.1 hsm)
       have hbw:=zAd hbel (zAd hbb hb2)
       clear hsm HNE hv hv'
       go_wp2
       go_roundw
       case rel=>exact ⟨k+1,by omega,by go_num,lH (by rw [HS.out,HTT.out,HT.out,HE.out]),hbw⟩
       case measure=>simp [intOf];omega
    . obtain rfl:k=n:=by omega
      have HR:=lH (show sameS s t=true by
       have h:=HT.out
       rw [zMM (by have:=HN.out;omega),zMM (by have:=HM.out;omega)] at h
       unfold sameS;rw [h];simp)
      clear HT
      go_wp2
      go_ret
      exact ⟨zBi HR.out.symm,hbel⟩
 . have HR:=lH (show sameS s t=false by
    unfold sameS
    rw [decide_eq_false]
    intro e
    apply hnm
    have h1:=HN.out
    have h2:=HM.out
    rw [e] at h1
    omega)
   have hne:((n:Int) != (m:Int))=true:=by rw [bne_iff_ne];omega
   clear hnm
   go_enter Tryz.func47,Tryz.ntmps47
   go_wp2
   go_ret
   exact ⟨zBi HR.out.symm,zMy _ _⟩
set_option maxRecDepth 100000 in
theorem zOI (w:World) (ao bo:Option Addr) (n cap m cap':Nat) (s t:List Blk) (hn:s.length=n) (hm:t.length=m) (h63:n<=1152921504606846976) (h63':m<=1152921504606846976) (hs:StoRow w ao s) (ht:StoRow w bo t) (ws:WfS s) (wt:WfS t) :
 Calls Tryz.prog 21 #[.agg #[.slice ao n cap],.agg #[.slice bo m cap']] w fun e w'=>e=.returned (.bool (sameS s t))/\Below w.heap.size w w':=by
 have HN:=lH hn
 have HM:=lH hm
 clear hn hm
 have hb0:Below w.heap.size w ((w.alloc (.cells #[.slice ao n cap] 24)).alloc (.cells #[.slice bo m cap'] 24)):=((zMy _ _).alloc (zMs _) _).alloc (by simp) _
 go_enter Tryz.func21,Tryz.ntmps21
 go_wp2_with fail
 refine (zOM _ _ _ _ _ _ _ s t HN.out HM.out h63 h63' (hs.mono hb0) (ht.mono hb0) ws wt).mono ?_
 rintro e w2 ⟨rfl,hb2⟩
 go_wp2
 go_ret
 exact ⟨rfl,zAd hb0 hb2⟩
def p4 (k:Nat):Int:=if k=0 then 1 else if k=1 then 4 else if k=2 then 16 else 64
def lvN (l:Int):Int×Int:=if l<0\/3<l then (0,3) else (p4 l.toNat,0)
theorem p4_pos (k:Nat):1<=p4 k/\p4 k<=64:=by unfold p4;repeat' split<;>omega
def At4 (k:Nat) (u:Value):Prop:=(k=0/\u=.int .i64 1)\/(k=1/\u=.int .i64 4)\/(k=2/\u=.int .i64 16)\/(k=3/\u=.int .i64 64)
theorem At4.val {k:Nat} {u:Value} (h:At4 k u):u=.int .i64 (p4 k):=by
 rcases h with ⟨rfl,rfl⟩ | ⟨rfl,rfl⟩ | ⟨rfl,rfl⟩ | ⟨rfl,rfl⟩<;>rfl
set_option maxHeartbeats 1000000 in
theorem zC7 (w:World) (l:Int):Calls Tryz.prog 101 #[.int .i64 l] w fun e w'=>e=.returned (.tuple #[.int .i64 (lvN l).1,.int .i64 (lvN l).2])/\w'=w:=by
 by_cases h1:l<0
 . have HR:=lH (show lvN l=(0,3) by unfold lvN;rw [if_pos (by omega)])
   go_enter Tryz.func101,Tryz.ntmps101
   go_wp2
   go_ret2
   exact ⟨by rw [HR.out];rfl,rfl⟩
 . by_cases h2:3<l
   . have HR:=lH (show lvN l=(0,3) by unfold lvN;rw [if_pos (by omega)])
     go_enter Tryz.func101,Tryz.ntmps101
     go_wp2
     go_ret2
     exact ⟨by rw [HR.out];rfl,rfl⟩
   . obtain ⟨m,rfl⟩:∃ m:Nat,l=m:=⟨l.toNat,by omega⟩
     have hm:m<=3:=by omega
     have HR:=lH (show lvN (m:Int)=(p4 m,0) by unfold lvN;rw [if_neg (by omega)];rfl)
     go_enter Tryz.func101,Tryz.ntmps101
     go_wp2
     go_loop [4,12] (fun u i=>∃ k:Nat,k<=m/\i=.int .i64 k/\At4 k u) (fun _ i=>m - (intOf i).toNat)
     case atStart=>exact ⟨0,zMO _,rfl,.inl ⟨rfl,rfl⟩⟩
     case round=>
      obtain ⟨k,hk,rfl,hu⟩:=hrel
      by_cases hlt:k<m
      . have hkm:(k:Int)<m:=by omega
        rcases hu with ⟨rfl,rfl⟩ | ⟨rfl,rfl⟩ | ⟨rfl,rfl⟩ | ⟨rfl,rfl⟩
        . go_wp2
          go_round
          case rel=>exact ⟨1,by omega,by go_num,.inr (.inl ⟨rfl,by go_num⟩)⟩
          case measure=>simp [intOf];omega
        . go_wp2
          go_round
          case rel=>exact ⟨2,by omega,by go_num,.inr (.inr (.inl ⟨rfl,by go_num⟩))⟩
          case measure=>simp [intOf];omega
        . go_wp2
          go_round
          case rel=>exact ⟨3,by omega,by go_num,.inr (.inr (.inr ⟨rfl,by go_num⟩))⟩
          case measure=>simp [intOf];omega
        . omega
      . obtain rfl:k=m:=by omega
        have hv:=hu.val
        subst hv
        go_wp2
        go_ret2
        exact ⟨by rw [HR.out];rfl,rfl⟩
def checkT (s:List Blk) (root l i:Int):Int:=
 if checkE s≠0 then checkE s else if l<0\/3<l then 3 else if root≠0/\zAi s root=false then 5
 else if root≠0/\(blk s root).level≠l then 4 else if i<0\/p4 l.toNat<=i then 3 else 0
theorem zAP {s:List Blk} {root l i:Int} (h:checkT s root l i=0):checkE s=0/\∃ m:Nat,l=m/\m<=3/\(root=0\/(zAi s root=true/\(blk s root).level=m))/\0<=i/\i<p4 m:=by
 unfold checkT at h
 split at h
 . rename_i h1;exact absurd h h1
 . rename_i h1
   split at h
   . omega
   . split at h
     . omega
     . split at h
       . omega
       . split at h
         . omega
         . rename_i h2 h3 h4 h5
           refine ⟨by simpa using h1,l.toNat,by omega,by omega,?_,by omega,by omega⟩
           by_cases h0:root=0
           . exact .inl h0
           . refine .inr ⟨?_,?_⟩
             . cases ht:zAi s root with
               | true=>rfl
               | false=>exact absurd ⟨h0,ht⟩ h3
             . have:¬ (blk s root).level≠l:=fun e=>h4 ⟨h0,e⟩
               omega
set_option maxRecDepth 100000 in
set_option maxHeartbeats 4000000 in
theorem zGv (w:World) (ao:Option Addr) (n cap:Nat) (s:List Blk) (root l i:Int) (hn:s.length=n) (hn63:n<=1152921504606846976) (hs:StoRow w ao s) (hwf:WfS s) :
 Calls Tryz.prog 100 #[.agg #[.slice ao n cap],.int .i64 root,.int .i64 l,.int .i64 i] w fun e w'=>e=.returned (.int .i64 (checkT s root l i))/\Below w.heap.size w w':=by
 have HN:=lH hn
 have hb0:=bA0 w (.cells #[.slice ao n cap] 24)
 have p4:=heap_alloc_new w (.cells #[.slice ao n cap] 24)
 clear hn
 go_enter Tryz.func100,Tryz.ntmps100
 go_wp2_with fail
 have hs:=hs.mono hb0
 generalize w.alloc (.cells #[.slice ao n cap] 24)=W0 at *
 refine (zCR _ _ _ _ s HN.out hn63 hs hwf).mono ?_
 rintro e w1 ⟨rfl,hb1⟩
 replace p4:=Zm hb1 p4
 have hbw:=zAd hb0 hb1
 replace hs:=hs.mono hb1
 by_cases hce:checkE s=0
 rotate_left
 . have HR:=lH (show checkT s root l i=checkE s by unfold checkT;rw [if_pos hce])
   have he1:(checkE s != 0)=true:=by rw [bne_iff_ne];exact hce
   generalize hcc:checkE s=ce at *
   replace hcc:=lH hcc
   clear hce hs
   go_wp2
   go_ret
   exact ⟨by rw [HR.out];rfl,hbw⟩
 have he1:(checkE s != 0)=false:=by rw [hce];rfl
 have he0:(checkE s==0)=true:=by rw [hce];rfl
 have h400:n<=400:=by have:=(zAg s hce).1;have:=HN.out;omega
 have hri:=(zAg s hce).2.2.2.1
 have HCE:=lH hce
 clear hce
 go_wp2_with fail
 refine (zC7 _ l).mono ?_
 rintro e w2 ⟨rfl,rfl⟩
 by_cases hlv:l<0\/3<l
 . have HR:=lH (show checkT s root l i=3 by unfold checkT;rw [if_neg (by simp [HCE.out]),if_pos hlv])
   have e1:lvN l=(0,3):=by unfold lvN;rw [if_pos hlv]
   rw [e1]
   clear hlv e1 hs hri
   go_wp2
   go_ret
   exact ⟨by rw [HR.out];rfl,hbw⟩
 have e1:lvN l=(Go.Proofs.YtfmgdjgedhnmeaaGreat.p4 l.toNat,0):=by unfold lvN;rw [if_neg hlv]
 rw [e1]
 clear e1
 have c4:=cell_of_one p4
 have l4:=zAb p4
 have hq:=p4_pos l.toNat
 have HLV:=lH hlv
 clear hlv
 have tailR:∀ (hroot:root=0\/(zAi s root=true/\(blk s root).level=l)),checkT s root l i=if i<0\/Go.Proofs.YtfmgdjgedhnmeaaGreat.p4 l.toNat<=i then 3 else 0:=by
  intro hroot
  unfold checkT
  rw [if_neg (by simp [HCE.out]),if_neg HLV.out,if_neg,if_neg]
  . rintro ⟨h1,h2⟩
    rcases hroot with h | ⟨_,h⟩
    . exact h1 h
    . exact h2 h
  . rintro ⟨h1,h2⟩
    rcases hroot with h | ⟨h,_⟩
    . exact h1 h
    . rw [h] at h2;cases h2
 have HT:=lH tailR
 clear tailR
 by_cases hr0:root=0
 . subst hr0
   have HR:=lH (HT.out (.inl rfl))
   clear HT hs hri
   generalize Go.Proofs.YtfmgdjgedhnmeaaGreat.p4 l.toNat=q at *
   by_cases hi1:i<0
   . go_wp2
     go_ret
     exact ⟨by rw [HR.out,if_pos (by omega)];rfl,hbw⟩
   . by_cases hi2:q<=i
     . go_wp2
       go_ret
       exact ⟨by rw [HR.out,if_pos (by omega)];rfl,hbw⟩
     . go_wp2
       go_ret
       exact ⟨by rw [HR.out,if_neg (by omega)];rfl,hbw⟩
 . have hr1:(root != 0)=true:=by rw [bne_iff_ne];exact hr0
   have H5:zAi s root=false->Hid (checkT s root l i=5):=fun h=>lH (by unfold checkT;rw [if_neg (by simp [HCE.out]),if_neg HLV.out,if_pos ⟨hr0,h⟩])
   by_cases hlo:root<1
   . have HR:=H5 (zFd s root hlo)
     clear H5 HT hs hri
     go_wp2
     go_ret
     exact ⟨by rw [HR.out];rfl,hbw⟩
   . by_cases hhi:(n:Int)<root
     . have HR:=H5 (zFS s root (by have:=HN.out;omega))
       clear H5 HT hs hri
       go_wp2
       go_ret
       exact ⟨by rw [HR.out];rfl,hbw⟩
     . obtain ⟨j,rfl⟩:∃ j:Nat,root=j+1:=⟨(root - 1).toNat,by omega⟩
       have hj:j<s.length:=by have:=HN.out;omega
       have hjn:(j:Int)<n:=by omega
       obtain ⟨sb,so,rfl,hsB⟩:=hs.at j hj
       have hB:=hsB j hj
       have x0:=hB.refs
       have x1:=hB.level
       have lB:=hB.lt
       have hrj:=hri _ (zMr hj)
       have htj:=zAF s j hj
       have hbj:=zAk s j hj
       rw [htj] at H5 HT
       rw [hbj] at HT
       have H4:0<s[j].refs->s[j].level≠l->Hid (checkT s ((j:Int)+1) l i=4):=fun h1 h2=>lH (by
        unfold checkT
        rw [if_neg (by simp [HCE.out]),if_neg HLV.out,if_neg (by rw [htj];simp;omega),if_pos ⟨hr0,by rw [hbj];exact h2⟩])
       clear hsB hB htj hbj hs hri
       generalize s[j]=x at *
       obtain ⟨rr,lv,kk,bb⟩:=x
       simp only at *
       by_cases hz:rr=0
       . have hz1:(rr==0)=true:=by rw [hz];rfl
         have HR:=H5 (by rw [hz];rfl)
         clear H5 H4 HT hz hrj
         go_wp2
         go_ret
         exact ⟨by rw [HR.out];rfl,hbw⟩
       . have hz1:(rr==0)=false:=by rw [beq_eq_false_iff_ne];exact hz
         by_cases hl:lv=l
         . have hl1:(lv != l)=false:=by rw [hl];simp
           have HR:=lH (HT.out (.inr ⟨by simp;omega,hl⟩))
           clear H5 H4 HT hz hl hrj
           generalize Go.Proofs.YtfmgdjgedhnmeaaGreat.p4 l.toNat=q at *
           by_cases hi1:i<0
           . go_wp2
             go_ret
             exact ⟨by rw [HR.out,if_pos (by omega)];rfl,hbw⟩
           . by_cases hi2:q<=i
             . go_wp2
               go_ret
               exact ⟨by rw [HR.out,if_pos (by omega)];rfl,hbw⟩
             . go_wp2
               go_ret
               exact ⟨by rw [HR.out,if_neg (by omega)];rfl,hbw⟩
         . have hl1:(lv != l)=true:=by rw [bne_iff_ne];exact hl
           have HR:=H4 (by omega) hl
           clear H5 H4 HT hz hl hrj
           go_wp2
           go_ret
           exact ⟨by rw [HR.out];rfl,hbw⟩
def p4n (k:Nat):Nat:=if k=0 then 1 else if k=1 then 4 else if k=2 then 16 else 64
theorem zGF (k:Nat):p4 k=(p4n k:Int):=by unfold p4 p4n;(repeat' split)<;>rfl
theorem zB9 (k:Nat):0<p4n k:=by unfold p4n;(repeat' split)<;>omega
theorem zBu (k:Nat) (h:k<3):p4n (k+1)=4*p4n k:=by
 rcases (show k=0\/k=1\/k=2 from by omega) with rfl | rfl | rfl<;>rfl
def leafA:Nat->List Blk->Int->Nat->Int
 | 0,_,a,_=>a
 | m+1,s,a,i=>if a=0 then 0 else leafA m s (((blk s a).kids[i / p4n m]?).getD 0) (i%p4n m)
def leafB (m:Nat) (s:List Blk) (a:Int) (i:Nat):List Int:=if leafA m s a i=0 then [] else (blk s (leafA m s a i)).bytes
theorem zDc (m:Nat) (s:List Blk) (i:Nat):leafA m s 0 i=0:=by cases m<;>simp [leafA]
def zAs (s:List Blk) (m:Nat) (a:Int):Prop:=a=0\/(zAi s a=true/\(blk s a).level=m)
theorem zG3 {s:List Blk} (h:zAI s s=0) {a:Int} (ha:zAi s a=true) (hl:1<=(blk s a).level):(blk s a).kids.length=4:=by
 obtain ⟨k,hk,rfl,hr⟩:=zAt ha
 rw [zAk s k hk] at hl ⊢
 rw [zMt hk,zM3] at hr
 rcases zAY s s[k] (zBa s s h _ (zMr hk)) with ⟨e,_⟩ | ⟨_,_,e,_⟩ | ⟨_,_,_,_,e,_⟩<;>omega
theorem zF1 {s:List Blk} (h:zAI s s=0) {a:Int} (ha:zAi s a=true) (hl:(blk s a).level=0):(blk s a).bytes.length=4:=by
 obtain ⟨k,hk,rfl,hr⟩:=zAt ha
 rw [zAk s k hk] at hl ⊢
 rw [zMt hk,zM3] at hr
 rcases zAY s s[k] (zBa s s h _ (zMr hk)) with ⟨e,_⟩ | ⟨_,_,_,_,e⟩ | ⟨_,_,e,_⟩<;>omega
theorem zJj {s:List Blk} (h:zAI s s=0) {m:Nat} {a:Int} (ha:zAi s a=true) (hl:(blk s a).level=(m:Int)+1) (q:Nat) (hq:q<(blk s a).kids.length):zAs s m (blk s a).kids[q]:=by
 rcases (zDz s h).kid a ha _ (zMr hq) with h0 | ⟨h1,h2⟩
 . exact .inl h0
 . exact .inr ⟨h1,by omega⟩
theorem zBO {i q:Nat} (hq:0<q) (h:i<4*q):i / q<4:=by
 rw [Nat.div_lt_iff_lt_mul hq];omega
set_option maxRecDepth 100000 in
set_option maxHeartbeats 4000000 in
theorem zIF (w:World) (ao:Option Addr) (n cap:Nat) (s:List Blk) (a:Int) (m i:Nat) (hn:s.length=n) (h400:n<=400) (hs:StoRow w ao s) (hwf:WfS s) (hf:zAI s s=0) (hm:m<=3) (hr:zAs s m a) (hi:i<p4n m) :
 Calls Tryz.prog 102 #[.agg #[.slice ao n cap],.int .i64 a,.int .i64 m,.int .i64 i] w fun e w'=>∃ v,e=.returned v/\Sl .u8 w' v (leafB m s a i)/\Below w.heap.size w w':=by
 have HN:=lH hn
 have hb0:=bA0 w (.cells #[.slice ao n cap] 24)
 have q4:=heap_alloc_new w (.cells #[.slice ao n cap] 24)
 clear hn
 go_enter Tryz.func102,Tryz.ntmps102
 go_wp2
 have hs:=hs.mono hb0
 generalize w.alloc (.cells #[.slice ao n cap] 24)=W0 at *
 have c4:=cell_of_one q4
 have l4:=zAb q4
 go_loopw [1,2,3] (fun u v x wr=>∃ (b:Int) (k j:Nat),u=.int .i64 b/\v=.int .i64 k/\x=.int .i64 j/\k<=m/\zAs s k b/\j<p4n k/\Hid (leafA k s b j=leafA m s a i)/\Below W0.heap.size W0 wr) (fun _ v _ _=>(intOf v).toNat)
 case atStart=>exact ⟨a,m,i,rfl,rfl,rfl,zMs _,hr,hi,lH rfl,zMy _ _⟩
 case round=>
  obtain ⟨b,k,j,rfl,rfl,rfl,hk,hrb,hj,HL,hbel⟩:=hrel
  have hbw:=zAd hb0 hbel
  have c4:=(hbel.cell (p:=⟨w.heap.size,0,none⟩) l4).trans c4
  have l4:=zMw l4 hbel.size
  have hs:=hs.mono hbel
  by_cases hb:b=0
  . subst hb
    have HE:=lH (show leafB m s a i=[] by unfold leafB;rw [if_pos (by rw [<- HL.out,zDc])])
    clear hrb HL
    go_wp2
    go_ret
    exact ⟨_,rfl,by rw [HE.out];exact ⟨none,0,rfl,.inl rfl,zMs _,fun _=>rfl⟩,hbw⟩
  . obtain ⟨hbt,hbl⟩:=hrb.resolve_left hb
    have hb1:(b != 0)=true:=by rw [bne_iff_ne];exact hb
    have hb2:(b==0)=false:=by rw [beq_eq_false_iff_ne];exact hb
    cases k with
    | zero=>
     have hlb:leafA m s a i=b:=HL.out.symm
     have HE:=lH (show leafB m s a i=(blk s b).bytes by unfold leafB;rw [hlb,if_neg hb])
     obtain ⟨q,hq,rfl,-⟩:=zAt hbt
     rw [zAk s q hq] at HE
     have hqn:(q:Int)<n:=by have:=HN.out;omega
     obtain ⟨sb,so,rfl,hsB⟩:=hs.at q hq
     have hB:=hsB q hq
     obtain ⟨v3,x3,hv3⟩:=hB.bytes
     have lB:=hB.lt
     obtain ⟨ba,bc,rfl,hbr,hbc⟩:=hv3
     clear hsB hB hlb HL hbt hbl hb
     go_wp2
     go_ret
     exact ⟨_,rfl,by rw [HE.out];exact ⟨ba,bc,rfl,hbr,hbc⟩,hbw⟩
    | succ k=>
     have hk4:=zG3 hf hbt (by omega)
     have hkid:=zJj hf hbt (m:=k) (by omega)
     have hps:=zBu k (by omega)
     have hpp:=zB9 k
     have hd4:j / p4n k<4:=zBO hpp (by omega)
     have hmd:j%p4n k<p4n k:=zNu _ hpp
     have hla:leafA (k+1) s b j=leafA k s (((blk s b).kids[j / p4n k]?).getD 0) (j%p4n k):=by
      rw [leafA,if_neg hb]
     rw [zMt (by omega),zM3] at hla
     have HK:=lH (hkid (j / p4n k) (by omega))
     have HLA:=lH (hla.symm.trans HL.out)
     have hl1:lvN ((k:Int)+1 - 1)=(((p4n k:Nat):Int),0):=by
      rw [show (k:Int)+1 - 1=k from by omega]
      unfold lvN
      rw [if_neg (by omega),<- zGF];rfl
     have hp64:p4n k<=64:=by unfold p4n;(repeat' split)<;>omega
     obtain ⟨q,hq,rfl,-⟩:=zAt hbt
     rw [zAk s q hq] at hk4
     have hqn:(q:Int)<n:=by have:=HN.out;omega
     obtain ⟨sb,so,rfl,hsB⟩:=hs.at q hq
     have hB:=hsB q hq
     obtain ⟨v2,x2,hv2⟩:=hB.kids
     have lB:=hB.lt
     obtain ⟨ka,kc,rfl,hkr,hkc⟩:=hv2
     have hdl:j / p4n k<s[q].kids.length:=by omega
     obtain ⟨kb,ko,rfl,hkk⟩:=hkr.at _ hdl
     have xk:=hkk _ hdl
     have lk:=zMx _ _ xk
     have HK2:Hid (zAs s k s[q].kids[j / p4n k]):=lH (by have:=HK.out;simp only [zAk s q hq] at this;exact this)
     have HLA2:Hid (leafA k s s[q].kids[j / p4n k] (j%p4n k)=leafA m s a i):=lH (by have:=HLA.out;simp only [zAk s q hq] at this;exact this)
     have hde:(j:Int) / ((p4n k:Nat):Int)=((j / p4n k:Nat):Int):=rfl
     have hme:(j:Int)%((p4n k:Nat):Int)=((j%p4n k:Nat):Int):=rfl
     have hj64:j<256:=by omega
     clear hsB hB hkr hkk HK HLA HL hla hkid hbt hbl hb hrb hkc
     have hl1':lvN (k:Int)=(((p4n k:Nat):Int),0):=by rw [<- hl1];congr 1;omega
     have hdl4:=hd4
     clear hl1 hps hj hd4
     have hk4n:s[q].kids.length=4:=hk4
     generalize s[q].kids[j / p4n k]=y at *
     have hqd:j / p4n k<4:=hdl4
     have hb1:0<=(j:Int) / ((p4n k:Nat):Int):=zOx (j / p4n k)
     have hb2:(j:Int) / ((p4n k:Nat):Int)<4:=Int.ofNat_lt.2 hqd
     have hb3:0<=(j:Int)%((p4n k:Nat):Int):=zOx (j%p4n k)
     have hb4:(j:Int)%((p4n k:Nat):Int)<64:=Int.ofNat_lt.2 (zMw hmd hp64)
     have HMM:=lH (show (j:Int)%((p4n k:Nat):Int)=((j%p4n k:Nat):Int) from rfl)
     have HMD:=lH hmd
     have hq64:((p4n k:Nat):Int)<=64:=Int.ofNat_le.2 hp64
     have hq1:0<((p4n k:Nat):Int):=Int.ofNat_lt.2 hpp
     clear hqd hdl hmd hde hme hp64 hpp hk4n
     generalize j%p4n k=mm at HMM HMD HLA2
     generalize hqq:p4n k=qn at *
     replace hqq:=lH hqq
     go_wp2_with fail
     refine (zC7 _ _).mono ?_
     rw [hl1']
     rintro e w2 ⟨rfl,rfl⟩
     go_wp2_with fail
     go_region
     go_wp2
     go_roundw
     case rel=>exact ⟨y,k,mm,rfl,by go_num,by rw [HMM.out],by omega,HK2.out,by rw [hqq.out];exact HMD.out,HLA2,hbel.drew⟩
     case measure=>simp [intOf]
theorem zHy {s:List Blk} (hf:zAI s s=0):∀ (m:Nat) (a:Int) (i:Nat),m<=3->zAs s m a->i<p4n m->(leafB m s a i).length<=4/\zAs s 0 (leafA m s a i):=by
 have key:∀ (m:Nat) (a:Int) (i:Nat),m<=3->zAs s m a->i<p4n m->zAs s 0 (leafA m s a i):=by
  intro m
  induction m with
  | zero=>intro a i _ hr _;exact hr
  | succ m ih=>
   intro a i hm hr hi
   unfold leafA
   split
   . exact .inl rfl
   . rename_i h0
     obtain ⟨h1,h2⟩:=hr.resolve_left h0
     have hk4:=zG3 hf h1 (by omega)
     have hps:=zBu m (by omega)
     have hpp:=zB9 m
     have hd4:i / p4n m<4:=zBO hpp (by omega)
     rw [zMt (by rw [hk4];exact hd4),zM3]
     exact ih _ _ (by omega) (zJj hf h1 (by omega) _ _) (zNu _ hpp)
 intro m a i hm hr hi
 have h:=key m a i hm hr hi
 refine ⟨?_,h⟩
 unfold leafB
 split
 . simp
 . rename_i h0
   obtain ⟨h1,h2⟩:=h.resolve_left h0
   rw [zF1 hf h1 (by omega)];omega
end Go.Proofs.YtfmgdjgedhnmeaaGreat
