/- file.Read. -/
import Derived.Test.YtfmgdjgedhnmeaaGreatFileOver
namespace Go.Proofs.YtfmgdjgedhnmeaaGreat
open Go.RowKit
set_option linter.unusedVariables false
set_option linter.unusedSimpArgs false
def readR (s:List Blk) (key root z at_ k:Int):List Int×Int:=
 if fileE s key root z≠0 then ([],fileE s key root z) else if at_<0\/k<0\/256<at_\/256<k then ([],3) else (((fileB s key root z).take (at_+k).toNat).drop at_.toNat,0)
theorem zB4 {s:List Blk} {key root:Int} {z:Nat} (hok:fileE s key root z=0):(fileB s key root z).length=z:=by
 obtain ⟨hk,-,hz256,hc,-⟩:=zAA hok
 obtain ⟨hce,m,hm3,hm,hroot,-,-⟩:=zAP hc
 obtain rfl:m=3:=by omega
 unfold fileB
 rw [zMI,zBC (zB7 (zAg s hce).2.1 (by omega) hroot),zNA]
 omega
theorem zGI {k:IntKind} {w:World} {g:Nat} {xs:List Int} (h:Row k w (some ⟨g,0,none⟩) xs) (q m:Nat):Row k w (some ⟨g,q,none⟩) ((xs.take m).drop q):=by
 rcases zMJ xs.length with h0 | h0
 . exact .inl (by rw [zMv h0];simp)
 . obtain ⟨b,o,he,hc⟩:=h.at 0 h0
   simp only [zMz,zME,and_true] at he
   obtain ⟨rfl,rfl⟩:=he
   refine .inr ⟨g,q,rfl,fun i hi=>?_⟩
   have hi2:q+i<xs.length:=by rw [zMF,zMI] at hi;omega
   have:=hc (q+i) hi2
   rw [zML] at this
   rw [this]
   simp
def SlEnd (e:Ending) (w w':World) (r:List Int×Int):Prop:=
 ∃ ao' n' cap',e=.returned (.tuple #[.slice ao' n' cap',.int .i64 r.2])/\r.1.length=n'/\Row .u8 w' ao' r.1/\Capd ao' n' cap'/\Below w.heap.size w w'
theorem SlEnd.none (w w':World) (x:Int) (hb:Below w.heap.size w w'):SlEnd (.returned (.tuple #[.slice none 0 0,.int .i64 x])) w w' ([],x):=⟨Option.none,0,0,rfl,rfl,.inl rfl,⟨zMs _,fun _=>rfl⟩,hb⟩
set_option maxRecDepth 100000 in
set_option maxHeartbeats 8000000 in
theorem zI9 (w:World) (ao:Option Addr) (n cap:Nat) (s:List Blk) (key root size at_ k:Int) (hn:s.length=n) (hn63:n<=1152921504606846976) (hs:StoRow w ao s) (hwf:WfS s) (hz:I64 size) (hc:Capd ao n cap) :
 Calls Tryz.prog 60 #[.agg #[.slice ao n cap],.int .i64 key,.agg #[.int .i64 root,.int .i64 size],.int .i64 at_,.int .i64 k] w fun e w'=>SlEnd e w w' (readR s key root size at_ k):=by
 have HN:=lH hn
 have hb0:Below w.heap.size w ((w.alloc (.cells #[.slice ao n cap] 24)).alloc (.cells #[.int .i64 root,.int .i64 size] 74)):=((zMy _ _).alloc (zMs _) _).alloc (by simp) _
 have p0:((w.alloc (.cells #[.slice ao n cap] 24)).alloc (.cells #[.int .i64 root,.int .i64 size] 74)).heap[w.heap.size]?=some (.cells #[.slice ao n cap] 24 (0,0)):=heap_alloc2_old _ _ _
 have p1:((w.alloc (.cells #[.slice ao n cap] 24)).alloc (.cells #[.int .i64 root,.int .i64 size] 74)).heap[w.heap.size+1]?=some (.cells #[.int .i64 root,.int .i64 size] 74 (0,0)):=heap_alloc2_new _ _ _
 clear hn
 obtain ⟨RD,hRD⟩:∃ RD,readR s key root size at_ k=RD:=⟨_,rfl⟩
 rw [hRD]
 have HRD:=lH hRD
 clear hRD
 go_enter Tryz.func60,Tryz.ntmps60
 go_wp2_with fail
 generalize (w.alloc (.cells #[.slice ao n cap] 24)).alloc (.cells #[.int .i64 root,.int .i64 size] 74)=W0 at *
 have hs:=hs.mono hb0
 refine (zCB _ _ _ _ s key root size HN.out hn63 hs hwf hz).mono ?_
 rintro e w1 ⟨rfl,hb1⟩
 have p0:=Zm hb1 p0
 have p1:=Zm hb1 p1
 have hs:=hs.mono hb1
 have hbw:=zAd hb0 hb1
 have c0:=cell_of_one p0
 have c10:=zAa p1 0
 have c11:=zAa p1 1
 simp at c10 c11
 have l0:=zAb p0
 have l1:=zAb p1
 by_cases hce:fileE s key root size=0
 rotate_left
 . have HR:Hid (RD=([],fileE s key root size)):=lH (by rw [<- HRD.out];unfold readR;rw [if_pos hce])
   have he1:(fileE s key root size != 0)=true:=by rw [bne_iff_ne];exact hce
   generalize fileE s key root size=ce at *
   clear hs hce hb1 HRD
   go_wp2
   refine bodyPost_ret (v:=.tuple #[.slice none 0 0,.int .i64 ce]) (by simp [results,Tryz.results60,go_sem]) rfl ?_
   rw [HR.out]
   exact SlEnd.none _ _ _ hbw
 obtain ⟨-,hz0,hz1,-,-⟩:=zAA hce
 obtain ⟨z,rfl⟩:∃ z:Nat,size=z:=⟨size.toNat,by omega⟩
 have hFL:=zB4 hce
 have HB2:=lH (fun (u:World) (h:StoRow u ao s)=>zDA u ao n cap s key root z HN.out hn63 h hwf hce)
 by_cases h1:at_<0\/k<0\/256<at_\/256<k
 . have HR:Hid (RD=([],3)):=lH (by rw [<- HRD.out];unfold readR;rw [if_neg (fun h=>h hce),if_pos h1])
   rw [hce]
   clear hs hb1 HRD HB2 hce hFL
   have key4:∀ (a b c d:Bool),a=decide (at_<0)->b=decide (k<0)->c=decide (256<at_)->d=decide (256<k)->(a||b||c||d)=true:=by
    intro a b c d ha hb hc hd
    subst ha hb hc hd
    simp only [zNk,decide_eq_true_eq]
    omega
   by_cases e1:at_<0<;>by_cases e2:k<0<;>by_cases e3:256<at_<;>by_cases e4:256<k
   all_goals try (exfalso;omega)
   all_goals
    clear key4 h1
    go_wp2
    refine bodyPost_ret (v:=.tuple #[.slice none 0 0,.int .i64 3]) (by simp [results,Tryz.results60,go_sem]) rfl ?_
    rw [HR.out]
    exact SlEnd.none _ _ _ hbw
 obtain ⟨q,rfl⟩:∃ q:Nat,at_=q:=⟨at_.toNat,by omega⟩
 obtain ⟨l,rfl⟩:∃ l:Nat,k=l:=⟨k.toNat,by omega⟩
 have HR:Hid (RD=(((fileB s key root z).take (q+l)).drop q,0)):=lH (by rw [<- HRD.out];unfold readR;rw [if_neg (fun h=>h hce),if_neg h1];rfl)
 rw [hce]
 generalize fileB s key root z=F at *
 have HFL:=lH hFL
 have e1:¬ ((q:Int)<0):=by omega
 have e2:¬ ((l:Int)<0):=by omega
 have e3:¬ ((256:Int)<q):=by omega
 have e4:¬ ((256:Int)<l):=by omega
 clear h1 HRD hce hFL hb1
 go_wp2_with fail
 refine (HB2.out w1 hs).mono ?_
 rintro e w2 ⟨g,c,rfl,hzc,hg1,hg2,hrow,hb2⟩
 simp only [zNA] at hzc ⊢
 rcases (show (q<z/\q+l<z)\/(q<z/\q+l=z)\/(q<z/\z<q+l)\/(q=z/\l=0)\/(q=z/\0<l)\/z<q from by omega) with ⟨h1,h2⟩ | ⟨h1,h2⟩ | ⟨h1,h2⟩ | ⟨h1,h2⟩ | ⟨h1,h2⟩ | h1
 . have i0:(q:Int)<z:=by omega
   have i1:(q:Int)+l<z:=by omega
   have i2:¬ ((z:Int)<q):=by omega
   have i3:¬ ((z:Int)<(q:Int)+l):=by omega
   have i4:(q:Int)<=(q:Int)+l:=by omega
   have i5:(q:Int)+l<=c:=by omega
   have i6:¬ c=q:=by omega
   go_wp2_with fail
   refine (zAE _ _ _ ((F.take (q+l)).drop q) _ (by rw [zMF,zMI,HFL.out];omega) (zGI hrow q (q+l)) (fun h=>by cases h) (by omega)).mono ?_
   rintro e w3 ⟨v,rfl,ho,-,hb3⟩
   obtain ⟨ao2,cap2,hv2,hr2,hc2⟩:=zDs ho
   obtain ⟨N,hN⟩:∃ N,((F.take (q+l)).drop q).length=N:=⟨_,rfl⟩
   rw [hN] at hv2 hc2
   subst hv2
   have HN2:=lH hN
   have hb4:=(hbw.trans (hb2.mono (by have:=hbw.size;omega))).trans (hb3.mono (by have:=hbw.size;have:=hb2.size;omega))
   clear hN ho
   go_wp2_with fail
   refine bodyPost_ret (v:=.tuple #[.slice ao2 N cap2,.int .i64 0]) (by simp [results,Tryz.results60,go_sem]) rfl ?_
   rw [HR.out]
   exact ⟨ao2,N,cap2,rfl,HN2.out,hr2,hc2,hb4⟩
 . have i0:(q:Int)<z:=by omega
   have i1:¬ ((q:Int)+l<z):=by omega
   have i2:¬ ((z:Int)<q):=by omega
   have i3:¬ ((z:Int)<(q:Int)+l):=by omega
   have i4:¬ c=q:=by omega
   go_wp2_with fail
   refine (zAE _ _ _ ((F.take (q+l)).drop q) _ (by rw [zMF,zMI,HFL.out];omega) (zGI hrow q (q+l)) (fun h=>by cases h) (by omega)).mono ?_
   rintro e w3 ⟨v,rfl,ho,-,hb3⟩
   obtain ⟨ao2,cap2,hv2,hr2,hc2⟩:=zDs ho
   obtain ⟨N,hN⟩:∃ N,((F.take (q+l)).drop q).length=N:=⟨_,rfl⟩
   rw [hN] at hv2 hc2
   subst hv2
   have HN2:=lH hN
   have hb4:=(hbw.trans (hb2.mono (by have:=hbw.size;omega))).trans (hb3.mono (by have:=hbw.size;have:=hb2.size;omega))
   clear hN ho
   go_wp2_with fail
   refine bodyPost_ret (v:=.tuple #[.slice ao2 N cap2,.int .i64 0]) (by simp [results,Tryz.results60,go_sem]) rfl ?_
   rw [HR.out]
   exact ⟨ao2,N,cap2,rfl,HN2.out,hr2,hc2,hb4⟩
 . have i0:(q:Int)<z:=by omega
   have i1:¬ ((q:Int)+l<z):=by omega
   have i2:¬ ((z:Int)<q):=by omega
   have i3:((z:Int)<(q:Int)+l):=by omega
   have i4:¬ c=q:=by omega
   go_wp2_with fail
   refine (zAE _ _ _ ((F.take (q+l)).drop q) _ (by rw [zMF,zMI,HFL.out];omega) (zGI hrow q (q+l)) (fun h=>by cases h) (by omega)).mono ?_
   rintro e w3 ⟨v,rfl,ho,-,hb3⟩
   obtain ⟨ao2,cap2,hv2,hr2,hc2⟩:=zDs ho
   obtain ⟨N,hN⟩:∃ N,((F.take (q+l)).drop q).length=N:=⟨_,rfl⟩
   rw [hN] at hv2 hc2
   subst hv2
   have HN2:=lH hN
   have hb4:=(hbw.trans (hb2.mono (by have:=hbw.size;omega))).trans (hb3.mono (by have:=hbw.size;have:=hb2.size;omega))
   clear hN ho
   go_wp2_with fail
   refine bodyPost_ret (v:=.tuple #[.slice ao2 N cap2,.int .i64 0]) (by simp [results,Tryz.results60,go_sem]) rfl ?_
   rw [HR.out]
   exact ⟨ao2,N,cap2,rfl,HN2.out,hr2,hc2,hb4⟩
 . subst h1
   subst h2
   have i0:¬ ((q:Int)<q):=by omega
   by_cases hcz:c=q
   all_goals
    go_wp2_with fail
    refine (zAE _ _ _ ((F.take (q+0)).drop q) _ (by rw [zMF,zMI,HFL.out];omega) (.inl (zMv (by rw [zMF,zMI,HFL.out];omega))) (fun h=>by cases h) (by omega)).mono ?_
    rintro e w3 ⟨v,rfl,ho,-,hb3⟩
    obtain ⟨ao2,cap2,hv2,hr2,hc2⟩:=zDs ho
    obtain ⟨N,hN⟩:∃ N,((F.take (q+0)).drop q).length=N:=⟨_,rfl⟩
    rw [hN] at hv2 hc2
    subst hv2
    have HN2:=lH hN
    have hb4:=(hbw.trans (hb2.mono (by have:=hbw.size;omega))).trans (hb3.mono (by have:=hbw.size;have:=hb2.size;omega))
    clear hN ho
    go_wp2_with fail
    refine bodyPost_ret (v:=.tuple #[.slice ao2 N cap2,.int .i64 0]) (by simp [results,Tryz.results60,go_sem]) rfl ?_
    rw [HR.out]
    exact ⟨ao2,N,cap2,rfl,HN2.out,hr2,hc2,hb4⟩
 . subst h1
   have i0:¬ ((q:Int)<q):=by omega
   have i1:¬ ((q:Int)+l<q):=by omega
   have i2:(q:Int)<(q:Int)+l:=by omega
   by_cases hcz:c=q
   all_goals
    go_wp2_with fail
    refine (zAE _ _ _ ((F.take (q+l)).drop q) _ (by rw [zMF,zMI,HFL.out];omega) (.inl (zMv (by rw [zMF,zMI,HFL.out];omega))) (fun h=>by cases h) (by omega)).mono ?_
    rintro e w3 ⟨v,rfl,ho,-,hb3⟩
    obtain ⟨ao2,cap2,hv2,hr2,hc2⟩:=zDs ho
    obtain ⟨N,hN⟩:∃ N,((F.take (q+l)).drop q).length=N:=⟨_,rfl⟩
    rw [hN] at hv2 hc2
    subst hv2
    have HN2:=lH hN
    have hb4:=(hbw.trans (hb2.mono (by have:=hbw.size;omega))).trans (hb3.mono (by have:=hbw.size;have:=hb2.size;omega))
    clear hN ho
    go_wp2_with fail
    refine bodyPost_ret (v:=.tuple #[.slice ao2 N cap2,.int .i64 0]) (by simp [results,Tryz.results60,go_sem]) rfl ?_
    rw [HR.out]
    exact ⟨ao2,N,cap2,rfl,HN2.out,hr2,hc2,hb4⟩
 . skip
   have i0:¬ ((q:Int)<z):=by omega
   have i1:¬ ((q:Int)+l<z):=by omega
   have i2:((z:Int)<q):=by omega
   have i3:((z:Int)<(q:Int)+l):=by omega
   by_cases hcz:c=z
   all_goals
    go_wp2_with fail
    refine (zAE _ _ _ ((F.take (q+l)).drop q) _ (by rw [zMF,zMI,HFL.out];omega) (.inl (zMv (by rw [zMF,zMI,HFL.out];omega))) (fun h=>by cases h) (by omega)).mono ?_
    rintro e w3 ⟨v,rfl,ho,-,hb3⟩
    obtain ⟨ao2,cap2,hv2,hr2,hc2⟩:=zDs ho
    obtain ⟨N,hN⟩:∃ N,((F.take (q+l)).drop q).length=N:=⟨_,rfl⟩
    rw [hN] at hv2 hc2
    subst hv2
    have HN2:=lH hN
    have hb4:=(hbw.trans (hb2.mono (by have:=hbw.size;omega))).trans (hb3.mono (by have:=hbw.size;have:=hb2.size;omega))
    clear hN ho
    go_wp2_with fail
    refine bodyPost_ret (v:=.tuple #[.slice ao2 N cap2,.int .i64 0]) (by simp [results,Tryz.results60,go_sem]) rfl ?_
    rw [HR.out]
    exact ⟨ao2,N,cap2,rfl,HN2.out,hr2,hc2,hb4⟩
def cutL (b:List Int) (k:Nat):List Int:=b.take k++zeros (k - b.length)
theorem zDQ (s:List Blk) (key root z:Int):Byt (fileB s key root z):=by
 intro x hx
 have hx:=zNl hx
 unfold zBm at hx
 rw [List.mem_flatMap] at hx
 obtain ⟨i,-,hx⟩:=hx
 unfold zAQ at hx
 split at hx
 . simp at hx;omega
 . exact zC2 _ _ _ _ x hx
theorem zGe (b:List Int) (k:Nat):(cutL b k).length=k:=by simp [cutL,zeros];omega
theorem zGg {b:List Int} (h:Byt b) (k:Nat):Byt (cutL b k):=by
 intro x hx
 rcases zNo.1 hx with h1 | h1
 . exact h x (zNl h1)
 . have:=(List.mem_replicate.1 h1).2
   omega
theorem zFy {b more:List Int} {at_:Int} (h:(overR b at_ more).2=0) (hb:b.length<=256):(overR b at_ more).1.length<=256:=by
 unfold overR at h ⊢
 split at h
 . simp at h
 . split at h
   . simp at h
   . rename_i h1 h2
     rw [if_neg h1,if_neg h2,zGK]
     split<;>omega
theorem zE1 {b more:List Int} {at_:Int} (hb:Byt b) (hm:Byt more):Byt (overR b at_ more).1:=by
 unfold overR
 split
 . intro x hx;cases hx
 . split
   . intro x hx;cases hx
   . exact zMl hb hm _
end Go.Proofs.YtfmgdjgedhnmeaaGreat
