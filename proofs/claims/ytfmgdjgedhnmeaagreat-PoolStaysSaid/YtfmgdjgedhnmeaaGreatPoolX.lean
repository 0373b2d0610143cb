/- pool.do, whatever is asked; pool.Do. -/
import Derived.Deep.RegionWith
import Derived.Deep.RegionHeld3
import Derived.Test.YtfmgdjgedhnmeaaGreatPdoB
import Derived.Test.YtfmgdjgedhnmeaaGreatPdoC
import Derived.Test.YtfmgdjgedhnmeaaGreatPdoE
import Derived.Test.YtfmgdjgedhnmeaaGreatPoolCheck
namespace Go.Proofs.YtfmgdjgedhnmeaaGreat
open Go.RowKit
set_option linter.unusedVariables false
set_option linter.unusedSimpArgs false
theorem pdo_any (w0 w:World) (K W Z:Nat) (B:Nat->Prop) (pb i:Nat) (so:Option Addr) (sn sc:Nat) (ao:Option Addr) (n cap:Nat) (p:PoolV) (vs:List Tnv) (t:TenV) (ba:Option Addr) (bn bc:Nat) (a:AskV) (r:List Blk×TenV×AnsV×Int) (h:DoIn w0 w K W Z B pb i so sn sc ao n cap p vs t ba bn bc a) (hr:doT p.s t a=r) :
 Calls Tryz.prog 11 #[.pointer (some ⟨pb,0,none⟩),.int .i64 i,.agg #[.int .i64 a.kind,.string a.sname,.string a.file,.string a.dest,.int .i64 a.at_,.int .i64 a.n,.slice ba bn bc]] w fun e w'=>zBB e w0 w w' K W Z pb ao n cap p i r:=by
 by_cases h1:a.kind=1
 . exact pdo_make _ _ _ _ _ _ _ _ _ _ _ _ _ _ _ _ _ _ _ _ _ _ h hr h1
 by_cases h2:a.kind=13
 . exact pdo_uses _ _ _ _ _ _ _ _ _ _ _ _ _ _ _ _ _ _ _ _ _ _ h hr h2
 by_cases h3:a.kind=11
 . exact zJA _ _ _ _ _ _ _ _ _ _ _ _ _ _ _ _ _ _ _ _ _ _ h hr h3
 by_cases h4:a.kind=12
 . exact zKj _ _ _ _ _ _ _ _ _ _ _ _ _ _ _ _ _ _ _ _ _ _ h hr h4
 by_cases h5:a.kind=2
 . exact zHU _ _ _ _ _ _ _ _ _ _ _ _ _ _ _ _ _ _ _ _ _ _ h hr h5
 by_cases h6:a.kind=10
 . exact zLR _ _ _ _ _ _ _ _ _ _ _ _ _ _ _ _ _ _ _ _ _ _ h hr h6
 exact zLG _ _ _ _ _ _ _ _ _ _ _ _ _ _ _ _ _ _ _ _ _ _ h hr ⟨h1,h2,h3,h4,h5,h6⟩
theorem zAx.ao_ge {w0 w:World} {K W:Nat} {B:Nat->Prop} {ao:Option Addr} {n cap i:Nat} {l:List TenV} {vs:List Tnv} (h:zAx w0 w K W B ao n cap l vs i):∀ g o,ao=some ⟨g,o,none⟩->W<=g:=by
 rcases h.own with ⟨_,e⟩ | ⟨g',cap',sp,e1,e2,-,-⟩
 . intro g o e'
   simp only [Value.slice.injEq] at e
   rw [e.1] at e'
   cases e'
 . intro g o e
   simp only [Value.slice.injEq] at e1
   rw [e1.1] at e
   simp only [zMz,zME] at e
   omega
def zDB (X:World) (b6 b7:Nat) (u0 u1 v0 v1 v2 v3:Value):World:=putA ((X.setCell ⟨b6,0,none⟩ u0).setCell ⟨b6,1,none⟩ u1) b7 v0 v1 v2 v3
theorem zEP {X:World} {b6 b7 t6 t7 l c m d nn nc bn bc:Nat} {x y na ba:Option Addr} {e k:Int} (p6:X.heap[b6]?=some (.cells #[.slice x l c,.slice y m d] t6 (0,0))) (p7:X.heap[b7]?=some (.cells #[.int .i64 e,.int .i64 k,.slice na nn nc,.slice ba bn bc] t7 (0,0))) (h:b6≠b7) (u0 u1 v0 v1 v2 v3:Value) :
 (zDB X b6 b7 u0 u1 v0 v1 v2 v3).heap[b6]?=some (.cells #[u0,u1] t6 (0,0))/\(zDB X b6 b7 u0 u1 v0 v1 v2 v3).heap[b7]?=some (.cells #[v0,v1,v2,v3] t7 (0,0))/\(∀ B w0,Below B w0 X->B<=b6->B<=b7->Below B w0 (zDB X b6 b7 u0 u1 v0 v1 v2 v3))/\Kept (fun b=>b=b6\/b=b7) X (zDB X b6 b7 u0 u1 v0 v1 v2 v3):=by
 have r0:=zAe p6 0 u0
 have r1:=zAe r0 1 u1
 simp only [zMS,zM7,zM9] at r1
 have q7:((X.setCell ⟨b6,0,none⟩ u0).setCell ⟨b6,1,none⟩ u1).heap[b7]?=_:=((zMu _ _ _ _ (Ne.symm h)).trans (zMu _ _ _ _ (Ne.symm h))).trans p7
 obtain ⟨z7,zb,zk,zs,-⟩:=zAS q7 v0 v1 v2 v3
 refine ⟨(zk _ h).trans r1,z7,fun B w0 hb h1 h2=>zb _ _ ((hb.setCell (p:=⟨b6,0,none⟩) h1 _).setCell (p:=⟨b6,1,none⟩) h1 _) h2,?_⟩
 exact (((((Kept.refl (fun b=>b=b6\/b=b7) X).set (.inr (.inl rfl)) u0).set (.inr (.inl rfl)) u1).set (.inr (.inr rfl)) v0).set (.inr (.inr rfl)) v1).set (.inr (.inr rfl)) v2 |>.set (.inr (.inr rfl)) v3
def DoPEnd (e:Ending) (w w':World) (r:PoolV×AnsV×Int):Prop:=
 ∃ (so:Option Addr) (sn sc:Nat) (ao:Option Addr) (n cap:Nat) (na:Option Addr) (nn nc:Nat) (ba:Option Addr) (bn bc:Nat),e=.returned (.tuple #[.agg #[.slice so sn sc,.slice ao n cap],.agg #[.int .i64 r.2.1.e,.int .i64 r.2.1.n,.slice na nn nc,.slice ba bn bc],.int .i64 r.2.2])/\Below w.heap.size w w'/\zAG w' so sn sc ao n cap r.1/\AnwIn w' na nn nc ba bn bc r.2.1/\
  (∀ g o,so=some ⟨g,o,none⟩->r.1.s≠[]->w.heap.size<=g)/\∀ g o,ao=some ⟨g,o,none⟩->w.heap.size<=g
theorem zKe (w:World):zAG w none 0 0 none 0 0 ⟨[],[]⟩:=⟨rfl,.inl rfl,⟨zMs _,fun _=>rfl⟩,rfl,⟨[],rfl,.inl rfl,fun i h=>absurd h (by simp)⟩,⟨zMs _,fun _=>rfl⟩⟩
theorem zD4 {w w':World} {ce:Int} (hb:Below w.heap.size w w'):DoPEnd (.returned (.tuple #[.agg #[.slice none 0 0,.slice none 0 0],.agg #[.int .i64 0,.int .i64 0,.slice none 0 0,.slice none 0 0],.int .i64 ce])) w w' (⟨[],[]⟩,noAns,ce):=
 ⟨none,0,0,none,0,0,none,0,0,none,0,0,rfl,hb,zKe w',AnwIn.none w' 0 0,fun _ _ h=>by (cases h),fun _ _ h=>by (cases h)⟩
theorem zFl (w:World):w.drew.heap=w.heap:=rfl
theorem zGP {p:PoolV} {k:Nat} {t:TenV} (h:p.tens[k]?=some t):tenAt p (k:Int)=t:=by
 unfold tenAt
 rw [zNA,h]
 rfl
set_option maxRecDepth 100000 in
set_option maxHeartbeats 8000000 in
theorem zC8 (w:World) (so ao ba:Option Addr) (sn sc n cap bn bc:Nat) (p:PoolV) (i:Int) (a:AskV) (r:PoolV×AnsV×Int) (hr:doP p i a=r) (hp:zAG w so sn sc ao n cap p) (hw:WfP p) (ha:AskIn w ba bn bc a) :
 Calls Tryz.prog 4 #[.agg #[.slice so sn sc,.slice ao n cap],.int .i64 i,.agg #[.int .i64 a.kind,.string a.sname,.string a.file,.string a.dest,.int .i64 a.at_,.int .i64 a.n,.slice ba bn bc]] w fun e w'=>DoPEnd e w w' r:=by
 obtain ⟨hb0,p3,p5,p6,p7,hz4⟩:=zB6 w (.cells #[.slice so sn sc,.slice ao n cap] 27) (.cells #[.int .i64 a.kind,.string a.sname,.string a.file,.string a.dest,.int .i64 a.at_,.int .i64 a.n,.slice ba bn bc] 30) (.cells #[.slice none 0 0,.slice none 0 0] 27) (.cells #[.int .i64 0,.int .i64 0,.slice none 0 0,.slice none 0 0] 34)
 have HP:=lH hp
 have HW:=lH hw
 have HA:=lH ha
 have HRD:=lH hr
 have HZ:=lH hz4
 have e0:=zAa p3 0
 have e1:=zAa p3 1
 simp at e0 e1
 clear hp hw ha hr hz4
 go_enter Tryz.func4,Tryz.ntmps4
 go_wp2_with fail
 generalize (((w.alloc (.cells #[.slice so sn sc,.slice ao n cap] 27)).alloc (.cells #[.int .i64 a.kind,.string a.sname,.string a.file,.string a.dest,.int .i64 a.at_,.int .i64 a.n,.slice ba bn bc] 30)).alloc (.cells #[.slice none 0 0,.slice none 0 0] 27)).alloc (.cells #[.int .i64 0,.int .i64 0,.slice none 0 0,.slice none 0 0] 34)=W0 at *
 refine (zBQ _ so ao sn sc n cap p (HP.out.mono hb0) HW.out).mono ?_
 rintro e w1 ⟨rfl,hb1⟩
 have hbw:=zAd hb0 hb1
 replace p3:=Zm hb1 p3
 replace p5:=Zm hb1 p5
 replace p6:=Zm hb1 p6
 replace p7:=Zm hb1 p7
 clear e0 e1 hb0 hb1
 have e0:=zAa p3 0
 have e1:=zAa p3 1
 have q0:=zAa p6 0
 have q1:=zAa p6 1
 have y0:=zAa p7 0
 have y1:=zAa p7 1
 have y2:=zAa p7 2
 have y3:=zAa p7 3
 simp only [cA1,cA2,cA3] at e0 e1 q0 q1 y0 y1 y2 y3
 have qf:=fun j=>zAc p6 j
 have yf:=fun j=>zAc p7 j
 have l3:=zAb p3
 have l6:=zAb p6
 have l7:=zAb p7
 by_cases hpe:poolE p=0
 rotate_left
 . have HR:Hid (r=(⟨[],[]⟩,noAns,poolE p)):=lH (by rw [<- HRD.out];unfold doP;rw [if_pos hpe])
   have he1:(poolE p != 0)=true:=by rw [bne_iff_ne];exact hpe
   generalize poolE p=ce at *
   clear hpe HRD HP HW HA
   obtain ⟨z6,z7,zb,-⟩:=zEP p6 p7 (by omega) (.slice none 0 0) (.slice none 0 0) (.int .i64 0) (.int .i64 0) (.slice none 0 0) (.slice none 0 0)
   have hbz:=zb _ _ hbw (by omega) (by omega)
   unfold zDB putA at z6 z7 hbz
   have x0:=zAa z6 0
   have x1:=zAa z6 1
   have v0:=zAa z7 0
   have v1:=zAa z7 1
   have v2:=zAa z7 2
   have v3:=zAa z7 3
   simp only [cA1,cA2,cA3] at x0 x1 v0 v1 v2 v3
   clear zb z6 z7
   go_wp2_with fail
   refine bodyPost_ret (v:=.tuple #[.agg #[.slice none 0 0,.slice none 0 0],.agg #[.int .i64 0,.int .i64 0,.slice none 0 0,.slice none 0 0],.int .i64 ce]) (by simp [results,Tryz.results4,go_sem,x0,x1,v0,v1,v2,v3]) rfl ?_
   rw [HR.out]
   exact zD4 hbz
 have HPE:=lH hpe
 have HOK:=lH (zCC hpe)
 rw [hpe]
 clear hpe
 by_cases hi0:i<0
 . have HR:Hid (r=(⟨[],[]⟩,noAns,5)):=lH (by rw [<- HRD.out];unfold doP;rw [if_neg (fun h=>h HPE.out),if_pos (.inl hi0)])
   clear HRD HP HW HA HOK HPE
   obtain ⟨z6,z7,zb,-⟩:=zEP p6 p7 (by omega) (.slice none 0 0) (.slice none 0 0) (.int .i64 0) (.int .i64 0) (.slice none 0 0) (.slice none 0 0)
   have hbz:=zb _ _ hbw (by omega) (by omega)
   unfold zDB putA at z6 z7 hbz
   have x0:=zAa z6 0
   have x1:=zAa z6 1
   have v0:=zAa z7 0
   have v1:=zAa z7 1
   have v2:=zAa z7 2
   have v3:=zAa z7 3
   simp only [cA1,cA2,cA3] at x0 x1 v0 v1 v2 v3
   clear zb z6 z7
   go_wp2_with fail
   refine bodyPost_ret (v:=.tuple #[.agg #[.slice none 0 0,.slice none 0 0],.agg #[.int .i64 0,.int .i64 0,.slice none 0 0,.slice none 0 0],.int .i64 5]) (by simp [results,Tryz.results4,go_sem,x0,x1,v0,v1,v2,v3]) rfl ?_
   rw [HR.out]
   exact zD4 hbz
 by_cases hi1:(n:Int)<=i
 . have HR:Hid (r=(⟨[],[]⟩,noAns,5)):=lH (by rw [<- HRD.out];unfold doP;rw [if_neg (fun h=>h HPE.out),if_pos (.inr (by have:=HP.out.len;omega))])
   clear HRD HW HA HOK HPE HP
   obtain ⟨z6,z7,zb,-⟩:=zEP p6 p7 (by omega) (.slice none 0 0) (.slice none 0 0) (.int .i64 0) (.int .i64 0) (.slice none 0 0) (.slice none 0 0)
   have hbz:=zb _ _ hbw (by omega) (by omega)
   unfold zDB putA at z6 z7 hbz
   have x0:=zAa z6 0
   have x1:=zAa z6 1
   have v0:=zAa z7 0
   have v1:=zAa z7 1
   have v2:=zAa z7 2
   have v3:=zAa z7 3
   simp only [cA1,cA2,cA3] at x0 x1 v0 v1 v2 v3
   clear zb z6 z7
   go_wp2_with fail
   refine bodyPost_ret (v:=.tuple #[.agg #[.slice none 0 0,.slice none 0 0],.agg #[.int .i64 0,.int .i64 0,.slice none 0 0,.slice none 0 0],.int .i64 5]) (by simp [results,Tryz.results4,go_sem,x0,x1,v0,v1,v2,v3]) rfl ?_
   rw [HR.out]
   exact zD4 hbz
 obtain ⟨k,rfl⟩:∃ k:Nat,i=k:=⟨i.toNat,by omega⟩
 have hk:k<p.tens.length:=by have:=HP.out.len;omega
 obtain ⟨t,ht⟩:∃ t,p.tens[k]?=some t:=⟨_,zMt hk⟩
 obtain ⟨RT,hRT⟩:∃ RT,doT p.s t a=RT:=⟨_,rfl⟩
 have HR0:Hid (r=if RT.2.2.2≠0 then (p,⟨RT.2.2.2,0,[],[]⟩,0) else (⟨RT.1,p.tens.set k RT.2.1⟩,RT.2.2.1,0)):=lH (by
  rw [<- HRD.out]
  unfold doP
  rw [if_neg (fun h=>h HPE.out),if_neg (by have:=HP.out.len;omega),zGP ht,hRT,zNA])
 have HOKT:=lH (fun h=>zKu HOK.out HW.out.sto (zM6 ht) HA.out.byt h)
 rw [hRT] at HOKT
 have hn3:n<=3:=by have:=HP.out.len;have:=HOK.out.len;omega
 have hsm:∀ t∈p.tens,t.sets.length<=3/\∀ x∈t.sets,zCM x:=fun t ht=>⟨(HOK.out.ten t ht).len,fun x hx=>((HOK.out.ten t ht).sets x hx).small⟩
 have hsl:sn<=2199023255552:=by have:=HP.out.slen;have:=HW.out.slen;omega
 have HCP:=lH (fun u (hu:Below w.heap.size w u)=>zEF w u w.heap.size so ao sn sc n cap p rfl hu HP.out HW.out.sto hsl (by omega) hsm)
 have HT:=lH ht
 have HK:=lH hk
 have HRT:=lH hRT
 have HBW:=lH hbw
 have HP3:=lH p3
 have HP5:=lH p5
 have HP6:=lH p6
 have HP7:=lH p7
 clear hsm hsl ht hk hRT HRD q0 q1 y0 y1 y2 y3 qf yf
 go_wp2_with fail
 refine (HCP.out _ hbw).mono ?_
 rintro e w2 ⟨so1,sc1,ao1,cap1,rfl,WC,B,vs,hW1,hl1,hc1,hst,hten,hB,hb2,hfar⟩
 have hk:=HK.out
 obtain ⟨tb,htb,htW,htl,-,-⟩:=hten.at k hk
 have hb3:=bA0 w2 (.cells #[.slice so1 sn sc1,.slice ao1 n cap1] 27)
 have hw12:=hb2.size
 have hw01:=hbw.size
 have hPS:zAz w (w2.alloc (.cells #[.slice so1 sn sc1,.slice ao1 n cap1] 27)) w.heap.size WC (fun b=>B b\/b=w2.heap.size) w2.heap.size so1 sn sc1 ao1 n cap1 p.s p.tens vs:=⟨heap_alloc_new _ _,hst.step (.of hb3) (fun b hl h=>h.elim id fun e=>absurd hl (by omega)),hten.widen hb3 (fun b h=>.inl h) (fun b hl h=>h.elim id fun e=>absurd hl (by omega)),by omega,.inr rfl,by have:=hb3.size;omega⟩
 have hb13:Below w1.heap.size w1 (w2.alloc (.cells #[.slice so1 sn sc1,.slice ao1 n cap1] 27)):=zAd hb2 hb3
 have hDI:DoIn w (w2.alloc (.cells #[.slice so1 sn sc1,.slice ao1 n cap1] 27)) w.heap.size WC w1.heap.size (fun b=>B b\/b=w2.heap.size) w2.heap.size k so1 sn sc1 ao1 n cap1 p vs t ba bn bc a:=
  ⟨HOK.out,HW.out.sto,hPS,hk,HT.out,hl1,hc1,hfar,by have:=hb3.size;omega,by omega,HA.out.mono (zAd HBW.out hb13)⟩
 have HDO:=lH (pdo_any _ _ _ _ _ _ _ _ _ _ _ _ _ _ _ _ _ _ _ _ _ _ hDI HRT.out)
 have HWC:Hid (w1.heap.size<=WC/\WC<=w2.heap.size):=lH ⟨hW1,by omega⟩
 have HB13:=lH hb13
 have p5:=Zm hb13 p5
 have k0:=zAa p5 0
 have k1:=zAa p5 1
 have k2:=zAa p5 2
 have k3:=zAa p5 3
 have k4:=zAa p5 4
 have k5:=zAa p5 5
 have k6:=zAa p5 6
 simp only [cA1,cA2,cA3] at k0 k1 k2 k3 k4 k5 k6
 have HWB:Hid (Below WC w1 (w2.alloc (.cells #[.slice so1 sn sc1,.slice ao1 n cap1] 27))\/True):=lH (.inr trivial)
 clear hW1 hl1 hc1 hst hten hB hb2 hfar htb htW htl hb3 hPS hb13 hDI p3 p5 p6 p7 e0 e1 l3 l6 l7 HWB
 go_upto_region 7 with fail
 generalize w2.alloc (.cells #[.slice so1 sn sc1,.slice ao1 n cap1] 27)=W3 at *
 go_wp2_with fail
 refine HDO.out.mono ?_
 rintro e w4 ⟨⟨na,nn,nc,b2,n2,c2,rfl,hans⟩,hbW,hend⟩
 obtain ⟨T1,tn,⟨ae,an,anames,abytes⟩,de⟩:=RT
 simp only at hans hend HR0 HOKT ⊢
 have hb4:=bA0 w4 (.cells #[.int .i64 ae,.int .i64 an,.slice na nn nc,.slice b2 n2 c2] 34)
 have hz3:=HB13.out.size
 have hz4:=hbW.size
 have hWCs:=HWC.out
 have keep:∀ b,b<w1.heap.size->(w4.alloc (.cells #[.int .i64 ae,.int .i64 an,.slice na nn nc,.slice b2 n2 c2] 34)).heap[b]?=w1.heap[b]?:=fun b hb=>(hb4.block b (by omega)).trans ((hbW.block b (by omega)).trans (HB13.out.block b hb))
 have hbw5:Below w.heap.size w (w4.alloc (.cells #[.int .i64 ae,.int .i64 an,.slice na nn nc,.slice b2 n2 c2] 34)):=((HBW.out.trans (HB13.out.mono (by omega))).trans (hbW.mono (by omega))).trans (hb4.mono (by omega))
 have p3:=(keep _ (zAb HP3.out)).trans HP3.out
 have p6:=(keep _ (zAb HP6.out)).trans HP6.out
 have p7:=(keep _ (zAb HP7.out)).trans HP7.out
 have f0:(w4.alloc (.cells #[.int .i64 ae,.int .i64 an,.slice na nn nc,.slice b2 n2 c2] 34)).cell? ⟨w4.heap.size,0,none⟩=some (.int .i64 ae):=by simp
 have f1:(w4.alloc (.cells #[.int .i64 ae,.int .i64 an,.slice na nn nc,.slice b2 n2 c2] 34)).cell? ⟨w4.heap.size,1,none⟩=some (.int .i64 an):=by simp
 have f2:(w4.alloc (.cells #[.int .i64 ae,.int .i64 an,.slice na nn nc,.slice b2 n2 c2] 34)).cell? ⟨w4.heap.size,2,none⟩=some (.slice na nn nc):=by simp
 have f3:(w4.alloc (.cells #[.int .i64 ae,.int .i64 an,.slice na nn nc,.slice b2 n2 c2] 34)).cell? ⟨w4.heap.size,3,none⟩=some (.slice b2 n2 c2):=by simp
 have HANS:=lH (hans.mono hb4)
 have HEND:Hid (de=0->∃ B' so' sn' sc' vs',zAz w (w4.alloc (.cells #[.int .i64 ae,.int .i64 an,.slice na nn nc,.slice b2 n2 c2] 34)) w.heap.size WC B' w2.heap.size so' sn' sc' ao1 n cap1 T1 (p.tens.set k tn) vs'/\(∀ g o,so'=some ⟨g,o,none⟩->T1≠[]->w1.heap.size<=g)/\T1.length=sn'/\Capd so' sn' sc'):=lH fun h=>by
  obtain ⟨B',so',sn',sc',vs',h1,h2,h3,h4⟩:=hend h
  exact ⟨B',so',sn',sc',vs',h1.mono hb4,h2,h3,h4⟩
 have HZ5:Hid (w4.heap.size<(w4.alloc (.cells #[.int .i64 ae,.int .i64 an,.slice na nn nc,.slice b2 n2 c2] 34)).heap.size/\w1.heap.size<=w4.heap.size):=lH ⟨by simp,by omega⟩
 clear hans hend hbW hb4 keep hWCs k0 k1 k2 k3 k4 k5 k6 HDO
 go_upto_region 8 with fail
 generalize w4.alloc (.cells #[.int .i64 ae,.int .i64 an,.slice na nn nc,.slice b2 n2 c2] 34)=W5 at *
 have e0:=zAa p3 0
 have e1:=zAa p3 1
 simp only [cA1,cA2,cA3] at e0 e1
 have l3:=zAb p3
 by_cases hde:de=0
 rotate_left
 . have HR:Hid (r=(p,⟨de,0,[],[]⟩,0)):=lH (HR0.out.trans (if_pos hde))
   have he1:(de != 0)=true:=by rw [bne_iff_ne];exact hde
   clear HR0 HEND HANS hde f0 f1 f2 f3
   go_wp2_with fail
   refine (HCP.out _ hbw5).mono ?_
   rintro e w6 ⟨so2,sc2,ao2,cap2,rfl,W2,B2,vs2,hW2,hl2,hc2,hst2,hten2,hB2,hb6,hfar2⟩
   have hpi:zAG w6 so2 sn sc2 ao2 n cap2 p:=(hten2.pool hst2 hl2 hc2 (X:=fun _=>False) (fun b hb=>hb.elim)).now
   replace p6:=Zm hb6 p6
   replace p7:=Zm hb6 p7
   have hz5:=HZ5.out
   have hz6:=hb6.size
   have hw6:=HBW.out.size
   have hl6:=zAb HP6.out
   have hl7:=zAb HP7.out
   have hag:=hten2.ao_ge
   obtain ⟨z6,z7,zb,zk⟩:=zEP p6 p7 (by omega) (.slice so2 sn sc2) (.slice ao2 n cap2) (.int .i64 de) (.int .i64 0) (.slice none 0 0) (.slice none 0 0)
   have hbz:=zb _ _ (zAd hbw5 hb6) (by omega) (by omega)
   have hpz:=zHm hpi (Z:=W5.heap.size) hfar2 (fun g o e=>zMN hW2 (hag g o e)) (Good.of_check HOK.out.chk HW.out.sto).kid4 (X:=fun b=>b=w.heap.size+1+1\/b=w.heap.size+1+1+1) (fun b hl hb=>by
    rcases hb with rfl | rfl
    . exact ⟨by omega,zBI p6⟩
    . exact ⟨by omega,zFk p7⟩) _ zk
   have q0:=zAa p6 0
   have q1:=zAa p6 1
   have y0:=zAa p7 0
   have y1:=zAa p7 1
   have y2:=zAa p7 2
   have y3:=zAa p7 3
   unfold zDB putA at z6 z7 hbz hpz
   have x0:=zAa z6 0
   have x1:=zAa z6 1
   have v0:=zAa z7 0
   have v1:=zAa z7 1
   have v2:=zAa z7 2
   have v3:=zAa z7 3
   simp only [cA1,cA2,cA3] at q0 q1 y0 y1 y2 y3 x0 x1 v0 v1 v2 v3
   have qf:=fun j=>zAc p6 j
   have yf:=fun j=>zAc p7 j
   have l6:=zAb p6
   have l7:=zAb p7
   have HPZ:=lH hpz
   have HFZ:Hid ((∀ g o,so2=some ⟨g,o,none⟩->p.s≠[]->w.heap.size<=g)/\∀ g o,ao2=some ⟨g,o,none⟩->w.heap.size<=g):=lH ⟨fun g o e h=>by have:=hfar2 g o e h;omega,fun g o e=>by have:=hag g o e;omega⟩
   clear hpi hW2 hl2 hc2 hst2 hten2 hB2 hb6 hfar2 hpz zb zk z6 z7 hag HCP e0 e1 p3 p6 p7
   go_wp2_with fail
   refine bodyPost_ret (v:=.tuple #[.agg #[.slice so2 sn sc2,.slice ao2 n cap2],.agg #[.int .i64 de,.int .i64 0,.slice none 0 0,.slice none 0 0],.int .i64 0]) (by simp [results,Tryz.results4,go_sem,x0,x1,v0,v1,v2,v3]) rfl ?_
   rw [HR.out]
   exact ⟨so2,sn,sc2,ao2,n,cap2,none,0,0,none,0,0,rfl,hbz,HPZ.out,AnwIn.none _ _ _,HFZ.out.1,HFZ.out.2⟩
 . have HR:Hid (r=(⟨T1,p.tens.set k tn⟩,⟨ae,an,anames,abytes⟩,0)):=lH (HR0.out.trans (if_neg (fun h=>h hde)))
   obtain ⟨B',so',sn',sc',vs',hPS,hfa,hls,hcs⟩:=HEND.out hde
   have hok:=HOKT.out hde
   have HK4:=lH (Good.of_check hok.chk hok.wf).kid4
   subst hde
   have g0:=zAa hPS.box 0
   have g1:=zAa hPS.box 1
   have q0:=zAa p6 0
   have q1:=zAa p6 1
   have y0:=zAa p7 0
   have y1:=zAa p7 1
   have y2:=zAa p7 2
   have y3:=zAa p7 3
   simp only [cA1,cA2,cA3] at g0 g1 q0 q1 y0 y1 y2 y3
   have qf:=fun j=>zAc p6 j
   have yf:=fun j=>zAc p7 j
   have l6:=zAb p6
   have l7:=zAb p7
   have hpi:zAG W5 so' sn' sc' ao1 n cap1 ⟨T1,p.tens.set k tn⟩:=(((by have h:=hPS.ten;rw [show (p.tens.set k tn).length=(p.tens.set k tn).length from rfl] at h;exact h:zAx w W5 w.heap.size WC B' ao1 n cap1 (p.tens.set k tn) vs' (p.tens.set k tn).length).pool hPS.sto hls hcs (X:=fun _=>False) (fun b hb=>hb.elim)).now)
   have hz5:=HZ5.out
   have hw6:=HBW.out.size
   have hl6:=zAb HP6.out
   have hl7:=zAb HP7.out
   have hag:=hPS.ten.ao_ge
   have HFIN:Hid (∀ wx,Kept (fun b=>b=w.heap.size+1+1\/b=w.heap.size+1+1+1) W5 wx->zAG wx so' sn' sc' ao1 n cap1 ⟨T1,p.tens.set k tn⟩/\AnwIn wx na nn nc b2 n2 c2 ⟨ae,an,anames,abytes⟩/\Below w.heap.size w wx):=lH fun wx hk=>by
    have hX:∀ b,b<W5.heap.size->(b=w.heap.size+1+1\/b=w.heap.size+1+1+1)->Plain W5 b:=fun b hl hb=>by
     rcases hb with rfl | rfl
     . exact zBI p6
     . exact zFk p7
    exact ⟨zHm hpi (Z:=w1.heap.size) hfa (fun g o e=>zMN HWC.out.1 (hag g o e)) HK4.out (fun b hl hb=>⟨by omega,hX b hl hb⟩) wx hk,HANS.out.hang hX wx hk,hbw5.trans (hk.below (K:=w.heap.size) (by have:=hbw5.size;exact this) (fun b hb h=>by omega))⟩
   have HFZ:Hid ((∀ g o,so'=some ⟨g,o,none⟩->T1≠[]->w.heap.size<=g)/\∀ g o,ao1=some ⟨g,o,none⟩->w.heap.size<=g):=lH ⟨fun g o e h=>by have:=hfa g o e h;omega,fun g o e=>by have:=hag g o e;have:=HWC.out.1;omega⟩
   obtain ⟨z6,z7,-,-⟩:=zEP p6 p7 (by omega) (.slice so' sn' sc') (.slice ao1 n cap1) (.int .i64 ae) (.int .i64 an) (.slice na nn nc) (.slice b2 n2 c2)
   unfold zDB putA at z6 z7
   have HZ6:=lH z6
   have HZ7:=lH z7
   have lpb:=zAb hPS.box
   have HSK:Hid (∀ u,Kept (fun b=>b=w.heap.size+1+1\/b=w.heap.size+1+1+1) W5 u->u.cell? ⟨w2.heap.size,0,none⟩=some (.slice so' sn' sc')/\u.cell? ⟨w2.heap.size,1,none⟩=some (.slice ao1 n cap1)/\u.cell? ⟨w4.heap.size,0,none⟩=some (.int .i64 ae)/\u.cell? ⟨w4.heap.size,1,none⟩=some (.int .i64 an)/\u.cell? ⟨w4.heap.size,2,none⟩=some (.slice na nn nc)/\u.cell? ⟨w4.heap.size,3,none⟩=some (.slice b2 n2 c2)):=lH fun u h=>⟨(h.cell lpb (by omega)).trans g0,(h.cell lpb (by omega)).trans g1,(h.cell hz5.1 (by omega)).trans f0,(h.cell hz5.1 (by omega)).trans f1,(h.cell hz5.1 (by omega)).trans f2,(h.cell hz5.1 (by omega)).trans f3⟩
   have h67:¬ w.heap.size+1+1=w.heap.size+1+1+1:=by omega
   clear z6 z7 hag hpi hfa hls hcs hPS hok HEND HOKT HK4 p3 p6 p7 e0 e1 HCP HR0 HANS
   go_upto_region 10 with fail
   go_cut [8] (fun u wx=>u=.int .i64 0/\wx.heap[w.heap.size+1+1]?=some (.cells #[.slice so' sn' sc',.slice ao1 n cap1] 27 (0,0))/\wx.heap[w.heap.size+1+1+1]?=some (.cells #[.int .i64 ae,.int .i64 an,.slice na nn nc,.slice b2 n2 c2] 34 (0,0))/\Hid (Kept (fun b=>b=w.heap.size+1+1\/b=w.heap.size+1+1+1) W5 wx))
   case first=>
    clear g0 g1 f0 f1 f2 f3
    go_region_held3 (fun u=>u.cell? ⟨w2.heap.size,0,none⟩=some (.slice so' sn' sc')/\u.cell? ⟨w2.heap.size,1,none⟩=some (.slice ao1 n cap1)/\u.cell? ⟨w4.heap.size,0,none⟩=some (.int .i64 ae)/\u.cell? ⟨w4.heap.size,1,none⟩=some (.int .i64 an)/\u.cell? ⟨w4.heap.size,2,none⟩=some (.slice na nn nc)/\u.cell? ⟨w4.heap.size,3,none⟩=some (.slice b2 n2 c2))
     ((refine HSK.out _ ?_;repeat (first | with_reducible exact Kept.refl _ _ | with_reducible refine Kept.dr ?_ | with_reducible refine Kept.set (bad:=fun b=>b=w.heap.size+1+1\/b=w.heap.size+1+1+1) ?_ (.inr (by first | exact .inl rfl | exact .inr rfl)) _)))
     (fail)
    all_goals
     go_wp2_with fail
     go_meet
     refine ⟨rfl,(by rw [zFl];exact HZ6.out),(by rw [zFl];exact HZ7.out),lH (Kept.dr ?_)⟩
     repeat (first | with_reducible exact Kept.refl _ _ | with_reducible refine Kept.set (bad:=fun b=>b=w.heap.size+1+1\/b=w.heap.size+1+1+1) ?_ (.inr (by first | exact .inl rfl | exact .inr rfl)) _)
   case rest=>
    obtain ⟨rfl,z6,z7,hkk⟩:=hcut
    have x0:=zAa z6 0
    have x1:=zAa z6 1
    have v0:=zAa z7 0
    have v1:=zAa z7 1
    have v2:=zAa z7 2
    have v3:=zAa z7 3
    simp only [cA1,cA2,cA3] at x0 x1 v0 v1 v2 v3
    clear z6 z7 g0 g1 q0 q1 y0 y1 y2 y3 qf yf f0 f1 f2 f3
    go_wp2_with fail
    refine bodyPost_ret (v:=.tuple #[.agg #[.slice so' sn' sc',.slice ao1 n cap1],.agg #[.int .i64 ae,.int .i64 an,.slice na nn nc,.slice b2 n2 c2],.int .i64 0]) (by simp [results,Tryz.results4,go_sem,x0,x1,v0,v1,v2,v3]) rfl ?_
    rw [HR.out]
    obtain ⟨k1,k2,k3⟩:=HFIN.out _ hkk.out
    exact ⟨so',sn',sc',ao1,n,cap1,na,nn,nc,b2,n2,c2,rfl,k3,k1,k2,HFZ.out.1,HFZ.out.2⟩
end Go.Proofs.YtfmgdjgedhnmeaaGreat
