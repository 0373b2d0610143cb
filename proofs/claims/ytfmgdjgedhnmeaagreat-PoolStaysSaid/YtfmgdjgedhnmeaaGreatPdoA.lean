/- pool.do: what all of its parts begin with; Make. -/
import Derived.Deep.RegionWith
import Derived.Deep.RegionHeld3
import Derived.StillTail
import Derived.StillTactics
import Derived.Test.YtfmgdjgedhnmeaaGreatPoolO
import Derived.Test.YtfmgdjgedhnmeaaGreatPoolCheck
namespace Go.Proofs.YtfmgdjgedhnmeaaGreat
open Go.RowKit
set_option linter.unusedVariables false
set_option linter.unusedSimpArgs false
structure AskIn (w:World) (ba:Option Addr) (bn bc:Nat) (a:AskV):Prop where
 len:a.bytes.length=bn
 row:Row .u8 w ba a.bytes
 cap:Capd ba bn bc
 byt:Byt a.bytes
 fit:bn<=140737488351232
theorem AskIn.mono {w w2:World} {ba:Option Addr} {bn bc:Nat} {a:AskV} (h:AskIn w ba bn bc a) (hb:Below w.heap.size w w2):AskIn w2 ba bn bc a:=⟨h.len,h.row.mono hb,h.cap,h.byt,h.fit⟩
structure DoIn (w0 w:World) (K W Z:Nat) (B:Nat->Prop) (pb i:Nat) (so:Option Addr) (sn sc:Nat) (ao:Option Addr) (n cap:Nat) (p:PoolV) (vs:List Tnv) (t:TenV) (ba:Option Addr) (bn bc:Nat) (a:AskV):Prop where
 ok:zAM p
 wf:WfS p.s
 st:zAz w0 w K W B pb so sn sc ao n cap p.s p.tens vs
 hi:i<p.tens.length
 ht:p.tens[i]?=some t
 slen:p.s.length=sn
 scap:Capd so sn sc
 far:∀ g o,so=some ⟨g,o,none⟩->p.s≠[]->Z<=g
 zle:Z<=w.heap.size
 wle:W<=pb
 ask:AskIn w ba bn bc a
def zBB (e:Ending) (w0 w w':World) (K W Z pb:Nat) (ao:Option Addr) (n cap:Nat) (p:PoolV) (i:Nat) (r:List Blk×TenV×AnsV×Int):Prop:=
 (∃ na nn nc ba bn bc,e=.returned (.tuple #[.agg #[.int .i64 r.2.2.1.e,.int .i64 r.2.2.1.n,.slice na nn nc,.slice ba bn bc],.int .i64 r.2.2.2])/\AnwIn w' na nn nc ba bn bc r.2.2.1)/\Below W w w'/\
 (r.2.2.2=0->∃ B' so' sn' sc' vs',zAz w0 w' K W B' pb so' sn' sc' ao n cap r.1 (p.tens.set i r.2.1) vs'/\(∀ g o,so'=some ⟨g,o,none⟩->r.1≠[]->Z<=g)/\r.1.length=sn'/\Capd so' sn' sc')
theorem zAz.at {w0 w:World} {K W:Nat} {B:Nat->Prop} {pb i:Nat} {so ao:Option Addr} {sn sc n cap:Nat} {s:List Blk} {l:List TenV} {vs:List Tnv} {t:TenV} (h:zAz w0 w K W B pb so sn sc ao n cap s l vs) (ht:l[i]?=some t) :
 ∃ tb oo on oc,ao=some ⟨tb,0,none⟩/\on=t.sets.length/\vs[i]?=some ⟨t.key,t.quota,oo,on,oc⟩/\w.cell? ⟨pb,0,none⟩=some (.slice so sn sc)/\w.cell? ⟨pb,1,none⟩=some (.slice ao n cap)/\w.cell? ⟨tb,i*3,none⟩=some (.int .i64 t.key)/\
  w.cell? ⟨tb,i*3+1,none⟩=some (.int .i64 t.quota)/\w.cell? ⟨tb,i*3+2,none⟩=some (.slice oo on oc)/\TenIn w oo on oc t/\W<=tb/\tb<w.heap.size/\pb<w.heap.size/\pb≠tb/\(∀ j,w.frozen? ⟨tb,j,none⟩=false)/\(∀ j,w.frozen? ⟨pb,j,none⟩=false)/\(i:Int)<n:=by
 obtain ⟨hi,ht⟩:=List.getElem?_eq_some_iff.1 ht
 have c0:=zAa h.box 0
 have c1:=zAa h.box 1
 simp at c0 c1
 obtain ⟨tb,htb,htW,htl,htf,hE⟩:=h.ten.at i hi
 have hiv:i<vs.length:=by rw [h.ten.vlen];exact hi
 have hT:=h.ten.ten i hiv hi
 obtain ⟨n1,n2⟩:=h.ten.num i hiv hi
 obtain ⟨u,hu⟩:∃ u,vs[i]=u:=⟨_,rfl⟩
 rw [hu] at hE hT n1 n2
 rw [ht] at hT n1 n2
 obtain ⟨key,quota,oo,on,oc⟩:=u
 obtain ⟨t0,t1,t2⟩:=hE
 simp only at t0 t1 t2 hT n1 n2
 subst n1 n2
 obtain ⟨k1,k2⟩:=h.ten.typ h.box (by decide) (by decide)
 exact ⟨tb,oo,on,oc,htb,hT.len.symm,by rw [zMt hiv,hu],c0,c1,t0,t1,t2,hT,htW,htl,zAb h.box,fun e=>k1 (by rw [htb,e]),htf,fun j=>zAc h.box j,by have:=h.ten.len;omega⟩
theorem zAz.set_at {w0 w:World} {K W:Nat} {B:Nat->Prop} {pb i k on oc:Nat} {so ao oo:Option Addr} {sn sc n cap:Nat} {s:List Blk} {l:List TenV} {vs:List Tnv} {t:TenV} (h:zAz w0 w K W B pb so sn sc ao n cap s l vs) (ht:l[i]?=some t) (hv:vs[i]?=some ⟨t.key,t.quota,oo,on,oc⟩) (hk:k<t.sets.length) :
 ∃ g fo fn fc yo yn yc,oo=some ⟨g,0,none⟩/\w.cell? ⟨g,k*3,none⟩=some (.string t.sets[k].nm)/\w.cell? ⟨g,k*3+1,none⟩=some (.slice fo fn fc)/\w.cell? ⟨g,k*3+2,none⟩=some (.slice yo yn yc)/\Hangs B w (fun w=>SetIn w fo fn fc yo yn yc t.sets[k])/\
  W<=g/\g<w.heap.size/\B g/\(∀ j,w.frozen? ⟨g,j,none⟩=false)/\pb≠g/\ao≠some ⟨g,0,none⟩:=by
 obtain ⟨hi,ht⟩:=List.getElem?_eq_some_iff.1 ht
 obtain ⟨hiv,hv⟩:=List.getElem?_eq_some_iff.1 hv
 obtain ⟨⟨us,v1,v2,v3⟩,d2⟩:=h.ten.done i hiv hi hi
 rw [hv] at d2 v2
 rw [ht] at v1 v3
 simp only at d2 v2
 obtain ⟨g,hg,hgW,hgl,hgf,hgc⟩:=v2.blk (by omega)
 have hE:=zCW (b:=g) (o:=0) (fun j v hj=>by rw [zML];exact hgc j v hj) k (by omega)
 rw [zML] at hE
 obtain ⟨i1,i2⟩:=v3 k (by omega) hk
 obtain ⟨k1,k2⟩:=h.ten.typ h.box (by decide) (by decide)
 have hb:=k2 i hiv
 rw [hv] at hb
 simp only at hb
 refine ⟨g,us[k].fo,us[k].fn,us[k].fc,us[k].so,us[k].sn,us[k].sc,hg,by rw [<- i1];exact hE.nm,hE.fl,hE.sl,i2,hgW,hgl,(d2 g hg).1,hgf,fun e=>hb (by rw [hg,e]),(d2 g hg).2⟩
theorem zAz.ans {w0 w:World} {K W:Nat} {B:Nat->Prop} {pb q nn nc bn bc:Nat} {e m:Int} {so ao na ba:Option Addr} {sn sc n cap:Nat} {s:List Blk} {l:List TenV} {vs:List Tnv} (h:zAz w0 w K W B pb so sn sc ao n cap s l vs) (hp:w.heap[q]?=some (.cells #[.int .i64 e,.int .i64 m,.slice na nn nc,.slice ba bn bc] 34 (0,0)))
 (hq:pb≠q) (hKq:K<=q) (hBq:B q) (u0 u1 u2 u3:Value):zAz w0 (putA w q u0 u1 u2 u3) K W B pb so sn sc ao n cap s l vs:=
 h.off hp (by decide) (by decide) hq hKq hBq ((((Kept.refl (fun b=>b=q) w).set (.inr rfl) u0).set (.inr rfl) u1).set (.inr rfl) u2 |>.set (.inr rfl) u3)
theorem AnwIn.put {w:World} {q nn nc bn bc nn2 nc2 bn2 bc2:Nat} {e m:Int} {na ba na2 ba2:Option Addr} {r:AnsV} (h:AnwIn w na nn nc ba bn bc r) (hp:w.heap[q]?=some (.cells #[.int .i64 e,.int .i64 m,.slice na2 nn2 nc2,.slice ba2 bn2 bc2] 34 (0,0))) (u0 u1 u2 u3:Value):AnwIn (putA w q u0 u1 u2 u3) na nn nc ba bn bc r:=by
 obtain ⟨-,-,-,-,h1,h2⟩:=zAS hp u0 u1 u2 u3
 exact ⟨h.nlen,h.blen,h2 _ _ h.names,h1 _ _ h.bytes,h.ncap,h.bcap⟩
theorem zBB.same {e:Ending} {w0 w w':World} {K W Z:Nat} {B:Nat->Prop} {pb i:Nat} {so ao:Option Addr} {sn sc n cap:Nat} {p:PoolV} {vs:List Tnv} {t:TenV} {r:AnsV×Int} (h:zAz w0 w' K W B pb so sn sc ao n cap p.s p.tens vs) (ht:p.tens[i]?=some t) (hso:∀ g o,so=some ⟨g,o,none⟩->p.s≠[]->Z<=g) (hl:p.s.length=sn) (hc:Capd so sn sc)
 (hb:Below W w w') (he:∃ na nn nc ba bn bc,e=.returned (.tuple #[.agg #[.int .i64 r.1.e,.int .i64 r.1.n,.slice na nn nc,.slice ba bn bc],.int .i64 r.2])/\AnwIn w' na nn nc ba bn bc r.1):zBB e w0 w w' K W Z pb ao n cap p i (p.s,t,r):=by
 refine ⟨he,hb,fun _=>⟨B,so,sn,sc,vs,?_,hso,hl,hc⟩⟩
 obtain ⟨hi,ht⟩:=List.getElem?_eq_some_iff.1 ht
 rw [show p.tens.set i t=p.tens from by rw [<- ht,zOf]]
 exact h
theorem zCz (w:World) (a b:Obj):Below w.heap.size w ((w.alloc a).alloc b)/\((w.alloc a).alloc b).heap[w.heap.size]?=some a/\((w.alloc a).alloc b).heap[w.heap.size+1]?=some b/\((w.alloc a).alloc b).heap.size=w.heap.size+2:=
 ⟨((zMy _ _).alloc (zMs _) _).alloc (by simp) _,heap_alloc2_old _ _ _,heap_alloc2_new _ _ _,by simp⟩
theorem doR_err {wr:List Blk->Int->List Ent->AskV->List Blk×List Ent×Int} {s:List Blk} {key:Int} {x:SetV} {a:AskV} (h:¬ (doR wr s key x a).2.2=0):(doR wr s key x a).1=[]:=by
 unfold doR at h ⊢
 split
 . rfl
 . rename_i h1
   rw [if_neg h1] at h
   split
   . rfl
   . rename_i h2
     rw [if_neg h2] at h
     split
     . rfl
     . rename_i h3
       rw [if_neg h3] at h
       exact absurd h (fun g=>h3 (fun e=>g e))
theorem zKl {s:List Blk} {key:Int} {x:SetV} {frm nm:ByteArray} (h:¬ (zAL s key x frm nm).2.2=0):(zAL s key x frm nm).1=[]:=by
 unfold zAL at h ⊢
 split
 . rfl
 . rename_i h1
   rw [if_neg h1] at h
   split
   . rfl
   . rename_i h2
     rw [if_neg h2] at h
     split
     . rfl
     . rename_i h3
       rw [if_neg h3] at h
       split
       . rfl
       . rename_i h4
         rw [if_neg h4] at h
         exact absurd rfl h
theorem zIZ {s:List Blk} {t:TenV} {a:AskV} (h:a.kind=13):doT s t a=(s,t,⟨0,(reachR s (rootsT t)).1.length,[],[]⟩,0):=by
 unfold doT
 rw [if_neg (by omega),if_pos h]
theorem zJb {s:List Blk} {t:TenV} {a:AskV} (h:a.kind=11\/a.kind=12):doT s t a=if placeB (t.sets.map SetV.nm) a.sname=false then (s,t,noAns,5) else (s,t,(lookR s t.key (setAt t.sets (placeN (t.sets.map SetV.nm) a.sname)) a).1,(lookR s t.key (setAt t.sets (placeN (t.sets.map SetV.nm) a.sname)) a).2):=by
 unfold doT
 rw [if_neg (by omega),if_neg (by omega),if_pos h]
theorem zIh {s:List Blk} {t:TenV} {a:AskV} (h:a.kind=2):doT s t a=if placeB (t.sets.map SetV.nm) a.sname=false then (s,t,noAns,5) else if (zAN s t.key (setAt t.sets (placeN (t.sets.map SetV.nm) a.sname))).2≠0 then (s,t,noAns,(zAN s t.key (setAt t.sets (placeN (t.sets.map SetV.nm) a.sname))).2)
 else ((zAN s t.key (setAt t.sets (placeN (t.sets.map SetV.nm) a.sname))).1,{ t with sets:=t.sets.eraseIdx (placeN (t.sets.map SetV.nm) a.sname) },noAns,0):=by
 unfold doT
 rw [if_neg (by omega),if_neg (by omega),if_neg (by omega:¬ (a.kind=11\/a.kind=12)),if_pos h]
theorem zL2 {s:List Blk} {t:TenV} {a:AskV} (h:a.kind=10):doT s t a=if placeB (t.sets.map SetV.nm) a.sname=false then (s,t,noAns,5) else if (zAL s t.key (setAt t.sets (placeN (t.sets.map SetV.nm) a.sname)) a.dest a.file).2.2≠0 then (s,t,noAns,(zAL s t.key (setAt t.sets (placeN (t.sets.map SetV.nm) a.sname)) a.dest a.file).2.2)
 else ((zAL s t.key (setAt t.sets (placeN (t.sets.map SetV.nm) a.sname)) a.dest a.file).1,(layP t (zAL s t.key (setAt t.sets (placeN (t.sets.map SetV.nm) a.sname)) a.dest a.file).2.1).1,noAns,(layP t (zAL s t.key (setAt t.sets (placeN (t.sets.map SetV.nm) a.sname)) a.dest a.file).2.1).2):=by
 unfold doT
 rw [if_neg (by omega),if_neg (by omega),if_neg (by omega:¬ (a.kind=11\/a.kind=12)),if_neg (by omega:¬ a.kind=2),if_pos h]
theorem zKG {s:List Blk} {t:TenV} {a:AskV} (h:¬ a.kind=1/\¬ a.kind=13/\¬ a.kind=11/\¬ a.kind=12/\¬ a.kind=2/\¬ a.kind=10):doT s t a=if placeB (t.sets.map SetV.nm) a.sname=false then (s,t,noAns,5) else
 if (doR writeW s t.key (setAt t.sets (placeN (t.sets.map SetV.nm) a.sname)) a).2.2≠0 then (s,t,noAns,(doR writeW s t.key (setAt t.sets (placeN (t.sets.map SetV.nm) a.sname)) a).2.2)
 else if t.quota<((reachR (doR writeW s t.key (setAt t.sets (placeN (t.sets.map SetV.nm) a.sname)) a).1 (rootsT { t with sets:=t.sets.set (placeN (t.sets.map SetV.nm) a.sname) (doR writeW s t.key (setAt t.sets (placeN (t.sets.map SetV.nm) a.sname)) a).2.1 })).1.length:Int) then (s,t,noAns,8)
 else ((doR writeW s t.key (setAt t.sets (placeN (t.sets.map SetV.nm) a.sname)) a).1,{ t with sets:=t.sets.set (placeN (t.sets.map SetV.nm) a.sname) (doR writeW s t.key (setAt t.sets (placeN (t.sets.map SetV.nm) a.sname)) a).2.1 },noAns,0):=by
 unfold doT
 rw [if_neg h.1,if_neg h.2.1,if_neg (by omega:¬ (a.kind=11\/a.kind=12)),if_neg h.2.2.2.2.1,if_neg h.2.2.2.2.2]
set_option maxRecDepth 100000 in
set_option maxHeartbeats 8000000 in
theorem pdo_make (w0 w:World) (K W Z:Nat) (B:Nat->Prop) (pb i:Nat) (so:Option Addr) (sn sc:Nat) (ao:Option Addr) (n cap:Nat) (p:PoolV) (vs:List Tnv) (t:TenV) (ba:Option Addr) (bn bc:Nat) (a:AskV) (r:List Blk×TenV×AnsV×Int) (h:DoIn w0 w K W Z B pb i so sn sc ao n cap p vs t ba bn bc a) (hr:doT p.s t a=r) (hk:a.kind=1) :
 Calls Tryz.prog 11 #[.pointer (some ⟨pb,0,none⟩),.int .i64 i,.agg #[.int .i64 a.kind,.string a.sname,.string a.file,.string a.dest,.int .i64 a.at_,.int .i64 a.n,.slice ba bn bc]] w fun e w'=>zBB e w0 w w' K W Z pb ao n cap p i r:=by
 obtain ⟨kind,aset,afile,ato,aat,an,abytes⟩:=a
 simp only at hk
 subst hk
 have HR:Hid (r=(p.s,(layP t ⟨aset,[],[]⟩).1,noAns,(layP t ⟨aset,[],[]⟩).2)):=lH (by rw [<- hr];unfold doT;rw [if_pos rfl])
 clear hr
 obtain ⟨hb0,p5,p6,hz2⟩:=zCz w (.cells #[.int .i64 1,.string aset,.string afile,.string ato,.int .i64 aat,.int .i64 an,.slice ba bn bc] 30) (.cells #[.int .i64 0,.int .i64 0,.slice none 0 0,.slice none 0 0] 34)
 have hst:=h.st.widen (B2:=fun b=>B b\/b=w.heap.size+1) hb0 (fun b h=>.inl h) (fun b hl h=>h.elim id fun e=>absurd hl (by omega))
 obtain ⟨tb,oo,on,oc,rfl,hon,hvs,c0,c1,t0,t1,t2,hTI,htW,htl,hpl,hpt,htf,hpf,hin⟩:=hst.at h.ht
 have hwp:=zAb h.st.box
 have htw:tb<w.heap.size:=by obtain ⟨tb',-,-,-,e,-,-,-,-,-,-,-,-,-,h9,-⟩:=h.st.at h.ht;simp only [zMz,zME,and_true] at e;omega
 have k0:=zAa p5 0
 have k1:=zAa p5 1
 have k2:=zAa p5 2
 have k3:=zAa p5 3
 have k4:=zAa p5 4
 have k5:=zAa p5 5
 have k6:=zAa p5 6
 simp only [cA1,cA2,cA3] at k0 k1 k2 k3 k4 k5 k6
 have kl:=zAb p5
 have HST:=lH hst
 have HTI:=lH hTI
 have HI:=lH h.hi
 have HTM:=lH (zM6 h.ht)
 have HTK:=lH (h.ok.ten t HTM.out)
 have HFAR:=lH h.far
 have HSL:=lH h.slen
 have HSC:=lH h.scap
 have HASK:=lH (h.ask.mono hb0)
 have HOK:=lH h.ok
 have HWF:=lH h.wf
 have HH:=lH h
 have HON:=lH hon
 have HVS:=lH hvs
 have HP5:=lH p5
 have HP6:=lH p6
 have HBW:=lH hb0
 have HZ2:=lH hz2
 have hws:=h.st.hw
 have HWS:=lH hws
 have HQ:Hid (pb≠w.heap.size+1/\K<=w.heap.size+1):=lH ⟨by omega,by have:=h.st.ten.kle;omega⟩
 have hn3:n<=3:=by have:=h.st.ten.len;have:=h.ok.len;omega
 have hon3:on<=3:=by have:=HTK.out.len;omega
 clear h hst hTI hon hvs p5 p6 hb0 hz2
 go_enter Tryz.func11,Tryz.ntmps11
 go_upto_region 1 with fail
 generalize (w.alloc (.cells #[.int .i64 1,.string aset,.string afile,.string ato,.int .i64 aat,.int .i64 an,.slice ba bn bc] 30)).alloc (.cells #[.int .i64 0,.int .i64 0,.slice none 0 0,.slice none 0 0] 34)=W1 at *
 have HLAY:=lH (zFK w0 W1 K W (fun b=>B b\/b=w.heap.size+1) pb i so (some ⟨tb,0,none⟩) none none sn sc n cap 0 0 0 0 p.s p.tens vs ⟨aset,[],[]⟩ t _ rfl HST.out HI.out (List.getElem?_eq_some_iff.1 HH.out.ht).2 (by omega) HTK.out.len HTK.out.rise (fun w' _=>⟨rfl,rfl,.inl rfl,⟨[],rfl,.inl rfl,fun i h=>absurd h (by simp)⟩,⟨zMs _,fun _=>rfl⟩,⟨zMs _,fun _=>rfl⟩⟩))
 generalize layP t ⟨aset,[],[]⟩=L at *
 go_wp2_with fail
 refine HLAY.out.mono ?_
 rintro e w2 ⟨rfl,hbW,hfr,hend⟩
 have p6:=(hfr _ _ _ _ HP6.out (by decide) (by decide)).trans HP6.out
 have hbw2:Below W w w2:=(HBW.out.mono HWS.out).trans hbW
 obtain ⟨z6,zb,-⟩:=zAS p6 (.int .i64 0) (.int .i64 0) (.slice none 0 0) (.slice none 0 0)
 have hbz:=zb _ _ hbw2 (show W<=w.heap.size+1 by omega)
 unfold putA at z6 hbz
 have v0:=zAa z6 0
 have v1:=zAa z6 1
 have v2:=zAa z6 2
 have v3:=zAa z6 3
 have y0:=zAa p6 0
 have y1:=zAa p6 1
 have y2:=zAa p6 2
 have y3:=zAa p6 3
 simp only [cA1,cA2,cA3] at v0 v1 v2 v3 y0 y1 y2 y3
 have yf:=fun j=>zAc p6 j
 have yl:=zAb p6
 clear zb z6
 clear c0 c1 t0 t1 t2 hfr
 go_wp2_with fail
 refine bodyPost_ret (v:=.tuple #[.agg #[.int .i64 0,.int .i64 0,.slice none 0 0,.slice none 0 0],.int .i64 L.2]) (by simp [results,Tryz.results11,go_sem,v0,v1,v2,v3]) rfl ?_
 rw [HR.out]
 refine ⟨⟨none,0,0,none,0,0,rfl,AnwIn.none _ 0 0⟩,hbz,fun h0=>?_⟩
 obtain ⟨B',vs',g1,g2,-⟩:=hend h0
 exact ⟨B',so,sn,sc,vs',g1.ans p6 HQ.out.1 HQ.out.2 (g2 _ (.inr rfl)) _ _ _ _,HFAR.out,HSL.out,HSC.out⟩
end Go.Proofs.YtfmgdjgedhnmeaaGreat
