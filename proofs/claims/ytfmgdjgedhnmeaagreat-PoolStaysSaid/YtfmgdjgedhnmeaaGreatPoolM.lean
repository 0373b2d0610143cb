/- pool.place. · Writes beside a pool's rows. · A tenant's row of sets is laid anew: what Insert and Delete leave. No program in sight. · pool.lay. · A store's row where a slice is written over a slice; where what is there is written. No program in sight. -/
import Derived.Deep.RegionWith
import Derived.Deep.RegionHeld3
import Derived.Test.YtfmgdjgedhnmeaaGreatPoolJ
import Derived.StillTail
import Derived.StillTactics
import Derived.Test.YtfmgdjgedhnmeaaGreatPoolF
namespace Go.Proofs.YtfmgdjgedhnmeaaGreat
open Go.RowKit
set_option linter.unusedVariables false
set_option linter.unusedSimpArgs false
theorem rows_nm {vs:List Stv} {l:List SetV} (h:vs.length=l.length) (hn:∀ i (h:i<vs.length) (h':i<l.length),vs[i].nm=l[i].nm):vs.map Stv.nm=l.map SetV.nm:=
 zNd (by simp [h]) fun i h1 h2=>by
  rw [zM2,zM2]
  exact hn i (by simpa using h1) (by simpa using h2)
set_option maxRecDepth 100000 in
theorem zBg (w:World) (key quota:Int) (ao:Option Addr) (n cap:Nat) (t:TenV) (s:ByteArray) (ht:TenIn w ao n cap t) (hn:n<=1000) (hr:zAw (t.sets.map SetV.nm)) :
 Calls Tryz.prog 32 #[.agg #[.int .i64 key,.int .i64 quota,.slice ao n cap],.string s] w fun e w'=>e=.returned (.tuple #[.int .i64 (placeN (t.sets.map SetV.nm) s),.bool (placeB (t.sets.map SetV.nm) s)])/\Below w.heap.size w w':=by
 have hb0:=bA0 w (.cells #[.int .i64 key,.int .i64 quota,.slice ao n cap] 42)
 obtain ⟨vs,h1,h2,h3⟩:=ht.row
 have hnm:=rows_nm h1 fun i a b=>(h3 i a b).1
 have hvl:vs.length=n:=h1.trans ht.len
 rw [<- hnm] at hr ⊢
 have h:=zIH (w.alloc (.cells #[.int .i64 key,.int .i64 quota,.slice ao n cap] 42)) ao n cap vs s hvl hn (h2.mono hb0) hr
 generalize placeN (vs.map Stv.nm) s=PN at *
 generalize placeB (vs.map Stv.nm) s=PB at *
 clear hr h1 h2 h3 hnm hvl ht
 go_enter Tryz.func32,Tryz.ntmps32
 go_wp2_with fail
 refine h.mono ?_
 rintro e w1 ⟨rfl,hb1⟩
 have hb2:=zAd hb0 hb1
 go_wp2
 refine bodyPost_ret (v:=.tuple #[.int .i64 PN,.bool PB]) (by simp [results,Tryz.results32,go_sem]) rfl ?_
 exact ⟨rfl,hb2⟩
section
variable {w0 w w2:World} {K W:Nat} {B B2 X:Nat->Prop} {ao:Option Addr} {n cap i:Nat} {l:List TenV} {vs:List Tnv}
theorem zAx.kept (h:zAx w0 w K W B ao n cap l vs i) (hX:∀ b,X b->K<=b/\B b) (hrow:∀ b,X b->ao≠some ⟨b,0,none⟩) (hrows:∀ b,X b->∀ j (h:j<vs.length),j<i->vs[j].ao≠some ⟨b,0,none⟩) (hk:Kept X w w2):zAx w0 w2 K W B ao n cap l vs i:=by
 have hkB:Kept B w w2:=⟨hk.os,hk.tape,hk.output,hk.size,fun b hl hb=>hk.block b hl fun e=>hb (hX b e).2⟩
 exact ⟨h.hk0,h.bel.trans (hk.below h.kle fun b hb e=>by have:=(hX b e).1;omega),h.kw,h.vlen,h.own.other fun q hq hl=>hk.block q hl fun e=>hrow q e hq,h.blk,h.num,fun j a b c=>⟨(h.done j a b c).1.step hkB (fun q hq hl=>hk.block q hl fun e=>hrows q e j a c hq) fun _ _ h=>h,(h.done j a b c).2⟩,h.todo,h.apart⟩
theorem zAx.widen (h:zAx w0 w K W B ao n cap l vs i) (hb:Below w.heap.size w w2) (hB:∀ b,B b->B2 b) (hB2:∀ b,b<w.heap.size->B2 b->B b):zAx w0 w2 K W B2 ao n cap l vs i:=
 ⟨h.hk0,h.bel.trans (hb.mono h.kle),h.kw,h.vlen,h.own.mono hb,fun g hg=>hB g (h.blk g hg),h.num,fun j a b c=>⟨(h.done j a b c).1.step (.of hb) (fun q _ hl=>hb.block q hl) hB2,fun g hg=>⟨hB g ((h.done j a b c).2 g hg).1,((h.done j a b c).2 g hg).2⟩⟩,h.todo,h.apart⟩
theorem Kind.Own.typ {α:Type} {M:Kind α} {w:World} {base g n cap:Nat} {l:List α} (h:M.Own w base (.slice (some ⟨g,0,none⟩) n cap) l) {cs:Array Value} {ty:TypeId} {f:Nat×Nat} (hp:w.heap[g]?=some (.cells cs ty f)):ty=M.elem:=by
 rcases h with ⟨_,h⟩ | ⟨g',cap',sp,h1,h2,h3,h4⟩
 . cases h
 . simp only [Value.slice.injEq,zMz,zME,and_true] at h1
   obtain ⟨rfl,-,-⟩:=h1
   rw [hp] at h4
   simp only [zMz,Obj.cells.injEq] at h4
   exact h4.2.1
theorem zAx.typ (h:zAx w0 w K W B ao n cap l vs l.length) {q:Nat} {cs:Array Value} {ty:TypeId} {f:Nat×Nat} (hp:w.heap[q]?=some (.cells cs ty f)) (h1:ty≠tnvK.elem) (h2:ty≠stvK.elem) :
 ao≠some ⟨q,0,none⟩/\∀ j (h:j<vs.length),vs[j].ao≠some ⟨q,0,none⟩:=by
 refine ⟨fun e=>?_,fun j hj e=>?_⟩
 . have h3:=h.own
   rw [e] at h3
   exact h1 (h3.typ hp)
 . have hj':j<l.length:=by rw [<- h.vlen];exact hj
   obtain ⟨us,-,h3,-⟩:=(h.done j hj hj' hj').1
   rw [e] at h3
   exact h2 (h3.typ hp)
theorem zAx.pool {so:Option Addr} {sn sc:Nat} {s:List Blk} (h:zAx w0 w K W B ao n cap l vs l.length) (hs:Hangs B w fun w=>StoRow w so s) (hl:s.length=sn) (hc:Capd so sn sc) (hX:∀ b,X b->K<=b/\B b/\b<W):Hangs X w fun w=>zAG w so sn sc ao n cap ⟨s,l⟩:=fun w' hk=>by
 have hkB:Kept B w w':=⟨hk.os,hk.tape,hk.output,hk.size,fun b hl hb=>hk.block b hl fun e=>hb (hX b e).2.1⟩
 have h2:zAx w0 w' K W B ao n cap l vs l.length:=h.kept (fun b hb=>⟨(hX b hb).1,(hX b hb).2.1⟩) (fun b hb e=>by
  have h3:=h.own
  rw [e] at h3
  have:=h3.ge.1
  have:=(hX b hb).2.2
  omega) (fun b hb j hj hji e=>by
  obtain ⟨us,-,h3,-⟩:=(h.done j hj hji hji).1
  rw [e] at h3
  have:=h3.ge.1
  have:=(hX b hb).2.2
  omega) hk
 exact ⟨hl,hs w' hkB,hc,h2.len.symm,h2.row.1,h2.row.2⟩
end
end Go.Proofs.YtfmgdjgedhnmeaaGreat

namespace Go.Proofs.YtfmgdjgedhnmeaaGreat
open Go.RowKit
set_option linter.unusedVariables false
set_option linter.unusedSimpArgs false
section
variable {w0 w w5:World} {K W:Nat} {B:Nat->Prop} {ao:Option Addr} {n cap i:Nat} {l:List TenV} {vs:List Tnv}
theorem zAx.renew {tb m' c':Nat} {a':Option Addr} {t':TenV} (h:zAx w0 w K W B (some ⟨tb,0,none⟩) n cap l vs l.length) (hi:i<vs.length) (hi':i<l.length) (hkt:t'.key=l[i].key/\t'.quota=l[i].quota)
 (hk:Kept (fun b=>vs[i].ao=some ⟨b,0,none⟩) w w5) (hw:W<=w.heap.size) (hnew:∀ g,a'=some ⟨g,0,none⟩->vs[i].ao=some ⟨g,0,none⟩\/w.heap.size<=g)
 (ht:TenOwn w5 W (fun b=>B b\/w.heap.size<=b/\a'=some ⟨b,0,none⟩) a' m' c' t') :
 zAx w0 (w5.setCell ⟨tb,i*3+2,none⟩ (.slice a' m' c')) K W (fun b=>B b\/w.heap.size<=b/\a'=some ⟨b,0,none⟩) (some ⟨tb,0,none⟩) n cap (l.set i t') (vs.set i ⟨vs[i].key,vs[i].quota,a',m',c'⟩) l.length:=by
 have htb:=h.own.ge
 have hBt:=h.blk tb rfl
 obtain ⟨hdi,hdi2⟩:=h.done i hi hi' hi'
 have hti:vs[i].ao≠some ⟨tb,0,none⟩:=fun e=>(hdi2 tb e).2 rfl
 have hkB:Kept B w w5:=⟨hk.os,hk.tape,hk.output,hk.size,fun b hl hb=>hk.block b hl fun e=>hb (hdi2 b e).1⟩
 have hkB6:Kept B w (w5.setCell ⟨tb,i*3+2,none⟩ (.slice a' m' c')):=hkB.set (.inr hBt) _
 have hkeep:∀ b,b≠tb->(w5.setCell ⟨tb,i*3+2,none⟩ (.slice a' m' c')).heap[b]?=w5.heap[b]?:=fun b hb=>zMu _ _ _ _ hb
 have htn:∀ g,a'=some ⟨g,0,none⟩->g≠tb:=fun g hg e=>by
  rcases hnew g hg with h1 | h1
  . exact hti (by rw [h1,e])
  . omega
 have hWi:∀ b,vs[i].ao=some ⟨b,0,none⟩->W<=b/\b<w.heap.size:=fun b hb=>by
  obtain ⟨us,-,h2,-⟩:=hdi
  rw [hb] at h2
  exact h2.ge
 have hlow:∀ j (hj:j<vs.length) (hj':j<l.length),∀ g,vs[j].ao=some ⟨g,0,none⟩->g<w.heap.size:=fun j hj hj' g hg=>by
  obtain ⟨us,-,h2,-⟩:=(h.done j hj hj' hj').1
  rw [hg] at h2
  exact h2.ge.2
 have hself:∀ b,b<w.heap.size->(B b\/w.heap.size<=b/\a'=some ⟨b,0,none⟩)->B b:=fun b hl hb=>hb.elim id fun h=>absurd h.1 (by omega)
 have ho5:tnvK.Own w5 W (.slice (some ⟨tb,0,none⟩) n cap) vs:=h.own.other fun g hg hl=>hk.block g hl fun e=>hti (by rw [e,<- hg])
 have ht6:=ht.step (w2:=w5.setCell ⟨tb,i*3+2,none⟩ (.slice a' m' c')) (B2:=fun b=>B b\/w.heap.size<=b/\a'=some ⟨b,0,none⟩) ((Kept.refl _ _).set (.inr (.inl hBt)) _) (fun g hg _=>hkeep g (htn g hg)) fun _ _ h=>h
 refine ⟨h.hk0,(h.bel.trans (hk.below h.kle fun b hb e=>by have:=(hWi b e).1;have:=h.kw;omega)).setCell (zMN h.kw htb.1) _,h.kw,by rw [zMK,zMK];exact h.vlen,ho5.setCell (K:=tnvK) i 2 (.slice a' m' c') _ hi (by decide) rfl,fun g hg=>.inl (h.blk g hg),fun j a b=>?_,fun j a b c=>?_,fun j a b c=>absurd c (by simp only [zMK] at b;omega),fun j j' a b c d e g hg hg2=>?_⟩
 . have a':j<vs.length:=by simpa using a
   have b':j<l.length:=by simpa using b
   rw [zMP,zMP]
   by_cases e:i=j
   . subst e
     rw [if_pos rfl,if_pos rfl]
     exact ⟨(h.num i hi hi').1.trans hkt.1.symm,(h.num i hi hi').2.trans hkt.2.symm⟩
   . rw [if_neg e,if_neg e]
     exact h.num j a' b'
 . have a2:j<vs.length:=by simpa using a
   have b2:j<l.length:=by simpa using b
   rw [zMP,zMP]
   by_cases e:i=j
   . subst e
     rw [if_pos rfl,if_pos rfl]
     refine ⟨ht6,fun g hg=>⟨?_,fun e=>htn g hg (by simpa using e.symm)⟩⟩
     rcases hnew g hg with h1 | h1
     . exact .inl (hdi2 g h1).1
     . exact .inr ⟨h1,hg⟩
   . rw [if_neg e,if_neg e]
     obtain ⟨d1,d2⟩:=h.done j a2 b2 b2
     refine ⟨d1.step hkB6 (fun g hg hl=>(hkeep g fun e2=>(d2 g hg).2 (by rw [e2])).trans (hk.block g hl fun e2=>h.apart i j hi a2 hi' b2 e g e2 hg)) hself,fun g hg=>⟨.inl (d2 g hg).1,(d2 g hg).2⟩⟩
 . have a2:j<vs.length:=by simpa using a
   have b2:j'<vs.length:=by simpa using b
   rw [zMP] at hg hg2
   by_cases e1:i=j
   . subst e1
     rw [if_pos rfl] at hg
     rw [if_neg e] at hg2
     rcases hnew g hg with h1 | h1
     . exact h.apart i j' hi b2 hi' d e g h1 hg2
     . have:=hlow j' b2 d g hg2
       omega
   . rw [if_neg e1] at hg
     by_cases e2:i=j'
     . subst e2
       rw [if_pos rfl] at hg2
       rcases hnew g hg2 with h1 | h1
       . exact h.apart j i a2 hi c hi' (fun e=>e1 e.symm) g hg h1
       . have:=hlow j a2 c g hg
         omega
     . rw [if_neg e2] at hg2
       exact h.apart j j' a2 b2 c d e g hg hg2
end
end Go.Proofs.YtfmgdjgedhnmeaaGreat

namespace Go.Proofs.YtfmgdjgedhnmeaaGreat
open Go.RowKit
set_option linter.unusedVariables false
set_option linter.unusedSimpArgs false
structure zAz (w0 w:World) (K W:Nat) (B:Nat->Prop) (pb:Nat) (so:Option Addr) (sn sc:Nat) (ao:Option Addr) (n cap:Nat) (s:List Blk) (l:List TenV) (vs:List Tnv):Prop where
 box:w.heap[pb]?=some (.cells #[.slice so sn sc,.slice ao n cap] 27 (0,0))
 sto:Hangs B w fun w=>StoRow w so s
 ten:zAx w0 w K W B ao n cap l vs l.length
 hK:K<=pb
 hB:B pb
 hw:W<=w.heap.size
theorem zAz.mono {w0 w w2:World} {K W:Nat} {B:Nat->Prop} {pb:Nat} {so ao:Option Addr} {sn sc n cap:Nat} {s:List Blk} {l:List TenV} {vs:List Tnv} (h:zAz w0 w K W B pb so sn sc ao n cap s l vs) (hb:Below w.heap.size w w2):zAz w0 w2 K W B pb so sn sc ao n cap s l vs:=
 ⟨(hb.block _ (zAb h.box)).trans h.box,h.sto.mono hb,h.ten.mono hb,h.hK,h.hB,zMN h.hw hb.size⟩
theorem zLt {α β:Type} {R:α->β->Prop} {us:List α} {l:List β} (hl:us.length=l.length) (h:∀ k (a:k<us.length) (b:k<l.length),R us[k] l[k]) {x:α} {y:β} (hxy:R x y) (i:Nat) (hi:i<=l.length):∀ k (a:k<(insL us i x).length) (b:k<(insL l i y).length),R (insL us i x)[k] (insL l i y)[k]:=by
 unfold insL
 intro k a b
 have a2:=a
 have b2:=b
 simp only [zMG,zMT,zMI,zMF] at a2 b2
 have t1:(us.take i).length=i:=by rw [zMI];omega
 have t2:(l.take i).length=i:=by rw [zMI];omega
 rcases Nat.lt_trichotomy k i with c | c | c
 . rw [zMY (by omega),zMY (by omega),zNO,zNO]
   exact h k (by omega) (by omega)
 . subst c
   simp only [zMX (zOA t1),zMX (zOA t2),t1,t2,Nat.sub_self,List.getElem_cons_zero]
   exact hxy
 . obtain ⟨d,rfl⟩:∃ d,k=i+1+d:=⟨k - i - 1,by omega⟩
   have e1:i+1+d - i=d+1:=by omega
   simp only [zMX (show (us.take i).length<=i+1+d by omega),zMX (show (l.take i).length<=i+1+d by omega),t1,t2,e1,List.getElem_cons_succ,zOj]
   exact h (i+d) (by omega) (by omega)
def Frame (w w':World):Prop:=∀ (b:Nat) (cs:Array Value) (ty:TypeId) (f:Nat×Nat),w.heap[b]?=some (.cells cs ty f)->ty≠tnvK.elem->ty≠stvK.elem->w'.heap[b]?=w.heap[b]?
theorem Frame.of {w w':World} (h:Below w.heap.size w w'):Frame w w':=fun b _ _ _ hp _ _=>h.block b (zAb hp)
def zMp (w0 w w':World) (K W:Nat) (B:Nat->Prop) (pb:Nat) (so:Option Addr) (sn sc:Nat) (ao:Option Addr) (n cap:Nat) (s:List Blk) (l:List TenV) (i:Nat) (r:TenV×Int):Prop:=
 Below W w w'/\Frame w w'/\(r.2=0->∃ B' vs',zAz w0 w' K W B' pb so sn sc ao n cap s (l.set i r.1) vs'/\(∀ b,B b->B' b)/\∀ b,b<w.heap.size->B' b->B b)
set_option maxRecDepth 100000 in
set_option maxHeartbeats 4000000 in
theorem zFK (w0 w:World) (K W:Nat) (B:Nat->Prop) (pb i:Nat) (so ao fo yo:Option Addr) (sn sc n cap fn fc yn yc:Nat) (s:List Blk) (l:List TenV) (vs:List Tnv) (x:SetV) (t:TenV) (r:TenV×Int) (hr:layP t x=r) (h:zAz w0 w K W B pb so sn sc ao n cap s l vs) (hi:i<l.length) (ht:l[i]=t) (hn:n<=1000) (h3:t.sets.length<=3) (hrise:zAw (t.sets.map SetV.nm))
 (hx:Hangs B w fun w=>SetIn w fo fn fc yo yn yc x) :
 Calls Tryz.prog 31 #[.pointer (some ⟨pb,0,none⟩),.int .i64 i,.agg #[.string x.nm,.slice fo fn fc,.slice yo yn yc]] w fun e w'=>e=.returned (.int .i64 r.2)/\zMp w0 w w' K W B pb so sn sc ao n cap s l i r:=by
 have HR:=lH hr
 have HX:=lH hx
 have HRISE:=lH hrise
 have HI:=lH hi
 have HT:=lH ht
 have hba:=bA0 w (.cells #[.string x.nm,.slice fo fn fc,.slice yo yn yc] 47)
 have h1:=h.mono hba
 have b0:(w.alloc (.cells #[.string x.nm,.slice fo fn fc,.slice yo yn yc] 47)).cell? ⟨w.heap.size,0,none⟩=some (.string x.nm):=by simp
 have b1:(w.alloc (.cells #[.string x.nm,.slice fo fn fc,.slice yo yn yc] 47)).cell? ⟨w.heap.size,1,none⟩=some (.slice fo fn fc):=by simp
 have b2:(w.alloc (.cells #[.string x.nm,.slice fo fn fc,.slice yo yn yc] 47)).cell? ⟨w.heap.size,2,none⟩=some (.slice yo yn yc):=by simp
 have c1:=zAa h1.box 1
 simp at c1
 have hin:(i:Int)<n:=by have:=h.ten.len;omega
 obtain ⟨tb,htb,htW,htl,htf,hE⟩:=h1.ten.at i hi
 subst htb
 have hiv:i<vs.length:=by rw [h.ten.vlen];exact hi
 have hTI:=h1.ten.ten i hiv hi
 obtain ⟨u,hu⟩:∃ u,vs[i]=u:=⟨_,rfl⟩
 rw [hu] at hE hTI
 rw [ht] at hTI
 obtain ⟨key,quota,oo,on,oc⟩:=u
 obtain ⟨t0,t1,t2⟩:=hE
 simp only at t0 t1 t2 hTI
 have hon:on=t.sets.length:=hTI.len.symm
 have HTI:=lH hTI
 have H:=lH h
 have HU:=lH hu
 have hbW:Below W w (w.alloc (.cells #[.string x.nm,.slice fo fn fc,.slice yo yn yc] 47)):=hba.mono h.hw
 have HON:=lH hon
 have hon3:on<=3:=by omega
 clear hr hx hrise h1 h ht hTI hu hon
 go_enter Tryz.func31,Tryz.ntmps31
 go_wp2_with fail
 generalize w.alloc (.cells #[.string x.nm,.slice fo fn fc,.slice yo yn yc] 47)=W1 at *
 refine (zBR _ _).mono ?_
 rintro e w1 ⟨rfl,hw1⟩
 obtain rfl:=hw1.symm
 by_cases hnb:nameB x.nm=false
 . have HR2:Hid (r.2=1):=lH (by rw [<- HR.out];unfold layP;rw [if_pos hnb])
   rw [hnb]
   clear hnb
   go_wp2_with fail
   go_ret
   rw [HR2.out]
   exact ⟨rfl,hbW,Frame.of hba,fun h=>absurd (HR2.out.symm.trans h) (by decide)⟩
 . rw [show nameB x.nm=true by simpa using hnb]
   have HNB:=lH hnb
   clear hnb
   go_upto_region 4 with fail
   have HPL:=lH (zBg W1.drew key quota oo on oc t x.nm (HTI.out.mono (zMy _ _).drew) (by omega) HRISE.out)
   obtain ⟨PN,hPN⟩:∃ PN,placeN (t.sets.map SetV.nm) x.nm=PN:=⟨_,rfl⟩
   obtain ⟨PB,hPB⟩:∃ PB,placeB (t.sets.map SetV.nm) x.nm=PB:=⟨_,rfl⟩
   rw [hPN,hPB] at HPL
   have HPN:=lH hPN
   have HPB:=lH hPB
   clear hPN hPB
   refine zA7 5 _ rfl (by kernel_rfl) (by kernel_rfl) ?_
   simp only [zND,zNH,zNM,zN9]
   repeat still_step
   refine wpStill_nil ?_
   intro K hK
   go_simp
   refine HPL.out.mono ?_
   rintro e w2 ⟨rfl,hb2⟩
   have hb2:=zBL hb2
   refine hK _ _ ?_
   clear hK K HPL
   repeat still_step
   refine wpStill_nil ?_
   have hWs:W<=W1.heap.size:=zMN H.out.hw hba.size
   have hbW2:Below W w w2:=hbW.trans (hb2.mono hWs)
   have u2:=Zc hb2 htl t2
   have a0:=((bcell hb2).1 _ _ (zMx _ _ b0)).trans b0
   have a1:=((bcell hb2).1 _ _ (zMx _ _ b0)).trans b1
   have a2:=((bcell hb2).1 _ _ (zMx _ _ b0)).trans b2
   have af:=fun j=>Zf hb2 j htl (htf j)
   have HB2:=lH hb2
   have HBA:=lH hba
   clear t0 t1 t2 b0 b1 b2 c1 htf hb2 hbW hba
   cases PB with
   | true=>
    have HR2:Hid (r.2=6):=lH (by rw [<- HR.out];unfold layP;rw [if_neg HNB.out,if_pos HPB.out])
    go_wp2_with fail
    go_ret
    rw [HR2.out]
    exact ⟨rfl,hbW2,Frame.of (HBA.out.trans (HB2.out.mono HBA.out.size)),fun h=>absurd (HR2.out.symm.trans h) (by decide)⟩
   | false=>
    by_cases h6:on=3
    . have HR2:Hid (r.2=2):=lH (by rw [<- HR.out];unfold layP;rw [if_neg HNB.out,if_neg (by rw [HPB.out];simp),if_pos (by rw [<- HON.out];exact h6)])
      subst h6
      go_wp2_with fail
      go_ret
      rw [HR2.out]
      exact ⟨rfl,hbW2,Frame.of (HBA.out.trans (HB2.out.mono HBA.out.size)),fun h=>absurd (HR2.out.symm.trans h) (by decide)⟩
    . have HR2:Hid (r=({ t with sets:=insL t.sets PN x },0)):=lH (by rw [<- HR.out];unfold layP;rw [if_neg HNB.out,if_neg (by rw [HPB.out];simp),if_neg (by rw [<- HON.out];exact h6),HPN.out])
      have h6':((on:Int)==3)=false:=by rw [beq_eq_false_iff_ne];omega
      have h6'':¬ ((on:Int)=3):=by omega
      have h2:=(H.out.mono HBA.out).mono HB2.out
      obtain ⟨hdi,hdi2⟩:=h2.ten.done i hiv hi hi
      have hdi':TenOwn w2 W B oo on oc t:=by rw [HU.out,HT.out] at hdi;exact hdi
      have hdi2':∀ g,oo=some ⟨g,0,none⟩->B g/\some ⟨tb,0,none⟩≠some (⟨g,0,none⟩:Addr):=by rw [HU.out] at hdi2;exact hdi2
      obtain ⟨us,v1,v2,v3⟩:=hdi'
      have hple:PN<=on:=by rw [<- HPN.out,HON.out];have:=zBt (t.sets.map SetV.nm) x.nm;rwa [zMA] at this
      have hq:∀ o:Obj,Below w2.drew.heap.size w2.drew (w2.drew.alloc o):=fun o=>(zMy _ _).alloc (zMs _) _
      have hv:(w2.drew.alloc (.cells #[.string x.nm,.slice fo fn fc,.slice yo yn yc] 47)).heap[w2.heap.size]?=some (.cells (stvK.cells ⟨x.nm,fo,fn,fc,yo,yn,yc⟩).toArray 47 (0,0)):=heap_alloc_new w2.drew _
      have hvb:oo≠some ⟨w2.heap.size,0,none⟩:=fun e=>by rw [e] at v2;have:=v2.ge.2;omega
      have hv2':stvK.Own (w2.drew.alloc (.cells #[.string x.nm,.slice fo fn fc,.slice yo yn yc] 47)) W (.slice oo on oc) us:=(v2.mono (zMy w2.heap.size w2).drew).mono (hq _)
      have hW2:W<=(w2.drew.alloc (.cells #[.string x.nm,.slice fo fn fc,.slice yo yn yc] 47)).heap.size:=zMN h2.hw (hq (.cells #[.string x.nm,.slice fo fn fc,.slice yo yn yc] 47)).size
      have HINS:=lH (zHX (w2.drew.alloc (.cells #[.string x.nm,.slice fo fn fc,.slice yo yn yc] 47)) W oo on oc PN w2.heap.size us ⟨x.nm,fo,fn,fc,yo,yn,yc⟩ (v1.trans HON.out.symm) (by omega) hple hv2' hW2 hv hvb)
      have HV1:=lH v1
      have HV3:=lH v3
      have HV2:=lH v2
      have H2:=lH h2
      have HD2:=lH hdi2'
      have htl2:tb<w2.heap.size:=zMw htl HB2.out.size
      have hot:oo≠some ⟨tb,0,none⟩:=fun e=>(hdi2' tb e).2 rfl
      have HOT:=lH hot
      clear hdi hdi2 hdi2' v1 v2 v3 h2 hv hvb hv2' hW2 hot hq
      obtain ⟨cs,hcs⟩:∃ cs,w2.heap[tb]?=some (.cells cs tnvK.elem (0,0)):=by
       rcases H2.out.ten.own with ⟨_,h⟩ | ⟨g',cap',sp,e1,e2,e3,e4⟩
       . cases h
       . simp only [Value.slice.injEq,zMz,zME,and_true] at e1
         rw [e1.1]
         exact ⟨_,e4⟩
      have hc2:cs[i*3+2]?=some (.slice oo on oc):=(zAa hcs _).symm.trans u2
      have ab:(w2.drew.alloc (.cells #[.string x.nm,.slice fo fn fc,.slice yo yn yc] 47)).heap[tb]?=some (.cells cs tnvK.elem (0,0)):=(heap_alloc_old w2.drew _ htl2).trans hcs
      have l1a:tb<(w2.drew.alloc (.cells #[.string x.nm,.slice fo fn fc,.slice yo yn yc] 47)).heap.size:=zAb ab
      have HZC:Hid ((w2.drew.alloc (.cells #[.string x.nm,.slice fo fn fc,.slice yo yn yc] 47)).heap.size=w2.heap.size+1):=lH (by simp)
      go_upto_region 9 with fail
      go_region_with (go_at_call 55;refine HINS.out.mono ?_;rintro e w4 ⟨fo4,fc4,rfl,hown4,hb4,hk4,hnew4⟩;have ab4:=(hk4 tb l1a HOT.out).trans ab;have y3:=(zAa ab4 (i*3+2)).trans hc2;have yf:=fun j=>zAc ab4 j;have y1:=zAb ab4)
      all_goals
       have hFIN:Hid (zMp w0 w (w4.setCell ⟨tb,i*3+2,none⟩ (.slice fo4 (us.length+1) fc4)) K W B pb so sn sc (some ⟨tb,0,none⟩) n cap s l i r):=lH (by
        have h2:=H2.out
        have hzc:=HZC.out
        have hs4:=hb4.size
        have hui:=HU.out
        have hkb:∀ b,b<w2.heap.size->oo≠some ⟨b,0,none⟩->w4.heap[b]?=w2.heap[b]?:=fun b hl hb=>(hk4 b (by omega) hb).trans (heap_alloc_old w2.drew _ hl)
        have hk:Kept (fun b=>vs[i].ao=some ⟨b,0,none⟩) w2 w4:=⟨hb4.os,hb4.tape,hb4.output,by omega,fun b hl hb=>hkb b hl (by rw [hui] at hb;exact hb)⟩
        obtain ⟨hp1,hp2⟩:=h2.ten.typ h2.box (by decide) (by decide)
        have hp3:oo≠some ⟨pb,0,none⟩:=by have:=hp2 i hiv;rw [hui] at this;exact this
        have hpt:pb≠tb:=fun e=>hp1 (by rw [e])
        rw [HR2.out]
        have hkB:Kept B w2 w4:=⟨hk.os,hk.tape,hk.output,hk.size,fun b hl hb=>hkb b hl fun e=>hb (HD2.out b e).1⟩
        have hself:∀ b,b<w2.heap.size->(B b\/w2.heap.size<=b/\fo4=some ⟨b,0,none⟩)->B b:=fun b hl h=>h.elim id fun h=>absurd h.1 (by omega)
        have hus:us.length=t.sets.length:=HV1.out
        have hon:=HON.out
        have hz1:=HBA.out.size
        have hz2:=HB2.out.size
        have ht:TenOwn w4 W (fun b=>B b\/w2.heap.size<=b/\fo4=some ⟨b,0,none⟩) fo4 (us.length+1) fc4 { t with sets:=insL t.sets PN x }:=by
         refine ⟨insL us PN ⟨x.nm,fo,fn,fc,yo,yn,yc⟩,?_,hown4,zLt (R:=fun (u:Stv) (y:SetV)=>u.nm=y.nm/\Hangs (fun b=>B b\/w2.heap.size<=b/\fo4=some ⟨b,0,none⟩) w4 fun w=>SetIn w u.fo u.fn u.fc u.so u.sn u.sc y) hus (fun k a b=>⟨(HV3.out k a b).1,(HV3.out k a b).2.step hkB hself⟩) ⟨rfl,((HX.out.mono HBA.out).mono HB2.out).step hkB hself⟩ PN (by omega)⟩
         rw [zBr us PN _ (by omega)]
         show us.length+1=(insL t.sets PN x).length
         rw [zBr t.sets PN _ (by omega)]
         omega
        have h9:=h2.ten.renew (t':={ t with sets:=insL t.sets PN x }) hiv hi ⟨by rw [HT.out],by rw [HT.out]⟩ hk h2.hw (fun g hg=>(hnew4 g hg).imp (fun e=>by rw [hui];exact e) (fun h=>by omega)) ht
        refine ⟨((hbW2.trans (((zMy w2.heap.size w2).drew.alloc (zMs _) _).mono h2.hw)).trans hb4).setCell (by show W<=tb;omega) _,fun b cs ty f hp k1 k2=>(by
         have hb1:w2.heap[b]?=w.heap[b]?:=(HB2.out.block b (zMw (zAb hp) hz1)).trans (HBA.out.block b (zAb hp))
         obtain ⟨t1,t2⟩:=h2.ten.typ (hb1.trans hp) k1 k2
         exact (zMu _ _ _ _ (fun e=>t1 (by have e:b=tb:=e;rw [e]))).trans ((hkb b (zMw (zMw (zAb hp) hz1) hz2) (by have:=t2 i hiv;rw [hui] at this;exact this)).trans hb1)),fun _=>⟨_,_,⟨(zMu _ _ _ _ hpt).trans ((hkb pb (zAb h2.box) hp3).trans h2.box),h2.sto.step (hkB.set (.inr (h2.ten.blk tb rfl)) _) hself,by rw [zMK];exact h9,h2.hK,.inl h2.hB,?_⟩,fun b h=>.inl h,fun b hl h=>h.elim id fun h=>absurd h.1 (by omega)⟩⟩
        have:(w4.setCell ⟨tb,i*3+2,none⟩ (.slice fo4 (us.length+1) fc4)).heap.size=w4.heap.size:=by simp
        have:=h2.hw
        omega)
       clear hown4 hb4 hk4 hnew4 ab4 y3 yf y1 HINS
       go_wp2_with fail
       go_ret
       rw [HR2.out]
       exact ⟨rfl,by rw [<- HR2.out];exact hFIN.out⟩
end Go.Proofs.YtfmgdjgedhnmeaaGreat

namespace Go.Proofs.YtfmgdjgedhnmeaaGreat
open Go.RowKit
set_option linter.unusedVariables false
set_option linter.unusedSimpArgs false
theorem zDF {w:World} {b o:Nat} {v:Value} {cs:Array Value} {ty:TypeId} {f:Nat×Nat} (h:w.heap[b]?=some (.cells cs ty f)) (hc:cs[o]?=some v):∀ q:Nat,(w.setCell ⟨b,o,none⟩ v).heap[q]?=w.heap[q]?:=fun q=>by
 by_cases e:q=b
 . subst e
   simp only [World.setCell,Array.getElem?_modify,if_true,h,zNx]
   congr 2
   apply Array.ext
   . simp
   . intro i h1 h2
     have key:∀ (ds:Array Value) (e:ds=cs.setIfInBounds o v) (h3:i<ds.size),ds[i]=cs[i]:=fun ds e h3=>by
      subst e
      rw [Array.getElem_setIfInBounds h2]
      split
      . rename_i e
        subst e
        rw [Array.getElem?_eq_getElem h2] at hc
        exact (zNg hc).symm
      . rfl
     exact key _ (by simp) _
 . exact zMu _ _ _ _ e
end Go.Proofs.YtfmgdjgedhnmeaaGreat
