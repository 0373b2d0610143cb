/- A pool in memory of its own. · pool.Copy. · store.Copy: what the copy hangs on is the call's own. · pool.Copy: the same pool in memory of its own. -/
import Derived.Test.YtfmgdjgedhnmeaaGreatPoolG
import Derived.Test.YtfmgdjgedhnmeaaGreatGather
import Derived.Deep.RegionWith
import Derived.Deep.RegionHeld3
namespace Go.Proofs.YtfmgdjgedhnmeaaGreat
open Go.RowKit
set_option linter.unusedVariables false
set_option linter.unusedSimpArgs false
structure Kept (bad:Nat->Prop) (w w':World):Prop where
 os:w'.os=w.os
 tape:w'.tape=w.tape
 output:w'.output=w.output
 size:w.heap.size<=w'.heap.size
 block:∀ b,b<w.heap.size->¬ bad b->w'.heap[b]?=w.heap[b]?
theorem Kept.refl (bad:Nat->Prop) (w:World):Kept bad w w:=⟨rfl,rfl,rfl,zMs _,fun _ _ _=>rfl⟩
theorem Kept.of {bad:Nat->Prop} {w w2:World} (h:Below w.heap.size w w2):Kept bad w w2:=⟨h.os,h.tape,h.output,h.size,fun b hl _=>h.block b hl⟩
theorem Kept.set {bad:Nat->Prop} {w w2:World} (h:Kept bad w w2) {g j:Nat} (hg:w.heap.size<=g\/bad g) (v:Value):Kept bad w (w2.setCell ⟨g,j,none⟩ v):=
 ⟨h.os,h.tape,h.output,by have:=h.size;simpa using this,fun b hl hb=>(zMu _ _ _ _ (fun e=>by
  have e:b=g:=e
  rcases hg with hg | hg
  . omega
  . exact hb (by rw [e];exact hg))).trans (h.block b hl hb)⟩
def Hangs (bad:Nat->Prop) (w:World) (A:World->Prop):Prop:=∀ w',Kept bad w w'->A w'
theorem Hangs.now {bad:Nat->Prop} {w:World} {A:World->Prop} (h:Hangs bad w A):A w:=h w (.refl _ _)
theorem Hangs.step {bad bad2:Nat->Prop} {w w2:World} {A:World->Prop} (h:Hangs bad w A) (hk:Kept bad w w2) (hb:∀ b,b<w.heap.size->bad2 b->bad b):Hangs bad2 w2 A:=
 fun w' h1=>h w' ⟨h1.os.trans hk.os,h1.tape.trans hk.tape,h1.output.trans hk.output,zMN hk.size h1.size,fun b hl hn=>(h1.block b (zMw hl hk.size) fun h3=>hn (hb b hl h3)).trans (hk.block b hl hn)⟩
theorem Hangs.mono {bad:Nat->Prop} {w w2:World} {A:World->Prop} (h:Hangs bad w A) (hb:Below w.heap.size w w2):Hangs bad w2 A:=h.step (.of hb) fun _ _ h=>h
theorem Hangs.sub {bad bad2:Nat->Prop} {w:World} {A:World->Prop} (h:Hangs bad w A) (hb:∀ b,b<w.heap.size->bad2 b->bad b):Hangs bad2 w A:=h.step (.refl _ _) hb
theorem Kept.below {bad:Nat->Prop} {w w2:World} (h:Kept bad w w2) {K:Nat} (hK:K<=w.heap.size) (hb:∀ b,b<K->¬ bad b):Below K w w2:=⟨h.os,h.tape,h.output,h.size,fun b hl=>h.block b (zMw hl hK) (hb b hl)⟩
theorem set_offs {w:World} {fo so:Option Addr} {fn fc sn sc:Nat} {x:SetV} (h:SetIn w fo fn fc so sn sc x) {bad:Nat->Prop} (hb:∀ b,b<w.heap.size->¬ bad b):Hangs bad w fun w=>SetIn w fo fn fc so sn sc x:=fun w' hk=>h.mono (hk.below (zMs _) hb)
theorem zA1.offs {K:Nat} {w:World} {fo so:Option Addr} {fn fc sn sc:Nat} {x:SetV} (h:zA1 K w fo fn fc so sn sc x) {bad:Nat->Prop} (hb:∀ b,bad b->b<K):Hangs bad w fun w=>SetIn w fo fn fc so sn sc x:=fun w' hk=>h.2 w' hk.size fun b hK hl=>hk.block b hl fun h=>Nat.lt_irrefl _ (zMw (hb b h) hK)
def TenOwn (w:World) (W:Nat) (B:Nat->Prop) (ao:Option Addr) (n cap:Nat) (t:TenV):Prop:=
 ∃ us:List Stv,us.length=t.sets.length/\stvK.Own w W (.slice ao n cap) us/\∀ k (h:k<us.length) (h':k<t.sets.length),us[k].nm=t.sets[k].nm/\Hangs B w fun w=>SetIn w us[k].fo us[k].fn us[k].fc us[k].so us[k].sn us[k].sc t.sets[k]
section
variable {w w2:World} {W:Nat} {B B2:Nat->Prop} {ao:Option Addr} {n cap:Nat} {t:TenV}
theorem TenOwn.len (h:TenOwn w W B ao n cap t):n=t.sets.length:=by
 obtain ⟨us,h1,h2,-⟩:=h
 obtain ⟨_,_,h3,-⟩:=h2.row
 simp only [Value.slice.injEq] at h3
 omega
theorem TenOwn.is (h:TenOwn w W B ao n cap t):TenIn w ao n cap t:=by
 have hl:=h.len
 obtain ⟨us,h1,h2,h3⟩:=h
 obtain ⟨a,c,h4,h5,h6,h7⟩:=h2.row
 simp only [Value.slice.injEq] at h4
 obtain ⟨rfl,rfl,rfl⟩:=h4
 exact ⟨h1.symm,⟨us,h1,h5,fun i a b=>⟨(h3 i a b).1,(h3 i a b).2.now⟩⟩,⟨h6,h7⟩⟩
theorem TenOwn.step (h:TenOwn w W B ao n cap t) (hk:Kept B w w2) (hg:∀ g,ao=some ⟨g,0,none⟩->g<w.heap.size->w2.heap[g]?=w.heap[g]?) (hb:∀ b,b<w.heap.size->B2 b->B b):TenOwn w2 W B2 ao n cap t:=by
 obtain ⟨us,h1,h2,h3⟩:=h
 exact ⟨us,h1,h2.other hg,fun k a b=>⟨(h3 k a b).1,(h3 k a b).2.step hk hb⟩⟩
theorem TenOwn.put {g:Nat} (h:TenOwn w W B (some ⟨g,0,none⟩) n cap t) (k:Nat) (hk:k<t.sets.length) (y:SetV) (hy:y.nm=t.sets[k].nm) {fo so:Option Addr} {fn fc sn sc:Nat} (hg:B g) (ho:Hangs B w fun w=>SetIn w fo fn fc so sn sc y) :
 TenOwn (((w.setCell ⟨g,k*3,none⟩ (.string y.nm)).setCell ⟨g,k*3+1,none⟩ (.slice fo fn fc)).setCell ⟨g,k*3+2,none⟩ (.slice so sn sc)) W B (some ⟨g,0,none⟩) n cap { t with sets:=t.sets.set k y }:=by
 obtain ⟨us,h1,h2,h3⟩:=h
 have hku:k<us.length:=by omega
 have o1:=h2.setCell (K:=stvK) k 0 (.string y.nm) us[k] hku (by decide) (by
  show [Value.string us[k].nm,.slice us[k].fo us[k].fn us[k].fc,.slice us[k].so us[k].sn us[k].sc]=_
  rw [hy,<- (h3 k hku hk).1];rfl)
 rw [zOf] at o1
 have o2:=o1.setCell (K:=stvK) k 1 (.slice fo fn fc) ⟨us[k].nm,fo,fn,fc,us[k].so,us[k].sn,us[k].sc⟩ hku (by decide) rfl
 have o3:=o2.setCell (K:=stvK) k 2 (.slice so sn sc) ⟨us[k].nm,fo,fn,fc,so,sn,sc⟩ (by rw [zMK];exact hku) (by decide) (by rw [zNX];rfl)
 rw [List.set_set] at o3
 have hkeep:Kept B w (((w.setCell ⟨g,k*3,none⟩ (.string y.nm)).setCell ⟨g,k*3+1,none⟩ (.slice fo fn fc)).setCell ⟨g,k*3+2,none⟩ (.slice so sn sc)):=(((Kept.refl B w).set (.inr hg) _).set (.inr hg) _).set (.inr hg) _
 refine ⟨us.set k ⟨us[k].nm,fo,fn,fc,so,sn,sc⟩,by simp [h1],o3,fun i a b=>?_⟩
 have a':i<us.length:=by simpa using a
 have b':i<t.sets.length:=by simpa using b
 by_cases e:i=k
 . subst e
   simp only [zNX]
   exact ⟨by rw [hy];exact (h3 i a' b').1,ho.step hkeep fun _ _ h=>h⟩
 . have e':¬ k=i:=fun h=>e h.symm
   simp only [List.getElem_set_ne e']
   exact ⟨(h3 i a' b').1,(h3 i a' b').2.step hkeep fun _ _ h=>h⟩
end
structure zAx (w0 w:World) (K W:Nat) (B:Nat->Prop) (ao:Option Addr) (n cap:Nat) (l:List TenV) (vs:List Tnv) (i:Nat):Prop where
 hk0:w0.heap.size=K
 bel:Below K w0 w
 kw:K<=W
 vlen:vs.length=l.length
 own:tnvK.Own w W (.slice ao n cap) vs
 blk:∀ g,ao=some ⟨g,0,none⟩->B g
 num:∀ j (h:j<vs.length) (h':j<l.length),vs[j].key=l[j].key/\vs[j].quota=l[j].quota
 done:∀ j (h:j<vs.length) (h':j<l.length),j<i->TenOwn w W B vs[j].ao vs[j].n vs[j].cap l[j]/\∀ g,vs[j].ao=some ⟨g,0,none⟩->B g/\ao≠some ⟨g,0,none⟩
 todo:∀ j (h:j<vs.length) (h':j<l.length),i<=j->TenIn w0 vs[j].ao vs[j].n vs[j].cap l[j]
 apart:∀ j j' (h:j<vs.length) (h':j'<vs.length),j<i->j'<i->j≠j'->∀ g,vs[j].ao=some ⟨g,0,none⟩->vs[j'].ao≠some ⟨g,0,none⟩
section
variable {w0 w w2:World} {K W:Nat} {B:Nat->Prop} {ao:Option Addr} {n cap i:Nat} {l:List TenV} {vs:List Tnv}
theorem zAx.kle (h:zAx w0 w K W B ao n cap l vs i):K<=w.heap.size:=by
 have:=h.bel.size
 have:=h.hk0
 omega
theorem zAx.mono (h:zAx w0 w K W B ao n cap l vs i) (hb:Below w.heap.size w w2):zAx w0 w2 K W B ao n cap l vs i:=
 ⟨h.hk0,h.bel.trans (hb.mono h.kle),h.kw,h.vlen,h.own.mono hb,h.blk,h.num,fun j a b c=>⟨(h.done j a b c).1.step (.of hb) (fun g _ hl=>hb.block g hl) fun _ _ h=>h,(h.done j a b c).2⟩,h.todo,h.apart⟩
theorem zAx.len (h:zAx w0 w K W B ao n cap l vs i):n=l.length:=by
 obtain ⟨_,_,h3,-⟩:=h.own.row
 simp only [Value.slice.injEq] at h3
 have:=h.vlen
 omega
theorem zAx.at (h:zAx w0 w K W B ao n cap l vs i) (j:Nat) (hj:j<l.length):∃ g,ao=some ⟨g,0,none⟩/\W<=g/\g<w.heap.size/\(∀ j,w.frozen? ⟨g,j,none⟩=false)/\TnvAt w g (j*3) (vs[j]'(by rw [h.vlen];exact hj)):=by
 have hjv:j<vs.length:=by rw [h.vlen];exact hj
 obtain ⟨g,h1,h2,h3,h4,h5⟩:=h.own.blk (by omega)
 refine ⟨g,h1,h2,h3,h4,?_⟩
 have:=zHe (b:=g) (o:=0) (fun j v hj=>by rw [zML];exact h5 j v hj) j hjv
 rwa [zML] at this
theorem zAx.ten (h:zAx w0 w K W B ao n cap l vs i) (j:Nat) (hj:j<vs.length) (hj':j<l.length):TenIn w vs[j].ao vs[j].n vs[j].cap l[j]:=by
 rcases zNp j i with c | c
 . exact (h.done j hj hj' c).1.is
 . exact (h.todo j hj hj' c).mono (by rw [h.hk0];exact h.bel)
theorem zAx.row (h:zAx w0 w K W B ao n cap l vs i):zDy w ao l/\Capd ao n cap:=by
 obtain ⟨a,c,h4,h5,h6,h7⟩:=h.own.row
 simp only [Value.slice.injEq] at h4
 obtain ⟨rfl,rfl,rfl⟩:=h4
 exact ⟨⟨vs,h.vlen,h5,fun j a b=>⟨(h.num j a b).1,(h.num j a b).2,h.ten j a b⟩⟩,⟨h6,h7⟩⟩
theorem zAx.put (h:zAx w0 w K W B ao n cap l vs i) (j:Nat) (hj:j<vs.length) (hj':j<l.length) (hji:j<i) {t':TenV} (hkt:t'.key=l[j].key/\t'.quota=l[j].quota) {g:Nat} (hg:vs[j].ao=some ⟨g,0,none⟩)
 (hk:Kept (fun b=>b=g) w w2) (ht:TenOwn w2 W B vs[j].ao vs[j].n vs[j].cap t'):zAx w0 w2 K W B ao n cap (l.set j t') vs i:=by
 have hB:=(h.done j hj hj' hji).2 g hg
 have hkb:Kept B w w2:=⟨hk.os,hk.tape,hk.output,hk.size,fun b hl hb=>hk.block b hl fun e=>hb (by rw [e];exact hB.1)⟩
 have hW:W<=g:=by
  have h1:=(h.done j hj hj' hji).1
  obtain ⟨us,-,h2,-⟩:=h1
  rw [hg] at h2
  exact h2.ge.1
 have hbe:Below K w w2:=hk.below h.kle fun b hb e=>by have e:b=g:=e;have:=h.kw;omega
 refine ⟨h.hk0,h.bel.trans hbe,h.kw,by rw [zMK];exact h.vlen,h.own.other fun q hq hl=>hk.block q hl fun e=>hB.2 (by rw [hq,e]),h.blk,fun m a b=>?_,fun m a b c=>?_,fun m a b c=>?_,h.apart⟩
 . have b':m<l.length:=by simpa using b
   rw [zMP]
   split
   . rename_i e;subst e;exact ⟨(h.num j a b').1.trans hkt.1.symm,(h.num j a b').2.trans hkt.2.symm⟩
   . exact h.num m a b'
 . have b':m<l.length:=by simpa using b
   refine ⟨?_,(h.done m a b' c).2⟩
   rw [zMP]
   split
   . rename_i e;subst e;exact ht
   . rename_i e
     exact (h.done m a b' c).1.step hkb (fun q hq hl=>hk.block q hl fun e2=>h.apart j m hj a hji c e g hg (by rw [hq,e2])) fun _ _ h=>h
 . have b':m<l.length:=by simpa using b
   rw [zMP,if_neg (by omega)]
   exact h.todo m a b' c
theorem zAx.next {w4:World} {tb n4 c4:Nat} {a4:Option Addr} (h:zAx w0 w K W B (some ⟨tb,0,none⟩) n cap l vs i) (hi:i<vs.length) (hi':i<l.length) (hb:Below w.heap.size w w4) (hW:W<=w.heap.size) (ht:TenOwn w4 w.heap.size (fun b=>B b\/w.heap.size<=b/\a4=some ⟨b,0,none⟩) a4 n4 c4 l[i])  :
 zAx w0 (w4.setCell ⟨tb,i*3+2,none⟩ (.slice a4 n4 c4)) K W (fun b=>B b\/w.heap.size<=b/\a4=some ⟨b,0,none⟩) (some ⟨tb,0,none⟩) n cap l (vs.set i ⟨vs[i].key,vs[i].quota,a4,n4,c4⟩) (i+1):=by
 have h4:=h.mono hb
 have htb:=h.own.ge
 have hBt:=h.blk tb rfl
 have hkeep:∀ b,b≠tb->(w4.setCell ⟨tb,i*3+2,none⟩ (.slice a4 n4 c4)).heap[b]?=w4.heap[b]?:=fun b hb=>zMu _ _ _ _ hb
 have hkB:Kept B w (w4.setCell ⟨tb,i*3+2,none⟩ (.slice a4 n4 c4)):=(Kept.of hb).set (.inr hBt) _
 have hg4:∀ g,a4=some ⟨g,0,none⟩->w.heap.size<=g:=fun g hg=>by
  obtain ⟨us,-,h2,-⟩:=ht
  rw [hg] at h2
  exact h2.ge.1
 have hold:∀ j (h:j<vs.length) (h':j<l.length),j<i->∀ g,vs[j].ao=some ⟨g,0,none⟩->g<w.heap.size:=fun j a b c g hg=>by
  obtain ⟨us,-,h2,-⟩:=(h.done j a b c).1
  rw [hg] at h2
  exact h2.ge.2
 refine ⟨h.hk0,(h.bel.trans (hb.mono h.kle)).setCell (zMN h.kw htb.1) _,h.kw,by rw [zMK];exact h.vlen,h4.own.setCell (K:=tnvK) i 2 (.slice a4 n4 c4) _ hi (by decide) rfl,fun g hg=>.inl (h.blk g hg),fun j a b=>?_,fun j a b c=>?_,fun j a b c=>?_,fun j j' a b c d e g hg hg2=>?_⟩
 . have a':j<vs.length:=by simpa using a
   rw [zMP]
   split
   . rename_i e;subst e;exact h.num i hi b
   . exact h.num j a' b
 . have a':j<vs.length:=by simpa using a
   rw [zMP]
   split
   . rename_i e
     subst e
     refine ⟨?_,fun g hg=>⟨.inr ⟨hg4 g hg,hg⟩,fun e=>?_⟩⟩
     . have h1:=ht.step (w2:=w4.setCell ⟨tb,i*3+2,none⟩ (.slice a4 n4 c4)) (B2:=fun b=>B b\/w.heap.size<=b/\a4=some ⟨b,0,none⟩) ((Kept.refl _ _).set (.inr (.inl hBt)) _) (fun g hg _=>hkeep g fun e=>by have:=hg4 g hg;omega) fun _ _ h=>h
       obtain ⟨us,k1,k2,k3⟩:=h1
       exact ⟨us,k1,k2.weaken hW,k3⟩
     . simp only [zMz,zME,and_true] at e
       have:=hg4 g hg
       omega
   . rename_i e
     have c':j<i:=by omega
     obtain ⟨d1,d2⟩:=h.done j a' b c'
     refine ⟨d1.step hkB (fun g hg hl=>(hkeep g fun e2=>(d2 g hg).2 (by rw [e2])).trans (hb.block g hl)) fun q hq h3=>h3.elim id fun h3=>absurd h3.1 (by omega),fun g hg=>⟨.inl (d2 g hg).1,(d2 g hg).2⟩⟩
 . have a':j<vs.length:=by simpa using a
   rw [zMP,if_neg (by omega)]
   exact h.todo j a' b (by omega)
 . have a':j<vs.length:=by simpa using a
   have b':j'<vs.length:=by simpa using b
   have al:j<l.length:=by rw [<- h.vlen];exact a'
   have bl:j'<l.length:=by rw [<- h.vlen];exact b'
   rw [zMP] at hg hg2
   split at hg
   . rename_i e1
     rw [if_neg (by omega)] at hg2
     have:=hg4 g hg
     have:=hold j' b' bl (by omega) g hg2
     omega
   . rename_i e1
     split at hg2
     . have:=hg4 g hg2
       have:=hold j a' al (by omega) g hg
       omega
     . exact h.apart j j' a' b' (by omega) (by omega) e g hg hg2
theorem zAx.off1 {p:Nat} (h:zAx w0 w K W B ao n cap l vs i) (hp:p<W) (hKp:K<=p) (hB:B p) (hk:Kept (fun b=>b=p) w w2):zAx w0 w2 K W B ao n cap l vs i:=by
 have hkB:Kept B w w2:=⟨hk.os,hk.tape,hk.output,hk.size,fun b hl hb=>hk.block b hl fun e=>hb (by rw [e];exact hB)⟩
 refine ⟨h.hk0,h.bel.trans (hk.below h.kle fun b hb e=>by have e:b=p:=e;omega),h.kw,h.vlen,h.own.other fun q hq hl=>hk.block q hl fun e=>?_,h.blk,h.num,fun j a b c=>⟨(h.done j a b c).1.step hkB (fun q hq hl=>hk.block q hl fun e=>?_) fun _ _ h=>h,(h.done j a b c).2⟩,h.todo,h.apart⟩
 . have h1:=h.own
   rw [hq] at h1
   have:=h1.ge.1
   have e:q=p:=e
   omega
 . obtain ⟨us,-,h1,-⟩:=(h.done j a b c).1
   rw [hq] at h1
   have:=h1.ge.1
   have e:q=p:=e
   omega
end
end Go.Proofs.YtfmgdjgedhnmeaaGreat

namespace Go.Proofs.YtfmgdjgedhnmeaaGreat
open Go.RowKit
set_option linter.unusedVariables false
set_option linter.unusedSimpArgs false
def FromRow (g K:Nat) (k:IntKind) (w:World) (ao:Option Addr) (xs:List Int):Prop:=
 xs=[]\/∃ b o,ao=some ⟨b,o,none⟩/\b≠g/\K<=b/\∀ i (h:i<xs.length),w.cell? ⟨b,o+i,none⟩=some (.int k xs[i])
def SlF (g K:Nat) (k:IntKind) (w:World) (v:Value) (xs:List Int):Prop:=∃ ao cap,v=.slice ao xs.length cap/\FromRow g K k w ao xs/\Capd ao xs.length cap
theorem SlF.keep {g K:Nat} {k:IntKind} {w w':World} {v:Value} {xs:List Int} (h:SlF g K k w v xs) (hk:∀ b,b≠g->K<=b->b<w.heap.size->w'.heap[b]?=w.heap[b]?):SlF g K k w' v xs:=by
 obtain ⟨ao,cap,hv,hr,hc⟩:=h
 refine ⟨ao,cap,hv,?_,hc⟩
 rcases hr with rfl | ⟨b,o,rfl,hb,hK,h⟩
 . exact .inl rfl
 . refine .inr ⟨b,o,rfl,hb,hK,fun i hi=>?_⟩
   have hc:=h i hi
   rw [zMB (w:=w) (hk b hb hK (zMx _ _ hc))]
   exact hc
theorem SlF.sl {g K:Nat} {k:IntKind} {w:World} {v:Value} {xs:List Int} (h:SlF g K k w v xs):Sl k w v xs:=by
 obtain ⟨ao,cap,hv,hr,hc⟩:=h
 refine ⟨ao,cap,hv,?_,hc⟩
 rcases hr with rfl | ⟨b,o,rfl,_,_,h⟩
 . exact .inl rfl
 . exact .inr ⟨b,o,rfl,h⟩
theorem Own.slf {k:IntKind} {e base g K:Nat} {w:World} {v:Value} {xs:List Int} (h:Own k e base w v xs) (hg:g<base) (hK:K<=base):SlF g K k w v xs:=by
 rcases h.block with ⟨rfl,rfl⟩ | ⟨b,cap,cur,rfl,hb,hh,hn,hc,hs,ht⟩
 . exact ⟨none,0,rfl,.inl rfl,zMs _,fun _=>rfl⟩
 . exact ⟨_,cap,rfl,.inr ⟨b,0,rfl,by omega,by omega,fun i hi=>by rw [zML];exact h.cell i hi⟩,hn,fun h=>by cases h⟩
structure FromB (w:World) (g o K:Nat) (x:Blk):Prop where
 kids:∃ v,w.cell? ⟨g,o+2,none⟩=some v/\SlF g K .i64 w v x.kids
 bytes:∃ v,w.cell? ⟨g,o+3,none⟩=some v/\SlF g K .u8 w v x.bytes
def FromK (w:World) (K:Nat) (ao:Option Addr) (s:List Blk) (k:Nat):Prop:=∀ g,ao=some ⟨g,0,none⟩->∀ i (h:i<s.length),i<k->FromB w g (i*4) K s[i]
theorem FromK.step {wr w5:World} {K g k:Nat} {s:List Blk} (h:FromK wr K (some ⟨g,0,none⟩) s k) (hk:k<s.length) (hb:∀ b,b<wr.heap.size->w5.heap[b]?=wr.heap[b]?) (hg:g<wr.heap.size) {u1 u2 v2 v3:Value} (g1:w5.cell? ⟨g,k*4+2,none⟩=some u1) (g2:w5.cell? ⟨g,k*4+3,none⟩=some u2)
 (sk:SlF g K .i64 w5 v2 s[k].kids) (sb:SlF g K .u8 w5 v3 s[k].bytes):FromK ((w5.setCell ⟨g,k*4+2,none⟩ v2).setCell ⟨g,k*4+3,none⟩ v3) K (some ⟨g,0,none⟩) s (k+1):=by
 intro g' hg' i hi hik
 simp only [zMz,zME,and_true] at hg'
 subst hg'
 have hkeep:∀ b,b≠g->((w5.setCell ⟨g,k*4+2,none⟩ v2).setCell ⟨g,k*4+3,none⟩ v3).heap[b]?=w5.heap[b]?:=fun b hb=>(zMu _ _ _ _ hb).trans (zMu _ _ _ _ hb)
 by_cases e:i=k
 . subst e
   refine ⟨⟨v2,?_,sk.keep fun b hb _ _=>hkeep b hb⟩,⟨v3,?_,sb.keep fun b hb _ _=>hkeep b hb⟩⟩
   . rw [zAf (by omega)]
     exact zMQ _ _ _ g1
   . exact zMQ _ _ _ ((zAf (by omega)).trans g2)
 . obtain ⟨⟨v,c1,c2⟩,⟨u,c3,c4⟩⟩:=h g rfl i hi (by omega)
   have hc:∀ j,w5.cell? ⟨g,j,none⟩=wr.cell? ⟨g,j,none⟩:=fun j=>zMB (w:=wr) (hb g hg)
   refine ⟨⟨v,?_,c2.keep fun b hb2 _ hl=>(hkeep b hb2).trans (hb b hl)⟩,⟨u,?_,c4.keep fun b hb2 _ hl=>(hkeep b hb2).trans (hb b hl)⟩⟩
   . rw [zAf (by omega),zAf (by omega),hc];exact c1
   . rw [zAf (by omega),zAf (by omega),hc];exact c3
theorem FromK.off {w:World} {K n cap m:Nat} {ao:Option Addr} {s:List Blk} (h:FromK w K ao s m) (hm:m=s.length) (ho:OwnSto w K (.slice ao n cap) s) {bad:Nat->Prop} (hb:∀ b,bad b->b<K):Hangs bad w fun w=>StoRow w ao s:=fun w' hk=>by
 subst hm
 have hkeep:∀ b,K<=b->b<w.heap.size->w'.heap[b]?=w.heap[b]?:=fun b hK hl=>hk.block b hl fun h=>Nat.lt_irrefl _ (zMw (hb b h) hK)
 obtain ⟨ao',cap',e1,-,h0⟩:=ho
 simp only [Value.slice.injEq] at e1
 obtain ⟨rfl,-,-⟩:=e1
 rcases h0 with rfl | ⟨g,rfl,hR⟩
 . exact .inl rfl
 . refine .inr ⟨g,0,rfl,fun i hi=>?_⟩
   have hc:∀ j,w'.cell? ⟨g,j,none⟩=w.cell? ⟨g,j,none⟩:=fun j=>zMB (w:=w) (hkeep g hR.le hR.lt)
   have hB:=hR.blks i hi
   obtain ⟨⟨v,c1,c2⟩,⟨u,c3,c4⟩⟩:=h g rfl i hi hi
   rw [zML]
   exact ⟨(hc _).trans hB.refs,(hc _).trans hB.level,⟨v,(hc _).trans c1,(c2.keep fun b _ hK hl=>hkeep b hK hl).sl⟩,⟨u,(hc _).trans c3,(c4.keep fun b _ hK hl=>hkeep b hK hl).sl⟩⟩
theorem FromK.box {w:World} {K k p j:Nat} {ao:Option Addr} {s:List Blk} (h:FromK w K ao s k) (hp:p<K) (hg:∀ g,ao=some ⟨g,0,none⟩->g≠p) (v:Value):FromK (w.setCell ⟨p,j,none⟩ v) K ao s k:=fun g hg1 i hi hik=>by
 obtain ⟨⟨x,c1,c2⟩,⟨u,c3,c4⟩⟩:=h g hg1 i hi hik
 have hne:=hg g hg1
 have hc:∀ m,(w.setCell ⟨p,j,none⟩ v).cell? ⟨g,m,none⟩=w.cell? ⟨g,m,none⟩:=fun m=>zNe _ _ _ _ (by intro e;simp only [zME] at e;omega)
 exact ⟨⟨x,(hc _).trans c1,c2.keep fun b _ hK _=>zMu _ _ _ _ (fun e=>by have e:b=p:=e;omega)⟩,⟨u,(hc _).trans c3,c4.keep fun b _ hK _=>zMu _ _ _ _ (fun e=>by have e:b=p:=e;omega)⟩⟩
set_option maxRecDepth 100000 in
set_option maxHeartbeats 1000000 in
theorem zMq (w:World) (ao:Option Addr) (n cap:Nat) (s:List Blk) (hn:s.length=n) (hs:StoRow w ao s) (hwf:WfS s) (hc:Capd ao n cap) (hl:n<=2199023255552) :
 Calls Tryz.prog 27 #[.agg #[.slice ao n cap]] w fun e w'=>∃ ao' cap',e=.returned (.agg #[.slice ao' n cap'])/\OwnSto w' w.heap.size (.slice ao' n cap') s/\(∀ bad:Nat->Prop,(∀ b,bad b->b<w.heap.size)->Hangs bad w' fun w=>StoRow w ao' s)/\Below w.heap.size w w':=by
 have HN:=lH hn
 have HC:=lH hc
 have HL:=lH hl
 have hb0:Below w.heap.size w ((w.alloc (.cells #[.slice ao n cap] 24)).alloc (.cells #[.slice none 0 0] 24)):=((zMy _ _).alloc (zMs _) _).alloc (by simp) _
 have h1:((w.alloc (.cells #[.slice ao n cap] 24)).alloc (.cells #[.slice none 0 0] 24)).heap[w.heap.size]?=some (.cells #[.slice ao n cap] 24 (0,0)):=heap_alloc2_old _ _ _
 have h2:((w.alloc (.cells #[.slice ao n cap] 24)).alloc (.cells #[.slice none 0 0] 24)).heap[w.heap.size+1]?=some (.cells #[.slice none 0 0] 24 (0,0)):=heap_alloc2_new _ _ _
 have hz:((w.alloc (.cells #[.slice ao n cap] 24)).alloc (.cells #[.slice none 0 0] 24)).heap.size=w.heap.size+2:=by simp
 have HZ:=lH hz
 clear hn hc hl hz
 go_enter Tryz.func27,Tryz.ntmps27
 go_wp2_with fail
 generalize (w.alloc (.cells #[.slice ao n cap] 24)).alloc (.cells #[.slice none 0 0] 24)=W0 at *
 refine (zED _ _ _ _ s HN.out (hs.mono hb0) HC.out HL.out).mono ?_
 rintro e w1 ⟨v,rfl,ho1,hb1⟩
 have p1:w1.heap[w.heap.size]?=some (.cells #[.slice ao n cap] 24 (0,0)):=Zm hb1 h1
 have p2:w1.heap[w.heap.size+1]?=some (.cells #[.slice none 0 0] 24 (0,0)):=Zm hb1 h2
 have ho2:=ho1.box p1 (zAb h1) v
 have q1:=one_setCell (u:=v) p1
 have q2:(w1.setCell ⟨w.heap.size,0,none⟩ v).heap[w.heap.size+1]?=some (.cells #[.slice none 0 0] 24 (0,0)):=zAh p2 (by simp)
 have hbz:Below w.heap.size w (w1.setCell ⟨w.heap.size,0,none⟩ v):=(zAd hb0 hb1).setCell (zMs _) _
 have c1:=cell_of_one p1
 have f1:=free_of_one p1
 obtain ⟨a1,cap1,hv1,hc1,hr1⟩:=ho1.sto
 rw [HN.out] at hv1 hc1
 subst hv1
 have c2:(w1.setCell ⟨w.heap.size,0,none⟩ (.slice a1 n cap1)).cell? ⟨w.heap.size,0,none⟩=some (.slice a1 n cap1):=zMQ _ _ _ c1
 clear ho1 p1 p2 h1 h2 hr1 hb1
 go_wp2
 generalize w1.setCell ⟨w.heap.size,0,none⟩ (.slice a1 n cap1)=W2 at *
 have HW:=lH (show W0.heap.size<=W2.heap.size from by have:=zAb q2;have:=HZ.out;omega)
 clear c1 f1 c2
 go_loopw [12] (fun i wr=>∃ k:Nat,k<=n/\i=.int .i64 k/\OwnSto wr W0.heap.size (.slice a1 n cap1) s/\Hid (FromK wr W0.heap.size a1 s k)/\wr.heap[w.heap.size]?=some (.cells #[.slice a1 n cap1] 24 (0,0))/\
  wr.heap[w.heap.size+1]?=some (.cells #[.slice none 0 0] 24 (0,0))/\Below w.heap.size w wr) (fun i _=>n - (intOf i).toNat)
 case atStart=>exact ⟨0,zMO _,rfl,ho2,lH (fun g _ i _ h=>absurd h (by omega)),q1,q2,hbz⟩
 case round=>
  clear ho2 q1 q2 hbz HW
  obtain ⟨k,hkn,rfl,ho,HF,q1,q2,hbz⟩:=hrel
  have c1:=cell_of_one q1
  have l1:=zAb q1
  have l2:=zAb q2
  have c2:=cell_of_one q2
  have f2:=free_of_one q2
  by_cases hlt:k<n
  . have hks:k<s.length:=by have:=HN.out;omega
    obtain ⟨g,cap',hv,hR⟩:=ho.at k hks
    rw [HN.out] at hv
    simp only [Value.slice.injEq,true_and] at hv
    obtain ⟨rfl,rfl⟩:=hv
    have hB:=hR.blks k hks
    have c3:=hB.refs
    have c4:=hB.level
    obtain ⟨v2,c5,kao,kcap,rfl,hrow,hcd⟩:=hB.kids
    obtain ⟨v3,c6,bao,bcap,rfl,hrow3,hcd3⟩:=hB.bytes
    have lg:=hR.lt
    have hba:=bA0 wr (.cells #[.int .i64 s[k].refs,.int .i64 s[k].level,.slice kao s[k].kids.length kcap,.slice bao s[k].bytes.length bcap] 99)
    have b1:(wr.alloc (.cells #[.int .i64 s[k].refs,.int .i64 s[k].level,.slice kao s[k].kids.length kcap,.slice bao s[k].bytes.length bcap] 99)).cell? ⟨wr.heap.size,2,none⟩=some (.slice kao s[k].kids.length kcap):=by simp
    have b2:(wr.alloc (.cells #[.int .i64 s[k].refs,.int .i64 s[k].level,.slice kao s[k].kids.length kcap,.slice bao s[k].bytes.length bcap] 99)).cell? ⟨wr.heap.size,3,none⟩=some (.slice bao s[k].bytes.length bcap):=by simp
    have b3:=(bcell hba).1 w.heap.size 0 l1
    rw [c1] at b3
    have b5:=Zc hba lg c5
    have b6:=Zc hba lg c6
    have bf:∀ j,(wr.alloc (.cells #[.int .i64 s[k].refs,.int .i64 s[k].level,.slice kao s[k].kids.length kcap,.slice bao s[k].bytes.length bcap] 99)).frozen? ⟨g,j,none⟩=false:=fun j=>((bcell hba).2 _ _ lg).trans (hR.free j)
    have hR2:=hR.mono hba
    have hrow2:=hrow.row.mono hba
    have hrow32:=hrow3.row.mono hba
    have lz:wr.heap.size<(wr.alloc (.cells #[.int .i64 s[k].refs,.int .i64 s[k].level,.slice kao s[k].kids.length kcap,.slice bao s[k].bytes.length bcap] 99)).heap.size:=by simp
    clear hB
    go_wp2_with fail
    generalize wr.alloc (.cells #[Value.int .i64 s[k].refs,Value.int .i64 s[k].level,.slice kao s[k].kids.length kcap,.slice bao s[k].bytes.length bcap] 99)=W3 at *
    have hw:=hwf.at k hks
    have HWK:=lH hw
    have hi1:(0:Int)<=k:=by omega
    have hi2:(k:Int)<n:=by omega
    clear hw c1 c2 f2 c3 c4 c5 c6
    have l13:w.heap.size<W3.heap.size:=by omega
    have lg3:g<W3.heap.size:=hR2.lt
    have hne1:w.heap.size≠g:=by have:=hR.le;have:=HZ.out;omega
    have hne2:wr.heap.size≠g:=by omega
    go_region_held3 (fun w'=>w'.cell? ⟨w.heap.size,0,none⟩=some (.slice (some ⟨g,0,none⟩) n cap1)/\w'.cell? ⟨wr.heap.size,2,none⟩=some (.slice kao s[k].kids.length kcap)/\w'.cell? ⟨wr.heap.size,3,none⟩=some (.slice bao s[k].bytes.length bcap)) (first
     | exact ⟨b3,b1,b2⟩
     | exact ⟨e1,e2,e3⟩
     | exact ⟨e4,e5,e6⟩
     | (refine ⟨?_,?_,?_⟩<;>(rw [zNe _ _ _ _ (by intro h;simp only [zME] at h;omega)];first | exact e4 | exact e5 | exact e6 | (rw [zNe _ _ _ _ (by intro h;simp only [zME] at h;omega)];first | exact e4 | exact e5 | exact e6))))
     (first
     | (go_at_call 50;refine (zD2 _ _ _ s[k].kids _ rfl (by exact hrow2) hcd.2 HWK.out.klen).mono ?_;rintro e w4 ⟨v4,rfl,hown4,-,hb4⟩;obtain ⟨a4,k4,rfl,-,-,-,-⟩:=hown4.shape';have e1:=Zc hb4 l13 b3;have e2:=Zc hb4 lz b1;have e3:=Zc hb4 lz b2;have z4:=hb4.size)
     | (go_at_call 51;refine (zAE _ _ _ s[k].bytes _ rfl (by exact Row.mono (w:=W3.drew) hrow32 hb4) hcd3.2 (by have:=HWK.out.blen;omega)).mono ?_;rintro e w5 ⟨v5,rfl,hown5,-,hb5⟩;obtain ⟨a5,k5,rfl,-,-,-,-⟩:=hown5.shape';have e4:=((bcell hb5).1 _ _ (zMw l13 z4)).trans e1;have e5:=((bcell hb5).1 _ _ (zMw lz z4)).trans e2;have e6:=((bcell hb5).1 _ _ (zMw lz z4)).trans e3;have lg5:=zMw lg3 z4;have g1:=((bcell hb5).1 _ _ lg5).trans (Zc hb4 lg3 b5);have g2:=((bcell hb5).1 _ _ lg5).trans (Zc hb4 lg3 b6);have g3:=fun j=>((bcell hb5).2 g j lg5).trans (((bcell hb4).2 g j lg3).trans (bf j));have z5:=hb5.size))
    have hb34:Below W3.heap.size W3 w4:=zBL hb4
    have z34:W3.heap.size<=w4.heap.size:=hb34.size
    have z45:=hb5.size
    have hnn:(n:Int)<=2199023255552:=by have:=HL.out;omega
    have hR5:=(hR2.mono hb34).mono hb5
    have sk:=(hown4.slx lg3).keep (w':=w5) (fun b _ hlt=>hb5.block b hlt)
    have hR6:=hR5.setKids k hks _ sk
    have sb:=(hown5.slx lg5).keep (w':=w5.setCell ⟨g,k*4+2,none⟩ (.slice a4 s[k].kids.length k4)) (fun b hb _=>zMu _ _ _ _ hb)
    have hR7:=hR6.setBytes k hks _ sb
    have hq:∀ b,b<wr.heap.size->b≠g->((w5.setCell ⟨g,k*4+2,none⟩ (.slice a4 s[k].kids.length k4)).setCell ⟨g,k*4+3,none⟩ (.slice a5 s[k].bytes.length k5)).heap[b]?=wr.heap[b]?:=by
     intro b hlt hb
     have z3:=hba.size
     rw [zMu _ _ _ _ hb,zMu _ _ _ _ hb,hb5.block b (by omega),hb34.block b (by omega),hba.block b hlt]
    have hbf:Below w.heap.size w ((w5.setCell ⟨g,k*4+2,none⟩ (.slice a4 s[k].kids.length k4)).setCell ⟨g,k*4+3,none⟩ (.slice a5 s[k].bytes.length k5)):=
     ((hbz.trans ((hba.mono hbz.size).trans ((hb34.mono (by have:=hbz.size;have:=hba.size;omega)).trans (hb5.mono (by have:=hbz.size;have:=hba.size;omega))))).setCell (by have:=hR.le;have:=HZ.out;show w.heap.size<=g;omega) _).setCell (by have:=hR.le;have:=HZ.out;show w.heap.size<=g;omega) _
    have hcn:=hc1.1
    have HF2:Hid (FromK ((w5.setCell ⟨g,k*4+2,none⟩ (.slice a4 s[k].kids.length k4)).setCell ⟨g,k*4+3,none⟩ (.slice a5 s[k].bytes.length k5)) W0.heap.size (some ⟨g,0,none⟩) s (k+1)):=lH (by
     have z3:=hba.size
     have zW:W0.heap.size<=W3.heap.size:=by have:=hR.le;have:=hR.lt;omega
     exact HF.out.step hks (fun b hl=>by rw [hb5.block b (by omega),hb34.block b (by omega),hba.block b hl]) hR.lt g1 g2 ((hown4.slf lg3 zW).keep fun b _ _ hl=>hb5.block b hl) (hown5.slf lg5 (by omega)))
    have HQ1:=lH ((hq _ l1 hne1).trans q1)
    have HQ2:=lH ((hq _ l2 (by have:=hR.le;have:=HZ.out;omega)).trans q2)
    clear g1 g2 g3 e1 e2 e3 e4 e5 e6 b1 b2 b3 b5 b6 bf sk sb hown4 hown5 hq q1 q2
    go_wp2
    go_roundw
    case rel=>exact ⟨k+1,by omega,by go_num,hR7.own HN.out hcn,HF2,HQ1.out,HQ2.out,hbf⟩
    case measure=>simp [intOf];omega
  . obtain rfl:k=n:=by omega
    have hgp:∀ g,a1=some ⟨g,0,none⟩->s≠[]->g≠w.heap.size+1:=fun g hg hs0 e=>by
     have:=HZ.out
     have h3:=ho.own_at hs0 hg
     have:=h3.le
     omega
    have HO:=lH (ho.box (pb:=w.heap.size+1) q2 (by have:=HZ.out;omega) (.slice a1 k cap1))
    have HFF:Hid (∀ bad:Nat->Prop,(∀ b,bad b->b<w.heap.size)->Hangs bad (wr.setCell ⟨w.heap.size+1,0,none⟩ (.slice a1 k cap1)) fun w=>StoRow w a1 s):=lH (fun bad hbad=>by
     have hz:=HZ.out
     have hl:=HN.out
     by_cases hs0:s=[]
     . exact fun w' _=>.inl hs0
     . have h4:=HF.out.box (p:=w.heap.size+1) (j:=0) (by omega) (fun g hg=>hgp g hg hs0) (.slice a1 k cap1)
       exact h4.off hl.symm HO.out fun b hb=>by have:=hbad b hb;omega)
    go_wp2
    refine bodyPost_ret (v:=.agg #[.slice a1 k cap1]) (by simp [results,Tryz.results27,go_sem,c2]) rfl ⟨_,_,rfl,?_,HFF.out,?_⟩
    . exact HO.out.weaken (by have:=HZ.out;omega)
    . exact hbz.setCell (by simp) _
end Go.Proofs.YtfmgdjgedhnmeaaGreat

namespace Go.Proofs.YtfmgdjgedhnmeaaGreat
open Go.RowKit
set_option linter.unusedVariables false
set_option linter.unusedSimpArgs false
def zKO (w0 w w':World) (K:Nat) (so:Option Addr) (sn sc:Nat) (ao:Option Addr) (n cap:Nat) (p:PoolV):Prop:=
 ∃ W B vs,w.heap.size<=W/\p.s.length=sn/\Capd so sn sc/\Hangs B w' (fun w=>StoRow w so p.s)/\zAx w0 w' K W B ao n cap p.tens vs p.tens.length/\(∀ b,K<=b->b<w.heap.size->B b)/\Below w.heap.size w w'/\∀ g o,so=some ⟨g,o,none⟩->p.s≠[]->w.heap.size<=g
structure zFH (w0 wr:World) (K W B0:Nat) (B:Nat->Prop) (so:Option Addr) (sn sc:Nat) (ao:Option Addr) (n cap:Nat) (p:PoolV) (vs:List Tnv) (i:Nat):Prop where
 sto:Hangs B wr fun w=>StoRow w so p.s
 ten:zAx w0 wr K W B ao n cap p.tens vs i
 bad:∀ b,K<=b->b<B0+2->B b
 hW:B0+2=W
 low:∀ b,B b->K<=b
 high:∀ b,B b->b<wr.heap.size
set_option maxRecDepth 100000 in
set_option maxHeartbeats 4000000 in
theorem zEF (w0 w:World) (K:Nat) (so ao:Option Addr) (sn sc n cap:Nat) (p:PoolV) (hK0:w0.heap.size=K) (hw0:Below K w0 w) (hp:zAG w0 so sn sc ao n cap p) (hwf:WfS p.s) (hsn:sn<=2199023255552) (hn:n<=1000) (hsm:∀ t∈p.tens,t.sets.length<=3/\∀ x∈t.sets,zCM x) :
 Calls Tryz.prog 10 #[.agg #[.slice so sn sc,.slice ao n cap]] w fun e w'=>∃ so' sc' ao' cap',e=.returned (.agg #[.slice so' sn sc',.slice ao' n cap'])/\zKO w0 w w' K so' sn sc' ao' n cap' p:=by
 have hK:K<=w.heap.size:=by rw [<- hK0];exact hw0.size
 have hp0:=hp.mono (hK0▸hw0:Below w0.heap.size w0 w)
 have HW0:=lH hw0
 have HK0:=lH hK0
 have HSM:=lH hsm
 obtain ⟨vs,hvl,hvr,hvi⟩:=hp.row
 have hb0:Below w.heap.size w ((w.alloc (.cells #[.slice so sn sc,.slice ao n cap] 27)).alloc (.cells #[.slice none 0 0,.slice none 0 0] 27)):=((zMy _ _).alloc (zMs _) _).alloc (by simp) _
 have p0:((w.alloc (.cells #[.slice so sn sc,.slice ao n cap] 27)).alloc (.cells #[.slice none 0 0,.slice none 0 0] 27)).heap[w.heap.size]?=some (.cells #[.slice so sn sc,.slice ao n cap] 27 (0,0)):=heap_alloc2_old _ _ _
 have p1:((w.alloc (.cells #[.slice so sn sc,.slice ao n cap] 27)).alloc (.cells #[.slice none 0 0,.slice none 0 0] 27)).heap[w.heap.size+1]?=some (.cells #[.slice none 0 0,.slice none 0 0] 27 (0,0)):=heap_alloc2_new _ _ _
 have hz:((w.alloc (.cells #[.slice so sn sc,.slice ao n cap] 27)).alloc (.cells #[.slice none 0 0,.slice none 0 0] 27)).heap.size=w.heap.size+2:=by simp
 have HZ:=lH hz
 have HSL:=lH hp0.slen
 have HSC:=lH hp0.scap
 have HSR:=lH hp0.srow
 have HAC:=lH hp0.cap
 have HVL:Hid (vs.length=n):=lH (hvl.trans hp0.len)
 have HLN:=lH hp0.len
 have HVR:=lH (hvr.mono (hK0▸hw0:Below w0.heap.size w0 w))
 have HVI:=lH hvi
 have HK:=lH hK
 have HWF:=lH hwf
 clear hp hp0 hsm hvl hvr hvi hz hK hwf hw0 hK0
 go_enter Tryz.func10,Tryz.ntmps10
 have e1:=zAa p0 0
 have e2:=zAa p0 1
 simp at e1 e2
 go_wp2_with fail
 generalize (w.alloc (.cells #[.slice so sn sc,.slice ao n cap] 27)).alloc (.cells #[.slice none 0 0,.slice none 0 0] 27)=W0 at *
 refine (zMq _ _ _ _ p.s HSL.out (HSR.out.mono hb0) HWF.out HSC.out hsn).mono ?_
 rintro e w1 ⟨so1,sc1,rfl,ho1,hoff1,hb1⟩
 have hcs1:Capd so1 sn sc1:=by
  obtain ⟨a,c,h1,h2,-⟩:=ho1
  simp only [Value.slice.injEq] at h1
  obtain ⟨rfl,h3,rfl⟩:=h1
  rw [<- h3] at h2
  exact h2
 have q0:(w1.setCell ⟨w.heap.size,0,none⟩ (.slice so1 sn sc1)).heap[w.heap.size]?=_:=zAe (Zm hb1 p0) 0 (.slice so1 sn sc1)
 have q1:(w1.setCell ⟨w.heap.size,0,none⟩ (.slice so1 sn sc1)).heap[w.heap.size+1]?=_:=zAh (Zm hb1 p1) (by simp)
 simp only [zMS,zM7,zM9] at q0
 have r0:=Zm hb1 p0
 have d1:=zAa r0 0
 have d2:=zAa r0 1
 have df:=fun j=>zAc r0 j
 simp at d1 d2
 have hbw1:Below w.heap.size w (w1.setCell ⟨w.heap.size,0,none⟩ (.slice so1 sn sc1)):=(zAd hb0 hb1).setCell (zMs _) _
 have hz1:W0.heap.size<=w1.heap.size:=hb1.size
 have hz2:(w1.setCell ⟨w.heap.size,0,none⟩ (.slice so1 sn sc1)).heap.size=w1.heap.size:=by simp
 have HFA:Hid (∀ g o,so1=some ⟨g,o,none⟩->p.s≠[]->w.heap.size<=g):=lH (fun g o e h=>zMN (by have:=HZ.out;omega) (ho1.from_ g o e h))
 have HOF:Hid (Hangs (fun b=>K<=b/\b<w.heap.size+2) (w1.setCell ⟨w.heap.size,0,none⟩ (.slice so1 sn sc1)) fun w=>StoRow w so1 p.s):=lH ((hoff1 (fun b=>K<=b/\b<w.heap.size+2) fun b hb=>by have:=HZ.out;omega).step ((Kept.refl _ _).set (.inr ⟨HK.out,by omega⟩) _) fun _ _ h=>h)
 have HCS1:=lH hcs1
 clear ho1 hoff1 hb1 e1 e2 hcs1 r0 p0 p1
 have HZ1:=lH hz1
 have HZ2:=lH hz2
 clear hz1 hz2
 go_wp2_with fail
 generalize w1.setCell ⟨w.heap.size,0,none⟩ (.slice so1 sn sc1)=W2 at *
 refine (zJU _ _ _ _ vs HVL.out (HVR.out.mono hbw1) HAC.out (by omega)).mono ?_
 rintro e w3 ⟨v3,rfl,ho3,hb3⟩
 obtain ⟨a3,c3,rfl,-,-,-⟩:=ho3.row
 rw [HVL.out] at ho3 ⊢
 have p0:=Zm hb3 q0
 have p1:=Zm hb3 q1
 have d1:=zAa p0 0
 have d2:=zAa p0 1
 have df:=fun j=>zAc p0 j
 simp at d1 d2
 have HM0:Hid (zFH w0 (w3.setCell ⟨w.heap.size,1,none⟩ (.slice a3 n c3)) K (w.heap.size+2) w.heap.size (fun b=>(K<=b/\b<w.heap.size+2)\/a3=some ⟨b,0,none⟩) so1 sn sc1 a3 n c3 p vs 0):=lH (by
  have hzz:=HZ.out
  have hz1:=HZ1.out
  have hz2:=HZ2.out
  have hkk:=HK.out
  have hb3':Below W2.heap.size W2 w3:=hb3
  have hg3:∀ g,a3=some ⟨g,0,none⟩->W2.heap.size<=g:=fun g hg=>by
   have h:=ho3
   rw [hg] at h
   exact h.ge.1
  have hkW:∀ bad:Nat->Prop,bad w.heap.size->Kept bad W2 (w3.setCell ⟨w.heap.size,1,none⟩ (.slice a3 n c3)):=fun bad hb=>(Kept.of hb3').set (.inr hb) _
  refine ⟨HOF.out.step (hkW _ ⟨hkk,by omega⟩) fun b hl hb=>?_,⟨HK0.out,(HW0.out.trans ((zAd hbw1 hb3).mono hkk)).setCell hkk _,by omega,HVL.out.trans HLN.out.symm,?_,fun g hg=>.inr hg,fun j h1 h2=>⟨(HVI.out j h1 h2).1,(HVI.out j h1 h2).2.1⟩,fun j _ _ h=>absurd h (by omega),fun j h1 h2 _=>?_,fun j _ _ _ h=>absurd h (by omega)⟩,fun b h1 h2=>.inl ⟨h1,h2⟩,rfl,fun b hb=>hb.elim (fun h=>h.1) fun h=>by have:=hg3 b h;omega,fun b hb=>?_⟩
  . rcases hb with hb | hb
    . exact hb
    . have:=hg3 b hb
      omega
  . refine (ho3.weaken (by omega)).other fun g hg _=>zMu _ _ _ _ fun e=>?_
    have e:g=w.heap.size:=e
    have:=hg3 g hg
    omega
  . exact (HVI.out j h1 h2).2.2
  . have hz3:(w3.setCell ⟨w.heap.size,1,none⟩ (.slice a3 n c3)).heap.size=w3.heap.size:=by simp
    have hs3:=hb3'.size
    rw [hz3]
    rcases hb with hb | hb
    . omega
    . have h:=ho3
      rw [hb] at h
      exact h.ge.2)
 have q0:(w3.setCell ⟨w.heap.size,1,none⟩ (.slice a3 n c3)).heap[w.heap.size]?=_:=zAe p0 1 (.slice a3 n c3)
 have q1:(w3.setCell ⟨w.heap.size,1,none⟩ (.slice a3 n c3)).heap[w.heap.size+1]?=_:=zAh p1 (by simp)
 simp only [zMS,zM7,zM9] at q0
 have hbw2:Below w.heap.size w (w3.setCell ⟨w.heap.size,1,none⟩ (.slice a3 n c3)):=(zAd hbw1 hb3).setCell (zMs _) _
 obtain ⟨B0,HB0⟩:∃ B0:Nat->Prop,Hid (B0=fun b=>(K<=b/\b<w.heap.size+2)\/a3=some ⟨b,0,none⟩):=⟨_,lH rfl⟩
 rw [<- HB0.out] at HM0
 clear ho3 hb3 hbw1 HOF HVR HSR HB0
 clear p0 p1
 have dd:=zAa q0 1
 simp at dd
 have hnn:(n:Int)<=1000:=by omega
 go_wp2_with fail
 clear dd d1 d2 df
 generalize w3.setCell ⟨w.heap.size,1,none⟩ (.slice a3 n c3)=W4 at *
 go_loopw [18] (fun i wr=>∃ k:Nat,k<=n/\i=.int .i64 k/\Hid (∃ B us,zFH w0 wr K (w.heap.size+2) w.heap.size B so1 sn sc1 a3 n c3 p us k)/\wr.heap[w.heap.size]?=some (.cells #[.slice so1 sn sc1,.slice a3 n c3] 27 (0,0))/\
  wr.heap[w.heap.size+1]?=some (.cells #[.slice none 0 0,.slice none 0 0] 27 (0,0))/\Below w.heap.size w wr) (fun i _=>n - (intOf i).toNat)
 case atStart=>exact ⟨0,zMO _,rfl,lH ⟨_,_,HM0.out⟩,q0,q1,hbw2⟩
 case round=>
  clear q0 q1 hbw2
  obtain ⟨k,hkn,rfl,HM,p0,p1,hbw⟩:=hrel
  have c1:=zAa p0 1
  have c0:=zAa p0 0
  simp at c1 c0
  have l0:=zAb p0
  have l1:=zAb p1
  by_cases hlt:k<n
  . have hlt':(k:Int)<n:=by omega
    obtain ⟨B,us,hM⟩:=HM.out
    have hkl:k<p.tens.length:=by have:=HLN.out;omega
    have hku:k<us.length:=by rw [hM.ten.vlen];exact hkl
    obtain ⟨tb,htb,htW,htl,htf,hE⟩:=hM.ten.at k hkl
    have hTI0:=hM.ten.todo k hku hkl (zMs _)
    have hbe0:Below w0.heap.size w0 wr:=by rw [HK0.out];exact hM.ten.bel
    obtain ⟨u,hu⟩:∃ u,us[k]=u:=⟨_,rfl⟩
    rw [hu] at hE hTI0
    obtain ⟨key,quota,oo,on,oc⟩:=u
    obtain ⟨t0,t1,t2⟩:=hE
    simp only at t0 t1 t2 hTI0
    have hs3:on<=3:=by have h1:=(HSM.out _ (zMr hkl)).1;have h2:=hTI0.len;omega
    obtain ⟨ss,hsl,hsr,hsi⟩:=hTI0.row
    obtain rfl:on=ss.length:=by rw [hsl];exact hTI0.len.symm
    have HOC:=lH hTI0.cap
    subst htb
    have HM2:=lH hM
    have HSI:=lH hsi
    have HSL2:=lH hsl
    have HSR2:=lH hsr
    have HBE:=lH hbe0
    have HHU:=lH hu
    have hba:=bA0 wr (.cells #[.int .i64 key,.int .i64 quota,.slice oo ss.length oc] 42)
    have b1:(wr.alloc (.cells #[.int .i64 key,.int .i64 quota,.slice oo ss.length oc] 42)).cell? ⟨wr.heap.size,2,none⟩=some (.slice oo ss.length oc):=by simp
    have b3:=((bcell hba).1 w.heap.size 1 l0).trans c1
    have bf:∀ j,(wr.alloc (.cells #[.int .i64 key,.int .i64 quota,.slice oo ss.length oc] 42)).frozen? ⟨tb,j,none⟩=false:=fun j=>Zf hba j htl (htf j)
    have b5:=Zc hba htl t2
    have hrow:=(hsr.mono hbe0).mono hba
    have lz:wr.heap.size<(wr.alloc (.cells #[.int .i64 key,.int .i64 quota,.slice oo ss.length oc] 42)).heap.size:=by simp
    clear hu hTI0 hsi hsr hM hbe0 htf hsl
    go_wp2_with fail
    generalize wr.alloc (.cells #[.int .i64 key,.int .i64 quota,.slice oo ss.length oc] 42)=W3 at *
    have l13:w.heap.size<W3.heap.size:=by omega
    have lg3:tb<W3.heap.size:=by omega
    have hne1:w.heap.size≠tb:=by omega
    have hne2:wr.heap.size≠tb:=by omega
    clear c0 c1 t0 t1 t2
    go_region_held3 (fun w'=>w'.cell? ⟨w.heap.size,1,none⟩=some (.slice (some ⟨tb,0,none⟩) n c3)/\w'.cell? ⟨wr.heap.size,2,none⟩=some (.slice oo ss.length oc)) (first
     | exact ⟨b3,b1⟩
     | exact ⟨e1,e2⟩
     | (refine ⟨?_,?_⟩<;>(rw [zNe _ _ _ _ (by intro h;simp only [zME] at h;omega)];first | exact e1 | exact e2)))
     (first
     | (go_at_call 29;refine (zJX _ _ _ _ ss rfl (by exact hrow) HOC.out (by omega)).mono ?_;rintro e w4 ⟨v4,rfl,ho4,hb4⟩;obtain ⟨a4,k4,rfl,-,-,-⟩:=ho4.row;have e1:=Zc hb4 l13 b3;have e2:=Zc hb4 lz b1;have z4:=hb4.size;have g1:=Zc hb4 lg3 b5;have ef:=fun j=>Zf hb4 j lg3 (bf j)))
    have hb34:Below W3.heap.size W3 w4:=zBL hb4
    have hbr4:Below wr.heap.size wr w4:=hba.trans (hb34.mono hba.size)
    have HN:Hid (zFH w0 (w4.setCell ⟨tb,k*3+2,none⟩ (.slice a4 ss.length k4)) K (w.heap.size+2) w.heap.size (fun b=>B b\/wr.heap.size<=b/\a4=some ⟨b,0,none⟩) so1 sn sc1 (some ⟨tb,0,none⟩) n c3 p (us.set k ⟨us[k].key,us[k].quota,a4,ss.length,k4⟩) (k+1)):=lH (by
     have hM:=HM2.out
     have hle:=hM.ten.kle
     have hWr:w.heap.size+2<=wr.heap.size:=by omega
     have hzd:wr.heap.size<=W3.drew.heap.size:=hba.size
     refine ⟨hM.sto.step ((Kept.of hbr4).set (.inr (hM.ten.blk tb rfl)) _) fun b hl hb=>hb.elim id fun h=>absurd h.1 (by omega),hM.ten.next hku hkl hbr4 hWr ⟨ss,HSL2.out,ho4.weaken hzd,fun m h h'=>⟨(HSI.out m h h').1,?_⟩⟩,fun b h1 h2=>.inl (hM.bad b h1 h2),hM.hW,fun b hb=>hb.elim (hM.low b) fun h=>by omega,fun b hb=>?_⟩
     . have h1:=set_offs (bad:=fun b=>K<=b) (HSI.out m h h').2 (fun b hb=>by have:=HK0.out;omega)
       exact ((h1.mono HBE.out).mono hbr4).sub fun b _ hb=>hb.elim (hM.low b) fun h=>by show K<=b;omega
     . have hz5:(w4.setCell ⟨tb,k*3+2,none⟩ (.slice a4 ss.length k4)).heap.size=w4.heap.size:=by simp
       have hs4:=hbr4.size
       rw [hz5]
       rcases hb with hb | hb
       . have:=hM.high b hb
         omega
       . have h:=ho4
         rw [hb.2] at h
         exact h.ge.2)
    have p0':(w4.setCell ⟨tb,k*3+2,none⟩ (.slice a4 ss.length k4)).heap[w.heap.size]?=_:=(zMu _ _ _ _ (by simpa using hne1)).trans ((hbr4.block _ l0).trans p0)
    have p1':(w4.setCell ⟨tb,k*3+2,none⟩ (.slice a4 ss.length k4)).heap[w.heap.size+1]?=_:=(zMu _ _ _ _ (by simp;omega)).trans ((hbr4.block _ l1).trans p1)
    have hbw':Below w.heap.size w (w4.setCell ⟨tb,k*3+2,none⟩ (.slice a4 ss.length k4)):=(zAd hbw hbr4).setCell (by show w.heap.size<=tb;omega) _
    have y2:(w4.setCell ⟨tb,k*3+2,none⟩ (.slice a4 ss.length k4)).cell? ⟨wr.heap.size,2,none⟩=some (.slice oo ss.length oc):=(zNe _ _ _ _ (by intro h;simp only [zME] at h;omega)).trans e2
    have HV2:Hid (∃ h:k<(us.set k ⟨us[k].key,us[k].quota,a4,ss.length,k4⟩).length,(us.set k ⟨us[k].key,us[k].quota,a4,ss.length,k4⟩)[k]=⟨key,quota,a4,ss.length,k4⟩):=lH ⟨by simpa using hku,by rw [zNX,HHU.out]⟩
    obtain ⟨B2,hB2⟩:∃ b,b=fun b=>B b\/wr.heap.size<=b/\a4=some ⟨b,0,none⟩:=⟨_,rfl⟩
    rw [<- hB2] at HN
    generalize us.set k ⟨us[k].key,us[k].quota,a4,ss.length,k4⟩=vs2 at *
    generalize w4.setCell ⟨tb,k*3+2,none⟩ (.slice a4 ss.length k4)=W5 at *
    have hss3:(ss.length:Int)<=3:=by omega
    clear hB2 ho4 hb4 e1 e2 g1 ef b1 b3 bf b5 hrow hb34 hbr4 p0 p1 hbw z4 HHU HBE HM2 HM l0 l1 l13 lg3 lz hba hne2 htl
    generalize wr=w8 at *
    go_wp2_with fail
    clear y2
    go_loopw [34] (fun j wr=>∃ m:Nat,m<=ss.length/\j=.int .i64 m/\Hid (zFH w0 wr K (w.heap.size+2) w.heap.size B2 so1 sn sc1 (some ⟨tb,0,none⟩) n c3 p vs2 (k+1))/\wr.heap[w.heap.size]?=some (.cells #[.slice so1 sn sc1,.slice (some ⟨tb,0,none⟩) n c3] 27 (0,0))/\
     wr.heap[w.heap.size+1]?=some (.cells #[.slice none 0 0,.slice none 0 0] 27 (0,0))/\Below w.heap.size w wr) (fun j _=>ss.length - (intOf j).toNat)
    case atStart=>exact ⟨0,zMO _,rfl,HN,p0',p1',hbw'⟩
    case round=>
     clear p0' p1' hbw' HN
     obtain ⟨m,hms,rfl,HMi,q0,q1,hbq⟩:=hrel
     by_cases hlm:m<ss.length
     . have hM:=HMi.out
       have hml:m<p.tens[k].sets.length:=by rw [<- HSL2.out];exact hlm
       have hlm':(m:Int)<ss.length:=by omega
       obtain ⟨hkv,hvk⟩:=HV2.out
       obtain ⟨d1,d2⟩:=hM.ten.done k hkv hkl (by omega)
       rw [hvk] at d1 d2
       simp only at d1 d2
       have HD1:=lH d1
       obtain ⟨us2,v1,v2,-⟩:=d1
       obtain ⟨g,hg,hgW,hgl,hgf,hgc⟩:=v2.blk (by omega)
       have hGE:=zCW (b:=g) (o:=0) (fun j v hj=>by rw [zML];exact hgc j v hj) m (by omega)
       rw [zML] at hGE
       obtain ⟨tb',htb',htbW,htl,htf,hE⟩:=hM.ten.at k hkl
       obtain rfl:tb=tb':=by simpa using htb'
       rw [hvk] at hE
       have t2:=hE.sl
       simp only at t2
       subst hg
       have hgt:tb≠g:=fun e=>(d2 g rfl).2 (by rw [e])
       have hBg:=(d2 g rfl).1
       have hbe0:Below w0.heap.size w0 wr:=by rw [HK0.out];exact hM.ten.bel
       obtain ⟨b,o,hbo,hcl⟩:=StvRow.at (HSR2.out.mono hbe0) m hlm
       have hS:=hcl m hlm
       obtain ⟨i1,i2⟩:=HSI.out m hlm hml
       have i3:=i2.mono hbe0
       have hsmall:=(HSM.out _ (zMr hkl)).2 _ (zMr hml)
       obtain ⟨x,hx⟩:∃ x,ss[m]=x:=⟨_,rfl⟩
       rw [hx] at hS i1 i2 i3
       obtain ⟨nm,xf,xn,xc,yf,yn,yc⟩:=x
       obtain ⟨s0,s1,s2⟩:=hS
       simp only at s0 s1 s2 i1 i2 i3
       obtain ⟨y,hy⟩:∃ y,p.tens[k].sets[m]=y:=⟨_,rfl⟩
       rw [hy] at i1 i2 i3 hsmall
       obtain rfl:=i1
       subst hbo
       have HY:=lH hy
       have l0:=zAb q0
       have l1:=zAb q1
       have c1:=zAa q0 1
       simp at c1
       have lb:b<wr.heap.size:=zMx _ _ s0
       have hba:=bA0 wr (.cells #[.string y.nm,.slice xf xn xc,.slice yf yn yc] 47)
       have b0:(wr.alloc (.cells #[.string y.nm,.slice xf xn xc,.slice yf yn yc] 47)).cell? ⟨wr.heap.size,0,none⟩=some (.string y.nm):=by simp
       have b1:(wr.alloc (.cells #[.string y.nm,.slice xf xn xc,.slice yf yn yc] 47)).cell? ⟨wr.heap.size,1,none⟩=some (.slice xf xn xc):=by simp
       have b2:(wr.alloc (.cells #[.string y.nm,.slice xf xn xc,.slice yf yn yc] 47)).cell? ⟨wr.heap.size,2,none⟩=some (.slice yf yn yc):=by simp
       have b3:=((bcell hba).1 w.heap.size 1 l0).trans c1
       have b4:=((bcell hba).1 tb (k*3+2) htl).trans t2
       have bf:∀ j,(wr.alloc (.cells #[.string y.nm,.slice xf xn xc,.slice yf yn yc] 47)).frozen? ⟨g,j,none⟩=false:=fun j=>Zf hba j hgl (hgf j)
       have b5:=Zc hba hgl hGE.nm
       have b6:=Zc hba hgl hGE.fl
       have b7:=Zc hba hgl hGE.sl
       have hset:=i3.mono hba
       have lz:wr.heap.size<(wr.alloc (.cells #[.string y.nm,.slice xf xn xc,.slice yf yn yc] 47)).heap.size:=by simp
       have hwg:w.heap.size≠g:=by omega
       have hrg:wr.heap.size≠g:=by omega
       clear hx i2 i3 hM d2 v2 hgc hGE hE hcl htf hgf hy hvk
       go_wp2_with fail
       generalize wr.alloc (.cells #[.string y.nm,.slice xf xn xc,.slice yf yn yc] 47)=W3 at *
       have l13:w.heap.size<W3.heap.size:=by omega
       have lg3:g<W3.heap.size:=by omega
       have lt3:tb<W3.heap.size:=by omega
       clear c1 s0 s1 s2 t2
       go_region_held3 (fun w'=>w'.cell? ⟨w.heap.size,1,none⟩=some (.slice (some ⟨tb,0,none⟩) n c3)/\w'.cell? ⟨tb,k*3+2,none⟩=some (.slice (some ⟨g,0,none⟩) ss.length k4)/\w'.cell? ⟨wr.heap.size,0,none⟩=some (.string y.nm)/\w'.cell? ⟨wr.heap.size,1,none⟩=some (.slice xf xn xc)/\w'.cell? ⟨wr.heap.size,2,none⟩=some (.slice yf yn yc)) (first
        | exact ⟨b3,b4,b0,b1,b2⟩
        | exact ⟨e1,e2,e3,e4,e5⟩
        | (refine ⟨?_,?_,?_,?_,?_⟩<;>(repeat rw [zNe _ _ _ _ (by intro h;simp only [zME] at h;omega)])<;>first | exact e1 | exact e2 | exact e3 | exact e4 | exact e5))
        (first
        | (go_at_call 30;refine (zET _ _ _ _ _ _ _ y (hset.mono (zMy _ _).drew) hsmall).mono ?_;rintro e w4 ⟨fo2,fc2,so2,sc2,vs3,rfl,hox,hb4⟩;have e1:=Zc hb4 l13 b3;have e2:=Zc hb4 lt3 b4;have e3:=Zc hb4 lz b0;have e4:=Zc hb4 lz b1;have e5:=Zc hb4 lz b2;have z4:=hb4.size;have g1:=Zc hb4 lg3 b5;have g2:=Zc hb4 lg3 b6;have g3:=Zc hb4 lg3 b7;have ef:=fun j=>Zf hb4 j lg3 (bf j)))
       have hb34:Below W3.heap.size W3 w4:=zBL hb4
       have hbr4:Below wr.heap.size wr w4:=hba.trans (hb34.mono hba.size)
       have HN:Hid (zFH w0 (((w4.setCell ⟨g,m*3,none⟩ (.string y.nm)).setCell ⟨g,m*3+1,none⟩ (.slice fo2 xn fc2)).setCell ⟨g,m*3+2,none⟩ (.slice so2 yn sc2)) K (w.heap.size+2) w.heap.size B2 so1 sn sc1 (some ⟨tb,0,none⟩) n c3 p vs2 (k+1)):=lH (by
        have hM:=HMi.out
        obtain ⟨hkv,hvk⟩:=HV2.out
        have hkp:Kept (fun b=>b=g) wr (((w4.setCell ⟨g,m*3,none⟩ (.string y.nm)).setCell ⟨g,m*3+1,none⟩ (.slice fo2 xn fc2)).setCell ⟨g,m*3+2,none⟩ (.slice so2 yn sc2)):=(((Kept.of (bad:=fun b=>b=g) hbr4).set (.inr rfl) _).set (.inr rfl) _).set (.inr rfl) _
        have hkB:Kept B2 wr (((w4.setCell ⟨g,m*3,none⟩ (.string y.nm)).setCell ⟨g,m*3+1,none⟩ (.slice fo2 xn fc2)).setCell ⟨g,m*3+2,none⟩ (.slice so2 yn sc2)):=(((Kept.of hbr4).set (.inr hBg) _).set (.inr hBg) _).set (.inr hBg) _
        have hd4:TenOwn w4 (w.heap.size+2) B2 (some ⟨g,0,none⟩) ss.length k4 p.tens[k]:=HD1.out.step (.of hbr4) (fun q _ hl=>hbr4.block q hl) fun _ _ h=>h
        have hzd:W3.drew.heap.size=W3.heap.size:=rfl
        have hput:=hd4.put m hml y (by rw [HY.out]) hBg ((OwnX.from_ hox (zMs _)).offs fun b hb=>by have:=hM.high b hb;rw [hzd];omega)
        have e:({ p.tens[k] with sets:=p.tens[k].sets.set m y }:TenV)=p.tens[k]:=by rw [<- HY.out,zOf]
        rw [e] at hput
        refine ⟨hM.sto.step hkB fun _ _ h=>h,?_,hM.bad,hM.hW,hM.low,fun b hb=>?_⟩
        . have h1:=hM.ten.put k hkv hkl (by omega) (t':=p.tens[k]) ⟨rfl,rfl⟩ (g:=g) (by rw [hvk]) hkp (by rw [hvk];exact hput)
          rw [zOf] at h1
          exact h1
        . have:=hM.high b hb
          have h3:=hkB.size
          omega)
       have hk6:∀ q,q≠g->(((w4.setCell ⟨g,m*3,none⟩ (.string y.nm)).setCell ⟨g,m*3+1,none⟩ (.slice fo2 xn fc2)).setCell ⟨g,m*3+2,none⟩ (.slice so2 yn sc2)).heap[q]?=w4.heap[q]?:=fun q hq=>(zMu _ _ _ _ hq).trans ((zMu _ _ _ _ hq).trans (zMu _ _ _ _ hq))
       have q0':=(hk6 _ hwg).trans ((hbr4.block _ l0).trans q0)
       have q1':=(hk6 (w.heap.size+1) (by omega)).trans ((hbr4.block _ l1).trans q1)
       have hbq':Below w.heap.size w (((w4.setCell ⟨g,m*3,none⟩ (.string y.nm)).setCell ⟨g,m*3+1,none⟩ (.slice fo2 xn fc2)).setCell ⟨g,m*3+2,none⟩ (.slice so2 yn sc2)):=(((zAd hbq hbr4).setCell (by show w.heap.size<=g;omega) _).setCell (by show w.heap.size<=g;omega) _).setCell (by show w.heap.size<=g;omega) _
       have HREL:=lH (And.intro q0' (And.intro q1' hbq'))
       clear b0 b1 b2 b3 b4 b5 b6 b7 bf e1 e2 e3 e4 e5 g1 g2 g3 ef hox hb4 hk6 q0' q1' hbq' q0 q1 hset HD1
       go_wp2_with fail
       go_roundw
       case rel=>exact ⟨m+1,by omega,by go_num,HN,HREL.out.1,HREL.out.2.1,HREL.out.2.2⟩
       case measure=>simp [intOf];omega
     . obtain rfl:m=ss.length:=by omega
       have hlm':¬ (ss.length:Int)<ss.length:=by omega
       go_wp2_with fail
       go_roundw
       case rel=>exact ⟨k+1,by omega,by go_num,lH ⟨_,_,HMi.out⟩,q0,q1,hbq⟩
       case measure=>simp [intOf];omega
  . obtain rfl:k=n:=by omega
    have hlt':¬ (k:Int)<k:=by omega
    have f1:=fun j=>zAc p1 j
    have d0:=zAa p1 0
    have d1:=zAa p1 1
    simp at d0 d1
    have HF:Hid (zKO w0 w ((wr.setCell ⟨w.heap.size+1,0,none⟩ (.slice so1 sn sc1)).setCell ⟨w.heap.size+1,1,none⟩ (.slice a3 k c3)) K so1 sn sc1 a3 k c3 p):=lH (by
     obtain ⟨B,us,hM⟩:=HM.out
     have hkk:=HK.out
     have hB:=hM.bad (w.heap.size+1) (by omega) (by omega)
     have hkp:∀ bad:Nat->Prop,bad (w.heap.size+1)->Kept bad wr ((wr.setCell ⟨w.heap.size+1,0,none⟩ (.slice so1 sn sc1)).setCell ⟨w.heap.size+1,1,none⟩ (.slice a3 k c3)):=fun bad hb=>((Kept.refl _ _).set (.inr hb) _).set (.inr hb) _
     refine ⟨w.heap.size+2,B,us,?_,HSL.out,HCS1.out,hM.sto.step (hkp _ hB) fun _ _ h=>h,?_,fun b h1 h2=>hM.bad b h1 (by omega),(hbw.setCell (by simp) _).setCell (by simp) _,HFA.out⟩
     . exact zOm _ 2
     . have h1:=hM.ten
       rw [show (p.tens.length:Nat)=k from HLN.out]
       exact h1.off1 (p:=w.heap.size+1) (by omega) (by omega) hB (hkp _ rfl))
    go_wp2_with fail
    refine bodyPost_ret (v:=.agg #[.slice so1 sn sc1,.slice a3 k c3]) (by simp [results,Tryz.results10,go_sem,d0,d1]) rfl ⟨_,_,_,_,rfl,HF.out⟩
end Go.Proofs.YtfmgdjgedhnmeaaGreat
