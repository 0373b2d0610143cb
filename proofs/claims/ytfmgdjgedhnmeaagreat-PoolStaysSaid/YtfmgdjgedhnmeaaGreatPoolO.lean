/- A pool at work: what stays where other blocks are written. No program in sight. -/
import Derived.Test.YtfmgdjgedhnmeaaGreatPoolM
namespace Go.Proofs.YtfmgdjgedhnmeaaGreat
open Go.RowKit
set_option linter.unusedVariables false
set_option linter.unusedSimpArgs false
theorem zAz.widen {w0 w w2:World} {K W:Nat} {B B2:Nat->Prop} {pb:Nat} {so ao:Option Addr} {sn sc n cap:Nat} {s:List Blk} {l:List TenV} {vs:List Tnv} (h:zAz w0 w K W B pb so sn sc ao n cap s l vs) (hb:Below w.heap.size w w2) (hB:∀ b,B b->B2 b) (hB2:∀ b,b<w.heap.size->B2 b->B b):zAz w0 w2 K W B2 pb so sn sc ao n cap s l vs:=
 ⟨(hb.block _ (zAb h.box)).trans h.box,h.sto.step (.of hb) hB2,h.ten.widen hb hB hB2,h.hK,hB _ h.hB,zMN h.hw hb.size⟩
theorem zAz.off {w0 w w2:World} {K W:Nat} {B:Nat->Prop} {pb q:Nat} {so ao:Option Addr} {sn sc n cap:Nat} {s:List Blk} {l:List TenV} {vs:List Tnv} (h:zAz w0 w K W B pb so sn sc ao n cap s l vs) {cs:Array Value} {ty:TypeId} {f:Nat×Nat} (hp:w.heap[q]?=some (.cells cs ty f)) (h1:ty≠tnvK.elem) (h2:ty≠stvK.elem) (hq:pb≠q) (hKq:K<=q) (hBq:B q) (hk:Kept (fun b=>b=q) w w2):zAz w0 w2 K W B pb so sn sc ao n cap s l vs:=by
 obtain ⟨t1,t2⟩:=h.ten.typ hp h1 h2
 exact ⟨(hk.block _ (zAb h.box) hq).trans h.box,h.sto.step ⟨hk.os,hk.tape,hk.output,hk.size,fun b hl hb=>hk.block b hl fun e=>hb (by rw [e];exact hBq)⟩ fun _ _ h=>h,h.ten.kept (X:=fun b=>b=q) (fun b hb=>by rw [hb];exact ⟨hKq,hBq⟩) (fun b hb=>by rw [hb];exact t1) (fun b hb j hj _=>by rw [hb];exact t2 j hj) hk,h.hK,h.hB,zMN h.hw hk.size⟩
def Plain (w:World) (b:Nat):Prop:=NoKid w b/\∀ o s,w.cell? ⟨b,o,none⟩≠some (.string s)
theorem NoKid.same {w w2:World} {b:Nat} (h:NoKid w b) (e:w2.heap[b]?=w.heap[b]?):NoKid w2 b:=by
 have hc:∀ o,w2.cell? ⟨b,o,none⟩=w.cell? ⟨b,o,none⟩:=fun o=>zMB (w:=w) e
 exact ⟨fun o x y z h1 h2 h3=>h.1 o x y z ((hc _).symm.trans h1) ((hc _).symm.trans h2) ((hc _).symm.trans h3),fun o x h1=>h.2 o x ((hc _).symm.trans h1)⟩
theorem Plain.same {w w2:World} {b:Nat} (h:Plain w b) (e:w2.heap[b]?=w.heap[b]?):Plain w2 b:=
 ⟨h.1.same e,fun o s h1=>h.2 o s ((zMB (w:=w2) (w':=w) (a:=⟨b,o,none⟩) e.symm).trans h1)⟩
theorem zGw {w:World} {K:Nat} {ao:Option Addr} {s:List Blk} {X:Nat->Prop} (h:StoAt K w ao s) (k4:Kid4 s) (hX:∀ b,b<w.heap.size->X b->b<K/\NoKid w b):Hangs X w fun w=>StoRow w ao s:=fun w' hk=>by
 obtain ⟨h,hK⟩:=h
 have hcell:∀ b o v,w.cell? ⟨b,o,none⟩=some v->¬ X b->w'.cell? ⟨b,o,none⟩=some v:=fun b o v hv hx=>(zMB (w:=w) (hk.block b (zMx _ _ hv) hx)).trans hv
 have hkids:∀ ao xs,(xs=[]\/xs.length=4)->Row .i64 w ao xs->Row .i64 w' ao xs:=fun ao xs hl hf=>by
  rcases hf with rfl | ⟨b,o,rfl,hf⟩
  . exact .inl rfl
  . rcases hl with rfl | hl
    . exact .inl rfl
    . have hne:¬ X b:=fun hx=>(hX b (zMx _ _ (hf 0 (by omega))) hx).2.1 _ _ _ _ (hf 0 (by omega)) (hf 1 (by omega)) (hf 2 (by omega))
      exact .inr ⟨b,o,rfl,fun i hi=>hcell _ _ _ (hf i hi) hne⟩
 have hbytes:∀ ao xs,Row .u8 w ao xs->Row .u8 w' ao xs:=fun ao xs hf=>by
  rcases hf with rfl | ⟨b,o,rfl,hf⟩
  . exact .inl rfl
  . rcases zMJ xs.length with h0 | h0
    . exact .inl (zMv h0)
    . have hne:¬ X b:=fun hx=>(hX b (zMx _ _ (hf 0 h0)) hx).2.2 _ _ (hf 0 h0)
      exact .inr ⟨b,o,rfl,fun i hi=>hcell _ _ _ (hf i hi) hne⟩
 rcases h with rfl | ⟨g,o,rfl,h⟩
 . exact .inl rfl
 . by_cases hs:s=[]
   . exact .inl hs
   have hg:¬ X g:=fun hx=>by
    have h1:=(hX g (zMx _ _ (h 0 (List.length_pos_iff.2 hs)).refs) hx).1
    have h2:=hK g o rfl hs
    omega
   refine .inr ⟨g,o,rfl,fun i hi=>?_⟩
   obtain ⟨h1,h2,⟨v1,k1,va,vc,e1,r1,c1⟩,⟨v2,k2,ua,uc,e2,r2,c2⟩⟩:=h i hi
   exact ⟨hcell _ _ _ h1 hg,hcell _ _ _ h2 hg,⟨v1,hcell _ _ _ k1 hg,va,vc,e1,hkids _ _ (k4 _ (zMr hi)) r1,c1⟩,⟨v2,hcell _ _ _ k2 hg,ua,uc,e2,hbytes _ _ r2,c2⟩⟩
theorem Kind.Row.hang {α:Type} {M:Kind α} (hs:∀ x:α,∃ q,(M.cells x)[0]?=some (.string q)) {w:World} {ao:Option Addr} {l:List α} (h:M.Row w ao l) {X:Nat->Prop} (hX:∀ b,b<w.heap.size->X b->Plain w b):Hangs X w fun w=>M.Row w ao l:=fun w' hk=>by
 rcases h with rfl | ⟨b,o,rfl,h⟩
 . exact .inl rfl
 . rcases zMJ l.length with h0 | h0
   . exact .inl (zMv h0)
   . obtain ⟨q,hq⟩:=hs l[0]
     have h1:=h 0 _ (by have:=(M.all_at l 0 h0 0 M.pos).trans hq;simpa using this)
     have hlt:=zMx _ _ h1
     have hne:¬ X b:=fun hx=>(hX b hlt hx).2 _ _ h1
     exact .inr ⟨b,o,rfl,fun j v hj=>(zMB (w:=w) (hk.block b hlt hne)).trans (h j v hj)⟩
theorem SetIn.hang {w:World} {fo so:Option Addr} {fn fc sn sc:Nat} {x:SetV} (h:SetIn w fo fn fc so sn sc x) {X:Nat->Prop} (hX:∀ b,b<w.heap.size->X b->Plain w b):Hangs X w fun w=>SetIn w fo fn fc so sn sc x:=fun w' hk=>by
 have hE:∀ ao l,zBy w ao l->zBy w' ao l:=fun ao l h=>Kind.Row.hang (M:=entK) (fun x=>⟨_,rfl⟩) h hX w' hk
 obtain ⟨vs,h1,h2,h3⟩:=h.srow
 exact ⟨h.flen,h.slen,hE _ _ h.frow,⟨vs,h1,Kind.Row.hang (M:=snvK) (fun x=>⟨_,rfl⟩) h2 hX w' hk,fun i a b=>by
  obtain ⟨i1,i2,i3,i4⟩:=h3 i a b
  exact ⟨i1,i2,hE _ _ i3,i4⟩⟩,h.fcap,h.scap⟩
theorem TenIn.hang {w:World} {ao:Option Addr} {n cap:Nat} {t:TenV} (h:TenIn w ao n cap t) {X:Nat->Prop} (hX:∀ b,b<w.heap.size->X b->Plain w b):Hangs X w fun w=>TenIn w ao n cap t:=fun w' hk=>by
 obtain ⟨vs,h1,h2,h3⟩:=h.row
 exact ⟨h.len,⟨vs,h1,Kind.Row.hang (M:=stvK) (fun x=>⟨_,rfl⟩) h2 hX w' hk,fun i a b=>⟨(h3 i a b).1,(h3 i a b).2.hang hX w' hk⟩⟩,h.cap⟩
theorem zHm {w:World} {so ao:Option Addr} {sn sc n cap Z:Nat} {p:PoolV} (h:zAG w so sn sc ao n cap p) (hso:∀ g o,so=some ⟨g,o,none⟩->p.s≠[]->Z<=g) (hao:∀ g o,ao=some ⟨g,o,none⟩->Z<=g) (k4:Kid4 p.s) {X:Nat->Prop} (hX:∀ b,b<w.heap.size->X b->b<Z/\Plain w b) :
 Hangs X w fun w=>zAG w so sn sc ao n cap p:=fun w' hk=>by
 obtain ⟨vs,h1,h2,h3⟩:=h.row
 refine ⟨h.slen,zGw ⟨h.srow,hso⟩ k4 (fun b hl hb=>⟨(hX b hl hb).1,(hX b hl hb).2.1⟩) w' hk,h.scap,h.len,⟨vs,h1,?_,fun i a b=>⟨(h3 i a b).1,(h3 i a b).2.1,(h3 i a b).2.2.hang (fun b hl hb=>(hX b hl hb).2) w' hk⟩⟩,h.cap⟩
 rcases h2 with h2 | ⟨b,o,e,h2⟩
 . exact .inl h2
 . refine .inr ⟨b,o,e,fun j v hj=>?_⟩
   have hv:=h2 j v hj
   have hlt:=zMx _ _ hv
   exact (zMB (w:=w) (hk.block b hlt fun hx=>by have:=(hX b hlt hx).1;have:=hao b o e;omega)).trans hv
structure AnwIn (w:World) (na:Option Addr) (nn nc:Nat) (ba:Option Addr) (bn bc:Nat) (r:AnsV):Prop where
 nlen:r.names.length=nn
 blen:r.bytes.length=bn
 names:zEG w na r.names
 bytes:Row .u8 w ba r.bytes
 ncap:Capd na nn nc
 bcap:Capd ba bn bc
theorem AnwIn.none (w:World) (e n:Int):AnwIn w Option.none 0 0 Option.none 0 0 ⟨e,n,[],[]⟩:=⟨rfl,rfl,.inl rfl,.inl rfl,⟨zMs _,fun _=>rfl⟩,⟨zMs _,fun _=>rfl⟩⟩
theorem AnwIn.mono {w w2:World} {na ba:Option Addr} {nn nc bn bc:Nat} {r:AnsV} (h:AnwIn w na nn nc ba bn bc r) (hb:Below w.heap.size w w2):AnwIn w2 na nn nc ba bn bc r:=⟨h.nlen,h.blen,h.names.mono hb,h.bytes.mono hb,h.ncap,h.bcap⟩
theorem AnwIn.hang {w:World} {na ba:Option Addr} {nn nc bn bc:Nat} {r:AnsV} (h:AnwIn w na nn nc ba bn bc r) {X:Nat->Prop} (hX:∀ b,b<w.heap.size->X b->Plain w b):Hangs X w fun w=>AnwIn w na nn nc ba bn bc r:=fun w' hk=>by
 refine ⟨h.nlen,h.blen,?_,?_,h.ncap,h.bcap⟩
 . rcases h.names with h1 | ⟨b,o,e,h1⟩
   . exact .inl h1
   . refine .inr ⟨b,o,e,fun i hi=>?_⟩
     have hv:=h1 i hi
     have hlt:=zMx _ _ hv
     exact (zMB (w:=w) (hk.block b hlt fun hx=>(hX b hlt hx).2 _ _ hv)).trans hv
 . rcases h.bytes with h1 | ⟨b,o,e,h1⟩
   . exact .inl h1
   . refine .inr ⟨b,o,e,fun i hi=>?_⟩
     have hv:=h1 i hi
     have hlt:=zMx _ _ hv
     exact (zMB (w:=w) (hk.block b hlt fun hx=>(hX b hlt hx).1.2 _ _ hv)).trans hv
theorem zBI {w:World} {b t:Nat} {x y:Option Addr} {l c m d:Nat} (h:w.heap[b]?=some (.cells #[.slice x l c,.slice y m d] t (0,0))):Plain w b:=by
 have hc:∀ o v,w.cell? ⟨b,o,none⟩=some v->∃ a n c,v=.slice a n c:=fun o v hv=>by
  rw [zAa h] at hv
  rcases (show o=0\/o=1\/2<=o from by omega) with rfl | rfl | e
  . simp at hv;exact ⟨_,_,_,hv.symm⟩
  . simp at hv;exact ⟨_,_,_,hv.symm⟩
  . rw [zMV (by simp;omega)] at hv;cases hv
 refine ⟨⟨fun o x y z h1 _ _=>?_,fun o x h1=>?_⟩,fun o s h1=>?_⟩
 all_goals
  obtain ⟨_,_,_,e⟩:=hc _ _ h1
  cases e
theorem zFk {w:World} {b t:Nat} {e n:Int} {x y:Option Addr} {l c m d:Nat} (h:w.heap[b]?=some (.cells #[.int .i64 e,.int .i64 n,.slice x l c,.slice y m d] t (0,0))):Plain w b:=by
 have hc:∀ o v,w.cell? ⟨b,o,none⟩=some v->(o<2/\∃ x,v=.int .i64 x)\/∃ a n c,v=.slice a n c:=fun o v hv=>by
  rw [zAa h] at hv
  rcases (show o=0\/o=1\/o=2\/o=3\/4<=o from by omega) with rfl | rfl | rfl | rfl | e
  . simp at hv;exact .inl ⟨by omega,_,hv.symm⟩
  . simp at hv;exact .inl ⟨by omega,_,hv.symm⟩
  . simp at hv;exact .inr ⟨_,_,_,hv.symm⟩
  . simp at hv;exact .inr ⟨_,_,_,hv.symm⟩
  . rw [zMV (by simp;omega)] at hv;cases hv
 refine ⟨⟨fun o x y z h1 h2 h3=>?_,fun o x h1=>?_⟩,fun o s h1=>?_⟩
 . rcases hc _ _ h3 with ⟨e,-⟩ | ⟨_,_,_,e⟩
   . omega
   . cases e
 . rcases hc _ _ h1 with ⟨-,_,e⟩ | ⟨_,_,_,e⟩<;>cases e
 . rcases hc _ _ h1 with ⟨-,_,e⟩ | ⟨_,_,_,e⟩<;>cases e
theorem zLp {w:World} {g t:Nat} {L:List Tnv} (h:w.heap[g]?=some (.cells (tnvK.all L).toArray t (0,0))):NoKid w g:=by
 have hc:∀ o v,w.cell? ⟨g,o,none⟩=some v->(o%3=2/\∃ a n c,v=.slice a n c)\/(o%3≠2/\∃ x,v=.int .i64 x):=fun o v hv=>by
  rw [zAa h,zMC] at hv
  have hlt:o<L.length*3:=by
   have:=(List.getElem?_eq_some_iff.1 hv).1
   rw [tnvK.all_len] at this
   exact this
  have h2:=tnvK.all_at L (o / 3) (by omega) (o%3) (by show o%3<3;omega)
  rw [show o / 3*tnvK.k+o%3=o from by show o / 3*3+o%3=o;omega,hv] at h2
  rcases (show o%3=0\/o%3=1\/o%3=2 from by omega) with e | e | e
  . rw [e] at h2;exact .inr ⟨by omega,_,zNg h2⟩
  . rw [e] at h2;exact .inr ⟨by omega,_,zNg h2⟩
  . rw [e] at h2;exact .inl ⟨e,_,_,_,zNg h2⟩
 refine ⟨fun o x y z h1 h2 h3=>?_,fun o x h1=>?_⟩
 . have p0:o%3≠2:=(hc _ _ h1).elim (fun ⟨_,_,_,_,e⟩=>by cases e) fun h=>h.1
   have p1:(o+1)%3≠2:=(hc _ _ h2).elim (fun ⟨_,_,_,_,e⟩=>by cases e) fun h=>h.1
   have p2:(o+2)%3≠2:=(hc _ _ h3).elim (fun ⟨_,_,_,_,e⟩=>by cases e) fun h=>h.1
   omega
 . rcases hc _ _ h1 with ⟨_,_,_,_,e⟩ | ⟨_,_,e⟩<;>cases e
theorem zLM {w:World} {g t:Nat} {L:List Stv} (h:w.heap[g]?=some (.cells (stvK.all L).toArray t (0,0))):NoKid w g:=by
 have hc:∀ o v,w.cell? ⟨g,o,none⟩=some v->(∃ q,v=.string q)\/∃ a n c,v=.slice a n c:=fun o v hv=>by
  rw [zAa h,zMC] at hv
  have hlt:o<L.length*3:=by
   have:=(List.getElem?_eq_some_iff.1 hv).1
   rw [stvK.all_len] at this
   exact this
  have h2:=stvK.all_at L (o / 3) (by omega) (o%3) (by show o%3<3;omega)
  rw [show o / 3*stvK.k+o%3=o from by show o / 3*3+o%3=o;omega,hv] at h2
  rcases (show o%3=0\/o%3=1\/o%3=2 from by omega) with e | e | e
  . rw [e] at h2;exact .inl ⟨_,zNg h2⟩
  . rw [e] at h2;exact .inr ⟨_,_,_,zNg h2⟩
  . rw [e] at h2;exact .inr ⟨_,_,_,zNg h2⟩
 refine ⟨fun o x y z h1 _ _=>?_,fun o x h1=>?_⟩
 all_goals rcases hc _ _ h1 with ⟨_,e⟩ | ⟨_,_,_,e⟩<;>cases e
theorem Kind.Own.all_at {α:Type} {M:Kind α} {w:World} {base g n cap:Nat} {l:List α} (h:M.Own w base (.slice (some ⟨g,0,none⟩) n cap) l):∃ L,w.heap[g]?=some (.cells (M.all L).toArray M.elem (0,0)):=by
 rcases h with ⟨_,h⟩ | ⟨g',cap',sp,e1,e2,e3,e4⟩
 . cases h
 . simp only [Value.slice.injEq,zMz,zME,and_true] at e1
   rw [e1.1]
   exact ⟨_,e4⟩
section
variable {w0 w w2:World} {K W:Nat} {B B2:Nat->Prop} {ao:Option Addr} {n cap i:Nat} {l:List TenV} {vs:List Tnv}
theorem zAx.shrink (h:zAx w0 w K W B ao n cap l vs i) (hs:∀ b,b<w.heap.size->B2 b->B b) (hb:∀ g,ao=some ⟨g,0,none⟩->B2 g) (hr:∀ j (hj:j<vs.length),j<i->∀ g,vs[j].ao=some ⟨g,0,none⟩->B2 g):zAx w0 w K W B2 ao n cap l vs i:=
 ⟨h.hk0,h.bel,h.kw,h.vlen,h.own,hb,h.num,fun j a b c=>⟨(h.done j a b c).1.step (.refl _ _) (fun _ _ _=>rfl) hs,fun g hg=>⟨hr j a c g hg,((h.done j a b c).2 g hg).2⟩⟩,h.todo,h.apart⟩
def Few (w:World) (B:Nat->Prop) (b:Nat):Prop:=B b/\b<w.heap.size/\NoKid w b
theorem zAx.few (h:zAx w0 w K W B ao n cap l vs l.length):zAx w0 w K W (Few w B) ao n cap l vs l.length:=by
 refine h.shrink (fun b _ hb=>hb.1) (fun g hg=>?_) fun j hj hj2 g hg=>?_
 . subst hg
   obtain ⟨L,hL⟩:=h.own.all_at
   exact ⟨h.blk g rfl,zAb hL,zLp hL⟩
 . obtain ⟨d1,d2⟩:=h.done j hj hj2 hj2
   obtain ⟨us,-,h2,-⟩:=d1
   rw [hg] at h2
   obtain ⟨L,hL⟩:=h2.all_at
   exact ⟨(d2 g hg).1,zAb hL,zLM hL⟩
end
theorem zAz.fresh {w0 w w2:World} {K W pb:Nat} {B:Nat->Prop} {so so2 ao:Option Addr} {sn sc sn2 sc2 n cap:Nat} {s t:List Blk} {l:List TenV} {vs:List Tnv} (h:zAz w0 w K W B pb so sn sc ao n cap s l vs) (hb:Below w.heap.size w w2) (hs:StoAt w.heap.size w2 so2 t) (k4:Kid4 t) :
 zAz w0 (w2.setCell ⟨pb,0,none⟩ (.slice so2 sn2 sc2)) K W (Few w B) pb so2 sn2 sc2 ao n cap t l vs:=by
 have hl:=zAb h.box
 have hBp:Few w B pb:=⟨h.hB,hl,(zBI h.box).1⟩
 have p2:=(hb.block _ hl).trans h.box
 obtain ⟨t1,t2⟩:=h.ten.typ h.box (by decide) (by decide)
 have hk:∀ X:Nat->Prop,X pb->Kept X w2 (w2.setCell ⟨pb,0,none⟩ (.slice so2 sn2 sc2)):=fun X hX=>(Kept.refl _ _).set (.inr hX) _
 refine ⟨?_,(zGw hs k4 fun b _ hb2=>⟨hb2.2.1,hb2.2.2.same (hb.block b hb2.2.1)⟩).step (hk _ hBp) fun _ _ h=>h,(h.ten.few.mono hb).kept (X:=fun b=>b=pb) (fun b hb=>by rw [hb];exact ⟨h.hK,hBp⟩) (fun b hb=>by rw [hb];exact t1) (fun b hb j hj _=>by rw [hb];exact t2 j hj) (hk _ rfl),h.hK,hBp,?_⟩
 . have:=zAe p2 0 (.slice so2 sn2 sc2)
   simp only [zMS,zM7] at this
   exact this
 . have h1:(w2.setCell ⟨pb,0,none⟩ (.slice so2 sn2 sc2)).heap.size=w2.heap.size:=by simp
   have:=hb.size
   have:=h.hw
   omega
theorem do_mid {p:PoolV} (hp:zAM p) (hw:WfS p.s) {t:TenV} (ht:t∈p.tens) {k:Nat} (hk:k<t.sets.length) {a:AskV} (hb:Byt a.bytes) (hd:(doR writeW p.s t.key t.sets[k] a).2.2=0) :
 WfS (doR writeW p.s t.key t.sets[k] a).1/\checkE (doR writeW p.s t.key t.sets[k] a).1=0/\(doR writeW p.s t.key t.sets[k] a).1.length=p.s.length/\TenOk (doR writeW p.s t.key t.sets[k] a).1 { t with sets:=t.sets.set k (doR writeW p.s t.key t.sets[k] a).2.1 }/\(doR writeW p.s t.key t.sets[k] a).2.1.nm=t.sets[k].nm:=by
 have hT:=hp.ten t ht
 have hRk:=hT.sets _ (zMr hk)
 have hhe:=zDT hp ht hk
 obtain ⟨hB,hS⟩:=zC5 hw (zC4 hp) hRk hhe
 obtain ⟨O,N,o1,o2,o3,-⟩:=hS.old
 have hS4:SHold (lessL p.s (rootsL t.sets[k])) p.s p.s t.key t.sets[k] 0 4:=⟨hS.hold,hS.right,O,N,o1,o2,o3,zDP hS.hold.good⟩
 obtain ⟨hS2,-,-⟩:=zKS hB hS4 (by omega) (by omega) (by omega) (by omega) hb (fun O root sz b _ _ hf hby hl he=>zDP (zD6 hf hw hby hl he)) hd
 have hnm:(doR writeW p.s t.key t.sets[k] a).2.1.nm=t.sets[k].nm:=by
  obtain ⟨-,-,-,h4⟩:=zK0 hd
  rw [h4]
  exact zLQ _ _ _ _ _
 have hlb:(lessL p.s (rootsL t.sets[k])).length=p.s.length:=hS.hold.len.symm
 generalize (doR writeW p.s t.key t.sets[k] a).2.1=y at *
 generalize (doR writeW p.s t.key t.sets[k] a).1=s' at *
 have hgb:=Good.of_check hB.chk hB.wf
 refine ⟨hS2.wf,hS2.right.chk,by rw [hS2.hold.len,hlb],⟨hT.kok,hT.q0,hT.q4,by simpa using hT.len,fun x hx=>?_,?_⟩,hnm⟩
 . obtain ⟨m,hm,rfl⟩:=List.mem_iff_getElem.1 hx
   have hm':m<t.sets.length:=by simpa using hm
   simp only at hm ⊢
   rw [zMP]
   split
   . exact hS2.right
   . rename_i e
     exact (zD3 hp hw ht hk hm' fun e'=>e e'.symm).keeps hgb hS2.hold.keeps hS2.right.chk
 . show zAw ((t.sets.set k y).map SetV.nm)
   rw [set_nm hk hnm]
   exact hT.rise
theorem zKL {p:PoolV} (hp:zAM p) (hw:WfS p.s) {t:TenV} (ht:t∈p.tens) {k:Nat} (hk:k<t.sets.length) {frm nm:ByteArray} (hd:(zAL p.s t.key t.sets[k] frm nm).2.2=0):WfS (zAL p.s t.key t.sets[k] frm nm).1/\checkE (zAL p.s t.key t.sets[k] frm nm).1=0/\(zAL p.s t.key t.sets[k] frm nm).1.length=p.s.length:=by
 have hT:=hp.ten t ht
 have hRk:=hT.sets _ (zMr hk)
 obtain ⟨-,hnm,z,hz,e⟩:=zHT hd
 rw [e]
 have hS:=zFZ (zCs.self hp.chk hw (zC4 hp)) hT.kok (hRk.snaps z hz).2 hnm
 exact ⟨hS.wf,hS.right.chk,hS.hold.len⟩
theorem Kept.alloc {bad:Nat->Prop} {w w2:World} (h:Kept bad w w2) (o:Obj):Kept bad w (w2.alloc o):=
 ⟨h.os,h.tape,h.output,by have:=h.size;simp;omega,fun b hl hb=>(zM5 _ _ _ (zMw hl h.size)).trans (h.block b hl hb)⟩
theorem Kept.drew (bad:Nat->Prop) (w:World):Kept bad w w.drew:=⟨rfl,rfl,rfl,zMs _,fun _ _ _=>rfl⟩
theorem Kept.dr {bad:Nat->Prop} {w u:World} (h:Kept bad w u):Kept bad w u.drew:=⟨h.os,h.tape,h.output,h.size,h.block⟩
theorem Kept.call {bad:Nat->Prop} {w u w':World} (h:Kept bad w u) (hb:Below u.heap.size u w'):Kept bad w w':=
 ⟨hb.os.trans h.os,hb.tape.trans h.tape,hb.output.trans h.output,zMN h.size hb.size,fun b hl hn=>(hb.block b (zMw hl h.size)).trans (h.block b hl hn)⟩
theorem Kept.cell {bad:Nat->Prop} {w u:World} (h:Kept bad w u) {b j:Nat} (hl:b<w.heap.size) (hn:¬ bad b):u.cell? ⟨b,j,none⟩=w.cell? ⟨b,j,none⟩:=zMB (a:=⟨b,j,none⟩) (h.block b hl hn)
theorem Kept.both {bad:Nat->Prop} {w w2:World} (h:Kept bad w w2) (q j:Nat) (v:Value):Kept bad (w.setCell ⟨q,j,none⟩ v) (w2.setCell ⟨q,j,none⟩ v):=by
 refine ⟨h.os,h.tape,h.output,by have:=h.size;simpa using this,fun b hl hb=>?_⟩
 have hl':b<w.heap.size:=by simpa using hl
 have hk:=h.block b hl' hb
 by_cases e:b=q
 . subst e
   simp only [World.setCell,Array.getElem?_modify,if_true,hk]
 . rw [zMu _ _ _ _ e,zMu _ _ _ _ e]
   exact hk
theorem zJG {α β:Type} {R:α->β->Prop} {us:List α} {l:List β} (h:∀ k (a:k<us.length) (b:k<l.length),R us[k] l[k]) (i:Nat):∀ k (a:k<(us.eraseIdx i).length) (b:k<(l.eraseIdx i).length),R (us.eraseIdx i)[k] (l.eraseIdx i)[k]:=by
 intro k a b
 rw [zN4,zN4]
 split
 . exact h _ _ _
 . exact h _ _ _
section
variable {w0 w:World} {K W:Nat} {B:Nat->Prop} {pb i on oc g tb:Nat} {so:Option Addr} {sn sc n cap:Nat} {s:List Blk} {l:List TenV} {vs:List Tnv} {t:TenV}
theorem zAz.put (h:zAz w0 w K W B pb so sn sc (some ⟨tb,0,none⟩) n cap s l vs) (ht:l[i]?=some t) (hv:vs[i]?=some ⟨t.key,t.quota,some ⟨g,0,none⟩,on,oc⟩) {k:Nat} (hk:k<t.sets.length) {y:SetV} (hy:y.nm=t.sets[k].nm) {fo yo:Option Addr} {fn fc yn yc:Nat} (ho:Hangs B w fun w=>SetIn w fo fn fc yo yn yc y) :
 zAz w0 (((w.setCell ⟨g,k*3,none⟩ (.string y.nm)).setCell ⟨g,k*3+1,none⟩ (.slice fo fn fc)).setCell ⟨g,k*3+2,none⟩ (.slice yo yn yc)) K W B pb so sn sc (some ⟨tb,0,none⟩) n cap s (l.set i { t with sets:=t.sets.set k y }) vs:=by
 obtain ⟨hi,ht⟩:=List.getElem?_eq_some_iff.1 ht
 obtain ⟨hiv,hv⟩:=List.getElem?_eq_some_iff.1 hv
 obtain ⟨d1,d2⟩:=h.ten.done i hiv hi hi
 obtain ⟨k1,k2⟩:=h.ten.typ h.box (by decide) (by decide)
 have hb:=k2 i hiv
 rw [hv] at d1 d2 hb
 rw [ht] at d1
 simp only at d1 d2 hb
 have hBg:=(d2 g rfl).1
 have hpg:pb≠g:=fun e=>hb (by rw [e])
 have hkp:∀ X:Nat->Prop,X g->Kept X w (((w.setCell ⟨g,k*3,none⟩ (.string y.nm)).setCell ⟨g,k*3+1,none⟩ (.slice fo fn fc)).setCell ⟨g,k*3+2,none⟩ (.slice yo yn yc)):=fun X hX=>(((Kept.refl X w).set (.inr hX) _).set (.inr hX) _).set (.inr hX) _
 have hput:=d1.put k hk y hy hBg ho
 have h1:=h.ten.put i hiv hi hi (t':={ t with sets:=t.sets.set k y }) ⟨by rw [ht],by rw [ht]⟩ (g:=g) (by rw [hv]) (hkp _ rfl) (by rw [hv];exact hput)
 refine ⟨((hkp (fun b=>b=g) rfl).block _ (zAb h.box) hpg).trans h.box,h.sto.step (hkp _ hBg) fun _ _ h=>h,by rw [zMK];exact h1,h.hK,h.hB,zMN h.hw (hkp _ hBg).size⟩
theorem zAz.own {oo:Option Addr} (h:zAz w0 w K W B pb so sn sc (some ⟨tb,0,none⟩) n cap s l vs) (ht:l[i]?=some t) (hv:vs[i]?=some ⟨t.key,t.quota,oo,on,oc⟩):TenOwn w W B oo on oc t:=by
 obtain ⟨hi,ht⟩:=List.getElem?_eq_some_iff.1 ht
 obtain ⟨hiv,hv⟩:=List.getElem?_eq_some_iff.1 hv
 have d1:=(h.ten.done i hiv hi hi).1
 rw [hv,ht] at d1
 exact d1
theorem zAz.blk_of (h:zAz w0 w K W B pb so sn sc (some ⟨tb,0,none⟩) n cap s l vs) (ht:l[i]?=some t) (hv:vs[i]?=some ⟨t.key,t.quota,some ⟨g,0,none⟩,on,oc⟩):B g:=by
 obtain ⟨hi,ht⟩:=List.getElem?_eq_some_iff.1 ht
 obtain ⟨hiv,hv⟩:=List.getElem?_eq_some_iff.1 hv
 have d2:=(h.ten.done i hiv hi hi).2 g
 rw [hv] at d2
 exact (d2 rfl).1
theorem Kept.sub {X Y:Nat->Prop} {w w2:World} (h:Kept X w w2) (hs:∀ b,X b->Y b):Kept Y w w2:=⟨h.os,h.tape,h.output,h.size,fun b hl hb=>h.block b hl fun e=>hb (hs b e)⟩
theorem zFx {w:World} {q t:Nat} (h:w.heap[q]?=some (.cells #[.int .i64 0,.int .i64 0,.slice none 0 0,.slice none 0 0] t (0,0))):Below w.heap.size w (putA w q (.int .i64 0) (.int .i64 0) (.slice none 0 0) (.slice none 0 0)):=by
 have e1:=zDF (o:=0) (v:=.int .i64 0) h rfl
 have e2:=zDF (o:=1) (v:=.int .i64 0) ((e1 q).trans h) rfl
 have e3:=zDF (o:=2) (v:=.slice none 0 0) ((e2 q).trans ((e1 q).trans h)) rfl
 have e4:=zDF (o:=3) (v:=.slice none 0 0) ((e3 q).trans ((e2 q).trans ((e1 q).trans h))) rfl
 exact ⟨rfl,rfl,rfl,by simp [putA],fun b _=>(e4 b).trans ((e3 b).trans ((e2 b).trans (e1 b)))⟩
theorem zAz.cut {w7:World} {m' c':Nat} {t':TenV} (h:zAz w0 w K W B pb so sn sc (some ⟨tb,0,none⟩) n cap s l vs) (ht:l[i]?=some t) (hv:vs[i]?=some ⟨t.key,t.quota,some ⟨g,0,none⟩,on,oc⟩) (hkt:t'.key=t.key/\t'.quota=t.quota)
 (hk:Kept (fun b=>b=g) w w7) (ho:TenOwn w7 W B (some ⟨g,0,none⟩) m' c' t') :
 ∃ B' vs',zAz w0 (w7.setCell ⟨tb,i*3+2,none⟩ (.slice (some ⟨g,0,none⟩) m' c')) K W B' pb so sn sc (some ⟨tb,0,none⟩) n cap s (l.set i t') vs':=by
 obtain ⟨hi,ht⟩:=List.getElem?_eq_some_iff.1 ht
 obtain ⟨hiv,hv⟩:=List.getElem?_eq_some_iff.1 hv
 obtain ⟨d1,d2⟩:=h.ten.done i hiv hi hi
 obtain ⟨k1,k2⟩:=h.ten.typ h.box (by decide) (by decide)
 have hb:=k2 i hiv
 rw [hv] at d1 d2 hb
 simp only at d1 d2 hb
 have hBg:=(d2 g rfl).1
 have hpg:pb≠g:=fun e=>hb (by rw [e])
 have hpt:pb≠tb:=fun e=>k1 (by rw [e])
 have hgl:g<w.heap.size:=by
  obtain ⟨us,-,h2,-⟩:=d1
  exact h2.ge.2
 have hself:∀ b,b<w.heap.size->(B b\/w.heap.size<=b/\some (⟨g,0,none⟩:Addr)=some ⟨b,0,none⟩)->B b:=fun b hl h=>h.elim id fun h=>absurd h.1 (by omega)
 have hself7:∀ b,b<w7.heap.size->(B b\/w.heap.size<=b/\some (⟨g,0,none⟩:Addr)=some ⟨b,0,none⟩)->B b:=fun b hl h=>h.elim id fun h=>by
  have e:=h.2
  simp only [zMz,zME,and_true] at e
  omega
 have hkB:Kept B w w7:=⟨hk.os,hk.tape,hk.output,hk.size,fun b hl hb=>hk.block b hl fun e=>hb (by rw [e];exact hBg)⟩
 have h9:=h.ten.renew (a':=some ⟨g,0,none⟩) (m':=m') (c':=c') (t':=t') hiv hi (by rw [ht];exact hkt) (w5:=w7) (by rw [hv];exact ⟨hk.os,hk.tape,hk.output,hk.size,fun b hl hb=>hk.block b hl fun e=>hb (by rw [e])⟩) h.hw (fun q hq=>.inl (by rw [hv];exact hq)) (by
  obtain ⟨us,u1,u2,u3⟩:=ho
  exact ⟨us,u1,u2,fun k a b=>⟨(u3 k a b).1,(u3 k a b).2.sub hself7⟩⟩)
 refine ⟨_,_,⟨(zMu _ _ _ _ hpt).trans ((hk.block _ (zAb h.box) hpg).trans h.box),h.sto.step (hkB.set (.inr (h.ten.blk tb rfl)) _) hself,by rw [zMK];exact h9,h.hK,.inl h.hB,?_⟩⟩
 have h1:(w7.setCell ⟨tb,i*3+2,none⟩ (.slice (some ⟨g,0,none⟩) m' c')).heap.size=w7.heap.size:=by simp
 have:=hk.size
 have:=h.hw
 omega
end
structure Up (W u:World):Prop where
 bel:Below W.heap.size W u
 kid:∀ b,W.heap.size<=b->b<u.heap.size->NoKid u b
theorem Up.refl (W:World):Up W W:=⟨zMy _ _,fun b h1 h2=>absurd h2 (Nat.not_lt_of_le h1)⟩
theorem Up.dr {W u:World} (h:Up W u):Up W u.drew:=⟨h.bel.drew,fun b h1 h2=>(h.kid b h1 h2).same rfl⟩
theorem Up.alloc {W u:World} {cs:Array Value} {t:TypeId} (h:Up W u) (hc:∀ (o:Nat) (v:Value),cs[o]?=some v->(∃ q,v=.string q)\/∃ a n c,v=.slice a n c):Up W (u.alloc (.cells cs t)):=by
 refine ⟨h.bel.alloc h.bel.size _,fun b h1 h2=>?_⟩
 rcases (show b<u.heap.size\/b=u.heap.size from by simp at h2;omega) with e | rfl
 . exact (h.kid b h1 e).same (zM5 _ _ _ e)
 . have hb:=heap_alloc_new u (.cells cs t)
   have hcell:∀ o v,(u.alloc (.cells cs t)).cell? ⟨u.heap.size,o,none⟩=some v->(∃ q,v=.string q)\/∃ a n c,v=.slice a n c:=fun o v hv=>hc o v (by rw [zAa hb] at hv;exact hv)
   refine ⟨fun o x y z k _ _=>?_,fun o x k=>?_⟩
   all_goals rcases hcell _ _ k with ⟨_,e⟩ | ⟨_,_,_,e⟩<;>cases e
theorem Up.one {W u:World} {t:TypeId} (h:Up W u):Up W (u.alloc (.cells #[.slice none 0 0] t)):=h.alloc fun o v hv=>by
 rcases (show o=0\/1<=o from by omega) with rfl | e
 . simp at hv;exact .inr ⟨_,_,_,hv.symm⟩
 . rw [zMV (by simp;omega)] at hv;cases hv
theorem Up.three {W u:World} {t:TypeId} (h:Up W u):Up W (u.alloc (.cells #[.string ⟨#[]⟩,.slice none 0 0,.slice none 0 0] t)):=h.alloc fun o v hv=>by
 rcases (show o=0\/o=1\/o=2\/3<=o from by omega) with rfl | rfl | rfl | e
 . simp at hv;exact .inl ⟨_,hv.symm⟩
 . simp at hv;exact .inr ⟨_,_,_,hv.symm⟩
 . simp at hv;exact .inr ⟨_,_,_,hv.symm⟩
 . rw [zMV (by simp;omega)] at hv;cases hv
def Bel (W u:World):Prop:=Below W.heap.size W u
theorem Bel.drew (W:World):Bel W W.drew:=(zMy _ _).drew
theorem Bel.refl (W:World):Bel W W:=zMy _ _
theorem Bel.dr {W u:World} (h:Bel W u):Bel W u.drew:=Below.drew h
theorem Bel.alloc {W u:World} (h:Bel W u) (o:Obj):Bel W (u.alloc o):=Below.alloc h h.size o
theorem Bel.set {W u:World} {q j:Nat} (h:Bel W u) (hq:W.heap.size<=q) (v:Value):Bel W (u.setCell ⟨q,j,none⟩ v):=Below.setCell h (p:=⟨q,j,none⟩) hq v
theorem Bel.call {W u w':World} (h:Below W.heap.size W u) (hb:Below u.heap.size u w'):Bel W w':=Below.trans h (hb.mono h.size)
structure Aft (W u w':World) (ao:Option Addr) (n cap:Nat) (t:List Blk):Prop where
 far:∀ g o,ao=some ⟨g,o,none⟩->t≠[]->W.heap.size<=g
 hang:∀ wx,Kept (fun b=>W.heap.size<=b/\b<u.heap.size) w' wx->StoRow wx ao t
 len:t.length=n
 cap:Capd ao n cap
theorem Aft.of {W u w':World} {ao:Option Addr} {n cap:Nat} {t:List Blk} (hu:Up W u) (hb:Below u.heap.size u w') (hl:t.length=n) (hs:StoAt u.heap.size w' ao t) (hc:Capd ao n cap) (k4:Kid4 t):Aft W u w' ao n cap t:=
 ⟨fun g o e h=>zMN hu.bel.size (hs.2 g o e h),fun wx hk=>zGw hs k4 (fun b _ hb2=>⟨hb2.2,(hu.kid b hb2.1 hb2.2).same (hb.block b hb2.2)⟩) wx hk,hl,hc⟩
theorem Aft.done {W u w' wx:World} {ao:Option Addr} {n cap:Nat} {t:List Blk} (h:Aft W u w' ao n cap t) (hk:Kept (fun b=>W.heap.size<=b/\b<u.heap.size) w' wx):StoAt W.heap.size wx ao t/\t.length=n/\Capd ao n cap:=⟨⟨h.hang wx hk,h.far⟩,h.len,h.cap⟩
theorem zA1.done {W u w' wx:World} {fo so:Option Addr} {fn fc sn sc:Nat} {x:SetV} (h:zA1 u.heap.size w' fo fn fc so sn sc x) (hs:W.heap.size<=u.heap.size) (hk:Kept (fun b=>W.heap.size<=b/\b<u.heap.size) w' wx):zA1 W.heap.size wx fo fn fc so sn sc x:=
 (h.go hk.size fun b h1 h2=>hk.block b h2 fun h3=>by omega).weaken hs
end Go.Proofs.YtfmgdjgedhnmeaaGreat
