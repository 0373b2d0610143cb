/- What set.Do answers. No program in sight. · What set.Do, Clone and Destroy leave, and how the results are laid. No walk. · set.at's snaps: one is forgotten, or gone back to. · set.Do does what is asked of a set. · What set.Look, Clone and Destroy answer; a row of texts; an answer in memory. No walk. · A region that draws its order: it reads, makes one call, and takes that call's answer apart: one walk. · set.Look looks at a set. · rookerylaw.gathered: a closed fact. -/
import Derived.Deep.CutBlock
import Derived.StillTail
import Derived.StillTactics
import Derived.KernelRfl
import Derived.Test.YtfmgdjgedhnmeaaGreatFileOver
import Derived.Test.YtfmgdjgedhnmeaaGreatSnapsP
import Derived.Test.YtfmgdjgedhnmeaaGreatWrite
import Derived.Test.YtfmgdjgedhnmeaaGreatFileFacts
import Derived.Test.YtfmgdjgedhnmeaaGreatAtDo
import Derived.Test.YtfmgdjgedhnmeaaGreatSnapNew
import Derived.Test.YtfmgdjgedhnmeaaGreatFileWrite
import Derived.Test.YtfmgdjgedhnmeaaGreatFiled
namespace Go.Proofs.YtfmgdjgedhnmeaaGreat
open Go.RowKit
set_option linter.unusedVariables false
set_option linter.unusedSimpArgs false
def noSet:SetV:=⟨⟨#[]⟩,[],[]⟩
def askR (wr:List Blk->Int->List Ent->AskV->List Blk×List Ent×Int) (s:List Blk) (key:Int) (x:SetV) (a:AskV):List Blk×SetV×Int:=
 if a.kind=3\/a.kind=4 then ((wr s key x.files a).1,{ x with files:=(wr s key x.files a).2.1 },(wr s key x.files a).2.2)
 else if a.kind=5\/a.kind=6 then ((moveR s x.files a).1,{ x with files:=(moveR s x.files a).2.1 },(moveR s x.files a).2.2)
 else if a.kind=7\/a.kind=8\/a.kind=9 then snapsR s x a else (s,x,4)
def doR (wr:List Blk->Int->List Ent->AskV->List Blk×List Ent×Int) (s:List Blk) (key:Int) (x:SetV) (a:AskV):List Blk×SetV×Int:=
 if setE s key x≠0 then ([],noSet,setE s key x) else if heldE s x≠0 then ([],noSet,heldE s x)
 else if (askR wr s key x a).2.2≠0 then ([],noSet,(askR wr s key x a).2.2) else askR wr s key x a
theorem noInt {w:World} {p:Nat} (h:∀ o k x,w.cell? ⟨p,o,none⟩≠some (.int k x)):NoKid w p/\NoEnt w p:=⟨⟨fun o x y z hx _ _=>h _ _ _ hx,fun o x=>h _ _ _⟩,fun j q x y _ hx _=>h _ _ _ hx⟩
theorem zL0 {w:World} {p t l c:Nat} {a:Option Addr} (hp:w.heap[p]?=some (.cells #[.slice a l c] t (0,0))):NoKid w p/\NoEnt w p:=noInt fun o k x hx=>by
 rw [zAa hp] at hx
 rcases (show o=0\/1<=o from by omega) with rfl | e
 . simp at hx
 . rw [zMV (by simp;omega)] at hx;cases hx
theorem zKs {w:World} {p t fn fc sn sc:Nat} {nm:ByteArray} {fo so:Option Addr} (hp:w.heap[p]?=some (.cells #[.string nm,.slice fo fn fc,.slice so sn sc] t (0,0))):NoKid w p/\NoEnt w p:=noInt fun o k x hx=>by
 rw [zAa hp] at hx
 rcases (show o=0\/o=1\/o=2\/3<=o from by omega) with rfl | rfl | rfl | e
 . simp at hx
 . simp at hx
 . simp at hx
 . rw [zMV (by simp;omega)] at hx;cases hx
theorem AtIn.low {w w':World} {B P base bx:Nat} {key:Int} {ao:Option Addr} {n cap:Nat} {s:List Blk} {fo:Option Addr} {fn fc:Nat} {so:Option Addr} {sn sc:Nat} {x:SetV} {vs:List Snv} {p:Nat} (h:AtIn w B P base bx key ao n cap s fo fn fc so sn sc x vs) (hk:NoKid w p/\NoEnt w p)
 (hp:p<base) (hpP:p≠P) (hkeep:∀ b,b≠p->w'.heap[b]?=w.heap[b]?) (hs:w'.heap.size=w.heap.size):AtIn w' B P base bx key ao n cap s fo fn fc so sn sc x vs:=by
 have hP:=h.hP
 have hB:=h.hB
 refine ⟨(hkeep B (by omega)).trans h.abox,(hkeep P (Ne.symm hpP)).trans h.sbox,zBX h.own h.kid4 hk.1 (fun g h1 h2=>by have:=(h.own.own_at h1 h2).le;omega) (fun b hb _=>hkeep b hb),OwnXb.off h.ox (.inl hk.2) (fun e=>by have:=(h.fge p e).1;omega) (fun e=>by have:=(h.sge p e).1;omega) (by rw [hs];exact zMs _) (fun b hb _=>hkeep b hb),h.slen,h.n4,h.kid4,h.hP,h.hPx,h.hB,by rw [hs];exact h.hbx,h.row,h.fB,h.sB⟩
def putW (X:World) (k2 k3:Nat) (v u0 u1 u2:Value):World:=(((X.setCell ⟨k2,0,none⟩ v).setCell ⟨k3,0,none⟩ u0).setCell ⟨k3,1,none⟩ u1).setCell ⟨k3,2,none⟩ u2
theorem zCK {X:World} {k2 k3 t2 t3 l c fn fc sn sc:Nat} {x0 fo so:Option Addr} {nm:ByteArray} (p3:X.heap[k2]?=some (.cells #[.slice x0 l c] t2 (0,0))) (p4:X.heap[k3]?=some (.cells #[.string nm,.slice fo fn fc,.slice so sn sc] t3 (0,0))) (h23:k2≠k3) (v u0 u1 u2:Value) :
 (putW X k2 k3 v u0 u1 u2).heap[k2]?=some (.cells #[v] t2 (0,0))/\(putW X k2 k3 v u0 u1 u2).heap[k3]?=some (.cells #[u0,u1,u2] t3 (0,0))/\(∀ B w0,Below B w0 X->B<=k2->B<=k3->Below B w0 (putW X k2 k3 v u0 u1 u2))/\
 (∀ (B P base bx:Nat) (key:Int) (ao:Option Addr) (n cap:Nat) (s:List Blk) (fo:Option Addr) (fn fc:Nat) (so:Option Addr) (sn sc:Nat) (x:SetV) (vs:List Snv),AtIn X B P base bx key ao n cap s fo fn fc so sn sc x vs->k2<base->k3<base->k2≠P->k3≠P->AtIn (putW X k2 k3 v u0 u1 u2) B P base bx key ao n cap s fo fn fc so sn sc x vs):=by
 have q3:=one_setCell (u:=v) p3
 have q4:(X.setCell ⟨k2,0,none⟩ v).heap[k3]?=_:=zAh p4 (Ne.symm h23)
 have r0:=zAe q4 0 u0
 have r1:=zAe r0 1 u1
 have r2:=zAe r1 2 u2
 simp only [zMS,zM7,zM9] at r2
 have hne:∀ b,b≠k3->(putW X k2 k3 v u0 u1 u2).heap[b]?=(X.setCell ⟨k2,0,none⟩ v).heap[b]?:=fun b hb=>((zMu _ _ _ _ hb).trans (zMu _ _ _ _ hb)).trans (zMu _ _ _ _ hb)
 refine ⟨(hne k2 h23).trans q3,r2,fun B w0 h h1 h2=>?_,fun B P base bx key ao n cap s fo fn fc so sn sc x vs h h1 h2 h3 h4=>?_⟩
 . exact (((h.setCell (p:=⟨k2,0,none⟩) h1 _).setCell (p:=⟨k3,0,none⟩) h2 _).setCell (p:=⟨k3,1,none⟩) h2 _).setCell (p:=⟨k3,2,none⟩) h2 _
 . have hA1:=h.low (w':=X.setCell ⟨k2,0,none⟩ v) (zL0 p3) h1 h3 (fun b hb=>zMu _ _ _ _ hb) (by simp)
   exact hA1.low (zKs q4) h2 h4 hne (by simp [putW])
theorem OwnX.since {w w':World} {base:Nat} {fo:Option Addr} {fn fc:Nat} {so:Option Addr} {sn sc:Nat} {x:SetV} {vs:List Snv} (h:OwnX w base fo fn fc so sn sc x vs) (hk:∀ b,base<=b->b<w.heap.size->w'.heap[b]?=w.heap[b]?) (hs:w.heap.size<=w'.heap.size):OwnX w' base fo fn fc so sn sc x vs:=by
 have hf:∀ g,fo=some ⟨g,0,none⟩->base<=g:=fun g hg=>by have:=h.files;rw [hg] at this;exact this.ge.1
 have hso:∀ g,so=some ⟨g,0,none⟩->base<=g:=fun g hg=>by have:=h.snaps;rw [hg] at this;exact this.ge.1
 refine ⟨h.vlen,h.files.other fun g hg hl=>hk g (hf g hg) hl,h.snaps.other fun g hg hl=>hk g (hso g hg) hl,h.apart,fun i h1 h2=>?_⟩
 obtain ⟨i1,i2,i3,i4⟩:=h.each i h1 h2
 exact ⟨i1,i2,i3.keep hs (fun b hb hl=>hk b (Nat.le_of_not_lt fun h3=>hb (.inl h3)) hl),i4⟩
def zA1 (K:Nat) (w:World) (fo:Option Addr) (fn fc:Nat) (so:Option Addr) (sn sc:Nat) (x:SetV):Prop:=
 SetIn w fo fn fc so sn sc x/\∀ w',w.heap.size<=w'.heap.size->(∀ b,K<=b->b<w.heap.size->w'.heap[b]?=w.heap[b]?)->SetIn w' fo fn fc so sn sc x
theorem zA1.go {K:Nat} {w w':World} {fo:Option Addr} {fn fc:Nat} {so:Option Addr} {sn sc:Nat} {x:SetV} (h:zA1 K w fo fn fc so sn sc x) (hs:w.heap.size<=w'.heap.size) (hk:∀ b,K<=b->b<w.heap.size->w'.heap[b]?=w.heap[b]?):zA1 K w' fo fn fc so sn sc x:=
 ⟨h.2 w' hs hk,fun w2 h1 h2=>h.2 w2 (zMN hs h1) fun b hb hl=>(h2 b hb (zMw hl hs)).trans (hk b hb hl)⟩
theorem zA1.weaken {K K':Nat} {w:World} {fo:Option Addr} {fn fc:Nat} {so:Option Addr} {sn sc:Nat} {x:SetV} (h:zA1 K w fo fn fc so sn sc x) (hK:K'<=K):zA1 K' w fo fn fc so sn sc x:=
 ⟨h.1,fun w2 h1 h2=>h.2 w2 h1 fun b hb hl=>h2 b (zMN hK hb) hl⟩
theorem OwnX.from_ {w:World} {base K:Nat} {fo:Option Addr} {fn fc:Nat} {so:Option Addr} {sn sc:Nat} {x:SetV} {vs:List Snv} (h:OwnX w base fo fn fc so sn sc x vs) (hK:K<=base):zA1 K w fo fn fc so sn sc x:=
 ⟨OwnXb.is h,fun w2 h1 h2=>OwnXb.is (h.since (fun b hb hl=>h2 b (zMN hK hb) hl) h1)⟩
theorem zIy {w w':World} {p:Nat} {ao:Option Addr} {s:List Blk} (h:StoRow w ao s) (hp:∀ o k x,w.cell? ⟨p,o,none⟩≠some (.int k x)) (hk:∀ b,b≠p->w'.heap[b]?=w.heap[b]?):StoRow w' ao s:=by
 have hrow:∀ (k:IntKind) ao xs,Row k w ao xs->Row k w' ao xs:=fun k ao xs hr=>by
  rcases zMJ xs.length with h0 | h0
  . exact .inl (zMv h0)
  . obtain ⟨b,o,rfl,hc⟩:=hr.at 0 h0
    have hne:b≠p:=by
     rintro rfl
     exact hp _ _ _ (hc 0 h0)
    exact .inr ⟨b,o,rfl,fun i hi=>(zMB (a:=⟨b,o+i,none⟩) (hk b hne)).trans (hc i hi)⟩
 have hsl:∀ (k:IntKind) v xs,Sl k w v xs->Sl k w' v xs:=fun k v xs ⟨ao,cap,hv,hr,hc⟩=>⟨ao,cap,hv,hrow k ao xs hr,hc⟩
 rcases h with rfl | ⟨b,o,rfl,h⟩
 . exact .inl rfl
 . refine .inr ⟨b,o,rfl,fun i hi=>?_⟩
   have hB:=h i hi
   have hne:b≠p:=by
    rintro rfl
    exact hp _ _ _ hB.refs
   have hc:∀ j,w'.cell? ⟨b,j,none⟩=w.cell? ⟨b,j,none⟩:=fun j=>zMB (a:=⟨b,j,none⟩) (hk b hne)
   obtain ⟨v,h1,h2⟩:=hB.kids
   obtain ⟨u,h3,h4⟩:=hB.bytes
   exact ⟨(hc _).trans hB.refs,(hc _).trans hB.level,⟨v,(hc _).trans h1,hsl _ _ _ h2⟩,⟨u,(hc _).trans h3,hsl _ _ _ h4⟩⟩
theorem put_sto {X:World} {k2 k3 t2 t3 l c fn fc sn sc:Nat} {x0 fo so:Option Addr} {nm:ByteArray} (p3:X.heap[k2]?=some (.cells #[.slice x0 l c] t2 (0,0))) (p4:X.heap[k3]?=some (.cells #[.string nm,.slice fo fn fc,.slice so sn sc] t3 (0,0))) (h23:k2≠k3) (v u0 u1 u2:Value) {ao:Option Addr} {s:List Blk} (h:StoRow X ao s) :
 StoRow (putW X k2 k3 v u0 u1 u2) ao s:=by
 have q4:(X.setCell ⟨k2,0,none⟩ v).heap[k3]?=_:=zAh p4 (Ne.symm h23)
 have h1:=zIy (w':=X.setCell ⟨k2,0,none⟩ v) h (fun o k x hx=>by
  rw [zAa p3] at hx
  rcases (show o=0\/1<=o from by omega) with rfl | e
  . simp at hx
  . rw [zMV (by simp;omega)] at hx;cases hx) (fun b hb=>zMu _ _ _ _ hb)
 exact zIy (p:=k3) h1 (fun o k x hx=>by
  rw [zAa q4] at hx
  rcases (show o=0\/o=1\/o=2\/3<=o from by omega) with rfl | rfl | rfl | e
  . simp at hx
  . simp at hx
  . simp at hx
  . rw [zMV (by simp;omega)] at hx;cases hx) (fun b hb=>((zMu _ _ _ _ hb).trans (zMu _ _ _ _ hb)).trans (zMu _ _ _ _ hb))
theorem zLk {X:World} {k2 k3:Nat} {v u0 u1 u2:Value} (b:Nat) (h2:b≠k2) (h3:b≠k3):(putW X k2 k3 v u0 u1 u2).heap[b]?=X.heap[b]?:=
 (((zMu _ _ _ _ h3).trans (zMu _ _ _ _ h3)).trans (zMu _ _ _ _ h3)).trans (zMu _ _ _ _ h2)
theorem put_size {X:World} {k2 k3:Nat} {v u0 u1 u2:Value}:(putW X k2 k3 v u0 u1 u2).heap.size=X.heap.size:=by simp [putW]
def StoAt (K:Nat) (w:World) (ao:Option Addr) (s:List Blk):Prop:=StoRow w ao s/\∀ g o,ao=some ⟨g,o,none⟩->s≠[]->K<=g
def DoEnd (e:Ending) (w w':World) (r:List Blk×SetV×Int):Prop:=
 ∃ (ao:Option Addr) (n cap:Nat) (fo:Option Addr) (fn fc:Nat) (so:Option Addr) (sn sc:Nat),e=.returned (.tuple #[.agg #[.slice ao n cap],.agg #[.string r.2.1.nm,.slice fo fn fc,.slice so sn sc],.int .i64 r.2.2])/\Below w.heap.size w w'/\r.1.length=n/\StoAt w.heap.size w' ao r.1/\Capd ao n cap/\zA1 w.heap.size w' fo fn fc so sn sc r.2.1
theorem zI4 (w:World):SetIn w none 0 0 none 0 0 noSet:=⟨rfl,rfl,.inl rfl,⟨[],rfl,.inl rfl,fun i h=>absurd h (by simp)⟩,⟨zMs _,fun _=>rfl⟩,⟨zMs _,fun _=>rfl⟩⟩
theorem zB0 {w w':World} {ce:Int} (hb:Below w.heap.size w w'):DoEnd (.returned (.tuple #[.agg #[.slice none 0 0],.agg #[.string ⟨#[]⟩,.slice none 0 0,.slice none 0 0],.int .i64 ce])) w w' ([],noSet,ce):=
 ⟨none,0,0,none,0,0,none,0,0,rfl,hb,rfl,⟨.inl rfl,fun _ _ _ h=>absurd rfl h⟩,⟨zMs _,fun _=>rfl⟩,zI4 w',fun w2 _ _=>zI4 w2⟩
theorem OwnSto.read {w:World} {base n cap:Nat} {ao:Option Addr} {s:List Blk} (h:OwnSto w base (.slice ao n cap) s):s.length=n/\StoRow w ao s/\Capd ao n cap:=by
 obtain ⟨a',c',h1,h2,h3⟩:=h.sto
 simp only [Value.slice.injEq] at h1
 obtain ⟨rfl,rfl,rfl⟩:=h1
 exact ⟨rfl,h3,h2⟩
theorem OwnSto.from_ {w:World} {base n cap:Nat} {ao:Option Addr} {s:List Blk} (h:OwnSto w base (.slice ao n cap) s):∀ g o,ao=some ⟨g,o,Option.none⟩->s≠[]->base<=g:=by
 obtain ⟨ao',cap',e1,-,h⟩:=h
 simp only [Value.slice.injEq] at e1
 obtain ⟨rfl,-,-⟩:=e1
 intro g o e hs
 rcases h with h | ⟨g',e2,hr⟩
 . exact absurd h hs
 . rw [e2] at e
   simp only [zMz,zME] at e
   have:=hr.le
   omega
theorem zIs (w:World) (a b c d f:Obj) :
 Below w.heap.size w (((((w.alloc a).alloc b).alloc c).alloc d).alloc f)/\(((((w.alloc a).alloc b).alloc c).alloc d).alloc f).heap[w.heap.size]?=some a/\(((((w.alloc a).alloc b).alloc c).alloc d).alloc f).heap[w.heap.size+1]?=some b/\(((((w.alloc a).alloc b).alloc c).alloc d).alloc f).heap[w.heap.size+1+1]?=some c/\
  (((((w.alloc a).alloc b).alloc c).alloc d).alloc f).heap[w.heap.size+1+1+1]?=some d/\(((((w.alloc a).alloc b).alloc c).alloc d).alloc f).heap[w.heap.size+1+1+1+1]?=some f/\(((((w.alloc a).alloc b).alloc c).alloc d).alloc f).heap.size=w.heap.size+5:=by
 obtain ⟨h0,h1,h2,h3,h4,h5⟩:=zB6 w a b c d
 refine ⟨h0.alloc (by omega) _,?_,?_,?_,?_,?_,by simp⟩
 . rw [zM5 _ _ _ (by omega)];exact h1
 . rw [zM5 _ _ _ (by omega)];exact h2
 . rw [zM5 _ _ _ (by omega)];exact h3
 . rw [zM5 _ _ _ (by omega)];exact h4
 . have:=heap_alloc_new ((((w.alloc a).alloc b).alloc c).alloc d) f
   rw [h5] at this
   exact this
theorem zMd (f:Nat):∀ (s:List Blk) (a:Int),(zAj f s a).length=s.length:=by
 induction f with
 | zero=>intro s a;rfl
 | succ f ih=>
  intro s a
  unfold zAj
  split
  . rfl
  . split
    . exact zAK _ _ _
    . have h:∀ (ks:List Int) (t:List Blk),(ks.foldl (zAj f) t).length=t.length:=by
       intro ks
       induction ks with
       | nil=>intro t;rfl
       | cons k ks ik=>intro t;rw [zNa,ik,ih]
      rw [h,zMK]
theorem zGQ (s:List Blk) (ks:List Int):(lessL s ks).length=s.length:=by
 unfold lessL
 induction ks generalizing s with
 | nil=>rfl
 | cons k ks ih=>rw [zNa,ih,zMd]
section
variable {w w1:World} {B P base bx:Nat} {key:Int} {ao:Option Addr} {n cap:Nat} {s:List Blk} {fo:Option Addr} {fn fc:Nat} {so:Option Addr} {sn sc:Nat} {x:SetV} {vs:List Snv} {p:Nat}
theorem AtIn.goneS (h:AtIn w B P base bx key ao n cap s fo fn fc so sn sc x vs) (k:Nat) (ho:snvK.Own w1 bx (.slice so p sc) (vs.eraseIdx k)) (hb:Below bx w w1) (hk:∀ b,b<w.heap.size->so≠some ⟨b,0,none⟩->w1.heap[b]?=w.heap[b]?) :
 AtIn (w1.setCell ⟨B,4,none⟩ (.slice so p sc)) B P base bx key ao n cap s fo fn fc so p sc { x with snaps:=x.snaps.eraseIdx k } (vs.eraseIdx k):=by
 have ab:=(hk B (zAb h.abox) h.sB).trans h.abox
 have hb2:=zAe ab 4 (.slice so p sc)
 simp only [zMS,zM7,zM9] at hb2
 have hboth:Both (fun (u:Snv) (y:Snp)=>u.nm=y.nm/\u.n=y.files.length/\zA9 (badX bx fo so) w1 u.ao y.files/\Capd u.ao u.n u.cap) vs x.snaps:=by
  refine ⟨h.ox.vlen,fun i h1 h2=>?_⟩
  obtain ⟨i1,i2,i3,i4⟩:=h.ox.each i h1 h2
  exact ⟨i1,i2,i3.keep hb.size fun b hb2 hl=>hk b hl fun e=>hb2 (.inr (.inr e)),i4⟩
 have he:=Both.erase k hboth
 exact h.snapsRow (w1:=w1) hk hb.size ho (fun g hg=>.inl hg) he.1 he.2 hb2 (fun b hb=>zMu _ _ _ _ hb) (by simp)
theorem AtIn.filesNew (h:AtIn w B P base bx key ao n cap s fo fn fc so sn sc x vs) {a5:Option Addr} {n5 c5:Nat} {l:List Ent} (ho:entK.Own w1 w.heap.size (.slice a5 n5 c5) l) (hb:Below w.heap.size w w1) :
 AtIn (w1.setCell ⟨B,3,none⟩ (.slice a5 n5 c5)) B P base bx key ao n cap s a5 n5 c5 so sn sc { x with files:=l } vs:=by
 have ab:=(hb.block B (zAb h.abox)).trans h.abox
 have hb2:=zAe ab 3 (.slice a5 n5 c5)
 simp only [zMS,zM7,zM9] at hb2
 exact h.files (w1:=w1) (fun b hl _=>hb.block b hl) hb.size (ho.weaken h.hbx) (fun g hg=>.inr (by subst hg;exact ho.ge.1)) hb2 (fun b hb=>zMu _ _ _ _ hb) (by simp)
end
set_option maxRecDepth 100000 in
set_option maxHeartbeats 16000000 in
theorem zIL (w:World) (B P base bx n cap fn fc sn sc bn bc:Nat) (key:Int) (ao fo so ba:Option Addr) (s:List Blk) (x:SetV) (vs:List Snv) (a:AskV) (hA:AtIn w B P base bx key ao n cap s fo fn fc so sn sc x vs) (hsm:zCM x) (hrise:zAw (x.snaps.map Snp.nm))
 (hlv:Lv s) (hri:zF4 s) (hlow:zAC s (rootsF x.files)) (hlows:∀ y∈x.snaps,zAC s (rootsF y.files)) (hk7:¬ a.kind=7) :
 Calls Tryz.prog 66 #[.pointer (some ⟨B,0,none⟩),.agg #[.int .i64 a.kind,.string a.sname,.string a.file,.string a.dest,.int .i64 a.at_,.int .i64 a.n,.slice ba bn bc]] w fun e w'=>e=.returned (.int .i64 (snapsR s x a).2.2)/\SnEnd w w' B P base bx key ao n cap (snapsR s x a):=by
 have hbase:base<=w.heap.size:=by have:=hA.hP;have:=hA.hPx;have:=hA.hbx;omega
 have hbxw:=hA.hbx
 have hfgw:=hA.fge
 have hsgw:=hA.sge
 have hBw:=zAb hA.abox
 have hfl:=hA.ox.len.1
 have hsl:=hA.ox.len.2
 have hf6:fn<=6:=by have:=hsm.files;omega
 have hs3:sn<=3:=by have:=hsm.snaps;omega
 have hf6':(fn:Int)<=6:=by omega
 have hs3':(sn:Int)<=3:=by omega
 obtain ⟨kind,aset,afile,ato,aat,an,abytes⟩:=a
 have hb0:=bA0 w (.cells #[.int .i64 kind,.string aset,.string afile,.string ato,.int .i64 aat,.int .i64 an,.slice ba bn bc] 30)
 have q0:=heap_alloc_new w (.cells #[.int .i64 kind,.string aset,.string afile,.string ato,.int .i64 aat,.int .i64 an,.slice ba bn bc] 30)
 have hA1:=hA.mono hb0
 obtain ⟨RD,hRD⟩:∃ RD,snapsR s x ⟨kind,aset,afile,ato,aat,an,abytes⟩=RD:=⟨_,rfl⟩
 rw [hRD]
 unfold snapsR at hRD
 simp only at hRD
 obtain ⟨PN,hPN⟩:∃ PN,placeN (x.snaps.map Snp.nm) ato=PN:=⟨_,rfl⟩
 obtain ⟨PB,hPB⟩:∃ PB,placeB (x.snaps.map Snp.nm) ato=PB:=⟨_,rfl⟩
 have hple:PN<=sn:=by rw [<- hPN,hsl];have:=zBt (x.snaps.map Snp.nm) ato;rwa [zMA] at this
 have hplt:PB=true->PN<sn:=fun h=>by rw [<- hPN,hsl];have:=(zAU (hPB.trans h)).1;rwa [zMA] at this
 have HPLT:=lH hplt
 have HFL:=lH hfl
 have HSL:=lH hsl
 have HNM:=lH hA.ox.names
 have HVL:Hid (vs.length=sn):=lH (hA.ox.vlen.trans hsl.symm)
 have HP1:=lH (fun (u:World) (hr:snvK.Row u so vs)=>zGu u x.nm fo so fn fc sn sc vs ato HVL.out (by omega) hr (by rw [HNM.out];exact hrise))
 rw [HNM.out,hPN,hPB] at HP1
 rw [hPN,hPB] at hRD
 have HRD:=lH hRD
 have HFGW:=lH hfgw
 have HSGW:=lH hsgw
 have HLOW:=lH hlow
 have HLOWS:=lH hlows
 have HLV:=lH hlv
 have HRI:=lH hri
 have HSM:=lH hsm
 clear hRD hPN hPB hplt hfl hsl hrise hA hfgw hsgw hlow hlows hlv hri hsm HNM
 have hA1':=hA1
 go_enter Tryz.func66,Tryz.ntmps66
 go_wp2_with fail
 generalize w.alloc (.cells #[.int .i64 kind,.string aset,.string afile,.string ato,.int .i64 aat,.int .i64 an,.slice ba bn bc] 30)=W0 at *
 refine (zBR _ _).mono ?_
 rintro e w' ⟨rfl,rfl⟩
 have hbw0:Below base w w':=hb0.mono hbase
 cases hnb:nameB ato with
 | false=>
  have HR:Hid (RD=(s,x,1)):=lH (HRD.out.symm.trans (if_pos hnb))
  clear hA1 hA1' HRD HP1
  go_wp2
  go_ret
  rw [HR.out]
  exact ⟨rfl,hbw0,fun h=>by simp at h⟩
 | true=>
  have hR:=HRD.out.symm
  rw [if_neg (by rw [hnb];simp)] at hR
  have HR0:=lH hR
  clear hR HRD hA1'
  replace hnb:=lH hnb
  have a2:=zAa hA1.abox 2
  have a3:=zAa hA1.abox 3
  have a4:=zAa hA1.abox 4
  have k3:=zAa q0 3
  simp only [cA1,cA2,cA3] at a2 a3 a4 k3
  have lA:=zAb hA1.abox
  have lK:=zAb q0
  obtain ⟨sa,scc,hsv,hsr,-,-⟩:=hA1.ox.snaps.row
  simp only [Value.slice.injEq] at hsv
  obtain ⟨rfl,-,rfl⟩:=hsv
  have HPM:=lH (fun v=>HP1.out (mix w' v) (hsr.mono (zAZ _ _)))
  clear hsr HP1
  go_wp2_with fail
  refine zAT (by kernel_rfl) (by kernel_rfl) ?_
  repeat (go_big_quiet_step (first
   | (go_at_call 63;refine zBq (v:=.tuple #[.int .i64 PN,.bool PB]) ?_;with_reducible exact HPM.out _)))
  refine wpQuiet_nil ?_
  intro w2 hb2
  have hA2:=hA1.mono hb2
  have q2:=Zm hb2 q0
  have hbw2:Below base w w2:=hbw0.trans (hb2.mono (by have:=hA1.hP;have:=hA1.hPx;have:=hA1.hbx;omega))
  have hsz2:w.heap.size<w2.heap.size:=zAb q2
  clear a2 a3 a4 k3 lA lK HPM hA1 q0 hb2 hbw0 hb0
  have a0:=zAa hA2.abox 0
  have a3:=zAa hA2.abox 3
  have a4:=zAa hA2.abox 4
  have k0:=zAa q2 0
  have k3:=zAa q2 3
  simp only [cA1,cA2,cA3] at a0 a3 a4 k0 k3
  have lA:=zAb hA2.abox
  have lK:=zAb q2
  have h7:¬ kind=7:=hk7
  have h7':(kind==7)=false:=by rw [beq_eq_false_iff_ne];exact h7
  have hR:=HR0.out
  rw [if_neg h7] at hR
  clear hk7
  cases PB with
  | false=>
   have HR:Hid (RD=(s,x,5)):=lH (hR.trans (if_pos rfl))
   clear hA2 HR0 hR
   go_wp2
   go_ret
   rw [HR.out]
   exact ⟨rfl,hbw2,fun h=>by simp at h⟩
  | true=>
   rw [if_neg (by simp)] at hR
   have hlt:=HPLT.out rfl
   have hkv:PN<vs.length:=by have:=HVL.out;omega
   have hkx:PN<x.snaps.length:=by have:=HSL.out;omega
   have hea:snpAt x.snaps PN=x.snaps[PN]:=by unfold snpAt;rw [zMt hkx];rfl
   rw [hea] at hR
   obtain ⟨gs,hgs,hgb,hgl,hgz,hE⟩:=hA2.ox.snapAt PN hkv
   obtain ⟨-,i2,-,i4⟩:=hA2.ox.each PN hkv hkx
   have hfar:=hA2.snapFar PN hkv hkx
   have hlf:=HLOWS.out _ (zMr hkx)
   have h6:=HSM.out.each _ (zMr hkx)
   have d0:=hE.nm
   have d1:=hE.sl
   obtain ⟨fls,hfls⟩:∃ fls,x.snaps[PN].files=fls:=⟨_,rfl⟩
   obtain ⟨u,hu⟩:∃ u,vs[PN]=u:=⟨_,rfl⟩
   rw [hfls] at hR i2 hfar hlf h6
   rw [hu] at d0 d1 i2 i4 hfar
   obtain ⟨unm,uo,un,uc⟩:=u
   simp only at d0 d1 i2 i4 hfar
   have HUN:=lH i2
   have HUC:=lH i4
   have HLF:=lH hlf
   have hun6:un<=6:=by omega
   have hPN':(PN:Int)<sn:=by omega
   have hbase2:base<=w2.heap.size:=zMN hbase (zNQ hsz2)
   subst hgs
   have HA2:=lH hA2
   have HQ2:=lH q2
   have hAD:Hid (∀ ks,zAC s ks->Adr s ks):=lH fun ks h=>Adr.of hA2.slen (h.in_ hA2.slen)
   clear hfls hu hE i2 i4 hlf h6 hea HR0 HLOWS HSM
   by_cases h8:kind=8
   . rw [if_pos h8] at hR
     have HR:=lH hR
     have h8':(kind==8)=true:=by rw [beq_iff_eq];exact h8
     subst h8
     clear hR hA2
     go_wp2_with fail
     have hA2:=HA2.out
     refine (zDY w2 P base ao uo n cap un uc s fls 0 hA2.slen hA2.n4 hA2.sbox hA2.own hbase2 (fun g h1 h2=>Ne.symm (hA2.row g h1 h2).2) HLV.out (fun y hy=>by have:=HRI.out y hy;omega) (zNc _) (by omega) HUN.out.symm hun6 hfar HLF.out).mono ?_
     rintro e w3 ⟨rfl,hI3⟩
     have hA3:=hA2.store hI3 ((zGQ _ _).trans hA2.slen) (hA2.kid4.less _)
     have hbw3:Below base w w3:=hbw2.trans hI3.below
     have a4':=zAa hA3.abox 4
     simp only [cA1,cA2,cA3] at a4'
     have lA3:=zAb hA3.abox
     have e1:sn - 1+1=sn:=by omega
     have hdel:=zH7 w3 bx (some ⟨gs,0,none⟩) (sn - 1) sc PN vs (by rw [HVL.out];omega) (by omega) (by omega) (by rw [e1];exact hA3.ox.snaps)
     rw [e1] at hdel
     have HDEL:=lH hdel
     have HA3:=lH hA3
     clear hA2 HA2 hfar d0 d1 hI3 hdel a0 a3 a4 k0 k3 lA lK hA3
     go_wp2_with fail
     refine HDEL.out.mono ?_
     rintro e w4 ⟨rfl,ho4,hb4,hk4⟩
     have hA4:=HA3.out.goneS PN ho4 hb4 hk4
     have ab4:=(hk4 B lA3 HA3.out.sB).trans HA3.out.abox
     have y4:=zAa ab4 4
     simp only [cA1,cA2,cA3] at y4
     have yf:=zAc ab4 4
     have y1:=zAb ab4
     have hFIN:Hid (AtEnd w (w4.setCell ⟨B,4,none⟩ (.slice (some ⟨gs,0,none⟩) (sn - 1) sc)) B P base bx key ao n cap (lessL s (rootsF fls)) x.nm x.files (x.snaps.eraseIdx PN) 0):=lH
      ⟨(hbw3.trans (hb4.mono (by have:=HA3.out.hP;have:=HA3.out.hPx;omega))).setCell (by show base<=B;have:=HA3.out.hP;have:=HA3.out.hPx;have:=HA3.out.hB;omega) _,fun _=>⟨_,_,_,_,_,_,_,hA4⟩⟩
     clear HA3 HDEL ho4 hb4 hk4 hA4 ab4 a4' lA3
     go_wp2
     go_ret
     rw [HR.out]
     exact ⟨rfl,hFIN.out⟩
   . rw [if_neg h8] at hR
     have HR:=lH hR
     have h8':(kind==8)=false:=by rw [beq_eq_false_iff_ne];exact h8
     clear hR hA2
     go_wp2_with fail
     have hA2:=HA2.out
     refine (zFn w2 P base ao uo n cap un uc s fls hA2.slen hA2.n4 hA2.sbox hA2.own hbase2 (fun g h1 h2=>Ne.symm (hA2.row g h1 h2).2) (fun y hy=>by have:=HRI.out y hy;omega) HUN.out.symm hun6 hfar (HLF.out.in_ hA2.slen)).mono ?_
     rintro e w3 ⟨rfl,hI3⟩
     have hA3:=hA2.store hI3 ((zAp _ _).trans hA2.slen) (hA2.kid4.bump _)
     have hbw3:Below base w w3:=hbw2.trans hI3.below
     have her3:=hfar.keep hI3.below.size (fun b hb hl=>hI3.frame b hl (fun g h1 h2 h3=>hb ⟨h1,by rw [h3];exact h2⟩))
     have her3d:=her3.keep (w':=w3.drew) (zMs _) (fun _ _ _=>rfl)
     have HER:=lH her3d
     have HA3:=lH (hA3.mono (zMy w3.heap.size w3).drew)
     have HB3:Hid (Below base w w3.drew):=lH hbw3.drew
     have a0':=zAa hA3.abox 0
     have a3':=zAa hA3.abox 3
     simp only [cA1,cA2,cA3] at a0' a3'
     have lA3:=zAb hA3.abox
     clear hA2 HA2 hfar d0 d1 hI3 her3 her3d hA3 hbw3 a0 a3 a4 k0 k3 lA lK hbw2 q2 HQ2
     go_wp2_with fail
     go_still_tail 9,(by kernel_rfl)
     change wpList _ _ _ _ _ w3.drew
     clear a0' a3' lA3
     generalize w3.drew=w4 at *
     go_wp2_with fail
     have hA4:=HA3.out
     refine (zDY w4 P base ao fo n cap fn fc (bump s (rootsF fls)) x.files 0 hA4.slen hA4.n4 hA4.sbox hA4.own (zMN hbase HB3.out.size) (fun g h1 h2=>Ne.symm (hA4.row g h1 h2).2) (HLV.out.bump _) (zKc HRI.out _ (hAD.out _ HLF.out) (by rw [zAX];have:=HUN.out;omega)) (zNc _) (by omega) HFL.out.symm hf6 hA4.filesFar HLOW.out.bump).mono ?_
     rintro e w5 ⟨rfl,hI5⟩
     have hA5:=hA4.store hI5 ((zGQ _ _).trans hA4.slen) (hA4.kid4.less _)
     have hbw5:Below base w w5:=HB3.out.trans hI5.below
     have hnn:s≠[]↔bump s (rootsF fls)≠[]:=by rw [<- List.length_pos_iff,<- List.length_pos_iff,zAp]
     have her5:=(HER.out.keep hI5.below.size (fun b hb hl=>hI5.frame b hl (fun g h1 h2 h3=>hb ⟨hnn.2 h1,by rw [h3];exact h2⟩))).row
     have HCL:=lH (zCq w5 uo un uc fls HUN.out.symm her5 HUC.out (by omega))
     have a3':=zAa hA5.abox 3
     simp only [cA1,cA2,cA3] at a3'
     have HA5:=lH hA5
     clear hA4 HA3 HB3 hI5 hA5 her5 HER hnn
     go_wp2_with fail
     refine HCL.out.mono ?_
     rintro e w6 ⟨v6,rfl,ho6,hb6⟩
     obtain ⟨a6,c6,rfl,-,-,-⟩:=ho6.row
     have ab6:=(hb6.block B (zAb HA5.out.abox)).trans HA5.out.abox
     have y3:=zAa ab6 3
     simp only [cA1,cA2,cA3] at y3
     have yf:=zAc ab6 3
     have y1:=zAb ab6
     have hA6:=HA5.out.filesNew ho6 hb6
     have hFIN:Hid (AtEnd w (w6.setCell ⟨B,3,none⟩ (.slice a6 fls.length c6)) B P base bx key ao n cap (lessL (bump s (rootsF fls)) (rootsF x.files)) x.nm fls x.snaps 0):=lH
      ⟨(hbw5.trans (hb6.mono (by have:=HA5.out.hP;have:=HA5.out.hPx;have:=HA5.out.hbx;omega))).setCell (by show base<=B;have:=HA5.out.hP;have:=HA5.out.hPx;have:=HA5.out.hB;omega) _,fun _=>⟨_,_,_,_,_,_,_,hA6⟩⟩
     clear HA5 HCL ho6 hb6 hA6 ab6 a3' hbw5
     go_wp2
     go_ret
     rw [HR.out]
     exact ⟨rfl,hFIN.out⟩
set_option maxRecDepth 100000 in
set_option maxHeartbeats 16000000 in
theorem do_any (w:World) (ao fo so ba:Option Addr) (n cap fn fc sn sc bn bc:Nat) (s:List Blk) (key:Int) (x:SetV) (a:AskV) (hn:s.length=n) (h41:n<=2199023255552) (hs:StoRow w ao s) (hwf:WfS s) (hc:Capd ao n cap) (hx:SetIn w fo fn fc so sn sc x) (hwx:WfX x)
 (hbl:a.bytes.length=bn) (hbr:Row .u8 w ba a.bytes) (hbc:Capd ba bn bc) (hby:Byt a.bytes) (hb47:bn<=140737488351232) :
 Calls Tryz.prog 37 #[.agg #[.slice ao n cap],.int .i64 key,.agg #[.string x.nm,.slice fo fn fc,.slice so sn sc],.agg #[.int .i64 a.kind,.string a.sname,.string a.file,.string a.dest,.int .i64 a.at_,.int .i64 a.n,.slice ba bn bc]] w fun e w'=>DoEnd e w w' (doR writeW s key x a):=by
 have HN:=lH hn
 have HC:=lH hc
 have HX0:=lH hx
 have HWX:=lH hwx
 have HBL:=lH hbl
 have HBC:=lH hbc
 have HBY:=lH hby
 obtain ⟨RD,hRD⟩:∃ RD,doR writeW s key x a=RD:=⟨_,rfl⟩
 rw [hRD]
 have HRD:=lH hRD
 obtain ⟨kind,aset,afile,ato,aat,an,abytes⟩:=a
 simp only at hbl hbr hby
 obtain ⟨hb0,p0,p1,p2,p3,p4,hz5⟩:=zIs w (.cells #[.slice ao n cap] 24) (.cells #[.string x.nm,.slice fo fn fc,.slice so sn sc] 47) (.cells #[.int .i64 kind,.string aset,.string afile,.string ato,.int .i64 aat,.int .i64 an,.slice ba bn bc] 30) (.cells #[.slice none 0 0] 24) (.cells #[.string ⟨#[]⟩,.slice none 0 0,.slice none 0 0] 47)
 have HZ5:=lH hz5
 clear hn hc hx hwx hbl hbc hby hRD hz5
 go_enter Tryz.func37,Tryz.ntmps37
 go_wp2_with fail
 have hs:=hs.mono hb0
 have hbr0:=hbr
 have hbr:=hbr.mono hb0
 have HX:=lH (HX0.out.mono hb0)
 generalize ((((w.alloc (.cells #[.slice ao n cap] 24)).alloc (.cells #[.string x.nm,.slice fo fn fc,.slice so sn sc] 47)).alloc (.cells #[.int .i64 kind,.string aset,.string afile,.string ato,.int .i64 aat,.int .i64 an,.slice ba bn bc] 30)).alloc (.cells #[.slice none 0 0] 24)).alloc (.cells #[.string ⟨#[]⟩,.slice none 0 0,.slice none 0 0] 47)=W0 at *
 refine (zBM _ _ _ _ _ _ _ _ _ _ s key x HN.out (by omega) hs hwf HX.out HWX.out).mono ?_
 rintro e w1 ⟨rfl,hb1⟩
 have p0:=Zm hb1 p0
 have p1:=Zm hb1 p1
 have p2:=Zm hb1 p2
 have p3:=Zm hb1 p3
 have p4:=Zm hb1 p4
 have hs:=hs.mono hb1
 have HX:=lH (HX.out.mono hb1)
 have hbw:=zAd hb0 hb1
 have c0:=cell_of_one p0
 have c10:=zAa p1 0
 have c11:=zAa p1 1
 have c12:=zAa p1 2
 simp at c10 c11 c12
 have l0:=zAb p0
 have l1:=zAb p1
 have c3:=cell_of_one p3
 have f3:=free_of_one p3
 have c40:=zAa p4 0
 have c41:=zAa p4 1
 have c42:=zAa p4 2
 simp at c40 c41 c42
 have f40:=zAc p4 0
 have f41:=zAc p4 1
 have f42:=zAc p4 2
 by_cases hce:setE s key x=0
 rotate_left
 . have HR:Hid (RD=([],noSet,setE s key x)):=lH (by rw [<- HRD.out];unfold doR;rw [if_pos hce])
   have he1:(setE s key x != 0)=true:=by rw [bne_iff_ne];exact hce
   generalize setE s key x=ce at *
   clear hce hs hbr HX HX0 HWX hb1 hwf HRD
   obtain ⟨z3,z4,zb,-⟩:=zCK p3 p4 (by omega) (.slice none 0 0) (.string ⟨#[]⟩) (.slice none 0 0) (.slice none 0 0)
   have hbz:=zb _ _ hbw (by omega) (by omega)
   unfold putW at z3 z4 hbz
   have v3:=cell_of_one z3
   have v40:=zAa z4 0
   have v41:=zAa z4 1
   have v42:=zAa z4 2
   simp at v40 v41 v42
   go_wp2_with fail
   refine bodyPost_ret (v:=.tuple #[.agg #[.slice none 0 0],.agg #[.string ⟨#[]⟩,.slice none 0 0,.slice none 0 0],.int .i64 ce]) (by simp [results,Tryz.results37,go_sem,v3,v40,v41,v42]) rfl ?_
   rw [HR.out]
   exact zB0 hbz
 rw [hce]
 have HCE:=lH hce
 go_wp2_with fail
 refine (zGA _ _ _ _ _ _ _ _ _ _ s key x HN.out hs hwf HX.out hce).mono ?_
 rintro e w2 ⟨rfl,hb2⟩
 clear c0 c10 c11 c12 l0 l1 c3 f3 c40 c41 c42 f40 f41 f42
 have p0:=Zm hb2 p0
 have p1:=Zm hb2 p1
 have p2:=Zm hb2 p2
 have p3:=Zm hb2 p3
 have p4:=Zm hb2 p4
 have hs:=hs.mono hb2
 have hbw:=zAd hbw hb2
 have c0:=cell_of_one p0
 have c10:=zAa p1 0
 have c11:=zAa p1 1
 have c12:=zAa p1 2
 simp at c10 c11 c12
 have l0:=zAb p0
 have l1:=zAb p1
 have c3:=cell_of_one p3
 have f3:=free_of_one p3
 have c40:=zAa p4 0
 have c41:=zAa p4 1
 have c42:=zAa p4 2
 simp at c40 c41 c42
 have f40:=zAc p4 0
 have f41:=zAc p4 1
 have f42:=zAc p4 2
 by_cases hhe:heldE s x=0
 rotate_left
 . have HR:Hid (RD=([],noSet,heldE s x)):=lH (by rw [<- HRD.out];unfold doR;rw [if_neg (fun h=>h HCE.out),if_pos hhe])
   have he1:(heldE s x != 0)=true:=by rw [bne_iff_ne];exact hhe
   generalize heldE s x=ce at *
   clear hce hhe hs hbr HX HX0 HWX hb1 hb2 hwf HRD
   obtain ⟨z3,z4,zb,-⟩:=zCK p3 p4 (by omega) (.slice none 0 0) (.string ⟨#[]⟩) (.slice none 0 0) (.slice none 0 0)
   have hbz:=zb _ _ hbw (by omega) (by omega)
   unfold putW at z3 z4 hbz
   have v3:=cell_of_one z3
   have v40:=zAa z4 0
   have v41:=zAa z4 1
   have v42:=zAa z4 2
   simp at v40 v41 v42
   go_wp2_with fail
   refine bodyPost_ret (v:=.tuple #[.agg #[.slice none 0 0],.agg #[.string ⟨#[]⟩,.slice none 0 0,.slice none 0 0],.int .i64 ce]) (by simp [results,Tryz.results37,go_sem,v3,v40,v41,v42]) rfl ?_
   rw [HR.out]
   exact zB0 hbz
 rw [hhe]
 have hAR:RD=if (askR writeW s key x ⟨kind,aset,afile,ato,aat,an,abytes⟩).2.2≠0 then ([],noSet,(askR writeW s key x ⟨kind,aset,afile,ato,aat,an,abytes⟩).2.2) else askR writeW s key x ⟨kind,aset,afile,ato,aat,an,abytes⟩:=by rw [<- HRD.out];unfold doR;rw [if_neg (fun h=>h hce),if_neg (fun h=>h hhe)]
 have HAR:=lH hAR
 have HRX:=lH (zEg hce)
 have hz2:w.heap.size+5<=w2.heap.size:=by have h1:=hb1.size;have h2:=hb2.size;have h3:=HZ5.out;omega
 have HZW:Hid (w.heap.size<=w2.heap.size):=lH (by omega)
 clear hce hhe hAR HRD hb1 hb2 HX
 go_wp2_with fail
 refine (zGi _ _ _ _ s HN.out hs hwf HC.out (by omega)).mono ?_
 rintro e w3 ⟨v,rfl,ho,hb3⟩
 clear c0 c10 c11 c12 l0 l1 c3 f3 c40 c41 c42 f40 f41 f42
 have p0:=Zm hb3 p0
 have p1:=Zm hb3 p1
 have p2:=Zm hb3 p2
 have p3:=Zm hb3 p3
 have p4:=Zm hb3 p4
 have hbw3:=zAd hbw hb3
 have ho:=ho.box p0 (by omega) v
 obtain ⟨a1,cap1,hv1,hc1,hr1⟩:=ho.sto
 rw [HN.out] at hv1 hc1
 subst hv1
 have c0:=cell_of_one p0
 have f0:=free_of_one p0
 have l0:=zAb p0
 have q0:=one_setCell (u:=.slice a1 n cap1) p0
 have q1:(w3.setCell ⟨w.heap.size,0,none⟩ (.slice a1 n cap1)).heap[w.heap.size+1]?=_:=zAh p1 (by simp)
 have q2:(w3.setCell ⟨w.heap.size,0,none⟩ (.slice a1 n cap1)).heap[w.heap.size+1+1]?=_:=zAh p2 (by simp;omega)
 have q3:(w3.setCell ⟨w.heap.size,0,none⟩ (.slice a1 n cap1)).heap[w.heap.size+1+1+1]?=_:=zAh p3 (by simp;omega)
 have q4:(w3.setCell ⟨w.heap.size,0,none⟩ (.slice a1 n cap1)).heap[w.heap.size+1+1+1+1]?=_:=zAh p4 (by simp;omega)
 have hbw4:=hbw3.setCell (p:=⟨w.heap.size,0,none⟩) (zMs _) (.slice a1 n cap1)
 have hz4:w2.heap.size<=(w3.setCell ⟨w.heap.size,0,none⟩ (.slice a1 n cap1)).heap.size:=by have:=hb3.size;simpa using this
 have d0:=zAa q1 0
 have d1:=zAa q1 1
 have d2:=zAa q1 2
 simp at d0 d1 d2
 have m1:=zAb q1
 clear hr1 hb3 p0 p1 p2 p3 p4 hs hbr hc1
 go_wp2_with fail
 generalize w3.setCell ⟨w.heap.size,0,none⟩ (.slice a1 n cap1)=W4 at *
 refine (zET _ _ _ _ _ _ _ x (HX0.out.mono hbw4) HRX.out.small).mono ?_
 rintro e w5 ⟨fo2,fc2,so2,sc2,vs,rfl,hox,hb5⟩
 have q0:=Zm hb5 q0
 have q1:=Zm hb5 q1
 have q2:=Zm hb5 q2
 have q3:=Zm hb5 q3
 have q4:=Zm hb5 q4
 have ho5:=ho.mono hb5
 have hb6:=bA0 w5 (.cells #[.pointer (some ⟨w.heap.size,0,none⟩),.int .i64 key,.string x.nm,.slice fo2 fn fc2,.slice so2 sn sc2] 129)
 have hn4:n<=400:=by have:=(zAg s HRX.out.chk).1;have:=HN.out;omega
 have hA6:AtIn (w5.alloc (.cells #[.pointer (some ⟨w.heap.size,0,none⟩),.int .i64 key,.string x.nm,.slice fo2 fn fc2,.slice so2 sn sc2] 129)) w5.heap.size w.heap.size w2.heap.size W4.heap.size key a1 n cap1 s fo2 fn fc2 so2 sn sc2 x vs:=by
  have hz5:=hb5.size
  have hz6:=hb6.size
  have hq0:=zAb q0
  refine ⟨heap_alloc_new w5 _,(hb6.block _ hq0).trans q0,ho5.mono hb6,OwnXb.mono hox hb6,HN.out,hn4,(Good.of_check HRX.out.chk hwf).kid4,hz4,by omega,hz5,by omega,fun g h1 h2=>?_,fun e=>?_,fun e=>?_⟩
  . have h3:=ho.own_at h1 h2
    exact ⟨h3.lt,by have:=h3.le;omega⟩
  . have h3:=hox.files
    rw [e] at h3
    have:=h3.ge.2
    omega
  . have h3:=hox.snaps
    rw [e] at h3
    have:=h3.ge.2
    omega
 have hbw6:=zAd (zAd hbw4 hb5) hb6
 have r2:=Zm hb6 q2
 have r3:=Zm hb6 q3
 have r4:=Zm hb6 q4
 have k0:=zAa q2 0
 simp only [zMC,List.getElem?_cons_zero] at k0
 have lK:=zAb q2
 have HZX:Hid (w.heap.size<=W4.heap.size):=lH hbw4.size
 clear hox hb5 ho ho5 q0 q1 q3 q4 d0 d1 d2 m1 c0 f0 l0 hb6
 go_upto_block 0 with fail
 generalize w5.alloc (.cells #[.pointer (some ⟨w.heap.size,0,none⟩),.int .i64 key,.string x.nm,.slice fo2 fn fc2,.slice so2 sn sc2] 129)=W6 at *
 have HA6:=lH hA6
 have HR2:=lH r2
 have HR3:=lH r3
 have HR4:=lH r4
 have HB6:=lH hbw6
 have HGD:=lH (Good.of_check HRX.out.chk hwf)
 have HBR:Hid (Row .u8 W6 ba abytes):=lH (hbr0.mono hbw6)
 have hzb:w.heap.size+5<=w2.heap.size:=hz2
 clear hA6 r3 r4 q2 k0 lK hbw6 hbw4 hbw3 hbw hbr0
 go_cut [14] from 41 to 59 (fun u wx=>∃ er t x7,u=.int .i64 er/\Hid (AtEnd W6 wx w5.heap.size w.heap.size w2.heap.size W4.heap.size key a1 n cap1 t x7.nm x7.files x7.snaps er)/\Hid (askR writeW s key x ⟨kind,aset,afile,ato,aat,an,abytes⟩=(t,x7,er)))
 case first=>
  have k0:=zAa HR2.out 0
  have k1:=zAa HR2.out 1
  have k2:=zAa HR2.out 2
  have k3:=zAa HR2.out 3
  have k4:=zAa HR2.out 4
  have k5:=zAa HR2.out 5
  have k6:=zAa HR2.out 6
  simp only [cA1,cA2,cA3] at k0 k1 k2 k3 k4 k5 k6
  have lK:=zAb HR2.out
  clear r2
  have HLV:=lH HGD.out.lv.1
  have HRL:=lH (HGD.out.refsL (by omega))
  have HLW:=lH (HGD.out.low rfl (zBe HRX.out.files))
  have HRF:=lH ((zAg s HRX.out.chk).2.2.2.1)
  have HLWS:Hid (∀ y∈x.snaps,zAC s (rootsF y.files)):=lH fun y hy=>HGD.out.low rfl (zBe (HRX.out.snaps y hy).2)
  have HF0:Hid (fileE s key 0 0=0):=lH (zFT HRX.out.chk HRX.out.kok).1
  rcases (show kind=3\/kind=4\/kind=5\/kind=6\/kind=7\/kind=8\/kind=9\/(kind≠3/\kind≠4/\kind≠5/\kind≠6/\kind≠7/\kind≠8/\kind≠9) from by omega) with rfl | rfl | rfl | rfl | rfl | rfl | rfl | ⟨n3,n4,n5,n6,n7,n8,n9⟩
  . have HCL:=lH (zF8 _ _ _ _ _ _ _ _ _ _ _ bn bc key _ _ _ ba s x vs ⟨3,aset,afile,ato,aat,an,abytes⟩ HA6.out HRX.out.files.len HRX.out.files.rise hwf (fun y hy=>(HRX.out.files.each y hy).2) HF0.out HBL.out HBR.out HBC.out HBY.out hb47)
    obtain ⟨WR,hWR⟩:∃ WR,writeW s key x.files ⟨3,aset,afile,ato,aat,an,abytes⟩=WR:=⟨_,rfl⟩
    rw [hWR] at HCL
    have HWR:=lH hWR
    clear hWR
    go_wp2_with fail
    refine HCL.out.mono ?_
    rintro e w7 ⟨rfl,hend⟩
    have HEND:=lH hend
    clear hend k0 k1 k2 k3 k4 k5 k6 lK HCL
    go_wp2_with fail
    go_meet
    have h0:=HWR.out
    exact ⟨WR.2.2,WR.1,{ x with files:=WR.2.1 },rfl,HEND,lH (by unfold askR;rw [if_pos (by simp),h0])⟩
  . have HCL:=lH (zF8 _ _ _ _ _ _ _ _ _ _ _ bn bc key _ _ _ ba s x vs ⟨4,aset,afile,ato,aat,an,abytes⟩ HA6.out HRX.out.files.len HRX.out.files.rise hwf (fun y hy=>(HRX.out.files.each y hy).2) HF0.out HBL.out HBR.out HBC.out HBY.out hb47)
    obtain ⟨WR,hWR⟩:∃ WR,writeW s key x.files ⟨4,aset,afile,ato,aat,an,abytes⟩=WR:=⟨_,rfl⟩
    rw [hWR] at HCL
    have HWR:=lH hWR
    clear hWR
    go_wp2_with fail
    refine HCL.out.mono ?_
    rintro e w7 ⟨rfl,hend⟩
    have HEND:=lH hend
    clear hend k0 k1 k2 k3 k4 k5 k6 lK HCL
    go_wp2_with fail
    go_meet
    have h0:=HWR.out
    exact ⟨WR.2.2,WR.1,{ x with files:=WR.2.1 },rfl,HEND,lH (by unfold askR;rw [if_pos (by simp),h0])⟩
  . have HCL:=lH (zJv _ _ _ _ _ _ _ _ _ _ _ bn bc key _ _ _ ba s x vs ⟨5,aset,afile,ato,aat,an,abytes⟩ HA6.out HRX.out.files.len HRX.out.files.rise HLV.out HRL.out HLW.out)
    obtain ⟨WR,hWR⟩:∃ WR,moveR s x.files ⟨5,aset,afile,ato,aat,an,abytes⟩=WR:=⟨_,rfl⟩
    rw [hWR] at HCL
    have HWR:=lH hWR
    clear hWR
    go_wp2_with fail
    refine HCL.out.mono ?_
    rintro e w7 ⟨rfl,hend⟩
    have HEND:=lH hend
    clear hend k0 k1 k2 k3 k4 k5 k6 lK HCL
    go_wp2_with fail
    go_meet
    have h0:=HWR.out
    exact ⟨WR.2.2,WR.1,{ x with files:=WR.2.1 },rfl,HEND,lH (by unfold askR;rw [if_neg (by simp),if_pos (by simp),h0])⟩
  . have HCL:=lH (zJv _ _ _ _ _ _ _ _ _ _ _ bn bc key _ _ _ ba s x vs ⟨6,aset,afile,ato,aat,an,abytes⟩ HA6.out HRX.out.files.len HRX.out.files.rise HLV.out HRL.out HLW.out)
    obtain ⟨WR,hWR⟩:∃ WR,moveR s x.files ⟨6,aset,afile,ato,aat,an,abytes⟩=WR:=⟨_,rfl⟩
    rw [hWR] at HCL
    have HWR:=lH hWR
    clear hWR
    go_wp2_with fail
    refine HCL.out.mono ?_
    rintro e w7 ⟨rfl,hend⟩
    have HEND:=lH hend
    clear hend k0 k1 k2 k3 k4 k5 k6 lK HCL
    go_wp2_with fail
    go_meet
    have h0:=HWR.out
    exact ⟨WR.2.2,WR.1,{ x with files:=WR.2.1 },rfl,HEND,lH (by unfold askR;rw [if_neg (by simp),if_pos (by simp),h0])⟩
  . have HCL:=lH (snap_new _ _ _ _ _ _ _ _ _ _ _ bn bc key _ _ _ ba s x vs ⟨7,aset,afile,ato,aat,an,abytes⟩ HA6.out HRX.out.small HRX.out.rise HLV.out HRF.out HLW.out HLWS.out (by simp))
    obtain ⟨WR,hWR⟩:∃ WR,snapsR s x ⟨7,aset,afile,ato,aat,an,abytes⟩=WR:=⟨_,rfl⟩
    rw [hWR] at HCL
    have HWR:=lH hWR
    clear hWR
    go_wp2_with fail
    refine HCL.out.mono ?_
    rintro e w7 ⟨rfl,hend⟩
    have HEND:=lH hend
    clear hend k0 k1 k2 k3 k4 k5 k6 lK HCL
    go_wp2_with fail
    go_meet
    have h0:=HWR.out
    exact ⟨WR.2.2,WR.1,WR.2.1,rfl,HEND,lH (by unfold askR;rw [if_neg (by simp),if_neg (by simp),if_pos (by simp),h0])⟩
  . have HCL:=lH (zIL _ _ _ _ _ _ _ _ _ _ _ bn bc key _ _ _ ba s x vs ⟨8,aset,afile,ato,aat,an,abytes⟩ HA6.out HRX.out.small HRX.out.rise HLV.out HRF.out HLW.out HLWS.out (by simp))
    obtain ⟨WR,hWR⟩:∃ WR,snapsR s x ⟨8,aset,afile,ato,aat,an,abytes⟩=WR:=⟨_,rfl⟩
    rw [hWR] at HCL
    have HWR:=lH hWR
    clear hWR
    go_wp2_with fail
    refine HCL.out.mono ?_
    rintro e w7 ⟨rfl,hend⟩
    have HEND:=lH hend
    clear hend k0 k1 k2 k3 k4 k5 k6 lK HCL
    go_wp2_with fail
    go_meet
    have h0:=HWR.out
    exact ⟨WR.2.2,WR.1,WR.2.1,rfl,HEND,lH (by unfold askR;rw [if_neg (by simp),if_neg (by simp),if_pos (by simp),h0])⟩
  . have HCL:=lH (zIL _ _ _ _ _ _ _ _ _ _ _ bn bc key _ _ _ ba s x vs ⟨9,aset,afile,ato,aat,an,abytes⟩ HA6.out HRX.out.small HRX.out.rise HLV.out HRF.out HLW.out HLWS.out (by simp))
    obtain ⟨WR,hWR⟩:∃ WR,snapsR s x ⟨9,aset,afile,ato,aat,an,abytes⟩=WR:=⟨_,rfl⟩
    rw [hWR] at HCL
    have HWR:=lH hWR
    clear hWR
    go_wp2_with fail
    refine HCL.out.mono ?_
    rintro e w7 ⟨rfl,hend⟩
    have HEND:=lH hend
    clear hend k0 k1 k2 k3 k4 k5 k6 lK HCL
    go_wp2_with fail
    go_meet
    have h0:=HWR.out
    exact ⟨WR.2.2,WR.1,WR.2.1,rfl,HEND,lH (by unfold askR;rw [if_neg (by simp),if_neg (by simp),if_pos (by simp),h0])⟩
  . have m3:(kind==3)=false:=by rw [beq_eq_false_iff_ne];exact n3
    have m4:(kind==4)=false:=by rw [beq_eq_false_iff_ne];exact n4
    have m5:(kind==5)=false:=by rw [beq_eq_false_iff_ne];exact n5
    have m6:(kind==6)=false:=by rw [beq_eq_false_iff_ne];exact n6
    have m7:(kind==7)=false:=by rw [beq_eq_false_iff_ne];exact n7
    have m8:(kind==8)=false:=by rw [beq_eq_false_iff_ne];exact n8
    have m9:(kind==9)=false:=by rw [beq_eq_false_iff_ne];exact n9
    have HAK:Hid (askR writeW s key x ⟨kind,aset,afile,ato,aat,an,abytes⟩=(s,x,4)):=lH (by unfold askR;rw [if_neg (by simp only;omega),if_neg (by simp only;omega),if_neg (by simp only;omega)])
    clear n3 n4 n5 n6 n7 n8 n9
    go_wp2_with fail
    go_meet
    exact ⟨4,s,x,rfl,lH ⟨zMy _ _,fun h=>by simp at h⟩,HAK⟩
 case rest=>
  clear r2
  obtain ⟨er,t,x7,rfl,hend,hask⟩:=hcut
  have hbw:Below w.heap.size w wc:=HB6.out.trans (hend.out.1.mono (by omega))
  have p3:=(hend.out.1.block _ (by omega)).trans HR3.out
  have p4:=(hend.out.1.block _ (by omega)).trans HR4.out
  have c3:=cell_of_one p3
  have f3:=free_of_one p3
  have c40:=zAa p4 0
  have c41:=zAa p4 1
  have c42:=zAa p4 2
  simp at c40 c41 c42
  have f40:=zAc p4 0
  have f41:=zAc p4 1
  have f42:=zAc p4 2
  by_cases he:er=0
  rotate_left
  . have HR:Hid (RD=([],noSet,er)):=lH (by rw [HAR.out,hask.out];exact if_pos he)
    have he1:(er != 0)=true:=by rw [bne_iff_ne];exact he
    clear hend hask he
    obtain ⟨z3,z4,zb,-⟩:=zCK p3 p4 (by omega) (.slice none 0 0) (.string ⟨#[]⟩) (.slice none 0 0) (.slice none 0 0)
    have hbz:=zb _ _ hbw (by omega) (by omega)
    unfold putW at z3 z4 hbz
    have v3:=cell_of_one z3
    have v40:=zAa z4 0
    have v41:=zAa z4 1
    have v42:=zAa z4 2
    simp at v40 v41 v42
    go_wp2_with fail
    refine bodyPost_ret (v:=.tuple #[.agg #[.slice none 0 0],.agg #[.string ⟨#[]⟩,.slice none 0 0,.slice none 0 0],.int .i64 er]) (by simp [results,Tryz.results37,go_sem,v3,v40,v41,v42]) rfl ?_
    rw [HR.out]
    exact zB0 hbz
  . subst he
    have HR:Hid (RD=(t,x7,0)):=lH (by rw [HAR.out,hask.out];exact if_neg (by simp))
    obtain ⟨-,hat⟩:=hend.out
    obtain ⟨fo7,fn7,fc7,so7,sn7,sc7,vs7,hA7⟩:=hat rfl
    obtain ⟨xn,xf,xs⟩:=x7
    simp only at hA7
    obtain ⟨z3,z4,zb,za⟩:=zCK p3 p4 (by omega) (.slice a1 n cap1) (.string xn) (.slice fo7 fn7 fc7) (.slice so7 sn7 sc7)
    have hbz:=zb _ _ hbw (by omega) (by omega)
    have hA8:=za _ _ _ _ _ _ _ _ _ _ _ _ _ _ _ _ _ hA7 (by omega) (by omega) (by omega) (by omega)
    unfold putW at z3 z4 hbz hA8
    have a0:=cell_of_one hA7.sbox
    have b2:=zAa hA7.abox 2
    have b3:=zAa hA7.abox 3
    have b4:=zAa hA7.abox 4
    simp only [cA1,cA2,cA3] at b2 b3 b4
    have lA:=zAb hA7.abox
    have lP:=zAb hA7.sbox
    have v3:=cell_of_one z3
    have v40:=zAa z4 0
    have v41:=zAa z4 1
    have v42:=zAa z4 2
    simp at v40 v41 v42
    have HA8:=lH hA8
    have HZB:=lH hbz
    clear hend hask hat hA7 hA8 za zb hbz
    go_wp2_with fail
    go_region_with fail
    all_goals
     go_wp2_with fail
     refine bodyPost_ret (v:=.tuple #[.agg #[.slice a1 n cap1],.agg #[.string xn,.slice fo7 fn7 fc7,.slice so7 sn7 sc7],.int .i64 0]) (by simp [results,Tryz.results37,go_sem,v3,v40,v41,v42]) rfl ?_
     rw [HR.out]
     have hA9:=HA8.out.mono (zMy _ _).drew
     obtain ⟨j1,j2,j3⟩:=hA9.own.read
     exact ⟨a1,n,cap1,fo7,fn7,fc7,so7,sn7,sc7,rfl,HZB.out.drew,j1,⟨j2,fun g o e h=>zMN HZW.out (hA9.own.from_ g o e h)⟩,j3,OwnX.from_ hA9.ox HZX.out⟩
structure AnsV where
 e:Int
 n:Int
 names:List ByteArray
 bytes:List Int
def noAns:AnsV:=⟨0,0,[],[]⟩
def lookR (s:List Blk) (key:Int) (x:SetV) (a:AskV):AnsV×Int:=
 if setE s key x≠0 then (noAns,setE s key x)
 else if a.kind=11 then
  (if placeB (x.files.map Ent.nm) a.file=false then (⟨5,0,[],[]⟩,0)
   else if (readR s key (entAt x.files (placeN (x.files.map Ent.nm) a.file)).root (entAt x.files (placeN (x.files.map Ent.nm) a.file)).size a.at_ a.n).2≠0 then (⟨(readR s key (entAt x.files (placeN (x.files.map Ent.nm) a.file)).root (entAt x.files (placeN (x.files.map Ent.nm) a.file)).size a.at_ a.n).2,0,[],[]⟩,0)
   else (⟨0,(entAt x.files (placeN (x.files.map Ent.nm) a.file)).size,[],(readR s key (entAt x.files (placeN (x.files.map Ent.nm) a.file)).root (entAt x.files (placeN (x.files.map Ent.nm) a.file)).size a.at_ a.n).1⟩,0))
 else if a.kind=12 then (⟨0,x.files.length,x.files.map Ent.nm,[]⟩,0)
 else (noAns,4)
def zAL (s:List Blk) (key:Int) (x:SetV) (frm name:ByteArray):List Blk×SetV×Int:=
 if setE s key x≠0 then ([],noSet,setE s key x) else if heldE s x≠0 then ([],noSet,heldE s x)
 else if nameB name=false then ([],noSet,1) else if placeB (x.snaps.map Snp.nm) frm=false then ([],noSet,5)
 else (bump s (rootsF (snpAt x.snaps (placeN (x.snaps.map Snp.nm) frm)).files),⟨name,(snpAt x.snaps (placeN (x.snaps.map Snp.nm) frm)).files,[]⟩,0)
def zAN (s:List Blk) (key:Int) (x:SetV):List Blk×Int:=
 if setE s key x≠0 then ([],setE s key x) else if heldE s x≠0 then ([],heldE s x) else (lessL s (rootsL x),0)
def zEG (w:World) (ao:Option Addr) (xs:List ByteArray):Prop:=xs=[]\/∃ b o,ao=some ⟨b,o,none⟩/\∀ i (h:i<xs.length),w.cell? ⟨b,o+i,none⟩=some (.string xs[i])
theorem zEG.mono {w w':World} {ao:Option Addr} {xs:List ByteArray} (h:zEG w ao xs) (hb:Below w.heap.size w w'):zEG w' ao xs:=by
 rcases h with h | ⟨b,o,rfl,h⟩
 . exact .inl h
 . exact .inr ⟨b,o,rfl,fun i hi=>by
    have hlt:=zMx _ _ (h i hi)
    exact (zMB (a:=⟨b,o+i,none⟩) (hb.block b hlt)).trans (h i hi)⟩
def OwnS (e base:Nat) (w:World) (v:Value) (xs:List ByteArray):Prop:=w.ownsRow base e 1 v xs.length (xs.map Value.string)
theorem OwnS.nil (e base:Nat) (w:World):OwnS e base w (.slice none 0 0) []:=World.ownsRow_nil _ _ _ _
theorem OwnS.block {e base:Nat} {w:World} {v:Value} {xs:List ByteArray} (h:OwnS e base w v xs) :
 (v=.slice none 0 0/\xs=[])\/∃ g cap cur,v=.slice (some ⟨g,0,none⟩) xs.length cap/\base<=g/\w.heap[g]?=some (.cells cur e (0,0))/\xs.length<=cap/\cap<=maxLen/\cur.size=cap/\
  cur.toList.take xs.length=xs.map Value.string:=by
 obtain ⟨h1,h2⟩:=h
 rcases h2 with ⟨h2,h3⟩ | ⟨g,cap,cur,hv,hg,hh,hn,hc,hs,ht⟩
 . exact .inl ⟨h2,zMv h3⟩
 . exact .inr ⟨g,cap,cur,hv,hg,hh,hn,hc,by simpa using hs,by simpa using ht⟩
theorem OwnS.keep {e base:Nat} {w w':World} {v:Value} {xs:List ByteArray} (h:OwnS e base w v xs) (hk:∀ b,base<=b->b<w.heap.size->w'.heap[b]?=w.heap[b]?):OwnS e base w' v xs:=by
 obtain ⟨h1,h2⟩:=h
 refine ⟨h1,?_⟩
 rcases h2 with h2 | ⟨g,cap,cur,hv,hg,hh,r⟩
 . exact .inl h2
 . exact .inr ⟨g,cap,cur,hv,hg,by rw [hk g hg (zAb hh)];exact hh,r⟩
theorem OwnS.mono {e base:Nat} {w w':World} {v:Value} {xs:List ByteArray} (h:OwnS e base w v xs) (hb:Below w.heap.size w w'):OwnS e base w' v xs:=h.keep fun b _ hl=>hb.block b hl
theorem OwnS.shape {e base:Nat} {w:World} {v:Value} {xs:List ByteArray} (h:OwnS e base w v xs):∃ ao cap,v=.slice ao xs.length cap/\Capd ao xs.length cap/\zEG w ao xs:=by
 rcases h.block with ⟨rfl,rfl⟩ | ⟨g,cap,cur,rfl,hg,hh,hn,hc,hs,ht⟩
 . exact ⟨none,0,rfl,⟨zMs _,fun _=>rfl⟩,.inl rfl⟩
 . refine ⟨_,cap,rfl,⟨hn,fun h=>by cases h⟩,.inr ⟨g,0,rfl,fun i hi=>?_⟩⟩
   rw [zML,zAa hh]
   have e1:(cur.toList.take xs.length)[i]?=(xs.map Value.string)[i]?:=by rw [ht]
   rw [zNY,if_pos hi] at e1
   simp [hi] at e1
   simpa using e1
theorem zJ9 {P:Program} {w:World} {ops:Array Oper} {rest:List Oper} {o:Oper} {a:Act} {Q:Exit->Act->World->Prop} (hgd:o.guard=none) (s x:Operand) (t:TypeId)
 (ho:o.op=.call { callee:=.builtin .append,args:=#[s,x],argTypes:=#[t,t] })
 (e bytes base:Nat) (ht:P.underlying t=some (.slice e)) (hinfo:(P.info? e).map (fun i=>(i.zero,i.size,i.bytes))=some (some (.string ⟨#[]⟩),1,bytes))
 (v:Value) (xs:List ByteArray) (y:ByteArray) (hs:a.eval s=v) (hown:OwnS e base w v xs) (g:Nat) (hx:a.eval x=.slice (some ⟨g,0,none⟩) 1 1) (hg:g=w.heap.size)
 (h63:xs.length+1<=maxLen) (hbytes:(xs.length+1)*bytes<=140737488355328) (hbase:base<=w.heap.size)
 (h:∀ v' w',OwnS e base w' v' (xs++[y])->Below base w w'->wpList P ops Q rest (a.put o.dst v') w') :
 wpList P ops Q (o::rest) a (w.alloc (.cells #[.string y] e)):=by
 subst hg
 obtain ⟨i0,hi,hz0,hz1,hz2⟩:=info_parts hinfo
 refine wpList_append_own _ hgd s x t ho base e i0 (.string ⟨#[]⟩) 1 bytes ht hi hz0 hz1 hz2 rfl (by decide) v _ _ hs (World.ownsRow.alloc hown _) ⟨w.heap.size,0,none⟩ 1 1 [.string y] hx rfl ?_ ?_ h63 hbytes (by simp;omega) ?_
 . intro j u hj
   match j,hj with
   | 0,hj=>simp at hj;subst hj;simp [Addr.add]
 . intro u hu;simp at hu;subst hu;rfl
 . intro v' w' hown' hg _
   refine h v' w' (by unfold OwnS;simpa using hown') ?_
   have h1:Below base w (w.alloc (.cells #[.string y] e)):=(zMy _ _).alloc hbase _
   refine h1.grown hg (by simp;omega) fun j hj=>?_
   exact (World.ownsRow.lt hown j hj).1
theorem info_str:(Tryz.prog.info? 9).map (fun i=>(i.zero,i.size,i.bytes))=some (some (.string ⟨#[]⟩),1,16):=by kernel_rfl
def zMi (e:Ending) (w w':World) (r:AnsV×Int):Prop:=
 ∃ (na:Option Addr) (nn nc:Nat) (ba:Option Addr) (bn bc:Nat),e=.returned (.tuple #[.agg #[.int .i64 r.1.e,.int .i64 r.1.n,.slice na nn nc,.slice ba bn bc],.int .i64 r.2])/\Below w.heap.size w w'/\r.1.names.length=nn/\r.1.bytes.length=bn/\zEG w' na r.1.names/\Row .u8 w' ba r.1.bytes/\Capd na nn nc/\Capd ba bn bc
theorem zCe {w w':World} {e n c:Int} (hb:Below w.heap.size w w'):zMi (.returned (.tuple #[.agg #[.int .i64 e,.int .i64 n,.slice none 0 0,.slice none 0 0],.int .i64 c])) w w' (⟨e,n,[],[]⟩,c):=
 ⟨none,0,0,none,0,0,rfl,hb,rfl,rfl,.inl rfl,.inl rfl,⟨zMs _,fun _=>rfl⟩,⟨zMs _,fun _=>rfl⟩⟩
def putA (X:World) (k:Nat) (u0 u1 u2 u3:Value):World:=(((X.setCell ⟨k,0,none⟩ u0).setCell ⟨k,1,none⟩ u1).setCell ⟨k,2,none⟩ u2).setCell ⟨k,3,none⟩ u3
theorem zAS {X:World} {k t nn nc bn bc:Nat} {a b:Int} {na ba:Option Addr} (p:X.heap[k]?=some (.cells #[.int .i64 a,.int .i64 b,.slice na nn nc,.slice ba bn bc] t (0,0))) (u0 u1 u2 u3:Value) :
 (putA X k u0 u1 u2 u3).heap[k]?=some (.cells #[u0,u1,u2,u3] t (0,0))/\(∀ B w0,Below B w0 X->B<=k->Below B w0 (putA X k u0 u1 u2 u3))/\(∀ b,b≠k->(putA X k u0 u1 u2 u3).heap[b]?=X.heap[b]?)/\(putA X k u0 u1 u2 u3).heap.size=X.heap.size/\
 (∀ ao xs,Row .u8 X ao xs->Row .u8 (putA X k u0 u1 u2 u3) ao xs)/\(∀ ao xs,zEG X ao xs->zEG (putA X k u0 u1 u2 u3) ao xs):=by
 have r0:=zAe p 0 u0
 have r1:=zAe r0 1 u1
 have r2:=zAe r1 2 u2
 have r3:=zAe r2 3 u3
 simp only [zMS,zM7,zM9] at r3
 have hne:∀ b,b≠k->(putA X k u0 u1 u2 u3).heap[b]?=X.heap[b]?:=fun b hb=>(((zMu _ _ _ _ hb).trans (zMu _ _ _ _ hb)).trans (zMu _ _ _ _ hb)).trans (zMu _ _ _ _ hb)
 have key0:∀ o v,X.cell? ⟨k,o,none⟩=some v->(∃ x,v=.int .i64 x)\/∃ p q r,v=.slice p q r:=by
  intro o v hv
  rw [zAa p] at hv
  rcases (show o=0\/o=1\/o=2\/o=3\/4<=o from by omega) with rfl | rfl | rfl | rfl | e
  . simp at hv;exact .inl ⟨a,hv.symm⟩
  . simp at hv;exact .inl ⟨b,hv.symm⟩
  . simp at hv;exact .inr ⟨_,_,_,hv.symm⟩
  . simp at hv;exact .inr ⟨_,_,_,hv.symm⟩
  . rw [zMV (by simp;omega)] at hv;cases hv
 refine ⟨r3,fun B w0 h h1=>(((h.setCell (p:=⟨k,0,none⟩) h1 _).setCell (p:=⟨k,1,none⟩) h1 _).setCell (p:=⟨k,2,none⟩) h1 _).setCell (p:=⟨k,3,none⟩) h1 _,hne,by simp [putA],fun ao xs h=>?_,fun ao xs h=>?_⟩
 . rcases zMJ xs.length with h0 | h0
   . exact .inl (zMv h0)
   . obtain ⟨b,o,rfl,hc⟩:=h.at 0 h0
     have hb:b≠k:=by
      rintro rfl
      rcases key0 _ _ (hc 0 h0) with ⟨x,e⟩ | ⟨p,q,r,e⟩<;>cases e
     exact .inr ⟨b,o,rfl,fun i hi=>(zMB (a:=⟨b,o+i,none⟩) (hne b hb)).trans (hc i hi)⟩
 . rcases h with h | ⟨b,o,rfl,hc⟩
   . exact .inl h
   . rcases zMJ xs.length with h0 | h0
     . exact .inl (zMv h0)
     . have hb:b≠k:=by
        rintro rfl
        rcases key0 _ _ (hc 0 h0) with ⟨x,e⟩ | ⟨p,q,r,e⟩<;>cases e
       exact .inr ⟨b,o,rfl,fun i hi=>(zMB (a:=⟨b,o+i,none⟩) (hne b hb)).trans (hc i hi)⟩
end Go.Proofs.YtfmgdjgedhnmeaaGreat
namespace Go.Proofs.YtfmgdjgedhnmeaaGreat
open Go
set_option linter.unusedVariables false
set_option linter.unusedSimpArgs false
section
variable {P:Program} {md:Region.Mode} {w:World}
def lowB (md:Region.Mode) (ops:Array Oper) (n:Nat):Bool:=
 (List.range n).all fun i=>match ops[i]? with
  | some o=>o.guard.isNone&&o.after.all fun e=>!Region.binds md e||decide (e.on<i)
  | none=>false
def upB (md:Region.Mode) (ops:Array Oper) (n:Nat):Bool:=
 (List.range ops.size).all fun t=>decide (t<=n)||(List.range t).any fun j=>decide (n<=j)&&Region.waitsFor md ops t j
theorem zMm {ops:Array Oper} {n i:Nat} (h:lowB md ops n=true) (hi:i<n):∃ o,ops[i]?=some o/\o.guard=none/\∀ e∈o.after,Region.binds md e=true->e.on<i:=by
 have h1:=zNF.1 h i (List.mem_range.2 hi)
 cases ho:ops[i]? with
 | none=>rw [ho] at h1;cases h1
 | some o=>
  rw [ho] at h1
  simp only [zMW,Option.isNone_iff_eq_none] at h1
  refine ⟨o,rfl,h1.1,fun e he hb=>?_⟩
  have h2:=Array.all_eq_true_iff_forall_mem.1 h1.2 e he
  simpa [hb] using h2
theorem not_yet {ops:Array Oper} {n i:Nat} {listed:Array Bool} (hs:Region.sinkB md ops n=true) (hu:upB md ops n=true) (inv:HeadInv md ops n listed) (hi:i<n) (hun:listed.getD i true=false) :
 ∀ t,n<=t->t∉Region.ready md ops listed:=by
 intro t ht hr
 obtain ⟨hut,ot,hot,hall⟩:=mem_ready.1 hr
 have htl:t<ops.size:=(Array.getElem?_eq_some_iff.1 hot).1
 rcases Nat.eq_or_lt_of_le ht with rfl | hgt
 . have H:∀ d k,n - k=d->k<n->listed.getD k false=true:=by
    intro d
    induction d using Nat.strongRecOn with
    | _ d ih=>
     intro k hd hk
     obtain ⟨j,hj,hj2⟩:=zNZ.1 (zNF.1 hs k (List.mem_range.2 hk))
     simp only [zMW,decide_eq_true_eq] at hj2
     have hjn:=List.mem_range.1 hj
     obtain ⟨oj,hoj,e,he,hb,rfl⟩:=Region.waitsFor_spec hj2.2
     by_cases hjt:j=n
     . subst hjt
       rw [hoj] at hot
       cases hot
       exact hall e he hb
     . exact inv.closed j oj hoj (ih (n - j) (by omega) j rfl (by omega)) e he hb
   have:=H _ i rfl hi
   rw [getD_both hun] at this
   cases this
 . have h1:=zNF.1 hu t (List.mem_range.2 htl)
   simp only [zNk,decide_eq_true_eq] at h1
   obtain ⟨j,hj,hj2⟩:=zNZ.1 (h1.resolve_left (by omega))
   simp only [zMW,decide_eq_true_eq] at hj2
   obtain ⟨oj,hoj,e,he,hb,rfl⟩:=Region.waitsFor_spec hj2.2
   rw [hot] at hoj
   cases hoj
   have h2:=hall e he hb
   rw [getD_both (inv.tail e.on hj2.1 (by have:=List.mem_range.1 hj;omega))] at h2
   cases h2
theorem zJT {ops:Array Oper} {n:Nat} {listed:Array Bool} (hl:lowB md ops n=true) (hsz:listed.size=ops.size) (hn:n<=ops.size):∀ i,i<n->listed.getD i true=false->∃ j,j<n/\j∈Region.ready md ops listed:=by
 intro i
 induction i using Nat.strongRecOn with
 | _ i ih=>
  intro hi hun
  obtain ⟨o,ho,-,hlow⟩:=zMm hl hi
  by_cases hall:∀ e∈o.after,Region.binds md e=true->listed.getD e.on false=true
  . exact ⟨i,hi,mem_ready.2 ⟨hun,o,ho,hall⟩⟩
  . obtain ⟨e,he⟩:=Classical.not_forall.1 hall
    obtain ⟨he1,he2⟩:=Classical.not_imp.1 he
    obtain ⟨hb,hf⟩:=Classical.not_imp.1 he2
    have hlt:=hlow e he1 hb
    have hu2:listed.getD e.on true=false:=by
     have hin:e.on<listed.size:=by omega
     cases hg:listed.getD e.on true with
     | false=>rfl
     | true=>
      refine absurd ?_ hf
      simp [hin] at hg ⊢
      exact hg
    exact ih e.on hlt (by omega) hu2
structure zF0 (n:Nat) (listed half:Array Bool):Prop where
 size:half.size=n
 eq:∀ j,j<n->∀ d,listed.getD j d=half.getD j d
theorem zF0.set {n i:Nat} {listed half:Array Bool} (h:zF0 n listed half) (hi:i<n) (hl:n<=listed.size):zF0 n (listed.setIfInBounds i true) (half.setIfInBounds i true):=by
 refine ⟨by simp [h.size],fun j hj d=>?_⟩
 have hs:=h.size
 by_cases hij:i=j
 . subst hij
   have h1:i<listed.size:=by omega
   have h2:i<half.size:=by omega
   simp [h1,h2]
 . rw [getD_set_ne d hij,getD_set_ne d hij]
   exact h.eq j hj d
theorem zIV {l:List Oper} {n i:Nat} (hi:i<n):(l.take n).toArray[i]?=l.toArray[i]?:=by simp [hi]
theorem zJY {l:List Oper} {n i:Nat} {listed half:Array Bool} (hl:lowB md l.toArray n=true) (h:zF0 n listed half) (hi:i<n) (hr:i∈Region.ready md l.toArray listed):i∈Region.ready md (l.take n).toArray half:=by
 obtain ⟨hu,o,ho,hall⟩:=mem_ready.1 hr
 obtain ⟨o',ho',-,hlow⟩:=zMm hl hi
 rw [ho] at ho'
 cases ho'
 exact mem_ready.2 ⟨by rw [<- h.eq i hi];exact hu,o,by rw [zIV hi];exact ho,fun e he hb=>by rw [<- h.eq e.on (by have:=hlow e he hb;omega)];exact hall e he hb⟩
theorem zK2 {l:List Oper} {n i:Nat} {K:Act->Prop} {a:Act} (hl:lowB md l.toArray n=true) (hi:i<n) (h:stOp P (l.take n).toArray w i K a):stOp P l.toArray w i K a:=by
 obtain ⟨o,ho,hg,-⟩:=zMm hl hi
 unfold stOp at h ⊢
 rw [zIV hi,ho] at h
 rw [ho]
 simp only [Region.wanted,hg] at h ⊢
 exact h
theorem zIC {l:List Oper} {n g:Nat} {Lq:Act->Prop} {Q':Exit->Act->World->Prop} (hl:lowB md l.toArray n=true) (hs:Region.sinkB md l.toArray n=true) (hu:upB md l.toArray n=true) (hn:n<l.length)
 (hL:∀ listed a,listed.size=l.length->(∀ j,j<n->listed.getD j true=true)->(∀ t,n<=t->t<l.length->listed.getD t true=false)->Lq a->wpAny P md l.toArray Q' g listed a w) :
 ∀ (f:Nat) (listed half:Array Bool) (a:Act),HeadInv md l.toArray n listed->zF0 n listed half->half.toList.countP (fun b=>!b)=f->wpAnyS P md (l.take n).toArray w Lq f half a->wpAny P md l.toArray Q' (f+g) listed a w:=by
 intro f
 induction f with
 | zero=>
  intro listed half a inv hh hc h
  rw [zML]
  refine hL listed a (by rw [inv.size];simp) (fun j hj=>?_) (fun t h1 h2=>inv.tail t h1 (by simpa using h2)) h.2
  have hjs:j<half.size:=by rw [hh.size];exact hj
  have h1:=List.countP_eq_zero.1 hc half[j] (Array.getElem_mem_toList hjs)
  rw [hh.eq j hj true]
  simp [hjs]
  simpa using h1
 | succ f ih=>
  intro listed half a inv hh hc h
  have hsz:listed.size=l.length:=by rw [inv.size];simp
  obtain ⟨i0,hi0,hun0⟩:∃ i,i<n/\listed.getD i true=false:=by
   obtain ⟨b,hb,hb2⟩:=List.countP_pos_iff.1 (show 0<half.toList.countP (fun b=>!b) by omega)
   obtain ⟨i,hi,rfl⟩:=zMR hb
   have hi2:i<half.size:=by simpa using hi
   refine ⟨i,by rw [<- hh.size];exact hi2,?_⟩
   rw [hh.eq i (by rw [<- hh.size];exact hi2) true]
   simp [hi2]
   simpa using hb2
  obtain ⟨j0,hj0,hr0⟩:=zJT hl (by rw [inv.size]) (by simp;omega) i0 hi0 hun0
  rw [show f+1+g=(f+g)+1 by omega]
  refine ⟨fun h0=>(by rw [h0] at hr0;cases hr0),fun i hi=>?_⟩
  have hin:i<n:=by
   rcases zNp i n with h1 | h1
   . exact h1
   . exact absurd hi (not_yet hs hu inv hi0 hun0 i h1)
  have hih:=zJY hl hh hin hi
  refine wpOp_of_stOp (fun a' h'=>ih _ _ a' (inv.set hi hin) (hh.set hin (by omega)) ?_ h') (zK2 hl hin (h.2 i hih))
  have hlt:i<half.toList.length:=by rw [zOn,hh.size];exact hin
  have hu1:half.toList[i]=false:=by
   have:=(mem_ready.1 hih).1
   have hi2:i<half.size:=by rw [hh.size];exact hin
   simp [hi2] at this
   simpa using this
  rw [Array.toList_setIfInBounds,List.countP_set hlt,hu1,hc]
  simp
def midB (l:List Oper) (n:Nat):Bool:=
 decide (n<l.length)&&(lowB .any l.toArray n&&(Region.sinkB .any l.toArray n&&(upB .any l.toArray n&&(Region.lexB .any (l.take n).toArray&&(Region.noSelect l.toArray&&((l[n]?.bind (·.guard)).isNone&&
  (decide (Region.ready .any l.toArray (Array.replicate n true++Array.replicate (l.length - n) false)=[n])&&Region.lexFrom .any l.toArray (l.length - (n+1)) (n+1) (Array.replicate (n+1) true++Array.replicate (l.length - (n+1)) false))))))))
theorem zA7 {id:Nat} {Q:Exit->Act->World->Prop} {a:Act} {l:List Oper} (n:Nat) (o:Oper) (ho:l[n]?=some o) (hm:P.follows .mixedOrders=true) (hB:midB l n=true)
 (h:wpStill P (l.take n).toArray { w with drawn:=w.drawn+1 } (fun a'=>∀ K:Act->World->Prop,(∀ a2 w2,wpStill P l.toArray w2 (fun a3=>Q .normal a3 w2) (l.drop (n+1)) a2->K a2 w2)->o.wp P a' { w with drawn:=w.drawn+1 } K Q) (l.take n) a) :
 (Code.region id l.toArray true).wp P Q a w:=by
 simp only [midB,zMW,decide_eq_true_eq] at hB
 obtain ⟨hn,hl,hs,hu,hx,hsel,hg,hrd,hlx⟩:=hB
 simp only [Region.lexB,zMW] at hx
 have htl:(l.take n).length=n:=by simp;omega
 have hS:=wpAnyS_lex (md:=.any) hx.1 (l.take n) 0 (Array.replicate n false) a (fun j=>by simp) (by have:=hx.2;simp only [zOa,htl] at this;rw [htl];exact this) h
 rw [htl] at hS
 have inv0:HeadInv .any l.toArray n (Array.replicate l.length false):=
  ⟨by simp,fun j oj _ hl=>(by rw [getD_replicate_false] at hl;cases hl),fun t _ ht=>getD_in (by simpa using ht) (getD_replicate_false _ _)⟩
 have hh0:zF0 n (Array.replicate l.length false) (Array.replicate n false):=⟨by simp,fun j hj d=>by
  have h1:j<l.length:=by omega
  simp [hj,h1]⟩
 have hmain:=zIC (P:=P) (w:={ w with drawn:=w.drawn+1 }) (Q':=Q) (g:=(l.length - (n+1))+1) hl hs hu hn (fun listed a' hsz hlo hhi hL=>?_) n _ _ a inv0 hh0 (by simp [List.countP_replicate]) hS
 . refine wp_region_any hm ?_
   rw [show n+((l.length - (n+1))+1)=l.toArray.size by simp;omega] at hmain
   simpa using hmain
 . have he:listed=Array.replicate n true++Array.replicate (l.length - n) false:=by
    refine Array.ext (by simp [hsz];omega) fun j h1 h2=>?_
    have hjl:j<l.length:=by omega
    rcases zNp j n with h3 | h3
    . have:=hlo j h3
      simp [h1] at this
      rw [this,zN8 (by simpa using h3)]
      simp
    . have:=hhi j h3 hjl
      simp [h1] at this
      rw [this,zOk (by simpa using h3)]
      simp
   have he2:listed.setIfInBounds n true=Array.replicate (n+1) true++Array.replicate (l.length - (n+1)) false:=by
    rw [he]
    refine Array.ext (by simp;omega) fun j h1 h2=>?_
    have hjl:j<l.length:=by simp at h1;omega
    rw [Array.getElem_setIfInBounds (by simpa using h1)]
    rcases Nat.lt_trichotomy j n with h3 | h3 | h3
    . rw [if_neg (by omega),zN8 (by simpa using h3),zN8 (by simp;omega)]
      simp
    . rw [if_pos h3.symm,zN8 (by simp;omega)]
      simp
    . rw [if_neg (by omega),zOk (by simp;omega),zOk (by simp;omega)]
      simp
   rw [<- he] at hrd
   refine ⟨fun h0=>(by rw [hrd] at h0;cases h0),fun i hi=>?_⟩
   rw [hrd] at hi
   obtain rfl:i=n:=by simpa using hi
   have hoa:l.toArray[i]?=some o:=by simpa using ho
   have hgo:o.guard=none:=by rw [ho] at hg;simpa using hg
   have hK:=hL (wpAny P .any l.toArray Q (l.length - (i+1)) (listed.setIfInBounds i true)) fun a2 w2 h2=>by
    rw [he2]
    have hdl:(l.drop (i+1)).length=l.length - (i+1):=by simp
    have:=wpAnyS_lex (P:=P) (w:=w2) (md:=.any) hsel (l.drop (i+1)) (i+1) (Array.replicate (i+1) true++Array.replicate (l.length - (i+1)) false) a2 (fun j=>by simp [zNs]) (by rw [hdl];exact hlx) h2
    rw [hdl] at this
    exact wpAny_of_still (fun _ h=>h) _ _ _ this
   unfold wpOp
   simp only [hoa]
   rw [if_pos (by simp [Region.wanted,hgo])]
   exact .inl hK
end
end Go.Proofs.YtfmgdjgedhnmeaaGreat
namespace Go.Proofs.YtfmgdjgedhnmeaaGreat
open Go.RowKit
set_option linter.unusedVariables false
set_option linter.unusedSimpArgs false
theorem zJ7 (l:List Ent) (k:Nat) (h:k<l.length):(l.take (k+1)).map Ent.nm=(l.take k).map Ent.nm++[l[k].nm]:=by
 rw [zMD h,zNV]
 rfl
set_option maxRecDepth 100000 in
set_option maxHeartbeats 16000000 in
theorem zI8 (w:World) (ao fo so ba:Option Addr) (n cap fn fc sn sc bn bc:Nat) (s:List Blk) (key:Int) (x:SetV) (a:AskV) (hn:s.length=n) (h41:n<=1152921504606846976) (hs:StoRow w ao s) (hwf:WfS s) (hc:Capd ao n cap) (hx:SetIn w fo fn fc so sn sc x) (hwx:WfX x) :
 Calls Tryz.prog 33 #[.agg #[.slice ao n cap],.int .i64 key,.agg #[.string x.nm,.slice fo fn fc,.slice so sn sc],.agg #[.int .i64 a.kind,.string a.sname,.string a.file,.string a.dest,.int .i64 a.at_,.int .i64 a.n,.slice ba bn bc]] w fun e w'=>zMi e w w' (lookR s key x a):=by
 have HN:=lH hn
 have HC:=lH hc
 have HX0:=lH hx
 have HWX:=lH hwx
 obtain ⟨RD,hRD⟩:∃ RD,lookR s key x a=RD:=⟨_,rfl⟩
 rw [hRD]
 obtain ⟨kind,aset,afile,ato,aat,an,abytes⟩:=a
 unfold lookR at hRD
 simp only at hRD
 have HRD:=lH hRD
 obtain ⟨hb0,p0,p1,p2,p3,hz4⟩:=zB6 w (.cells #[.slice ao n cap] 24) (.cells #[.string x.nm,.slice fo fn fc,.slice so sn sc] 47) (.cells #[.int .i64 kind,.string aset,.string afile,.string ato,.int .i64 aat,.int .i64 an,.slice ba bn bc] 30) (.cells #[.int .i64 0,.int .i64 0,.slice none 0 0,.slice none 0 0] 34)
 have HZ4:=lH hz4
 clear hn hc hx hwx hRD hz4
 go_enter Tryz.func33,Tryz.ntmps33
 go_wp2_with fail
 have hs0:=lH hs
 have hs:=hs.mono hb0
 have HX:=lH (HX0.out.mono hb0)
 generalize (((w.alloc (.cells #[.slice ao n cap] 24)).alloc (.cells #[.string x.nm,.slice fo fn fc,.slice so sn sc] 47)).alloc (.cells #[.int .i64 kind,.string aset,.string afile,.string ato,.int .i64 aat,.int .i64 an,.slice ba bn bc] 30)).alloc (.cells #[.int .i64 0,.int .i64 0,.slice none 0 0,.slice none 0 0] 34)=W0 at *
 refine (zBM _ _ _ _ _ _ _ _ _ _ s key x HN.out (by omega) hs hwf HX.out HWX.out).mono ?_
 rintro e w1 ⟨rfl,hb1⟩
 have p0:=Zm hb1 p0
 have p1:=Zm hb1 p1
 have p2:=Zm hb1 p2
 have p3:=Zm hb1 p3
 have hbw:=zAd hb0 hb1
 have c0:=cell_of_one p0
 have c10:=zAa p1 0
 have c11:=zAa p1 1
 have c12:=zAa p1 2
 have k0:=zAa p2 0
 have k2:=zAa p2 2
 have k4:=zAa p2 4
 have k5:=zAa p2 5
 have c30:=zAa p3 0
 have c31:=zAa p3 1
 have c32:=zAa p3 2
 have c33:=zAa p3 3
 simp only [cA1,cA2,cA3] at c10 c11 c12 k0 k2 k4 k5 c30 c31 c32 c33
 have l0:=zAb p0
 have l1:=zAb p1
 have l2:=zAb p2
 have l3:=zAb p3
 have f3:=fun j=>zAc p3 j
 have HP3:=lH p3
 have HBW:=lH hbw
 have HPUT:=lH (fun (X:World) (hX:Below w1.heap.size w1 X) (e n c:Int)=>zAS ((hX.block _ l3).trans p3) (.int .i64 e) (.int .i64 n) (.slice none 0 0) (.slice none 0 0))
 by_cases hce:setE s key x=0
 rotate_left
 . have HR:Hid (RD=(noAns,setE s key x)):=lH (by rw [<- HRD.out,if_pos hce])
   have he1:(setE s key x != 0)=true:=by rw [bne_iff_ne];exact hce
   generalize setE s key x=ce at *
   clear hs hce HX HX0 HWX hb1 hwf HRD hs0 HPUT
   obtain ⟨z3,zb,-⟩:=zAS p3 (.int .i64 0) (.int .i64 0) (.slice none 0 0) (.slice none 0 0)
   have hbz:=zb _ _ hbw (by omega)
   unfold putA at z3 hbz
   have v0:=zAa z3 0
   have v1:=zAa z3 1
   have v2:=zAa z3 2
   have v3:=zAa z3 3
   simp only [cA1,cA2,cA3] at v0 v1 v2 v3
   clear zb
   go_wp2_with fail
   refine bodyPost_ret (v:=.tuple #[.agg #[.int .i64 0,.int .i64 0,.slice none 0 0,.slice none 0 0],.int .i64 ce]) (by simp [results,Tryz.results33,go_sem,v0,v1,v2,v3]) rfl ?_
   rw [HR.out]
   exact zCe hbz
 have HR0:=HRD.out.symm
 rw [if_neg (fun h=>h hce)] at HR0
 have HR1:=lH HR0
 have HRX:=lH (zEg hce)
 have HS1:=lH (hs.mono hb1)
 have HX1:=lH (HX0.out.mono hbw)
 rw [hce]
 clear hs hce HX HX0 hb1 HRD hs0 HR0
 by_cases h11:kind=11
 . subst h11
   have hR:=HR1.out
   rw [if_pos rfl] at hR
   obtain ⟨PN,hPN⟩:∃ PN,placeN (x.files.map Ent.nm) afile=PN:=⟨_,rfl⟩
   obtain ⟨PB,hPB⟩:∃ PB,placeB (x.files.map Ent.nm) afile=PB:=⟨_,rfl⟩
   have HPLT:Hid (PB=true->PN<fn):=lH fun h=>by rw [<- hPN,<- HX1.out.flen];have:=(zAU (hPB.trans h)).1;rwa [zMA] at this
   have HPL:=lH (zDH w1 fo fn fc x.files afile HX1.out.flen (by have:=HRX.out.files.len;have:=HX1.out.flen;omega) HX1.out.frow HRX.out.files.rise)
   rw [hPN,hPB] at HPL hR
   have HR2:=lH hR
   clear hPN hPB hR HR1
   go_wp2_with fail
   refine HPL.out.mono ?_
   rintro e w2 ⟨rfl,hb2⟩
   have hbw2:=zAd hbw hb2
   have HS2:=lH (HS1.out.mono hb2)
   have HX2:=lH (HX1.out.mono hb2)
   have p0:=(hb2.block _ l0).trans p0
   have p1:=(hb2.block _ l1).trans p1
   have p2:=(hb2.block _ l2).trans p2
   have p3:=(hb2.block _ l3).trans p3
   clear c0 c10 c11 c12 k0 k2 k4 k5 c30 c31 c32 c33 l0 l1 l2 l3 f3 HS1 HX1 HPL hb2 HP3 HBW HPUT
   have c0:=cell_of_one p0
   have c11:=zAa p1 1
   have k4:=zAa p2 4
   have k5:=zAa p2 5
   have c30:=zAa p3 0
   have c31:=zAa p3 1
   have c32:=zAa p3 2
   have c33:=zAa p3 3
   simp only [cA1,cA2,cA3] at c11 k4 k5 c30 c31 c32 c33
   have l0:=zAb p0
   have l1:=zAb p1
   have l2:=zAb p2
   have l3:=zAb p3
   have f3:=fun j=>zAc p3 j
   cases PB with
   | false=>
    have HR:Hid (RD=(⟨5,0,[],[]⟩,0)):=lH (by rw [HR2.out,if_pos rfl])
    obtain ⟨z3,zb,-⟩:=zAS p3 (.int .i64 5) (.int .i64 0) (.slice none 0 0) (.slice none 0 0)
    have hbz:=zb _ _ hbw2 (by omega)
    unfold putA at z3 hbz
    have v0:=zAa z3 0
    have v1:=zAa z3 1
    have v2:=zAa z3 2
    have v3:=zAa z3 3
    simp only [cA1,cA2,cA3] at v0 v1 v2 v3
    clear zb HR2
    go_wp2_with fail
    refine bodyPost_ret (v:=.tuple #[.agg #[.int .i64 5,.int .i64 0,.slice none 0 0,.slice none 0 0],.int .i64 0]) (by simp [results,Tryz.results33,go_sem,v0,v1,v2,v3]) rfl ?_
    rw [HR.out]
    exact zCe hbz
   | true=>
    have hlt:=HPLT.out rfl
    have hkl:PN<x.files.length:=by have:=HX2.out.flen;omega
    have hlt':(PN:Int)<fn:=by omega
    have hea:entAt x.files PN=x.files[PN]:=by unfold entAt;rw [zMt hkl];rfl
    have hR:=HR2.out
    rw [if_neg (by simp),hea] at hR
    obtain ⟨b,o,rfl,hq⟩:=HX2.out.frow.at PN hkl
    have hE:=hq PN hkl
    have d1:=hE.root
    have d2:=hE.size
    have lb:=hE.lt
    have hIz:=(HWX.out.files _ (zMr hkl)).2
    generalize x.files[PN]=y at *
    obtain ⟨ynm,yr,yz⟩:=y
    simp only at d1 d2 hR hIz
    obtain ⟨RR,hRR⟩:∃ RR,readR s key yr yz aat an=RR:=⟨_,rfl⟩
    have HRDC:Hid (∀ u,Below w2.heap.size w2 u->Calls Tryz.prog 60 #[.agg #[.slice ao n cap],.int .i64 key,.agg #[.int .i64 yr,.int .i64 yz],.int .i64 aat,.int .i64 an] u fun e w'=>SlEnd e u w' RR):=lH fun u hu=>by rw [<- hRR];exact zI9 u ao n cap s key yr yz aat an HN.out h41 (HS2.out.mono hu) hwf hIz HC.out
    rw [hRR] at hR
    have HR3:=lH hR
    have HB2:=lH hbw2
    have HP1:=lH p1
    have HP3:=lH p3
    have HE:=lH hE
    clear hE hq hea hR hRR HR2 HPLT hIz p0 p2
    go_upto_region 9 with fail
    refine zA7 12 _ rfl (by kernel_rfl) (by kernel_rfl) ?_
    simp only [zND,zNH,zNM,zN9]
    repeat still_step
    refine wpStill_nil ?_
    intro K hK
    go_simp
    refine (HRDC.out _ (zMy _ _).drew).mono ?_
    rintro e w3 ⟨ra,rn,rc,rfl,g1,g2,g3,g4'⟩
    have g4:=zBL g4'
    refine hK _ _ ?_
    clear hK K g4'
    repeat still_step
    refine wpStill_nil ?_
    . have hbw3:=zAd HB2.out g4
      have p1:=(g4.block _ l1).trans HP1.out
      have p3:=(g4.block _ l3).trans HP3.out
      have d2:=(HE.out.mono g4).size
      simp only at d2
      clear c0 c11 c30 c31 c32 c33 l0 l1 l2 l3 f3 k4 k5 d1 lb
      have lb:=(HE.out.mono g4).lt
      have c11:=zAa p1 1
      have c30:=zAa p3 0
      have c31:=zAa p3 1
      have c32:=zAa p3 2
      have c33:=zAa p3 3
      simp only [cA1,cA2,cA3] at c11 c30 c31 c32 c33
      have l1:=zAb p1
      have l3:=zAb p3
      have f3:=fun j=>zAc p3 j
      obtain ⟨rl,re⟩:=RR
      simp only at g1 g2 g3
      by_cases he:re=0
      rotate_left
      . have HR:Hid (RD=(⟨re,0,[],[]⟩,0)):=lH (by rw [HR3.out,if_pos he])
        have he1:(re != 0)=true:=by rw [bne_iff_ne];exact he
        obtain ⟨z3,zb,-⟩:=zAS p3 (.int .i64 re) (.int .i64 0) (.slice none 0 0) (.slice none 0 0)
        have hbz:=zb _ _ hbw3 (by omega)
        unfold putA at z3 hbz
        have v0:=zAa z3 0
        have v1:=zAa z3 1
        have v2:=zAa z3 2
        have v3:=zAa z3 3
        simp only [cA1,cA2,cA3] at v0 v1 v2 v3
        clear zb HR3 g1 g2 g3 g4 he HRDC
        go_wp2_with fail
        refine bodyPost_ret (v:=.tuple #[.agg #[.int .i64 re,.int .i64 0,.slice none 0 0,.slice none 0 0],.int .i64 0]) (by simp [results,Tryz.results33,go_sem,v0,v1,v2,v3]) rfl ?_
        rw [HR.out]
        exact zCe hbz
      . subst he
        have HR:Hid (RD=(⟨0,yz,[],rl⟩,0)):=lH (by rw [HR3.out,if_neg (by simp)])
        obtain ⟨z3,zb,-,-,zr,-⟩:=zAS p3 (.int .i64 0) (.int .i64 yz) (.slice none 0 0) (.slice ra rn rc)
        have hbz:=zb _ _ hbw3 (by omega)
        have hrz:=zr _ _ g2
        unfold putA at z3 hbz hrz
        have v0:=zAa z3 0
        have v1:=zAa z3 1
        have v2:=zAa z3 2
        have v3:=zAa z3 3
        simp only [cA1,cA2,cA3] at v0 v1 v2 v3
        have G1:=lH g1
        have GR:=lH hrz
        clear zb zr HR3 g1 g2 g4 HRDC hrz
        go_wp2_with fail
        refine bodyPost_ret (v:=.tuple #[.agg #[.int .i64 0,.int .i64 yz,.slice none 0 0,.slice ra rn rc],.int .i64 0]) (by simp [results,Tryz.results33,go_sem,v0,v1,v2,v3]) rfl ?_
        rw [HR.out]
        exact ⟨none,0,0,ra,rn,rc,rfl,hbz,rfl,G1.out,.inl rfl,GR.out,⟨zMs _,fun _=>rfl⟩,g3⟩
 . have m11:(kind==11)=false:=by rw [beq_eq_false_iff_ne];exact h11
   have hR:=HR1.out
   rw [if_neg h11] at hR
   by_cases h12:kind=12
   . subst h12
     rw [if_pos rfl] at hR
     have HR2:=lH hR
     have hfl:=HX1.out.flen
     have hf6:fn<=6:=by have:=HRX.out.files.len;omega
     have hf6':(fn:Int)<=6:=by omega
     have HFL:=lH hfl
     have hb2:=bA0 w1 (.cells #[.int .i64 0,.int .i64 fn,.slice none 0 0,.slice none 0 0] 34)
     have qa:=heap_alloc_new w1 (.cells #[.int .i64 0,.int .i64 fn,.slice none 0 0,.slice none 0 0] 34)
     have d11:=Zc hb2 l1 c11
     have hsz2:w1.heap.size<(w1.alloc (.cells #[.int .i64 0,.int .i64 fn,.slice none 0 0,.slice none 0 0] 34)).heap.size:=by simp
     have hl3:w.heap.size+3<w1.heap.size:=by omega
     have HL3:=lH hl3
     clear hR HR1 hfl HS1 HBW HPUT hl3
     go_wp2_with fail
     generalize w1.alloc (.cells #[.int .i64 0,.int .i64 fn,.slice none 0 0,.slice none 0 0] 34)=W2 at *
     clear c0 c10 c11 c12 k0 k2 k4 k5 c30 c31 c32 c33 l0 l1 l2 l3 f3 p0 p1 p2 p3 d11
     have HBW:=lH hbw
     clear hbw
     go_loopw [79] (fun i wr=>∃ k:Nat,k<=fn/\i=.int .i64 k/\∃ va vc,OwnS 9 (w1.heap.size+1) wr (.slice va k vc) ((x.files.take k).map Ent.nm)/\wr.heap[w1.heap.size]?=some (.cells #[.int .i64 0,.int .i64 fn,.slice va k vc,.slice none 0 0] 34 (0,0))/\Below w1.heap.size w1 wr) (fun i _=>fn - (intOf i).toNat)
     case atStart=>exact ⟨0,zMO _,rfl,none,0,OwnS.nil _ _ _,qa,hb2⟩
     case round=>
      clear qa hb2 hsz2
      obtain ⟨k,hkn,rfl,va,vc,hown,hbx,hbel⟩:=hrel
      by_cases hlt:k<fn
      . have hkl:k<x.files.length:=by have:=HFL.out;omega
        have hlt':(k:Int)<fn:=by omega
        have hk6:k<=6:=by omega
        obtain ⟨b,o,rfl,hq⟩:=(HX1.out.frow.mono hbel).at k hkl
        have hE:=hq k hkl
        have c0:=hE.nm
        have c1:=hE.root
        have c2:=hE.size
        have lb:=hE.lt
        have HKT:=lH (zJ7 x.files k hkl)
        have HLEN:Hid (((x.files.take k).map Ent.nm).length=k):=lH (by rw [zMA,zMI];omega)
        clear hq hE
        generalize x.files[k]=y at *
        obtain ⟨nm,root,size⟩:=y
        simp only at c0 c1 c2
        have hb2:=bA0 wr (.cells #[.string nm,.int .i64 root,.int .i64 size] 76)
        have hown2:=hown.mono hb2
        have hbel2:=zAd hbel hb2
        have qx:=Zm hb2 hbx
        have y2:=zAa qx 2
        have q2:=heap_alloc_new wr (.cells #[.string nm,.int .i64 root,.int .i64 size] 76)
        have d0:=zAa q2 0
        simp only [cA1,cA2,cA3] at y2 d0
        have ly:=zAb qx
        have HQX:=lH qx
        have hsz3:w1.heap.size+1<=(wr.alloc (.cells #[.string nm,.int .i64 root,.int .i64 size] 76)).heap.size:=ly
        have HB2:=lH hbel2
        clear hown hb2 q2 hbx qx hbel
        go_wp2_with (first
         | (at_builtin;refine zJ9 rfl (.tmp 84) (.tmp 87) _ rfl 9 16 (w1.heap.size+1) Tryz.underlying32 info_str _ _ _ rfl hown2 _ rfl (by simp) ?_ ?_ hsz3 ?_;rotate_right;intro v' w4 hown4 hbel4;obtain ⟨va4,vc4,hv4,-,-⟩:=hown4.shape;rw [zMG,HLEN.out] at hv4;simp only [zMT,zNK,zML] at hv4;subst hv4;have q4:=(hbel4.block _ (Nat.lt_succ_self _)).trans HQX.out;have z2:=zAa q4 2;simp only [cA1,cA2,cA3] at z2;have zf:=fun j=>zAc q4 j;have lz:=zAb q4))
        . go_roundw
          case rel=>
           have hset:=zAe q4 2 (.slice va4 (k+1) vc4)
           simp only [zMS,zM7,zM9] at hset
           refine ⟨k+1,by omega,by go_num,va4,vc4,?_,hset,((HB2.out.trans (hbel4.mono (zOo _))).setCell (p:=⟨w1.heap.size,2,none⟩) (zMs _) _)⟩
           rw [HKT.out]
           exact hown4.keep fun b hb _=>zMu _ _ _ _ (by show b≠w1.heap.size;omega)
          case measure=>simp [intOf];omega
        . unfold maxLen;omega
        . omega
      . obtain rfl:k=fn:=by omega
        have ht:x.files.take k=x.files:=zMM (by have:=HFL.out;omega)
        rw [ht] at hown
        clear ht
        have HR:Hid (RD=(⟨0,k,x.files.map Ent.nm,[]⟩,0)):=lH (by rw [HR2.out,HFL.out])
        have HNL:Hid ((x.files.map Ent.nm).length=k):=lH (by rw [zMA,HFL.out])
        have hlt':¬ (k:Int)<k:=by omega
        have p3:=(hbel.block _ (by have:=HL3.out;omega)).trans HP3.out
        have hbw3:Below w.heap.size w wr:=zAd HBW.out hbel
        obtain ⟨va5,vc5,hv5,hcap5,hrow5⟩:=hown.shape
        rw [HNL.out] at hv5 hcap5
        simp only [Value.slice.injEq,true_and] at hv5
        obtain ⟨rfl,rfl⟩:=hv5
        obtain ⟨z3,zb,-,-,-,zs⟩:=zAS p3 (.int .i64 0) (.int .i64 k) (.slice va k vc) (.slice none 0 0)
        have hbz:=zb _ _ hbw3 (by omega)
        have hrz:=zs _ _ hrow5
        unfold putA at z3 hbz hrz
        have v0:=zAa z3 0
        have v1:=zAa z3 1
        have v2:=zAa z3 2
        have v3:=zAa z3 3
        have x0:=zAa hbx 0
        have x1:=zAa hbx 1
        have x2:=zAa hbx 2
        have x3:=zAa hbx 3
        have c30:=zAa p3 0
        have c31:=zAa p3 1
        have c32:=zAa p3 2
        have c33:=zAa p3 3
        simp only [cA1,cA2,cA3] at v0 v1 v2 v3 x0 x1 x2 x3 c30 c31 c32 c33
        have l3:=zAb p3
        have lx:=zAb hbx
        have f3:=fun j=>zAc p3 j
        have GR:=lH hrz
        have GC:=lH hcap5
        clear zb zs hrz hown hcap5 hrow5 hbel HR2
        go_wp2_with fail
        refine bodyPost_ret (v:=.tuple #[.agg #[.int .i64 0,.int .i64 k,.slice va k vc,.slice none 0 0],.int .i64 0]) (by simp [results,Tryz.results33,go_sem,v0,v1,v2,v3]) rfl ?_
        rw [HR.out]
        exact ⟨va,k,vc,none,0,0,rfl,hbz,HNL.out,rfl,GR.out,.inl rfl,GC.out,⟨zMs _,fun _=>rfl⟩⟩
   . have m12:(kind==12)=false:=by rw [beq_eq_false_iff_ne];exact h12
     have HR:Hid (RD=(noAns,4)):=lH (by rw [hR,if_neg h12])
     obtain ⟨z3,zb,-⟩:=zAS p3 (.int .i64 0) (.int .i64 0) (.slice none 0 0) (.slice none 0 0)
     have hbz:=zb _ _ hbw (by omega)
     unfold putA at z3 hbz
     have v0:=zAa z3 0
     have v1:=zAa z3 1
     have v2:=zAa z3 2
     have v3:=zAa z3 3
     simp only [cA1,cA2,cA3] at v0 v1 v2 v3
     clear zb hR HR1 HS1 HX1 HPUT HBW
     go_wp2_with fail
     refine bodyPost_ret (v:=.tuple #[.agg #[.int .i64 0,.int .i64 0,.slice none 0 0,.slice none 0 0],.int .i64 4]) (by simp [results,Tryz.results33,go_sem,v0,v1,v2,v3]) rfl ?_
     rw [HR.out]
     exact zCe hbz
end Go.Proofs.YtfmgdjgedhnmeaaGreat
