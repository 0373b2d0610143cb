/- A set of one's own, its snap, and whatever is done. No program in sight. · rookeryref.SameAnswer: are two answers the same? · SetApart: a clone has what the snap has; whatever is done to it, the set reads as ahead; destroyed, it never was there. · Asks that came in, opened. · SetSnap: a snap never changes, whatever is done but to forget it; who goes back to it has what was; destroyed, nothing is there that was not. · Rows of answers that grow; what tenants ask of a pool, one after the other, in plain words. -/
import Derived.Test.YtfmgdjgedhnmeaaGreatHold
import Derived.Test.YtfmgdjgedhnmeaaGreatGather
import Derived.Test.YtfmgdjgedhnmeaaGreatOpenX
import Derived.ArgAppend
import Derived.Test.YtfmgdjgedhnmeaaGreatPoolO
namespace Go.Proofs.YtfmgdjgedhnmeaaGreat
open Go.RowKit
set_option linter.unusedVariables false
set_option linter.unusedSimpArgs false
structure AskAt (w:World) (b o:Nat) (a:AskV) (ba:Option Addr) (bc:Nat):Prop where
 kind:w.cell? ⟨b,o,none⟩=some (.int .i64 a.kind)
 sname:w.cell? ⟨b,o+1,none⟩=some (.string a.sname)
 file:w.cell? ⟨b,o+2,none⟩=some (.string a.file)
 dest:w.cell? ⟨b,o+3,none⟩=some (.string a.dest)
 at_:w.cell? ⟨b,o+4,none⟩=some (.int .i64 a.at_)
 n:w.cell? ⟨b,o+5,none⟩=some (.int .i64 a.n)
 bytes:w.cell? ⟨b,o+6,none⟩=some (.slice ba a.bytes.length bc)
 row:Row .u8 w ba a.bytes
 cap:Capd ba a.bytes.length bc
theorem AskAt.mono {w w':World} {b o:Nat} {a:AskV} {ba:Option Addr} {bc:Nat} (h:AskAt w b o a ba bc) (hb:Below w.heap.size w w'):AskAt w' b o a ba bc:=by
 have hl:=zMx _ _ h.kind
 have hc:∀ j,w'.cell? ⟨b,j,none⟩=w.cell? ⟨b,j,none⟩:=fun j=>zMB (a:=⟨b,j,none⟩) (hb.block b hl)
 exact ⟨(hc _).trans h.kind,(hc _).trans h.sname,(hc _).trans h.file,(hc _).trans h.dest,(hc _).trans h.at_,(hc _).trans h.n,(hc _).trans h.bytes,h.row.mono hb,h.cap⟩
def zIS (w:World) (ao:Option Addr) (l:List AskV):Prop:=l=[]\/∃ b o,ao=some ⟨b,o,none⟩/\∀ i (h:i<l.length),∃ ba bc,AskAt w b (o+i*7) l[i] ba bc
theorem zIS.at {w:World} {ao:Option Addr} {l:List AskV} (h:zIS w ao l) (i:Nat) (hi:i<l.length):∃ b o ba bc,ao=some ⟨b,o,none⟩/\AskAt w b (o+i*7) l[i] ba bc:=by
 rcases h with rfl | ⟨b,o,h1,h⟩
 . simp at hi
 . obtain ⟨ba,bc,h2⟩:=h i hi
   exact ⟨b,o,ba,bc,h1,h2⟩
def WfA (l:List AskV):Prop:=∀ a∈l,Byt a.bytes/\a.bytes.length<=140737488351232
section
variable {K p:Nat} {w w':World} {fo:Option Addr} {fn fc:Nat} {so:Option Addr} {sn sc:Nat} {x:SetV}
end
end Go.Proofs.YtfmgdjgedhnmeaaGreat
namespace Go.Proofs.YtfmgdjgedhnmeaaGreat
open Go.RowKit Go.ChangeShapes Go.WideShapes Go.Deep Go.Joins
set_option linter.unusedVariables false
set_option linter.unusedSimpArgs false
section
variable {H:Type} {enc:TypeId×Value->H} {w:World} {base:Nat} {spare:Nat->Bool} {held:Bool}
theorem zGT {P:Program} {t:TypeId} {f0 f1 f2 f3 f4 f5 f6:Field} {fuel:Nat} {cs:List Value} {x:DataW H×List MemPlace} (ht:P.underlying t=some (.struct #[f0,f1,f2,f3,f4,f5,f6])) (h:DataW.trod enc P w base spare held fuel t cs=some x) :
 ∃ y0 y1 y2 y3 y4 y5 y6 n,x.1=.agg [y0.1,y1.1,y2.1,y3.1,y4.1,y5.1,y6.1]/\DataW.trod enc P w base spare held n f0.type ((cs.drop f0.offset).take (P.cellsOf f0.type))=some y0/\
  DataW.trod enc P w base spare held n f1.type ((cs.drop f1.offset).take (P.cellsOf f1.type))=some y1/\DataW.trod enc P w base spare held n f2.type ((cs.drop f2.offset).take (P.cellsOf f2.type))=some y2/\
  DataW.trod enc P w base spare held n f3.type ((cs.drop f3.offset).take (P.cellsOf f3.type))=some y3/\DataW.trod enc P w base spare held n f4.type ((cs.drop f4.offset).take (P.cellsOf f4.type))=some y4/\
  DataW.trod enc P w base spare held n f5.type ((cs.drop f5.offset).take (P.cellsOf f5.type))=some y5/\DataW.trod enc P w base spare held n f6.type ((cs.drop f6.offset).take (P.cellsOf f6.type))=some y6:=by
 obtain ⟨xs,n,_,rfl,hl,hlen,hf⟩:=DataW.trod_struct ht h
 match xs,hlen with
 | [y0,y1,y2,y3,y4,y5,y6],_=>exact ⟨y0,y1,y2,y3,y4,y5,y6,n,by simp,by simpa using hf 0 f0 rfl,by simpa using hf 1 f1 rfl,by simpa using hf 2 f2 rfl,by simpa using hf 3 f3 rfl,by simpa using hf 4 f4 rfl,by simpa using hf 5 f5 rfl,by simpa using hf 6 f6 rfl⟩
end
end Go.Proofs.YtfmgdjgedhnmeaaGreat
namespace Go.Proofs.YtfmgdjgedhnmeaaGreat
open Go.RowKit
set_option linter.unusedVariables false
set_option linter.unusedSimpArgs false
end Go.Proofs.YtfmgdjgedhnmeaaGreat

namespace Go.Proofs.YtfmgdjgedhnmeaaGreat
open Go.RowKit
set_option linter.unusedVariables false
set_option linter.unusedSimpArgs false
theorem zJs (b j:Nat):(⟨b,0,none⟩:Addr).add j=⟨b,0+j,none⟩:=by
 unfold Addr.add
 split<;>simp_all
theorem Kind.run_append {α:Type} {M:Kind α} {P:Program} (w:World) (base:Nat) (t:TypeId) (i0:TypeInfo) (z:Value) (bytes:Nat) (ht:P.underlying t=some (.slice M.elem)) (hi:P.info? M.elem=some i0) (hz0:i0.zero=some z) (hsz:i0.size=M.k) (hby:i0.bytes=bytes)
 (hzc:z.cells=(M.cells M.zero).toArray) {v:Value} {l:List α} {x:α} (h:M.Own w base v l) (vb:Nat) {te:TypeId} (hv:w.heap[vb]?=some (.cells (M.cells x).toArray te (0,0))) (hlen:l.length<=1000) (hb2:bytes<=1000) (hbase:base<=w.heap.size) :
 ∃ v' w',(∀ ty,(Builtin.append_ #[t,t] ty #[v,.slice (some ⟨vb,0,none⟩) 1 1]).run P w=.ok v' w')/\M.Own w' base v' (l++[x])/\w.grownBy w' v.ownBlock/\(v'.ownBlock=v.ownBlock\/v'.ownBlock=some w.heap.size):=by
 have hl:(M.cells x).length=1*i0.size:=by rw [M.len,Nat.one_mul,hsz]
 have hnews:∀ j u,(M.cells x)[j]?=some u->w.cell? ((⟨vb,0,none⟩:Addr).add j)=some u:=fun j u hj=>by
  rw [zJs,zAa hv,zML,zMC]
  exact hj
 have hbig:(l.length+1)*bytes<=1001*1000:=Nat.mul_le_mul (by omega) hb2
 rcases h with ⟨rfl,rfl⟩ | ⟨g,cap,sp,rfl,hg,hcap,hh⟩
 . have hr:=fun ty=>run_append_nil (P:=P) w t ty M.elem i0 z ht hi hz0 ⟨vb,0,none⟩ 1 1 (M.cells x) hl hnews (by omega) (by omega) (by rw [hby,Nat.one_mul];omega)
   have hge:=grownCap_ge w 1 0 M.elem
   refine ⟨_,_,hr,.inr ⟨w.heap.size,_,List.replicate (grownCap w 1 0 M.elem - 1) M.zero,rfl,hbase,by simp;omega,?_⟩,⟨rfl,rfl,rfl,by simp,fun k hk _=>heap_alloc_old w.drew _ hk⟩,.inr rfl⟩
   have:=heap_alloc_new w.drew (.cells ((M.cells x).toArray++Builtin.zeroCells z.cells (grownCap w 1 0 M.elem - 1)) M.elem)
   rw [Kind.zeros z hzc,zNS] at this
   rw [Kind.zeros z hzc,zNS,zNy,M.all_append,show M.all [x]=M.cells x from by simp [Kind.all]]
   exact this
 . have hal:(M.all l).length=l.length*i0.size:=by rw [M.all_len,hsz]
   cases sp with
   | nil=>
    rw [zNW] at hh
    have holds:∀ j u,(M.all l)[j]?=some u->w.cell? ((⟨g,0,none⟩:Addr).add j)=some u:=fun j u hj=>by
     rw [zJs,zAa hh,zML,zMC]
     exact hj
    have hc:cap=l.length:=by simpa using hcap
    have hr:=fun ty=>run_append_grow (P:=P) w t ty M.elem i0 z ht hi hz0 ⟨g,0,none⟩ l.length cap (M.all l) hal holds ⟨vb,0,none⟩ 1 1 (M.cells x) hl hnews (by omega) (by omega) (growslice_fits (by omega) (by rw [hby];omega))
    have hge:=grownCap_ge w (l.length+1) cap M.elem
    refine ⟨_,_,hr,.inr ⟨w.heap.size,grownCap w (l.length+1) cap M.elem,List.replicate (grownCap w (l.length+1) cap M.elem - (l.length+1)) M.zero,by simp,hbase,by simp;omega,?_⟩,⟨rfl,rfl,rfl,by simp,fun k hk _=>heap_alloc_old w.drew _ hk⟩,.inr rfl⟩
    have:=heap_alloc_new w.drew (.cells ((M.all l).toArray++(M.cells x).toArray++Builtin.zeroCells z.cells (grownCap w (l.length+1) cap M.elem - (l.length+1))) M.elem)
    rw [Kind.zeros z hzc,zNS,zNS] at this
    rw [Kind.zeros z hzc,zNS,zNS,M.all_append,M.all_append,show M.all [x]=M.cells x from by simp [Kind.all]]
    exact this
   | cons s0 sp=>
    rw [zMT] at hcap
    have hall:M.all (l++s0::sp)=M.all l++(M.cells s0++M.all sp):=by rw [M.all_append,M.all_cons]
    have hsl:(M.all (l++s0::sp)).length=(l.length+(sp.length+1))*M.k:=by rw [M.all_len,zMG,zMT]
    have hfit:l.length*M.k+M.k<=(l.length+(sp.length+1))*M.k:=by rw [<- Nat.succ_mul];exact zNr _ (by omega)
    have hxl:(M.cells x).length=M.k:=M.len x
    have hr:=fun ty=>run_append_room_cells (P:=P) w t ty M.elem i0 ht hi g 0 l.length cap ⟨vb,0,none⟩ 1 1 (M.cells x) hl hnews (M.one x) (by omega) (fun j hj=>by
     rw [zAa hh,zMC,zML,hsz,zMt (by rw [hsl];omega)]
     rfl) (fun j _=>zAc hh _)
    simp only [zML,hsz] at hr
    have hH:=zCG (M.cells x) (l.length*M.k) w (M.all (l++s0::sp)) hh (by rw [hsl];omega)
    refine ⟨_,_,hr,.inr ⟨g,cap,sp,by simp,hg,by simp;omega,?_⟩,?_,.inl rfl⟩
    . rw [hH]
      congr 3
      unfold Go.splice
      have hlk:(M.all l).length=l.length*M.k:=M.all_len l
      rw [hall,zOs hlk,hxl,M.all_append,M.all_append,show M.all [x]=M.cells x from by simp [Kind.all],<- zM8 (M.all l) (M.cells s0),List.drop_left' (by rw [zMG,hlk,M.len]),zM8]
    . have hb:=zFR (base:=0) (g:=g) (w:=w) (w0:=w) ⟨rfl,rfl,rfl,zMs _,fun _ h=>absurd h (Nat.not_lt_zero _)⟩ (zMO _) (M.cells x) (l.length*M.k)
      exact ⟨hb.os,hb.tape,hb.output,hb.size,fun b _ hr=>zAl _ _ _ (fun e=>hr (by rw [e];rfl))⟩
structure Anv where
 e:Int
 n:Int
 na:Option Addr
 nn:Nat
 nc:Nat
 ba:Option Addr
 bn:Nat
 bc:Nat
def anvK:Kind Anv where
 cells x:=[.int .i64 x.e,.int .i64 x.n,.slice x.na x.nn x.nc,.slice x.ba x.bn x.bc]
 k:=4
 zero:=⟨0,0,none,0,0,none,0,0⟩
 elem:=34
 pos:=by omega
 len _:=rfl
 one x v hv:=by
  simp only [zNP,zNG,or_false] at hv
  rcases hv with rfl | rfl | rfl | rfl<;>rfl
theorem info_ans:(Tryz.prog.info? 34).map (fun i=>(i.zero,i.size,i.bytes))=some (some (.agg #[.int .i64 0,.int .i64 0,.slice none 0 0,.slice none 0 0]),4,64):=by kernel_rfl
theorem zKA:∃ (i0:TypeInfo) (z:Value),Tryz.prog.info? anvK.elem=some i0/\i0.zero=some z/\i0.size=anvK.k/\i0.bytes=64/\z.cells=(anvK.cells anvK.zero).toArray:=by
 obtain ⟨i0,hi,hz0,hz1,hz2⟩:=info_parts info_ans
 exact ⟨i0,_,hi,hz0,hz1,hz2,by rfl⟩
theorem zKq {w:World} {g t:Nat} {L:List Anv} (h:w.heap[g]?=some (.cells (anvK.all L).toArray t (0,0))):Plain w g:=by
 have hc:∀ o v,w.cell? ⟨g,o,none⟩=some v->(o%4<2/\∃ x,v=.int .i64 x)\/(2<=o%4/\∃ a n c,v=.slice a n c):=fun o v hv=>by
  rw [zAa h,zMC] at hv
  have hlt:o<L.length*4:=by
   have:=(List.getElem?_eq_some_iff.1 hv).1
   rw [anvK.all_len] at this
   exact this
  have h2:=anvK.all_at L (o / 4) (by omega) (o%4) (by show o%4<4;omega)
  rw [show o / 4*anvK.k+o%4=o from by show o / 4*4+o%4=o;omega,hv] at h2
  rcases (show o%4=0\/o%4=1\/o%4=2\/o%4=3 from by omega) with e | e | e | e
  . rw [e] at h2;exact .inl ⟨by omega,_,zNg h2⟩
  . rw [e] at h2;exact .inl ⟨by omega,_,zNg h2⟩
  . rw [e] at h2;exact .inr ⟨by omega,_,_,_,zNg h2⟩
  . rw [e] at h2;exact .inr ⟨by omega,_,_,_,zNg h2⟩
 refine ⟨⟨fun o x y z h1 h2 h3=>?_,fun o x h1=>?_⟩,fun o s h1=>?_⟩
 . have p0:o%4<2:=(hc _ _ h1).elim (fun h=>h.1) fun ⟨_,_,_,_,e⟩=>by cases e
   have p1:(o+1)%4<2:=(hc _ _ h2).elim (fun h=>h.1) fun ⟨_,_,_,_,e⟩=>by cases e
   have p2:(o+2)%4<2:=(hc _ _ h3).elim (fun h=>h.1) fun ⟨_,_,_,_,e⟩=>by cases e
   omega
 . rcases hc _ _ h1 with ⟨-,_,e⟩ | ⟨-,_,_,_,e⟩<;>cases e
 . rcases hc _ _ h1 with ⟨-,_,e⟩ | ⟨-,_,_,_,e⟩<;>cases e
theorem zKI {w:World} {ao:Option Addr} {s:List Blk} {X:Nat->Prop} (h:StoRow w ao s) (hK:∀ g o,ao=some ⟨g,o,none⟩->s≠[]->¬ X g) (k4:Kid4 s) (hX:∀ b,b<w.heap.size->X b->NoKid w b):Hangs X w fun w=>StoRow w ao s:=fun w' hk=>by
 have hcell:∀ b o v,w.cell? ⟨b,o,none⟩=some v->¬ X b->w'.cell? ⟨b,o,none⟩=some v:=fun b o v hv hx=>(zMB (w:=w) (hk.block b (zMx _ _ hv) hx)).trans hv
 have hkids:∀ ao xs,(xs=[]\/xs.length=4)->Row .i64 w ao xs->Row .i64 w' ao xs:=fun ao xs hl hf=>by
  rcases hf with rfl | ⟨b,o,rfl,hf⟩
  . exact .inl rfl
  . rcases hl with rfl | hl
    . exact .inl rfl
    . have hne:¬ X b:=fun hx=>(hX b (zMx _ _ (hf 0 (by omega))) hx).1 _ _ _ _ (hf 0 (by omega)) (hf 1 (by omega)) (hf 2 (by omega))
      exact .inr ⟨b,o,rfl,fun i hi=>hcell _ _ _ (hf i hi) hne⟩
 have hbytes:∀ ao xs,Row .u8 w ao xs->Row .u8 w' ao xs:=fun ao xs hf=>by
  rcases hf with rfl | ⟨b,o,rfl,hf⟩
  . exact .inl rfl
  . rcases zMJ xs.length with h0 | h0
    . exact .inl (zMv h0)
    . have hne:¬ X b:=fun hx=>(hX b (zMx _ _ (hf 0 h0)) hx).2 _ _ (hf 0 h0)
      exact .inr ⟨b,o,rfl,fun i hi=>hcell _ _ _ (hf i hi) hne⟩
 rcases h with rfl | ⟨g,o,rfl,h⟩
 . exact .inl rfl
 . by_cases hs:s=[]
   . exact .inl hs
   have hg:¬ X g:=hK g o rfl hs
   refine .inr ⟨g,o,rfl,fun i hi=>?_⟩
   obtain ⟨h1,h2,⟨v1,k1,va,vc,e1,r1,c1⟩,⟨v2,k2,ua,uc,e2,r2,c2⟩⟩:=h i hi
   exact ⟨hcell _ _ _ h1 hg,hcell _ _ _ h2 hg,⟨v1,hcell _ _ _ k1 hg,va,vc,e1,hkids _ _ (k4 _ (zMr hi)) r1,c1⟩,⟨v2,hcell _ _ _ k2 hg,ua,uc,e2,hbytes _ _ r2,c2⟩⟩
theorem zBU {w:World} {so ao:Option Addr} {sn sc n cap:Nat} {p:PoolV} (h:zAG w so sn sc ao n cap p) {X:Nat->Prop} (hso:∀ g o,so=some ⟨g,o,none⟩->p.s≠[]->¬ X g) (hao:∀ g o,ao=some ⟨g,o,none⟩->p.tens≠[]->¬ X g) (k4:Kid4 p.s) (hX:∀ b,b<w.heap.size->X b->Plain w b) :
 Hangs X w fun w=>zAG w so sn sc ao n cap p:=fun w' hk=>by
 obtain ⟨vs,h1,h2,h3⟩:=h.row
 refine ⟨h.slen,zKI h.srow hso k4 (fun b hl hb=>(hX b hl hb).1) w' hk,h.scap,h.len,⟨vs,h1,?_,fun i a b=>⟨(h3 i a b).1,(h3 i a b).2.1,(h3 i a b).2.2.hang hX w' hk⟩⟩,h.cap⟩
 by_cases ht:p.tens=[]
 . left
   exact zMv (by rw [h1,ht];rfl)
 . rcases h2 with h2 | ⟨b,o,e,h2⟩
   . exact .inl h2
   . refine .inr ⟨b,o,e,fun j v hj=>?_⟩
     have hv:=h2 j v hj
     have hlt:=zMx _ _ hv
     exact (zMB (w:=w) (hk.block b hlt (hao b o e ht))).trans hv
theorem zAG.lts {w:World} {so ao:Option Addr} {sn sc n cap:Nat} {p:PoolV} (h:zAG w so sn sc ao n cap p):(∀ g o,so=some ⟨g,o,none⟩->p.s≠[]->g<w.heap.size)/\∀ g o,ao=some ⟨g,o,none⟩->p.tens≠[]->g<w.heap.size:=by
 refine ⟨fun g o e hs=>?_,fun g o e ht=>?_⟩
 . rcases h.srow with h4 | ⟨g',o',e',h4⟩
   . exact absurd h4 hs
   . rw [e'] at e
     simp only [zMz,zME] at e
     rw [<- e.1]
     exact zMx _ _ (h4 0 (List.length_pos_iff.2 hs)).refs
 . obtain ⟨vs,h1,h2,-⟩:=h.row
   have hl:0<vs.length:=by rw [h1];exact List.length_pos_iff.2 ht
   obtain ⟨b,o',e',hlt,-⟩:=Kind.Row.at h2 hl
   rw [e'] at e
   simp only [zMz,zME] at e
   rw [<- e.1]
   exact hlt
def stepP (p:PoolV) (i:Int) (a:AskV):PoolV×AnsV:=if (doP p i a).2.2≠0 then (p,⟨(doP p i a).2.2,0,[],[]⟩) else ((doP p i a).1,(doP p i a).2.1)
def runL:PoolV->List Int->List AskV->PoolV×List AnsV
 | p,i::who,a::l=>((runL (stepP p i a).1 who l).1,(stepP p i a).2::(runL (stepP p i a).1 who l).2)
 | p,[],_=>(p,[])
 | p,_::_,[]=>(p,[])
def runP (p:PoolV) (who:List Int) (l:List AskV):PoolV×List AnsV×Int:=
 if poolE p≠0 then (⟨[],[]⟩,[],poolE p) else if 60<l.length then (⟨[],[]⟩,[],2) else if who.length≠l.length then (⟨[],[]⟩,[],4) else ((runL p who l).1,(runL p who l).2,0)
theorem zGL:∀ (k:Nat) (p:PoolV) (who:List Int) (l:List AskV) (h1:k<who.length) (h2:k<l.length),
 runL p (who.take (k+1)) (l.take (k+1))=((stepP (runL p (who.take k) (l.take k)).1 who[k] l[k]).1,(runL p (who.take k) (l.take k)).2++[(stepP (runL p (who.take k) (l.take k)).1 who[k] l[k]).2])
 | 0,p,i::who,a::l,_,_=>by simp [runL]
 | k+1,p,i::who,a::l,h1,h2=>by
  have ih:=zGL k (stepP p i a).1 who l (by simpa using h1) (by simpa using h2)
  simp only [zND,runL,ih,List.getElem_cons_succ,List.cons_append]
 | 0,_,[],_,h1,_=>absurd h1 (by simp)
 | 0,_,_::_,[],_,h2=>absurd h2 (by simp)
 | _+1,_,[],_,h1,_=>absurd h1 (by simp)
 | _+1,_,_::_,[],_,h2=>absurd h2 (by simp)
theorem zAM.wfp {p:PoolV} (h:zAM p) (hw:WfS p.s):WfP p:=by
 refine ⟨hw,by have:=(zAg p.s h.chk).1;omega,by have:=h.len;omega,fun t ht=>?_⟩
 have hT:=h.ten t ht
 refine ⟨?_,by have:=hT.q0;have:=hT.q4;unfold I64;omega,by have:=hT.len;omega,fun x hx=>⟨(hT.sets x hx).wf,(hT.sets x hx).fit⟩⟩
 have:=hT.kok
 unfold keyE at this
 unfold I64
 split at this
 . cases this
 . omega
theorem zIP {p:PoolV} (hp:zAM p) (hw:WfS p.s) {i:Int} {a:AskV} (hb:Byt a.bytes) (h:(doP p i a).2.2=0):zAM (doP p i a).1/\WfS (doP p i a).1.s:=by
 unfold doP at h ⊢
 rw [if_neg (not_not_intro hp.zero)] at h ⊢
 split
 . rename_i h1
   rw [if_pos h1] at h
   cases h
 . rename_i h1
   rw [if_neg h1] at h
   split
   . exact ⟨hp,hw⟩
   . rename_i h2
     have hk:i.toNat<p.tens.length:=by omega
     have e:tenAt p i=p.tens[i.toNat]:=by unfold tenAt;rw [zMt hk];rfl
     have h2':(doT p.s (tenAt p i) a).2.2.2=0:=Classical.not_not.1 h2
     have hS:=zKu hp hw (zMr hk) hb (a:=a) (by rw [<- e];exact h2')
     rw [<- e] at hS
     exact ⟨zCV.pool hp hk (by rw [<- e];exact hS),hS.wf⟩
theorem zJt {p:PoolV} (hp:zAM p) (hw:WfS p.s) {i:Int} {a:AskV} (hb:Byt a.bytes):zAM (stepP p i a).1/\WfS (stepP p i a).1.s:=by
 unfold stepP
 split
 . exact ⟨hp,hw⟩
 . rename_i h
   exact zIP hp hw hb (Classical.not_not.1 h)
def zEt (w wr:World) (p:PoolV) (who:List Int) (l:List AskV) (k:Nat) (so:Option Addr) (sn sc:Nat) (ao:Option Addr) (n cap:Nat) (oa:Option Addr) (on oc:Nat) (q:PoolV) (out:List AnsV) (vs:List Anv):Prop:=
 runL p (who.take k) (l.take k)=(q,out)/\zAG wr so sn sc ao n cap q/\(zAM q/\WfS q.s)/\anvK.Own wr w.heap.size (.slice oa on oc) vs/\(vs.length=out.length/\out.length=k/\∀ i (h:i<vs.length) (h':i<out.length),vs[i].e=out[i].e/\vs[i].n=out[i].n/\AnwIn wr vs[i].na vs[i].nn vs[i].nc vs[i].ba vs[i].bn vs[i].bc out[i])/\
  (∀ g o,so=some ⟨g,o,none⟩->q.s≠[]->w.heap.size+2<=g/\oa≠some ⟨g,0,none⟩)/\∀ g o,ao=some ⟨g,o,none⟩->q.tens≠[]->w.heap.size+2<=g/\oa≠some ⟨g,0,none⟩
section
variable {w wr W6 w7:World} {p q:PoolV} {who:List Int} {l:List AskV} {k sn sc n cap on oc:Nat} {so ao oa:Option Addr} {out:List AnsV} {vs:List Anv}
theorem zEt.kept (h:zEt w wr p who l k so sn sc ao n cap oa on oc q out vs) {t c1 d1 c2 d2:Nat} {x y:Option Addr} (ht:t≠anvK.elem) (hp:wr.heap[w.heap.size]?=some (.cells #[.slice x c1 d1,.slice y c2 d2] t (0,0))) (hk:Kept (fun b=>b=w.heap.size) wr W6) :
 zEt w W6 p who l k so sn sc ao n cap oa on oc q out vs:=by
 obtain ⟨h1,h2,h3,h4,⟨h5,h6,h7⟩,h8,h9⟩:=h
 have hX:∀ b,b<wr.heap.size->b=w.heap.size->Plain wr b:=fun b _ e=>by rw [e];exact zBI hp
 refine ⟨h1,zBU h2 (X:=fun b=>b=w.heap.size) (fun g o e hs h=>by have:=(h8 g o e hs).1;omega) (fun g o e hs h=>by have:=(h9 g o e hs).1;omega) (Good.of_check h3.1.chk h3.2).kid4 hX W6 hk,h3,h4.other fun g hg hl=>hk.block g hl fun e=>?_,⟨h5,h6,fun i a b=>⟨(h7 i a b).1,(h7 i a b).2.1,(h7 i a b).2.2.hang hX W6 hk⟩⟩,h8,h9⟩
 have e:g=w.heap.size:=e
 subst hg
 have h10:=h4.typ (by rw [e];exact hp)
 exact ht h10
theorem zEt.next (h:zEt w W6 p who l k so sn sc ao n cap oa on oc q out vs) (h1:k<who.length) (h2:k<l.length) {q2:PoolV} {y:AnsV} {x:Anv} {so2 ao2:Option Addr} {sn2 sc2 n2 cap2:Nat} (hst:stepP q who[k] l[k]=(q2,y)) (hby:Byt l[k].bytes)
 (hq:zAG W6 so2 sn2 sc2 ao2 n2 cap2 q2) (hf1:∀ g o,so2=some ⟨g,o,none⟩->q2.s≠[]->w.heap.size+2<=g/\oa≠some ⟨g,0,none⟩) (hf2:∀ g o,ao2=some ⟨g,o,none⟩->q2.tens≠[]->w.heap.size+2<=g/\oa≠some ⟨g,0,none⟩)
 (hx:x.e=y.e/\x.n=y.n/\AnwIn W6 x.na x.nn x.nc x.ba x.bn x.bc y) {A:Obj} {oa7:Option Addr} {on7 oc7:Nat} (hg7:(W6.alloc A).grownBy w7 (Value.slice oa on oc).ownBlock) (hown7:anvK.Own w7 w.heap.size (.slice oa7 on7 oc7) (vs++[x]))
 (hat:(Value.slice oa7 on7 oc7).ownBlock=(Value.slice oa on oc).ownBlock\/(Value.slice oa7 on7 oc7).ownBlock=some (W6.alloc A).heap.size) :
 zEt w w7 p who l (k+1) so2 sn2 sc2 ao2 n2 cap2 oa7 on7 oc7 q2 (out++[y]) (vs++[x]):=by
 obtain ⟨k1,k2,k3,k4,⟨k5,k6,k7⟩,k8,k9⟩:=h
 have hok:=zJt k3.1 k3.2 (i:=who[k]) hby
 rw [hst] at hok
 have hoa:∀ g,(Value.slice oa on oc).ownBlock=some g->oa=some ⟨g,0,none⟩:=fun g e=>by
  rcases k4 with ⟨_,e1⟩ | ⟨g',_,_,e1,-⟩
  . simp only [Value.slice.injEq] at e1
    rw [e1.1] at e
    cases e
  . simp only [Value.slice.injEq] at e1
    rw [e1.1] at e ⊢
    simp only [Value.ownBlock,zMz] at e
    rw [e]
 have hb6:Below W6.heap.size W6 (W6.alloc A):=(zMy _ _).alloc (zMs _) _
 have hk:Kept (fun b=>oa=some ⟨b,0,none⟩) W6 w7:=⟨hg7.os.trans hb6.os,hg7.tape.trans hb6.tape,hg7.output.trans hb6.output,zMN hb6.size hg7.size,fun b hl hb=>(hg7.block b (zMw hl hb6.size) (fun e=>hb (hoa b e.symm))).trans (hb6.block b hl)⟩
 have hX:∀ b,b<W6.heap.size->oa=some ⟨b,0,none⟩->Plain W6 b:=fun b _ e=>by
  subst e
  obtain ⟨L,hL⟩:=k4.all_at
  exact zKq hL
 have hfr:∀ g,g<W6.heap.size->oa≠some ⟨g,0,none⟩->oa7≠some ⟨g,0,none⟩:=fun g hl hn e=>by
  rw [e] at hat
  simp only [Value.ownBlock] at hat
  rcases hat with hat | hat
  . exact hn (hoa g hat.symm)
  . simp only [zMz] at hat
    have:=hb6.size
    omega
 obtain ⟨l1,l2⟩:=hq.lts
 refine ⟨?_,zBU hq (fun g o e hs=>(hf1 g o e hs).2) (fun g o e hs=>(hf2 g o e hs).2) (Good.of_check hok.1.chk hok.2).kid4 hX w7 hk,hok,hown7,⟨by simp [k5],by simp [k6],fun i a b=>?_⟩,fun g o e hs=>⟨(hf1 g o e hs).1,hfr g (l1 g o e hs) (hf1 g o e hs).2⟩,fun g o e hs=>⟨(hf2 g o e hs).1,hfr g (l2 g o e hs) (hf2 g o e hs).2⟩⟩
 . rw [zGL k p who l h1 h2,k1,hst]
 . by_cases hlt:i<vs.length
   . rw [zMY hlt,zMY (by omega)]
     obtain ⟨m1,m2,m3⟩:=k7 i hlt (by omega)
     exact ⟨m1,m2,m3.hang hX w7 hk⟩
   . have e1:i=vs.length:=by simp at a;omega
     subst e1
     have e2:(out++[y])[vs.length]'b=y:=by
      rw [zMX (by omega)]
      simp
     have e3:(vs++[x])[vs.length]'a=x:=by
      rw [zMX (zMs _)]
      simp
     rw [e2,e3]
     exact ⟨hx.1,hx.2.1,hx.2.2.hang hX w7 hk⟩
end
structure UpP (W u:World):Prop where
 bel:Below W.heap.size W u
 kid:∀ b,W.heap.size<=b->b<u.heap.size->Plain u b
theorem UpP.refl (W:World):UpP W W:=⟨zMy _ _,fun b h1 h2=>absurd h2 (Nat.not_lt_of_le h1)⟩
theorem UpP.dr {W u:World} (h:UpP W u):UpP W u.drew:=⟨h.bel.drew,fun b h1 h2=>(h.kid b h1 h2).same rfl⟩
theorem UpP.alloc {W u:World} {cs:Array Value} {t:TypeId} (h:UpP W u) (hc:∀ w:World,∀ b,w.heap[b]?=some (.cells cs t (0,0))->Plain w b):UpP W (u.alloc (.cells cs t)):=by
 refine ⟨h.bel.alloc h.bel.size _,fun b h1 h2=>?_⟩
 rcases (show b<u.heap.size\/b=u.heap.size from by simp at h2;omega) with e | rfl
 . exact (h.kid b h1 e).same (zM5 _ _ _ e)
 . exact hc _ _ (heap_alloc_new u (.cells cs t))
theorem UpP.two {W u:World} {t:TypeId} (h:UpP W u):UpP W (u.alloc (.cells #[.slice none 0 0,.slice none 0 0] t)):=h.alloc fun _ _ h=>zBI h
theorem UpP.ans {W u:World} {t:TypeId} (h:UpP W u):UpP W (u.alloc (.cells #[.int .i64 0,.int .i64 0,.slice none 0 0,.slice none 0 0] t)):=h.alloc fun _ _ h=>zFk h
structure AftP (W u w':World) (so:Option Addr) (sn sc:Nat) (ao:Option Addr) (n cap:Nat) (q:PoolV) (na:Option Addr) (nn nc:Nat) (ba:Option Addr) (bn bc:Nat) (y:AnsV):Prop where
 hang:∀ wx,Kept (fun b=>W.heap.size<=b/\b<u.heap.size) w' wx->zAG wx so sn sc ao n cap q/\AnwIn wx na nn nc ba bn bc y
 far:(∀ g o,so=some ⟨g,o,none⟩->q.s≠[]->W.heap.size<=g)/\∀ g o,ao=some ⟨g,o,none⟩->W.heap.size<=g
theorem AftP.of {W u w':World} {so ao na ba:Option Addr} {sn sc n cap nn nc bn bc:Nat} {q:PoolV} {y:AnsV} (hu:UpP W u) (hb:Below u.heap.size u w') (hq:zAG w' so sn sc ao n cap q) (ha:AnwIn w' na nn nc ba bn bc y) (h1:∀ g o,so=some ⟨g,o,none⟩->q.s≠[]->u.heap.size<=g) (h2:∀ g o,ao=some ⟨g,o,none⟩->u.heap.size<=g) (k4:Kid4 q.s) :
 AftP W u w' so sn sc ao n cap q na nn nc ba bn bc y:=by
 have hX:∀ b,b<w'.heap.size->(W.heap.size<=b/\b<u.heap.size)->Plain w' b:=fun b _ hb2=>(hu.kid b hb2.1 hb2.2).same (hb.block b hb2.2)
 exact ⟨fun wx hk=>⟨zBU hq (X:=fun b=>W.heap.size<=b/\b<u.heap.size) (fun g o e hs h=>by have:=h1 g o e hs;omega) (fun g o e _ h=>by have:=h2 g o e;omega) k4 hX wx hk,ha.hang hX wx hk⟩,fun g o e hs=>zMN hu.bel.size (h1 g o e hs),fun g o e=>zMN hu.bel.size (h2 g o e)⟩
theorem zDr {X:World} {b t l c m d:Nat} {x y:Option Addr} (p:X.heap[b]?=some (.cells #[.slice x l c,.slice y m d] t (0,0))) (u0 u1:Value) :
 ((X.setCell ⟨b,0,none⟩ u0).setCell ⟨b,1,none⟩ u1).heap[b]?=some (.cells #[u0,u1] t (0,0))/\∀ B w0,Below B w0 X->B<=b->Below B w0 ((X.setCell ⟨b,0,none⟩ u0).setCell ⟨b,1,none⟩ u1):=by
 have r0:=zAe p 0 u0
 have r1:=zAe r0 1 u1
 simp only [zMS,zM7,zM9] at r1
 exact ⟨r1,fun B w0 h hb=>(h.setCell (p:=⟨b,0,none⟩) hb _).setCell (p:=⟨b,1,none⟩) hb _⟩
def OutIn (base:Nat) (w:World) (v:Value) (out:List AnsV):Prop:=
 ∃ vs:List Anv,anvK.Own w base v vs/\vs.length=out.length/\∀ i (h:i<vs.length) (h':i<out.length),vs[i].e=out[i].e/\vs[i].n=out[i].n/\AnwIn w vs[i].na vs[i].nn vs[i].nc vs[i].ba vs[i].bn vs[i].bc out[i]
def RunEnd (e:Ending) (w w':World) (r:PoolV×List AnsV×Int):Prop:=
 ∃ (so:Option Addr) (sn sc:Nat) (ao:Option Addr) (n cap:Nat) (oa:Option Addr) (on oc:Nat),e=.returned (.tuple #[.agg #[.slice so sn sc,.slice ao n cap],.slice oa on oc,.int .i64 r.2.2])/\Below w.heap.size w w'/\zAG w' so sn sc ao n cap r.1/\OutIn w.heap.size w' (.slice oa on oc) r.2.1
theorem zD7 {w w':World} {ce:Int} (hb:Below w.heap.size w w'):RunEnd (.returned (.tuple #[.agg #[.slice none 0 0,.slice none 0 0],.slice none 0 0,.int .i64 ce])) w w' (⟨[],[]⟩,[],ce):=
 ⟨none,0,0,none,0,0,none,0,0,rfl,hb,⟨rfl,.inl rfl,⟨zMs _,fun _=>rfl⟩,rfl,⟨[],rfl,.inl rfl,fun i h=>absurd h (by simp)⟩,⟨zMs _,fun _=>rfl⟩⟩,⟨[],.inl ⟨rfl,rfl⟩,rfl,fun i h=>absurd h (by simp)⟩⟩
theorem doP_kid4 {p:PoolV} (hp:zAM p) (hw:WfS p.s) {i:Int} {a:AskV} (hb:Byt a.bytes):Kid4 (doP p i a).1.s:=by
 by_cases h:(doP p i a).2.2=0
 . obtain ⟨h1,h2⟩:=zIP hp hw hb h
   exact (Good.of_check h1.chk h2).kid4
 . have:(doP p i a).1=⟨[],[]⟩:=by
    unfold doP at h ⊢
    rw [if_neg (not_not_intro hp.zero)] at h ⊢
    split
    . rfl
    . rename_i h1
      rw [if_neg h1] at h
      split at h
      . exact absurd rfl h
      . exact absurd rfl h
   rw [this]
   intro x hx
   cases hx
end Go.Proofs.YtfmgdjgedhnmeaaGreat
