/- A pool as bytes, and bytes as a pool: what is written is read, and the other way round. No program in sight. · image.Write: a pool's bytes. · Rows that are built by append, with what hangs on them. No program in sight. · image's reader: bytes, and numbers. · image's reader: entries. · image.read's deferred closure: what recover makes of a torn image. · image's reader: a pool. · image.read and image.Read. · image.Write: a pool as bytes. · image.Same. · pool.New. -/
import Derived.Test.YtfmgdjgedhnmeaaGreatPoolP
import Derived.Test.YtfmgdjgedhnmeaaGreatPoolCheck
import Derived.Maps.AppendAt
import Derived.Lib.ConvBytes
import Derived.Test.YtfmgdjgedhnmeaaGreatPoolRow
import Derived.Test.YtfmgdjgedhnmeaaGreatCopy
import Derived.Deep.RegionLaw
import Derived.Laws.BytesArg
import Derived.Defers
import Derived.Recover
import Derived.Laws.Pointers
import Derived.Lib.ByteType
import Derived.Test.YtfmgdjgedhnmeaaGreatLoose
namespace Go.Proofs.YtfmgdjgedhnmeaaGreat
open Go.RowKit
set_option linter.unusedVariables false
set_option linter.unusedSimpArgs false
def nb (n:Int):List Int:=[n / 256,n%256]
def zDi:PoolV:=⟨[],[]⟩
end Go.Proofs.YtfmgdjgedhnmeaaGreat

namespace Go.Proofs.YtfmgdjgedhnmeaaGreat
open Go.RowKit
set_option linter.unusedVariables false
set_option linter.unusedSimpArgs false
theorem zEe {k:IntKind} {w:World} {g:Nat} {xs:List Int} {t:TypeId} {fr:Nat×Nat} (h:w.heap[g]?=some (.cells (icells k xs) t fr)):Row k w (some ⟨g,0,none⟩) xs:=
 .inr ⟨g,0,rfl,fun i hi=>by
  have:w.cell? ⟨g,0+i,none⟩=(icells k xs)[0+i]?:=by simp [World.cell?,h]
  rw [this,zML,zBK k xs i hi]⟩
end Go.Proofs.YtfmgdjgedhnmeaaGreat

namespace Go.Proofs.YtfmgdjgedhnmeaaGreat
open Go.RowKit
set_option linter.unusedVariables false
set_option linter.unusedSimpArgs false
def zCN (ty:TypeId->Bool) (base:Nat) (w w':World):Prop:=w.heap.size<=w'.heap.size/\∀ b,base<=b->b<w.heap.size->∀ cs t f,w.heap[b]?=some (.cells cs t f)->ty t=true->w'.heap[b]?=w.heap[b]?
theorem zCN.sub {ty ty':TypeId->Bool} {base base':Nat} {w w':World} (h:zCN ty base w w') (hs:∀ t,ty' t=true->ty t=true) (hb:base<=base'):zCN ty' base' w w':=⟨h.1,fun b h1 h2 cs t f h3 h4=>h.2 b (zMN hb h1) h2 cs t f h3 (hs t h4)⟩
theorem zCN.of_keep {ty:TypeId->Bool} {base:Nat} {w w':World} (hs:w.heap.size<=w'.heap.size) (h:∀ b,base<=b->b<w.heap.size->w'.heap[b]?=w.heap[b]?):zCN ty base w w':=⟨hs,fun b h1 h2 _ _ _ _ _=>h b h1 h2⟩
theorem zCN.of_below {ty:TypeId->Bool} {base:Nat} {w w':World} (h:Below w.heap.size w w'):zCN ty base w w':=.of_keep h.size fun b _ h2=>h.block b h2
structure Rep (α β:Type) where
 K:Kind α
 R:World->Nat->α->β->Prop
 sub:TypeId->Bool
 apart:sub K.elem=false
 keep:∀ {w w':World} {base:Nat} {a:α} {x:β},R w base a x->zCN sub base w w'->R w' base a x
 weaken:∀ {w:World} {base base':Nat} {a:α} {x:β},R w base a x->base'<=base->R w base' a x
section
variable {α β:Type} (M:Rep α β)
def Rep.tys (t:TypeId):Bool:=M.sub t||t==M.K.elem
def Rep.Grow (w:World) (base:Nat) (v:Value) (l:List β):Prop:=
 ∃ vs:List α,w.ownsRow base M.K.elem M.K.k v vs.length (M.K.all vs)/\vs.length=l.length/\∀ i (h:i<vs.length) (h':i<l.length),M.R w base vs[i] l[i]
variable {M}
theorem Rep.Grow.nil (w:World) (base:Nat):M.Grow w base (.slice none 0 0) []:=⟨[],World.ownsRow_nil _ _ _ _,rfl,fun i h=>absurd h (by simp)⟩
theorem zMg {w w':World} {base e size n:Nat} {v:Value} {xs:List Value} (h:w.ownsRow base e size v n xs) (hk:∀ g,base<=g->g<w.heap.size->∀ cs f,w.heap[g]?=some (.cells cs e f)->w'.heap[g]?=w.heap[g]?):w'.ownsRow base e size v n xs:=by
 obtain ⟨h1,h2⟩:=h
 refine ⟨h1,?_⟩
 rcases h2 with h2 | ⟨g,cap,cur,hv,hg,hh,r⟩
 . exact .inl h2
 . exact .inr ⟨g,cap,cur,hv,hg,by rw [hk g hg (zAb hh) _ _ hh];exact hh,r⟩
theorem zH2 {w:World} {base base' e size n:Nat} {v:Value} {xs:List Value} (h:w.ownsRow base e size v n xs) (hb:base'<=base):w.ownsRow base' e size v n xs:=by
 obtain ⟨h1,h2⟩:=h
 refine ⟨h1,?_⟩
 rcases h2 with h2 | ⟨g,cap,cur,hv,hg,r⟩
 . exact .inl h2
 . exact .inr ⟨g,cap,cur,hv,zMN hb hg,r⟩
theorem Rep.Grow.keep {w w':World} {base:Nat} {v:Value} {l:List β} (h:M.Grow w base v l) (hk:zCN M.tys base w w'):M.Grow w' base v l:=by
 obtain ⟨vs,h1,h2,h3⟩:=h
 refine ⟨vs,zMg h1 fun g hg hl cs f hc=>hk.2 g hg hl cs _ f hc (by simp [Rep.tys]),h2,fun i a b=>M.keep (h3 i a b) (hk.sub (fun t ht=>by simp [Rep.tys,ht]) (zMs _))⟩
theorem Rep.Grow.mono {w w':World} {base:Nat} {v:Value} {l:List β} (h:M.Grow w base v l) (hb:Below w.heap.size w w'):M.Grow w' base v l:=h.keep (.of_below hb)
theorem Rep.Grow.weaken {w:World} {base base':Nat} {v:Value} {l:List β} (h:M.Grow w base v l) (hb:base'<=base):M.Grow w base' v l:=by
 obtain ⟨vs,h1,h2,h3⟩:=h
 exact ⟨vs,zH2 h1 hb,h2,fun i a b=>M.weaken (h3 i a b) hb⟩
theorem Rep.Grow.shape {w:World} {base:Nat} {v:Value} {l:List β} (h:M.Grow w base v l):∃ ao cap,v=.slice ao l.length cap/\Capd ao l.length cap/\(∀ g,v.ownBlock=some g->base<=g/\g<w.heap.size/\∃ cs,w.heap[g]?=some (.cells cs M.K.elem (0,0)))/\
 ∃ vs:List α,vs.length=l.length/\M.K.Row w ao vs/\∀ i (h:i<vs.length) (h':i<l.length),M.R w base vs[i] l[i]:=by
 obtain ⟨vs,⟨h1,h2⟩,h3,h4⟩:=h
 rcases h2 with ⟨rfl,h2⟩ | ⟨g,cap,cur,rfl,hg,hh,hn,hc,hs,ht⟩
 . have e:l=[]:=zMv (by omega)
   have e2:vs=[]:=zMv h2
   subst e e2
   exact ⟨none,0,rfl,⟨zMs _,fun _=>rfl⟩,(fun g h=>by cases h),[],rfl,.inl rfl,h4⟩
 . refine ⟨_,cap,by rw [h3],⟨by omega,fun h=>by cases h⟩,(fun g' h=>?_),vs,h3,.inr ⟨g,0,rfl,fun j v hj=>?_⟩,h4⟩
   . simp only [Value.ownBlock,zMz] at h
     subst h
     exact ⟨hg,zAb hh,cur,hh⟩
   . rw [zAa hh,zML]
     have hjl:=(List.getElem?_eq_some_iff.1 hj).1
     rw [M.K.all_len] at hjl
     have e1:(cur.toList.take (vs.length*M.K.k))[j]?=(M.K.all vs)[j]?:=by rw [ht]
     rw [zNY,if_pos hjl,hj] at e1
     simpa using e1
theorem Rep.Grow.snoc {w w':World} {base:Nat} {v v':Value} {l:List β} {a:α} {x:β} (h:M.Grow w base v l) (hR:M.R w base a x)
 (hown:∀ vs:List α,w.ownsRow base M.K.elem M.K.k v vs.length (M.K.all vs)->w'.ownsRow base M.K.elem M.K.k v' (vs.length+1) (M.K.all vs++M.K.cells a)) (hg:w.grownBy w' v.ownBlock):M.Grow w' base v' (l++[x]):=by
 have hst:zCN M.sub base w w':=by
  obtain ⟨ao,cap,rfl,-,hb,-⟩:=h.shape
  refine ⟨hg.size,fun b h1 h2 cs t f h3 h4=>hg.block b h2 fun e=>?_⟩
  obtain ⟨-,-,cs2,h5⟩:=hb b e.symm
  rw [h3] at h5
  simp only [zMz,Obj.cells.injEq] at h5
  rw [h5.2.1,M.apart] at h4
  cases h4
 obtain ⟨vs,h1,h2,h3⟩:=h
 refine ⟨vs++[a],?_,by simp [h2],fun i hi hi'=>?_⟩
 . have:=hown vs h1
   rw [M.K.all_append,zMG,List.length_singleton]
   simpa [Kind.all] using this
 . by_cases hlt:i<vs.length
   . rw [zMY hlt,zMY (by omega)]
     exact M.keep (h3 i hlt (by omega)) hst
   . have e1:i=vs.length:=by simp at hi;omega
     subst e1
     simp only [zMX (zMs _),Nat.sub_self,List.getElem_singleton]
     have:(l++[x])[vs.length]'hi'=x:=by
      rw [zMX (by omega)]
      simp
     rw [this]
     exact M.keep hR hst
theorem zJI {w u w':World} {r:Option Nat} (h:Below w.heap.size w u) (k:u.grownBy w' r):w.grownBy w' r:=
 ⟨k.os.trans h.os,k.tape.trans h.tape,k.output.trans h.output,zMN h.size k.size,fun b hb hr=>(k.block b (zMw hb h.size) hr).trans (h.block b hb)⟩
theorem Rep.run_append {P:Program} {w:World} {base:Nat} {v:Value} {l:List β} {a:α} {x:β} (t ty:TypeId) (z:Value) (bytes:Nat) (ht:P.underlying t=some (.slice M.K.elem)) (hinfo:(P.info? M.K.elem).map (fun i=>(i.zero,i.size,i.bytes))=some (some z,M.K.k,bytes)) (hz:z.cells.size=M.K.k)
 (h:M.Grow w base v l) (hR:M.R w base a x) (hlen:l.length<=100000) (hby:bytes<=1000) (hbase:base<=w.heap.size) (cs:Array Value) (hcs:cs=(M.K.cells a).toArray) :
 ∃ v' w',(Builtin.append_ #[t,t] ty #[v,.slice (some ⟨w.heap.size,0,none⟩) 1 1]).run P (w.alloc (.cells cs M.K.elem))=.ok v' w'/\M.Grow w' base v' (l++[x])/\w.grownBy w' v.ownBlock/\(v'.ownBlock=v.ownBlock\/∃ g,v'.ownBlock=some g/\w.heap.size<=g):=by
 subst hcs
 have hb:Below w.heap.size w (w.alloc (.cells (M.K.cells a).toArray M.K.elem)):=(zMy _ _).alloc (zMs _) _
 have h':=h.mono hb
 have hR':M.R (w.alloc (.cells (M.K.cells a).toArray M.K.elem)) base a x:=M.keep hR (.of_below hb)
 obtain ⟨i0,hi,hz0,hz1,hz2⟩:=info_parts hinfo
 have hnews:∀ j u,(M.K.cells a)[j]?=some u->(w.alloc (.cells (M.K.cells a).toArray M.K.elem)).cell? ((⟨w.heap.size,0,none⟩:Addr).add j)=some u:=fun j u hj=>by
  rw [zBf,zAa (heap_alloc_new w (.cells (M.K.cells a).toArray M.K.elem)),zML,zMC]
  exact hj
 obtain ⟨vs,h1,h2,h3⟩:=h'
 have h1':=h1
 obtain ⟨v',w',hr,g1,g2,g3,g4⟩:=run_append_own_at (P:=P) _ base t ty M.K.elem i0 z M.K.k bytes ht hi hz0 hz1 hz2 hz M.K.pos v _ _ h1 ⟨w.heap.size,0,none⟩ 1 1 (M.K.cells a) (by rw [M.K.len,Nat.one_mul]) hnews (M.K.one a) (by unfold maxLen;omega) (by
  have:(vs.length+1)*bytes<=100001*1000:=Nat.mul_le_mul (by omega) hby
  omega) (by simp;omega)
 refine ⟨v',w',hr,?_,zJI hb g2,?_⟩
 . refine Rep.Grow.snoc ⟨vs,h1',h2,h3⟩ hR' (fun vs2 h2'=>?_) g2
   have e:M.K.all vs2=M.K.all vs/\vs2.length=vs.length:=by
    obtain ⟨k1,k2⟩:=h1'
    obtain ⟨k3,k4⟩:=h2'
    have hl:vs2.length=vs.length:=by
     rcases k2 with ⟨e1,e2⟩ | ⟨g,cap,cur,e1,_,_,_,_,_,_⟩
     . rcases k4 with ⟨_,e3⟩ | ⟨g2,cap2,cur2,e3,_⟩
       . omega
       . rw [e1] at e3;cases e3
     . rcases k4 with ⟨e3,_⟩ | ⟨g2,cap2,cur2,e3,_⟩
       . rw [e1] at e3;cases e3
       . rw [e1] at e3
         simp only [Value.slice.injEq] at e3
         omega
    refine ⟨?_,hl⟩
    rcases k2 with ⟨e1,e2⟩ | ⟨g,cap,cur,e1,_,hh,_,_,_,ht1⟩
    . have a1:vs=[]:=zMv e2
      have a2:vs2=[]:=zMv (by omega)
      rw [a1,a2]
    . rcases k4 with ⟨e3,_⟩ | ⟨g2,cap2,cur2,e3,_,hh2,_,_,_,ht2⟩
      . rw [e1] at e3;cases e3
      . rw [e1] at e3
        simp only [Value.slice.injEq,zMz,zME,and_true] at e3
        rw [e3.1,hh2] at hh
        simp only [zMz,Obj.cells.injEq] at hh
        rw [<- ht1,<- ht2,hl,hh.1]
   rw [e.1,e.2]
   exact g1
 . refine g4.imp id fun e=>⟨_,e,by simp⟩
theorem Rep.step_append {P:Program} {w:World} {ops:Array Oper} {o:Oper} {act:Act} {C:Act->World->Prop} {Q:Exit->Act->World->Prop} {E:Prop} (hgd:o.guard=none) (s y:Operand) (t:TypeId)
 (ho:o.op=.call { callee:=.builtin .append,args:=#[s,y],argTypes:=#[t,t] })
 {base:Nat} {v:Value} {l:List β} {a:α} {x:β} (z:Value) (bytes:Nat) (ht:P.underlying t=some (.slice M.K.elem)) (hinfo:(P.info? M.K.elem).map (fun i=>(i.zero,i.size,i.bytes))=some (some z,M.K.k,bytes)) (hz:z.cells.size=M.K.k)
 (h:M.Grow w base v l) (hR:M.R w base a x) (hlen:l.length<=100000) (hby:bytes<=1000) (hbase:base<=w.heap.size) (cs:Array Value) (hcs:cs=(M.K.cells a).toArray)
 (hs:act.eval s=v) (hy:act.eval y=.slice (some ⟨w.heap.size,0,none⟩) 1 1)
 (hK:∀ v' w',M.Grow w' base v' (l++[x])->w.grownBy w' v.ownBlock->(v'.ownBlock=v.ownBlock\/∃ g,v'.ownBlock=some g/\w.heap.size<=g)->C (act.put o.dst v') w') :
 if Region.wanted o (yielded ops act.tmps)=true then Oper.wp P o act (w.alloc (.cells cs M.K.elem)) C Q else E:=by
 have hw:Region.wanted o (yielded ops act.tmps)=true:=by simp [Region.wanted,hgd]
 rw [if_pos hw]
 obtain ⟨v',w',hr,h2,h3,h4⟩:=Rep.run_append (P:=P) t o.type z bytes ht hinfo hz h hR hlen hby hbase cs hcs
 unfold Oper.wp execOp
 simp only [ho,resolve,invoke,builtin,Sem.run_bind,Sem.run_pure,Result.andThen_ok,List.map_toArray,zNw,List.map_nil,hs,hy,hr]
 exact hK v' w' h2 h3 h4
end
def zHQ:Rep Ent Ent where
 K:=entK
 R _ _ a x:=a=x
 sub _:=false
 apart:=rfl
 keep h _:=h
 weaken h _:=h
def zI7:Rep Snv Snp where
 K:=snvK
 R w base a x:=a.nm=x.nm/\zHQ.Grow w base (.slice a.ao a.n a.cap) x.files
 sub:=zHQ.tys
 apart:=by decide
 keep h k:=⟨h.1,h.2.keep k⟩
 weaken h k:=⟨h.1,h.2.weaken k⟩
def zLX:Rep Stv SetV where
 K:=stvK
 R w base a x:=a.nm=x.nm/\zHQ.Grow w base (.slice a.fo a.fn a.fc) x.files/\zI7.Grow w base (.slice a.so a.sn a.sc) x.snaps
 sub:=zI7.tys
 apart:=by decide
 keep h k:=⟨h.1,h.2.1.keep (k.sub (fun t ht=>by
  unfold Rep.tys at ht ⊢
  rw [show zI7.sub t=zHQ.tys t from rfl]
  unfold Rep.tys
  rw [ht]
  rfl) (zMs _)),h.2.2.keep k⟩
 weaken h k:=⟨h.1,h.2.1.weaken k,h.2.2.weaken k⟩
def zE5:Rep Tnv TenV where
 K:=tnvK
 R w base a x:=a.key=x.key/\a.quota=x.quota/\zLX.Grow w base (.slice a.ao a.n a.cap) x.sets
 sub:=zLX.tys
 apart:=by decide
 keep h k:=⟨h.1,h.2.1,h.2.2.keep k⟩
 weaken h k:=⟨h.1,h.2.1,h.2.2.weaken k⟩
theorem zGn {ao:Option Addr} {n c:Nat} {m:Nat} {ao':Option Addr} {c':Nat} (h:(Value.slice ao n c)=.slice ao' m c'):ao=ao'/\n=m/\c=c':=by
 simp only [Value.slice.injEq] at h
 exact h
theorem ent_of {w:World} {base n cap:Nat} {ao:Option Addr} {l:List Ent} (h:zHQ.Grow w base (.slice ao n cap) l):l.length=n/\zBy w ao l/\Capd ao n cap:=by
 obtain ⟨ao',cap',e,hc,-,vs,h1,h2,h3⟩:=h.shape
 obtain ⟨rfl,rfl,rfl⟩:=zGn e
 have:vs=l:=zNd h1 fun i a b=>h3 i a b
 subst this
 exact ⟨rfl,h2,hc⟩
theorem snp_of {w:World} {base n cap:Nat} {ao:Option Addr} {l:List Snp} (h:zI7.Grow w base (.slice ao n cap) l):l.length=n/\zGa w ao l/\Capd ao n cap:=by
 obtain ⟨ao',cap',e,hc,-,vs,h1,h2,h3⟩:=h.shape
 obtain ⟨rfl,rfl,rfl⟩:=zGn e
 refine ⟨rfl,⟨vs,h1,h2,fun i a b=>?_⟩,hc⟩
 obtain ⟨e1,e2⟩:=h3 i a b
 obtain ⟨f1,f2,f3⟩:=ent_of e2
 exact ⟨e1,f1.symm,f2,f3⟩
theorem sets_of {w:World} {base n cap:Nat} {ao:Option Addr} {l:List SetV} (h:zLX.Grow w base (.slice ao n cap) l):l.length=n/\zEs w ao l/\Capd ao n cap:=by
 obtain ⟨ao',cap',e,hc,-,vs,h1,h2,h3⟩:=h.shape
 obtain ⟨rfl,rfl,rfl⟩:=zGn e
 refine ⟨rfl,⟨vs,h1,h2,fun i a b=>?_⟩,hc⟩
 obtain ⟨e1,e2,e3⟩:=h3 i a b
 obtain ⟨f1,f2,f3⟩:=ent_of e2
 obtain ⟨g1,g2,g3⟩:=snp_of e3
 exact ⟨e1,f1,g1,f2,g2,f3,g3⟩
theorem zKp {w:World} {base n cap:Nat} {ao:Option Addr} {l:List TenV} (h:zE5.Grow w base (.slice ao n cap) l):l.length=n/\zDy w ao l/\Capd ao n cap:=by
 obtain ⟨ao',cap',e,hc,-,vs,h1,h2,h3⟩:=h.shape
 obtain ⟨rfl,rfl,rfl⟩:=zGn e
 refine ⟨rfl,⟨vs,h1,h2,fun i a b=>?_⟩,hc⟩
 obtain ⟨e1,e2,e3⟩:=h3 i a b
 obtain ⟨f1,f2,f3⟩:=sets_of e3
 exact ⟨e1,e2,f1,f2,f3⟩
end Go.Proofs.YtfmgdjgedhnmeaaGreat

namespace Go.Proofs.YtfmgdjgedhnmeaaGreat
open Go.RowKit
set_option linter.unusedVariables false
set_option linter.unusedSimpArgs false
end Go.Proofs.YtfmgdjgedhnmeaaGreat

namespace Go.Proofs.YtfmgdjgedhnmeaaGreat
open Go.RowKit
set_option linter.unusedVariables false
set_option linter.unusedSimpArgs false
theorem zGy:(Tryz.prog.info? 76).map (fun i=>(i.zero,i.size,i.bytes))=some (some (.agg #[.string ⟨#[]⟩,.int .i64 0,.int .i64 0]),3,32):=by kernel_rfl
end Go.Proofs.YtfmgdjgedhnmeaaGreat

namespace Go.Proofs.YtfmgdjgedhnmeaaGreat
open Go.RowKit
set_option linter.unusedVariables false
set_option linter.unusedSimpArgs false
end Go.Proofs.YtfmgdjgedhnmeaaGreat

namespace Go.Proofs.YtfmgdjgedhnmeaaGreat
open Go.RowKit
set_option linter.unusedVariables false
set_option linter.unusedSimpArgs false
theorem zCN.of_set {ty:TypeId->Bool} {base c i:Nat} {w:World} {v:Value} (h:c<base\/∀ cs t f,w.heap[c]?=some (.cells cs t f)->ty t=false):zCN ty base w (w.setCell ⟨c,i,none⟩ v):=
 ⟨by simp,fun b h1 h2 cs t f h3 h4=>zMu _ _ _ _ (fun e=>by
  have e:b=c:=e
  rcases h with h | h
  . omega
  . rw [e] at h3
    rw [h cs t f h3] at h4
    cases h4)⟩
theorem info_ten:(Tryz.prog.info? 42).map (fun i=>(i.zero,i.size,i.bytes))=some (some (.agg #[.int .i64 0,.int .i64 0,.slice none 0 0]),3,40):=by kernel_rfl
theorem Rep.Grow.shapeN {α β:Type} {M:Rep α β} {w:World} {base:Nat} {v:Value} {l:List β} (h:M.Grow w base v l):∃ ao n cap,v=.slice ao n cap:=by
 obtain ⟨ao,cap,e,-⟩:=h.shape
 exact ⟨_,_,_,e⟩
theorem Rep.Grow.block {α β:Type} {M:Rep α β} {w:World} {base:Nat} {v:Value} {l:List β} (h:M.Grow w base v l):∀ g,v.ownBlock=some g->base<=g/\g<w.heap.size/\∃ cs,w.heap[g]?=some (.cells cs M.K.elem (0,0)):=by
 obtain ⟨ao,cap,e,-,h,-⟩:=h.shape
 exact h
end Go.Proofs.YtfmgdjgedhnmeaaGreat

namespace Go.Proofs.YtfmgdjgedhnmeaaGreat
open Go.RowKit
set_option linter.unusedVariables false
set_option linter.unusedSimpArgs false
theorem zEN:WfP zDi:=⟨fun x hx=>absurd (show x∈([]:List Blk) from hx) (by simp),by simp [zDi],by simp [zDi],fun x hx=>absurd (show x∈([]:List TenV) from hx) (by simp)⟩
theorem zFO (w:World):zAG w none 0 0 none 0 0 zDi:=⟨rfl,.inl rfl,⟨zMs _,fun _=>rfl⟩,rfl,⟨[],rfl,.inl rfl,fun i h=>by cases h⟩,⟨zMs _,fun _=>rfl⟩⟩
end Go.Proofs.YtfmgdjgedhnmeaaGreat

namespace Go.Proofs.YtfmgdjgedhnmeaaGreat
open Go.RowKit
set_option linter.unusedVariables false
set_option linter.unusedSimpArgs false
end Go.Proofs.YtfmgdjgedhnmeaaGreat

namespace Go.Proofs.YtfmgdjgedhnmeaaGreat
open Go.RowKit
set_option linter.unusedVariables false
set_option linter.unusedSimpArgs false
end Go.Proofs.YtfmgdjgedhnmeaaGreat

namespace Go.Proofs.YtfmgdjgedhnmeaaGreat
open Go.RowKit
set_option linter.unusedVariables false
set_option linter.unusedSimpArgs false
theorem off_box {w:World} {pb b o t:Nat} {cs:Array Value} {k:IntKind} {x:Int} (hp:w.heap[pb]?=some (.cells cs t (0,0))) (hcs:∀ v∈cs,∃ a n c,v=.slice a n c) (h:w.cell? ⟨b,o,none⟩=some (.int k x)):b≠pb:=by
 rintro rfl
 rw [zAa hp] at h
 obtain ⟨a,n,c,e⟩:=hcs _ (Array.mem_of_getElem? h)
 cases e
theorem Row.boxed {k:IntKind} {w:World} {ao:Option Addr} {xs:List Int} {pb t i:Nat} {cs:Array Value} {v:Value} (h:Row k w ao xs) (hp:w.heap[pb]?=some (.cells cs t (0,0))) (hcs:∀ v∈cs,∃ a n c,v=.slice a n c):Row k (w.setCell ⟨pb,i,none⟩ v) ao xs:=by
 rcases h with h | ⟨b,o,e,h⟩
 . exact .inl h
 . exact .inr ⟨b,o,e,fun j hj=>(zMB (w:=w) (zMu _ _ _ _ (off_box hp hcs (h j hj)))).trans (h j hj)⟩
theorem Sl.boxed {k:IntKind} {w:World} {u:Value} {xs:List Int} {pb t i:Nat} {cs:Array Value} {v:Value} (h:Sl k w u xs) (hp:w.heap[pb]?=some (.cells cs t (0,0))) (hcs:∀ v∈cs,∃ a n c,v=.slice a n c):Sl k (w.setCell ⟨pb,i,none⟩ v) u xs:=by
 obtain ⟨ao,cap,e,h1,h2⟩:=h
 exact ⟨ao,cap,e,h1.boxed hp hcs,h2⟩
theorem StoRow.boxed {w:World} {ao:Option Addr} {s:List Blk} {pb t i:Nat} {cs:Array Value} {v:Value} (h:StoRow w ao s) (hp:w.heap[pb]?=some (.cells cs t (0,0))) (hcs:∀ v∈cs,∃ a n c,v=.slice a n c):StoRow (w.setCell ⟨pb,i,none⟩ v) ao s:=by
 rcases h with h | ⟨b,o,e,h⟩
 . exact .inl h
 . refine .inr ⟨b,o,e,fun j hj=>?_⟩
   have hne:=off_box hp hcs (h j hj).refs
   have key:∀ q,(w.setCell ⟨pb,i,none⟩ v).cell? ⟨b,q,none⟩=w.cell? ⟨b,q,none⟩:=fun q=>zMB (w:=w) (zMu _ _ _ _ hne)
   obtain ⟨h1,h2,⟨v1,h3,h4⟩,⟨v2,h5,h6⟩⟩:=h j hj
   exact ⟨(key _).trans h1,(key _).trans h2,⟨v1,(key _).trans h3,h4.boxed hp hcs⟩,⟨v2,(key _).trans h5,h6.boxed hp hcs⟩⟩
theorem zLW {w1 wr w8:World} {r:Option Nat} (h:Below w1.heap.size w1 wr) (hg:wr.grownBy w8 r) (hr:∀ g,r=some g->w1.heap.size+2<=g):Below w1.heap.size w1 w8:=
 ⟨hg.os.trans h.os,hg.tape.trans h.tape,hg.output.trans h.output,zMN h.size hg.size,fun b hb=>(hg.block b (zMw hb h.size) (fun e=>by have:=hr b e.symm;omega)).trans (h.block b hb)⟩
def mkTens (ks qs:List Int):List TenV:=List.zipWith (fun k q=>⟨k,q,[]⟩) ks qs
theorem zJR {ks qs:List Int} (h:ks.length=qs.length):(mkTens ks qs).length=ks.length:=by simp [mkTens,h]
theorem zH5 {ks qs:List Int} (i:Nat) (hk:i<ks.length) (hq:i<qs.length):(mkTens ks qs).take (i+1)=(mkTens ks qs).take i++[⟨ks[i],qs[i],[]⟩]:=by
 rw [List.take_add_one]
 congr 1
 rw [mkTens,List.getElem?_zipWith,zMt hk,zMt hq]
 rfl
def zBE (n:Int) (ks qs:List Int):PoolV×Int:=
 if (newR n).2≠0 then (zDi,(newR n).2) else if ks.length≠qs.length then (zDi,4) else if poolE ⟨(newR n).1,mkTens ks qs⟩≠0 then (zDi,poolE ⟨(newR n).1,mkTens ks qs⟩) else (⟨(newR n).1,mkTens ks qs⟩,0)
theorem zH4 (n:Int):WfS (newR n).1/\(newR n).1.length<=400:=by
 unfold newR
 split
 . exact ⟨fun x hx=>(zNG hx).elim,zMO _⟩
 . rename_i h
   refine ⟨fun x hx=>?_,by simp;omega⟩
   rw [List.eq_of_mem_replicate hx]
   refine ⟨⟨by decide,by decide⟩,⟨by decide,by decide⟩,fun k hk=>(zNG hk).elim,fun k hk=>(zNG hk).elim,by decide,by decide⟩
theorem zLg {ks qs:List Int} (hk:∀ k∈ks,I64 k) (hq:∀ q∈qs,I64 q):∀ t∈mkTens ks qs,WfT t:=fun t ht=>by
 obtain ⟨i,hi,rfl⟩:=List.mem_iff_getElem.mp ht
 simp only [mkTens,List.getElem_zipWith]
 exact ⟨hk _ (zMr _),hq _ (zMr _),zMO _,fun x hx=>(zNG hx).elim⟩
theorem zJC {n:Int} {ks qs:List Int} (hl:ks.length<=100000) (hk:∀ k∈ks,I64 k) (hq:∀ q∈qs,I64 q):WfP ⟨(newR n).1,mkTens ks qs⟩:=by
 have:=(zH4 n).2
 refine ⟨(zH4 n).1,by show (newR n).1.length<=_;omega,?_,zLg hk hq⟩
 show (mkTens ks qs).length<=_
 simp only [mkTens,List.length_zipWith]
 omega
def NewEnd (e:Ending) (w w':World) (z:PoolV×Int):Prop:=
 ∃ so sn sc ao n cap,e=.returned (.tuple #[.agg #[.slice so sn sc,.slice ao n cap],.int .i64 z.2])/\zAG w' so sn sc ao n cap z.1/\WfP z.1/\Below w.heap.size w w'
set_option maxRecDepth 100000 in
set_option maxHeartbeats 16000000 in
theorem new_pool (w:World) (n:Int) (ko qo:Option Addr) (kn kc qn qc:Nat) (ks qs:List Int) (hkl:ks.length=kn) (hql:qs.length=qn) (hkr:Row .i64 w ko ks) (hqr:Row .i64 w qo qs) (hki:∀ k∈ks,I64 k) (hqi:∀ q∈qs,I64 q) (hl:ks.length<=100000) :
 Calls Tryz.prog 38 #[.int .i64 n,.slice ko kn kc,.slice qo qn qc] w fun e w'=>NewEnd e w w' (zBE n ks qs):=by
 have p0:=heap_alloc_new w (.cells #[.slice none 0 0,.slice none 0 0] 27)
 have hb0:=bA0 w (.cells #[.slice none 0 0,.slice none 0 0] 27)
 have hs0:(w.alloc (.cells #[.slice none 0 0,.slice none 0 0] 27)).heap.size=w.heap.size+1:=by simp
 obtain ⟨⟨S,E⟩,hSE⟩:∃ z,newR n=z:=⟨_,rfl⟩
 have HSE:=lH hSE
 have HWF:=lH (zJC (n:=n) hl hki hqi)
 have HSL:=lH (zH4 n).2
 have HKL:=lH hkl
 have HQL:=lH hql
 have HKR:=lH (hkr.mono hb0)
 have HQR:=lH (hqr.mono hb0)
 have HL:=lH hl
 clear hSE hkl hql hkr hqr hki hqi hl
 go_enter Tryz.func38,Tryz.ntmps38
 go_wp2_with fail
 generalize w.alloc (.cells #[.slice none 0 0,.slice none 0 0] 27)=W0 at *
 refine (new_any W0 n).mono ?_
 rintro e w1 ⟨v,rfl,ho,hb1⟩
 obtain ⟨so,sc,rfl,hsc,hsr⟩:=ho.sto
 rw [HSE.out] at hsc hsr HSL HWF ⊢
 simp only at hsc hsr HSL HWF ⊢
 obtain ⟨sn,hsn⟩:∃ sn,S.length=sn:=⟨_,rfl⟩
 rw [hsn] at hsc HSL ⊢
 have HSN:=lH hsn
 have HSC:=lH hsc
 have HSR:=lH hsr
 clear hsn hsc hsr ho
 have hsz:=hb1.size
 have p1:=Zm hb1 p0
 have hbw:=zAd hb0 hb1
 clear p0 hb0
 have HKR:=lH (HKR.out.mono hb1)
 have HQR:=lH (HQR.out.mono hb1)
 clear hb1
 have c0:=zAa p1 0
 have c1:=zAa p1 1
 have f0:=zAc p1 0
 have f1:=zAc p1 1
 have l0:=zAb p1
 simp at c0 c1
 by_cases hE:E=0
 . subst hE
   by_cases hlen:kn=qn
   . subst hlen
     have hb2:Below w1.heap.size w1 ((w1.alloc (.cells #[.slice so sn sc] 24)).alloc (.cells #[.slice so sn sc,.slice none 0 0] 27)):=((zMy _ _).alloc (zMs _) _).alloc (by simp) _
     have b2:=heap_alloc2_new w1 (.cells #[.slice so sn sc] 24) (.cells #[.slice so sn sc,.slice none 0 0] 27)
     have hs2:((w1.alloc (.cells #[.slice so sn sc] 24)).alloc (.cells #[.slice so sn sc,.slice none 0 0] 27)).heap.size=w1.heap.size+2:=by simp
     have HP1:=lH p1
     clear p1 c0 c1 f0 f1
     go_wp2_with fail
     generalize (w1.alloc (.cells #[.slice so sn sc] 24)).alloc (.cells #[.slice so sn sc,.slice none 0 0] 27)=W2 at *
     go_loopw [33] (fun i wr=>∃ (k:Nat) (ao:Option Addr) (m c:Nat),k<=kn/\i=.int .i64 k/\wr.heap[w1.heap.size+1]?=some (.cells #[.slice so sn sc,.slice ao m c] 27 (0,0))/\Hid (zE5.Grow wr (w1.heap.size+2) (.slice ao m c) ((mkTens ks qs).take k))/\w1.heap.size+2<=wr.heap.size/\Below w1.heap.size w1 wr) (fun i _=>kn - (intOf i).toNat)
     case atStart=>exact ⟨0,none,0,0,zMO _,rfl,b2,lH (Rep.Grow.nil _ _),by omega,hb2⟩
     case round=>
      clear b2 hb2 hs2
      obtain ⟨k,ao,m,c,hkn,rfl,bk,HG,hsk,hbk⟩:=hrel
      by_cases hlt:k<kn
      . have hkl:k<ks.length:=by have:=HKL.out;omega
        have hql:k<qs.length:=by have:=HQL.out;omega
        have hlt':(k:Int)<kn:=by omega
        have HLT:=lH hlt
        have hkb:k<=100000:=by have:=HL.out;omega
        obtain ⟨b,o,rfl,hq⟩:=(HKR.out.mono hbk).at k hkl
        obtain ⟨b',o',rfl,hq'⟩:=(HQR.out.mono hbk).at k hql
        have c0:=hq k hkl
        have d0:=hq' k hql
        have lb:=zMx _ _ c0
        have lb':=zMx _ _ d0
        have HT:=lH (zH5 k hkl hql)
        have HLEN:Hid (((mkTens ks qs).take k).length<=100000):=lH (by rw [zMI];have:=HL.out;omega)
        clear hq hq'
        generalize ks[k]=x at *
        generalize qs[k]=y at *
        have e0:=zAa bk 0
        have e1:=zAa bk 1
        have g1:=zAc bk 1
        simp at e0 e1
        have lk:=zAb bk
        have HRB:Hid (zE5.R wr (w1.heap.size+2) ⟨x,y,none,0,0⟩ ⟨x,y,[]⟩):=lH ⟨rfl,rfl,Rep.Grow.nil _ _⟩
        have HBX:Hid (w1.heap.size+2<=wr.heap.size):=lH hsk
        have HVL:=lH (show ∀ g,(Value.slice ao m c).ownBlock=some g->w1.heap.size+2<=g from fun g h=>(HG.out.block g h).1)
        have HGD:Hid (zE5.Grow wr.drew (w1.heap.size+2) (.slice ao m c) ((mkTens ks qs).take k)):=lH HG.out
        have HRD:Hid (zE5.R wr.drew (w1.heap.size+2) ⟨x,y,none,0,0⟩ ⟨x,y,[]⟩):=lH HRB.out
        have HBD:Hid (w1.heap.size+2<=wr.drew.heap.size):=lH HBX.out
        go_wp2_with fail
        go_region_law (refine Rep.step_append (M:=zE5) (w:=wr.drew) (by rfl) _ _ _ (by rfl) (base:=w1.heap.size+2) (l:=(mkTens ks qs).take k) (x:=⟨x,y,[]⟩) (a:=⟨x,y,none,0,0⟩) _ 40 Tryz.underlying25 info_ten (by rfl) HGD.out HRD.out HLEN.out (by omega) HBD.out _ (by rfl) (by rfl) (by rfl) ?_;intro v8 w8 hG8 hg8 hf8;obtain ⟨ao8,m8,c8,rfl⟩:=hG8.shapeN;have hb8:Below w1.heap.size w1 w8:=zLW hbk.drew hg8 HVL.out;have q8:=(hg8.block (w1.heap.size+1) lk (fun e=>by have:=HVL.out _ e.symm;omega)).trans bk;have z1:=zAa q8 1;have zf:=zAc q8 1;simp at z1;have l8:=zAb q8;have HS8:=lH (show w1.heap.size+2<=w8.heap.size from zMN HBX.out hg8.size);have HG8:=lH (hG8.keep (.of_set (c:=w1.heap.size+1) (i:=1) (v:=.slice ao8 m8 c8) (.inl (by omega))));have HB8:=lH (hb8.setCell (p:=⟨w1.heap.size+1,1,none⟩) (by show w1.heap.size<=w1.heap.size+1;omega) (.slice ao8 m8 c8));have Q9:Hid ((w8.setCell ⟨w1.heap.size+1,1,none⟩ (.slice ao8 m8 c8)).heap[w1.heap.size+1]?=some (.cells #[.slice so sn sc,.slice ao8 m8 c8] 27 (0,0))):=lH (by simpa using zAe q8 1 (.slice ao8 m8 c8));clear hG8 hg8 hf8 hb8 q8)
        all_goals
         go_wp2
         go_roundw
         case rel=>exact ⟨k+1,ao8,m8,c8,HLT.out,by go_num,Q9.out,lH (by rw [HT.out];exact HG8.out),by have:=HS8.out;simpa using this,HB8.out⟩
         case measure=>have:=HLT.out;simp [intOf];omega
      . have hkk:k=kn:=by omega
        subst hkk
        have hlt':¬ ((k:Int)<k):=by omega
        have e0:=zAa bk 0
        have e1:=zAa bk 1
        simp at e0 e1
        have lk:=zAb bk
        have HGA:Hid (zE5.Grow wr (w1.heap.size+2) (.slice ao m c) (mkTens ks qs)):=lH (by
         have h:=HG.out
         rw [zMM (by rw [zJR (by rw [HKL.out,HQL.out])];exact zOA HKL.out)] at h
         exact h)
        have p5:=(hbk.block _ l0).trans HP1.out
        have HBK:=lH hbk
        have HIN:Hid (zAG wr so sn sc ao m c ⟨S,mkTens ks qs⟩):=lH (by
         obtain ⟨t1,t2,t3⟩:=zKp HGA.out
         exact ⟨HSN.out,HSR.out.mono hbk,HSC.out,t1,t2,t3⟩)
        have HBK2:=lH (bk)
        clear HG hbk bk hlt
        go_wp2_with fail
        refine (zBQ wr so ao sn sc m c _ HIN.out HWF.out).mono ?_
        rintro e w5 ⟨rfl,hb5⟩
        have p6:=Zm hb5 p5
        have b6:=(hb5.block _ (zAb HBK2.out)).trans HBK2.out
        have HGA5:=lH (HGA.out.mono hb5)
        have HSR5:=lH (HIN.out.srow.mono hb5)
        have HBW:=lH (hbw.trans ((HBK.out.mono hbw.size).trans (hb5.mono (by have:=HBK.out.size;have:=hbw.size;omega))))
        clear hb5 p5 HGA HIN HBK HBK2 e0 e1 lk
        have c0:=zAa p6 0
        have c1:=zAa p6 1
        have f0:=zAc p6 0
        have f1:=zAc p6 1
        have e0:=zAa b6 0
        have e1:=zAa b6 1
        have l5:=zAb p6
        have l6:=zAb b6
        simp at c0 c1 e0 e1
        have HP6:=lH p6
        have hne:w1.heap.size+1≠w.heap.size:=by omega
        clear p6 b6
        obtain ⟨F,hF⟩:∃ F,poolE ⟨S,mkTens ks qs⟩=F:=⟨_,rfl⟩
        rw [hF]
        have HF:=lH hF
        clear hF
        by_cases h0:F=0
        . subst h0
          have HR:Hid (zBE n ks qs=(⟨S,mkTens ks qs⟩,0)):=lH (by
           rw [zBE,HSE.out,if_neg (by simp),if_neg (by rw [HKL.out,HQL.out];simp),if_neg (by simp only [HF.out];simp)])
          go_wp2_with fail
          have p7:=zAe HP6.out 0 (.slice so sn sc)
          have p8:=zAe p7 1 (.slice ao m c)
          simp at p7 p8
          have hb8:=(HBW.out.setCell (p:=⟨w.heap.size,0,none⟩) (zMs _) (.slice so sn sc)).setCell (p:=⟨w.heap.size,1,none⟩) (zMs _) (.slice ao m c)
          have hin8:zAG ((w5.setCell ⟨w.heap.size,0,none⟩ (.slice so sn sc)).setCell ⟨w.heap.size,1,none⟩ (.slice ao m c)) so sn sc ao m c ⟨S,mkTens ks qs⟩:=by
           obtain ⟨t1,t2,t3⟩:=zKp ((HGA5.out.keep (.of_set (c:=w.heap.size) (i:=0) (v:=.slice so sn sc) (.inl (by omega)))).keep (.of_set (c:=w.heap.size) (i:=1) (v:=.slice ao m c) (.inl (by omega))))
           exact ⟨HSN.out,(HSR5.out.boxed HP6.out (by simp)).boxed p7 (by simp),HSC.out,t1,t2,t3⟩
          generalize (w5.setCell ⟨w.heap.size,0,none⟩ (.slice so sn sc)).setCell ⟨w.heap.size,1,none⟩ (.slice ao m c)=W8 at *
          have z0:=zAa p8 0
          have z1:=zAa p8 1
          simp at z0 z1
          refine bodyPost_ret (v:=.tuple #[.agg #[.slice so sn sc,.slice ao m c],.int .i64 0]) (by simp [results,Tryz.results38,go_sem,z0,z1]) rfl ?_
          rw [HR.out]
          exact ⟨_,_,_,_,_,_,rfl,hin8,HWF.out,hb8⟩
        . have HR:Hid (zBE n ks qs=(zDi,F)):=lH (by
           rw [zBE,HSE.out,if_neg (by simp),if_neg (by rw [HKL.out,HQL.out];simp)]
           simp only [HF.out]
           exact if_pos h0)
          have q1:(F==0)=false:=by rw [beq_eq_false_iff_ne];exact h0
          go_wp2_with fail
          have p8:=zAe (zAe HP6.out 0 (.slice none 0 0)) 1 (.slice none 0 0)
          simp at p8
          have hb8:=(HBW.out.setCell (p:=⟨w.heap.size,0,none⟩) (zMs _) (.slice none 0 0)).setCell (p:=⟨w.heap.size,1,none⟩) (zMs _) (.slice none 0 0)
          generalize (w5.setCell ⟨w.heap.size,0,none⟩ (.slice none 0 0)).setCell ⟨w.heap.size,1,none⟩ (.slice none 0 0)=W8 at *
          have z0:=zAa p8 0
          have z1:=zAa p8 1
          simp at z0 z1
          refine bodyPost_ret (v:=.tuple #[.agg #[.slice none 0 0,.slice none 0 0],.int .i64 F]) (by simp [results,Tryz.results38,go_sem,z0,z1]) rfl ?_
          rw [HR.out]
          exact ⟨_,_,_,_,_,_,rfl,zFO _,zEN,hb8⟩
   . have hlq:¬ ((kn:Int)=qn):=by omega
     have HR:Hid (zBE n ks qs=(zDi,4)):=lH (by rw [zBE,HSE.out,if_neg (by simp),if_pos];rw [HKL.out,HQL.out];exact hlen)
     go_wp2_with fail
     have p4:=zAe (zAe p1 0 (.slice none 0 0)) 1 (.slice none 0 0)
     simp at p4
     have p6:=(zM5 _ (.cells #[.slice so sn sc] 24) _ (by simpa using l0)).trans p4
     have hb6:=(((hbw.setCell (p:=⟨w.heap.size,0,none⟩) (zMs _) (.slice none 0 0)).setCell (p:=⟨w.heap.size,1,none⟩) (zMs _) (.slice none 0 0)).alloc (by simp;omega) (.cells #[.slice so sn sc] 24))
     generalize ((w1.setCell ⟨w.heap.size,0,none⟩ (.slice none 0 0)).setCell ⟨w.heap.size,1,none⟩ (.slice none 0 0)).alloc (.cells #[.slice so sn sc] 24)=W6 at *
     have z0:=zAa p6 0
     have z1:=zAa p6 1
     simp at z0 z1
     refine bodyPost_ret (v:=.tuple #[.agg #[.slice none 0 0,.slice none 0 0],.int .i64 4]) (by simp [results,Tryz.results38,go_sem,z0,z1]) rfl ?_
     rw [HR.out]
     exact ⟨_,_,_,_,_,_,rfl,zFO _,zEN,hb6⟩
 . have q1:(E==0)=false:=by rw [beq_eq_false_iff_ne];exact hE
   have HR:Hid (zBE n ks qs=(zDi,E)):=lH (by rw [zBE,HSE.out];exact if_pos hE)
   go_wp2_with fail
   have p4:=zAe (zAe p1 0 (.slice none 0 0)) 1 (.slice none 0 0)
   simp at p4
   have p6:=(zM5 _ (.cells #[.slice so sn sc] 24) _ (by simpa using l0)).trans p4
   have hb6:=(((hbw.setCell (p:=⟨w.heap.size,0,none⟩) (zMs _) (.slice none 0 0)).setCell (p:=⟨w.heap.size,1,none⟩) (zMs _) (.slice none 0 0)).alloc (by simp;omega) (.cells #[.slice so sn sc] 24))
   generalize ((w1.setCell ⟨w.heap.size,0,none⟩ (.slice none 0 0)).setCell ⟨w.heap.size,1,none⟩ (.slice none 0 0)).alloc (.cells #[.slice so sn sc] 24)=W6 at *
   have z0:=zAa p6 0
   have z1:=zAa p6 1
   simp at z0 z1
   refine bodyPost_ret (v:=.tuple #[.agg #[.slice none 0 0,.slice none 0 0],.int .i64 E]) (by simp [results,Tryz.results38,go_sem,z0,z1]) rfl ?_
   rw [HR.out]
   exact ⟨_,_,_,_,_,_,rfl,zFO _,zEN,hb6⟩
end Go.Proofs.YtfmgdjgedhnmeaaGreat
