/- rookeryref.PutIn in plain words: what Set does, from below on. · The leaves below a root, and where two roots differ, in plain words. · What tree.Differ calls: the leaf of a leaf, the block below. · tree.Differ's walk. · tree.Differ. · rookeryref.CheckRoot: the same as tree.check. slices.Max of four. · Rows of byte slices; rookeryref.LeavesOf. · tree.All; slices.EqualFunc over rows of bytes. -/
import Derived.Test.YtfmgdjgedhnmeaaGreatSetS
import Derived.Laws.EntriesVeiled
import Derived.StillTailTactics
import Derived.Deep.AppendLies
import Derived.Deep.Onto
import Derived.Test.YtfmgdjgedhnmeaaGreatTreeGet
namespace Go.Proofs.YtfmgdjgedhnmeaaGreat
open Go.RowKit
set_option linter.unusedVariables false
set_option linter.unusedSimpArgs false
theorem zHr {s:List Blk} {M:Int} (hg:Good s M) (hM:1<=M) (hM2:M<=900000000) {m:Nat} (hm:m<=2) {ks:List Int} {k1:Int} (h4:ks.length=4) (hk1:k1∈ks) (hk1r:zAs s m k1) (hI:∀ k∈ks,I64 k) (he:(putR s ((m:Int)+1) ks []).2.2=0) :
 zAj 4 (putR s ((m:Int)+1) ks []).1 k1=if k1=0 then (putR s ((m:Int)+1) ks []).1 else addRef (putR s ((m:Int)+1) ks []).1 k1 (-1):=by
 obtain ⟨hp,e⟩:=zBd hg he
 rw [e]
 simp only
 split
 . rename_i h0
   rw [h0]
   simp [zAj]
 . rename_i h0
   obtain ⟨ht,-⟩:=hk1r.resolve_left h0
   obtain ⟨j,hj,rfl,-⟩:=zAt ht
   have hwx:WfB ⟨1,(m:Int)+1,ks,[]⟩:=⟨by unfold I64;simp only;omega,by unfold I64;simp only;omega,hI,(by intro x hx;cases hx),by simp only;omega,by simp⟩
   have hG:=hp.good hg hM hM2 hwx
   have hj':j<(putM s ((m:Int)+1) ks [] (freeIx s)).length:=by rw [zAq];exact hj
   exact (zEV hG j hj' (zHD hp j hj hk1 ht hj')).1
def kidF (s:List Blk) (a:Int) (k:Nat):Int:=(kids0 s a)[k]?.getD 0
theorem zKW (s:List Blk) (k:Nat):kidF s 0 k=0:=by
 unfold kidF kids0
 rw [if_pos rfl]
 rcases k with _ | _ | _ | _ | k<;>rfl
theorem kidF_ne (s:List Blk) (a:Int) (k:Nat) (h:a≠0):kidF s a k=(blk s a).kids[k]?.getD 0:=by
 unfold kidF kids0
 rw [if_neg h]
theorem zKk (m:Nat) (s:List Blk) (a:Int) (i:Nat):leafA (m+1) s a i=leafA m s (kidF s a (i / p4n m)) (i%p4n m):=by
 by_cases h:a=0
 . rw [h,zDc,zKW,zDc]
 . show (if a=0 then 0 else _)=_
   rw [if_neg h]
   unfold kidF kids0
   rw [if_neg h]
theorem zDa (m:Nat) (s:List Blk) (a:Int) (i:Nat):leafB (m+1) s a i=leafB m s (kidF s a (i / p4n m)) (i%p4n m):=by
 unfold leafB
 rw [zKk]
theorem zDe (m:Nat) (s:List Blk) (i:Nat):leafB m s 0 i=[]:=by
 unfold leafB
 rw [zDc,if_pos rfl]
def leavesF (m:Nat) (s:List Blk) (a:Int):List (List Int):=(List.range (p4n m)).map (leafB m s a)
theorem zBh {s t:List Blk} {M:Int} (hg:Good s M) (hk:Keeps s t):∀ (m:Nat) (a:Int) (i:Nat),m<=3->zAs s m a->i<p4n m->leafB m t a i=leafB m s a i:=by
 intro m
 induction m with
 | zero=>
  intro a i _ hr _
  unfold leafB leafA
  split
  . rfl
  . rename_i h0
    exact (hk a (hr.resolve_left h0).1).2.2.2.1
 | succ m ih=>
  intro a i hm hr hi
  have hps:=zBu m (by omega)
  have hpp:=zB9 m
  have hd4:i / p4n m<4:=zBO hpp (by omega)
  rw [zDa,zDa]
  have e:kidF t a (i / p4n m)=kidF s a (i / p4n m):=by
   unfold kidF kids0
   split
   . rfl
   . rename_i h0
     rw [(hk a (hr.resolve_left h0).1).2.2.1]
  rw [e]
  obtain ⟨h4,hkr⟩:=zBG hg hr
  refine ih _ _ (by omega) ?_ (zNu _ hpp)
  unfold kidF
  rw [zMt (by omega)]
  exact hkr _ (zMr _)
theorem zHV (s:List Blk) (a d b:Int):(blk (addRef s a d) b).kids=(blk s b).kids:=by
 unfold addRef
 rw [zCI]
 split
 . rename_i h
   have:blk s a=blk s b:=by unfold blk;rw [h.1]
   rw [this]
 . rfl
theorem set_leaf:∀ (m:Nat) (s:List Blk) (root:Int) (i:Nat) (b:List Int) (M:Int),m<=3->Good s M->1<=M->M+4*m<=800000000->zAs s m root->i<p4n m->Byt b->b.length<=4->(setF m s root i b).2.2=0->
 ∀ j,j<p4n m->leafB m (setF m s root i b).1 (setF m s root i b).2.1 j=if j=i then b else leafB m s root j:=by
 intro m
 induction m with
 | zero=>
  intro s root i b M _ hg hM hM2 hr hi hb hb4 he j hj
  have hp0:p4n 0=1:=rfl
  obtain rfl:j=i:=by omega
  rw [if_pos rfl]
  unfold setF at he ⊢
  split
  . rename_i h
    rw [h,zDe]
  . rename_i hne
    rw [if_neg hne] at he
    obtain ⟨hp,e⟩:=zBd hg he
    rw [e]
    obtain ⟨hn1,hn2⟩:=hp.new
    unfold leafB leafA
    simp only
    rw [if_neg (by omega),hn2]
 | succ m ih=>
  intro s root i b M hm hg hM hM2 hr hi hb hb4 he j hj
  obtain ⟨h4,hkr⟩:=zBG hg hr
  have hps:=zBu m (by omega)
  have hpp:=zB9 m
  have hd4:i / p4n m<4:=zBO hpp (by omega)
  have hj4:j / p4n m<4:=zBO hpp (by omega)
  have hge:(kids0 s root)[i / p4n m]?.getD 0=(kids0 s root)[i / p4n m]'(by omega):=by rw [zMt (by omega)];rfl
  have hij:j=i↔j / p4n m=i / p4n m/\j%p4n m=i%p4n m:=by
   constructor
   . rintro rfl;exact ⟨rfl,rfl⟩
   . rintro ⟨h1,h2⟩
     rw [<- Nat.div_add_mod j (p4n m),<- Nat.div_add_mod i (p4n m),h1,h2]
  have hky:=hkr _ (zMr (show i / p4n m<(kids0 s root).length by omega))
  unfold setF at he ⊢
  split
  . rename_i h;rw [if_pos h] at he;exact absurd he h
  . rename_i h
    rw [if_neg h] at he
    have h0:(setF m s ((kids0 s root)[i / p4n m]?.getD 0) (i%p4n m) b).2.2=0:=by simpa using h
    obtain ⟨g1,g2,g3⟩:=zBx m s _ (i%p4n m) b M (by omega) hg hM (by omega) (by rw [hge];exact hky) (zNu _ hpp) hb hb4 h0
    have hih:=ih s _ (i%p4n m) b M (by omega) hg hM (by omega) (by rw [hge];exact hky) (zNu _ hpp) hb hb4 h0
    generalize setF m s ((kids0 s root)[i / p4n m]?.getD 0) (i%p4n m) b=r at *
    rw [zDa m s root j]
    -- the leaves of what the four are now,in the inner store
    have hall:∀ k∈(kids0 s root).set (i / p4n m) r.2.1,zAs r.1 m k:=by
     intro k hk
     rcases zMU hk with e | e
     . exact g3.root (hkr k e)
     . rw [e];exact g2
    have hleaf:leafB m r.1 (((kids0 s root).set (i / p4n m) r.2.1)[j / p4n m]?.getD 0) (j%p4n m)=if j=i then b else leafB m s (kidF s root (j / p4n m)) (j%p4n m):=by
     have hgj:((kids0 s root).set (i / p4n m) r.2.1)[j / p4n m]?.getD 0=if i / p4n m=j / p4n m then r.2.1 else kidF s root (j / p4n m):=by
      rw [List.getElem?_set]
      by_cases e:i / p4n m=j / p4n m
      . rw [if_pos e,if_pos (by omega),if_pos e];rfl
      . rw [if_neg e,if_neg e];rfl
     rw [hgj]
     by_cases e:i / p4n m=j / p4n m
     . rw [if_pos e,hih _ (zNu _ hpp)]
       by_cases e2:j%p4n m=i%p4n m
       . rw [if_pos e2,if_pos (hij.2 ⟨e.symm,e2⟩)]
       . rw [if_neg e2,if_neg (fun h=>e2 (hij.1 h).2),<- e];rfl
     . rw [if_neg e,if_neg (fun h=>e (hij.1 h).1.symm)]
       refine zBh hg g3 m _ _ (by omega) ?_ (zNu _ hpp)
       unfold kidF
       rw [zMt (by omega)]
       exact hkr _ (zMr _)
    split
    . rename_i hz
      rw [zDe]
      have hz0:((kids0 s root).set (i / p4n m) r.2.1)[j / p4n m]?.getD 0=0:=by
       rw [zMt (by rw [zMK];omega)]
       exact of_decide_eq_true (zNF.1 hz _ (zMr _))
      rw [hz0,zDe] at hleaf
      exact hleaf
    . rename_i hz
      rw [if_neg hz] at he
      have hk1:r.2.1∈(kids0 s root).set (i / p4n m) r.2.1:=List.mem_set (by omega) _
      have hl4:((kids0 s root).set (i / p4n m) r.2.1).length=4:=by rw [zMK];exact h4
      obtain ⟨q1,q2,q3⟩:=zES g1 (by omega) (by omega) (by omega) hl4 hk1 g2 (fun k hk=>zCD g1 (hall k hk)) he
      obtain ⟨hp,e⟩:=zBd g1 he
      rw [zDa]
      -- the new one's four
      have hkn:kidF (zAj 4 (putR r.1 ((m:Int)+1) ((kids0 s root).set (i / p4n m) r.2.1) []).1 r.2.1) (putR r.1 ((m:Int)+1) ((kids0 s root).set (i / p4n m) r.2.1) []).2.1 (j / p4n m)=((kids0 s root).set (i / p4n m) r.2.1)[j / p4n m]?.getD 0:=by
       have hkk:(blk (zAj 4 (putR r.1 ((m:Int)+1) ((kids0 s root).set (i / p4n m) r.2.1) []).1 r.2.1) (putR r.1 ((m:Int)+1) ((kids0 s root).set (i / p4n m) r.2.1) []).2.1).kids=(kids0 s root).set (i / p4n m) r.2.1:=by
        rw [zHr g1 (by omega) (by omega) (by omega) hl4 hk1 g2 (fun k hk=>zCD g1 (hall k hk)) he]
        have hn2:=hp.new.2
        rw [e]
        simp only
        split
        . rw [hn2]
        . rw [zHV,hn2]
       rw [kidF_ne _ _ _ (by rw [e];simp only;omega),hkk]
      simp only
      rw [hkn]
      rw [zBh g1 q3 m _ _ (by omega) ?_ (zNu _ hpp)]
      . exact hleaf
      . rw [zMt (by rw [hl4];exact hj4)]
        exact hall _ (zMr _)
theorem info_ys:(Tryz.prog.info? 28).map (fun i=>(i.zero,i.size,i.bytes))=some (some (.slice none 0 0),1,24):=by kernel_rfl
theorem Sl.mono' {k:IntKind} {w w':World} {v:Value} {xs:List Int} (h:Sl k w v xs) (hb:Below w.heap.size w w'):Sl k w' v xs:=by
 obtain ⟨ao,cap,h1,h2,h3⟩:=h
 exact ⟨ao,cap,h1,h2.mono hb,h3⟩
theorem zBD (m:Nat) (s:List Blk) (a:Int):(leavesF m s a).length=p4n m:=by simp [leavesF]
theorem zEX (m:Nat) (s:List Blk) (a:Int) (i:Nat) (h:i<(leavesF m s a).length):(leavesF m s a)[i]=leafB m s a i:=by simp [leavesF]
structure LW (w:World) (vs:List Value) (L:List (List Int)):Prop where
 len:vs.length=L.length
 each:∀ i (h:i<vs.length) (h':i<L.length),Sl .u8 w vs[i] L[i]
def Rows2 (w:World) (ao:Option Addr) (L:List (List Int)):Prop:=
 L=[]\/∃ b o,ao=some ⟨b,o,none⟩/\∀ i (h:i<L.length),∃ u,w.cell? ⟨b,o+i,none⟩=some u/\Sl .u8 w u L[i]
theorem Rows2.mono {w w':World} {ao:Option Addr} {L:List (List Int)} (h:Rows2 w ao L) (hb:Below w.heap.size w w'):Rows2 w' ao L:=by
 rcases h with h | ⟨b,o,rfl,h⟩
 . exact .inl h
 . refine .inr ⟨b,o,rfl,fun i hi=>?_⟩
   obtain ⟨u,h1,h2⟩:=h i hi
   exact ⟨u,((bcell hb).1 _ _ (zMx _ _ h1)).trans h1,h2.mono' hb⟩
theorem zJp {w:World} {base n:Nat} {v:Value} {vs:List Value} {L:List (List Int)} (h:w.ownsRow base 28 1 v n vs) (hn:vs.length=n) (hL:LW w vs L):∃ ao cap,v=.slice ao n cap/\Rows2 w ao L:=by
 have hl:=hL.len
 obtain ⟨h1,⟨rfl,h3⟩ | ⟨g,cap,cur,rfl,hb,hg,hle,hm,hs,ht⟩⟩:=h
 . exact ⟨none,0,by rw [h3],.inl (zMv (by omega))⟩
 . refine ⟨some ⟨g,0,none⟩,cap,rfl,.inr ⟨g,0,rfl,fun i hi=>?_⟩⟩
   have hiv:i<vs.length:=by omega
   refine ⟨vs[i],?_,hL.each i hiv hi⟩
   rw [zML,zAa hg]
   have e:(cur.toList.take (n*1))[i]?=vs[i]?:=by rw [ht]
   rw [zNY,if_pos (by omega),zMt hiv] at e
   simpa using e
theorem blk_byt {s:List Blk} (hw:WfS s) (a:Int):Byt (blk s a).bytes:=by
 unfold blk
 cases h:s[(a - 1).toNat]? with
 | none=>intro x hx;simp [noBlk] at hx
 | some y=>exact (hw y (zM6 h)).bytes
theorem zKF {s:List Blk} (hw:WfS s) (m:Nat) (a:Int) (i:Nat):Byt (leafB m s a i):=by
 unfold leafB
 split
 . intro x hx;cases hx
 . exact blk_byt hw _
theorem zDk {s:List Blk} (hw:WfS s) (m:Nat) (a:Int):∀ x∈leavesF m s a,Byt x:=by
 intro x hx
 obtain ⟨i,_,rfl⟩:=List.mem_map.1 hx
 exact zKF hw m a i
def allR (s:List Blk) (root l:Int):List (List Int)×Int:=if checkT s root l 0≠0 then ([],checkT s root l 0) else (leavesF l.toNat s root,0)
structure LX (w:World) (B:Nat) (vs:List Value) (L:List (List Int)):Prop where
 len:vs.length=L.length
 each:∀ i (h:i<vs.length) (h':i<L.length),∀ g,g<=B->SlX g .u8 w vs[i] L[i]
def RowTo (w:World) (kb q k:Nat) (L:Nat->List Int):Prop:=
 ∃ vs:List Value,vs.length=q/\w.heap[kb]?=some (.cells vs.toArray 28 (0,0))/\∀ i (h:i<vs.length),i<k->∀ g,g<=kb->SlX g .u8 w vs[i] (L i)
theorem RowTo.mono {w w':World} {kb q k:Nat} {L:Nat->List Int} (h:RowTo w kb q k L) (hb:Below w.heap.size w w'):RowTo w' kb q k L:=by
 obtain ⟨vs,h1,h2,h3⟩:=h
 exact ⟨vs,h1,Zm hb h2,fun i hi hk g hg=>(h3 i hi hk g hg).keep fun b _ hlt=>hb.block b hlt⟩
theorem SlX.setOff {g kb i:Nat} {k:IntKind} {w:World} {v u:Value} {xs:List Int} (h:SlX g k w v xs) (h2:SlX kb k w v xs):SlX g k (w.setCell ⟨kb,i,none⟩ u) v xs:=by
 obtain ⟨ao,cap,rfl,hf,hc⟩:=h
 obtain ⟨ao',cap',e,hf2,_⟩:=h2
 simp only [Value.slice.injEq,true_and] at e
 obtain ⟨rfl,rfl⟩:=e
 refine ⟨ao,cap,rfl,?_,hc⟩
 rcases hf with hf | ⟨b,o,rfl,hb,hcell⟩
 . exact .inl hf
 . rcases hf2 with hf2 | ⟨b',o',e,hb',_⟩
   . exact .inl hf2
   . simp only [zMz,zME,and_true] at e
     obtain ⟨rfl,rfl⟩:=e
     refine .inr ⟨b,o,rfl,hb,fun q hq=>?_⟩
     rw [zMB (a:=⟨b,o+q,none⟩) (zMu _ _ _ _ hb')]
     exact hcell q hq
theorem RowTo.put {w:World} {kb q k:Nat} {L:Nat->List Int} {v:Value} (h:RowTo w kb q k L) (hk:k<q) (hv:∀ g,g<=kb->SlX g .u8 w v (L k)):RowTo (w.setCell ⟨kb,k,none⟩ v) kb q (k+1) L:=by
 obtain ⟨vs,h1,h2,h3⟩:=h
 refine ⟨vs.set k v,by rw [zMK];exact h1,?_,fun i hi hik g hg=>?_⟩
 . have:=zAe h2 k v
   simpa using this
 . rw [zMK] at hi
   rw [zMP]
   by_cases e:k=i
   . subst e
     rw [if_pos rfl]
     exact (hv g hg).setOff (hv kb (zMs _))
   . rw [if_neg e]
     exact (h3 i hi (by omega) g hg).setOff (h3 i hi (by omega) kb (zMs _))
theorem RowTo.free {w:World} {kb q k:Nat} {L:Nat->List Int} (h:RowTo w kb q k L) (hk:k<q):(∃ u,w.cell? ⟨kb,k,none⟩=some u)/\w.frozen? ⟨kb,k,none⟩=false/\kb<w.heap.size:=by
 obtain ⟨vs,h1,h2,h3⟩:=h
 refine ⟨⟨vs[k]'(by omega),?_⟩,zAc h2 k,zAb h2⟩
 rw [zAa h2]
 simp [h1,hk]
theorem RowTo.done {w:World} {base kb q:Nat} {L:Nat->List Int} (h:RowTo w kb q q L) (hb:base<=kb) (hq:q<=maxLen) :
 ∃ vs:List Value,vs.length=q/\w.ownsRow base 28 1 (.slice (some ⟨kb,0,none⟩) q q) q vs/\LX w base vs ((List.range q).map L):=by
 obtain ⟨vs,h1,h2,h3⟩:=h
 refine ⟨vs,h1,⟨by simp [h1],.inr ⟨kb,q,vs.toArray,rfl,hb,h2,zMs _,hq,by simp [h1],?_⟩⟩,⟨by simp [h1],fun i hi hi' g hg=>?_⟩⟩
 . rw [Nat.mul_one,<- h1]
   simp
 . have:=h3 i hi (by omega) g (by omega)
   simpa using this
set_option maxRecDepth 100000 in
set_option maxHeartbeats 4000000 in
theorem zL8 (w:World) (ao:Option Addr) (n cap:Nat) (s:List Blk) (root l:Int) (hn:s.length=n) (hn63:n<=1152921504606846976) (hs:StoRow w ao s) (hwf:WfS s) :
 Calls Tryz.prog 90 #[.agg #[.slice ao n cap],.int .i64 root,.int .i64 l] w fun e w'=>∃ v vs,e=.returned (.tuple #[v,.int .i64 (allR s root l).2])/\w'.ownsRow w.heap.size 28 1 v vs.length vs/\LX w' w.heap.size vs (allR s root l).1/\Below w.heap.size w w':=by
 have HN:=lH hn
 have hb0:=bA0 w (.cells #[.slice ao n cap] 24)
 have q4:=heap_alloc_new w (.cells #[.slice ao n cap] 24)
 clear hn
 go_enter Tryz.func90,Tryz.ntmps90
 go_wp2_with fail
 have hs:=hs.mono hb0
 generalize w.alloc (.cells #[.slice ao n cap] 24)=W0 at *
 refine (zGv _ _ _ _ s root l 0 HN.out hn63 hs hwf).mono ?_
 rintro e w1 ⟨rfl,hb1⟩
 replace q4:=Zm hb1 q4
 have hbw:=zAd hb0 hb1
 replace hs:=hs.mono hb1
 by_cases hc:checkT s root l 0=0
 rotate_left
 . have HR:=lH (show allR s root l=([],checkT s root l 0) by unfold allR;rw [if_pos hc])
   have he1:(checkT s root l 0 != 0)=true:=by rw [bne_iff_ne];exact hc
   generalize hcc:checkT s root l 0=ce at *
   replace hcc:=lH hcc
   clear hc hs
   go_wp2
   go_ret2
   exact ⟨_,[],by rw [HR.out];rfl,World.ownsRow_nil _ _ _ _,by rw [HR.out];exact ⟨rfl,fun i h=>by simp at h⟩,hbw⟩
 . obtain ⟨hce,m,rfl,hm,hroot,-,-⟩:=zAP hc
   have hf:=(zAg s hce).2.1
   have h400:n<=400:=by have:=(zAg s hce).1;have:=HN.out;omega
   have HR:=lH (show allR s root m=((List.range (p4n m)).map (leafB m s root),0) by unfold allR;rw [if_neg (by simp [hc])];rfl)
   have he1:(checkT s root m 0 != 0)=false:=by rw [hc];rfl
   have hl1:lvN (m:Int)=(((p4n m:Nat):Int),0):=by
    unfold lvN
    rw [if_neg (by omega),<- zGF];rfl
   have hp64:p4n m<=64:=by unfold p4n;(repeat' split)<;>omega
   have HGL:=lH (fun i (hi:i<p4n m)=>(zHy hf m root i hm hroot hi).1)
   have HGT:=lH (fun (u:World) (hu:StoRow u ao s) (i:Nat) (hi:i<p4n m)=>zIF u ao n cap s root m i HN.out h400 hu hwf hf hm hroot hi)
   clear hc hce
   generalize hcc:checkT s root m 0=ce at *
   replace hcc:=lH hcc
   go_wp2_with fail
   refine (zC7 _ _).mono ?_
   rw [hl1]
   rintro e w2 ⟨rfl,rfl⟩
   generalize p4n m=q at *
   generalize leafB m s root=LB at *
   have hmk:(Instr.makeSlice 153 (.int .i64 (q:Int)) (.int .i64 (q:Int))).run Tryz.prog w2=.ok (.slice (some ⟨w2.heap.size,0,none⟩) q q) (w2.alloc (.cells (madeCells #[.slice none 0 0] q) 28)):=
    run_make_row' 153 28 (.slice none 0 0) 24 Tryz.underlying153 info_ys rfl .i64 .i64 q (by omega) (by omega) w2
   have hRT:RowTo (w2.alloc (.cells (madeCells #[.slice none 0 0] q) 28)) w2.heap.size q 0 LB:=by
    refine ⟨List.replicate q (.slice none 0 0),by simp,?_,fun i _ h=>by omega⟩
    have h:=heap_alloc_new w2 (.cells (madeCells #[.slice none 0 0] q) 28)
    rw [h,<- toList_madeCells_one]
   have hbA:Below w2.heap.size w2 (w2.alloc (.cells (madeCells #[.slice none 0 0] q) 28)):=(zMy _ _).alloc (zMs _) _
   go_wp2
   generalize w2.alloc (.cells (madeCells #[.slice none 0 0] q) 28)=W3 at *
   have lq:=zAb q4
   go_loopw [28] (fun x wr=>∃ k:Nat,k<=q/\x=.int .i64 k/\Below w2.heap.size w2 wr/\RowTo wr w2.heap.size q k LB) (fun x _=>q - (intOf x).toNat)
   case atStart=>exact ⟨0,zMO _,rfl,hbA,hRT⟩
   case round=>
    obtain ⟨k,hk,rfl,hbel,hT⟩:=hrel
    by_cases hlt:k<q
    . have p1:=(hbel.block _ lq).trans q4
      have c1:=cell_of_one p1
      have l1:=zAb p1
      have hkq:(k:Int)<q:=by omega
      have hll:=HGL.out k hlt
      have hG:=HGT.out wr (hs.mono hbel) k hlt
      obtain ⟨-,-,hlr⟩:=hT.free hlt
      have HT:=lH hT
      have HBE:=lH hbel
      have hszr:=hbel.size
      clear hT hbel
      obtain ⟨xs,hxs⟩:∃ xs,LB k=xs:=⟨_,rfl⟩
      rw [hxs] at hll hG
      have HXS:=lH hxs
      clear hxs
      go_wp2_with fail
      refine hG.mono ?_
      rintro e w4 ⟨v4,rfl,hsl,hb4⟩
      obtain ⟨ba,bc,rfl,hbr,hbc⟩:=hsl
      obtain ⟨xn,hxn⟩:∃ xn,xs.length=xn:=⟨_,rfl⟩
      rw [hxn] at hbc hll ⊢
      have HXN:=lH hxn
      clear hxn
      have hsz4:=hb4.size
      go_wp2_with fail
      refine (zAE _ _ _ xs _ HXN.out hbr hbc.2 (by omega)).mono ?_
      rintro e w5 ⟨v5,rfl,hown5,-,hb5⟩
      obtain ⟨a5,c5,rfl,-,-,-,-⟩:=hown5.shape'
      have hT5:=(HT.out.mono hb4).mono hb5
      obtain ⟨⟨u5,hu5⟩,hf5,hl5⟩:=hT5.free hlt
      have hsx:∀ g,g<=w2.heap.size->SlX g .u8 w5 (.slice a5 xs.length c5) (LB k):=fun g hg=>by rw [HXS.out];exact hown5.slx (by omega)
      rw [HXN.out] at hsx
      have HT6:=lH (hT5.put hlt hsx)
      rw [HXN.out]
      have hb6:=((HBE.out.trans (hb4.mono hszr)).trans (hb5.mono (zMN hszr hsz4))).setCell (p:=⟨w2.heap.size,k,none⟩) (zMs _) (.slice a5 xn c5)
      clear hT5 hsx hown5 hbr hbc hb4 hb5
      go_wp2_with fail
      go_roundw
      case rel=>exact ⟨k+1,by omega,by go_num,hb6,HT6.out⟩
      case measure=>simp [intOf];omega
    . obtain rfl:k=q:=by omega
      have hsw:=hbw.size
      obtain ⟨vs,hvl,hvo,hvw⟩:=hT.done (base:=w.heap.size) hsw (by unfold maxLen;omega)
      have HVO:=lH hvo
      have HVW:=lH hvw
      have HVL:=lH hvl
      have hbz:=zAd hbw hbel
      clear hvo hvw hvl hT
      go_wp2
      go_ret2
      exact ⟨_,vs,by rw [HR.out];rfl,by rw [HVL.out];exact HVO.out,by rw [HR.out];exact HVW.out,hbz⟩
theorem all_any (w:World) (ao:Option Addr) (n cap:Nat) (s:List Blk) (root l:Int) (hn:s.length=n) (hn63:n<=1152921504606846976) (hs:StoRow w ao s) (hwf:WfS s) :
 Calls Tryz.prog 90 #[.agg #[.slice ao n cap],.int .i64 root,.int .i64 l] w fun e w'=>∃ v vs,e=.returned (.tuple #[v,.int .i64 (allR s root l).2])/\w'.ownsRow w.heap.size 28 1 v vs.length vs/\LW w' vs (allR s root l).1/\Below w.heap.size w w':=by
 have hz:=zL8 w ao n cap s root l hn hn63 hs hwf
 refine hz.mono ?_
 rintro e w' ⟨v,vs,h1,h2,h3,h4⟩
 refine ⟨v,vs,h1,h2,⟨h3.len,fun i hi hi'=>?_⟩,h4⟩
 exact (h3.each i hi hi' w.heap.size (zMs _)).sl
end Go.Proofs.YtfmgdjgedhnmeaaGreat
