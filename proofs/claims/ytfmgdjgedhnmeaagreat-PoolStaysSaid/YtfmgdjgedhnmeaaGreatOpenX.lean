/- A store that came in, opened. · rookeryref.SameSet: are two sets the same? · A set that came in, opened. -/
import Derived.Deep.Slices
import Derived.Lib.SmallJoins
import Derived.SizedLaws
import Derived.Test.YtfmgdjgedhnmeaaGreatPut
import Derived.Test.YtfmgdjgedhnmeaaGreatRows
import Derived.StillTactics
import Derived.Laws.StructEq
import Derived.Deep.Strs
import Derived.Test.YtfmgdjgedhnmeaaGreatSetCheck
import Derived.Test.YtfmgdjgedhnmeaaGreatHeld
namespace Go.Proofs.YtfmgdjgedhnmeaaGreat
open Go.RowKit Go.ChangeShapes Go.WideShapes Go.Deep Go.Joins
set_option linter.unusedVariables false
set_option linter.unusedSimpArgs false
theorem zCj {w:World} {x:Addr} {v:Value} (h:w.cell? (x.add 0)=some v):∃ b o,x=⟨b,o,none⟩:=by
 obtain ⟨b,o,s⟩:=x
 have hs:s=none:=by
  unfold World.cell? Addr.add at h
  simp only [if_true] at h
  split at h
  . split at h
    . cases h
    . rename_i hn;simpa using hn
  . cases h
 subst hs
 exact ⟨b,o,rfl⟩
theorem zBf (b o k:Nat):(⟨b,o,none⟩:Addr).add k=⟨b,o+k,none⟩:=by unfold Addr.add;split<;>simp_all
section
variable {H:Type} {enc:TypeId×Value->H} {w:World} {base:Nat} {spare:Nat->Bool} {held:Bool}
theorem zID {t e:TypeId} {k:IntKind} {fuel:Nat} {v:Value} {x:DataW H×List MemPlace} (ht:Tryz.prog.underlying t=some (.slice e)) (he:Tryz.prog.underlying e=some (.int k)) (hc:Tryz.prog.cellsOf e=1)
 (h:DataW.trod enc Tryz.prog w base spare held fuel t [v]=some x):∃ xs,Sl k w v xs/\(∀ n∈xs,(Lit.int k n).wf=true)/\((∀ n∈x.1.weights Tryz.prog t,n<=reachBytes)->xs.length*Tryz.prog.bytesOf e<=reachBytes):=by
 rcases open_ints ht he hc h with ⟨hcs,_⟩ | ⟨a,l,c,zs,hcs,_,hl,hm,hz,hx,hcell,hwz⟩
 . simp at hcs
   subst hcs
   exact ⟨[],⟨none,0,rfl,.inl rfl,zMs _,fun _=>rfl⟩,by simp,fun _=>by simp⟩
 . simp at hcs
   subst hcs
   have hlz:l<=zs.length:=by rw [hz];split<;>omega
   have hlen:(zs.take l).length=l:=by simp;omega
   refine ⟨zs.take l,⟨some a,c,by rw [hlen],row_open hcell,by rw [hlen];exact hl,fun h=>by cases h⟩,fun n hn=>hwz n (zNl hn),?_⟩
   intro hw
   rw [hx] at hw
   have h1:=hw (((lits (H:=H) k (zs.take l)).length+(lits (H:=H) k (zs.drop l)).length)*Tryz.prog.bytesOf e) (by simp [DataW.weights,ht])
   have h2:(zs.take l).length<=(lits (H:=H) k (zs.take l)).length+(lits (H:=H) k (zs.drop l)).length:=by simp [lits]
   exact zMN (zNr _ h2) h1
theorem zDC {n:Int} (h:(Lit.int .i64 n).wf=true):I64 n:=by
 simpa [I64,Lit.wf,IntKind.min,IntKind.max,IntKind.signed,IntKind.bits] using h
theorem byt_of {xs:List Int} (h:∀ n∈xs,(Lit.int .u8 n).wf=true):Byt xs:=by
 intro x hx
 simpa [Lit.wf,IntKind.min,IntKind.max,IntKind.signed,IntKind.bits] using h x hx
set_option maxRecDepth 100000 in
theorem zJz {n b o:Nat} {cs:List Value} {y:DataW H×List MemPlace} (h:DataW.trod enc Tryz.prog w base spare held n 99 cs=some y) (hcl:cs.length=4) (hc:∀ j,j<4->w.cell? ⟨b,o+j,none⟩=cs[j]?) (hw:∀ n∈y.1.weights Tryz.prog 99,n<=reachBytes) :
 ∃ x:Blk,BlkAt w b o x/\WfB x:=by
 obtain ⟨y0,y1,y2,y3,m,hx,_,h0,h1,h2,h3⟩:=trod_struct4 Tryz.underlying99 h
 match cs,hcl with
 | [v0,v1,v2,v3],_=>
  have c0:=hc 0 (by omega)
  have c1:=hc 1 (by omega)
  have c2:=hc 2 (by omega)
  have c3:=hc 3 (by omega)
  replace h0:DataW.trod enc Tryz.prog w base spare held m 3 [v0]=some y0:=h0
  replace h1:DataW.trod enc Tryz.prog w base spare held m 3 [v1]=some y1:=h1
  replace h2:DataW.trod enc Tryz.prog w base spare held m 59 [v2]=some y2:=h2
  replace h3:DataW.trod enc Tryz.prog w base spare held m 28 [v3]=some y3:=h3
  obtain ⟨r,e0,_,w0⟩:=DataW.trod_int Tryz.underlying3 h0
  obtain ⟨l,e1,_,w1⟩:=DataW.trod_int Tryz.underlying3 h1
  obtain ⟨ks,s2,w2,b2⟩:=zID Tryz.underlying59 Tryz.underlying3 (by kernel_rfl) h2
  obtain ⟨bs,s3,w3,b3⟩:=zID Tryz.underlying28 Tryz.underlying5 (by kernel_rfl) h3
  simp at e0 e1
  subst e0 e1
  rw [hx] at hw
  have hk:=b2 (fun n hn=>hw n (by simp [DataW.weights,DataW.weightsEach,Tryz.underlying99,hn]))
  have hbs:=b3 (fun n hn=>hw n (by simp [DataW.weights,DataW.weightsEach,Tryz.underlying99,hn]))
  have e8:Tryz.prog.bytesOf 3=8:=by kernel_rfl
  have e1':Tryz.prog.bytesOf 5=1:=by kernel_rfl
  rw [e8] at hk
  rw [e1'] at hbs
  have hR:reachBytes=140737488351232:=rfl
  exact ⟨⟨r,l,ks,bs⟩,⟨c0,c1,⟨_,c2,s2⟩,⟨_,c3,s3⟩⟩,zDC w0,zDC w1,fun k hk=>zDC (w2 k hk),byt_of w3,by simp only;omega,by simp only;omega⟩
theorem zCA {e:TypeId} {d:DataW H} {l:List (DataW H)} (h:d∈l) {n:Nat} (hn:n∈d.weights Tryz.prog e):n∈DataW.weightsAll Tryz.prog e l:=by
 induction l with
 | nil=>cases h
 | cons y l ih=>
  simp only [DataW.weightsAll,zNo]
  rcases zNP.1 h with rfl | h
  . exact .inl hn
  . exact .inr (ih h)
set_option maxRecDepth 100000 in
theorem open_store {r:Reach} {b0:Nat} {v:Value} {d:DataW H} {p:List MemPlace} (hv:Value.okWide Tryz.prog w r b0 24 v) (h:DataW.Trod enc Tryz.prog w base spare held 24 v d p) (hb:∀ n∈d.weights Tryz.prog 24,n<=reachBytes) :
 ∃ ao n cap s,v=.agg #[.slice ao n cap]/\s.length=n/\StoRow w ao s/\WfS s/\Capd ao n cap/\n<=2199023255552:=by
 obtain ⟨cs,rfl,hsz⟩:=okWide_struct Tryz.underlying24 hv
 obtain ⟨l⟩:=cs
 have hsz1:l.length=1:=hsz.trans (by kernel_rfl)
 match l,hsz1 with
 | [c0],_=>
  obtain ⟨fuel,hf⟩:=h
  obtain ⟨y0,m,hx,_,h0⟩:=trod_struct1 Tryz.underlying24 hf
  replace h0:DataW.trod enc Tryz.prog w base spare held m 22 [c0]=some y0:=h0
  have hd:d=.agg [y0.1]:=by have:=congrArg Prod.fst hx;simpa using this
  subst hd
  have hb0:∀ n∈y0.1.weights Tryz.prog 22,n<=reachBytes:=fun n hn=>hb n (by simp [DataW.weights,DataW.weightsEach,Tryz.underlying24,hn])
  rcases open_slice Tryz.underlying22 h0 with ⟨hcs,_⟩ | ⟨a,len,cap,mm,q,D,Pl,hcs,_,hl,hm,hmm,hx0,hi⟩
  . simp at hcs
    subst hcs
    exact ⟨none,0,0,[],rfl,rfl,.inl rfl,(by intro x hx;cases hx),⟨zMs _,fun _=>rfl⟩,by omega⟩
  . simp at hcs
    subst hcs
    have hlm:len<=mm:=by rw [hmm];split<;>omega
    have hcell:Tryz.prog.cellsOf 99=4:=by kernel_rfl
    rw [hcell] at hi
    rw [hx0] at hb0
    have hbd:∀ i,i<len->∀ n∈(D i).weights Tryz.prog 99,n<=reachBytes:=fun i hi n hn=>hb0 n (by
     simp only [DataW.weights,Tryz.underlying22,zNP,zNo]
     exact .inr (.inl (zCA (List.mem_map.2 ⟨i,List.mem_range.2 hi,rfl⟩) hn)))
    have hlen:len<=2199023255552:=by
     have h1:=hb0 ((((List.range len).map D).length+((List.range (mm - len)).map fun j=>D (len+j)).length)*Tryz.prog.bytesOf 99) (by simp [DataW.weights,Tryz.underlying22])
     have e64:Tryz.prog.bytesOf 99=64:=by kernel_rfl
     rw [e64] at h1
     simp at h1
     have hR:reachBytes=140737488351232:=rfl
     omega
    rcases zMJ len with hz | hz
    . subst hz
      exact ⟨some a,0,cap,[],rfl,rfl,.inl rfl,(by intro x hx;cases hx),⟨zMO _,fun h=>by cases h⟩,by omega⟩
    have hpl:∃ b o,a=⟨b,o,none⟩:=by
     obtain ⟨cs',hc,_⟩:=hi 0 (by omega)
     obtain ⟨_,hcl,hat⟩:=zNI hc
     have h00:=hat 0 (by omega)
     rw [zMt (by omega),zOp] at h00
     have e:(a.add 0).add 0=a.add 0:=by unfold Addr.add;simp
     rw [e] at h00
     exact zCj h00
    obtain ⟨b,o,rfl⟩:=hpl
    have hex:∀ i,∃ x:Blk,i<len->(BlkAt w b (o+i*4) x/\WfB x):=by
     intro i
     by_cases hlt:i<len
     . obtain ⟨cs',hc,ht⟩:=hi i (by omega)
       obtain ⟨_,hcl,hat⟩:=zNI hc
       obtain ⟨x,hxx⟩:=zJz (b:=b) (o:=o+i*4) ht hcl (fun j hj=>by
        have:=hat j hj
        rw [zBf,zBf] at this
        exact this) (hbd i hlt)
       exact ⟨x,fun _=>hxx⟩
     . exact ⟨noBlk,fun h=>absurd h hlt⟩
    have hf:∀ i,i<len->_:=fun i=>zN5 (hex i)
    refine ⟨some ⟨b,o,none⟩,len,cap,(List.range len).map fun i=>Classical.choose (hex i),rfl,by simp,.inr ⟨b,o,rfl,fun i hi=>?_⟩,?_,⟨hl,fun h=>by cases h⟩,by omega⟩
    . have hi':i<len:=by simpa using hi
      simpa using (hf i hi').1
    . intro x hx
      obtain ⟨i,hi,rfl⟩:=List.mem_map.1 hx
      have hi':=List.mem_range.1 hi
      exact (hf i hi').2
end
end Go.Proofs.YtfmgdjgedhnmeaaGreat
namespace Go.Proofs.YtfmgdjgedhnmeaaGreat
open Go.RowKit
set_option linter.unusedVariables false
set_option linter.unusedSimpArgs false
noncomputable def isB {α:Type} (a b:α):Bool:=@decide (a=b) (Classical.propDecidable _)
theorem zOD {α:Type} (a b:α):isB a b=true↔a=b:=by unfold isB;exact @decide_eq_true_iff _ (Classical.propDecidable _)
theorem zOC {α:Type} {a b:α} (h:a≠b):isB a b=false:=by
 cases e:isB a b with
 | false=>rfl
 | true=>exact absurd ((zOD a b).1 e) h
theorem zOJ {α:Type} {l m:List α} (k:Nat) (h1:k<l.length) (h2:k<m.length) (h:l[k]≠m[k]):l≠m:=by
 rintro rfl
 exact h rfl
theorem zOF {α:Type} {l m:List α} (k:Nat) (h1:k<l.length) (h2:k<m.length) (h:l[k]=m[k]) (ht:l.take k=m.take k):l.take (k+1)=m.take (k+1):=by
 rw [zMD h1,zMD h2,ht,h]
theorem zOY:Tryz.prog.eqGuardType Tryz.prog.depth 76=false:=by kernel_rfl
theorem zOZ:Tryz.prog.underlying 76=some (.struct (Tryz.prog.fieldsOf 76)):=by kernel_rfl
theorem zOX:Tryz.prog.stoodInHeld 76=false:=by kernel_rfl
theorem zOS:Tryz.prog.underlying 74=some (.struct (Tryz.prog.fieldsOf 74)):=by kernel_rfl
theorem zOT:Tryz.prog.stoodInHeld 74=false:=by kernel_rfl
theorem neq_ent (x y:Ent) (u:World):(binOp .neq 76 (.agg #[.string x.nm,.int .i64 x.root,.int .i64 x.size]) (.agg #[.string y.nm,.int .i64 y.root,.int .i64 y.size])).run Tryz.prog u=.ok (.bool (!(isB x y))) u:=by
 rw [run_neq_struct,run_equalIn_agg _ _ _ _ _ zOZ zOX]
 simp [go_sem,Program.fieldsOf,Op.eqFields,run_equalIn_agg _ _ _ _ _ zOS zOT,Tryz.underlying76,Tryz.underlying74,Tryz.underlying9,Tryz.underlying3]
 obtain ⟨xn,xr,xz⟩:=x
 obtain ⟨yn,yr,yz⟩:=y
 simp only
 by_cases h:(⟨xn,xr,xz⟩:Ent)=⟨yn,yr,yz⟩
 . rw [(zOD _ _).2 h]
   simp only [Ent.mk.injEq] at h
   obtain ⟨rfl,rfl,rfl⟩:=h
   simp
 . rw [zOC h]
   by_cases h1:xn.toList=yn.toList
   . by_cases h2:xr=yr
     . by_cases h3:xz=yz
       . exact absurd (by rw [toList_inj h1,h2,h3]) h
       . simp [h3]
     . simp [h2]
   . simp [h1]
set_option maxRecDepth 100000 in
set_option maxHeartbeats 4000000 in
theorem zOH (w:World) (ao bo:Option Addr) (m c m' c':Nat) (l l':List Ent) (hm:l.length=m) (hm':l'.length=m') (h63:m<=1152921504606846976) (h63':m'<=1152921504606846976) (hr:zBy w ao l) (hr':zBy w bo l') :
 Calls Tryz.prog 24 #[.slice ao m c,.slice bo m' c'] w fun e w'=>e=.returned (.bool (isB l l'))/\Below w.heap.size w w':=by
 have HM:=lH hm
 have HM':=lH hm'
 clear hm hm'
 by_cases hmm:m=m'
 . subst hmm
   have h1:((m:Int) != m)=false:=by simp
   go_enter Tryz.func24,Tryz.ntmps24
   go_wp2_with fail
   clear h1
   go_loopw [13] (fun i wr=>∃ k:Nat,k<=m/\i=.int .i64 k/\l.take k=l'.take k/\Below w.heap.size w wr) (fun i _=>m - (intOf i).toNat)
   case atStart=>exact ⟨0,zMO _,rfl,by simp,zMy _ _⟩
   case round=>
    obtain ⟨k,hkm,rfl,htk,hbel⟩:=hrel
    have HTK:=lH htk
    clear htk
    by_cases hlt:k<m
    . have hk1:k<l.length:=by have:=HM.out;omega
      have hk2:k<l'.length:=by have:=HM'.out;omega
      have hlt':(k:Int)<m:=by omega
      obtain ⟨b1,o1,rfl,hq1⟩:=(hr.mono hbel).at k hk1
      obtain ⟨b2,o2,rfl,hq2⟩:=(hr'.mono hbel).at k hk2
      have hE1:=hq1 k hk1
      have hE2:=hq2 k hk2
      have c0:=hE1.nm
      have c1:=hE1.root
      have c2:=hE1.size
      have d0:=hE2.nm
      have d1:=hE2.root
      have d2:=hE2.size
      have l1:=hE1.lt
      have l2:=hE2.lt
      have HNE:=lH (zOJ k hk1 hk2)
      have HSN:=lH (fun h=>zOF k hk1 hk2 h HTK.out)
      clear hq1 hq2 hE1 hE2
      generalize l[k]=x at *
      generalize l'[k]=y at *
      obtain ⟨xn,xr,xz⟩:=x
      obtain ⟨yn,yr,yz⟩:=y
      simp only at c0 c1 c2 d0 d1 d2
      have hnq:=fun u=>neq_ent ⟨xn,xr,xz⟩ ⟨yn,yr,yz⟩ u
      simp only at hnq
      have hgd:=zOY
      by_cases hxy:(⟨xn,xr,xz⟩:Ent)=⟨yn,yr,yz⟩
      . have hib:isB (⟨xn,xr,xz⟩:Ent) ⟨yn,yr,yz⟩=true:=(zOD _ _).2 hxy
        have HST:=lH (HSN.out hxy)
        rw [hib] at hnq
        simp only [Bool.not_true] at hnq
        clear hxy hib HNE HSN
        go_upto_region 6 with fail
        go_still (by kernel_rfl)
        go_wp2_with fail
        go_roundw
        case rel=>exact ⟨k+1,by omega,by go_num,HST.out,hbel.drew⟩
        case measure=>simp [intOf];omega
      . have hib:isB (⟨xn,xr,xz⟩:Ent) ⟨yn,yr,yz⟩=false:=zOC hxy
        have HR:Hid (isB l l'=false):=lH (zOC (HNE.out hxy))
        rw [hib] at hnq
        simp only [Bool.not_false] at hnq
        clear hxy hib HNE HSN
        go_upto_region 6 with fail
        go_still (by kernel_rfl)
        go_wp2_with fail
        go_ret
        exact ⟨zBi HR.out.symm,hbel.drew⟩
    . obtain rfl:k=m:=by omega
      have HR:Hid (isB l l'=true):=lH ((zOD _ _).2 (by
       have h1:l.take k=l:=zMM (by have:=HM.out;omega)
       have h2:l'.take k=l':=zMM (by have:=HM'.out;omega)
       rw [<- h1,<- h2];exact HTK.out))
      have hlt':¬ (k:Int)<k:=by omega
      go_wp2_with fail
      go_ret
      exact ⟨zBi HR.out.symm,hbel⟩
 . have HR:Hid (isB l l'=false):=lH (zOC (by rintro rfl;exact hmm (HM.out.symm.trans HM'.out)))
   have h1:((m:Int) != m')=true:=by rw [bne_iff_ne];omega
   go_enter Tryz.func24,Tryz.ntmps24
   go_wp2_with fail
   go_ret
   exact ⟨zBi HR.out.symm,zMy _ _⟩
theorem str_eq {a b:ByteArray} (h:a=b):(a.toList==b.toList)=true/\(a==b)=true:=by subst h;exact ⟨by simp,by rw [beq_toListBytes];simp⟩
theorem str_ne {a b:ByteArray} (h:a≠b):(a.toList==b.toList)=false/\(a==b)=false:=by
 have h1:(a.toList==b.toList)=false:=by rw [beq_eq_false_iff_ne];exact fun e=>h (toList_inj e)
 exact ⟨h1,by rw [beq_toListBytes];exact h1⟩
set_option maxRecDepth 100000 in
set_option maxHeartbeats 4000000 in
theorem zOO (w:World) (ao bo:Option Addr) (n c n' c':Nat) (na nb:ByteArray) (l l':List Ent) (hn:l.length=n) (hn':l'.length=n') (h63:n<=1152921504606846976) (h63':n'<=1152921504606846976) (hr:zBy w ao l) (hr':zBy w bo l') :
 Calls Tryz.prog 26 #[.agg #[.string na,.slice ao n c],.agg #[.string nb,.slice bo n' c']] w fun e w'=>e=.returned (.bool (isB (⟨na,l⟩:Snp) ⟨nb,l'⟩))/\Below w.heap.size w w':=by
 have hb0:Below w.heap.size w ((w.alloc (.cells #[.string na,.slice ao n c] 79)).alloc (.cells #[.string nb,.slice bo n' c'] 79)):=((zMy _ _).alloc (zMs _) _).alloc (by simp) _
 by_cases h:na=nb
 . obtain ⟨h1,h2⟩:=str_eq h
   have HQ:=lH (zOH ((w.alloc (.cells #[.string na,.slice ao n c] 79)).alloc (.cells #[.string nb,.slice bo n' c'] 79)) ao bo n c n' c' l l' hn hn' h63 h63' (hr.mono hb0) (hr'.mono hb0))
   have HR:Hid (isB (⟨na,l⟩:Snp) ⟨nb,l'⟩=isB l l'):=lH (by
    by_cases e:l=l'
    . rw [(zOD _ _).2 e,(zOD _ _).2 (by rw [h,e])]
    . rw [zOC e,zOC (fun e2=>e (Snp.mk.inj e2).2)])
   clear hn hn' hr hr' h
   go_enter Tryz.func26,Tryz.ntmps26
   go_wp2_with fail
   refine HQ.out.mono ?_
   rintro e w1 ⟨rfl,hb1⟩
   go_wp2_with fail
   go_ret
   exact ⟨zBi HR.out.symm,zAd hb0 hb1⟩
 . obtain ⟨h1,h2⟩:=str_ne h
   have HR:Hid (isB (⟨na,l⟩:Snp) ⟨nb,l'⟩=false):=lH (zOC fun e=>h (Snp.mk.inj e).1)
   clear hn hn' hr hr' h
   go_enter Tryz.func26,Tryz.ntmps26
   go_wp2_with fail
   go_ret
   exact ⟨zBi HR.out.symm,hb0⟩
def FitX (x:SetV):Prop:=x.files.length<=1152921504606846976/\x.snaps.length<=1152921504606846976/\∀ y∈x.snaps,y.files.length<=1152921504606846976
set_option maxRecDepth 100000 in
set_option maxHeartbeats 4000000 in
theorem zOW (w:World) (ao bo:Option Addr) (m c m' c':Nat) (l l':List Snp) (hm:l.length=m) (hm':l'.length=m') (h63:m<=1152921504606846976) (h63':m'<=1152921504606846976) (hf:∀ y∈l,y.files.length<=1152921504606846976) (hf':∀ y∈l',y.files.length<=1152921504606846976) (hr:zGa w ao l) (hr':zGa w bo l') :
 Calls Tryz.prog 25 #[.slice ao m c,.slice bo m' c',.func (.func 26) #[] #[]] w fun e w'=>e=.returned (.bool (isB l l'))/\Below w.heap.size w w':=by
 have HM:=lH hm
 have HM':=lH hm'
 clear hm hm'
 by_cases hmm:m=m'
 . subst hmm
   go_enter Tryz.func25,Tryz.ntmps25
   go_wp2
   go_loopw [17] (fun i wr=>∃ k:Nat,k<=m/\i=.int .i64 k/\Hid (l.take k=l'.take k)/\Below w.heap.size w wr) (fun i _=>m - (intOf i).toNat)
   case atStart=>exact ⟨0,zMO _,rfl,lH rfl,zMy _ _⟩
   case round=>
    obtain ⟨k,hkm,rfl,HTK,hbel⟩:=hrel
    by_cases hlt:k<m
    . have hk1:k<l.length:=by have:=HM.out;omega
      have hk2:k<l'.length:=by have:=HM'.out;omega
      have hlt':(k:Int)<m:=by omega
      obtain ⟨vs,hvl,hvr,hvi⟩:=hr.mono hbel
      obtain ⟨us,hul,hur,hui⟩:=hr'.mono hbel
      have hv1:k<vs.length:=by omega
      have hu1:k<us.length:=by omega
      obtain ⟨b1,o1,rfl,hq1⟩:=SnvRow.at hvr k hv1
      obtain ⟨b2,o2,rfl,hq2⟩:=SnvRow.at hur k hu1
      have hE1:=hq1 k hv1
      have hE2:=hq2 k hu1
      have hI1:=hvi k hv1 hk1
      have hI2:=hui k hu1 hk2
      have c0:=hE1.nm
      have c1:=hE1.sl
      have d0:=hE2.nm
      have d1:=hE2.sl
      have l1:=hE1.lt
      have l2:=hE2.lt
      have HNE:=lH (zOJ k hk1 hk2)
      have HSN:=lH (fun h=>zOF k hk1 hk2 h HTK.out)
      have hf1:=hf _ (zMr hk1)
      have hf2:=hf' _ (zMr hk2)
      clear hq1 hq2 hE1 hE2 hvl hvr hvi hul hur hui
      generalize l[k]=x at *
      generalize l'[k]=y at *
      generalize vs[k]=v at *
      generalize us[k]=u at *
      obtain ⟨xn,xf⟩:=x
      obtain ⟨yn,yf⟩:=y
      obtain ⟨vn,va,vm,vc⟩:=v
      obtain ⟨un,ua,um,uc⟩:=u
      obtain ⟨i1,i2,i3,i4⟩:=hI1
      obtain ⟨j1,j2,j3,j4⟩:=hI2
      simp only at c0 c1 d0 d1 hf1 hf2 i1 i2 i3 i4 j1 j2 j3 j4
      subst i1 j1
      have hbb:Below wr.heap.size wr ((wr.alloc (.cells #[.string vn,.slice va vm vc] 79)).alloc (.cells #[.string un,.slice ua um uc] 79)):=((zMy _ _).alloc (zMs _) _).alloc (by simp) _
      have HCL:=lH (zOO ((wr.alloc (.cells #[.string vn,.slice va vm vc] 79)).alloc (.cells #[.string un,.slice ua um uc] 79)) va ua vm vc um uc vn un xf yf i2.symm j2.symm (by omega) (by omega) (i3.mono hbb) (j3.mono hbb))
      clear i2 j2 i3 j3 i4 j4 hf1 hf2
      go_wp2_with fail
      refine HCL.out.mono ?_
      by_cases hxy:(⟨vn,xf⟩:Snp)=⟨un,yf⟩
      . rw [(zOD _ _).2 hxy]
        rintro e w2 ⟨rfl,hb2⟩
        have HST:=lH (HSN.out hxy)
        have hbw:=zAd hbel (zAd hbb hb2)
        clear hxy HNE HSN HCL
        go_wp2
        go_roundw
        case rel=>exact ⟨k+1,by omega,by go_num,HST,hbw⟩
        case measure=>simp [intOf];omega
      . rw [zOC hxy]
        rintro e w2 ⟨rfl,hb2⟩
        have HR:Hid (isB l l'=false):=lH (zOC (HNE.out hxy))
        have hbw:=zAd hbel (zAd hbb hb2)
        clear hxy HNE HSN HCL
        go_wp2
        go_ret
        exact ⟨zBi HR.out.symm,hbw⟩
    . obtain rfl:k=m:=by omega
      have HR:Hid (isB l l'=true):=lH ((zOD _ _).2 (by
       have h1:l.take k=l:=zMM (by have:=HM.out;omega)
       have h2:l'.take k=l':=zMM (by have:=HM'.out;omega)
       rw [<- h1,<- h2];exact HTK.out))
      have hlt':¬ (k:Int)<k:=by omega
      go_wp2_with fail
      go_ret
      exact ⟨zBi HR.out.symm,hbel⟩
 . have HR:Hid (isB l l'=false):=lH (zOC (by rintro rfl;exact hmm (HM.out.symm.trans HM'.out)))
   have h1:((m:Int) != m')=true:=by rw [bne_iff_ne];omega
   go_enter Tryz.func25,Tryz.ntmps25
   go_wp2_with fail
   go_ret
   exact ⟨zBi HR.out.symm,zMy _ _⟩
set_option maxRecDepth 100000 in
set_option maxHeartbeats 4000000 in
theorem zOP (w:World) (fo so fo' so':Option Addr) (fn fc sn sc fn' fc' sn' sc':Nat) (x y:SetV) (hx:SetIn w fo fn fc so sn sc x) (hy:SetIn w fo' fn' fc' so' sn' sc' y) (wx:FitX x) (wy:FitX y) :
 Calls Tryz.prog 9 #[.agg #[.string x.nm,.slice fo fn fc,.slice so sn sc],.agg #[.string y.nm,.slice fo' fn' fc',.slice so' sn' sc']] w fun e w'=>e=.returned (.bool (isB x y))/\Below w.heap.size w w':=by
 have hb0:Below w.heap.size w ((w.alloc (.cells #[.string x.nm,.slice fo fn fc,.slice so sn sc] 47)).alloc (.cells #[.string y.nm,.slice fo' fn' fc',.slice so' sn' sc'] 47)):=((zMy _ _).alloc (zMs _) _).alloc (by simp) _
 have p0:=heap_alloc2_old w (.cells #[.string x.nm,.slice fo fn fc,.slice so sn sc] 47) (.cells #[.string y.nm,.slice fo' fn' fc',.slice so' sn' sc'] 47)
 have p1:=heap_alloc2_new w (.cells #[.string x.nm,.slice fo fn fc,.slice so sn sc] 47) (.cells #[.string y.nm,.slice fo' fn' fc',.slice so' sn' sc'] 47)
 have HX:=lH (hx.mono hb0)
 have HY:=lH (hy.mono hb0)
 have HWX:=lH wx
 have HWY:=lH wy
 clear hx hy wx wy
 by_cases h:x.nm=y.nm
 . obtain ⟨h1,h2⟩:=str_eq h
   have HNM:=lH h
   clear h
   go_enter Tryz.func9,Tryz.ntmps9
   go_wp2_with fail
   generalize (w.alloc (.cells #[.string x.nm,.slice fo fn fc,.slice so sn sc] 47)).alloc (.cells #[.string y.nm,.slice fo' fn' fc',.slice so' sn' sc'] 47)=W at *
   refine (zOH W fo fo' fn fc fn' fc' x.files y.files HX.out.flen HY.out.flen (by have:=HWX.out.1;have:=HX.out.flen;omega) (by have:=HWY.out.1;have:=HY.out.flen;omega) HX.out.frow HY.out.frow).mono ?_
   by_cases hf:x.files=y.files
   . rw [(zOD _ _).2 hf]
     rintro e w2 ⟨rfl,hb2⟩
     have p0:=Zm hb2 p0
     have p1:=Zm hb2 p1
     have c0:=zAa p0 2
     have c1:=zAa p1 2
     simp only [cA1,cA2,cA3] at c0 c1
     have l0:=zAb p0
     have l1:=zAb p1
     have HX2:=lH (HX.out.mono hb2)
     have HY2:=lH (HY.out.mono hb2)
     have HR:Hid (isB x y=isB x.snaps y.snaps):=lH (by
      obtain ⟨xn,xf,xs⟩:=x
      obtain ⟨yn,yf,ys⟩:=y
      have hn:=HNM.out
      simp only at hn hf
      subst hn hf
      by_cases e:xs=ys
      . rw [(zOD _ _).2 (by rw [e]),(zOD _ _).2 e]
      . rw [zOC e,zOC (fun e2=>e (SetV.mk.inj e2).2.2)])
     have hbw:=zAd hb0 hb2
     clear hf
     go_wp2_with fail
     refine (zOW w2 so so' sn sc sn' sc' x.snaps y.snaps HX2.out.slen HY2.out.slen (by have:=HWX.out.2.1;have:=HX2.out.slen;omega) (by have:=HWY.out.2.1;have:=HY2.out.slen;omega) HWX.out.2.2 HWY.out.2.2 HX2.out.srow HY2.out.srow).mono ?_
     rintro e w3 ⟨rfl,hb3⟩
     go_wp2_with fail
     go_ret
     exact ⟨zBi HR.out.symm,zAd hbw hb3⟩
   . rw [zOC hf]
     rintro e w2 ⟨rfl,hb2⟩
     have HR:Hid (isB x y=false):=lH (zOC fun e=>hf (by rw [e]))
     clear hf
     go_wp2_with fail
     go_ret
     exact ⟨zBi HR.out.symm,zAd hb0 hb2⟩
 . obtain ⟨h1,h2⟩:=str_ne h
   have HR:Hid (isB x y=false):=lH (zOC fun e=>h (by rw [e]))
   clear h
   go_enter Tryz.func9,Tryz.ntmps9
   go_wp2_with fail
   go_ret
   exact ⟨zBi HR.out.symm,hb0⟩
end Go.Proofs.YtfmgdjgedhnmeaaGreat
namespace Go.Proofs.YtfmgdjgedhnmeaaGreat
open Go.RowKit Go.ChangeShapes Go.WideShapes Go.Deep Go.Joins
set_option linter.unusedVariables false
set_option linter.unusedSimpArgs false
theorem zGz {α:Type} (K:Kind α) {w:World} {b o:Nat} {l:List α} (h:∀ i (hi:i<l.length) j,j<K.k->w.cell? ⟨b,o+i*K.k+j,none⟩=(K.cells l[i])[j]?):K.Row w (some ⟨b,o,none⟩) l:=by
 refine .inr ⟨b,o,rfl,fun j v hv=>?_⟩
 have hjl:j<l.length*K.k:=by
  have:=(List.getElem?_eq_some_iff.1 hv).1
  rwa [K.all_len] at this
 have hp:=K.pos
 have hi:j / K.k<l.length:=Nat.div_lt_of_lt_mul (by rwa [Nat.mul_comm] at hjl)
 have hm:j%K.k<K.k:=zNu _ hp
 have hj:j / K.k*K.k+j%K.k=j:=by rw [Nat.mul_comm];exact Nat.div_add_mod j K.k
 have h1:=h (j / K.k) hi (j%K.k) hm
 have h2:=K.all_at l (j / K.k) hi (j%K.k) hm
 rw [hj,hv] at h2
 rw [show o+j / K.k*K.k+j%K.k=o+j from by omega] at h1
 rw [h1,h2]
section
variable {H:Type} {enc:TypeId×Value->H} {w:World} {base:Nat} {spare:Nat->Bool} {held:Bool}
set_option maxRecDepth 100000 in
theorem open_ent {n b o:Nat} {cs:List Value} {y:DataW H×List MemPlace} (h:DataW.trod enc Tryz.prog w base spare held n 76 cs=some y) (hcl:cs.length=3) (hc:∀ j,j<3->w.cell? ⟨b,o+j,none⟩=cs[j]?) :
 ∃ x:Ent,(∀ j,j<3->w.cell? ⟨b,o+j,none⟩=(entK.cells x)[j]?)/\I64 x.root/\I64 x.size:=by
 obtain ⟨y0,y1,m,hx,_,h0,h1⟩:=trod_struct2 Tryz.underlying76 h
 match cs,hcl with
 | [v0,v1,v2],_=>
  replace h0:DataW.trod enc Tryz.prog w base spare held m 9 [v0]=some y0:=h0
  replace h1:DataW.trod enc Tryz.prog w base spare held m 74 [v1,v2]=some y1:=h1
  obtain ⟨z0,z1,m1,hx1,_,g0,g1⟩:=trod_struct2 Tryz.underlying74 h1
  replace g0:DataW.trod enc Tryz.prog w base spare held m1 3 [v1]=some z0:=g0
  replace g1:DataW.trod enc Tryz.prog w base spare held m1 3 [v2]=some z1:=g1
  obtain ⟨q,e0,_,_⟩:=DataW.trod_string Tryz.underlying9 h0
  obtain ⟨r,e1,_,w1⟩:=DataW.trod_int Tryz.underlying3 g0
  obtain ⟨s,e2,_,w2⟩:=DataW.trod_int Tryz.underlying3 g1
  simp at e0 e1 e2
  subst e0 e1 e2
  exact ⟨⟨q,r,s⟩,hc,zDC w1,zDC w2⟩
set_option maxRecDepth 100000 in
theorem zHu {m:Nat} {c0:Value} {y0:DataW H×List MemPlace} (h0:DataW.trod enc Tryz.prog w base spare held m 44 [c0]=some y0) (hb0:∀ n∈y0.1.weights Tryz.prog 44,n<=reachBytes) :
 ∃ ao n cap l,c0=.slice ao n cap/\l.length=n/\zBy w ao l/\WfL l/\Capd ao n cap/\n<=4398046511104:=by
 rcases open_slice Tryz.underlying44 h0 with ⟨hcs,_⟩ | ⟨a,len,cap,mm,q,D,Pl,hcs,_,hl,hm,hmm,hx0,hi⟩
 . simp at hcs
   subst hcs
   exact ⟨none,0,0,[],rfl,rfl,.inl rfl,(by intro x hx;cases hx),⟨zMs _,fun _=>rfl⟩,by omega⟩
 . simp at hcs
   subst hcs
   have hlm:len<=mm:=by rw [hmm];split<;>omega
   have hcell:Tryz.prog.cellsOf 76=3:=by kernel_rfl
   rw [hcell] at hi
   rw [hx0] at hb0
   have hlen:len<=4398046511104:=by
    have h1:=hb0 ((((List.range len).map D).length+((List.range (mm - len)).map fun j=>D (len+j)).length)*Tryz.prog.bytesOf 76) (by simp [DataW.weights,Tryz.underlying44])
    have e32:Tryz.prog.bytesOf 76=32:=by kernel_rfl
    rw [e32] at h1
    simp at h1
    have hR:reachBytes=140737488351232:=rfl
    omega
   rcases zMJ len with hz | hz
   . subst hz
     exact ⟨some a,0,cap,[],rfl,rfl,.inl rfl,(by intro x hx;cases hx),⟨zMO _,fun h=>by cases h⟩,by omega⟩
   have hpl:∃ b o,a=⟨b,o,none⟩:=by
    obtain ⟨cs',hc,_⟩:=hi 0 (by omega)
    obtain ⟨_,hcl,hat⟩:=zNI hc
    have h00:=hat 0 (by omega)
    rw [zMt (by omega),zOp] at h00
    have e:(a.add 0).add 0=a.add 0:=by unfold Addr.add;simp
    rw [e] at h00
    exact zCj h00
   obtain ⟨b,o,rfl⟩:=hpl
   have hex:∀ i,∃ x:Ent,i<len->((∀ j,j<3->w.cell? ⟨b,o+i*3+j,none⟩=(entK.cells x)[j]?)/\I64 x.root/\I64 x.size):=by
    intro i
    by_cases hlt:i<len
    . obtain ⟨cs',hc,ht⟩:=hi i (by omega)
      obtain ⟨_,hcl,hat⟩:=zNI hc
      obtain ⟨x,hxx⟩:=open_ent (b:=b) (o:=o+i*3) ht hcl (fun j hj=>by
       have:=hat j hj
       rw [zBf,zBf] at this
       exact this)
      exact ⟨x,fun _=>hxx⟩
    . exact ⟨⟨⟨#[]⟩,0,0⟩,fun h=>absurd h hlt⟩
   have hf:∀ i,i<len->_:=fun i=>zN5 (hex i)
   refine ⟨some ⟨b,o,none⟩,len,cap,(List.range len).map fun i=>Classical.choose (hex i),rfl,by simp,zGz entK fun i hi j hj=>?_,?_,⟨hl,fun h=>by cases h⟩,by omega⟩
   . have hi':i<len:=by simpa using hi
     show w.cell? ⟨b,o+i*3+j,none⟩=_
     simpa using (hf i hi').1 j hj
   . intro x hx
     obtain ⟨i,hi,rfl⟩:=List.mem_map.1 hx
     exact (hf i (List.mem_range.1 hi)).2
set_option maxRecDepth 100000 in
theorem open_snv {n b o:Nat} {cs:List Value} {y:DataW H×List MemPlace} (h:DataW.trod enc Tryz.prog w base spare held n 79 cs=some y) (hcl:cs.length=2) (hc:∀ j,j<2->w.cell? ⟨b,o+j,none⟩=cs[j]?) (hw:∀ n∈y.1.weights Tryz.prog 79,n<=reachBytes) :
 ∃ (v:Snv) (x:Snp),(∀ j,j<2->w.cell? ⟨b,o+j,none⟩=(snvK.cells v)[j]?)/\v.Is w x/\WfL x.files/\x.files.length<=4398046511104:=by
 obtain ⟨y0,y1,m,hx,_,h0,h1⟩:=trod_struct2 Tryz.underlying79 h
 match cs,hcl with
 | [v0,v1],_=>
  replace h0:DataW.trod enc Tryz.prog w base spare held m 9 [v0]=some y0:=h0
  replace h1:DataW.trod enc Tryz.prog w base spare held m 44 [v1]=some y1:=h1
  obtain ⟨q,e0,_,_⟩:=DataW.trod_string Tryz.underlying9 h0
  simp at e0
  subst e0
  rw [hx] at hw
  obtain ⟨ao,n,cap,l,rfl,hn,hr,hwf,hcp,hle⟩:=zHu h1 (fun n hn=>hw n (by simp [DataW.weights,DataW.weightsEach,Tryz.underlying79,hn]))
  exact ⟨⟨q,ao,n,cap⟩,⟨q,l⟩,hc,⟨rfl,hn.symm,hr,hcp⟩,hwf,by simp only;omega⟩
set_option maxRecDepth 100000 in
theorem zLw {m:Nat} {c0:Value} {y0:DataW H×List MemPlace} (h0:DataW.trod enc Tryz.prog w base spare held m 45 [c0]=some y0) (hb0:∀ n∈y0.1.weights Tryz.prog 45,n<=reachBytes) :
 ∃ ao n cap l,c0=.slice ao n cap/\l.length=n/\zGa w ao l/\(∀ y∈l,WfL y.files/\y.files.length<=4398046511104)/\Capd ao n cap/\n<=4398046511104:=by
 rcases open_slice Tryz.underlying45 h0 with ⟨hcs,_⟩ | ⟨a,len,cap,mm,q,D,Pl,hcs,_,hl,hm,hmm,hx0,hi⟩
 . simp at hcs
   subst hcs
   exact ⟨none,0,0,[],rfl,rfl,⟨[],rfl,.inl rfl,fun i h=>absurd h (by simp)⟩,(by intro x hx;cases hx),⟨zMs _,fun _=>rfl⟩,by omega⟩
 . simp at hcs
   subst hcs
   have hlm:len<=mm:=by rw [hmm];split<;>omega
   have hcell:Tryz.prog.cellsOf 79=2:=by kernel_rfl
   rw [hcell] at hi
   rw [hx0] at hb0
   have hbd:∀ i,i<len->∀ n∈(D i).weights Tryz.prog 79,n<=reachBytes:=fun i hi n hn=>hb0 n (by
    simp only [DataW.weights,Tryz.underlying45,zNP,zNo]
    exact .inr (.inl (zCA (List.mem_map.2 ⟨i,List.mem_range.2 hi,rfl⟩) hn)))
   have hlen:len<=4398046511104:=by
    have h1:=hb0 ((((List.range len).map D).length+((List.range (mm - len)).map fun j=>D (len+j)).length)*Tryz.prog.bytesOf 79) (by simp [DataW.weights,Tryz.underlying45])
    have e40:Tryz.prog.bytesOf 79=40:=by kernel_rfl
    rw [e40] at h1
    simp at h1
    have hR:reachBytes=140737488351232:=rfl
    omega
   rcases zMJ len with hz | hz
   . subst hz
     exact ⟨some a,0,cap,[],rfl,rfl,⟨[],rfl,.inl rfl,fun i h=>absurd h (by simp)⟩,(by intro x hx;cases hx),⟨zMO _,fun h=>by cases h⟩,by omega⟩
   have hpl:∃ b o,a=⟨b,o,none⟩:=by
    obtain ⟨cs',hc,_⟩:=hi 0 (by omega)
    obtain ⟨_,hcl,hat⟩:=zNI hc
    have h00:=hat 0 (by omega)
    rw [zMt (by omega),zOp] at h00
    have e:(a.add 0).add 0=a.add 0:=by unfold Addr.add;simp
    rw [e] at h00
    exact zCj h00
   obtain ⟨b,o,rfl⟩:=hpl
   have hex:∀ i,∃ z:Snv×Snp,i<len->((∀ j,j<2->w.cell? ⟨b,o+i*2+j,none⟩=(snvK.cells z.1)[j]?)/\z.1.Is w z.2/\WfL z.2.files/\z.2.files.length<=4398046511104):=by
    intro i
    by_cases hlt:i<len
    . obtain ⟨cs',hc,ht⟩:=hi i (by omega)
      obtain ⟨_,hcl,hat⟩:=zNI hc
      obtain ⟨v,x,hxx⟩:=open_snv (b:=b) (o:=o+i*2) ht hcl (fun j hj=>by
       have:=hat j hj
       rw [zBf,zBf] at this
       exact this) (hbd i hlt)
      exact ⟨(v,x),fun _=>hxx⟩
    . exact ⟨(⟨⟨#[]⟩,none,0,0⟩,⟨⟨#[]⟩,[]⟩),fun h=>absurd h hlt⟩
   have hf:∀ i,i<len->_:=fun i=>zN5 (hex i)
   refine ⟨some ⟨b,o,none⟩,len,cap,(List.range len).map fun i=>(Classical.choose (hex i)).2,rfl,by simp,⟨(List.range len).map fun i=>(Classical.choose (hex i)).1,by simp,zGz snvK fun i hi j hj=>?_,fun i h1 h2=>?_⟩,?_,⟨hl,fun h=>by cases h⟩,by omega⟩
   . have hi':i<len:=by simpa using hi
     show w.cell? ⟨b,o+i*2+j,none⟩=_
     simpa using (hf i hi').1 j hj
   . have hi':i<len:=by simpa using h1
     simpa using (hf i hi').2.1
   . intro x hx
     obtain ⟨i,hi,rfl⟩:=List.mem_map.1 hx
     exact (hf i (List.mem_range.1 hi)).2.2
end
end Go.Proofs.YtfmgdjgedhnmeaaGreat
