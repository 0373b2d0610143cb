/- slices.Delete of one at entries and at snaps. · set.place, set.snap: a name is looked for among rising ones. -/
import Derived.Deep.RegionLaw
import Derived.Test.YtfmgdjgedhnmeaaGreatIns
import Derived.Lib.Bytealg
import Derived.Laws.Externs
import Derived.Test.YtfmgdjgedhnmeaaGreatSetCopy
namespace Go.Proofs.YtfmgdjgedhnmeaaGreat
open Go.RowKit
set_option linter.unusedVariables false
set_option linter.unusedSimpArgs false
theorem zEn {α:Type} (l sp:List α) (p i:Nat) (z:α) (hm:l.length=p+1) (hi:i<=p):splice (splice (l++sp) i (l.drop (i+1))) p [z]=l.eraseIdx i++z::sp:=by
 unfold splice
 rw [zM1]
 have e1:(l++sp).take i=l.take i:=zNL (by omega)
 have e2:(l++sp).drop (i+(l.drop (i+1)).length)=l.drop p++sp:=by
  rw [zMF,hm,show i+(p+1 - (i+1))=p from by omega,zN0 (by omega)]
 rw [e1,e2,show l.take i++(l.drop (i+1)++(l.drop p++sp))=(l.take i++l.drop (i+1))++(l.drop p++sp) from by simp]
 have hl:(l.take i++l.drop (i+1)).length=p:=by rw [zMG,zMI,zMF];omega
 generalize l.take i++l.drop (i+1)=A at hl ⊢
 have e3:(A++(l.drop p++sp)).drop (p + [z].length)=sp:=by
  have h1:(l.drop p).length=1:=by rw [zMF];omega
  rw [List.length_singleton,<- zM8]
  exact List.drop_left' (by rw [zMG,hl,h1])
 rw [e3,zOs hl]
 simp
theorem Kind.run_clear {α:Type} {K:Kind α} {P:Program} (w:World) (t ty:TypeId) (i0:TypeInfo) (z:Value) (ht:P.underlying t=some (.slice K.elem)) (hi:P.info? K.elem=some i0) (hz0:i0.zero=some z) (hz:z.cells=(K.cells K.zero).toArray) (g p c tb:Nat) (L:List α) (hp:p<L.length)
 (h:w.heap[g]?=some (.cells (K.all L).toArray tb (0,0))) :
 (Builtin.clear_ #[t] ty #[.slice (some ⟨g,p*K.k,none⟩) 1 c]).run P w=.ok (.tuple #[]) (w.setCells g (p*K.k) (K.all [K.zero])):=by
 have hb:∀ j,j<(K.all [K.zero]).length->p*K.k+j<L.length*K.k:=by
  intro j hj
  rw [K.all_len] at hj
  have h1:(p+1)*K.k<=L.length*K.k:=zNr _ hp
  rw [zN6] at h1
  simp only [zMT,zNK] at hj
  omega
 have hst:=run_storeCells_cells (P:=P) g (p*K.k) (K.all [K.zero]) 0 w (fun j hj=>by rw [zOz];exact Kind.isCell h _ (hb j hj)) (fun j hj=>zAc h _) (K.all_one [K.zero])
 have hzc:(Builtin.zeroCells z.cells 1).toList=K.all [K.zero]:=by rw [Kind.zeros z hz];rfl
 simp only [zOz] at hst
 simp [Builtin.clear_,run_underlying ht,zeroValue,typeInfo,hi,hz0,hzc,hst]
set_option maxRecDepth 100000 in
set_option maxHeartbeats 8000000 in
theorem zIr (w:World) (base:Nat) (ao:Option Addr) (p c i:Nat) (l:List Ent) (hm:l.length=p+1) (hm6:p<=1000) (hi:i<=p) (ho:entK.Own w base (.slice ao (p+1) c) l) :
 Calls Tryz.prog 85 #[.slice ao (p+1) c,.int .i64 i,.int .i64 ((i:Int)+1)] w fun e w'=>e=.returned (.slice ao p c)/\entK.Own w' base (.slice ao p c) (l.eraseIdx i)/\Below base w w'/\∀ b,b<w.heap.size->ao≠some ⟨b,0,none⟩->w'.heap[b]?=w.heap[b]?:=by
 obtain ⟨i0,z,hin,hz0,hsz,hby,hzc⟩:=zGY
 rcases ho with ⟨rfl,_⟩ | ⟨g,cap,sp,hsl,hgb,hcap,hh⟩
 . simp at hm
 simp only [Value.slice.injEq] at hsl
 obtain ⟨rfl,-,rfl⟩:=hsl
 rw [hm] at hcap
 have hls:(l++sp).length=c:=by rw [zMG];omega
 have hnl:(l.drop (i+1)).length=p - i:=by rw [zMF];omega
 obtain ⟨Aq,hA,hsrc⟩:∃ Aq:Addr,(if c=i+1 then (some (⟨g,0,none⟩:Addr)) else some ⟨g,(i+1)*3,none⟩)=some Aq/\Hid (∀ t u,(entK.all (l.drop (i+1)))[t]?=some u->w.drew.cell? (Aq.add t)=some u):=by
  by_cases hc:c=i+1
  . refine ⟨⟨g,0,none⟩,by simp [hc],lH fun t u hu=>?_⟩
    have h0:l.drop (i+1)=[]:=zMv (by rw [hnl];omega)
    rw [h0] at hu
    simp [Kind.all] at hu
  . refine ⟨⟨g,(i+1)*3,none⟩,by simp [hc],lH fun t u hu=>?_⟩
    rw [zAR]
    refine Eq.trans (b:=w.cell? ⟨g,(i+1)*entK.k+t,none⟩) rfl ?_
    rw [zAa hh,zMC,entK.all_append]
    rw [<- entK.all_drop,zNs] at hu
    rw [zM4 (List.getElem?_eq_some_iff.1 hu).1]
    exact hu
 have s1:Hid ((entK.all (l.drop (i+1))).length=(p - i)*3):=lH (by rw [entK.all_len,hnl];rfl)
 have s2:Hid (∀ u∈entK.all (l.drop (i+1)),u.oneCell'=true):=lH (entK.all_one _)
 have s3:Hid (∀ t,t<(entK.all (l.drop (i+1))).length->(w.drew.cell? ⟨g,0+i*3+t,none⟩).isSome=true/\w.drew.frozen? ⟨g,0+i*3+t,none⟩=false):=lH fun t ht=>by
  rw [s1.out] at ht
  refine ⟨Kind.isCell (K:=entK) (w:=w.drew) hh _ ?_,zAc (w:=w.drew) hh _⟩
  show 0+i*3+t<(l++sp).length*3
  rw [hls]
  omega
 obtain ⟨W1,hW1⟩:∃ W1,W1=w.drew.setCells g (0+i*3) (entK.all (l.drop (i+1))):=⟨_,rfl⟩
 have HW1:=lH hW1
 have g1:W1.heap[g]?=some (.cells (entK.all (Go.splice (l++sp) i (l.drop (i+1)))).toArray entK.elem (0,0)):=by
  rw [hW1,zML]
  exact Kind.setCells (K:=entK) (w:=w.drew) hh i (l.drop (i+1)) (by rw [hls,hnl];omega)
 have k1:∀ b,b≠g->W1.heap[b]?=w.heap[b]?:=fun b hb=>by rw [hW1,zAl _ _ _ hb];rfl
 have z1:W1.heap.size=w.heap.size:=by rw [hW1,zAn];rfl
 have d1:W1.os=w.os/\W1.tape=w.tape/\W1.output=w.output:=by rw [hW1];exact zAo w.drew g _ _
 have hL1:(Go.splice (l++sp) i (l.drop (i+1))).length=c:=by rw [length_splice _ _ _ (by rw [hls,hnl];omega)];exact hls
 have hcl:=fun ty=>Kind.run_clear (K:=entK) (P:=Tryz.prog) W1 44 ty i0 z Tryz.underlying44 hin hz0 hzc g p (c - p) entK.elem _ (by rw [hL1];omega) g1
 obtain ⟨W2,hW2⟩:∃ W2,W2=W1.setCells g (p*entK.k) (entK.all [entK.zero]):=⟨_,rfl⟩
 have g2:W2.heap[g]?=some (.cells (entK.all (l.eraseIdx i++entK.zero::sp)).toArray entK.elem (0,0)):=by
  rw [<- zEn l sp p i entK.zero hm hi,hW2]
  exact Kind.setCells (K:=entK) g1 p [entK.zero] (by rw [hL1];show p+1<=c;omega)
 have k2:∀ b,b≠g->W2.heap[b]?=w.heap[b]?:=fun b hb=>by rw [hW2,zAl _ _ _ hb];exact k1 b hb
 have z2:W2.heap.size=w.heap.size:=by rw [hW2,zAn];exact z1
 have d2:W2.os=w.os/\W2.tape=w.tape/\W2.output=w.output:=by rw [hW2];obtain ⟨a,b,c⟩:=zAo W1 g (entK.all [entK.zero]) (p*entK.k);rw [a,b,c];exact d1
 rw [<- hW2] at hcl
 have hel:(l.eraseIdx i).length=p:=by rw [zNm,if_pos (by omega)];omega
 have hFIN:Hid (entK.Own W2 base (.slice (some ⟨g,0,none⟩) p c) (l.eraseIdx i)/\Below base w W2/\∀ b,b<w.heap.size->(some ⟨g,0,none⟩:Option Addr)≠some ⟨b,0,none⟩->W2.heap[b]?=w.heap[b]?):=
  lH ⟨.inr ⟨g,c,entK.zero::sp,by rw [hel],hgb,by rw [hel,zMT];omega,g2⟩,⟨d2.1,d2.2.1,d2.2.2,by omega,fun b hb=>k2 b (by omega)⟩,fun b _ hb=>k2 b (fun e=>hb (by rw [e]))⟩
 have HCL:∀ ty,(Builtin.clear_ #[44] ty #[.slice (some ⟨g,p*3,none⟩) 1 (c - p)]).run Tryz.prog W1=.ok (.tuple #[]) W2:=hcl
 have hwr:IntKind.i64.wrap ((i:Int)+1)=(i:Int)+1:=by rw [IntKind.wrap_i64];omega
 have q0:((i:Int)==(i:Int)+1)=false:=by rw [beq_eq_false_iff_ne];omega
 have q1:((i:Int)+1).toNat=i+1:=by omega
 have q2:(0:Int)<=(i:Int)+1:=by omega
 have q3:(i:Int)+1<=(p:Int)+1:=by omega
 have q4:(p:Int)+1<=c:=by omega
 have q5:i<=c:=by omega
 have q6:i+(p - i)=p:=by omega
 have q7:i+(p+1 - (i+1))=p:=by omega
 have q8:¬ (c=p):=by omega
 have q9:(i:Int)<=(i:Int)+1:=by omega
 have q10:(i:Int)<=c:=by omega
 have q11:(i:Int)+1<=c:=by omega
 have q12:(p:Int)<=(p:Int)+1:=by omega
 have q13:p+1 - p=1:=by omega
 have q14:p+1 - (i+1)=p - i:=by omega
 have q15:i<=p+1:=by omega
 have hroom:i+(p - i)<=c:=by omega
 have HSZ:=lH hsz
 clear g1 g2 k1 k2 z1 z2 d1 d2 hL1 hcl hW1 hW2 hel hh hcap hls hnl hm hzc hby hz0 hsz
 go_enter Tryz.func85,Tryz.ntmps85
 go_wp2_with fail
 go_region_law (refine step_append_room rfl (.tmp 22) (.tmp 25) 44 rfl 76 i0 3 Tryz.underlying44 hin HSZ.out g 0 i c (by simp [Act.eval,Act.put]) Aq (p - i) (c - (i+1)) (entK.all (l.drop (i+1))) (by simp [Act.eval,Act.put]) s1.out hsrc.out s2.out hroom s3.out ?_;rw [<- HW1.out])
 go_wp2
 go_ret
 exact ⟨rfl,hFIN.out⟩
set_option maxRecDepth 100000 in
set_option maxHeartbeats 8000000 in
theorem zH7 (w:World) (base:Nat) (ao:Option Addr) (p c i:Nat) (l:List Snv) (hm:l.length=p+1) (hm6:p<=1000) (hi:i<=p) (ho:snvK.Own w base (.slice ao (p+1) c) l) :
 Calls Tryz.prog 87 #[.slice ao (p+1) c,.int .i64 i,.int .i64 ((i:Int)+1)] w fun e w'=>e=.returned (.slice ao p c)/\snvK.Own w' base (.slice ao p c) (l.eraseIdx i)/\Below base w w'/\∀ b,b<w.heap.size->ao≠some ⟨b,0,none⟩->w'.heap[b]?=w.heap[b]?:=by
 obtain ⟨i0,z,hin,hz0,hsz,hby,hzc⟩:=zHP
 rcases ho with ⟨rfl,_⟩ | ⟨g,cap,sp,hsl,hgb,hcap,hh⟩
 . simp at hm
 simp only [Value.slice.injEq] at hsl
 obtain ⟨rfl,-,rfl⟩:=hsl
 rw [hm] at hcap
 have hls:(l++sp).length=c:=by rw [zMG];omega
 have hnl:(l.drop (i+1)).length=p - i:=by rw [zMF];omega
 obtain ⟨Aq,hA,hsrc⟩:∃ Aq:Addr,(if c=i+1 then (some (⟨g,0,none⟩:Addr)) else some ⟨g,(i+1)*2,none⟩)=some Aq/\Hid (∀ t u,(snvK.all (l.drop (i+1)))[t]?=some u->w.drew.cell? (Aq.add t)=some u):=by
  by_cases hc:c=i+1
  . refine ⟨⟨g,0,none⟩,by simp [hc],lH fun t u hu=>?_⟩
    have h0:l.drop (i+1)=[]:=zMv (by rw [hnl];omega)
    rw [h0] at hu
    simp [Kind.all] at hu
  . refine ⟨⟨g,(i+1)*2,none⟩,by simp [hc],lH fun t u hu=>?_⟩
    rw [zAR]
    refine Eq.trans (b:=w.cell? ⟨g,(i+1)*snvK.k+t,none⟩) rfl ?_
    rw [zAa hh,zMC,snvK.all_append]
    rw [<- snvK.all_drop,zNs] at hu
    rw [zM4 (List.getElem?_eq_some_iff.1 hu).1]
    exact hu
 have s1:Hid ((snvK.all (l.drop (i+1))).length=(p - i)*2):=lH (by rw [snvK.all_len,hnl];rfl)
 have s2:Hid (∀ u∈snvK.all (l.drop (i+1)),u.oneCell'=true):=lH (snvK.all_one _)
 have s3:Hid (∀ t,t<(snvK.all (l.drop (i+1))).length->(w.drew.cell? ⟨g,0+i*2+t,none⟩).isSome=true/\w.drew.frozen? ⟨g,0+i*2+t,none⟩=false):=lH fun t ht=>by
  rw [s1.out] at ht
  refine ⟨Kind.isCell (K:=snvK) (w:=w.drew) hh _ ?_,zAc (w:=w.drew) hh _⟩
  show 0+i*2+t<(l++sp).length*2
  rw [hls]
  omega
 obtain ⟨W1,hW1⟩:∃ W1,W1=w.drew.setCells g (0+i*2) (snvK.all (l.drop (i+1))):=⟨_,rfl⟩
 have HW1:=lH hW1
 have g1:W1.heap[g]?=some (.cells (snvK.all (Go.splice (l++sp) i (l.drop (i+1)))).toArray snvK.elem (0,0)):=by
  rw [hW1,zML]
  exact Kind.setCells (K:=snvK) (w:=w.drew) hh i (l.drop (i+1)) (by rw [hls,hnl];omega)
 have k1:∀ b,b≠g->W1.heap[b]?=w.heap[b]?:=fun b hb=>by rw [hW1,zAl _ _ _ hb];rfl
 have z1:W1.heap.size=w.heap.size:=by rw [hW1,zAn];rfl
 have d1:W1.os=w.os/\W1.tape=w.tape/\W1.output=w.output:=by rw [hW1];exact zAo w.drew g _ _
 have hL1:(Go.splice (l++sp) i (l.drop (i+1))).length=c:=by rw [length_splice _ _ _ (by rw [hls,hnl];omega)];exact hls
 have hcl:=fun ty=>Kind.run_clear (K:=snvK) (P:=Tryz.prog) W1 45 ty i0 z Tryz.underlying45 hin hz0 hzc g p (c - p) snvK.elem _ (by rw [hL1];omega) g1
 obtain ⟨W2,hW2⟩:∃ W2,W2=W1.setCells g (p*snvK.k) (snvK.all [snvK.zero]):=⟨_,rfl⟩
 have g2:W2.heap[g]?=some (.cells (snvK.all (l.eraseIdx i++snvK.zero::sp)).toArray snvK.elem (0,0)):=by
  rw [<- zEn l sp p i snvK.zero hm hi,hW2]
  exact Kind.setCells (K:=snvK) g1 p [snvK.zero] (by rw [hL1];show p+1<=c;omega)
 have k2:∀ b,b≠g->W2.heap[b]?=w.heap[b]?:=fun b hb=>by rw [hW2,zAl _ _ _ hb];exact k1 b hb
 have z2:W2.heap.size=w.heap.size:=by rw [hW2,zAn];exact z1
 have d2:W2.os=w.os/\W2.tape=w.tape/\W2.output=w.output:=by rw [hW2];obtain ⟨a,b,c⟩:=zAo W1 g (snvK.all [snvK.zero]) (p*snvK.k);rw [a,b,c];exact d1
 rw [<- hW2] at hcl
 have hel:(l.eraseIdx i).length=p:=by rw [zNm,if_pos (by omega)];omega
 have hFIN:Hid (snvK.Own W2 base (.slice (some ⟨g,0,none⟩) p c) (l.eraseIdx i)/\Below base w W2/\∀ b,b<w.heap.size->(some ⟨g,0,none⟩:Option Addr)≠some ⟨b,0,none⟩->W2.heap[b]?=w.heap[b]?):=
  lH ⟨.inr ⟨g,c,snvK.zero::sp,by rw [hel],hgb,by rw [hel,zMT];omega,g2⟩,⟨d2.1,d2.2.1,d2.2.2,by omega,fun b hb=>k2 b (by omega)⟩,fun b _ hb=>k2 b (fun e=>hb (by rw [e]))⟩
 have HCL:∀ ty,(Builtin.clear_ #[45] ty #[.slice (some ⟨g,p*2,none⟩) 1 (c - p)]).run Tryz.prog W1=.ok (.tuple #[]) W2:=hcl
 have hwr:IntKind.i64.wrap ((i:Int)+1)=(i:Int)+1:=by rw [IntKind.wrap_i64];omega
 have q0:((i:Int)==(i:Int)+1)=false:=by rw [beq_eq_false_iff_ne];omega
 have q1:((i:Int)+1).toNat=i+1:=by omega
 have q2:(0:Int)<=(i:Int)+1:=by omega
 have q3:(i:Int)+1<=(p:Int)+1:=by omega
 have q4:(p:Int)+1<=c:=by omega
 have q5:i<=c:=by omega
 have q6:i+(p - i)=p:=by omega
 have q7:i+(p+1 - (i+1))=p:=by omega
 have q8:¬ (c=p):=by omega
 have q9:(i:Int)<=(i:Int)+1:=by omega
 have q10:(i:Int)<=c:=by omega
 have q11:(i:Int)+1<=c:=by omega
 have q12:(p:Int)<=(p:Int)+1:=by omega
 have q13:p+1 - p=1:=by omega
 have q14:p+1 - (i+1)=p - i:=by omega
 have q15:i<=p+1:=by omega
 have hroom:i+(p - i)<=c:=by omega
 have HSZ:=lH hsz
 clear g1 g2 k1 k2 z1 z2 d1 d2 hL1 hcl hW1 hW2 hel hh hcap hls hnl hm hzc hby hz0 hsz
 go_enter Tryz.func87,Tryz.ntmps87
 go_wp2_with fail
 go_region_law (refine step_append_room rfl (.tmp 22) (.tmp 25) 45 rfl 79 i0 2 Tryz.underlying45 hin HSZ.out g 0 i c (by simp [Act.eval,Act.put]) Aq (p - i) (c - (i+1)) (snvK.all (l.drop (i+1))) (by simp [Act.eval,Act.put]) s1.out hsrc.out s2.out hroom s3.out ?_;rw [<- HW1.out])
 go_wp2
 go_ret
 exact ⟨rfl,hFIN.out⟩
theorem zH6:∀ (x y:List UInt8),(Lib.compareBytes x y<0↔Op.bytesLess x y=true)/\(Lib.compareBytes x y=0↔x=y)
 | [],[]=>by simp [Lib.compareBytes,Op.bytesLess]
 | [],_::_=>by simp [Lib.compareBytes,Op.bytesLess]
 | _::_,[]=>by simp [Lib.compareBytes,Op.bytesLess]
 | a::x,b::y=>by
  obtain ⟨h1,h2⟩:=zH6 x y
  unfold Lib.compareBytes Op.bytesLess
  by_cases c1:a<b
  . rw [if_pos c1]
    refine ⟨by simp [c1],?_⟩
    constructor
    . intro h;omega
    . intro h;simp only [List.cons.injEq] at h;rw [h.1] at c1;exact absurd c1 (UInt8.lt_irrefl _)
  . rw [if_neg c1]
    by_cases c2:b<a
    . rw [if_pos c2]
      have hne:a≠b:=by rintro rfl;exact UInt8.lt_irrefl _ c2
      refine ⟨by simp [c1,hne],?_⟩
      constructor
      . intro h;omega
      . intro h;simp only [List.cons.injEq] at h;exact absurd h.1 hne
    . rw [if_neg c2]
      have he:a=b:=UInt8.le_antisymm (UInt8.not_lt.1 c2) (UInt8.not_lt.1 c1)
      subst he
      refine ⟨by rw [h1];simp [c1],by rw [h2];simp⟩
def cmpN (a b:ByteArray):Int:=Lib.compareBytes a.data.toList b.data.toList
theorem zEK (a b:ByteArray):cmpN a b<0↔ltN a b:=by
 unfold cmpN ltN
 rw [ByteArray.toList_eq,ByteArray.toList_eq]
 exact (zH6 _ _).1
theorem zLx (a b:ByteArray):cmpN a b=0↔a.toList=b.toList:=by
 unfold cmpN
 rw [ByteArray.toList_eq,ByteArray.toList_eq]
 exact (zH6 _ _).2
set_option maxRecDepth 100000 in
theorem zG5 (w:World) (a b:ByteArray):Calls Tryz.prog 73 #[.string a,.string b] w fun e w'=>e=.returned (.int .i64 (cmpN a b))/\w'=w:=by
 go_enter Tryz.func73,Tryz.ntmps73
 go_wp2
 rw [run_callFunc_extern Tryz.func89 (by kernel_rfl) (by kernel_rfl) (by kernel_rfl) (e:=Extern.BytealgCompare.compare) (by kernel_rfl),Lib.run_compareString]
 simp only [Result.andThen]
 rw [Oper.upon_value]
 go_wp2
 go_ret
 exact ⟨rfl,rfl⟩
theorem zDn (w:World) (a b:ByteArray):Calls Tryz.prog 58 #[.string a,.string b] w fun e w'=>e=.returned (.int .i64 (cmpN a b))/\w'=w:=by
 go_enter Tryz.func58,Tryz.ntmps58
 go_wp2_with (go_at_call 73;refine (zG5 _ _ _).mono ?_;rintro e w' ⟨rfl,rfl⟩)
 go_ret
 exact ⟨rfl,rfl⟩
theorem zEh {l:List ByteArray} {s:ByteArray} (hr:zAw l) (k:Nat) (hk:k<=l.length) (h1:∀ i (h:i<l.length),i<k->cmpN l[i] s<0) (h2:∀ i (h:i<l.length),k<=i->0<=cmpN l[i] s) :
 placeN l s=k/\(∀ h:k<l.length,placeB l s=decide (cmpN l[k] s=0))/\(¬ k<l.length->placeB l s=false):=by
 have hp:placeN l s=k:=zFA hr k hk (fun i h hi=>(zEK _ _).1 (h1 i h hi)) (fun i h hi hl=>by have:=h2 i h hi;have:=(zEK _ _).2 hl;omega)
 refine ⟨hp,fun h=>?_,fun h=>?_⟩
 . unfold placeB
   rw [hp,zMt h]
   rw [zOt,decide_eq_true_eq,zLx]
   simp
 . unfold placeB
   rw [hp,zNt (by omega)]
theorem zD0 {l:List ByteArray} {s:ByteArray} (hr:zAw l) (m:Nat) (hm:m<l.length) (h:cmpN l[m] s<0):∀ i (hi:i<l.length),i<m+1->cmpN l[i] s<0:=by
 intro i hi him
 rcases zNp i m with h1 | h1
 . have:=List.pairwise_iff_getElem.1 hr i m hi hm h1
   rw [zEK] at h ⊢
   exact zBo this h
 . obtain rfl:i=m:=by omega
   exact h
theorem zDq {l:List ByteArray} {s:ByteArray} (hr:zAw l) (m:Nat) (hm:m<l.length) (h:¬ cmpN l[m] s<0):∀ i (hi:i<l.length),m<=i->0<=cmpN l[i] s:=by
 intro i hi him
 rcases Int.lt_or_le (cmpN l[i] s) 0 with hc | hc
 rotate_left
 . exact hc
 exfalso
 rcases zNp m i with h1 | h1
 . have:=List.pairwise_iff_getElem.1 hr m i hm hi h1
   rw [zEK] at h hc
   exact h (zBo this hc)
 . obtain rfl:i=m:=by omega
   exact h hc
theorem zJk (w:World) (x:Ent) (s:ByteArray):Calls Tryz.prog 75 #[.agg #[.string x.nm,.int .i64 x.root,.int .i64 x.size],.string s] w fun e w'=>e=.returned (.int .i64 (cmpN x.nm s))/\Below w.heap.size w w':=by
 have hb0:=bA0 w (.cells #[.string x.nm,.int .i64 x.root,.int .i64 x.size] 76)
 go_enter Tryz.func75,Tryz.ntmps75
 go_wp2_with (go_at_call 58;refine (zDn _ _ _).mono ?_;rintro e w' ⟨rfl,rfl⟩)
 go_ret
 exact ⟨rfl,hb0⟩
set_option maxRecDepth 100000 in
set_option maxHeartbeats 4000000 in
theorem zIu (w:World) (ao:Option Addr) (m c:Nat) (l:List Ent) (s:ByteArray) (hm:l.length=m) (hm6:m<=1000) (he:entK.Row w ao l) (hr:zAw (l.map Ent.nm)) :
 Calls Tryz.prog 74 #[.slice ao m c,.string s,.func (.func 75) #[] #[]] w fun e w'=>e=.returned (.tuple #[.int .i64 (placeN (l.map Ent.nm) s),.bool (placeB (l.map Ent.nm) s)])/\Below w.heap.size w w':=by
 have HM:=lH hm
 have HR:=lH hr
 have hm6':(m:Int)<=1000:=by omega
 obtain ⟨PN,hPN⟩:∃ PN,placeN (l.map Ent.nm) s=PN:=⟨_,rfl⟩
 obtain ⟨PB,hPB⟩:∃ PB,placeB (l.map Ent.nm) s=PB:=⟨_,rfl⟩
 rw [hPN,hPB]
 have HPN:=lH hPN
 have HPB:=lH hPB
 clear hm hr hPN hPB
 go_enter Tryz.func74,Tryz.ntmps74
 go_wp2
 go_loopw [9,10] (fun i j wr=>∃ lo hi:Nat,i=.int .i64 lo/\j=.int .i64 hi/\lo<=hi/\hi<=m/\Below w.heap.size w wr/\
  Hid (∀ t (h:t<(l.map Ent.nm).length),t<lo->cmpN (l.map Ent.nm)[t] s<0)/\Hid (∀ t (h:t<(l.map Ent.nm).length),hi<=t->0<=cmpN (l.map Ent.nm)[t] s)) (fun i j _=>(intOf j).toNat - (intOf i).toNat)
 case atStart=>exact ⟨0,m,rfl,rfl,zMO _,zMs _,zMy _ _,lH fun t _ h=>absurd h (by omega),lH fun t h h2=>absurd h (by rw [zMA];have:=HM.out;omega)⟩
 case round=>
  obtain ⟨lo,hi,rfl,rfl,hlh,hin,hbel,I1,I2⟩:=hrel
  by_cases hlt:lo<hi
  . obtain ⟨q,hq⟩:∃ q,(lo+hi) / 2=q:=⟨_,rfl⟩
    have hqm:q<l.length:=by have:=HM.out;omega
    have hqm':q<(l.map Ent.nm).length:=by rw [zMA];exact hqm
    obtain ⟨b,o,rfl,lb0,hc⟩:=Kind.Row.at (he.mono hbel) (by omega)
    have hE:=zBz hc q hqm
    have lb:=hE.lt
    have c0:=hE.nm
    have c1:=hE.root
    have c2:=hE.size
    have hlow:=lH (zD0 (s:=s) HR.out q hqm')
    have hhigh:=lH (zDq (s:=s) HR.out q hqm')
    have hnm:(l.map Ent.nm)[q]=l[q].nm:=zM2 _
    rw [hnm] at hlow hhigh
    have hq1:((lo:Int)+hi) / 2=(q:Int):=by omega
    have hlt':(lo:Int)<hi:=by omega
    have hqm2:(q:Int)<m:=by have:=HM.out;omega
    have HQ:=lH hq
    have hq2:lo<=q/\q<hi:=by omega
    have HQ2:=lH hq2
    clear hE hc hq hnm hq2
    generalize l[q]=x at *
    obtain ⟨nm,root,size⟩:=x
    simp only at c0 c1 c2 hlow hhigh
    have hcc:=zJk wr ⟨nm,root,size⟩ s
    simp only at hcc
    by_cases hx:cmpN nm s<0
    . have I3:=lH (hlow.out hx)
      clear hlow hhigh
      generalize cmpN nm s=cc at *
      go_wp2_with fail
      refine hcc.mono ?_
      rintro e w' ⟨rfl,hb1⟩
      have hb2:=zAd hbel hb1
      clear hcc hb1
      go_wp2
      go_roundw
      case rel=>exact ⟨q+1,hi,by go_num,rfl,by have:=HQ2.out;omega,hin,hb2,I3,I2⟩
      case measure=>simp [intOf];have:=HQ2.out;omega
    . have I3:=lH (hhigh.out hx)
      clear hlow hhigh
      generalize cmpN nm s=cc at *
      go_wp2_with fail
      refine hcc.mono ?_
      rintro e w' ⟨rfl,hb1⟩
      have hb2:=zAd hbel hb1
      clear hcc hb1
      go_wp2
      go_roundw
      case rel=>exact ⟨lo,q,rfl,by go_num,by have:=HQ2.out;omega,by have:=HQ2.out;omega,hb2,I1,I3⟩
      case measure=>simp [intOf];have:=HQ2.out;omega
  . obtain rfl:lo=hi:=by omega
    have hlt':¬ (lo:Int)<lo:=by omega
    obtain ⟨e1,e2,e3⟩:=zEh HR.out lo (by rw [zMA];have:=HM.out;omega) I1.out I2.out
    by_cases hn:lo<m
    . have hql:lo<l.length:=by have:=HM.out;omega
      have e4:=e2 (by rw [zMA];exact hql)
      rw [zM2] at e4
      have hn':(lo:Int)<m:=by omega
      have hd:decide ((lo:Int)<m)=true:=decide_eq_true hn'
      have hd2:decide (lo<m)=true:=decide_eq_true hn
      obtain ⟨b,o,rfl,lb0,hc⟩:=Kind.Row.at (he.mono hbel) (by omega)
      have hE:=zBz hc lo hql
      have lb:=hE.lt
      have c0:=hE.nm
      have c1:=hE.root
      have c2:=hE.size
      have F1:Hid (PN=lo):=lH (HPN.out.symm.trans e1)
      have F2:Hid (PB=decide (cmpN l[lo].nm s=0)):=lH (HPB.out.symm.trans e4)
      clear hE hc e1 e2 e3 e4
      generalize l[lo]=x at *
      obtain ⟨nm,root,size⟩:=x
      simp only at c0 c1 c2 F2
      have hcc:=zJk wr ⟨nm,root,size⟩ s
      simp only at hcc
      generalize cmpN nm s=cc at *
      by_cases hz:cc=0
      all_goals
       go_wp2_with fail
       refine hcc.mono ?_
       rintro e w' ⟨rfl,hb1⟩
       have hb2:=zAd hbel hb1
       clear hcc hb1
       go_wp2
       refine bodyPost_ret (v:=.tuple #[.int .i64 lo,.bool (decide (cc=0))]) (by simp [results,Tryz.results74,go_sem,hz]) rfl ?_
       rw [F1.out,F2.out]
       exact ⟨rfl,hb2⟩
    . have F1:Hid (PN=lo):=lH (HPN.out.symm.trans e1)
      have F2:Hid (PB=false):=lH (HPB.out.symm.trans (e3 (by rw [zMA];have:=HM.out;omega)))
      have hn':¬ (lo:Int)<m:=by omega
      have hd:decide ((lo:Int)<m)=false:=decide_eq_false hn'
      have hd2:decide (lo<m)=false:=decide_eq_false hn
      clear e1 e2 e3
      go_wp2
      refine bodyPost_ret (v:=.tuple #[.int .i64 lo,.bool false]) (by simp [results,Tryz.results74,go_sem]) rfl ?_
      rw [F1.out,F2.out]
      exact ⟨rfl,hbel⟩
theorem zIM (w:World) (x:Snv) (s:ByteArray):Calls Tryz.prog 80 #[.agg #[.string x.nm,.slice x.ao x.n x.cap],.string s] w fun e w'=>e=.returned (.int .i64 (cmpN x.nm s))/\Below w.heap.size w w':=by
 have hb0:=bA0 w (.cells #[.string x.nm,.slice x.ao x.n x.cap] 79)
 go_enter Tryz.func80,Tryz.ntmps80
 go_wp2_with (go_at_call 58;refine (zDn _ _ _).mono ?_;rintro e w' ⟨rfl,rfl⟩)
 go_ret
 exact ⟨rfl,hb0⟩
set_option maxRecDepth 100000 in
set_option maxHeartbeats 4000000 in
theorem zIk (w:World) (ao:Option Addr) (m c:Nat) (l:List Snv) (s:ByteArray) (hm:l.length=m) (hm6:m<=1000) (he:snvK.Row w ao l) (hr:zAw (l.map Snv.nm)) :
 Calls Tryz.prog 79 #[.slice ao m c,.string s,.func (.func 80) #[] #[]] w fun e w'=>e=.returned (.tuple #[.int .i64 (placeN (l.map Snv.nm) s),.bool (placeB (l.map Snv.nm) s)])/\Below w.heap.size w w':=by
 have HM:=lH hm
 have HR:=lH hr
 have hm6':(m:Int)<=1000:=by omega
 obtain ⟨PN,hPN⟩:∃ PN,placeN (l.map Snv.nm) s=PN:=⟨_,rfl⟩
 obtain ⟨PB,hPB⟩:∃ PB,placeB (l.map Snv.nm) s=PB:=⟨_,rfl⟩
 rw [hPN,hPB]
 have HPN:=lH hPN
 have HPB:=lH hPB
 clear hm hr hPN hPB
 go_enter Tryz.func79,Tryz.ntmps79
 go_wp2
 go_loopw [9,10] (fun i j wr=>∃ lo hi:Nat,i=.int .i64 lo/\j=.int .i64 hi/\lo<=hi/\hi<=m/\Below w.heap.size w wr/\
  Hid (∀ t (h:t<(l.map Snv.nm).length),t<lo->cmpN (l.map Snv.nm)[t] s<0)/\Hid (∀ t (h:t<(l.map Snv.nm).length),hi<=t->0<=cmpN (l.map Snv.nm)[t] s)) (fun i j _=>(intOf j).toNat - (intOf i).toNat)
 case atStart=>exact ⟨0,m,rfl,rfl,zMO _,zMs _,zMy _ _,lH fun t _ h=>absurd h (by omega),lH fun t h h2=>absurd h (by rw [zMA];have:=HM.out;omega)⟩
 case round=>
  obtain ⟨lo,hi,rfl,rfl,hlh,hin,hbel,I1,I2⟩:=hrel
  by_cases hlt:lo<hi
  . obtain ⟨q,hq⟩:∃ q,(lo+hi) / 2=q:=⟨_,rfl⟩
    have hqm:q<l.length:=by have:=HM.out;omega
    have hqm':q<(l.map Snv.nm).length:=by rw [zMA];exact hqm
    obtain ⟨b,o,rfl,lb0,hc⟩:=Kind.Row.at (he.mono hbel) (by omega)
    have hE:=zDK hc q hqm
    have lb:=hE.lt
    have c0:=hE.nm
    have c1:=hE.sl
    have hlow:=lH (zD0 (s:=s) HR.out q hqm')
    have hhigh:=lH (zDq (s:=s) HR.out q hqm')
    have hnm:(l.map Snv.nm)[q]=l[q].nm:=zM2 _
    rw [hnm] at hlow hhigh
    have hq1:((lo:Int)+hi) / 2=(q:Int):=by omega
    have hlt':(lo:Int)<hi:=by omega
    have hqm2:(q:Int)<m:=by have:=HM.out;omega
    have HQ:=lH hq
    have hq2:lo<=q/\q<hi:=by omega
    have HQ2:=lH hq2
    clear hE hc hq hnm hq2
    generalize l[q]=x at *
    obtain ⟨nm,uo,un,uc⟩:=x
    simp only at c0 c1 hlow hhigh
    have hcc:=zIM wr ⟨nm,uo,un,uc⟩ s
    simp only at hcc
    by_cases hx:cmpN nm s<0
    . have I3:=lH (hlow.out hx)
      clear hlow hhigh
      generalize cmpN nm s=cc at *
      go_wp2_with fail
      refine hcc.mono ?_
      rintro e w' ⟨rfl,hb1⟩
      have hb2:=zAd hbel hb1
      clear hcc hb1
      go_wp2
      go_roundw
      case rel=>exact ⟨q+1,hi,by go_num,rfl,by have:=HQ2.out;omega,hin,hb2,I3,I2⟩
      case measure=>simp [intOf];have:=HQ2.out;omega
    . have I3:=lH (hhigh.out hx)
      clear hlow hhigh
      generalize cmpN nm s=cc at *
      go_wp2_with fail
      refine hcc.mono ?_
      rintro e w' ⟨rfl,hb1⟩
      have hb2:=zAd hbel hb1
      clear hcc hb1
      go_wp2
      go_roundw
      case rel=>exact ⟨lo,q,rfl,by go_num,by have:=HQ2.out;omega,by have:=HQ2.out;omega,hb2,I1,I3⟩
      case measure=>simp [intOf];have:=HQ2.out;omega
  . obtain rfl:lo=hi:=by omega
    have hlt':¬ (lo:Int)<lo:=by omega
    obtain ⟨e1,e2,e3⟩:=zEh HR.out lo (by rw [zMA];have:=HM.out;omega) I1.out I2.out
    by_cases hn:lo<m
    . have hql:lo<l.length:=by have:=HM.out;omega
      have e4:=e2 (by rw [zMA];exact hql)
      rw [zM2] at e4
      have hn':(lo:Int)<m:=by omega
      have hd:decide ((lo:Int)<m)=true:=decide_eq_true hn'
      have hd2:decide (lo<m)=true:=decide_eq_true hn
      obtain ⟨b,o,rfl,lb0,hc⟩:=Kind.Row.at (he.mono hbel) (by omega)
      have hE:=zDK hc lo hql
      have lb:=hE.lt
      have c0:=hE.nm
      have c1:=hE.sl
      have F1:Hid (PN=lo):=lH (HPN.out.symm.trans e1)
      have F2:Hid (PB=decide (cmpN l[lo].nm s=0)):=lH (HPB.out.symm.trans e4)
      clear hE hc e1 e2 e3 e4
      generalize l[lo]=x at *
      obtain ⟨nm,uo,un,uc⟩:=x
      simp only at c0 c1 F2
      have hcc:=zIM wr ⟨nm,uo,un,uc⟩ s
      simp only at hcc
      generalize cmpN nm s=cc at *
      by_cases hz:cc=0
      all_goals
       go_wp2_with fail
       refine hcc.mono ?_
       rintro e w' ⟨rfl,hb1⟩
       have hb2:=zAd hbel hb1
       clear hcc hb1
       go_wp2
       refine bodyPost_ret (v:=.tuple #[.int .i64 lo,.bool (decide (cc=0))]) (by simp [results,Tryz.results79,go_sem,hz]) rfl ?_
       rw [F1.out,F2.out]
       exact ⟨rfl,hb2⟩
    . have F1:Hid (PN=lo):=lH (HPN.out.symm.trans e1)
      have F2:Hid (PB=false):=lH (HPB.out.symm.trans (e3 (by rw [zMA];have:=HM.out;omega)))
      have hn':¬ (lo:Int)<m:=by omega
      have hd:decide ((lo:Int)<m)=false:=decide_eq_false hn'
      have hd2:decide (lo<m)=false:=decide_eq_false hn
      clear e1 e2 e3
      go_wp2
      refine bodyPost_ret (v:=.tuple #[.int .i64 lo,.bool false]) (by simp [results,Tryz.results79,go_sem]) rfl ?_
      rw [F1.out,F2.out]
      exact ⟨rfl,hbel⟩
theorem zDH (w:World) (ao:Option Addr) (m c:Nat) (l:List Ent) (s:ByteArray) (hm:l.length=m) (hm6:m<=1000) (he:entK.Row w ao l) (hr:zAw (l.map Ent.nm)) :
 Calls Tryz.prog 59 #[.slice ao m c,.string s] w fun e w'=>e=.returned (.tuple #[.int .i64 (placeN (l.map Ent.nm) s),.bool (placeB (l.map Ent.nm) s)])/\Below w.heap.size w w':=by
 have h:=zIu w ao m c l s hm hm6 he hr
 generalize placeN (l.map Ent.nm) s=PN at *
 generalize placeB (l.map Ent.nm) s=PB at *
 clear hm hr
 go_enter Tryz.func59,Tryz.ntmps59
 go_wp2_with fail
 refine h.mono ?_
 rintro e w1 ⟨rfl,hb1⟩
 go_wp2
 refine bodyPost_ret (v:=.tuple #[.int .i64 PN,.bool PB]) (by simp [results,Tryz.results59,go_sem]) rfl ?_
 exact ⟨rfl,hb1⟩
theorem zGu (w:World) (nm:ByteArray) (fo so:Option Addr) (fn fc sn sc:Nat) (vs:List Snv) (s:ByteArray) (hm:vs.length=sn) (hm6:sn<=1000) (he:snvK.Row w so vs) (hr:zAw (vs.map Snv.nm)) :
 Calls Tryz.prog 63 #[.agg #[.string nm,.slice fo fn fc,.slice so sn sc],.string s] w fun e w'=>e=.returned (.tuple #[.int .i64 (placeN (vs.map Snv.nm) s),.bool (placeB (vs.map Snv.nm) s)])/\Below w.heap.size w w':=by
 have hb0:=bA0 w (.cells #[.string nm,.slice fo fn fc,.slice so sn sc] 47)
 have h:=zIk (w.alloc (.cells #[.string nm,.slice fo fn fc,.slice so sn sc] 47)) so sn sc vs s hm hm6 (he.mono hb0) hr
 generalize placeN (vs.map Snv.nm) s=PN at *
 generalize placeB (vs.map Snv.nm) s=PB at *
 clear hm hr
 go_enter Tryz.func63,Tryz.ntmps63
 go_wp2_with fail
 refine h.mono ?_
 rintro e w1 ⟨rfl,hb1⟩
 have hb2:=zAd hb0 hb1
 go_wp2
 refine bodyPost_ret (v:=.tuple #[.int .i64 PN,.bool PB]) (by simp [results,Tryz.results63,go_sem]) rfl ?_
 exact ⟨rfl,hb2⟩
end Go.Proofs.YtfmgdjgedhnmeaaGreat
