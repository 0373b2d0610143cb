/- Rows of sets and of tenants: Clone, Insert, Delete; a set's place. -/
import Derived.Test.YtfmgdjgedhnmeaaGreatPoolRow
import Derived.Test.YtfmgdjgedhnmeaaGreatPlace
import Derived.Lib.SliceRun
import Derived.Lib.Overlaps
import Derived.Shelf.Spec.SlicesInsert
namespace Go.Proofs.YtfmgdjgedhnmeaaGreat
open Go.RowKit
set_option linter.unusedVariables false
set_option linter.unusedSimpArgs false
theorem zI0:(Tryz.prog.info? 47).map (fun i=>(i.zero,i.size,i.bytes))=some (some (.agg #[.string ⟨#[]⟩,.slice none 0 0,.slice none 0 0]),3,64):=by kernel_rfl
theorem zHx:(.agg #[.string ⟨#[]⟩,.slice none 0 0,.slice none 0 0]:Value).cells=(stvK.cells stvK.zero).toArray:=by simp [Value.cells,stvK]
set_option maxRecDepth 100000 in
theorem zJX (w:World) (ao:Option Addr) (m c:Nat) (l:List Stv) (hm:l.length=m) (he:stvK.Row w ao l) (hc:Capd ao m c) (hl:m<=1000000) :
 Calls Tryz.prog 29 #[.slice ao m c] w fun e w'=>∃ v,e=.returned v/\stvK.Own w' w.heap.size v l/\Below w.heap.size w w':=by
 have hn:=fun w a n c=>zNN (P:=Tryz.prog) w 40 47 a n c 0 0 Tryz.underlying40
 cases ao with
 | none=>
  obtain rfl:=hc.2 rfl
  obtain rfl:m=0:=by have:=hc.1;omega
  obtain rfl:l=[]:=zMv hm
  clear hc hl hm
  go_enter Tryz.func29,Tryz.ntmps29
  go_wp2
  go_ret
  exact ⟨_,rfl,.inl ⟨rfl,rfl⟩,zMy _ _⟩
 | some a=>
  have hb0:=bA0 w (.cells #[] 47)
  have hz:(w.alloc (.cells #[] 47)).heap.size=w.heap.size+1:=by simp
  obtain ⟨i0,hi,hz0,hz1,hz2⟩:=info_parts zI0
  have HM:=lH hm
  have HL:=lH hl
  rcases zMJ m with h0 | h0
  . subst h0
    obtain rfl:l=[]:=zMv hm
    have p0:=heap_alloc_new w (.cells #[] 47)
    have hrun:=fun ty=>zCa (P:=Tryz.prog) (w.alloc (.cells #[] 47)) 40 ty 47 i0 Tryz.underlying40 hi w.heap.size 0 c a
    clear hl hm hz hz2 hz0 hz1 hi hc he
    obtain ⟨b,o,sp⟩:=a
    go_enter Tryz.func29,Tryz.ntmps29
    go_wp2_with (at_builtin;refine zA6 rfl (.tmp 5) (.tmp 6) _ _ rfl rfl rfl hrun ?_)
    go_ret
    exact ⟨_,rfl,.inr ⟨_,0,[],rfl,zMs _,rfl,p0⟩,hb0⟩
  . obtain ⟨b,o,ha,-,hcl⟩:=Kind.Row.at (he.mono hb0) (by omega)
    obtain rfl:a=⟨b,o,none⟩:=by simpa using ha
    have hrun:∃ cap sp,(∀ ty,(Builtin.append_ #[40,40] ty #[.slice (some ⟨w.heap.size,0,none⟩) 0 0,.slice (some ⟨b,o,none⟩) m c]).run Tryz.prog (w.alloc (.cells #[] 47))=.ok (.slice (some ⟨(w.alloc (.cells #[] 47)).heap.size,0,none⟩) m cap) ((w.alloc (.cells #[] 47)).drew.alloc (.cells (stvK.all (l++sp)).toArray 47)))/\cap=l.length+sp.length:=by
     obtain ⟨cap,sp,h1,h2⟩:=Kind.run_clone (K:=stvK) (P:=Tryz.prog) (w.alloc (.cells #[] 47)) 40 40 i0 _ 64 Tryz.underlying40 hi hz0 hz1 hz2 zHx w.heap.size b o c l (by omega) (by have:=HL.out;have:=HM.out;omega) (by have:=HL.out;have:=HM.out;omega) hcl
     rw [hm] at h1
     exact ⟨cap,sp,fun ty=>h1,h2⟩
    obtain ⟨cap,sp,hrun,hcap⟩:=hrun
    have hq:((w.alloc (.cells #[] 47)).drew.alloc (.cells (stvK.all (l++sp)).toArray 47)).heap[w.heap.size+1]?=some (.cells (stvK.all (l++sp)).toArray 47 (0,0)):=by
     have:=heap_alloc_new ((w.alloc (.cells #[] 47)).drew) (.cells (stvK.all (l++sp)).toArray 47)
     rw [show (w.alloc (.cells #[] 47)).drew.heap.size=w.heap.size+1 from hz] at this
     exact this
    have hb:Below w.heap.size w ((w.alloc (.cells #[] 47)).drew.alloc (.cells (stvK.all (l++sp)).toArray 47)):=hb0.drew.alloc (by show w.heap.size<=(w.alloc (.cells #[] 47)).heap.size;omega) _
    have HCAP:=lH hcap
    rw [hz] at hrun
    clear hl hm hz hz2 hz0 hz1 hi hc he hcl hcap
    go_enter Tryz.func29,Tryz.ntmps29
    go_wp2_with (at_builtin;refine zA6 rfl (.tmp 5) (.tmp 6) _ _ rfl rfl rfl hrun ?_)
    go_ret
    exact ⟨.slice (some ⟨w.heap.size+1,0,none⟩) m cap,rfl,.inr ⟨w.heap.size+1,cap,sp,by rw [HM.out],zOm _ _,HCAP.out,hq⟩,hb⟩
theorem info_tnv:(Tryz.prog.info? 42).map (fun i=>(i.zero,i.size,i.bytes))=some (some (.agg #[.int .i64 0,.int .i64 0,.slice none 0 0]),3,40):=by kernel_rfl
theorem zKC:(.agg #[.int .i64 0,.int .i64 0,.slice none 0 0]:Value).cells=(tnvK.cells tnvK.zero).toArray:=by simp [Value.cells,tnvK]
set_option maxRecDepth 100000 in
theorem zJU (w:World) (ao:Option Addr) (m c:Nat) (l:List Tnv) (hm:l.length=m) (he:tnvK.Row w ao l) (hc:Capd ao m c) (hl:m<=1000000) :
 Calls Tryz.prog 28 #[.slice ao m c] w fun e w'=>∃ v,e=.returned v/\tnvK.Own w' w.heap.size v l/\Below w.heap.size w w':=by
 have hn:=fun w a n c=>zNN (P:=Tryz.prog) w 25 42 a n c 0 0 Tryz.underlying25
 cases ao with
 | none=>
  obtain rfl:=hc.2 rfl
  obtain rfl:m=0:=by have:=hc.1;omega
  obtain rfl:l=[]:=zMv hm
  clear hc hl hm
  go_enter Tryz.func28,Tryz.ntmps28
  go_wp2
  go_ret
  exact ⟨_,rfl,.inl ⟨rfl,rfl⟩,zMy _ _⟩
 | some a=>
  have hb0:=bA0 w (.cells #[] 42)
  have hz:(w.alloc (.cells #[] 42)).heap.size=w.heap.size+1:=by simp
  obtain ⟨i0,hi,hz0,hz1,hz2⟩:=info_parts info_tnv
  have HM:=lH hm
  have HL:=lH hl
  rcases zMJ m with h0 | h0
  . subst h0
    obtain rfl:l=[]:=zMv hm
    have p0:=heap_alloc_new w (.cells #[] 42)
    have hrun:=fun ty=>zCa (P:=Tryz.prog) (w.alloc (.cells #[] 42)) 25 ty 42 i0 Tryz.underlying25 hi w.heap.size 0 c a
    clear hl hm hz hz2 hz0 hz1 hi hc he
    obtain ⟨b,o,sp⟩:=a
    go_enter Tryz.func28,Tryz.ntmps28
    go_wp2_with (at_builtin;refine zA6 rfl (.tmp 5) (.tmp 6) _ _ rfl rfl rfl hrun ?_)
    go_ret
    exact ⟨_,rfl,.inr ⟨_,0,[],rfl,zMs _,rfl,p0⟩,hb0⟩
  . obtain ⟨b,o,ha,-,hcl⟩:=Kind.Row.at (he.mono hb0) (by omega)
    obtain rfl:a=⟨b,o,none⟩:=by simpa using ha
    have hrun:∃ cap sp,(∀ ty,(Builtin.append_ #[25,25] ty #[.slice (some ⟨w.heap.size,0,none⟩) 0 0,.slice (some ⟨b,o,none⟩) m c]).run Tryz.prog (w.alloc (.cells #[] 42))=.ok (.slice (some ⟨(w.alloc (.cells #[] 42)).heap.size,0,none⟩) m cap) ((w.alloc (.cells #[] 42)).drew.alloc (.cells (tnvK.all (l++sp)).toArray 42)))/\cap=l.length+sp.length:=by
     obtain ⟨cap,sp,h1,h2⟩:=Kind.run_clone (K:=tnvK) (P:=Tryz.prog) (w.alloc (.cells #[] 42)) 25 25 i0 _ 40 Tryz.underlying25 hi hz0 hz1 hz2 zKC w.heap.size b o c l (by omega) (by have:=HL.out;have:=HM.out;omega) (by have:=HL.out;have:=HM.out;omega) hcl
     rw [hm] at h1
     exact ⟨cap,sp,fun ty=>h1,h2⟩
    obtain ⟨cap,sp,hrun,hcap⟩:=hrun
    have hq:((w.alloc (.cells #[] 42)).drew.alloc (.cells (tnvK.all (l++sp)).toArray 42)).heap[w.heap.size+1]?=some (.cells (tnvK.all (l++sp)).toArray 42 (0,0)):=by
     have:=heap_alloc_new ((w.alloc (.cells #[] 42)).drew) (.cells (tnvK.all (l++sp)).toArray 42)
     rw [show (w.alloc (.cells #[] 42)).drew.heap.size=w.heap.size+1 from hz] at this
     exact this
    have hb:Below w.heap.size w ((w.alloc (.cells #[] 42)).drew.alloc (.cells (tnvK.all (l++sp)).toArray 42)):=hb0.drew.alloc (by show w.heap.size<=(w.alloc (.cells #[] 42)).heap.size;omega) _
    have HCAP:=lH hcap
    rw [hz] at hrun
    clear hl hm hz hz2 hz0 hz1 hi hc he hcl hcap
    go_enter Tryz.func28,Tryz.ntmps28
    go_wp2_with (at_builtin;refine zA6 rfl (.tmp 5) (.tmp 6) _ _ rfl rfl rfl hrun ?_)
    go_ret
    exact ⟨.slice (some ⟨w.heap.size+1,0,none⟩) m cap,rfl,.inr ⟨w.heap.size+1,cap,sp,by rw [HM.out],zOm _ _,HCAP.out,hq⟩,hb⟩
theorem zGW:∃ (i0:TypeInfo) (z:Value),Tryz.prog.info? stvK.elem=some i0/\i0.zero=some z/\i0.size=stvK.k/\i0.bytes=64/\z.cells=(stvK.cells stvK.zero).toArray:=by
 obtain ⟨i0,hi,hz0,hz1,hz2⟩:=info_parts zI0
 exact ⟨i0,_,hi,hz0,hz1,hz2,zHx⟩
set_option maxRecDepth 100000 in
set_option maxHeartbeats 8000000 in
theorem zHX (w:World) (base:Nat) (ao:Option Addr) (m c i vb:Nat) (l:List Stv) (x:Stv) (hm:l.length=m) (hm6:m<=1000) (hi:i<=m) (ho:stvK.Own w base (.slice ao m c) l) (hbs:base<=w.heap.size)
 (hv:w.heap[vb]?=some (.cells (stvK.cells x).toArray 47 (0,0))) (hvb:ao≠some ⟨vb,0,none⟩) :
 Calls Tryz.prog 55 #[.slice ao m c,.int .i64 i,.slice (some ⟨vb,0,none⟩) 1 1] w fun e w'=>zDR stvK w w' base ao l i x e:=by
 have HM:=lH hm
 obtain ⟨i0,z,hin,hz0,hsz,hby,hzc⟩:=zGW
 have hszI:(Tryz.prog.info? stvK.elem).map (·.size)=some stvK.k:=by rw [hin,zNx,hsz]
 have hm1:(m:Int)<=1000:=by omega
 have hw1:IntKind.i64.wrap ((i:Int)+1)=(i:Int)+1:=by rw [IntKind.wrap_i64];omega
 rcases zOw hi with hlt | rfl
 . -- not at the end
   have h1:(i:Int)<m:=by omega
   have h2:¬ (i:Int)=m:=by omega
   have h3:((i:Int)==m)=false:=by rw [beq_eq_false_iff_ne];exact h2
   rcases ho with ⟨rfl,_⟩ | ⟨g,cap,sp,hsl,hgb,hcap,hh⟩
   . simp at hm;omega
   simp only [Value.slice.injEq] at hsl
   obtain ⟨rfl,-,rfl⟩:=hsl
   rw [hm] at hcap
   have lg:=zAb hh
   have lv:=zAb hv
   have hne:vb≠g:=fun e=>hvb (by rw [e])
   rcases zMJ sp.length with hs0 | hs0
   . -- no room
     obtain rfl:sp=[]:=zMv hs0
     obtain rfl:c=m:=by simpa using hcap
     rw [zNW] at hh
     have hcells:∀ j v,(stvK.all l)[j]?=some v->w.cell? ⟨g,j,none⟩=some v:=fun j v hj=>by rw [zAa hh,zMC];exact hj
     obtain ⟨cap',zs,hrun,hcz,hzl⟩:=Kind.grow_zeros (K:=stvK) (P:=Tryz.prog) w 40 3 40 i0 z 64 Tryz.underlying40 Tryz.underlying3 hin hz0 hsz hby hzc g i (c+1 - i) c l (by omega) (by omega) (by omega) (by omega) (by omega) hcells
     have hk1:((c+1 - i:Nat):Int)=(c:Int)+1 - i:=by omega
     rw [hk1,show i+(c+1 - i)=c+1 from by omega] at hrun
     have hrun':∀ ty,(Builtin.append_ #[40,3] ty #[.slice (some ⟨g,0,none⟩) i c,.int .i64 ((c:Int)+1 - i)]).run Tryz.prog w=.ok (.slice (some ⟨w.heap.size,0,none⟩) (c+1) cap') (w.drew.alloc (.cells (stvK.all (l.take i++zs)).toArray stvK.elem)):=fun ty=>hrun
     obtain ⟨W1,hW1⟩:∃ W1,W1=w.drew.alloc (.cells (stvK.all (l.take i++zs)).toArray stvK.elem):=⟨_,rfl⟩
     have g1:W1.heap[w.heap.size]?=some (.cells (stvK.all (l.take i++zs)).toArray stvK.elem (0,0)):=by rw [hW1];exact heap_alloc_new w.drew _
     have k1:∀ b,b<w.heap.size->W1.heap[b]?=w.heap[b]?:=fun b hb=>by rw [hW1];exact heap_alloc_old w.drew _ hb
     have s1:W1.heap.size=w.heap.size+1:=by rw [hW1];simp
     have d1:W1.os=w.os/\W1.tape=w.tape/\W1.output=w.output:=by rw [hW1];exact ⟨rfl,rfl,rfl⟩
     rw [<- hW1] at hrun'
     have hv1:=(k1 _ lv).trans hv
     have hL1:(l.take i++zs).length=cap':=by rw [zMG,zMI];omega
     have hcp1:=fun ty=>Kind.run_copy (K:=stvK) (P:=Tryz.prog) W1 40 ty Tryz.underlying40 hszI w.heap.size i (c+1 - i) (cap' - i) 1 1 ⟨vb,0,none⟩ stvK.elem (l.take i++zs) [x] g1 (by show 1=Nat.min 1 (c+1 - i);exact (zNb (by omega)).symm) (by rw [hL1];show i+1<=cap';omega) (fun j v hj=>by rw [zAR,zML,zAa hv1,zMC,<- Kind.all_one_elem];exact hj)
     obtain ⟨W2,hW2⟩:∃ W2,W2=W1.setCells w.heap.size (i*stvK.k) (stvK.all [x]):=⟨_,rfl⟩
     have g2:W2.heap[w.heap.size]?=some (.cells (stvK.all (Go.splice (l.take i++zs) i [x])).toArray stvK.elem (0,0)):=by rw [hW2];exact Kind.setCells g1 i [x] (by rw [hL1];show i+1<=cap';omega)
     have k2:∀ b,b<w.heap.size->W2.heap[b]?=w.heap[b]?:=fun b hb=>by rw [hW2,zAl _ _ _ (by omega)];exact k1 b hb
     have s2:W2.heap.size=w.heap.size+1:=by rw [hW2,zAn];exact s1
     have d2:W2.os=w.os/\W2.tape=w.tape/\W2.output=w.output:=by rw [hW2];obtain ⟨a,b,c⟩:=zAo W1 w.heap.size (stvK.all [x]) (i*stvK.k);rw [a,b,c];exact d1
     rw [<- hW2] at hcp1
     have hL2:(Go.splice (l.take i++zs) i [x]).length=cap':=by rw [length_splice _ _ _ (by rw [hL1];show i+1<=cap';omega)];exact hL1
     have hh2:=(k2 _ lg).trans hh
     have hcp2:=fun ty=>Kind.run_copy (K:=stvK) (P:=Tryz.prog) W2.drew 40 ty Tryz.underlying40 hszI w.heap.size (i+1) (c+1 - (i+1)) (cap' - (i+1)) (c - i) (c - i) ⟨g,i*stvK.k,none⟩ stvK.elem (Go.splice (l.take i++zs) i [x]) (l.drop i) g2 (by rw [zMF,hm,show c+1 - (i+1)=c - i from by omega];exact (Nat.min_self _).symm) (by rw [hL2,zMF,hm];omega)
      (fun j v hj=>by
       rw [zAR]
       refine Eq.trans (b:=W2.cell? ⟨g,i*stvK.k+j,none⟩) rfl ?_
       rw [zAa hh2,zMC]
       rw [<- stvK.all_drop,zNs] at hj
       exact hj)
     obtain ⟨W3,hW3⟩:∃ W3,W3=W2.drew.setCells w.heap.size ((i+1)*stvK.k) (stvK.all (l.drop i)):=⟨_,rfl⟩
     have g3:W3.heap[w.heap.size]?=some (.cells (stvK.all (Go.splice (Go.splice (l.take i++zs) i [x]) (i+1) (l.drop i))).toArray stvK.elem (0,0)):=by rw [hW3];exact Kind.setCells (w:=W2.drew) g2 (i+1) (l.drop i) (by rw [hL2,zMF,hm];omega)
     rw [zDt l zs i x (by omega) (by rw [hm];exact hzl),hm] at g3
     have k3:∀ b,b<w.heap.size->W3.heap[b]?=w.heap[b]?:=fun b hb=>by rw [hW3,zAl _ _ _ (by omega)];exact k2 b hb
     have s3:W3.heap.size=w.heap.size+1:=by rw [hW3,zAn];exact s2
     have d3:W3.os=w.os/\W3.tape=w.tape/\W3.output=w.output:=by rw [hW3];obtain ⟨a,b,c⟩:=zAo W2.drew w.heap.size (stvK.all (l.drop i)) ((i+1)*stvK.k);rw [a,b,c];exact d2
     rw [<- hW3] at hcp2
     have hFIN:=lH (zEj (cap:=cap') (ao:=some ⟨g,0,none⟩) hm hi hbs (by omega) k3 d3 g3 (by rw [zMF];omega))
     have e1:¬ (cap'=i):=by omega
     have e2:¬ (cap'=i+1):=by omega
     have e2a:¬ ((cap':Int)=(i:Int)+1):=by omega
     have e2b:¬ ((i:Int)+1=(cap':Int)):=by omega
     have e2c:(i:Int)<=c:=by omega
     have e2d:(i:Int)+1<=cap':=by omega
     have e2e:(c:Int)+1<=cap':=by omega
     have e3:¬ (c=i):=by omega
     have e4:(i:Int)<=(c:Int)+1:=by omega
     have e5:(0:Int)<=(i:Int)+1:=by omega
     have e6:((i:Int)+1).toNat=i+1:=by omega
     have e7:(i:Int)+1<=(c:Int)+1:=by omega
     have e8:i<=c:=by omega
     have e10:(c:Int)<(c:Int)+1:=by omega
     have HCP1:∀ ty,(Builtin.copy_ #[40,40] ty #[.slice (some ⟨w.heap.size,i*3,none⟩) (c+1 - i) (cap' - i),.slice (some ⟨vb,0,none⟩) 1 1]).run Tryz.prog W1=.ok (goInt 1) W2:=hcp1
     have HCP2:∀ ty,(Builtin.copy_ #[40,40] ty #[.slice (some ⟨w.heap.size,(i+1)*3,none⟩) (c+1 - (i+1)) (cap' - (i+1)),.slice (some ⟨g,i*3,none⟩) (c - i) (c - i)]).run Tryz.prog W2.drew=.ok (goInt (l.drop i).length) W3:=hcp2
     clear hcp1 hcp2 g1 g2 g3 k1 k2 k3 s1 s2 s3 d1 d2 d3 hL1 hL2 hh2 hv1 hcells hrun hW1 hW2 hW3 hzl hcz hk1 hcap hs0 hm6 hm hh hv hzc hby hsz hz0 hin hszI lg lv
     go_enter Tryz.func55,Tryz.ntmps55
     go_wp2_with (first
      | (at_builtin;refine zA6 rfl (.tmp 34) (.tmp 39) _ _ rfl rfl rfl hrun' ?_)
      | (at_builtin;refine wpList_copy_runI _ rfl (.tmp 43) (.tmp 44) _ _ rfl _ _ rfl rfl (HCP1 _) ?_))
     go_region_law (refine step_copy_runI rfl _ _ 40 40 rfl _ _ (by simp [Act.eval,Act.put]) (by simp [Act.eval,Act.put]) (HCP2 _) ?_)
     go_wp2
     go_ret
     exact hFIN.out
   . -- there is room
     have hLs:(l++sp).length=c:=by rw [zMG];omega
     have hcp1:=fun ty=>Kind.run_copy (K:=stvK) (P:=Tryz.prog) w.drew 40 ty Tryz.underlying40 hszI g (i+1) (m+1 - (i+1)) (c - (i+1)) (m+1 - i) (c - i) ⟨g,i*stvK.k,none⟩ stvK.elem (l++sp) (l.drop i) hh (by rw [zMF,hm];show m - i=Nat.min (m+1 - i) (m+1 - (i+1));rw [show m+1 - (i+1)=m - i from by omega];exact (Nat.min_eq_right (by omega)).symm) (by rw [hLs,zMF,hm];omega)
      (fun j v hj=>by
       rw [zAR]
       refine Eq.trans (b:=w.cell? ⟨g,i*stvK.k+j,none⟩) rfl ?_
       rw [zAa hh,zMC,stvK.all_append]
       rw [<- stvK.all_drop,zNs] at hj
       rw [zM4 (List.getElem?_eq_some_iff.1 hj).1]
       exact hj)
     obtain ⟨W1,hW1⟩:∃ W1,W1=w.drew.setCells g ((i+1)*stvK.k) (stvK.all (l.drop i)):=⟨_,rfl⟩
     have g1:W1.heap[g]?=some (.cells (stvK.all (Go.splice (l++sp) (i+1) (l.drop i))).toArray stvK.elem (0,0)):=by rw [hW1];exact Kind.setCells (w:=w.drew) hh (i+1) (l.drop i) (by rw [hLs,zMF,hm];omega)
     have k1:∀ b,b≠g->W1.heap[b]?=w.heap[b]?:=fun b hb=>by rw [hW1,zAl _ _ _ hb];rfl
     have s1:W1.heap.size=w.heap.size:=by rw [hW1,zAn];rfl
     have d1:W1.os=w.os/\W1.tape=w.tape/\W1.output=w.output:=by rw [hW1];exact zAo w.drew g (stvK.all (l.drop i)) ((i+1)*stvK.k)
     rw [<- hW1] at hcp1
     have hL1:(Go.splice (l++sp) (i+1) (l.drop i)).length=c:=by rw [length_splice _ _ _ (by rw [hLs,zMF,hm];omega)];exact hLs
     have hv1:=(k1 _ hne).trans hv
     have hcp2:=fun ty=>Kind.run_copy (K:=stvK) (P:=Tryz.prog) W1 40 ty Tryz.underlying40 hszI g i (m+1 - i) (c - i) 1 1 ⟨vb,0,none⟩ stvK.elem (Go.splice (l++sp) (i+1) (l.drop i)) [x] g1 (by show 1=Nat.min 1 (m+1 - i);exact (zNb (by omega)).symm) (by rw [hL1];show i+1<=c;omega) (fun j v hj=>by rw [zAR,zML,zAa hv1,zMC,<- Kind.all_one_elem];exact hj)
     obtain ⟨W2,hW2⟩:∃ W2,W2=W1.setCells g (i*stvK.k) (stvK.all [x]):=⟨_,rfl⟩
     have g2:W2.heap[g]?=some (.cells (stvK.all (Go.splice (Go.splice (l++sp) (i+1) (l.drop i)) i [x])).toArray stvK.elem (0,0)):=by rw [hW2];exact Kind.setCells g1 i [x] (by rw [hL1];show i+1<=c;omega)
     rw [zEr l sp i x (by omega) hs0] at g2
     have k2:∀ b,b≠g->W2.heap[b]?=w.heap[b]?:=fun b hb=>by rw [hW2,zAl _ _ _ hb];exact k1 b hb
     have s2:W2.heap.size=w.heap.size:=by rw [hW2,zAn];exact s1
     have d2:W2.os=w.os/\W2.tape=w.tape/\W2.output=w.output:=by rw [hW2];obtain ⟨a,b,c⟩:=zAo W1 g (stvK.all [x]) (i*stvK.k);rw [a,b,c];exact d1
     rw [<- hW2] at hcp2
     have hFIN:=lH (zEd (c:=c) hm hi hgb (by omega) k2 d2 g2 (by rw [zMF];omega))
     have hov:∀ lb cb,(callFunc 71 #[.slice (some ⟨vb,0,none⟩) 1 1,.slice (some ⟨g,(i+1)*3,none⟩) lb cb]).run Tryz.prog w=.ok (.value (.bool false)) w:=fun lb cb=>by
      rw [run_callFunc_extern Tryz.func71 (by kernel_rfl) (by kernel_rfl) (by kernel_rfl) (e:=Extern.SlicesOverlaps.overlaps #[40,40] #[4]) (by kernel_rfl),
       Lib.run_overlaps_apart w 40 4 47 Tryz.underlying40 3 (fun w=>by simp [sizeOf,typeInfo,show Tryz.prog.info? 47=some i0 from hin,show i0.size=3 from hsz]) ⟨vb,0,none⟩ ⟨g,(i+1)*3,none⟩ 1 1 lb cb hne 47 47 (stvK.cells x).length (stvK.all (l++sp)).length (by simp [World.shape?,hv]) (by simp [World.shape?,hh,stvK]) (by rw [stvK.all_len,hLs];have:=stvK.pos;intro h;rcases Nat.mul_eq_zero.1 h with h | h<;>omega) (zAc hv 0) (zAc hv _)]
      rfl
     have e1:¬ (c=i+1):=by omega
     have e2a:¬ ((c:Int)=(i:Int)+1):=by omega
     have e2b:¬ ((i:Int)+1=(c:Int)):=by omega
     have e2c:(i:Int)<=m:=by omega
     have e2d:(i:Int)+1<=c:=by omega
     have e2:¬ (c=i):=by omega
     have e4:(i:Int)<=(m:Int)+1:=by omega
     have e5:(0:Int)<=(i:Int)+1:=by omega
     have e6:((i:Int)+1).toNat=i+1:=by omega
     have e7:(i:Int)+1<=(m:Int)+1:=by omega
     have e8:i<=m:=by omega
     have e10:¬ (c:Int)<(m:Int)+1:=by omega
     have e11:(m:Int)+1<=c:=by omega
     have HCP1:∀ ty,(Builtin.copy_ #[40,40] ty #[.slice (some ⟨g,(i+1)*3,none⟩) (m+1 - (i+1)) (c - (i+1)),.slice (some ⟨g,i*3,none⟩) (m+1 - i) (c - i)]).run Tryz.prog w.drew=.ok (goInt (l.drop i).length) W1:=hcp1
     have HCP2:∀ ty,(Builtin.copy_ #[40,40] ty #[.slice (some ⟨g,i*3,none⟩) (m+1 - i) (c - i),.slice (some ⟨vb,0,none⟩) 1 1]).run Tryz.prog W1=.ok (goInt 1) W2:=hcp2
     clear hcp1 hcp2 g1 g2 k1 k2 s1 s2 d1 d2 hL1 hLs hv1 hW1 hW2 hcap hm hh hv hzc hby hsz hz0 hin hszI lg lv hs0 hm6
     go_enter Tryz.func55,Tryz.ntmps55
     go_wp2_with (simp only [hov])
     go_region_law (refine step_copy_runI rfl _ _ 40 40 rfl _ _ (by simp [Act.eval,Act.put]) (by simp [Act.eval,Act.put]) (HCP1 _) ?_)
     go_wp2_with (at_builtin;refine wpList_copy_runI _ rfl _ _ _ _ rfl _ _ rfl rfl (HCP2 _) ?_)
     go_ret
     exact hFIN.out
 . -- at the end
   have h3:((i:Int)==i)=true:=by simp
   have lv:=zAb hv
   have fin:=fun (w1:World) (cap:Nat) (sp:List Stv)=>zEj (K:=stvK) (w:=w) (w1:=w1) (cap:=cap) (ao:=ao) (x:=x) (sp:=sp) hm (zMs _) hbs
   have grow:(ao=none/\i=0\/∃ g,ao=some ⟨g,0,none⟩/\∀ j v,(stvK.all l)[j]?=some v->w.cell? ⟨g,j,none⟩=some v)->c=i->
    Calls Tryz.prog 55 #[.slice ao i c,.int .i64 i,.slice (some ⟨vb,0,none⟩) 1 1] w fun e w'=>zDR stvK w w' base ao l i x e:=by
    intro hcl hci
    subst hci
    obtain ⟨cap',sp,hrun,hcz⟩:=Kind.ins_end_grow (K:=stvK) (P:=Tryz.prog) w 40 40 i0 z 64 Tryz.underlying40 hin hz0 hsz hby hzc ao c vb 1 l x 47 hm (by omega) (by omega) hcl hv
    have hrun':∀ ty,(Builtin.append_ #[40,40] ty #[.slice ao c c,.slice (some ⟨vb,0,none⟩) 1 1]).run Tryz.prog w=.ok (.slice (some ⟨w.heap.size,0,none⟩) (c+1) cap') (w.drew.alloc (.cells (stvK.all ((l++[x])++sp)).toArray stvK.elem)):=fun ty=>hrun
    have hFIN:=lH (fin (w.drew.alloc (.cells (stvK.all ((l++[x])++sp)).toArray stvK.elem)) cap' sp (by simp) (fun b hb=>heap_alloc_old w.drew _ hb) ⟨rfl,rfl,rfl⟩ (by rw [<- hm,zDg];exact heap_alloc_new w.drew _) (by omega))
    generalize w.drew.alloc (.cells (stvK.all ((l++[x])++sp)).toArray stvK.elem)=W1 at *
    clear fin hcl hm hv hzc hby hsz hz0 hin hszI lv hm6 ho hcz hrun
    rcases ao with _ | ⟨ab,aoo,asp⟩
    all_goals
     go_enter Tryz.func55,Tryz.ntmps55
     go_wp2_with (at_builtin;refine zA6 rfl (.tmp 23) (.tmp 24) _ _ rfl rfl rfl hrun' ?_)
     go_ret
     exact hFIN.out
   rcases ho with ⟨rfl,hsl⟩ | ⟨g,cap,sp,hsl,hgb,hcap,hh⟩
   . simp only [Value.slice.injEq] at hsl
     exact grow (.inl ⟨hsl.1,hsl.2.1⟩) (by omega)
   . simp only [Value.slice.injEq] at hsl
     obtain ⟨rfl,-,rfl⟩:=hsl
     rcases zMJ sp.length with hs0 | hs0
     . refine grow (.inr ⟨g,rfl,fun j v hj=>?_⟩) (by omega)
       rw [zAa hh,zMC,stvK.all_append,zM4 (List.getElem?_eq_some_iff.1 hj).1]
       exact hj
     . clear grow fin
       obtain ⟨hrun,g1⟩:=Kind.ins_end_room (K:=stvK) (P:=Tryz.prog) w 40 40 i0 Tryz.underlying40 hin hsz g i c vb 1 l sp x 47 hm hs0 (by omega) hh hv
       have hrun':∀ ty,(Builtin.append_ #[40,40] ty #[.slice (some ⟨g,0,none⟩) i c,.slice (some ⟨vb,0,none⟩) 1 1]).run Tryz.prog w=.ok (.slice (some ⟨g,0,none⟩) (i+1) c) (w.setCells g (i*stvK.k) (stvK.all [x])):=fun ty=>hrun
       have hFIN:=lH (zEd (c:=c) (w1:=w.setCells g (i*stvK.k) (stvK.all [x])) (x:=x) hm (zMs _) hgb (by rw [zAn];exact zMs _) (fun b hb=>zAl _ _ _ hb) (zAo _ _ _ _) (by rw [<- hm] at g1 ⊢;rw [zDg];exact g1) (by rw [zMF];omega))
       have hcc:¬ (c=i):=by omega
       generalize w.setCells g (i*stvK.k) (stvK.all [x])=W1 at *
       clear hm hv hzc hby hsz hz0 hin hszI lv hm6 hcap hh g1 hrun
       go_enter Tryz.func55,Tryz.ntmps55
       go_wp2_with (at_builtin;refine zA6 rfl (.tmp 23) (.tmp 24) _ _ rfl rfl rfl hrun' ?_)
       go_ret
       exact hFIN.out
set_option maxRecDepth 100000 in
set_option maxHeartbeats 8000000 in
theorem zIv (w:World) (base:Nat) (ao:Option Addr) (p c i:Nat) (l:List Stv) (hm:l.length=p+1) (hm6:p<=1000) (hi:i<=p) (ho:stvK.Own w base (.slice ao (p+1) c) l) :
 Calls Tryz.prog 35 #[.slice ao (p+1) c,.int .i64 i,.int .i64 ((i:Int)+1)] w fun e w'=>e=.returned (.slice ao p c)/\stvK.Own w' base (.slice ao p c) (l.eraseIdx i)/\Below base w w'/\∀ b,b<w.heap.size->ao≠some ⟨b,0,none⟩->w'.heap[b]?=w.heap[b]?:=by
 obtain ⟨i0,z,hin,hz0,hsz,hby,hzc⟩:=zGW
 rcases ho with ⟨rfl,_⟩ | ⟨g,cap,sp,hsl,hgb,hcap,hh⟩
 . simp at hm
 simp only [Value.slice.injEq] at hsl
 obtain ⟨rfl,-,rfl⟩:=hsl
 rw [hm] at hcap
 have hls:(l++sp).length=c:=by rw [zMG];omega
 have hnl:(l.drop (i+1)).length=p - i:=by rw [zMF];omega
 obtain ⟨Aq,hA,hsrc⟩:∃ Aq:Addr,(if c=i+1 then (some (⟨g,0,none⟩:Addr)) else some ⟨g,(i+1)*3,none⟩)=some Aq/\Hid (∀ t u,(stvK.all (l.drop (i+1)))[t]?=some u->w.drew.cell? (Aq.add t)=some u):=by
  by_cases hc:c=i+1
  . refine ⟨⟨g,0,none⟩,by simp [hc],lH fun t u hu=>?_⟩
    have h0:l.drop (i+1)=[]:=zMv (by rw [hnl];omega)
    rw [h0] at hu
    simp [Kind.all] at hu
  . refine ⟨⟨g,(i+1)*3,none⟩,by simp [hc],lH fun t u hu=>?_⟩
    rw [zAR]
    refine Eq.trans (b:=w.cell? ⟨g,(i+1)*stvK.k+t,none⟩) rfl ?_
    rw [zAa hh,zMC,stvK.all_append]
    rw [<- stvK.all_drop,zNs] at hu
    rw [zM4 (List.getElem?_eq_some_iff.1 hu).1]
    exact hu
 have s1:Hid ((stvK.all (l.drop (i+1))).length=(p - i)*3):=lH (by rw [stvK.all_len,hnl];rfl)
 have s2:Hid (∀ u∈stvK.all (l.drop (i+1)),u.oneCell'=true):=lH (stvK.all_one _)
 have s3:Hid (∀ t,t<(stvK.all (l.drop (i+1))).length->(w.drew.cell? ⟨g,0+i*3+t,none⟩).isSome=true/\w.drew.frozen? ⟨g,0+i*3+t,none⟩=false):=lH fun t ht=>by
  rw [s1.out] at ht
  refine ⟨Kind.isCell (K:=stvK) (w:=w.drew) hh _ ?_,zAc (w:=w.drew) hh _⟩
  show 0+i*3+t<(l++sp).length*3
  rw [hls]
  omega
 obtain ⟨W1,hW1⟩:∃ W1,W1=w.drew.setCells g (0+i*3) (stvK.all (l.drop (i+1))):=⟨_,rfl⟩
 have HW1:=lH hW1
 have g1:W1.heap[g]?=some (.cells (stvK.all (Go.splice (l++sp) i (l.drop (i+1)))).toArray stvK.elem (0,0)):=by
  rw [hW1,zML]
  exact Kind.setCells (K:=stvK) (w:=w.drew) hh i (l.drop (i+1)) (by rw [hls,hnl];omega)
 have k1:∀ b,b≠g->W1.heap[b]?=w.heap[b]?:=fun b hb=>by rw [hW1,zAl _ _ _ hb];rfl
 have z1:W1.heap.size=w.heap.size:=by rw [hW1,zAn];rfl
 have d1:W1.os=w.os/\W1.tape=w.tape/\W1.output=w.output:=by rw [hW1];exact zAo w.drew g _ _
 have hL1:(Go.splice (l++sp) i (l.drop (i+1))).length=c:=by rw [length_splice _ _ _ (by rw [hls,hnl];omega)];exact hls
 have hcl:=fun ty=>Kind.run_clear (K:=stvK) (P:=Tryz.prog) W1 40 ty i0 z Tryz.underlying40 hin hz0 hzc g p (c - p) stvK.elem _ (by rw [hL1];omega) g1
 obtain ⟨W2,hW2⟩:∃ W2,W2=W1.setCells g (p*stvK.k) (stvK.all [stvK.zero]):=⟨_,rfl⟩
 have g2:W2.heap[g]?=some (.cells (stvK.all (l.eraseIdx i++stvK.zero::sp)).toArray stvK.elem (0,0)):=by
  rw [<- zEn l sp p i stvK.zero hm hi,hW2]
  exact Kind.setCells (K:=stvK) g1 p [stvK.zero] (by rw [hL1];show p+1<=c;omega)
 have k2:∀ b,b≠g->W2.heap[b]?=w.heap[b]?:=fun b hb=>by rw [hW2,zAl _ _ _ hb];exact k1 b hb
 have z2:W2.heap.size=w.heap.size:=by rw [hW2,zAn];exact z1
 have d2:W2.os=w.os/\W2.tape=w.tape/\W2.output=w.output:=by rw [hW2];obtain ⟨a,b,c⟩:=zAo W1 g (stvK.all [stvK.zero]) (p*stvK.k);rw [a,b,c];exact d1
 rw [<- hW2] at hcl
 have hel:(l.eraseIdx i).length=p:=by rw [zNm,if_pos (by omega)];omega
 have hFIN:Hid (stvK.Own W2 base (.slice (some ⟨g,0,none⟩) p c) (l.eraseIdx i)/\Below base w W2/\∀ b,b<w.heap.size->(some ⟨g,0,none⟩:Option Addr)≠some ⟨b,0,none⟩->W2.heap[b]?=w.heap[b]?):=
  lH ⟨.inr ⟨g,c,stvK.zero::sp,by rw [hel],hgb,by rw [hel,zMT];omega,g2⟩,⟨d2.1,d2.2.1,d2.2.2,by omega,fun b hb=>k2 b (by omega)⟩,fun b _ hb=>k2 b (fun e=>hb (by rw [e]))⟩
 have HCL:∀ ty,(Builtin.clear_ #[40] ty #[.slice (some ⟨g,p*3,none⟩) 1 (c - p)]).run Tryz.prog W1=.ok (.tuple #[]) W2:=hcl
 have hwr:IntKind.i64.wrap ((i:Int)+1)=(i:Int)+1:=by rw [IntKind.wrap_i64];omega
 have q0:((i:Int)==(i:Int)+1)=false:=by rw [beq_eq_false_iff_ne];omega
 have q1:((i:Int)+1).toNat=i+1:=by omega
 have q2:(0:Int)<=(i:Int)+1:=by omega
 have q3:(i:Int)+1<=(p:Int)+1:=by omega
 have q4:(p:Int)+1<=c:=by omega
 have q5:i<=c:=by omega
 have q6:i+(p - i)=p:=by omega
 have q7:i+(p+1 - (i+1))=p:=by omega
 have q8:¬ (c=p):=by omega
 have q9:(i:Int)<=(i:Int)+1:=by omega
 have q10:(i:Int)<=c:=by omega
 have q11:(i:Int)+1<=c:=by omega
 have q12:(p:Int)<=(p:Int)+1:=by omega
 have q13:p+1 - p=1:=by omega
 have q14:p+1 - (i+1)=p - i:=by omega
 have q15:i<=p+1:=by omega
 have hroom:i+(p - i)<=c:=by omega
 have HSZ:=lH hsz
 clear g1 g2 k1 k2 z1 z2 d1 d2 hL1 hcl hW1 hW2 hel hh hcap hls hnl hm hzc hby hz0 hsz
 go_enter Tryz.func35,Tryz.ntmps35
 go_wp2_with fail
 go_region_law (refine step_append_room rfl (.tmp 22) (.tmp 25) 40 rfl 47 i0 3 Tryz.underlying40 hin HSZ.out g 0 i c (by simp [Act.eval,Act.put]) Aq (p - i) (c - (i+1)) (stvK.all (l.drop (i+1))) (by simp [Act.eval,Act.put]) s1.out hsrc.out s2.out hroom s3.out ?_;rw [<- HW1.out])
 go_wp2
 go_ret
 exact ⟨rfl,hFIN.out⟩
theorem zJx (w:World) (x:Stv) (s:ByteArray):Calls Tryz.prog 57 #[.agg #[.string x.nm,.slice x.fo x.fn x.fc,.slice x.so x.sn x.sc],.string s] w fun e w'=>e=.returned (.int .i64 (cmpN x.nm s))/\Below w.heap.size w w':=by
 have hb0:=bA0 w (.cells #[.string x.nm,.slice x.fo x.fn x.fc,.slice x.so x.sn x.sc] 47)
 go_enter Tryz.func57,Tryz.ntmps57
 go_wp2_with (go_at_call 58;refine (zDn _ _ _).mono ?_;rintro e w' ⟨rfl,rfl⟩)
 go_ret
 exact ⟨rfl,hb0⟩
set_option maxRecDepth 100000 in
set_option maxHeartbeats 4000000 in
theorem zIH (w:World) (ao:Option Addr) (m c:Nat) (l:List Stv) (s:ByteArray) (hm:l.length=m) (hm6:m<=1000) (he:stvK.Row w ao l) (hr:zAw (l.map Stv.nm)) :
 Calls Tryz.prog 56 #[.slice ao m c,.string s,.func (.func 57) #[] #[]] w fun e w'=>e=.returned (.tuple #[.int .i64 (placeN (l.map Stv.nm) s),.bool (placeB (l.map Stv.nm) s)])/\Below w.heap.size w w':=by
 have HM:=lH hm
 have HR:=lH hr
 have hm6':(m:Int)<=1000:=by omega
 obtain ⟨PN,hPN⟩:∃ PN,placeN (l.map Stv.nm) s=PN:=⟨_,rfl⟩
 obtain ⟨PB,hPB⟩:∃ PB,placeB (l.map Stv.nm) s=PB:=⟨_,rfl⟩
 rw [hPN,hPB]
 have HPN:=lH hPN
 have HPB:=lH hPB
 clear hm hr hPN hPB
 go_enter Tryz.func56,Tryz.ntmps56
 go_wp2
 go_loopw [9,10] (fun i j wr=>∃ lo hi:Nat,i=.int .i64 lo/\j=.int .i64 hi/\lo<=hi/\hi<=m/\Below w.heap.size w wr/\
  Hid (∀ t (h:t<(l.map Stv.nm).length),t<lo->cmpN (l.map Stv.nm)[t] s<0)/\Hid (∀ t (h:t<(l.map Stv.nm).length),hi<=t->0<=cmpN (l.map Stv.nm)[t] s)) (fun i j _=>(intOf j).toNat - (intOf i).toNat)
 case atStart=>exact ⟨0,m,rfl,rfl,zMO _,zMs _,zMy _ _,lH fun t _ h=>absurd h (by omega),lH fun t h h2=>absurd h (by rw [zMA];have:=HM.out;omega)⟩
 case round=>
  obtain ⟨lo,hi,rfl,rfl,hlh,hin,hbel,I1,I2⟩:=hrel
  by_cases hlt:lo<hi
  . obtain ⟨q,hq⟩:∃ q,(lo+hi) / 2=q:=⟨_,rfl⟩
    have hqm:q<l.length:=by have:=HM.out;omega
    have hqm':q<(l.map Stv.nm).length:=by rw [zMA];exact hqm
    obtain ⟨b,o,rfl,lb0,hc⟩:=Kind.Row.at (he.mono hbel) (by omega)
    have hE:=zCW hc q hqm
    have lb:=hE.lt
    have c0:=hE.nm
    have c1:=hE.fl
    have c2:=hE.sl
    have hlow:=lH (zD0 (s:=s) HR.out q hqm')
    have hhigh:=lH (zDq (s:=s) HR.out q hqm')
    have hnm:(l.map Stv.nm)[q]=l[q].nm:=zM2 _
    rw [hnm] at hlow hhigh
    have hq1:((lo:Int)+hi) / 2=(q:Int):=by omega
    have hlt':(lo:Int)<hi:=by omega
    have hqm2:(q:Int)<m:=by have:=HM.out;omega
    have HQ:=lH hq
    have hq2:lo<=q/\q<hi:=by omega
    have HQ2:=lH hq2
    clear hE hc hq hnm hq2
    generalize l[q]=x at *
    obtain ⟨nm,fo,fn,fc,so,sn,sc⟩:=x
    simp only at c0 c1 c2 hlow hhigh
    have hcc:=zJx wr ⟨nm,fo,fn,fc,so,sn,sc⟩ s
    simp only at hcc
    by_cases hx:cmpN nm s<0
    . have I3:=lH (hlow.out hx)
      clear hlow hhigh
      generalize cmpN nm s=cc at *
      go_wp2_with fail
      refine hcc.mono ?_
      rintro e w' ⟨rfl,hb1⟩
      have hb2:=zAd hbel hb1
      clear hcc hb1
      go_wp2
      go_roundw
      case rel=>exact ⟨q+1,hi,by go_num,rfl,by have:=HQ2.out;omega,hin,hb2,I3,I2⟩
      case measure=>simp [intOf];have:=HQ2.out;omega
    . have I3:=lH (hhigh.out hx)
      clear hlow hhigh
      generalize cmpN nm s=cc at *
      go_wp2_with fail
      refine hcc.mono ?_
      rintro e w' ⟨rfl,hb1⟩
      have hb2:=zAd hbel hb1
      clear hcc hb1
      go_wp2
      go_roundw
      case rel=>exact ⟨lo,q,rfl,by go_num,by have:=HQ2.out;omega,by have:=HQ2.out;omega,hb2,I1,I3⟩
      case measure=>simp [intOf];have:=HQ2.out;omega
  . obtain rfl:lo=hi:=by omega
    have hlt':¬ (lo:Int)<lo:=by omega
    obtain ⟨e1,e2,e3⟩:=zEh HR.out lo (by rw [zMA];have:=HM.out;omega) I1.out I2.out
    by_cases hn:lo<m
    . have hql:lo<l.length:=by have:=HM.out;omega
      have e4:=e2 (by rw [zMA];exact hql)
      rw [zM2] at e4
      have hn':(lo:Int)<m:=by omega
      have hd:decide ((lo:Int)<m)=true:=decide_eq_true hn'
      have hd2:decide (lo<m)=true:=decide_eq_true hn
      obtain ⟨b,o,rfl,lb0,hc⟩:=Kind.Row.at (he.mono hbel) (by omega)
      have hE:=zCW hc lo hql
      have lb:=hE.lt
      have c0:=hE.nm
      have c1:=hE.fl
      have c2:=hE.sl
      have F1:Hid (PN=lo):=lH (HPN.out.symm.trans e1)
      have F2:Hid (PB=decide (cmpN l[lo].nm s=0)):=lH (HPB.out.symm.trans e4)
      clear hE hc e1 e2 e3 e4
      generalize l[lo]=x at *
      obtain ⟨nm,fo,fn,fc,so,sn,sc⟩:=x
      simp only at c0 c1 c2 F2
      have hcc:=zJx wr ⟨nm,fo,fn,fc,so,sn,sc⟩ s
      simp only at hcc
      generalize cmpN nm s=cc at *
      by_cases hz:cc=0
      all_goals
       go_wp2_with fail
       refine hcc.mono ?_
       rintro e w' ⟨rfl,hb1⟩
       have hb2:=zAd hbel hb1
       clear hcc hb1
       go_wp2
       refine bodyPost_ret (v:=.tuple #[.int .i64 lo,.bool (decide (cc=0))]) (by simp [results,Tryz.results56,go_sem,hz]) rfl ?_
       rw [F1.out,F2.out]
       exact ⟨rfl,hb2⟩
    . have F1:Hid (PN=lo):=lH (HPN.out.symm.trans e1)
      have F2:Hid (PB=false):=lH (HPB.out.symm.trans (e3 (by rw [zMA];have:=HM.out;omega)))
      have hn':¬ (lo:Int)<m:=by omega
      have hd:decide ((lo:Int)<m)=false:=decide_eq_false hn'
      have hd2:decide (lo<m)=false:=decide_eq_false hn
      clear e1 e2 e3
      go_wp2
      refine bodyPost_ret (v:=.tuple #[.int .i64 lo,.bool false]) (by simp [results,Tryz.results56,go_sem]) rfl ?_
      rw [F1.out,F2.out]
      exact ⟨rfl,hbel⟩
end Go.Proofs.YtfmgdjgedhnmeaaGreat
