/- A map of what was seen. · store.Reach: all that is below some blocks. -/
import Derived.Maps.OwnOps
import Derived.Maps.OwnSet
import Derived.Laws.EntriesVeiled
import Derived.Test.YtfmgdjgedhnmeaaGreatBackQ
import Derived.Test.YtfmgdjgedhnmeaaGreatPut
import Derived.Test.YtfmgdjgedhnmeaaGreatOutside
import Derived.Test.YtfmgdjgedhnmeaaGreatTreeGet
namespace Go.Proofs.YtfmgdjgedhnmeaaGreat
open Go.RowKit
set_option linter.unusedVariables false
set_option linter.unusedSimpArgs false
theorem zGS:Maps.Keyed Tryz.prog 3:=Maps.int_keyed (q:=.i64) Tryz.underlying3
theorem zKz (w:World):(zeroValue 4).run Tryz.prog w=.ok (.bool false) w:=by
 have h:(Tryz.prog.info? 4).map (fun i=>i.zero)=some (some (.bool false)):=by kernel_rfl
 cases e:Tryz.prog.info? 4 with
 | none=>rw [e] at h;cases h
 | some i=>
  rw [e] at h
  simp only [zNx,zMz] at h
  simp [zeroValue,typeInfo,e,h]
theorem zDS {H:Type} {P:Program} {e:TypeId} (he:P.underlying e=some .bool) {v:Value} {z:DataW H×List MemPlace} (h:plainElem P e v=some z):∃ a,v=.bool a/\z=(.lit (.bool a),[]):=by
 unfold plainElem at h
 rw [he] at h
 cases v<;>simp at h
 subst h
 exact ⟨_,rfl,rfl⟩
theorem wf_i64 {x:Int} (h:I64 x):(Lit.int .i64 x).wf=true:=by
 unfold I64 at h
 simp [Lit.wf,IntKind.min,IntKind.max,IntKind.signed,IntKind.bits]
 omega
def zAB (w:World) (b:Nat) (S:List Int):Prop:=
 ∃ D:DataW Unit,w.ownsMap Tryz.prog 3 (plainElem Tryz.prog 4) b S.length D/\Maps.IsMap D/\∀ x,I64 x->D.atKey (.int .i64 x) (.lit (.bool false))=.lit (.bool (decide (x∈S)))
theorem zAB.lt {w:World} {b:Nat} {S:List Int} (h:zAB w b S):b<w.heap.size:=by
 obtain ⟨D,h1,_⟩:=h
 exact h1.lt
theorem zAB.made (w:World):zAB (w.alloc (.map #[] 0)) w.heap.size []:=⟨.map [],World.ownsMap_made w _ _ _,⟨_,rfl⟩,fun x _=>by simp [DataW.atKey]⟩
theorem zAB.keep {w w':World} {b:Nat} {S:List Int} (h:zAB w b S) (hb:w'.heap[b]?=w.heap[b]?):zAB w' b S:=by
 obtain ⟨D,⟨es,clock,h1,h2⟩,h3⟩:=h
 exact ⟨D,⟨es,clock,hb.trans h1,h2⟩,h3⟩
theorem zAB.mono {w w':World} {b:Nat} {S:List Int} (h:zAB w b S) (hb:Below w.heap.size w w'):zAB w' b S:=h.keep (hb.block b h.lt)
theorem zAB.look {w:World} {b:Nat} {S:List Int} (h:zAB w b S) (x:Int) (hx:I64 x) :
 (Instr.lookup 104 (.map (some b)) (.int .i64 x) false).run Tryz.prog w=.ok (.bool (decide (x∈S))) w:=by
 obtain ⟨D,h1,_,h3⟩:=h
 obtain ⟨v,ps,hrun,hv⟩:=h1.lookup zGS Tryz.underlying104 (zKz w) (Go.plainElem_bool Tryz.underlying4 false) (Maps.keyOf_int_mk Tryz.underlying3 (wf_i64 hx))
 obtain ⟨a,rfl,hz⟩:=zDS Tryz.underlying4 hv
 rw [h3 x hx] at hz
 simp only [zOc,DataW.lit.injEq,Lit.bool.injEq] at hz
 rw [hrun,hz.1]
theorem zAB.store {w:World} {b:Nat} {S:List Int} (h:zAB w b S) (x:Int) (hx:I64 x) (hs:S.length<maxLen) :
 ∃ w',(Instr.mapUpdate 104 (.map (some b)) (.int .i64 x) (.bool true)).run Tryz.prog w=.ok () w'/\zAB w' b (S++[x])/\w.grownBy w' (some b):=by
 obtain ⟨D,h1,h2,h3⟩:=h
 obtain ⟨w',hrun,ho,hg⟩:=h1.update zGS Tryz.underlying104 hs (Maps.keyOf_int_mk Tryz.underlying3 (wf_i64 hx)) (Go.plainElem_bool Tryz.underlying4 true)
 refine ⟨w',hrun,⟨_,by rw [zMG];exact ho,h2.put _ _,fun y hy=>?_⟩,hg⟩
 by_cases e:y=x
 . subst e
   rw [Maps.atKey_put_same h2 (by trivial)]
   simp
 . rw [Maps.atKey_put_other (by simp;exact e),h3 y hy]
   simp [e]
theorem zIi {w:World} {b o mb:Nat} {v:Value} {S:List Int} (h:w.cell? ⟨b,o,none⟩=some v) (hm:zAB w mb S):b≠mb:=by
 intro e
 subst e
 obtain ⟨D,⟨es,clock,h1,_⟩,_⟩:=hm
 simp [World.cell?,h1] at h
theorem zHI {w:World} {b mb:Nat} {cs:Array Value} {t:TypeId} {f:Nat×Nat} {S:List Int} (h:w.heap[b]?=some (.cells cs t f)) (hm:zAB w mb S):b≠mb:=by
 intro e
 subst e
 obtain ⟨D,⟨es,clock,h1,_⟩,_⟩:=hm
 rw [h1] at h
 cases h
theorem zCt {w w':World} {b o mb:Nat} {v:Value} {S:List Int} (h:w.cell? ⟨b,o,none⟩=some v) (hm:zAB w mb S) (hg:w.grownBy w' (some mb)):w'.cell? ⟨b,o,none⟩=some v:=by
 have hne:=zIi h hm
 have hl:=zMx _ _ h
 rw [zMB (a:=⟨b,o,none⟩) (hg.block b hl (by simpa using hne))]
 exact h
theorem Row.grown {k:IntKind} {w w':World} {ao:Option Addr} {xs:List Int} {mb:Nat} {S:List Int} (h:Row k w ao xs) (hm:zAB w mb S) (hg:w.grownBy w' (some mb)):Row k w' ao xs:=by
 rcases h with h | ⟨b,o,rfl,h⟩
 . exact .inl h
 . exact .inr ⟨b,o,rfl,fun i hi=>zCt (h i hi) hm hg⟩
theorem Sl.grown {k:IntKind} {w w':World} {v:Value} {xs:List Int} {mb:Nat} {S:List Int} (h:Sl k w v xs) (hm:zAB w mb S) (hg:w.grownBy w' (some mb)):Sl k w' v xs:=by
 obtain ⟨ao,cap,h1,h2,h3⟩:=h
 exact ⟨ao,cap,h1,h2.grown hm hg,h3⟩
theorem StoRow.grown {w w':World} {ao:Option Addr} {s:List Blk} {mb:Nat} {S:List Int} (h:StoRow w ao s) (hm:zAB w mb S) (hg:w.grownBy w' (some mb)):StoRow w' ao s:=by
 rcases h with h | ⟨b,o,rfl,h⟩
 . exact .inl h
 . refine .inr ⟨b,o,rfl,fun i hi=>?_⟩
   have hB:=h i hi
   obtain ⟨v,h1,h2⟩:=hB.kids
   obtain ⟨u,h3,h4⟩:=hB.bytes
   exact ⟨zCt hB.refs hm hg,zCt hB.level hm hg,⟨v,zCt h1 hm hg,h2.grown hm hg⟩,⟨u,zCt h3 hm hg,h4.grown hm hg⟩⟩
theorem zDo {w w':World} {b mb:Nat} {cs:Array Value} {t:TypeId} {f:Nat×Nat} {S:List Int} (h:w.heap[b]?=some (.cells cs t f)) (hm:zAB w mb S) (hg:w.grownBy w' (some mb)):w'.heap[b]?=some (.cells cs t f):=by
 rw [hg.block b (zAb h) (by simpa using zHI h hm)]
 exact h
structure zCQ (w:World) (ao:Option Addr) (n cap:Nat) (s:List Blk) (xb sb fb mb:Nat) (S:List Int):Prop where
 len:Hid (s.length=n)
 sto:StoRow w ao s
 xbox:w.heap[xb]?=some (.cells #[.map (some mb)] 104 (0,0))
 sbox:w.heap[sb]?=some (.cells #[.slice ao n cap] 24 (0,0))
 fbox:w.heap[fb]?=some (.cells #[.func (.func 43) #[] #[.pointer (some ⟨xb,0,none⟩),.pointer (some ⟨sb,0,none⟩),.pointer (some ⟨fb,0,none⟩)]] 68 (0,0))
 map:zAB w mb S
 nodup:S.Nodup
theorem zCQ.grown {w w':World} {ao:Option Addr} {n cap:Nat} {s:List Blk} {xb sb fb mb:Nat} {S S':List Int} (h:zCQ w ao n cap s xb sb fb mb S) (hg:w.grownBy w' (some mb)) (hm:zAB w' mb S') (hn:S'.Nodup):zCQ w' ao n cap s xb sb fb mb S':=
 ⟨h.len,h.sto.grown h.map hg,zDo h.xbox h.map hg,zDo h.sbox h.map hg,zDo h.fbox h.map hg,hm,hn⟩
def zHM (w w':World) (s:List Blk) (mb:Nat) (S:List Int) (a:Int):Prop:=w.grownBy w' (some mb)/\∃ S',S'.Nodup/\Seen s S a S'/\zAB w' mb S'
theorem zHL (w:World) (xb sb fb:Nat) :
 Calls Tryz.prog 43 #[.int .i64 0,.pointer (some ⟨xb,0,none⟩),.pointer (some ⟨sb,0,none⟩),.pointer (some ⟨fb,0,none⟩)] w fun e w'=>e=.returned (.bool true)/\w'=w:=by
 go_enter Tryz.func43,Tryz.ntmps43
 go_wp2
 go_ret
 exact ⟨rfl,rfl⟩
theorem StoRow.get {w:World} {b o:Nat} {s:List Blk} (h:StoRow w (some ⟨b,o,none⟩) s) (i:Nat) (hi:i<s.length):BlkAt w b (o+i*4) s[i]:=by
 obtain ⟨b',o',e,hB⟩:=h.at i hi
 simp only [zMz,zME,and_true] at e
 obtain ⟨rfl,rfl⟩:=e
 exact hB i hi
theorem zCQ.mono {w w':World} {ao:Option Addr} {n cap:Nat} {s:List Blk} {xb sb fb mb:Nat} {S:List Int} (h:zCQ w ao n cap s xb sb fb mb S) (hb:Below w.heap.size w w'):zCQ w' ao n cap s xb sb fb mb S:=
 h.grown (zAr hb _) (h.map.mono hb) h.nodup
set_option maxRecDepth 100000 in
set_option maxHeartbeats 2000000 in
theorem zLS (w:World) (ao:Option Addr) (n cap:Nat) (s:List Blk) (xb sb fb mb:Nat) (S:List Int) (a:Int) (hW:zCQ w ao n cap s xb sb fb mb S) (h400:n<=400) (ha:zAi s a=false) (h0:a≠0) (hI:I64 a) (hS:a∉S) :
 Calls Tryz.prog 43 #[.int .i64 a,.pointer (some ⟨xb,0,none⟩),.pointer (some ⟨sb,0,none⟩),.pointer (some ⟨fb,0,none⟩)] w fun e w'=>e=.returned (.bool false)/\Below w.heap.size w w':=by
 have he0:(a==0)=false:=by rw [beq_eq_false_iff_ne];exact h0
 have hlk:=hW.map.look a hI
 rw [decide_eq_false hS] at hlk
 have c1:=cell_of_one hW.xbox
 have c2:=cell_of_one hW.sbox
 have hs:=hW.sto
 have HN:=hW.len
 clear hW h0 hI hS
 go_enter Tryz.func43,Tryz.ntmps43
 go_wp2_with fail
 refine (zBH _ _ _ _ s a false ha HN.out (by omega) hs).mono ?_
 rintro e w1 ⟨rfl,hb1⟩
 go_wp2
 go_ret
 exact ⟨rfl,hb1⟩
set_option maxRecDepth 100000 in
set_option maxHeartbeats 2000000 in
theorem zHN (w:World) (ao:Option Addr) (n cap:Nat) (s:List Blk) (xb sb fb mb:Nat) (S:List Int) (a f:Int) (hW:zCQ w ao n cap s xb sb fb mb S) (h400:n<=400) (hwf:WfS s) (ht:Tiers s) (hcl:Clos s (f+1) S) (ha:zAi s a=true) (hl:(blk s a).level=f)
 (ih:∀ (w':World) (S':List Int) (k:Int),k∈(blk s a).kids->zAi s k=true->zCQ w' ao n cap s xb sb fb mb S'->Clos s f S'->
  Calls Tryz.prog 43 #[.int .i64 k,.pointer (some ⟨xb,0,none⟩),.pointer (some ⟨sb,0,none⟩),.pointer (some ⟨fb,0,none⟩)] w' fun e w''=>e=.returned (.bool true)/\zHM w' w'' s mb S' k) :
 Calls Tryz.prog 43 #[.int .i64 a,.pointer (some ⟨xb,0,none⟩),.pointer (some ⟨sb,0,none⟩),.pointer (some ⟨fb,0,none⟩)] w fun e w'=>e=.returned (.bool true)/\zHM w w' s mb S a:=by
 have hrm:=zCk ht a ha
 have hkd:=ht.kid a ha
 obtain ⟨j,hj,rfl,-⟩:=zAt ha
 have hjn:j<n:=by have:=hW.len.out;omega
 have hI:I64 ((j:Int)+1):=by unfold I64;omega
 have he0:((j:Int)+1==0)=false:=by rw [beq_eq_false_iff_ne];omega
 have hlk:=hW.map.look _ hI
 have c1:=cell_of_one hW.xbox
 have c2:=cell_of_one hW.sbox
 by_cases hin:((j:Int)+1)∈S
 . rw [decide_eq_true hin] at hlk
   have HR:=lH (show zHM w w s mb S ((j:Int)+1) from ⟨zAr (zMy _ _) _,S,hW.nodup,Seen.old hcl hin (by omega),hW.map⟩)
   clear hrm hkd hcl ih hl hW ha
   go_enter Tryz.func43,Tryz.ntmps43
   go_wp2
   go_ret
   exact ⟨rfl,HR.out⟩
 . rw [decide_eq_false hin] at hlk
   obtain ⟨b,o,rfl,-⟩:=hW.sto.at j hj
   rw [zAk s j hj] at hrm hkd hl ih
   have HN:=hW.len
   have hs:=hW.sto
   have hlen:S.length<=s.length:=seen_len hW.nodup fun x hx=>(hcl x hx).1
   have hsz:S.length<maxLen:=by unfold maxLen;have:=HN.out;omega
   have hclA:=hcl.add ha (by rw [zAk s j hj];exact hl)
   have HCA:=lH hclA
   have HRM:=lH hrm
   have HKD:=lH hkd
   have HIH:=lH ih
   have hw64:=(hwf.at j hj).kids
   have hkl:=(hwf.at j hj).klen
   clear hrm hkd hcl ih hl hclA hlen
   go_enter Tryz.func43,Tryz.ntmps43
   go_wp2_with fail
   refine (zBH _ _ _ _ s ((j:Int)+1) true ha HN.out (by omega) hs).mono ?_
   rintro e w1 ⟨rfl,hb1⟩
   have hW1:=hW.mono hb1
   have HW:=lH hW
   have d1:=cell_of_one hW1.xbox
   have hnd:(S++[(j:Int)+1]).Nodup:=List.nodup_append.2 ⟨hW1.nodup,by simp,by
    intro x hx y hy e
    simp at hy
    subst hy
    subst e
    exact hin hx⟩
   have HND:=lH hnd
   have hg1:=zAr hb1 (some mb)
   have HG1:=lH hg1
   clear c1 c2 hlk hs hW hb1 hg1 hnd hin
   obtain ⟨w2,hupd,hm2,hg2⟩:=hW1.map.store _ hI hsz
   have hW2:=hW1.grown hg2 hm2 HND.out
   have e2:=cell_of_one hW2.sbox
   have hB:=hW2.sto.get j hj
   obtain ⟨ka,kc,ba,bc,e3,-,hv⟩:=hB.v
   have hrow:=hv.kids.at.2.1
   have lb:=hB.lt
   clear hB hv hW1
   go_wp2
   go_loopw [29] (fun i wr=>∃ (m:Nat) (S':List Int),m<=s[j].kids.length/\i=.int .i64 m/\w2.grownBy wr (some mb)/\S'.Nodup/\zAB wr mb S'/\Clos s f S'/\Hid (∀ x,x∈S'↔x∈S++[(j:Int)+1]\/∃ k∈s[j].kids.take m,x∈reachF 4 s k)) (fun i _=>s[j].kids.length - (intOf i).toNat)
   case atStart=>exact ⟨0,_,zMO _,rfl,zAr (zMy _ _) _,HND.out,hm2,HCA.out,lH fun x=>by simp⟩
   case round=>
    obtain ⟨m,S',hm,rfl,hgr,hnd',hmap,hcl',HX⟩:=hrel
    have hWr:=hW2.grown hgr hmap hnd'
    have hrow':=hrow.grown hm2 hgr
    have x3:=cell_of_one hWr.fbox
    by_cases hlt:m<s[j].kids.length
    . obtain ⟨kb,ko,rfl,hkc⟩:=hrow'.at m hlt
      have hck:=hkc m hlt
      have lk:=zMx _ _ hck
      have hmem:=zMr hlt
      have hkk:=HKD.out _ hmem
      have hts:=zMD hlt
      have hmL:(m:Int)<s[j].kids.length:=by omega
      have HI2:=lH (HIH.out wr S' s[j].kids[m] hmem)
      have HTS:=lH hts
      have HMEM:=lH hmem
      have HCL:=lH hcl'
      clear hkc hrow hrow' e2 e3 hts hmem hcl' lb
      generalize s[j].kids[m]=y at *
      by_cases hy:y=0
      . subst hy
        go_wp2_with fail
        refine (zHL _ _ _ _).mono ?_
        rintro e w3 ⟨rfl,rfl⟩
        go_wp2
        go_roundw
        case rel=>exact ⟨m+1,S',by omega,by go_num,hgr,hnd',hmap,HCL.out,lH fun x=>by rw [HX.out x,HTS.out];simp [zBn]⟩
        case measure=>simp [intOf];omega
      . have hyt:=(hkk.resolve_left hy).1
        clear hkk
        go_wp2_with fail
        refine (HI2.out hyt hWr HCL.out).mono ?_
        rintro e w3 ⟨rfl,hg3,S3,hn3,hs3,hm3⟩
        have HC3:=lH (hs3.clos ht HCL.out (.inr hyt))
        have HX3:Hid (∀ x,x∈S3↔x∈S++[(j:Int)+1]\/∃ k∈s[j].kids.take (m+1),x∈reachF 4 s k):=lH fun x=>by
         rw [hs3 x,HX.out x,HTS.out]
         simp only [zNo,zN3]
         constructor
         . rintro ((h | ⟨k,hk,h⟩) | h)
           . exact .inl h
           . exact .inr ⟨k,.inl hk,h⟩
           . exact .inr ⟨y,.inr rfl,h⟩
         . rintro (h | ⟨k,hk | rfl,h⟩)
           . exact .inl (.inl h)
           . exact .inl (.inr ⟨k,hk,h⟩)
           . exact .inr h
        have hg4:=zA0 hgr hg3
        clear hs3
        go_wp2
        go_roundw
        case rel=>exact ⟨m+1,S3,by omega,by go_num,hg4,hn3,hm3,HC3.out,HX3⟩
        case measure=>simp [intOf];omega
    . obtain rfl:m=s[j].kids.length:=by omega
      have HR:=lH (show zHM w wr s mb S ((j:Int)+1) from ⟨zA0 (zA0 HG1.out hg2) hgr,S',hnd',fun x=>by
       rw [HX.out x,zNR,HRM.out x,zNo,zN3,or_assoc],hmap⟩)
      clear hrow hrow' e2 e3 hcl'
      go_wp2
      go_ret
      exact ⟨rfl,HR.out⟩
theorem walk_any (f:Nat):∀ (w:World) (ao:Option Addr) (n cap:Nat) (s:List Blk) (xb sb fb mb:Nat) (S:List Int) (a:Int),zCQ w ao n cap s xb sb fb mb S->n<=400->WfS s->Tiers s->Clos s ((f:Int)+1) S->zAi s a=true->(blk s a).level=(f:Int)->
 Calls Tryz.prog 43 #[.int .i64 a,.pointer (some ⟨xb,0,none⟩),.pointer (some ⟨sb,0,none⟩),.pointer (some ⟨fb,0,none⟩)] w fun e w'=>e=.returned (.bool true)/\zHM w w' s mb S a:=by
 induction f with
 | zero=>
  intro w ao n cap s xb sb fb mb S a hW h400 hwf ht hcl ha hl
  refine zHN w ao n cap s xb sb fb mb S a _ hW h400 hwf ht hcl ha hl fun w' S' k hk=>?_
  rw [ht.leaf a ha hl] at hk
  cases hk
 | succ f ih=>
  intro w ao n cap s xb sb fb mb S a hW h400 hwf ht hcl ha hl
  refine zHN w ao n cap s xb sb fb mb S a _ hW h400 hwf ht hcl ha hl fun w' S' k hk hkt hW' hcl'=>?_
  rcases ht.kid a ha k hk with h0 | ⟨_,h2⟩
  . exact absurd h0 (zGf hkt)
  . exact ih w' ao n cap s xb sb fb mb S' k hW' h400 hwf ht (hcl'.lower (by omega)) hkt (by omega)
theorem zJL {s:List Blk} (ht:Tiers s) {roots S:List Int} (hS:zDM s roots S) (hok:rootsOk s roots=true) (f:Int):Clos s f S:=by
 intro x hx
 obtain ⟨r,hr,hx2⟩:=List.mem_flatMap.1 ((hS x).1 hx)
 have:=zNF.1 hok r hr
 simp only [zNk,decide_eq_true_eq] at this
 rcases this with h0 | h0
 . rw [h0,zBn] at hx2;cases hx2
 . exact ⟨zDp ht r h0 x hx2,fun _ y hy=>(hS y).2 (List.mem_flatMap.2 ⟨r,hr,zCH ht r h0 x hx2 y hy⟩)⟩
theorem zH9 {s:List Blk} {roots:List Int} {a:Int} (ha:a∈roots) (h0:a≠0) (ht:zAi s a=false):rootsOk s roots=false:=by
 rw [zOb]
 intro h
 have:=zNF.1 h a ha
 simp [h0,ht] at this
set_option maxRecDepth 100000 in
set_option maxHeartbeats 4000000 in
theorem zFq (w:World) (ao ro:Option Addr) (n cap m rc:Nat) (s:List Blk) (roots:List Int) (hn:s.length=n) (hn63:n<=1152921504606846976) (hs:StoRow w ao s) (hwf:WfS s) (hm:roots.length=m) (hm63:m<=1152921504606846976) (hr:Row .i64 w ro roots) (hrw:∀ k∈roots,I64 k) :
 Calls Tryz.prog 17 #[.agg #[.slice ao n cap],.slice ro m rc] w fun e w'=>∃ v,e=.returned (.tuple #[v,.int .i64 (reachR s roots).2])/\Own .i64 3 w.heap.size w' v (reachR s roots).1/\Below w.heap.size w w':=by
 have HN:=lH hn
 have HM:=lH hm
 have hb0:=bA0 w (.cells #[.slice ao n cap] 24)
 have p2:=heap_alloc_new w (.cells #[.slice ao n cap] 24)
 clear hn hm
 go_enter Tryz.func17,Tryz.ntmps17
 go_wp2_with fail
 have hs:=hs.mono hb0
 generalize w.alloc (.cells #[.slice ao n cap] 24)=W0 at *
 refine (zCR _ _ _ _ s HN.out hn63 hs hwf).mono ?_
 rintro e w1 ⟨rfl,hb1⟩
 have hbw:=zAd hb0 hb1
 by_cases hce:checkE s=0
 rotate_left
 . have HR:=lH (show reachR s roots=([],checkE s) by unfold reachR;rw [if_pos hce])
   have he1:(checkE s != 0)=true:=by rw [bne_iff_ne];exact hce
   have he0:(checkE s==0)=false:=by rw [beq_eq_false_iff_ne];exact hce
   clear hce hs
   go_wp2
   go_ret2
   exact ⟨_,by rw [HR.out];rfl,by rw [HR.out];exact Own.nil _ _ _ _,hbw⟩
 . have he1:(checkE s != 0)=false:=by rw [hce];rfl
   have he0:(checkE s==0)=true:=by rw [hce];rfl
   have h400:n<=400:=by have:=(zAg s hce).1;have:=HN.out;omega
   have HCE:=lH hce
   have ht:=zDz s (zAg s hce).2.1
   have p2:=Zm hb1 p2
   have hs:=hs.mono hb1
   have l2:=zAb p2
   clear hce
   have hmm:=@run_makeMap Tryz.prog
   go_wp2
   have z1:(w1.alloc (.map #[] 0)).heap.size=w1.heap.size+1:=by simp
   have z2:((w1.alloc (.map #[] 0)).alloc (.cells #[.map (some w1.heap.size)] 104)).heap.size=w1.heap.size+1+1:=by simp
   have z3:(((w1.alloc (.map #[] 0)).alloc (.cells #[.map (some w1.heap.size)] 104)).alloc (.cells #[Value.func (Fn.func 43) #[] #[Value.pointer (some ⟨w1.heap.size+1,0,none⟩),Value.pointer (some ⟨w.heap.size,0,none⟩),Value.pointer (some ⟨w1.heap.size+1+1,0,none⟩)]] 68)).heap.size=w1.heap.size+1+1+1:=by simp
   have b1:Below w1.heap.size w1 (w1.alloc (.map #[] 0)):=(zMy _ _).alloc (zMs _) _
   have b2:Below w1.heap.size w1 ((w1.alloc (.map #[] 0)).alloc (.cells #[.map (some w1.heap.size)] 104)):=b1.alloc (by omega) _
   have b3:Below w1.heap.size w1 (((w1.alloc (.map #[] 0)).alloc (.cells #[.map (some w1.heap.size)] 104)).alloc (.cells #[Value.func (Fn.func 43) #[] #[Value.pointer (some ⟨w1.heap.size+1,0,none⟩),Value.pointer (some ⟨w.heap.size,0,none⟩),Value.pointer (some ⟨w1.heap.size+1+1,0,none⟩)]] 68)):=b2.alloc (by omega) _
   have m1:zAB (w1.alloc (.map #[] 0)) w1.heap.size []:=zAB.made w1
   have m3:zAB (((w1.alloc (.map #[] 0)).alloc (.cells #[.map (some w1.heap.size)] 104)).alloc (.cells #[Value.func (Fn.func 43) #[] #[Value.pointer (some ⟨w1.heap.size+1,0,none⟩),Value.pointer (some ⟨w.heap.size,0,none⟩),Value.pointer (some ⟨w1.heap.size+1+1,0,none⟩)]] 68)) w1.heap.size []:=(m1.mono ((zMy _ _).alloc (zMs _) _)).mono ((zMy _ _).alloc (zMs _) _)
   have x2:((w1.alloc (.map #[] 0)).alloc (.cells #[.map (some w1.heap.size)] 104)).heap[w1.heap.size+1]?=some (.cells #[.map (some w1.heap.size)] 104 (0,0)):=by rw [<- z1];exact heap_alloc_new _ _
   have x3:(((w1.alloc (.map #[] 0)).alloc (.cells #[.map (some w1.heap.size)] 104)).alloc (.cells #[Value.func (Fn.func 43) #[] #[Value.pointer (some ⟨w1.heap.size+1,0,none⟩),Value.pointer (some ⟨w.heap.size,0,none⟩),Value.pointer (some ⟨w1.heap.size+1+1,0,none⟩)]] 68)).heap[w1.heap.size+1]?=some (.cells #[.map (some w1.heap.size)] 104 (0,0)):=(zM5 _ _ _ (by omega)).trans x2
   have y3:(((w1.alloc (.map #[] 0)).alloc (.cells #[.map (some w1.heap.size)] 104)).alloc (.cells #[Value.func (Fn.func 43) #[] #[Value.pointer (some ⟨w1.heap.size+1,0,none⟩),Value.pointer (some ⟨w.heap.size,0,none⟩),Value.pointer (some ⟨w1.heap.size+1+1,0,none⟩)]] 68)).heap[w1.heap.size+1+1]?=some (.cells #[Value.func (Fn.func 43) #[] #[Value.pointer (some ⟨w1.heap.size+1,0,none⟩),Value.pointer (some ⟨w.heap.size,0,none⟩),Value.pointer (some ⟨w1.heap.size+1+1,0,none⟩)]] 68 (0,0)):=by
    have h:=heap_alloc_new ((w1.alloc (.map #[] 0)).alloc (.cells #[.map (some w1.heap.size)] 104)) (.cells #[Value.func (Fn.func 43) #[] #[Value.pointer (some ⟨w1.heap.size+1,0,none⟩),Value.pointer (some ⟨w.heap.size,0,none⟩),Value.pointer (some ⟨w1.heap.size+1+1,0,none⟩)]] 68)
    rw [z2] at h
    exact h
   have p3:=(b3.block _ l2).trans p2
   have hs3:=hs.mono b3
   have hbw3:=zAd hbw b3
   have hW:zCQ (((w1.alloc (.map #[] 0)).alloc (.cells #[.map (some w1.heap.size)] 104)).alloc (.cells #[Value.func (Fn.func 43) #[] #[Value.pointer (some ⟨w1.heap.size+1,0,none⟩),Value.pointer (some ⟨w.heap.size,0,none⟩),Value.pointer (some ⟨w1.heap.size+1+1,0,none⟩)]] 68)) ao n cap s (w1.heap.size+1) w.heap.size (w1.heap.size+1+1) w1.heap.size []:=⟨HN,hs3,x3,p3,y3,m3,List.nodup_nil⟩
   clear z1 z2 z3 b1 b2 m1 x2 b3 m3 x3 y3 p3 hs3 hs p2 hmm
   generalize ((w1.alloc (Obj.map #[] 0)).alloc (.cells #[Value.map (some w1.heap.size)] 104)).alloc (.cells #[Value.func (Fn.func 43) #[] #[.pointer (some ⟨w1.heap.size+1,0,none⟩),.pointer (some ⟨w.heap.size,0,none⟩),.pointer (some ⟨w1.heap.size+1+1,0,none⟩)]] 68)=W3 at *
   have hmb:w.heap.size<=w1.heap.size:=hbw.size
   go_loopw [22] (fun i wr=>∃ (k:Nat) (S:List Int),k<=m/\i=.int .i64 k/\W3.grownBy wr (some w1.heap.size)/\S.Nodup/\zAB wr w1.heap.size S/\rootsOk s (roots.take k)=true/\Hid (zDM s (roots.take k) S)) (fun i _=>m - (intOf i).toNat)
   case atStart=>exact ⟨0,[],zMO _,rfl,zAr (zMy _ _) _,List.nodup_nil,hW.map,rfl,lH fun x=>by simp [allF]⟩
   case round=>
    obtain ⟨k,S,hkm,rfl,hg,hnd,hmap,hok,HS⟩:=hrel
    have hWr:=hW.grown hg hmap hnd
    have hrow:=(hr.mono hbw3).grown hW.map hg
    have x3:=cell_of_one hWr.fbox
    by_cases hlt:k<m
    . have hkl:k<roots.length:=by have:=HM.out;omega
      obtain ⟨rb,rof,rfl,hrc⟩:=hrow.at k hkl
      have hck:=hrc k hkl
      have lk:=zMx _ _ hck
      have hI:=hrw _ (zMr hkl)
      have hmem:=zMr hkl
      have hts:=zMD hkl
      have HTS:=lH hts
      have HMEM:=lH hmem
      have HOK:=lH hok
      have HCL:=lH (fun f=>zJL ht HS.out hok f)
      have hkm2:(k:Int)<m:=by omega
      clear hrc hrow hts hmem hok hrw
      generalize roots[k]=y at *
      by_cases hy:y=0
      . subst hy
        go_wp2_with fail
        refine (zHL _ _ _ _).mono ?_
        rintro e w3 ⟨rfl,rfl⟩
        go_wp2
        go_roundw
        case rel=>exact ⟨k+1,S,by omega,by go_num,hg,hnd,hmap,by rw [HTS.out,zEu,HOK.out];rfl,lH fun x=>by rw [HTS.out,zHh,HS.out x];simp [zBn]⟩
        case measure=>simp [intOf];omega
      . cases hyt:zAi s y with
        | false=>
         have HR:=lH (show reachR s roots=([],5) by unfold reachR;rw [if_neg (by simp [HCE.out]),if_pos (zH9 HMEM.out hy hyt)])
         have hnS:y∉S:=fun h=>by
          have:=(HCL.out 4 y h).1
          rw [hyt] at this;cases this
         have hbb:=zAv hg hmb (by have:=hbw3.size;omega)
         go_wp2_with fail
         refine (zLS _ _ _ _ _ _ _ _ _ S y hWr h400 hyt hy hI hnS).mono ?_
         rintro e w4 ⟨rfl,hb4⟩
         clear hnS hy
         go_wp2
         go_ret2
         exact ⟨_,by rw [HR.out];rfl,by rw [HR.out];exact Own.nil _ _ _ _,zAd (hbw3.trans hbb) hb4⟩
        | true=>
         have hlv:=ht.lev y hyt
         obtain ⟨f,hf⟩:∃ f:Nat,(blk s y).level=(f:Int):=⟨(blk s y).level.toNat,by omega⟩
         have HF:=lH hf
         clear hf hlv
         go_wp2_with fail
         refine (walk_any f _ _ _ _ s _ _ _ _ S y hWr h400 hwf ht (HCL.out _) hyt HF.out).mono ?_
         rintro e w3 ⟨rfl,hg3,S3,hn3,hs3,hm3⟩
         have HS3:Hid (zDM s (roots.take (k+1)) S3):=lH fun x=>by rw [HTS.out,zHh,hs3 x,HS.out x]
         have HO3:Hid (rootsOk s (roots.take (k+1))=true):=lH (by rw [HTS.out,zEu,HOK.out,hyt];simp)
         have hg4:=zA0 hg hg3
         clear hs3
         go_wp2
         go_roundw
         case rel=>exact ⟨k+1,S3,by omega,by go_num,hg4,hn3,hm3,HO3.out,HS3⟩
         case measure=>simp [intOf];omega
    . obtain rfl:k=m:=by omega
      have htk:roots.take k=roots:=zMM (by have:=HM.out;omega)
      rw [htk] at hok HS
      have HR:=lH (show reachR s roots=(reachL s roots,0) by unfold reachR;rw [if_neg (by simp [HCE.out]),if_neg (by simp [hok])])
      have HT:=lH (told_all s roots S HS.out)
      have hbb:=zAv hg hmb (by have:=hbw3.size;omega)
      have hbwr:=hbw3.trans hbb
      have hW5:=hWr
      have d2:=cell_of_one hWr.sbox
      have dl2:=zAb hWr.sbox
      clear htk hrow HS hok hg hmap x3
      generalize wr=w5 at *
      go_wp2
      go_loopw [11,34] (fun v i wr=>∃ q:Nat,q<=n/\i=.int .i64 q/\Own .i64 3 w5.heap.size wr v (zCr s S q)/\Below w5.heap.size w5 wr) (fun _ i _=>n - (intOf i).toNat)
      case atStart=>exact ⟨0,zMO _,rfl,Own.nil _ _ _ _,zMy _ _⟩
      case round=>
       clear d2 dl2
       obtain ⟨q,hqn,rfl,hown,hbel⟩:=hrel
       have hWx:=hWr.mono hbel
       have d1:=cell_of_one hWx.xbox
       by_cases hlt:q<n
       . have hIq:I64 ((q:Int)+1):=by unfold I64;omega
         have hlk:=hWx.map.look _ hIq
         have hqn2:(q:Int)<n:=by omega
         have hts:=zIm s S q
         have HTS:=lH hts
         have hll:=zJW s S q
         have hsz:=hbel.size
         clear hts
         by_cases hin:((q:Int)+1)∈S
         . rw [decide_eq_true hin] at hlk
           have HT2:Hid (zCr s S (q+1)=zCr s S q++[(q:Int)+1]):=lH (by rw [HTS.out,if_pos hin])
           clear hin
           go_wp2_with (first
            | (at_builtin;refine zEc rfl (.tmp 41) (.tmp 44) _ rfl .i64 3 8 w5.heap.size Tryz.underlying59 zCd _ _ _ rfl hown _ rfl (by simp) ?_ ?_ hsz ?_;rotate_right;intro v' w4 hown4 hbel4))
           . go_roundw
             case rel=>exact ⟨q+1,by omega,by go_num,by rw [HT2.out];exact hown4,hbel.trans hbel4⟩
             case measure=>simp [intOf];omega
           . unfold maxLen;omega
           . omega
         . rw [decide_eq_false hin] at hlk
           have HT2:Hid (zCr s S (q+1)=zCr s S q):=lH (by rw [HTS.out,if_neg hin,zNW])
           clear hin
           go_wp2
           go_roundw
           case rel=>exact ⟨q+1,by omega,by go_num,by rw [HT2.out];exact hown,hbel⟩
           case measure=>simp [intOf];omega
       . obtain rfl:q=n:=by omega
         rw [show zCr s S q=reachL s roots from by rw [<- HT.out,HN.out]] at hown
         have HO:=lH hown
         clear hown
         go_wp2
         go_ret2
         exact ⟨_,by rw [HR.out];rfl,by rw [HR.out];exact HO.out.weaken hbwr.size,zAd hbwr hbel⟩
end Go.Proofs.YtfmgdjgedhnmeaaGreat
