/- store.below: how often each block stands below others. · rookeryref.OutsideOf: how often each block is held by nobody in the store. · What Check says, in plain words. · store.Check: what is wrong with a store. · store.Outside, store.Used: what they tell. -/
import Derived.Test.YtfmgdjgedhnmeaaGreatSto
import Derived.Test.YtfmgdjgedhnmeaaGreatForm
namespace Go.Proofs.YtfmgdjgedhnmeaaGreat
open Go.RowKit
set_option linter.unusedVariables false
set_option linter.unusedSimpArgs false
def cntL (n:Nat) (l:List Int):List Int:=(List.range n).map fun (j:Nat)=>((l.count ((j:Int)+1):Nat):Int)
theorem zFr (n:Nat) (l:List Int):(cntL n l).length=n:=by simp [cntL]
theorem cntL_at (n:Nat) (l:List Int) (j:Nat) (h:j<n) (h':j<(cntL n l).length):(cntL n l)[j]=((l.count ((j:Int)+1):Nat):Int):=by simp [cntL]
theorem cntL_nil (n:Nat):cntL n []=zeros n:=by
 apply zNd
 . simp [cntL,zeros]
 . intro i h1 h2
   simp [cntL,zeros]
theorem zKQ (n:Nat) (l:List Int):cntL n (l++[0])=cntL n l:=by
 unfold cntL
 apply zNT
 intro j _
 rw [zMZ,zNn (by omega)]
 simp
theorem zLc (n:Nat) (l:List Int) (j:Nat):cntL n (l++[(j:Int)+1])=(cntL n l).set j (((l.count ((j:Int)+1):Nat):Int)+1):=by
 apply zNd
 . simp [cntL]
 . intro i h1 h2
   rw [zMP]
   simp only [cntL,zMA,List.length_range] at h1
   by_cases e:j=i
   . subst e
     simp [cntL,zMZ]
   . rw [if_neg e]
     simp only [cntL,zM2,List.getElem_range]
     rw [zMZ,zNn (by omega)]
     simp
def zJl (s:List Blk):Prop:=∀ x∈s,x.kids.length<=4/\∀ k∈x.kids,k=0\/(1<=k/\k<=s.length)
theorem zHY (s:List Blk) (i:Nat) (h:i<s.length):kidsOf (s.take (i+1))=kidsOf (s.take i)++s[i].kids:=by
 unfold kidsOf
 rw [zMD h,zNv]
 simp
theorem zDZ (s:List Blk) (h:∀ x∈s,x.kids.length<=4):(kidsOf s).length<=4*s.length:=by
 induction s with
 | nil=>simp [kidsOf]
 | cons x s ih=>
  have h1:=h x (by simp)
  have h2:=ih fun y hy=>h y (by simp [hy])
  simp only [kidsOf,zM0,zMG,zMT] at *
  omega
theorem zJN (s:List Blk):belowL s=cntL s.length (kidsOf s):=rfl
theorem zCd:(Tryz.prog.info? 3).map (fun i=>(i.zero,i.size,i.bytes))=some (some (.int .i64 0),1,8):=by kernel_rfl
set_option maxRecDepth 100000 in
set_option maxHeartbeats 1000000 in
theorem zGV (w:World) (ao:Option Addr) (n cap:Nat) (s:List Blk) (hn:s.length=n) (hn4:n<=400) (hs:StoRow w ao s) (hk:zJl s) :
 Calls Tryz.prog 40 #[.agg #[.slice ao n cap]] w fun e w'=>∃ ao',e=.returned (.slice ao' n n)/\Own .i64 3 w.heap.size w' (.slice ao' n n) (belowL s)/\Below w.heap.size w w':=by
 have hmk:=make_ints (P:=Tryz.prog) .i64 59 3 8 Tryz.underlying59 zCd n (by omega) (by omega)
 have HN:=lH hn
 have h400:(n:Int)<=400:=by omega
 clear hn
 go_enter Tryz.func40,Tryz.ntmps40
 go_wp2
 go_loopw [15] (fun i wr=>∃ k:Nat,k<=n/\i=.int .i64 k/\wr.heap[w.heap.size+1]?=some (.cells (icells .i64 (cntL n (kidsOf (s.take k)))) 3 (0,0))/\Below w.heap.size w wr) (fun i _=>n - (intOf i).toNat)
 case atStart=>
  refine ⟨0,zMO _,rfl,?_,((zMy _ _).alloc (zMs _) _).alloc (by simp) _⟩
  rw [heap_alloc2_new]
  simp only [zNH]
  rw [show kidsOf []=[] from rfl,cntL_nil]
 case round=>
  obtain ⟨k,hkn,rfl,hG,hbel⟩:=hrel
  by_cases hlt:k<n
  . have hks:k<s.length:=by have:=HN.out;omega
    obtain ⟨b,o,rfl,hq⟩:=hs.at k hks
    have hB:=hq k hks
    have lb0:=hB.lt
    have lb:b<wr.heap.size:=zMw lb0 hbel.size
    have hbc:=(bcell hbel).1
    have c0:=(hbc _ _ lb0).trans hB.refs
    have c1:=(hbc _ _ lb0).trans hB.level
    obtain ⟨v2,c2,kao,kcap,rfl,hrow,hcd⟩:=hB.kids
    obtain ⟨v3,c3,bao,bcap,rfl,hrow3,hcd3⟩:=hB.bytes
    have c2:=(hbc _ _ lb0).trans c2
    have c3:=(hbc _ _ lb0).trans c3
    clear hbc
    have hkk:=hk _ (zMr hks)
    have hkt:=zHY s k hks
    have HKT:=lH hkt
    have hlen:(kidsOf (s.take k)).length<=1600:=by
     have:=zDZ (s.take k) (fun x hx=>(hk x (zNl hx)).1)
     simp at this;omega
    have HLEN:=lH hlen
    clear hq hs hB hkt hlen
    generalize hx:s[k]=x at *
    have HX:=lH hx
    clear hx
    have hs4:(x.kids.length:Int)<=4:=by have:=hkk.1;omega
    have hgl:=zAb hG
    go_wp2
    have hG2:(wr.alloc (.cells #[.int .i64 x.refs,.int .i64 x.level,.slice kao x.kids.length kcap,.slice bao x.bytes.length bcap] 99)).heap[w.heap.size+1]?=some (.cells (icells .i64 (cntL n (kidsOf (s.take k)++x.kids.take 0))) 3 (0,0)):=by
     rw [zM5 _ _ _ hgl];simpa using hG
    have hbel2:Below w.heap.size w (wr.alloc (.cells #[.int .i64 x.refs,.int .i64 x.level,.slice kao x.kids.length kcap,.slice bao x.bytes.length bcap] 99)):=hbel.alloc hbel.size _
    clear hG hbel c0 c1 c2 c3 hrow3
    generalize wr.alloc (.cells #[Value.int .i64 x.refs,Value.int .i64 x.level,.slice kao x.kids.length kcap,.slice bao x.bytes.length bcap] 99)=W2 at *
    go_loopw [22] (fun j wr=>∃ m:Nat,m<=x.kids.length/\j=.int .i64 m/\wr.heap[w.heap.size+1]?=some (.cells (icells .i64 (cntL n (kidsOf (s.take k)++x.kids.take m))) 3 (0,0))/\Below w.heap.size w wr) (fun j _=>x.kids.length - (intOf j).toNat)
    case atStart=>exact ⟨0,zMO _,rfl,hG2,hbel2⟩
    case round=>
     obtain ⟨m,hm,rfl,hG,hbel⟩:=hrel
     have hm4:m<=4:=by omega
     by_cases hmt:m<x.kids.length
     . obtain ⟨kb,ko,rfl,hkc⟩:=hrow.at m hmt
       have hck:=hkc m hmt
       have hlk:=zMx _ _ hck
       have e1:x.kids.take (m+1)=x.kids.take m++[x.kids[m]]:=by rw [zMD hmt]
       have hkv:=hkk.2 _ (zMr hmt)
       have hck:=Zc hbel hlk hck
       have hlk2:kb<wr.heap.size:=zMw hlk hbel.size
       clear hkc hrow
       generalize x.kids[m]=y at *
       have E1:=lH e1
       clear e1
       rcases hkv with rfl | ⟨hy1,hy2⟩
       . go_wp2
         go_roundw
         case rel=>exact ⟨m+1,by omega,by go_num,by rw [E1.out,<- zM8,zKQ];exact hG,hbel⟩
         case measure=>simp [intOf];omega
       . obtain ⟨j,rfl⟩:∃ j:Nat,y=j+1:=⟨(y - 1).toNat,by omega⟩
         have hj:j<n:=by have:=HN.out;omega
         have hcg:=zAa hG j
         rw [zBK _ _ j (by rw [zFr];exact hj),cntL_at _ _ _ hj] at hcg
         have hfg:=zAc hG j
         have hcl:(kidsOf (s.take k)++x.kids.take m).length<=1604:=by have:=HLEN.out;simp;omega
         have hcc:=zNj (a:=((j:Int)+1)) (l:=kidsOf (s.take k)++x.kids.take m)
         have hsu:=zLc n (kidsOf (s.take k)++x.kids.take m) j
         have hset:=zAe hG j (.int .i64 (((List.count ((j:Int)+1) (kidsOf (s.take k)++x.kids.take m):Nat):Int)+1))
         rw [zDf,<- hsu,zM8,<- E1.out] at hset
         have HSET:=lH hset
         have hcn0:(0:Int)<=((List.count ((j:Int)+1) (kidsOf (s.take k)++x.kids.take m):Nat):Int):=by omega
         have hnc:(((List.count ((j:Int)+1) (kidsOf (s.take k)++x.kids.take m):Nat):Int)+1)<=1605:=by omega
         clear hcl hsu hset hy1 hy2
         generalize ((List.count ((j:Int)+1) (kidsOf (s.take k)++x.kids.take m):Nat):Int)=cn at *
         go_wp2
         go_roundw
         case rel=>exact ⟨m+1,by omega,by go_num,HSET.out,hbel.setCell (by simp) _⟩
         case measure=>simp [intOf];omega
     . obtain rfl:m=x.kids.length:=by omega
       go_wp2
       go_roundw
       case rel=>
        refine ⟨k+1,by omega,by go_num,?_,hbel⟩
        rw [HKT.out]
        rw [zNR] at hG
        exact hG
       case measure=>simp [intOf];omega
  . obtain rfl:k=n:=by omega
    go_wp2
    go_ret
    refine ⟨_,rfl,?_,hbel⟩
    have ht:s.take k=s:=zMM (by have:=HN.out;omega)
    rw [ht] at hG
    have hl:=zFr k (kidsOf s)
    rw [zJN,HN.out]
    refine ⟨by simp,.inr ⟨_,k,_,by rw [hl],by omega,hG,by rw [hl];exact zMs _,by unfold maxLen;omega,by rw [zFB,hl,Nat.mul_one],?_⟩⟩
    rw [hl,Nat.mul_one,zMM (by rw [zOn,zFB,hl];exact zMs _)]
    rfl
def outM (s:List Blk) (l:List Int):List Int:=(List.range s.length).map fun (j:Nat)=>(s[j]?.getD noBlk).refs - ((l.count ((j:Int)+1):Nat):Int)
theorem zDu (s:List Blk) (l:List Int):(outM s l).length=s.length:=by simp [outM]
theorem zFt (s:List Blk) (l:List Int) (j:Nat) (h:j<s.length) (h':j<(outM s l).length):(outM s l)[j]=s[j].refs - ((l.count ((j:Int)+1):Nat):Int):=by simp [outM,h]
theorem zKM (s:List Blk) (l:List Int):outM s (l++[0])=outM s l:=by
 unfold outM
 apply zNT
 intro j _
 rw [zMZ,zNn (by omega)]
 simp
theorem zLn (s:List Blk) (l:List Int) (j:Nat) (h:j<s.length):outM s (l++[(j:Int)+1])=(outM s l).set j (s[j].refs - ((l.count ((j:Int)+1):Nat):Int) - 1):=by
 apply zNd
 . simp [outM]
 . intro i h1 h2
   rw [zMP]
   have hi:i<s.length:=by simpa [zDu] using h1
   by_cases e:j=i
   . subst e
     rw [zFt s _ j h]
     simp [zMZ]
     omega
   . rw [if_neg e,zFt s _ i hi,zFt s _ i hi,zMZ,zNn (by omega)]
     simp
theorem zIY (s:List Blk):outL s=outM s (kidsOf s):=rfl
theorem Own.weaken {k:IntKind} {e base base':Nat} {w:World} {v:Value} {xs:List Int} (h:Own k e base w v xs) (hb:base'<=base):Own k e base' w v xs:=by
 obtain ⟨h1,h2⟩:=h
 refine ⟨h1,?_⟩
 rcases h2 with h2 | ⟨g,cap,cur,hv,hg,hh,r⟩
 . exact .inl h2
 . exact .inr ⟨g,cap,cur,hv,by omega,hh,r⟩
def zF4 (s:List Blk):Prop:=∀ x∈s,0<=x.refs/\x.refs<=1000000
theorem zFY (s l1 l2:List Blk) (h:zAI s l1=0):zAI s (l1++l2)=zAI s l2:=by
 induction l1 with
 | nil=>rfl
 | cons x l ih=>
  simp only [zAI,List.cons_append] at *
  by_cases hx:formB s x=0
  . rw [if_pos hx] at *
    exact ih h
  . rw [if_neg hx] at h
    exact absurd h hx
theorem zIA (s:List Blk) (k:Nat) (h:k<s.length) (h0:zAI s (s.take k)=0) (hx:formB s s[k]=0):zAI s (s.take (k+1))=0:=by
 rw [zMD h,zFY _ _ _ h0]
 simp [zAI,hx]
theorem zIz (s:List Blk) (k:Nat) (h:k<s.length) (h0:zAI s (s.take k)=0) (hx:formB s s[k]≠0):zAI s s=formB s s[k]:=by
 have e:s=s.take k++s[k]::s.drop (k+1):=by rw [<- zNz h,zNC]
 have e2:zAI s s=zAI s (s.take k++s[k]::s.drop (k+1)):=by rw [<- e]
 rw [e2,zFY _ _ _ h0]
 simp [zAI,hx]
theorem zBa (s l:List Blk) (h:zAI s l=0):∀ x∈l,formB s x=0:=by
 induction l with
 | nil=>intro x hx;cases hx
 | cons y l ih=>
  simp only [zAI] at h
  by_cases hy:formB s y=0
  . rw [if_pos hy] at h
    intro x hx
    rcases zNP.1 hx with rfl | hx
    . exact hy
    . exact ih h x hx
  . rw [if_neg hy] at h
    exact absurd h hy
theorem zAY (s:List Blk) (x:Blk) (h:formB s x=0) :
 (x.refs=0/\x.level=0/\x.kids=[]/\x.bytes=[])\/(0<x.refs/\x.refs<=1000000/\x.level=0/\x.kids=[]/\x.bytes.length=4)\/
 (0<x.refs/\x.refs<=1000000/\1<=x.level/\x.level<=3/\x.kids.length=4/\x.bytes=[]/\x.kids.all (kidOk s x.level)=true/\x.kids.all (fun k=>decide (k=0))=false):=by
 unfold formB formE at h
 split at h
 . split at h
   . omega
   . rename_i h1 h2
     refine .inl ⟨h1,by omega,zMv (by omega),zMv (by omega)⟩
 . split at h
   . omega
   . split at h
     . split at h
       . omega
       . exact .inr (.inl ⟨by omega,by omega,by omega,zMv (by omega),by omega⟩)
     . split at h
       . omega
       . split at h
         . omega
         . split at h
           . omega
           . rename_i h5 h6
             refine .inr (.inr ⟨by omega,by omega,by omega,by omega,by omega,zMv (by omega),by simpa using h5,by simpa using h6⟩)
theorem zFs (s:List Blk) (h:zAI s s=0):zJl s:=by
 intro x hx
 rcases zAY s x (zBa s s h x hx) with ⟨_,_,hk,_⟩ | ⟨_,_,_,hk,_⟩ | ⟨_,_,_,_,hk,_,ha,_⟩
 . rw [hk];exact ⟨by simp,fun k h=>by cases h⟩
 . rw [hk];exact ⟨by simp,fun k h=>by cases h⟩
 . refine ⟨by omega,fun k hkm=>?_⟩
   have:=zNF.1 ha k hkm
   unfold kidOk at this
   simp only [zNk,decide_eq_true_eq,zMW] at this
   rcases this with h0 | ⟨h1,_⟩
   . exact .inl h0
   . obtain ⟨j,hj,rfl,_⟩:=zAt h1
     exact .inr ⟨by omega,by omega⟩
theorem zHi (s:List Blk) (h:zAI s s=0):zF4 s:=by
 intro x hx
 rcases zAY s x (zBa s s h x hx) with ⟨h1,_⟩ | ⟨h1,h2,_⟩ | ⟨h1,h2,_⟩<;>omega
theorem zIf (s:List Blk) (h:400<s.length):checkE s=2:=by unfold checkE;rw [if_pos h]
theorem zIG (s:List Blk) (h:¬ 400<s.length) (h1:zAI s s≠0):checkE s=zAI s s:=by unfold checkE;rw [if_neg h,if_pos h1]
theorem zEQ (s:List Blk) (h:¬ 400<s.length) (h1:zAI s s=0):checkE s=if (outL s).any (fun n=>decide (n<0)) then 7 else 0:=by unfold checkE;rw [if_neg h,if_neg (by simp [h1])]
theorem zA8 (s:List Blk):(outL s).length=s.length:=by simp [outL]
theorem zBA (s:List Blk):(belowL s).length=s.length:=by simp [belowL]
theorem zF5 (s:List Blk) (i:Nat) (h:i<s.length) (h1:i<(outL s).length) (h2:i<(belowL s).length):(outL s)[i]=s[i].refs - (belowL s)[i]:=by simp [outL,belowL,h]
def zEx (s:List Blk) (k:Nat):Bool:=((outL s).take k).all fun n=>decide (0<=n)
theorem zIc (s:List Blk):zEx s 0=true:=by simp [zEx]
theorem zIE (s:List Blk) (k:Nat) (h:k<(outL s).length) (h0:zEx s k=true) (h1:0<=(outL s)[k]):zEx s (k+1)=true:=by
 unfold zEx at *
 rw [zMD h,zOq,h0]
 simp [h1]
theorem zJE (s:List Blk) (h:zEx s s.length=true):(outL s).any (fun n=>decide (n<0))=false:=by
 unfold zEx at h
 rw [<- zA8,zNR] at h
 rw [zOb]
 intro h2
 rw [zNZ] at h2
 obtain ⟨x,hx,h3⟩:=h2
 have:=zNF.1 h x hx
 simp at this h3
 omega
theorem any_at (s:List Blk) (k:Nat) (h:k<(outL s).length) (h1:(outL s)[k]<0):(outL s).any (fun n=>decide (n<0))=true:=by
 rw [zNZ]
 exact ⟨_,zMr h,by simpa using h1⟩
set_option maxRecDepth 100000 in
set_option maxHeartbeats 1000000 in
theorem zCR (w:World) (ao:Option Addr) (n cap:Nat) (s:List Blk) (hn:s.length=n) (hn63:n<=1152921504606846976) (hs:StoRow w ao s) (hwf:WfS s) :
 Calls Tryz.prog 14 #[.agg #[.slice ao n cap]] w fun e w'=>e=.returned (.int .i64 (checkE s))/\Below w.heap.size w w':=by
 have HN:=lH hn
 rcases zNp 400 n with h4 | h4
 . have HC:=lH (zIf s (by omega))
   have hd:decide (400<(n:Int))=true:=by simp;omega
   clear hn
   go_enter Tryz.func14,Tryz.ntmps14
   go_wp2
   go_ret
   exact ⟨zAm HC.out.symm,(zMy _ _).alloc (zMs _) _⟩
 . have hd:decide (400<(n:Int))=false:=by simp;omega
   have h4s:¬ 400<s.length:=by omega
   have H4:=lH h4s
   clear hn h4s
   go_enter Tryz.func14,Tryz.ntmps14
   go_wp2
   have a1:(w.alloc (.cells #[.slice ao n cap] 24)).cell? ⟨w.heap.size,0,none⟩=some (.slice ao n cap):=by simp
   have hb0:=bA0 w (.cells #[.slice ao n cap] 24)
   have hz:w.heap.size<(w.alloc (.cells #[.slice ao n cap] 24)).heap.size:=by simp
   have hs:=hs.mono hb0
   generalize w.alloc (.cells #[.slice ao n cap] 24)=W1 at *
   go_loopw [15] (fun i wr=>∃ k:Nat,k<=n/\i=.int .i64 k/\zAI s (s.take k)=0/\Below W1.heap.size W1 wr) (fun i _=>n - (intOf i).toNat)
   case atStart=>exact ⟨0,zMO _,rfl,rfl,zMy _ _⟩
   case round=>
    obtain ⟨k,hkn,rfl,hf0,hbel⟩:=hrel
    have HF0:=lH hf0
    have c9:=((bcell hbel).1 w.heap.size 0 hz).trans a1
    have l9:w.heap.size<wr.heap.size:=zMw hz hbel.size
    clear hf0 a1
    by_cases hlt:k<n
    . have hks:k<s.length:=by have:=HN.out;omega
      have hs2:=hs.mono hbel
      obtain ⟨b,o,rfl,hq⟩:=hs2.at k hks
      have hB:=hq k hks
      have c0:=hB.refs
      have c1:=hB.level
      obtain ⟨v2,c2,kao,kcap,rfl,hrow,hcd⟩:=hB.kids
      obtain ⟨v3,c3,bao,bcap,rfl,hrow3,hcd3⟩:=hB.bytes
      have lb:=hB.lt
      have hwk:=hwf.at k hks
      have HW:=lH hwk
      clear hq hB hwk hcd hcd3 hrow3
      go_wp2_with fail
      have hba:=bA0 wr (.cells #[.int .i64 s[k].refs,.int .i64 s[k].level,.slice kao s[k].kids.length kcap,.slice bao s[k].bytes.length bcap] 99)
      by_cases hfe:formB s s[k]=0
      . refine (zGq _ _ _ _ _ _ _ _ _ _ s s[k].refs s[k].level s[k].kids s[k].bytes HN.out hn63 (hs2.mono hba) hwf (hrow.mono hba) HW.out.kids rfl rfl HW.out.klen HW.out.blen).mono ?_
        rintro e w2 ⟨rfl,hb2⟩
        have hst:=zIA s k hks HF0.out hfe
        have hfe':formE s s[k].refs s[k].level s[k].kids s[k].bytes=0:=hfe
        have HST:=lH hst
        clear hst hfe
        go_wp2
        go_roundw
        case rel=>exact ⟨k+1,by omega,by go_num,HST.out,zAd hbel (zAd hba hb2)⟩
        case measure=>simp [intOf];omega
      . refine (zGq _ _ _ _ _ _ _ _ _ _ s s[k].refs s[k].level s[k].kids s[k].bytes HN.out hn63 (hs2.mono hba) hwf (hrow.mono hba) HW.out.kids rfl rfl HW.out.klen HW.out.blen).mono ?_
        rintro e w2 ⟨rfl,hb2⟩
        have hst:=zIz s k hks HF0.out hfe
        have hch:=zIG s H4.out (by rw [hst];exact hfe)
        rw [hst] at hch
        have hfe':(formE s s[k].refs s[k].level s[k].kids s[k].bytes==0)=false:=by rw [beq_eq_false_iff_ne];exact hfe
        have hfe2:(formE s s[k].refs s[k].level s[k].kids s[k].bytes != 0)=true:=by rw [bne_iff_ne];exact hfe
        have HCH:=lH hch
        clear hst hfe hch
        go_wp2
        go_ret
        exact ⟨zAm HCH.out.symm,zAd hb0 (zAd hbel (zAd hba hb2))⟩
    . obtain rfl:k=n:=by omega
      have ht:s.take k=s:=zMM (by have:=HN.out;omega)
      have hfz:zAI s s=0:=by have:=HF0.out;rw [ht] at this;exact this
      have HC:=lH (zEQ s H4.out hfz)
      have hki:=zFs s hfz
      have hri:=zHi s hfz
      have hs2:=hs.mono hbel
      clear ht hfz
      go_wp2_with fail
      refine (zGV _ _ _ _ s HN.out h4 hs2 hki).mono ?_
      rintro e w3 ⟨ao3,rfl,ho3,hb3⟩
      have hs3:=hs2.mono hb3
      have c9:=((bcell hb3).1 w.heap.size 0 l9).trans c9
      have l9:w.heap.size<w3.heap.size:=zMw l9 hb3.size
      clear hs2
      go_wp2
      go_loopw [29] (fun i wr=>∃ m:Nat,m<=k/\i=.int .i64 m/\zEx s m=true/\Below w3.heap.size w3 wr) (fun i _=>k - (intOf i).toNat)
      case atStart=>exact ⟨0,zMO _,rfl,zIc s,zMy _ _⟩
      case round=>
       obtain ⟨m,hmn,rfl,hno,hbel3⟩:=hrel
       have HNO:=lH hno
       clear hno
       by_cases hlt2:m<k
       . have hms:m<s.length:=by have:=HN.out;omega
         have hmo:m<(outL s).length:=by rw [zA8];exact hms
         have hstep:=zIE s m hmo HNO.out
         have hany:=any_at s m hmo
         have hml:m<(belowL s).length:=by rw [zBA];exact hms
         have hrel:=zF5 s m hms hmo hml
         obtain ⟨g,gcap,hv,hg,hcg,hfg,hgl⟩:=ho3.at m hml
         simp only [Value.slice.injEq] at hv
         obtain ⟨rfl,_,_⟩:=hv
         have hcg:=Zc hbel3 hgl hcg
         have hgl2:g<wr.heap.size:=zMw hgl hbel3.size
         obtain ⟨b,o,rfl,hq⟩:=(hs3.mono hbel3).at m hms
         have c0:=(hq m hms).refs
         have lb:=(hq m hms).lt
         have c9:=((bcell hbel3).1 w.heap.size 0 l9).trans c9
         have l9:w.heap.size<wr.heap.size:=zMw l9 hbel3.size
         clear hq
         rw [hrel] at hstep hany
         generalize (belowL s)[m]=bm at *
         clear hrel
         by_cases hcmp:s[m].refs<bm
         . have HA:=lH (hany (by omega))
           clear hany hstep
           go_wp2
           go_ret
           exact ⟨zAm (by rw [HC.out,HA.out];rfl),zAd hb0 (zAd hbel (zAd hb3 hbel3))⟩
         . have HA:=lH (hstep (by omega))
           clear hany hstep
           go_wp2
           go_roundw
           case rel=>exact ⟨m+1,by omega,by go_num,HA.out,hbel3⟩
           case measure=>simp [intOf];omega
       . obtain rfl:m=k:=by omega
         have hna:=zJE s (by have:=HN.out;rw [this];exact HNO.out)
         have HNA:=lH hna
         clear hna
         go_wp2
         go_ret
         exact ⟨zAm (by rw [HC.out,HNA.out];rfl),zAd hb0 (zAd hbel (zAd hb3 hbel3))⟩
theorem zAg (s:List Blk) (h:checkE s=0):s.length<=400/\zAI s s=0/\zJl s/\zF4 s/\∀ n∈outL s,0<=n:=by
 unfold checkE at h
 split at h
 . omega
 . split at h
   . rename_i h1 h2;exact absurd h h2
   . rename_i h1 h2
     have hz:zAI s s=0:=by simpa using h2
     refine ⟨by omega,hz,zFs s hz,zHi s hz,fun n hn=>?_⟩
     split at h
     . omega
     . rename_i h3
       rw [zNZ] at h3
       rcases Int.lt_or_le n 0 with hlt | hle
       . exact absurd ⟨n,hn,by simpa using hlt⟩ h3
       . exact hle
def outTo (s:List Blk) (k:Nat):List Int:=(outL s).take k++(belowL s).drop k
theorem zCc (s:List Blk) (k:Nat) (h:k<=s.length):(outTo s k).length=s.length:=by simp [outTo,zA8,zBA];omega
theorem zJ2 (s:List Blk):outTo s 0=belowL s:=by simp [outTo]
theorem zL5 (s:List Blk):outTo s s.length=outL s:=by
 simp [outTo,zMM (zOA (zA8 s)),zNi (zOA (zBA s))]
theorem outTo_at (s:List Blk) (k:Nat) (h:k<s.length) (h':k<(outTo s k).length) (h2:k<(belowL s).length):(outTo s k)[k]=(belowL s)[k]:=by
 simp only [outTo]
 rw [zMX (by simp [zA8];omega)]
 simp [zA8,zNb (zNQ h)]
theorem zJ8 (s:List Blk) (k:Nat) (h:k<s.length) (h2:k<(belowL s).length):(outTo s k).set k (s[k].refs - (belowL s)[k])=outTo s (k+1):=by
 have hl:=zA8 s
 have hl2:=zBA s
 apply zNd
 . simp [zCc _ _ (zNQ h),zCc _ _ h]
 . intro i h1 h2'
   rw [zMP]
   by_cases e:k=i
   . subst e
     simp only [if_true,outTo]
     rw [zMY (by simp [hl];omega),zNO,zF5 s _ h (by rw [hl];exact h) h2]
   . rw [if_neg e]
     simp only [outTo]
     rw [zCc _ _ h] at h2'
     rcases zNp i k with hi | hi
     . rw [zMY (by simp [hl];omega),zMY (by simp [hl];omega)]
       simp
     . rw [zMX (by simp [hl];omega),zMX (by simp [hl];omega)]
       simp [hl,zNb (zNQ h),zNb (show k+1<=s.length from h)]
       congr 1
       omega
theorem zLH (s:List Blk) (hk:zJl s) (h4:s.length<=400) (k:Nat) (h:k<(belowL s).length):0<=(belowL s)[k]/\(belowL s)[k]<=1600:=by
 have h1:=zDZ s (fun x hx=>(hk x hx).1)
 have h2:=zNj (a:=((k:Int)+1)) (l:=kidsOf s)
 simp only [belowL,zM2,List.getElem_range,zGR]
 omega
set_option maxRecDepth 100000 in
set_option maxHeartbeats 1000000 in
theorem zF2 (w:World) (ao:Option Addr) (n cap:Nat) (s:List Blk) (hn:s.length=n) (hs:StoRow w ao s) (hwf:WfS s) (hc:checkE s=0) :
 Calls Tryz.prog 15 #[.agg #[.slice ao n cap]] w fun e w'=>∃ ao',e=.returned (.tuple #[.slice ao' n n,.int .i64 0])/\Own .i64 3 w.heap.size w' (.slice ao' n n) (outL s)/\Below w.heap.size w w':=by
 obtain ⟨hz4,_,hki,hri,_⟩:=zAg s hc
 have HC:=lH hc
 have HN:=lH hn
 have h4:n<=400:=by omega
 have a1:(w.alloc (.cells #[.slice ao n cap] 24)).cell? ⟨w.heap.size,0,none⟩=some (.slice ao n cap):=by simp
 have hb0:=bA0 w (.cells #[.slice ao n cap] 24)
 have hz:w.heap.size<(w.alloc (.cells #[.slice ao n cap] 24)).heap.size:=by simp
 have hs:=hs.mono hb0
 clear hn hz4
 go_enter Tryz.func15,Tryz.ntmps15
 go_wp2_with fail
 refine (zCR _ _ _ _ s HN.out (by omega) hs hwf).mono ?_
 rintro e w1 ⟨rfl,hb1⟩
 generalize w.alloc (.cells #[.slice ao n cap] 24)=W0 at *
 have c1:=((bcell hb1).1 w.heap.size 0 hz).trans a1
 have l1:w.heap.size<w1.heap.size:=zMw hz hb1.size
 have hs:=hs.mono hb1
 clear a1 hz
 go_wp2_with fail
 refine (zGV _ _ _ _ s HN.out h4 hs hki).mono ?_
 rintro e w2 ⟨ao3,rfl,ho3,hb2⟩
 have c1:=((bcell hb2).1 w.heap.size 0 l1).trans c1
 have l1:w.heap.size<w2.heap.size:=zMw l1 hb2.size
 have hs:=hs.mono hb2
 go_wp2
 go_loopw [18] (fun i wr=>∃ k:Nat,k<=n/\i=.int .i64 k/\Own .i64 3 w1.heap.size wr (.slice ao3 n n) (outTo s k)/\Below w1.heap.size w1 wr) (fun i _=>n - (intOf i).toNat)
 case atStart=>exact ⟨0,zMO _,rfl,by rw [zJ2];exact ho3,hb2⟩
 case round=>
  clear ho3 c1 l1
  obtain ⟨k,hkn,rfl,hown,hbel⟩:=hrel
  by_cases hlt:k<n
  . have hks:k<s.length:=by have:=HN.out;omega
    have hbl:k<(belowL s).length:=by rw [zBA];exact hks
    have hol:=zCc s k (zNQ hks)
    have hs1:=‹StoRow w1 ao s›
    obtain ⟨b,o,rfl,hq⟩:=(hs1.mono hbel).at k hks
    have hB:=hq k hks
    have c0:=hB.refs
    have c1':=hB.level
    obtain ⟨v2,c2,kao,kcap,rfl,hrow,hcd⟩:=hB.kids
    obtain ⟨v3,c3,bao,bcap,rfl,hrow3,hcd3⟩:=hB.bytes
    have lb:=hB.lt
    obtain ⟨g,gcap,hv,hg,hcg,hfg,hgl⟩:=hown.at k (by omega)
    rw [hol,HN.out] at hv
    simp only [Value.slice.injEq,true_and] at hv
    obtain ⟨rfl,rfl⟩:=hv
    rw [outTo_at s k hks _ hbl] at hcg
    have hset:=(hown.set k (s[k].refs - (belowL s)[k])).mono (w':=(wr.setCell ⟨g,k,none⟩ (.int .i64 (s[k].refs - (belowL s)[k]))).alloc (.cells #[.int .i64 s[k].refs,.int .i64 s[k].level,.slice kao s[k].kids.length kcap,.slice bao s[k].bytes.length bcap] 99)) ((zMy _ _).alloc (zMs _) _)
    rw [zJ8 s k hks hbl] at hset
    have hbb:=zLH s hki (by have:=HN.out;omega) k hbl
    have hrb:=hri _ (zMr hks)
    have hwr:IntKind.i64.wrap (s[k].refs - (belowL s)[k])=s[k].refs - (belowL s)[k]:=zN7 _ (by omega)
    have HSET:=lH hset
    have hi1:(0:Int)<=k:=by omega
    have hi2:(k:Int)<n:=by omega
    have hgw:=hgl
    clear hq hB hrow hrow3 hcd hcd3 hset hbb hrb hol hs1 hown
    generalize (belowL s)[k]=bk at *
    go_wp2_with fail
    go_region
    go_wp2
    go_roundw
    case rel=>exact ⟨k+1,by omega,by go_num,HSET.out,((hbel.setCell (p:=⟨g,k,none⟩) hg _).alloc (by have:=hbel.size;simp;omega) _).drew⟩
    case measure=>simp [intOf];omega
  . obtain rfl:k=n:=by omega
    have ht:outTo s k=outL s:=by have:=HN.out;rw [<- this];exact zL5 s
    rw [ht] at hown
    clear ht
    go_wp2
    go_ret2
    exact ⟨_,rfl,hown.weaken (by have:=hb0.size;have:=hb1.size;omega),zAd hb0 (zAd hb1 hbel)⟩
end Go.Proofs.YtfmgdjgedhnmeaaGreat
