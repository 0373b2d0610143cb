/- What is wrong with a pool; what a right pool is. No program in sight. -/
import Derived.Test.YtfmgdjgedhnmeaaGreatPoolRow
import Derived.Test.YtfmgdjgedhnmeaaGreatReach
import Derived.Test.YtfmgdjgedhnmeaaGreatHeld
namespace Go.Proofs.YtfmgdjgedhnmeaaGreat
open Go.RowKit
set_option linter.unusedVariables false
set_option linter.unusedSimpArgs false
def rootsT (t:TenV):List Int:=t.sets.flatMap rootsL
def zCw (s:List Blk) (key:Int):Option ByteArray->List SetV->Int
 | _,[]=>0
 | p,x::l=>if setE s key x≠0 then setE s key x else if befB p x.nm=true then 6 else zCw s key (some x.nm) l
def tenE (s:List Blk) (t:TenV):Int:=
 if keyE t.key 0≠0 then keyE t.key 0 else if t.quota<0\/400<t.quota then 3 else if 3<t.sets.length then 2 else zCw s t.key none t.sets
def ownE (i:Int):List Int->List Int->Option (List Int)
 | own,[]=>some own
 | own,a::l=>if 0<own.getD (a - 1).toNat 0 then none else ownE i (own.set (a - 1).toNat (i+1)) l
def lessO (out l:List Int):List Int:=l.foldl (fun o a=>if 0<a then o.set (a - 1).toNat (o.getD (a - 1).toNat 0 - 1) else o) out
def tensE (s:List Blk):Int->Int->List Int->List Int->List TenV->Int
 | _,_,_,out,[]=>if out.any (fun n=>decide (n≠0))=true then 7 else 0
 | i,room,own,out,t::l=>
  if tenE s t≠0 then tenE s t else if room - t.quota<0 then 8 else if t.quota<((reachR s (rootsT t)).1.length:Int) then 8
  else match ownE i own (reachR s (rootsT t)).1 with
   | none=>7
   | some o=>tensE s (i+1) (room - t.quota) o (lessO out (rootsT t)) l
def poolE (p:PoolV):Int:=if checkE p.s≠0 then checkE p.s else if 3<p.tens.length then 2 else tensE p.s 0 ((p.s.length:Int) - 90) (List.replicate p.s.length 0) (outL p.s) p.tens
def tensC (s:List Blk) (i room:Int) (out:List Int) (t:TenV) (l:List TenV):Option (List Int)->Int
 | none=>7
 | some o=>tensE s (i+1) (room - t.quota) o (lessO out (rootsT t)) l
theorem zJ3 (s:List Blk) (i room:Int) (own out:List Int) (l:List TenV) (k:Nat) (h:k<l.length) :
 tensE s i room own out (l.drop k)=if tenE s l[k]≠0 then tenE s l[k] else if room - l[k].quota<0 then 8 else if l[k].quota<((reachR s (rootsT l[k])).1.length:Int) then 8
  else tensC s i room out l[k] (l.drop (k+1)) (ownE i own (reachR s (rootsT l[k])).1):=by
 rw [zNz h,tensE]
 rfl
theorem zMk (s:List Blk) (i room:Int) (own out:List Int) (l:List TenV) (k:Nat) (h:k=l.length):tensE s i room own out (l.drop k)=if out.any (fun n=>decide (n≠0))=true then 7 else 0:=by
 subst h
 rw [zOl]
 rfl
theorem zLj (i:Int) (own l:List Int) (k:Nat) (h:k<l.length):ownE i own (l.drop k)=if 0<own.getD (l[k] - 1).toNat 0 then none else ownE i (own.set (l[k] - 1).toNat (i+1)) (l.drop (k+1)):=by
 rw [zNz h]
 rfl
theorem zKm (out l:List Int) (k:Nat) (h:k<l.length):lessO out (l.take (k+1))=if 0<l[k] then (lessO out (l.take k)).set (l[k] - 1).toNat ((lessO out (l.take k)).getD (l[k] - 1).toNat 0 - 1) else lessO out (l.take k):=by
 unfold lessO
 rw [zMD h,zOg]
 rfl
theorem zFI (l:List SetV) (k:Nat) (h:k<l.length):(l.take (k+1)).flatMap rootsL=(l.take k).flatMap rootsL++rootsL l[k]:=by
 rw [zMD h,zNv]
 simp
def prevT (l:List SetV) (k:Nat):Option ByteArray:=if k=0 then none else (l[k - 1]?).map SetV.nm
theorem zH3 (s:List Blk) (key:Int) (l:List SetV) (k:Nat) (h:k<l.length) :
 zCw s key (prevT l k) (l.drop k)=if setE s key l[k]≠0 then setE s key l[k] else if befB (prevT l k) l[k].nm=true then 6 else zCw s key (prevT l (k+1)) (l.drop (k+1)):=by
 rw [zNz h]
 have e:prevT l (k+1)=some l[k].nm:=by simp [prevT,h]
 rw [e]
 rfl
theorem zJ1 (s:List Blk) (key:Int) (l:List SetV) (k:Nat) (h:k=l.length) (p:Option ByteArray):zCw s key p (l.drop k)=0:=by
 subst h
 rw [zOl]
 rfl
theorem zHa {s:List Blk} {key:Int}:∀ (l:List SetV) (p:Option ByteArray),zCw s key p l=0->(∀ x∈l,setE s key x=0)/\zAw (l.map SetV.nm)/\∀ q,p=some q->∀ x∈l,ltN q x.nm
 | [],p,_=>⟨by simp,.nil,by simp⟩
 | x::l,p,h=>by
  unfold zCw at h
  split at h
  . rename_i h1;exact absurd h h1
  . rename_i h1
    split at h
    . omega
    . rename_i h2
      obtain ⟨a1,a2,a3⟩:=zHa l _ h
      have hx:=a3 _ rfl
      refine ⟨?_,?_,?_⟩
      . intro y hy
        rcases zNP.1 hy with rfl | hy
        . simpa using h1
        . exact a1 y hy
      . refine List.Pairwise.cons ?_ a2
        intro z hz
        obtain ⟨y,hy,rfl⟩:=List.mem_map.1 hz
        exact hx y hy
      . rintro q rfl y hy
        have hq:ltN q x.nm:=zE0 (by simpa using h2)
        rcases zNP.1 hy with rfl | hy
        . exact hq
        . exact zBo hq (hx y hy)
theorem zHF {s:List Blk} {key:Int}:∀ (l:List SetV) (p:Option ByteArray),(∀ x∈l,setE s key x=0)->zAw (l.map SetV.nm)->(∀ q,p=some q->∀ x∈l,ltN q x.nm)->zCw s key p l=0
 | [],p,_,_,_=>rfl
 | x::l,p,h1,h2,h3=>by
  unfold zCw
  rw [if_neg (by rw [h1 x (by simp)];simp),if_neg]
  . rw [zNw] at h2
    obtain ⟨h4,h5⟩:=List.pairwise_cons.1 h2
    exact zHF l _ (fun y hy=>h1 y (by simp [hy])) h5 (fun q hq y hy=>by cases hq;exact h4 _ (List.mem_map.2 ⟨y,hy,rfl⟩))
  . cases p with
    | none=>simp [befB]
    | some q=>
     have:=h3 q rfl x (by simp)
     unfold ltN at this
     simp [befB,this]
structure TenOk (s:List Blk) (t:TenV):Prop where
 kok:keyE t.key 0=0
 q0:0<=t.quota
 q4:t.quota<=400
 len:t.sets.length<=3
 sets:∀ x∈t.sets,zAV s t.key x
 rise:zAw (t.sets.map SetV.nm)
theorem zKK {s:List Blk} {t:TenV} (h:tenE s t=0):TenOk s t:=by
 unfold tenE at h
 split at h
 . rename_i h1;exact absurd h h1
 . rename_i h1
   split at h
   . omega
   . rename_i h2
     split at h
     . omega
     . rename_i h3
       obtain ⟨a,b,_⟩:=zHa _ none h
       exact ⟨by simpa using h1,by omega,by omega,by omega,fun x hx=>zEg (a x hx),b⟩
theorem TenOk.zero {s:List Blk} {t:TenV} (h:TenOk s t):tenE s t=0:=by
 unfold tenE
 rw [if_neg (fun k=>k h.kok),if_neg (by have:=h.q0;have:=h.q4;omega),if_neg (by have:=h.len;omega)]
 exact zHF _ none (fun x hx=>(h.sets x hx).zero) h.rise (fun q hq=>by cases hq)
theorem TenOk.live {s:List Blk} {t:TenV} (h:TenOk s t):∀ a∈rootsT t,a=0\/(1<=a/\a<=s.length/\0<(blk s a).refs):=fun a ha=>by
 obtain ⟨x,hx,ha⟩:=List.mem_flatMap.1 ha
 have hr:=h.sets x hx
 rcases zNo.1 ha with ha | ha
 . exact zE4 hr.files a ha
 . obtain ⟨y,hy,ha⟩:=List.mem_flatMap.1 ha
   exact zE4 (hr.snaps y hy).2 a ha
theorem TenOk.rootsOk {s:List Blk} {t:TenV} (h:TenOk s t):rootsOk s (rootsT t)=true:=by
 unfold Go.Proofs.YtfmgdjgedhnmeaaGreat.rootsOk
 rw [zNF]
 intro a ha
 rcases h.live a ha with h0 | ⟨h1,h2,h3⟩
 . simp [h0]
 . rw [zGx h1 h2 h3];simp
theorem TenOk.reach {s:List Blk} {t:TenV} (hc:checkE s=0) (h:TenOk s t):reachR s (rootsT t)=(reachL s (rootsT t),0):=by
 unfold reachR
 rw [if_neg (fun k=>k hc),if_neg (by rw [h.rootsOk];simp)]
theorem zCn {s:List Blk} {l:List Int} {a:Int} (h:a∈reachL s l):1<=a/\a<=s.length:=by
 unfold reachL addrs at h
 obtain ⟨h,_⟩:=zOr.1 h
 obtain ⟨i,hi,rfl⟩:=List.mem_map.1 h
 have:=List.mem_range.1 hi
 omega
theorem zCZ (s:List Blk) (l:List Int):(reachL s l).Nodup:=by
 refine List.Pairwise.filter _ ?_
 unfold addrs
 rw [List.pairwise_map]
 exact List.nodup_range.imp fun h e=>h (by omega)
theorem zEI {l:List Int} {k:Nat} {x:Int} (h:k<l.length) (j:Nat):(l.set k x).getD j 0=if j=k then x else l.getD j 0:=by
 simp only [zMH,List.getElem?_set]
 by_cases e:k=j
 . subst e;simp [h]
 . rw [if_neg e,if_neg (fun h=>e h.symm)]
theorem zIJ {i:Int}:∀ (l own o:List Int),ownE i own l=some o->o.length=own.length
 | [],own,o,h=>by simp only [ownE,zMz] at h;rw [h]
 | a::l,own,o,h=>by
  unfold ownE at h
  split at h
  . cases h
  . rw [zIJ l _ o h,zMK]
theorem zHw {i:Int} (hi:0<=i):∀ (l own o:List Int),l.Nodup->(∀ a∈l,1<=a/\a<=own.length)->ownE i own l=some o->
 (∀ a∈l,¬ 0<own.getD (a - 1).toNat 0)/\∀ j,j<own.length->(0<o.getD j 0↔0<own.getD j 0\/(j:Int)+1∈l)
 | [],own,o,_,_,h=>by
  simp only [ownE,zMz] at h
  subst h
  exact ⟨by simp,by simp⟩
 | a::l,own,o,hn,hb,h=>by
  unfold ownE at h
  split at h
  . cases h
  . rename_i h1
    obtain ⟨hn1,hn2⟩:=List.nodup_cons.1 hn
    have ha:=hb a (by simp)
    have hk:(a - 1).toNat<own.length:=by omega
    obtain ⟨h3,h4⟩:=zHw hi l _ o hn2 (fun x hx=>by rw [zMK];exact hb x (by simp [hx])) h
    refine ⟨fun x hx=>?_,fun j hj=>?_⟩
    . rcases zNP.1 hx with rfl | hx
      . exact h1
      . have:=h3 x hx
        rw [zEI hk] at this
        have hxa:x≠a:=fun e=>hn1 (e▸hx)
        have hxb:=hb x (by simp [hx])
        rwa [if_neg (by omega)] at this
    . rw [h4 j (by rw [zMK];exact hj),zEI hk]
      by_cases e:j=(a - 1).toNat
      . rw [if_pos e]
        have:(j:Int)+1=a:=by omega
        simp only [this,zNP,true_or,or_true,iff_true]
        left;omega
      . rw [if_neg e]
        have:(j:Int)+1≠a:=by omega
        simp [this]
theorem zMb {i:Int} (hi:0<=i):∀ (l own:List Int),l.Nodup->(∀ a∈l,1<=a/\a<=own.length)->(∀ a∈l,¬ 0<own.getD (a - 1).toNat 0)->∃ o,ownE i own l=some o
 | [],own,_,_,_=>⟨own,rfl⟩
 | a::l,own,hn,hb,h=>by
  obtain ⟨hn1,hn2⟩:=List.nodup_cons.1 hn
  have ha:=hb a (by simp)
  have hk:(a - 1).toNat<own.length:=by omega
  unfold ownE
  rw [if_neg (h a (by simp))]
  refine zMb hi l _ hn2 (fun x hx=>by rw [zMK];exact hb x (by simp [hx])) fun x hx=>?_
  rw [zEI hk]
  have hxa:x≠a:=fun e=>hn1 (e▸hx)
  have hxb:=hb x (by simp [hx])
  rw [if_neg (by omega)]
  exact h x (by simp [hx])
theorem zHz:∀ (l out:List Int),(lessO out l).length=out.length
 | [],_=>rfl
 | a::l,out=>by
  have:=zHz l (if 0<a then out.set (a - 1).toNat (out.getD (a - 1).toNat 0 - 1) else out)
  unfold lessO at *
  rw [zNa,this]
  split<;>simp
theorem zFa:∀ (l out:List Int),(∀ a∈l,a=0\/(1<=a/\a<=out.length))->∀ j,j<out.length->(lessO out l).getD j 0=out.getD j 0 - ((l.count ((j:Int)+1):Nat):Int)
 | [],out,_,j,_=>by simp [lessO]
 | a::l,out,h,j,hj=>by
  have ih:=zFa l (if 0<a then out.set (a - 1).toNat (out.getD (a - 1).toNat 0 - 1) else out) (fun x hx=>by
   have:=h x (by simp [hx])
   split
   . rw [zMK];exact this
   . exact this) j (by split<;>simp [hj])
  unfold lessO at *
  rw [zNa,ih]
  rcases h a (by simp) with h0 | ⟨h1,h2⟩
  . subst h0
    rw [if_neg (by omega),zNn (by simp;omega)]
  . rw [if_pos (by omega),zEI (by omega),zNU]
    by_cases e:j=(a - 1).toNat
    . have:(j:Int)+1=a:=by omega
      rw [if_pos e,if_pos (by simp [this]),e]
      simp only [Int.natCast_add,Int.natCast_one]
      omega
    . have:a≠(j:Int)+1:=by omega
      rw [if_neg e,if_neg (by simp [this])]
      simp
structure zAM (p:PoolV):Prop where
 chk:checkE p.s=0
 len:p.tens.length<=3
 ten:∀ t∈p.tens,TenOk p.s t
 room:p.tens≠[]->(p.tens.map TenV.quota).sum+90<=p.s.length
 fits:∀ t∈p.tens,((reachL p.s (rootsT t)).length:Int)<=t.quota
 apart:p.tens.Pairwise fun t u=>∀ a∈reachL p.s (rootsT t),a∉reachL p.s (rootsT u)
 out:∀ j,j<p.s.length->outA p.s j=(((p.tens.flatMap rootsT).count ((j:Int)+1):Nat):Int)
theorem zHC {s:List Blk}:∀ (l:List TenV),(∀ t∈l,TenOk s t)->0<=(l.map TenV.quota).sum
 | [],_=>by simp
 | t::l,h=>by
  have h1:=(h t (by simp)).q0
  have h2:=zHC l fun u hu=>h u (by simp [hu])
  simp only [zNw,zOd]
  omega
theorem zIT (out:List Int):out.any (fun n=>decide (n≠0))=true↔¬ ∀ j,j<out.length->out.getD j 0=0:=by
 rw [zNZ]
 constructor
 . rintro ⟨x,hx,h0⟩ h
   obtain ⟨j,hj,rfl⟩:=List.mem_iff_getElem.1 hx
   have:=h j hj
   rw [zMH,zMt hj,zM3] at this
   simp [this] at h0
 . intro h
   refine zNf fun hn=>h fun j hj=>?_
   refine zNf fun h0=>hn ⟨out[j],zMr hj,?_⟩
   rw [zMH,zMt hj,zM3] at h0
   simp [h0]
theorem zE6 {s:List Blk} (hc:checkE s=0):∀ (l:List TenV) (i room:Int) (own out:List Int),0<=i->own.length=s.length->out.length=s.length->
 (tensE s i room own out l=0↔(∀ t∈l,TenOk s t)/\(l≠[]->(l.map TenV.quota).sum<=room)/\(∀ t∈l,((reachL s (rootsT t)).length:Int)<=t.quota)/\
  (∀ t∈l,∀ a∈reachL s (rootsT t),¬ 0<own.getD (a - 1).toNat 0)/\(l.Pairwise fun t u=>∀ a∈reachL s (rootsT t),a∉reachL s (rootsT u))/\
  ∀ j,j<s.length->out.getD j 0=(((l.flatMap rootsT).count ((j:Int)+1):Nat):Int))
 | [],i,room,own,out,hi,ho,hl=>by
  unfold tensE
  constructor
  . intro h
    split at h
    . omega
    . rename_i h1
      rw [zIT] at h1
      refine ⟨by simp,fun h=>absurd rfl h,by simp,by simp,.nil,fun j hj=>?_⟩
      simpa using zNf fun h2=>h1 fun h3=>h2 (h3 j (by omega))
  . rintro ⟨-,-,-,-,-,h⟩
    rw [if_neg]
    rw [zIT]
    exact fun h1=>h1 fun j hj=>by simpa using h j (by omega)
 | t::l,i,room,own,out,hi,ho,hl=>by
  by_cases ht:tenE s t=0
  rotate_left
  . unfold tensE
    rw [if_pos ht]
    exact ⟨fun h=>absurd h ht,fun h=>(h.1 t (by simp)).zero⟩
  have hT:=zKK ht
  have hR:=hT.reach hc
  unfold tensE
  rw [if_neg (fun h=>h ht),hR]
  by_cases h1:room - t.quota<0
  . rw [if_pos h1]
    refine ⟨fun h=>by omega,fun h=>?_⟩
    have h3:=h.2.1 (by simp)
    have:=zHC l fun u hu=>h.1 u (by simp [hu])
    simp only [zNw,zOd] at h3
    omega
  rw [if_neg h1]
  simp only
  by_cases h2:t.quota<((reachL s (rootsT t)).length:Int)
  . rw [if_pos h2]
    exact ⟨fun h=>by omega,fun h=>by have:=h.2.2.1 t (by simp);omega⟩
  rw [if_neg h2]
  have hnd:=zCZ s (rootsT t)
  have hin:∀ a∈reachL s (rootsT t),1<=a/\a<=own.length:=fun a ha=>by rw [ho];exact zCn ha
  cases hown:ownE i own (reachL s (rootsT t)) with
  | none=>
   refine ⟨fun h=>by simp at h,fun h=>?_⟩
   obtain ⟨o,e⟩:=zMb hi _ own hnd hin (h.2.2.2.1 t (by simp))
   rw [hown] at e
   cases e
  | some o=>
   obtain ⟨g1,g2⟩:=zHw hi _ own o hnd hin hown
   have hlive:∀ a∈rootsT t,a=0\/(1<=a/\a<=out.length):=fun a ha=>by
    rw [hl]
    exact (hT.live a ha).imp id fun h=>⟨h.1,h.2.1⟩
   have ih:=zE6 hc l (i+1) (room - t.quota) o (lessO out (rootsT t)) (by omega) (by rw [zIJ _ _ _ hown,ho]) (by rw [zHz,hl])
   simp only
   rw [ih]
   have hog:∀ a:Int,1<=a->a<=s.length->(0<o.getD (a - 1).toNat 0↔0<own.getD (a - 1).toNat 0\/a∈reachL s (rootsT t)):=fun a a1 a2=>by
    have:=g2 (a - 1).toNat (by omega)
    rwa [show (((a - 1).toNat:Nat):Int)+1=a from by omega] at this
   constructor
   . rintro ⟨e1,e2,e3,e4,e5,e6⟩
     refine ⟨?_,?_,?_,?_,?_,?_⟩
     . intro u hu
       rcases zNP.1 hu with rfl | hu
       . exact hT
       . exact e1 u hu
     . intro _
       simp only [zNw,zOd]
       cases l with
       | nil=>simp;omega
       | cons u l=>have:=e2 (by simp);omega
     . intro u hu
       rcases zNP.1 hu with rfl | hu
       . omega
       . exact e3 u hu
     . intro u hu a ha
       rcases zNP.1 hu with rfl | hu
       . exact g1 a ha
       . intro h0
         obtain ⟨a1,a2⟩:=zCn ha
         exact e4 u hu a ha ((hog a a1 a2).2 (.inl h0))
     . refine List.Pairwise.cons ?_ e5
       intro u hu a ha hau
       obtain ⟨a1,a2⟩:=zCn ha
       exact e4 u hu a hau ((hog a a1 a2).2 (.inr ha))
     . intro j hj
       have:=e6 j hj
       rw [zFa _ _ hlive j (by omega)] at this
       rw [zM0,zMZ]
       omega
   . rintro ⟨e1,e2,e3,e4,e5,e6⟩
     obtain ⟨e7,e8⟩:=List.pairwise_cons.1 e5
     have e2:=e2 (by simp)
     simp only [zNw,zOd] at e2
     refine ⟨fun u hu=>e1 u (by simp [hu]),fun _=>by omega,fun u hu=>e3 u (by simp [hu]),?_,e8,?_⟩
     . intro u hu a ha h0
       obtain ⟨a1,a2⟩:=zCn ha
       rcases (hog a a1 a2).1 h0 with h0 | h0
       . exact e4 u (by simp [hu]) a ha h0
       . exact e7 u hu a h0 ha
     . intro j hj
       have:=e6 j hj
       rw [zM0,zMZ] at this
       rw [zFa _ _ hlive j (by omega)]
       omega
theorem zG0 (s:List Blk) (j:Nat) (h:j<s.length):(outL s).getD j 0=outA s j:=by
 rw [zDD s j h]
 simp [outA,zAk s j h]
theorem zCC {p:PoolV} (h:poolE p=0):zAM p:=by
 unfold poolE at h
 split at h
 . rename_i h1;exact absurd h h1
 . rename_i h1
   have hc:checkE p.s=0:=by simpa using h1
   split at h
   . omega
   . rename_i h2
     obtain ⟨e1,e2,e3,e4,e5,e6⟩:=(zE6 hc _ 0 _ _ _ (zNc _) (by simp) (by simp [outL])).1 h
     exact ⟨hc,by omega,e1,fun h=>by have:=e2 h;omega,e3,e5,fun j hj=>by rw [<- zG0 _ _ hj];exact e6 j hj⟩
theorem zAM.zero {p:PoolV} (h:zAM p):poolE p=0:=by
 unfold poolE
 rw [if_neg (fun k=>k h.chk),if_neg (by have:=h.len;omega)]
 refine (zE6 h.chk _ 0 _ _ _ (zNc _) (by simp) (by simp [outL])).2 ⟨h.ten,fun k=>by have:=h.room k;omega,h.fits,?_,h.apart,?_⟩
 . intro t _ a _
   rw [zMH,List.getElem?_replicate]
   split<;>simp
 . intro j hj
   rw [zG0 _ _ hj]
   exact h.out j hj
theorem zC6 {s:List Blk} {t:TenV} (h:TenOk s t):(rootsT t).length<=72:=by
 have key:∀ l:List SetV,(∀ x∈l,zAV s t.key x)->(l.flatMap rootsL).length<=24*l.length:=by
  intro l
  induction l with
  | nil=>simp
  | cons x l ih=>
   intro h
   have h1:=(h x (by simp)).small.roots
   have h2:=ih fun y hy=>h y (by simp [hy])
   simp only [zM0,zMG,zMT] at *
   omega
 have:=key t.sets h.sets
 have:=h.len
 unfold rootsT
 omega
end Go.Proofs.YtfmgdjgedhnmeaaGreat
