/- What a tenant asks of a pool, in plain words; a pool stays right. No program in sight. · Each ask of a pool leaves it one. No program in sight. · Each ask of a pool leaves it one: the steps. No program in sight. -/
import Derived.Test.YtfmgdjgedhnmeaaGreatTwinQ
namespace Go.Proofs.YtfmgdjgedhnmeaaGreat
open Go.RowKit
set_option linter.unusedVariables false
set_option linter.unusedSimpArgs false
def setAt (l:List SetV) (k:Nat):SetV:=(l[k]?).getD noSet
def layP (t:TenV) (x:SetV):TenV×Int:=
 if nameB x.nm=false then (t,1) else if placeB (t.sets.map SetV.nm) x.nm=true then (t,6) else if t.sets.length=3 then (t,2)
 else ({ t with sets:=insL t.sets (placeN (t.sets.map SetV.nm) x.nm) x },0)
def doT (s:List Blk) (t:TenV) (a:AskV):List Blk×TenV×AnsV×Int:=
 if a.kind=1 then (s,(layP t ⟨a.sname,[],[]⟩).1,noAns,(layP t ⟨a.sname,[],[]⟩).2)
 else if a.kind=13 then (s,t,⟨0,(reachR s (rootsT t)).1.length,[],[]⟩,0)
 else if placeB (t.sets.map SetV.nm) a.sname=false then (s,t,noAns,5)
 else if a.kind=11\/a.kind=12 then (s,t,(lookR s t.key (setAt t.sets (placeN (t.sets.map SetV.nm) a.sname)) a).1,(lookR s t.key (setAt t.sets (placeN (t.sets.map SetV.nm) a.sname)) a).2)
 else if a.kind=2 then
  (if (zAN s t.key (setAt t.sets (placeN (t.sets.map SetV.nm) a.sname))).2≠0 then (s,t,noAns,(zAN s t.key (setAt t.sets (placeN (t.sets.map SetV.nm) a.sname))).2)
   else ((zAN s t.key (setAt t.sets (placeN (t.sets.map SetV.nm) a.sname))).1,{ t with sets:=t.sets.eraseIdx (placeN (t.sets.map SetV.nm) a.sname) },noAns,0))
 else if a.kind=10 then
  (if (zAL s t.key (setAt t.sets (placeN (t.sets.map SetV.nm) a.sname)) a.dest a.file).2.2≠0 then (s,t,noAns,(zAL s t.key (setAt t.sets (placeN (t.sets.map SetV.nm) a.sname)) a.dest a.file).2.2)
   else ((zAL s t.key (setAt t.sets (placeN (t.sets.map SetV.nm) a.sname)) a.dest a.file).1,(layP t (zAL s t.key (setAt t.sets (placeN (t.sets.map SetV.nm) a.sname)) a.dest a.file).2.1).1,noAns,(layP t (zAL s t.key (setAt t.sets (placeN (t.sets.map SetV.nm) a.sname)) a.dest a.file).2.1).2))
 else if (doR writeW s t.key (setAt t.sets (placeN (t.sets.map SetV.nm) a.sname)) a).2.2≠0 then (s,t,noAns,(doR writeW s t.key (setAt t.sets (placeN (t.sets.map SetV.nm) a.sname)) a).2.2)
 else if t.quota<((reachR (doR writeW s t.key (setAt t.sets (placeN (t.sets.map SetV.nm) a.sname)) a).1 (rootsT { t with sets:=t.sets.set (placeN (t.sets.map SetV.nm) a.sname) (doR writeW s t.key (setAt t.sets (placeN (t.sets.map SetV.nm) a.sname)) a).2.1 })).1.length:Int) then (s,t,noAns,8)
 else ((doR writeW s t.key (setAt t.sets (placeN (t.sets.map SetV.nm) a.sname)) a).1,{ t with sets:=t.sets.set (placeN (t.sets.map SetV.nm) a.sname) (doR writeW s t.key (setAt t.sets (placeN (t.sets.map SetV.nm) a.sname)) a).2.1 },noAns,0)
def tenAt (p:PoolV) (i:Int):TenV:=(p.tens[i.toNat]?).getD ⟨0,0,[]⟩
def doP (p:PoolV) (i:Int) (a:AskV):PoolV×AnsV×Int:=
 if poolE p≠0 then (⟨[],[]⟩,noAns,poolE p) else if i<0\/(p.tens.length:Int)<=i then (⟨[],[]⟩,noAns,5)
 else if (doT p.s (tenAt p i) a).2.2.2≠0 then (p,⟨(doT p.s (tenAt p i) a).2.2.2,0,[],[]⟩,0)
 else (⟨(doT p.s (tenAt p i) a).1,p.tens.set i.toNat (doT p.s (tenAt p i) a).2.1⟩,(doT p.s (tenAt p i) a).2.2.1,0)
theorem zEq {s:List Blk} (hc:checkE s=0) {R:List Int} (hR:rootsOk s R=true):Shut s fun a=>a∈reachL s R:=fun a ha=>by
 have hT:=zDz s (zAg s hc).2.1
 obtain ⟨h1,h2⟩:=zCn ha
 refine ⟨h1,h2,fun k hk=>?_⟩
 have ha2:=(zCm hc hR a).1 ha
 have hth:=zD5 hc hR ha2
 obtain ⟨r,hr,har⟩:=List.mem_flatMap.1 ha2
 have hrt:zAi s r=true:=by
  have h3:=zNF.1 hR r hr
  simp only [zNk,decide_eq_true_eq] at h3
  rcases h3 with h3 | h3
  . subst h3
    rw [zBn] at har
    cases har
  . exact h3
 rcases hT.kid a hth k hk with h0 | ⟨h3,-⟩
 . exact .inl h0
 . right
   show k∈reachL s R
   rw [zCm hc hR]
   exact List.mem_flatMap.2 ⟨r,hr,zCH hT r hrt a har k (zG2 hT hth hk h3)⟩
theorem zJn {s:List Blk} {D:Int->Prop} (hs:Shut s D):∀ (f:Nat) (a:Int),(a=0\/D a)->∀ x∈reachF f s a,D x
 | 0,a,_,x,hx=>by cases hx
 | f+1,a,ha,x,hx=>by
  unfold reachF at hx
  split at hx
  . cases hx
  . rename_i h0
    rcases ha with e | ha
    . exact absurd e h0
    . rcases zNP.1 hx with rfl | hx
      . exact ha
      . obtain ⟨k,hk,hx⟩:=List.mem_flatMap.1 hx
        exact zJn hs f k ((hs a ha).2.2 k hk) x hx
theorem zDb {s:List Blk} {D:Int->Prop} (hs:Shut s D) {R:List Int} (hR:∀ k∈R,k=0\/D k):∀ x∈reachL s R,D x:=fun x hx=>by
 obtain ⟨-,-,h⟩:=zEf.1 hx
 obtain ⟨r,hr,h⟩:=List.mem_flatMap.1 h
 exact zJn hs 4 r (hR r hr) x h
theorem zCF {s:List Blk} (hc:checkE s=0) {R:List Int} (hR:rootsOk s R=true):∀ k∈R,k=0\/k∈reachL s R:=fun k hk=>by
 have h3:=zNF.1 hR k hk
 simp only [zNk,decide_eq_true_eq] at h3
 refine h3.imp id fun h=>?_
 rw [zCm hc hR]
 exact List.mem_flatMap.2 ⟨k,hk,zEb (zDz s (zAg s hc).2.1) h⟩
theorem zCP {s:List Blk} (hc:checkE s=0) {R:List Int} (hR:rootsOk s R=true):∀ a∈reachL s R,zAi s a=true:=fun a ha=>zD5 hc hR ((zCm hc hR a).1 ha)
theorem zJZ {s s':List Blk} {R R':List Int} (hl:s'.length=s.length) (h:∀ x,x∈reachL s' R'↔x∈reachL s R):reachL s' R'=reachL s R:=by
 unfold reachL
 have e:addrs s'=addrs s:=by unfold addrs;rw [hl]
 rw [e]
 refine List.filter_congr fun x hx=>?_
 have hx2:x∈addrs s':=by rw [e];exact hx
 have h1:=h x
 unfold reachL at h1
 simp only [zOr,hx,hx2,true_and,decide_eq_true_eq] at h1
 rw [zOt,decide_eq_true_eq,decide_eq_true_eq]
 exact h1
structure zCV (s:List Blk) (t:TenV) (s':List Blk) (t':TenV):Prop where
 chk:checkE s'=0
 wf:WfS s'
 len:s'.length=s.length
 ten:TenOk s' t'
 key:t'.key=t.key
 quota:t'.quota=t.quota
 fr:∃ D',Fr s (fun a=>a∈reachL s (rootsT t)) s' D'/\∀ a∈reachL s' (rootsT t'),D' a
 out:∀ j,j<s.length->outA s' j+(((rootsT t).count ((j:Int)+1):Nat):Int)=outA s j+(((rootsT t').count ((j:Int)+1):Nat):Int)
 fits:((reachL s' (rootsT t')).length:Int)<=t.quota
theorem zCV.other {s:List Blk} {t:TenV} {s':List Blk} {t':TenV} (h:zCV s t s' t') (hc:checkE s=0) {u:TenV} (hu:TenOk s u) (ha:∀ a∈reachL s (rootsT u),a∉reachL s (rootsT t)) :
 Tw s s' (Same fun a=>a∈reachL s (rootsT u))/\TenOk s' u/\reachL s' (rootsT u)=reachL s (rootsT u):=by
 obtain ⟨D',hf,-⟩:=h.fr
 have hro:=hu.rootsOk
 have hT:Tw s s' (Same fun a=>a∈reachL s (rootsT u)):=zLq h.len (zEq hc hro) fun a hd=>hf.keep a (zCP hc hro a hd) (ha a hd)
 have hrs:∀ x∈u.sets,∀ k∈rootsL x,k=0\/k∈reachL s (rootsT u):=fun x hx k hk=>zCF hc hro k (List.mem_flatMap.2 ⟨x,hx,hk⟩)
 refine ⟨hT,⟨hu.kok,hu.q0,hu.q4,hu.len,fun x hx=>tw_right hT hc h.chk (zI3 (hrs x hx)) (hu.sets x hx),hu.rise⟩,zJZ h.len fun x=>⟨fun hx=>?_,fun hx=>?_⟩⟩
 . have hR:Rel (E0 fun a b=>Same (fun a=>a∈reachL s (rootsT u)) b a) (rootsT u) (rootsT u):=rel_symm (zDd (zCF hc hro))
   obtain ⟨x',⟨e,-⟩,h2⟩:=zI1 hT.symm hR x hx
   rw [<- e];exact h2
 . obtain ⟨x',⟨rfl,-⟩,h2⟩:=zI1 hT (zDd (zCF hc hro)) x hx
   exact h2
theorem zFm {α:Type} (f:α->List Int) (l:List α) (i:Nat) (h:i<l.length) (b:α) (v:Int):((l.set i b).flatMap f).count v+(f l[i]).count v=(l.flatMap f).count v+(f b).count v:=by
 have e1:l=l.take i++l[i]::l.drop (i+1):=by
  rw [List.getElem_cons_drop]
  exact (zNC i l).symm
 have e2:l.set i b=l.take i++b::l.drop (i+1):=zN2▸(by rw [if_pos h])
 have c1:(l.flatMap f).count v=((l.take i).flatMap f).count v+((f l[i]).count v+((l.drop (i+1)).flatMap f).count v):=by
  have c:=congrArg (fun m=>(m.flatMap f).count v) e1
  simp only [zNv,zM0,zMZ] at c
  exact c
 have c2:((l.set i b).flatMap f).count v=((l.take i).flatMap f).count v+((f b).count v+((l.drop (i+1)).flatMap f).count v):=by
  rw [e2]
  simp [zNv,zMZ]
 omega
theorem zCV.pool {p:PoolV} (hp:zAM p) {i:Nat} (hi:i<p.tens.length) {s':List Blk} {t':TenV} (h:zCV p.s p.tens[i] s' t'):zAM ⟨s',p.tens.set i t'⟩:=by
 have hap:=List.pairwise_iff_getElem.1 hp.apart
 have hne:∀ k,(hk:k<p.tens.length)->k≠i->∀ a∈reachL p.s (rootsT p.tens[k]),a∉reachL p.s (rootsT p.tens[i]):=fun k hk hki a ha ha2=>by
  rcases zNp k i with h1 | h1
  . exact hap k i hk hi h1 a ha ha2
  . exact hap i k hi hk (by omega) a ha2 ha
 have hoth:=fun k hk hki=>h.other hp.chk (hp.ten _ (zMr hk)) (hne k hk hki)
 have hget:∀ k (hk:k<p.tens.length),(p.tens.set i t')[k]'(by simpa using hk)=if i=k then t' else p.tens[k]:=fun k hk=>zMP ..
 refine ⟨h.chk,by simpa using hp.len,fun u hu=>?_,fun hne0=>?_,fun u hu=>?_,?_,fun j hj=>?_⟩
 . obtain ⟨k,hk,rfl⟩:=List.mem_iff_getElem.1 hu
   have hk':k<p.tens.length:=by simpa using hk
   simp only at hk ⊢
   rw [hget k hk']
   split
   . exact h.ten
   . rename_i e
     exact (hoth k hk' (fun e'=>e e'.symm)).2.1
 . have hq:(p.tens.set i t').map TenV.quota=p.tens.map TenV.quota:=by
    rw [List.map_set,h.quota]
    exact zNd (by simp) fun k h1 h2=>by
     rw [zMP]
     split
     . rename_i e;subst e;simp
     . rfl
   simp only
   rw [hq,h.len]
   exact hp.room (fun e=>by rw [e] at hi;simp at hi)
 . obtain ⟨k,hk,rfl⟩:=List.mem_iff_getElem.1 hu
   have hk':k<p.tens.length:=by simpa using hk
   simp only at hk ⊢
   rw [hget k hk']
   split
   . rw [h.quota];exact h.fits
   . rename_i e
     rw [(hoth k hk' (fun e'=>e e'.symm)).2.2]
     exact hp.fits _ (zMr hk')
 . rw [List.pairwise_iff_getElem]
   intro k m hk hm hkm a ha hb
   have hk':k<p.tens.length:=by simpa using hk
   have hm':m<p.tens.length:=by simpa using hm
   simp only at ha hb
   rw [hget k hk'] at ha
   rw [hget m hm'] at hb
   obtain ⟨D',hf,hD⟩:=h.fr
   have key:∀ k (hk:k<p.tens.length),k≠i->a∈reachL s' (rootsT p.tens[k])->a∈reachL s' (rootsT t')->False:=fun k hk hki h1 h2=>by
    rw [(hoth k hk hki).2.2] at h1
    rcases hf.old a (hD a h2) with h3 | h3
    . exact hne k hk hki a h1 h3
    . rw [zCP hp.chk (hp.ten _ (zMr hk)).rootsOk a h1] at h3
      cases h3
   split at ha
   . rename_i e
     rw [if_neg (by omega)] at hb
     exact key m hm' (by omega) hb ha
   . rename_i e
     split at hb
     . exact key k hk' (by omega) ha hb
     . rename_i e2
       rw [(hoth k hk' (fun e'=>e e'.symm)).2.2] at ha
       rw [(hoth m hm' (fun e'=>e2 e'.symm)).2.2] at hb
       exact hap k m hk' hm' hkm a ha hb
 . have h1:=h.out j (by rw [<- h.len];exact hj)
   have h2:=hp.out j (by rw [<- h.len];exact hj)
   have h3:=zFm rootsT p.tens i hi t' ((j:Int)+1)
   simp only at hj ⊢
   omega
end Go.Proofs.YtfmgdjgedhnmeaaGreat

namespace Go.Proofs.YtfmgdjgedhnmeaaGreat
open Go.RowKit
set_option linter.unusedVariables false
set_option linter.unusedSimpArgs false
theorem zC5 {s:List Blk} {key:Int} {x:SetV} (hw:WfS s) (hf:∀ y∈s,y.refs<=999000) (hR:zAV s key x) (hh:heldE s x=0):zCs (lessL s (rootsL x)) s/\SHold (lessL s (rootsL x)) s s key x 0 3:=by
 have hg:=Good.few_ofM hR.chk hw hf
 have hrt:∀ r∈rootsL x,zAs s 3 r:=fun r hr=>by
  rcases zNo.1 hr with h1 | h1
  . obtain ⟨e,he,rfl⟩:=List.mem_map.1 h1
    exact zBl (hR.all e (zNo.2 (.inl he)))
  . obtain ⟨y,hy,h2⟩:=List.mem_flatMap.1 h1
    obtain ⟨e,he,rfl⟩:=List.mem_map.1 h2
    exact zBl (hR.all e (zNo.2 (.inr (List.mem_flatMap.2 ⟨y,hy,he⟩))))
 have hlow:∀ a∈rootsL x,Low s 4 a:=fun a ha=>by
  rcases hrt a ha with h0 | ⟨h1,h2⟩
  . exact .inl h0
  . obtain ⟨i,hi,e,-⟩:=zAt h1
    exact .inr ⟨by omega,by omega,by omega⟩
 have hle:=(zJq hR).1 hh
 have hL:zDI s (lessL s (rootsL x)) (rootsL x):=zCE 4 (zGC 4) (rootsL x) s [] hg.lv.1 hg.live hlow fun j hj=>by simpa using hle j hj
 have hlen:=hL.sub.len
 have hnn:∀ j,j<s.length->0<=outA (lessL s (rootsL x)) j:=fun j hj=>by
  rw [hL.out j hj]
  have:=hle j hj
  omega
 have hgc:=zGE hg hL.sub hnn
 have hkp:=zCX hL.sub hgc
 refine ⟨⟨zLv s _ hR.chk hL.sub hnn,hgc.wf,hg,hlen.symm,fun j hj=>by rw [hL.out j (by omega)];omega⟩,⟨hg.weaken (by omega),hlen.symm,hkp,fun j hj=>by rw [hL.out j (by omega)];omega,hrt⟩,hR,liveB s,[],?_,zMs 0,zEE hrt,fun i hi=>?_⟩
 . have h1:=zGo hg
   refine ⟨h1.live,fun i hi hp=>h1.base i hi ?_,h1.closed⟩
   have h2:=(hkp _ (zEM (by omega) hp)).1
   obtain ⟨q,hq,e,hpos⟩:=zB3 h2
   obtain rfl:q=i:=by omega
   exact hpos
 . obtain ⟨h1,h2,h3,-⟩:=zAO.1 hi
   unfold liveB at h3
   simp [h1,h2] at h3
theorem zC4 {p:PoolV} (hp:zAM p):∀ b∈p.s,b.refs<=999000:=fun b hb=>by
 obtain ⟨j,hj,rfl⟩:=List.mem_iff_getElem.1 hb
 have h1:=hp.out j hj
 have hz:=zAg p.s hp.chk
 have hg:=fun M (h:Good p.s M)=>h
 have h4:(kidsOf p.s).length<=4*p.s.length:=by
  unfold kidsOf
  have:∀ l:List Blk,(∀ x∈l,x.kids.length<=4)->(l.flatMap Blk.kids).length<=4*l.length:=by
   intro l
   induction l with
   | nil=>intro _;simp
   | cons x l ih=>
    intro h
    have h5:=h x (by simp)
    have h6:=ih fun y hy=>h y (by simp [hy])
    simp only [zM0,zMG,zMT]
    omega
  exact this _ fun x hx=>(hz.2.2.1 x hx).1
 have h5:(kidsOf p.s).count ((j:Int)+1)<=(kidsOf p.s).length:=zNj
 have h6:(p.tens.flatMap rootsT).count ((j:Int)+1)<=(p.tens.flatMap rootsT).length:=zNj
 have h7:(p.tens.flatMap rootsT).length<=72*p.tens.length:=by
  have:∀ l:List TenV,(∀ x∈l,TenOk p.s x)->(l.flatMap rootsT).length<=72*l.length:=by
   intro l
   induction l with
   | nil=>intro _;simp
   | cons x l ih=>
    intro h
    have h5:=zC6 (h x (by simp))
    have h6:=ih fun y hy=>h y (by simp [hy])
    simp only [zM0,zMG,zMT]
    omega
  exact this _ hp.ten
 have h8:=hp.len
 have h9:=hz.1
 unfold outA at h1
 rw [zAk p.s j hj] at h1
 omega
theorem zLo {p:PoolV} (hp:zAM p) (hne:p.tens≠[]):used p.s+90<=p.s.length:=by
 have h1:((usedL p.s).map fun (i:Nat)=>(i:Int)+1).Nodup:=by
  rw [List.Nodup,List.pairwise_map]
  exact List.Pairwise.imp (fun {a b} h e=>h (by omega)) (zER p.s)
 have h2:=zB8 _ (p.tens.flatMap fun t=>reachL p.s (rootsT t)) h1 fun x hx=>by
  obtain ⟨i,hi,rfl⟩:=List.mem_map.1 hx
  obtain ⟨hil,hr⟩:=zE9.1 hi
  rw [zAH hil] at hr
  obtain ⟨r,hr1,hr2⟩:=List.mem_flatMap.1 (held_all hp.chk i hil hr)
  unfold heldL at hr1
  rw [zDL] at hr1
  obtain ⟨q,hq,hq2,rfl⟩:=hr1
  have hq3:0<outA p.s q:=by simpa using hq2
  rw [hp.out q hq] at hq3
  have hq4:((q:Int)+1)∈p.tens.flatMap rootsT:=List.count_pos_iff.1 (by omega)
  obtain ⟨t,ht,ht2⟩:=List.mem_flatMap.1 hq4
  refine List.mem_flatMap.2 ⟨t,ht,?_⟩
  rw [zCm hp.chk (hp.ten t ht).rootsOk]
  exact List.mem_flatMap.2 ⟨_,ht2,hr2⟩
 have h3:(((p.tens.flatMap fun t=>reachL p.s (rootsT t)).length:Nat):Int)<=(p.tens.map TenV.quota).sum:=by
  have:∀ l:List TenV,(∀ t∈l,((reachL p.s (rootsT t)).length:Int)<=t.quota)->(((l.flatMap fun t=>reachL p.s (rootsT t)).length:Nat):Int)<=(l.map TenV.quota).sum:=by
   intro l
   induction l with
   | nil=>intro _;simp
   | cons x l ih=>
    intro h
    have h5:=h x (by simp)
    have h6:=ih fun y hy=>h y (by simp [hy])
    simp only [zM0,zMG,zNw,zOd]
    omega
  exact this _ hp.fits
 have h4:=hp.room hne
 rw [zMA] at h2
 unfold used
 omega
theorem zHE {p:PoolV} (hp:zAM p) (hw:WfS p.s) (hne:p.tens≠[]) (key:Int):RoomT p.s key:=zLr hw (by have:=zLo hp hne;omega)
theorem zFW {p:PoolV} {t:TenV} (ht:t∈p.tens) (v:Int):(rootsT t).count v<=(p.tens.flatMap rootsT).count v:=by
 obtain ⟨i,hi,rfl⟩:=List.mem_iff_getElem.1 ht
 have h:=zFm rootsT p.tens i hi ⟨0,0,[]⟩ v
 have e:(rootsT ⟨0,0,[]⟩).count v=0:=rfl
 omega
theorem zEa {t:TenV} {k:Nat} (hk:k<t.sets.length) (y:SetV) (v:Int):(rootsT { t with sets:=t.sets.set k y }).count v+(rootsL t.sets[k]).count v=(rootsT t).count v+(rootsL y).count v:=zFm rootsL t.sets k hk y v
theorem zHs {t:TenV} {k:Nat} (hk:k<t.sets.length) (v:Int):(rootsL t.sets[k]).count v<=(rootsT t).count v:=by
 have h:=zEa hk noSet v
 have e:(rootsL noSet).count v=0:=rfl
 omega
theorem set_two {t:TenV} {k m:Nat} (hk:k<t.sets.length) (hm:m<t.sets.length) (hne:m≠k) (v:Int):(rootsL t.sets[m]).count v+(rootsL t.sets[k]).count v<=(rootsT t).count v:=by
 have h1:=zEa hk noSet v
 have e:(rootsL noSet).count v=0:=rfl
 have h2:=zHs (t:={ t with sets:=t.sets.set k noSet }) (k:=m) (by simpa using hm) v
 have h3:({ t with sets:=t.sets.set k noSet }:TenV).sets[m]'(by simpa using hm)=t.sets[m]:=by
  show (t.sets.set k noSet)[m]'(by simpa using hm)=t.sets[m]
  rw [zMP,if_neg (fun e=>hne e.symm)]
 rw [h3] at h2
 omega
theorem zDT {p:PoolV} (hp:zAM p) {t:TenV} (ht:t∈p.tens) {k:Nat} (hk:k<t.sets.length):heldE p.s t.sets[k]=0:=by
 rw [zJq ((hp.ten t ht).sets _ (zMr hk))]
 intro j hj
 rw [hp.out j hj]
 have h1:=zHs hk ((j:Int)+1)
 have h2:=zFW ht ((j:Int)+1)
 omega
theorem zD3 {p:PoolV} (hp:zAM p) (hw:WfS p.s) {t:TenV} (ht:t∈p.tens) {k m:Nat} (hk:k<t.sets.length) (hm:m<t.sets.length) (hne:m≠k):zAV (lessL p.s (rootsL t.sets[k])) t.key t.sets[m]:=by
 have hRk:=(hp.ten t ht).sets _ (zMr hk)
 have hRm:=(hp.ten t ht).sets _ (zMr hm)
 obtain ⟨hB,hS⟩:=zC5 hw (zC4 hp) hRk (zDT hp ht hk)
 generalize lessL p.s (rootsL t.sets[k])=z at *
 have hgz:=Good.of_check hB.chk hB.wf
 have hlen:=hS.hold.len
 refine hRm.shape.right hB.chk fun e he=>?_
 have hok:=hRm.all e he
 have hr:=zBl hok
 have hrz:zAs z 3 e.root:=by
  rcases hr with h0 | ⟨h1,h2⟩
  . exact .inl h0
  . obtain ⟨i,hi,e2,-⟩:=zAt h1
    have hout:=hS.hold.out i (by omega)
    have h3:=set_two hk hm hne ((i:Int)+1)
    have h4:=zFW ht ((i:Int)+1)
    have h5:=hp.out i hi
    have h6:0<(rootsL t.sets[m]).count ((i:Int)+1):=by
     rw [List.count_pos_iff,<- e2]
     exact zDO he
    have h7:0<outA z i:=by omega
    have h8:=zFU hB.chk i (by omega) h7
    rw [e2]
    rw [e2] at h2
    exact .inr ⟨h8,by have:=(hS.hold.keeps _ h8).2.1;omega⟩
 refine (zG9 hB.chk hrz ?_ hok).1
 unfold leavesF
 refine zNT fun j hj=>?_
 exact (zBh hgz hS.hold.keeps 3 e.root j (by omega) hrz (List.mem_range.1 hj)).symm
end Go.Proofs.YtfmgdjgedhnmeaaGreat

namespace Go.Proofs.YtfmgdjgedhnmeaaGreat
open Go.RowKit
set_option linter.unusedVariables false
set_option linter.unusedSimpArgs false
theorem zGj {D:Int->Prop} (a:Int):domE (Same D) a↔D a:=⟨fun ⟨_,e,h⟩=>h,fun h=>⟨a,rfl,h⟩⟩
theorem Fr.congr {s t:List Blk} {D E D':Int->Prop} (h:Fr s D t D') (e:∀ a,D a↔E a):Fr s E t D':=
 ⟨h.len,fun a ha=>(h.old a ha).imp (e a).1 id,fun a h1 h2=>h.keep a h1 fun h3=>h2 ((e a).1 h3),fun a ha=>(h.all a ha).imp id fun p=>⟨p.1,fun h3=>p.2 ((e a).2 h3)⟩⟩
theorem zHH {p:PoolV} (hp:zAM p) {t:TenV} (ht:t∈p.tens):Tw p.s p.s (Same fun a=>a∈reachL p.s (rootsT t)):=zLq rfl (zEq hp.chk (hp.ten t ht).rootsOk) fun _ _=>rfl
theorem zCO {p:PoolV} (hp:zAM p) {t:TenV} (ht:t∈p.tens) {x:SetV} (hx:x∈t.sets):∀ k∈rootsL x,k=0\/k∈reachL p.s (rootsT t):=fun k hk=>zCF hp.chk (hp.ten t ht).rootsOk k (List.mem_flatMap.2 ⟨x,hx,hk⟩)
theorem zGJ {p:PoolV} (hp:zAM p) {t:TenV} {s' s2:List Blk} {F:Int->Int->Prop} (st:Stp p.s p.s (Same fun a=>a∈reachL p.s (rootsT t)) s' s2 F) {R:List Int} (hR:∀ k∈R,k=0\/domE F k) :
 ∃ D',Fr p.s (fun a=>a∈reachL p.s (rootsT t)) s' D'/\∀ a∈reachL s' R,D' a:=
 ⟨domE F,st.f1.congr zGj,zDb st.tw.shut hR⟩
theorem set_nm {l:List SetV} {k:Nat} (hk:k<l.length) {y:SetV} (h:y.nm=l[k].nm):(l.set k y).map SetV.nm=l.map SetV.nm:=by
 rw [List.map_set,h]
 exact zNd (by simp) fun i h1 h2=>by
  rw [zMP]
  split
  . rename_i e;subst e;simp
  . rfl
theorem zLQ (wr:List Blk->Int->List Ent->AskV->List Blk×List Ent×Int) (s:List Blk) (key:Int) (x:SetV) (a:AskV):(askR wr s key x a).2.1.nm=x.nm:=by
 unfold askR
 split
 . rfl
 . split
   . rfl
   . split
     . unfold snapsR
       split
       . rfl
       . split
         . split
           . rfl
           . split<;>rfl
         . split
           . rfl
           . split<;>rfl
     . rfl
theorem step_do {p:PoolV} (hp:zAM p) (hw:WfS p.s) {t:TenV} (ht:t∈p.tens) {k:Nat} (hk:k<t.sets.length) {a:AskV} (hb:Byt a.bytes) (hd:(doR writeW p.s t.key t.sets[k] a).2.2=0) :
 checkE (doR writeW p.s t.key t.sets[k] a).1=0/\TenOk (doR writeW p.s t.key t.sets[k] a).1 { t with sets:=t.sets.set k (doR writeW p.s t.key t.sets[k] a).2.1 }/\
  (¬ t.quota<(((reachR (doR writeW p.s t.key t.sets[k] a).1 (rootsT { t with sets:=t.sets.set k (doR writeW p.s t.key t.sets[k] a).2.1 })).1.length:Nat):Int)->
   zCV p.s t (doR writeW p.s t.key t.sets[k] a).1 { t with sets:=t.sets.set k (doR writeW p.s t.key t.sets[k] a).2.1 }):=by
 have hT:=hp.ten t ht
 have hRk:=hT.sets _ (zMr hk)
 have hhe:=zDT hp ht hk
 have hne:p.tens≠[]:=fun e=>by rw [e] at ht;cases ht
 obtain ⟨hB,hS⟩:=zC5 hw (zC4 hp) hRk hhe
 obtain ⟨O,N,o1,o2,o3,-⟩:=hS.old
 have hS4:SHold (lessL p.s (rootsL t.sets[k])) p.s p.s t.key t.sets[k] 0 4:=⟨hS.hold,hS.right,O,N,o1,o2,o3,zDP hS.hold.good⟩
 obtain ⟨hS2,-,-⟩:=zKS hB hS4 (by omega) (by omega) (by omega) (by omega) hb (fun O root sz b _ _ hf hby hl he=>zDP (zD6 hf hw hby hl he)) hd
 obtain ⟨F,hbt,hsr⟩:=(tw_do (zHH hp ht) hw hw (zI3 (zCO hp ht (zMr hk))) hRk hRk hhe hhe (zHE hp hw hne t.key) (zHE hp hw hne t.key) hb).2 hd
 have hnm:(doR writeW p.s t.key t.sets[k] a).2.1.nm=t.sets[k].nm:=by
  obtain ⟨-,-,-,h4⟩:=zK0 hd
  rw [h4]
  exact zLQ _ _ _ _ _
 have hlb:(lessL p.s (rootsL t.sets[k])).length=p.s.length:=hS.hold.len.symm
 generalize (doR writeW p.s t.key t.sets[k] a).2.1=y at *
 generalize (doR writeW p.s t.key t.sets[k] a).1=s' at *
 have hgb:=Good.of_check hB.chk hB.wf
 have hten:TenOk s' { t with sets:=t.sets.set k y }:=by
  refine ⟨hT.kok,hT.q0,hT.q4,by simpa using hT.len,fun x hx=>?_,?_⟩
  . obtain ⟨m,hm,rfl⟩:=List.mem_iff_getElem.1 hx
    have hm':m<t.sets.length:=by simpa using hm
    simp only at hm ⊢
    rw [zMP]
    split
    . exact hS2.right
    . rename_i e
      exact (zD3 hp hw ht hk hm' fun e'=>e e'.symm).keeps hgb hS2.hold.keeps hS2.right.chk
  . show zAw ((t.sets.set k y).map SetV.nm)
    rw [set_nm hk hnm]
    exact hT.rise
 refine ⟨hS2.right.chk,hten,fun hq=>?_⟩
 rw [hten.reach hS2.right.chk] at hq
 refine ⟨hS2.right.chk,hS2.wf,by rw [hS2.hold.len,hlb],hten,rfl,rfl,zGJ hp hbt.stp fun r hr=>?_,fun j hj=>?_,by simpa using hq⟩
 . obtain ⟨x,hx,hrx⟩:=List.mem_flatMap.1 hr
   obtain ⟨m,hm,rfl⟩:=List.mem_iff_getElem.1 hx
   have hm':m<t.sets.length:=by simpa using hm
   simp only at hm hrx
   rw [zMP] at hrx
   split at hrx
   . exact (zDm hsr.roots).1 r hrx
   . rcases zCO hp ht (zMr hm') r hrx with h0 | h0
     . exact .inl h0
     . exact .inr ⟨r,hbt.up r r ⟨rfl,h0⟩ (zCP hp.chk hT.rootsOk r h0)⟩
 . have h1:=hS.hold.out j (by omega)
   have h2:=hS2.hold.out j (by omega)
   have h3:=zEa hk y ((j:Int)+1)
   show outA s' j+(((rootsT t).count ((j:Int)+1):Nat):Int)=_
   omega
theorem zBZ {p:PoolV} (hp:zAM p) (hw:WfS p.s) {t:TenV} (ht:t∈p.tens):zCV p.s t p.s t:=
 ⟨hp.chk,hw,rfl,hp.ten t ht,rfl,rfl,zGJ hp (Stp.refl (zHH hp ht)) fun r hr=>(zCF hp.chk (hp.ten t ht).rootsOk r hr).imp id fun h=>⟨r,rfl,h⟩,fun _ _=>rfl,hp.fits t ht⟩
theorem zGd {t:TenV} {y:SetV} (h:(layP t y).2=0):nameB y.nm=true/\placeB (t.sets.map SetV.nm) y.nm=false/\t.sets.length≠3/\layP t y=({ t with sets:=insL t.sets (placeN (t.sets.map SetV.nm) y.nm) y },0):=by
 unfold layP at h ⊢
 split at h
 . exact absurd (show (1:Int)=0 from h) (by decide)
 . rename_i h1
   split at h
   . exact absurd (show (6:Int)=0 from h) (by decide)
   . rename_i h2
     split at h
     . exact absurd (show (2:Int)=0 from h) (by decide)
     . rename_i h3
       refine ⟨by simpa using h1,by simpa using h2,h3,?_⟩
       rw [if_neg h1,if_neg h2,if_neg h3]
theorem zLm (t:TenV) (k:Nat) (y:SetV):(rootsT { t with sets:=insL t.sets k y }).Perm (rootsL y++rootsT t):=by
 have h:(rootsT { t with sets:=insL t.sets k y }).Perm ((y::t.sets).flatMap rootsL):=(zBw t.sets k y).flatMap_right _
 rw [zM0] at h
 exact h
theorem zKT {s s':List Blk} {t:TenV} (hT:TenOk s t) {y:SetV} (h:(layP t y).2=0) (hy:zAV s' t.key y) (ho:∀ x∈t.sets,zAV s' t.key x):TenOk s' (layP t y).1:=by
 obtain ⟨h1,h2,h3,e⟩:=zGd h
 rw [e]
 refine ⟨hT.kok,hT.q0,hT.q4,?_,fun x hx=>?_,?_⟩
 . have:=(zBw t.sets (placeN (t.sets.map SetV.nm) y.nm) y).length_eq
   have h4:=hT.len
   simp only [zMT] at this
   show (insL t.sets _ y).length<=3
   omega
 . have hx2:=(zBw t.sets (placeN (t.sets.map SetV.nm) y.nm) y).mem_iff.1 hx
   rcases zNP.1 hx2 with rfl | hx3
   . exact hy
   . exact ho x hx3
 . show zAw ((insL t.sets _ y).map SetV.nm)
   rw [zEJ]
   exact zCi hT.rise h2
theorem zK9 {t:TenV} {y:SetV} (h:(layP t y).2=0):(layP t y).1.key=t.key/\(layP t y).1.quota=t.quota/\(rootsT (layP t y).1).Perm (rootsL y++rootsT t):=by
 obtain ⟨-,-,-,e⟩:=zGd h
 rw [e]
 exact ⟨rfl,rfl,zLm _ _ _⟩
theorem zGh {s s':List Blk} {t:TenV} {R:List Int} (hf:((reachL s (rootsT t)).length:Int)<=t.quota) (h:∀ a∈reachL s' R,a∈reachL s (rootsT t)):((reachL s' R).length:Int)<=t.quota:=by
 have:=zB8 _ _ (zCZ s' R) h
 omega
theorem zL7 {p:PoolV} (hp:zAM p) (hw:WfS p.s) {t:TenV} (ht:t∈p.tens) {nm:ByteArray} (h:(layP t ⟨nm,[],[]⟩).2=0):zCV p.s t p.s (layP t ⟨nm,[],[]⟩).1:=by
 have hT:=hp.ten t ht
 obtain ⟨h1,h2,h3⟩:=zK9 h
 obtain ⟨n1,-,-,-⟩:=zGd h
 have hpm:(rootsT (layP t ⟨nm,[],[]⟩).1).Perm (rootsT t):=h3
 have hin:∀ r∈rootsT (layP t ⟨nm,[],[]⟩).1,r=0\/r∈reachL p.s (rootsT t):=fun r hr=>zCF hp.chk hT.rootsOk r (hpm.mem_iff.1 hr)
 refine ⟨hp.chk,hw,rfl,zKT hT h ⟨hT.kok,hp.chk,n1,⟨by simp,fun x hx=>(by cases hx),List.Pairwise.nil⟩,by simp,fun x hx=>(by cases hx),List.Pairwise.nil⟩ hT.sets,h1,h2,zGJ hp (Stp.refl (zHH hp ht)) fun r hr=>(hin r hr).imp id fun h=>⟨r,rfl,h⟩,fun j hj=>by rw [hpm.count_eq],zGh (hp.fits t ht) (zDb (zEq hp.chk hT.rootsOk) hin)⟩
theorem zH1 {t:TenV} {k:Nat} (hk:k<t.sets.length) (v:Int):(rootsT { t with sets:=t.sets.eraseIdx k }).count v+(rootsL t.sets[k]).count v=(rootsT t).count v:=by
 have h:((t.sets[k]::t.sets.eraseIdx k).flatMap rootsL).Perm (t.sets.flatMap rootsL):=(zBW t.sets k hk).flatMap_right _
 have:=h.count_eq v
 rw [zM0,zMZ] at this
 show ((t.sets.eraseIdx k).flatMap rootsL).count v+_=(t.sets.flatMap rootsL).count v
 omega
theorem zHj {t:TenV} {k:Nat} {x:SetV} (hx:x∈t.sets.eraseIdx k):∃ m,∃ hm:m<t.sets.length,m≠k/\x=t.sets[m]:=by
 rw [zM1,zNo] at hx
 rcases hx with h | h
 . obtain ⟨m,hm,rfl⟩:=List.mem_iff_getElem.1 h
   rw [zMI] at hm
   exact ⟨m,by omega,by omega,by rw [zNO]⟩
 . obtain ⟨m,hm,rfl⟩:=List.mem_iff_getElem.1 h
   rw [zMF] at hm
   exact ⟨k+1+m,by omega,by omega,by rw [zOj]⟩
theorem zJH {l:List ByteArray} (h:zAw l) (k:Nat):zAw (l.eraseIdx k):=h.sublist (zNE l k)
theorem zEw {p:PoolV} (hp:zAM p) (hw:WfS p.s) {t:TenV} (ht:t∈p.tens) {k:Nat} (hk:k<t.sets.length):(zAN p.s t.key t.sets[k]).2=0/\zCV p.s t (zAN p.s t.key t.sets[k]).1 { t with sets:=t.sets.eraseIdx k }:=by
 have hT:=hp.ten t ht
 have hRk:=hT.sets _ (zMr hk)
 have hhe:=zDT hp ht hk
 obtain ⟨hB,hS⟩:=zC5 hw (zC4 hp) hRk hhe
 have e:zAN p.s t.key t.sets[k]=(lessL p.s (rootsL t.sets[k]),0):=by
  unfold zAN
  rw [if_neg (not_not_intro hRk.zero),if_neg (not_not_intro hhe)]
 rw [e]
 have hlb:(lessL p.s (rootsL t.sets[k])).length=p.s.length:=hS.hold.len.symm
 have st:Stp p.s p.s (Same fun a=>a∈reachL p.s (rootsT t)) (lessL p.s (rootsL t.sets[k])) (lessL p.s (rootsL t.sets[k])) (Same fun a=>a∈reachL p.s (rootsT t)):=Stp.less (zHH hp ht) (zDd (zCO hp ht (zMr hk)))
 have hin:∀ r∈rootsT { t with sets:=t.sets.eraseIdx k },r=0\/r∈reachL p.s (rootsT t):=fun r hr=>by
  obtain ⟨x,hx,hr2⟩:=List.mem_flatMap.1 hr
  obtain ⟨m,hm,-,rfl⟩:=zHj hx
  exact zCO hp ht (zMr hm) r hr2
 obtain ⟨D',f1,f2⟩:=zGJ hp st (R:=rootsT { t with sets:=t.sets.eraseIdx k }) fun r hr=>(hin r hr).imp id fun h=>⟨r,rfl,h⟩
 have hsub:∀ a∈reachL (lessL p.s (rootsL t.sets[k])) (rootsT { t with sets:=t.sets.eraseIdx k }),a∈reachL p.s (rootsT t):=fun a ha=>(zGj a).1 (zDb st.tw.shut (fun r hr=>(hin r hr).imp id fun h=>⟨r,rfl,h⟩) a ha)
 refine ⟨rfl,hB.chk,hB.wf,hlb,⟨hT.kok,hT.q0,hT.q4,?_,fun x hx=>?_,?_⟩,rfl,rfl,⟨D',f1,f2⟩,fun j hj=>?_,zGh (hp.fits t ht) hsub⟩
 . have:=hT.len
   show (t.sets.eraseIdx k).length<=3
   rw [zNm]
   split<;>omega
 . obtain ⟨m,hm,hne,rfl⟩:=zHj hx
   exact zD3 hp hw ht hk hm hne
 . show zAw ((t.sets.eraseIdx k).map SetV.nm)
   rw [zB1]
   exact zJH hT.rise k
 . have h1:=hS.hold.out j (by omega)
   have h3:=zH1 hk ((j:Int)+1)
   show outA (lessL p.s (rootsL t.sets[k])) j+(((rootsT t).count ((j:Int)+1):Nat):Int)=_
   omega
theorem zJM {p:PoolV} (hp:zAM p) (hw:WfS p.s) {t:TenV} (ht:t∈p.tens) {k:Nat} (hk:k<t.sets.length) {frm nm:ByteArray} (hd:(zAL p.s t.key t.sets[k] frm nm).2.2=0) (hl:(layP t (zAL p.s t.key t.sets[k] frm nm).2.1).2=0) :
 zCV p.s t (zAL p.s t.key t.sets[k] frm nm).1 (layP t (zAL p.s t.key t.sets[k] frm nm).2.1).1:=by
 have hT:=hp.ten t ht
 have hRk:=hT.sets _ (zMr hk)
 obtain ⟨-,hnm,z,hz,e⟩:=zHT hd
 rw [e] at hl ⊢
 simp only at hl ⊢
 have hB:=zCs.self hp.chk hw (zC4 hp)
 have hS:=zFZ hB hT.kok (hRk.snaps z hz).2 hnm
 have hrt:∀ r∈rootsF z.files,r∈rootsL t.sets[k]:=fun r hr=>zNo.2 (.inr (List.mem_flatMap.2 ⟨z,hz,hr⟩))
 have hrt2:∀ r∈rootsF z.files,r=0\/r∈reachL p.s (rootsT t):=fun r hr=>zCO hp ht (zMr hk) r (hrt r hr)
 have st:Stp p.s p.s (Same fun a=>a∈reachL p.s (rootsT t)) (bump p.s (rootsF z.files)) (bump p.s (rootsF z.files)) (Same fun a=>a∈reachL p.s (rootsT t)):=Stp.bump (zHH hp ht) (zDd hrt2)
 obtain ⟨k1,k2,k3⟩:=zK9 hl
 have hin:∀ r∈rootsT (layP t ⟨nm,z.files,[]⟩).1,r=0\/r∈reachL p.s (rootsT t):=fun r hr=>by
  rcases zNo.1 (k3.mem_iff.1 hr) with h | h
  . rcases zNo.1 h with h | h
    . exact hrt2 r h
    . cases h
  . exact zCF hp.chk hT.rootsOk r h
 have hsub:∀ a∈reachL (bump p.s (rootsF z.files)) (rootsT (layP t ⟨nm,z.files,[]⟩).1),a∈reachL p.s (rootsT t):=fun a ha=>(zGj a).1 (zDb st.tw.shut (fun r hr=>(hin r hr).imp id fun h=>⟨r,rfl,h⟩) a ha)
 refine ⟨hS.right.chk,hS.wf,hS.hold.len,zKT hT hl hS.right fun x hx=>(hT.sets x hx).keeps (Good.of_check hp.chk hw) hS.hold.keeps hS.right.chk,k1,k2,zGJ hp st fun r hr=>(hin r hr).imp id fun h=>⟨r,rfl,h⟩,fun j hj=>?_,zGh (hp.fits t ht) hsub⟩
 have h1:=hS.hold.out j hj
 rw [k3.count_eq,zMZ]
 omega
theorem zFX {t:TenV} {nm:ByteArray} (h:¬ placeB (t.sets.map SetV.nm) nm=false):∃ hk:placeN (t.sets.map SetV.nm) nm<t.sets.length,setAt t.sets (placeN (t.sets.map SetV.nm) nm)=t.sets[placeN (t.sets.map SetV.nm) nm]:=by
 obtain ⟨-,hk,-⟩:=zAU (show placeB (t.sets.map SetV.nm) nm=true by simpa using h)
 rw [zMA] at hk
 exact ⟨hk,by unfold setAt;rw [zMt hk];rfl⟩
theorem zKu {p:PoolV} (hp:zAM p) (hw:WfS p.s) {t:TenV} (ht:t∈p.tens) {a:AskV} (hb:Byt a.bytes) (h:(doT p.s t a).2.2.2=0):zCV p.s t (doT p.s t a).1 (doT p.s t a).2.1:=by
 unfold doT at h ⊢
 split
 . rename_i h1
   rw [if_pos h1] at h
   exact zL7 hp hw ht h
 . rename_i h1
   rw [if_neg h1] at h
   split
   . exact zBZ hp hw ht
   . rename_i h2
     rw [if_neg h2] at h
     split
     . exact zBZ hp hw ht
     . rename_i h3
       rw [if_neg h3] at h
       obtain ⟨hk,e⟩:=zFX h3
       rw [e] at h ⊢
       generalize placeN (t.sets.map SetV.nm) a.sname=k at *
       split
       . exact zBZ hp hw ht
       . rename_i h4
         rw [if_neg h4] at h
         split
         . split
           . exact zBZ hp hw ht
           . exact (zEw hp hw ht hk).2
         . rename_i h5
           rw [if_neg h5] at h
           split
           . rename_i h6
             rw [if_pos h6] at h
             split
             . exact zBZ hp hw ht
             . rename_i h7
               rw [if_neg h7] at h
               exact zJM hp hw ht hk (by simpa using h7) h
           . rename_i h6
             rw [if_neg h6] at h
             split
             . exact zBZ hp hw ht
             . rename_i h7
               rw [if_neg h7] at h
               split
               . exact zBZ hp hw ht
               . rename_i h8
                 exact (step_do hp hw ht hk hb (by simpa using h7)).2.2 h8
end Go.Proofs.YtfmgdjgedhnmeaaGreat
