/- Names that rise: what is laid in and taken out again; a file that has another name, a snap that is made and goes. No program in sight. · What set.Do answers when it is right; there and back. No program in sight. · SetAround: a file that has another name, and then its own again, is as it was; a snap that is made and forgotten never was. · set.Clone makes a set of a snap; set.Destroy lets all go. · A store that holds another one's blocks and some roots more: how often a block can be held. No program in sight. · What is done to a set's store: held more, held less, turned; files that stay. No program in sight. · A set of one's own stays held, whatever is done to it. No program in sight. · A clone, and whatever is done to it. No program in sight. -/
import Derived.Deep.DeepCutAuto
import Derived.Test.YtfmgdjgedhnmeaaGreatHeld
import Derived.Test.YtfmgdjgedhnmeaaGreatGather
import Derived.Test.YtfmgdjgedhnmeaaGreatFiled
import Derived.Test.YtfmgdjgedhnmeaaGreatOpenX
namespace Go.Proofs.YtfmgdjgedhnmeaaGreat
open Go.RowKit
set_option linter.unusedVariables false
set_option linter.unusedSimpArgs false
section
variable {α β:Type}
theorem zEJ (f:α->β) (l:List α) (k:Nat) (x:α):(insL l k x).map f=insL (l.map f) k (f x):=by simp [insL,List.map_take,zOi]
theorem zB1 (f:α->β) (l:List α) (k:Nat):(l.eraseIdx k).map f=(l.map f).eraseIdx k:=by simp [zM1,List.map_take,zOi]
theorem zBw (l:List α) (k:Nat) (x:α):(insL l k x).Perm (x::l):=by
 have h:=List.perm_middle (a:=x) (l₁:=l.take k) (l₂:=l.drop k)
 rw [zNC] at h
 exact h
theorem zKf (l:List α) (k:Nat) (x:α) (h:k<=l.length):(insL l k x).eraseIdx k=l:=by
 have e:(l.take k).length=k:=by rw [zMI];omega
 unfold insL
 rw [List.eraseIdx_append_of_length_le (by omega),e,Nat.sub_self,List.eraseIdx_cons_zero,zNC]
theorem zI5 (l:List α) (k:Nat) (x:α) (h:k<=l.length):(insL l k x)[k]?=some x:=by
 have e:(l.take k).length=k:=by rw [zMI];omega
 unfold insL
 rw [List.getElem?_append_right (by omega),e,Nat.sub_self]
 rfl
theorem zHn (l:List α) (k:Nat) (h:k<l.length):insL (l.eraseIdx k) k l[k]=l:=by
 have e:(l.take k).length=k:=by rw [zMI];omega
 rw [zM1]
 unfold insL
 rw [zNL (by omega),zMM (by omega),zN0 (by omega),zNi (by omega),zNy,List.getElem_cons_drop,zNC]
theorem zBW (l:List α) (k:Nat) (h:k<l.length):(l[k]::l.eraseIdx k).Perm l:=by
 have h1:=zBw (l.eraseIdx k) k l[k]
 rw [zHn l k h] at h1
 exact h1.symm
end
theorem zIU {l:List ByteArray} (hr:zAw l) (i:Nat) (h:i<l.length):placeN l l[i]=i:=by
 have hp:=List.pairwise_iff_getElem.1 hr
 refine zFA hr i (by omega) (fun j hj hji=>hp j i hj h hji) fun j hj hij=>?_
 rcases zOw hij with h1 | h1
 . exact fun h2=>zCo _ (zBo h2 (hp i j h hj h1))
 . subst h1;exact zCo _
theorem zHJ {l:List ByteArray} {k:Nat} {nm:ByteArray} (h1:placeN l nm=k) (h2:l[k]?=some nm):placeB l nm=true:=by
 unfold placeB
 rw [h1,h2]
 simp
theorem zL6 {l:List ByteArray} (hr:zAw l) {nm:ByteArray}:placeB l nm=true↔nm∈l:=by
 constructor
 . intro h
   obtain ⟨-,hl,e⟩:=zAU h
   rw [<- e]
   exact zMr hl
 . intro h
   obtain ⟨i,hi,rfl⟩:=zMR h
   exact zHJ (zIU hr i hi) (zMt hi)
theorem zCp {l:List ByteArray} (hr:zAw l) {nm:ByteArray}:placeB l nm=false↔nm∉l:=by
 rw [<- zL6 hr]
 simp
theorem zCi {l:List ByteArray} {nm:ByteArray} (hr:zAw l) (hb:placeB l nm=false):zAw (insL l (placeN l nm) nm):=by
 have hnot:=(zCp hr).1 hb
 have hlo:∀ a∈l.take (placeN l nm),ltN a nm:=fun a ha=>by
  obtain ⟨i,hi,rfl⟩:=zMR ha
  rw [zMI] at hi
  rw [zNO]
  exact zGU i (by omega) (by omega)
 have hhi:∀ b∈l.drop (placeN l nm),ltN nm b:=fun b hb=>by
  obtain ⟨i,hi,rfl⟩:=zMR hb
  rw [zMF] at hi
  rw [zOj]
  have h1:=zHf (nm:=nm) hr (placeN l nm+i) (by omega) (by omega)
  refine zNf fun h2=>hnot ?_
  rw [<- ltN_conn h1 h2]
  exact zMr _
 unfold insL zAw
 rw [List.pairwise_append]
 refine ⟨hr.sublist (List.take_sublist _ _),List.pairwise_cons.2 ⟨fun b hb=>hhi b hb,hr.sublist (List.drop_sublist _ _)⟩,fun a ha b hb=>?_⟩
 rcases zNP.1 hb with rfl | hb
 . exact hlo a ha
 . exact zBo (hlo a ha) (hhi b hb)
theorem zKB {l:List ByteArray} {nm:ByteArray} (hr:zAw l) (hb:placeB l nm=false):placeN (insL l (placeN l nm) nm) nm=placeN l nm/\placeB (insL l (placeN l nm) nm) nm=true:=by
 have hk:=zBt l nm
 have hg:=zI5 l (placeN l nm) nm hk
 have hlt:placeN l nm<(insL l (placeN l nm) nm).length:=by rw [zBr _ _ _ hk];omega
 have hn:=zIU (zCi hr hb) _ hlt
 rw [zMt hlt,zMz] at hg
 rw [hg] at hn
 exact ⟨hn,zHJ hn (by rw [zMt hlt,hg])⟩
theorem zE3 {l:List ByteArray} (hr:zAw l) (k:Nat) (h:k<l.length):placeN (l.eraseIdx k) l[k]=k/\placeB (l.eraseIdx k) l[k]=false:=by
 have hp:=List.pairwise_iff_getElem.1 hr
 have hre:zAw (l.eraseIdx k):=hr.erase k
 have hle:(l.eraseIdx k).length=l.length - 1:=by rw [zNm,if_pos h]
 have hn:placeN (l.eraseIdx k) l[k]=k:=by
  refine zFA hre k (by omega) (fun i hi hik=>?_) fun i hi hik=>?_
  . rw [zN4,dif_pos hik]
    exact hp i k (by omega) h hik
  . rw [zN4,dif_neg (by omega)]
    exact fun h2=>zCo _ (zBo h2 (hp k (i+1) h (by omega) (by omega)))
 refine ⟨hn,(zCp hre).2 fun hm=>?_⟩
 obtain ⟨i,hi,e⟩:=zMR hm
 rw [zN4] at e
 split at e
 . rename_i h1
   have:=hp i k (by omega) h h1
   rw [e] at this
   exact zCo _ this
 . rename_i h1
   have:=hp k (i+1) h (by omega) (by omega)
   rw [e] at this
   exact zCo _ this
theorem zJP {s t:List Blk} {M:Int} (hg:Good s M) (hkp:Keeps s t) (hchk:checkE t=0) {key old z:Int} (hok:fileE s key old z=0):fileE t key old z=0/\fileB t key old z=fileB s key old z:=by
 obtain ⟨hk,h1,hz,hct,hfb⟩:=zAA hok
 obtain ⟨-,m,hm3,hm,hroot,-,-⟩:=zAP hct
 obtain rfl:m=3:=by omega
 have hlv:leavesF 3 t old=leavesF 3 s old:=by
  unfold leavesF
  apply zNT
  intro i hi
  exact zBh hg hkp 3 old i (by omega) hroot (List.mem_range.1 hi)
 have hct2:checkT t old (3:Nat) ((0:Nat):Int)=0:=zFv hchk (by omega) (hkp.root hroot) (show 0<p4n 3 by decide)
 have hct2:checkT t old 3 0=0:=hct2
 constructor
 . unfold fileE
   rw [if_neg (by simp [hk]),if_neg (by omega),if_neg (by simp [hct2]),hlv,hfb,if_neg (by simp)]
 . unfold fileB
   rw [hlv]
theorem zA5.keeps {s t:List Blk} {M:Int} (hg:Good s M) (hkp:Keeps s t) (hchk:checkE t=0) {key:Int} {l:List Ent} (h:zA5 s key l):zA5 t key l:=
 ⟨h.len,fun x hx=>⟨(h.each x hx).1,(zJP hg hkp hchk (h.each x hx).2).1⟩,h.rise⟩
theorem zAV.keeps {s t:List Blk} {M:Int} (hg:Good s M) (hkp:Keeps s t) (hchk:checkE t=0) {key:Int} {x:SetV} (h:zAV s key x):zAV t key x:=
 ⟨h.kok,hchk,h.nm,h.files.keeps hg hkp hchk,h.slen,fun y hy=>⟨(h.snaps y hy).1,(h.snaps y hy).2.keeps hg hkp hchk⟩,h.rise⟩
theorem zDG {s:List Blk} {ks:List Int} (h:∀ a∈ks,a=0\/(1<=a/\a<=s.length/\0<(blk s a).refs)):Adr s ks:=fun a ha=>(h a ha).imp id fun p=>⟨p.1,p.2.1⟩
theorem zBb {s:List Blk} {ks:List Int} (ha:Adr s ks):Keeps s (bump s ks):=fun a h=>by
 obtain ⟨j,hj,rfl,hr⟩:=zAt h
 have hj':j<(bump s ks).length:=by rw [zAp];exact hj
 rw [zMt hj] at hr
 have hr:0<s[j].refs:=hr
 rw [zAF _ j hj',zAk _ j hj',zAk s j hj,zBS ks s j hj hj' ha]
 exact ⟨by simp only [decide_eq_true_eq];omega,rfl,rfl,rfl,by simp only;omega⟩
theorem bump_out {s:List Blk} {ks:List Int} (ha:Adr s ks) (j:Nat) (hj:j<s.length):outA (bump s ks) j=outA s j+((ks.count ((j:Int)+1):Nat):Int):=by
 have hj':j<(bump s ks).length:=by rw [zAp];exact hj
 unfold outA
 rw [zEU,zAk _ j hj',zAk s j hj,zBS ks s j hj hj' ha]
 simp only
 omega
theorem bump_wf {s:List Blk} {ks:List Int} (hw:WfS s) (ha:Adr s ks) (hr:∀ j (h:j<s.length),I64 (s[j].refs+((ks.count ((j:Int)+1):Nat):Int))):WfS (bump s ks):=fun x hx=>by
 obtain ⟨j,hj,rfl⟩:=zMR hx
 have hj2:j<s.length:=by rw [zAp] at hj;exact hj
 rw [zBS ks s j hj2 hj ha]
 have h:=hw _ (zMr hj2)
 exact { h with refs:=hr j hj2 }
theorem zJq {s:List Blk} {key:Int} {x:SetV} (hR:zAV s key x):heldE s x=0↔∀ j,j<s.length->(((rootsL x).count ((j:Int)+1):Nat):Int)<=outA s j:=by
 have hin:=hR.roots
 have hgd:∀ j,j<s.length->(outL s).getD j 0=outA s j:=fun j hj=>by rw [zDD s j hj];unfold outA;rw [zAk s j hj]
 unfold heldE
 constructor
 . intro h j hj
   have hok:zDj s (rootsL x)=true:=by
    cases e:zDj s (rootsL x) with
    | true=>rfl
    | false=>rw [e] at h;simp at h
   by_cases hm:((j:Int)+1)∈rootsL x
   . have h1:=zNF.1 hok _ hm
     rw [show ((j:Int)+1 - 1).toNat=j from by omega,hgd j hj] at h1
     simp only [zNk,decide_eq_true_eq] at h1
     omega
   . rw [List.count_eq_zero.2 hm]
     have:=zIR hR.chk j hj
     omega
 . intro h
   rw [if_pos]
   unfold zDj
   refine zNF.2 fun a ha=>?_
   simp only [zNk,decide_eq_true_eq]
   rcases hin a ha with h0 | ⟨h1,h2⟩
   . exact .inl h0
   . refine .inr ?_
     obtain ⟨j,rfl⟩:∃ j:Nat,a=j+1:=⟨(a - 1).toNat,by omega⟩
     rw [show ((j:Int)+1 - 1).toNat=j from by omega,hgd j (by omega)]
     exact h j (by omega)
theorem zLV {s:List Blk} {key:Int} {l:List Ent} (hl:zA5 s key l) {nm dest:ByteArray} {sn sn':ByteArray} {p q p' q':Int} {bs bs':List Int} (he:(moveR s l ⟨6,sn,nm,dest,p,q,bs⟩).2.2=0) :
 (moveR s l ⟨6,sn,nm,dest,p,q,bs⟩).1=s/\∃ l1,(moveR s l ⟨6,sn,nm,dest,p,q,bs⟩).2.1=l1/\l1.length=l.length/\zA5 s key l1/\(rootsF l1).Perm (rootsF l)/\moveR s l1 ⟨6,sn',dest,nm,p',q',bs'⟩=(s,l,0):=by
 have hr:=hl.rise
 unfold moveR at he ⊢
 simp only at he ⊢
 cases hb:placeB (l.map Ent.nm) nm with
 | false=>rw [if_pos hb] at he;simp at he
 | true=>
 rw [if_neg (by simp [hb]),if_pos trivial] at he ⊢
 obtain ⟨-,hk,hke⟩:=zAU hb
 generalize placeN (l.map Ent.nm) nm=k at hk hke he ⊢
 have hkl:k<l.length:=by rwa [zMA] at hk
 rw [zM2] at hke
 have hea:entAt l k=l[k]:=by unfold entAt;rw [zMt hkl];rfl
 cases hd:nameB dest with
 | false=>rw [if_pos hd] at he;simp at he
 | true=>
 rw [if_neg (by simp [hd])] at he ⊢
 cases hc:placeB (l.map Ent.nm) dest with
 | true=>rw [if_pos hc] at he;simp at he
 | false=>
 rw [if_neg (by simp [hc])] at he ⊢
 have hnd:=(zCp hr).1 hc
 have hre:zAw ((l.eraseIdx k).map Ent.nm):=by rw [zB1];exact hr.erase k
 have hde:placeB ((l.eraseIdx k).map Ent.nm) dest=false:=(zCp hre).2 fun hm=>hnd (by
  rw [zB1] at hm
  exact (zNE _ _).mem hm)
 have hle:(l.eraseIdx k).length=l.length - 1:=by rw [zNm,if_pos hkl]
 have h6:=hl.len
 unfold layR at he ⊢
 rw [if_neg (by rw [hde];simp),if_neg (by omega)] at he ⊢
 rw [hea]
 have hple:placeN ((l.eraseIdx k).map Ent.nm) dest<=(l.eraseIdx k).length:=by have:=zBt ((l.eraseIdx k).map Ent.nm) dest;rwa [zMA] at this
 have hins:=zKB hre hde
 have hri:=zCi hre hde
 generalize hP:placeN ((l.eraseIdx k).map Ent.nm) dest=P at hple hins hri ⊢
 have hmap:(insL (l.eraseIdx k) P ⟨dest,l[k].root,l[k].size⟩).map Ent.nm=insL ((l.eraseIdx k).map Ent.nm) P dest:=zEJ _ _ _ _
 refine ⟨rfl,_,rfl,by rw [zBr _ _ _ hple,hle];omega,⟨by rw [zBr _ _ _ hple,hle];omega,fun x hx=>?_,by rw [hmap];exact hri⟩,?_,?_⟩
 . rcases zNP.1 ((zBw _ _ _).mem_iff.1 hx) with rfl | hx
   . exact ⟨hd,(hl.each _ (zMr hkl)).2⟩
   . exact hl.each x ((zNE _ _).mem hx)
 . have h1:(rootsF (insL (l.eraseIdx k) P ⟨dest,l[k].root,l[k].size⟩)).Perm (l[k].root::rootsF (l.eraseIdx k)):=(zBw _ _ _).map Ent.root
   have h2:(l[k].root::rootsF (l.eraseIdx k)).Perm (rootsF l):=(zBW l k hkl).map Ent.root
   exact h1.trans h2
 . dsimp only
   have hnn:nm∉insL ((l.eraseIdx k).map Ent.nm) P dest:=fun hm=>by
    rcases zNP.1 ((zBw _ _ _).mem_iff.1 hm) with e | hm
    . exact hnd (by rw [<- e,<- hke];exact List.mem_map.2 ⟨_,zMr hkl,rfl⟩)
    . have:=zE3 hr k hk
      rw [zM2,hke,<- zB1] at this
      exact (zCp hre).1 this.2 hm
   have hpe:=zE3 hr k hk
   rw [zM2,hke,<- zB1] at hpe
   have hent:entAt (insL (l.eraseIdx k) P ⟨dest,l[k].root,l[k].size⟩) P=⟨dest,l[k].root,l[k].size⟩:=by unfold entAt;rw [zI5 _ _ _ hple];rfl
   rw [hmap,hins.1,if_neg (by rw [hins.2];simp),if_pos trivial,if_neg (by rw [<- hke,(hl.each _ (zMr hkl)).1];simp),if_neg (by rw [(zCp hri).2 hnn];simp),hent,zKf _ _ _ hple,if_neg (by rw [hpe.2];simp),if_neg (by omega),hpe.1]
   simp only [zOc,true_and,and_true]
   rw [<- hke]
   exact zHn l k hkl
section
variable {wr:List Blk->Int->List Ent->AskV->List Blk×List Ent×Int} {s:List Blk} {key:Int} {x:SetV} {a:AskV}
theorem zK0 (h:(doR wr s key x a).2.2=0):setE s key x=0/\heldE s x=0/\(askR wr s key x a).2.2=0/\doR wr s key x a=askR wr s key x a:=by
 unfold doR at h ⊢
 by_cases h1:setE s key x=0
 . rw [if_neg (fun k=>k h1)] at h ⊢
   by_cases h2:heldE s x=0
   . rw [if_neg (fun k=>k h2)] at h ⊢
     by_cases h3:(askR wr s key x a).2.2=0
     . rw [if_neg (fun k=>k h3)]
       exact ⟨h1,h2,h3,rfl⟩
     . rw [if_pos h3] at h
       exact absurd h h3
   . rw [if_pos h2] at h
     exact absurd h h2
 . rw [if_pos h1] at h
   exact absurd h h1
end
theorem zA5.wf {s:List Blk} {key:Int} {l:List Ent} (h:zA5 s key l):WfL l:=fun x hx=>by
 obtain ⟨-,h0,h1,hc,-⟩:=zAA (h.each x hx).2
 obtain ⟨hce,m,hm3,hm,hroot,-,-⟩:=zAP hc
 have h4:=(zAg s hce).1
 refine ⟨?_,by unfold I64;omega⟩
 rcases hroot with h | ⟨h,_⟩
 . rw [h];unfold I64;omega
 . obtain ⟨k,hk,e,_⟩:=zAt h
   unfold I64;omega
theorem zAV.wf {s:List Blk} {key:Int} {x:SetV} (h:zAV s key x):WfX x:=⟨h.files.wf,fun y hy=>(h.snaps y hy).2.wf⟩
theorem zAV.fit {s:List Blk} {key:Int} {x:SetV} (h:zAV s key x):FitX x:=by
 have h1:=h.small
 exact ⟨by have:=h1.files;omega,by have:=h1.snaps;omega,fun y hy=>by have:=h1.each y hy;omega⟩
theorem zIb {s:List Blk} {ks:List Int} (h1:Lv s) (h2:RefsL s 0) (hk:ks.length<=24):zEC s (lessL s ks) (-2040):=by
 have h:=zDl 4 (zFo 4) ks s 0 h1 h2 (zNc _)
 refine ⟨h.lv,?_,h.lev,h.len⟩
 refine h.refs.weaken ?_
 have:cost 4=85:=by decide
 rw [this]
 omega
theorem zAC.less {s:List Blk} {ks l:List Int} {L:Int} (h:zEC s (lessL s ks) L) (hr:zAC s l):zAC (lessL s ks) l:=fun a ha=>by
 rcases hr a ha with h1 | ⟨h1,h2,h3⟩
 . exact .inl h1
 . exact .inr ⟨h1,by rw [h.len];exact h2,by have:=h.lev a;omega⟩
theorem zG8 (s:List Blk) (k1 k2:List Int):lessL s (k1++k2)=lessL (lessL s k1) k2:=by simp [lessL,zOg]
set_option maxRecDepth 100000 in
set_option maxHeartbeats 16000000 in
theorem zLJ (w:World) (ao fo so:Option Addr) (n cap fn fc sn sc:Nat) (s:List Blk) (key:Int) (x:SetV) (frm name:ByteArray) (hn:s.length=n) (h41:n<=2199023255552) (hs:StoRow w ao s) (hwf:WfS s) (hc:Capd ao n cap) (hx:SetIn w fo fn fc so sn sc x) (hwx:WfX x) :
 Calls Tryz.prog 36 #[.agg #[.slice ao n cap],.int .i64 key,.agg #[.string x.nm,.slice fo fn fc,.slice so sn sc],.string frm,.string name] w fun e w'=>DoEnd e w w' (zAL s key x frm name):=by
 have HN:=lH hn
 have HC:=lH hc
 have HX0:=lH hx
 have HWX:=lH hwx
 obtain ⟨RD,hRD⟩:∃ RD,zAL s key x frm name=RD:=⟨_,rfl⟩
 rw [hRD]
 have HRD:=lH hRD
 obtain ⟨hb0,p0,p1,p3,p4,hz4⟩:=zB6 w (.cells #[.slice ao n cap] 24) (.cells #[.string x.nm,.slice fo fn fc,.slice so sn sc] 47) (.cells #[.slice none 0 0] 24) (.cells #[.string ⟨#[]⟩,.slice none 0 0,.slice none 0 0] 47)
 have HZ4:=lH hz4
 clear hn hc hx hwx hRD hz4
 go_enter Tryz.func36,Tryz.ntmps36
 go_wp2_with fail
 have hs:=hs.mono hb0
 have HX:=lH (HX0.out.mono hb0)
 generalize (((w.alloc (.cells #[.slice ao n cap] 24)).alloc (.cells #[.string x.nm,.slice fo fn fc,.slice so sn sc] 47)).alloc (.cells #[.slice none 0 0] 24)).alloc (.cells #[.string ⟨#[]⟩,.slice none 0 0,.slice none 0 0] 47)=W0 at *
 refine (zBM _ _ _ _ _ _ _ _ _ _ s key x HN.out (by omega) hs hwf HX.out HWX.out).mono ?_
 rintro e w1 ⟨rfl,hb1⟩
 have p0:=Zm hb1 p0
 have p1:=Zm hb1 p1
 have p3:=Zm hb1 p3
 have p4:=Zm hb1 p4
 have hs:=hs.mono hb1
 have HX:=lH (HX.out.mono hb1)
 have hbw:=zAd hb0 hb1
 have c0:=cell_of_one p0
 have c10:=zAa p1 0
 have c11:=zAa p1 1
 have c12:=zAa p1 2
 simp at c10 c11 c12
 have l0:=zAb p0
 have l1:=zAb p1
 have c3:=cell_of_one p3
 have f3:=free_of_one p3
 have c40:=zAa p4 0
 have c41:=zAa p4 1
 have c42:=zAa p4 2
 simp at c40 c41 c42
 have f40:=zAc p4 0
 have f41:=zAc p4 1
 have f42:=zAc p4 2
 by_cases hce:setE s key x=0
 rotate_left
 . have HR:Hid (RD=([],noSet,setE s key x)):=lH (by rw [<- HRD.out];unfold zAL;rw [if_pos hce])
   have he1:(setE s key x != 0)=true:=by rw [bne_iff_ne];exact hce
   generalize setE s key x=ce at *
   clear hce hs HX HX0 HWX hb1 hwf HRD
   obtain ⟨z3,z4,zb,-⟩:=zCK p3 p4 (by omega) (.slice none 0 0) (.string ⟨#[]⟩) (.slice none 0 0) (.slice none 0 0)
   have hbz:=zb _ _ hbw (by omega) (by omega)
   unfold putW at z3 z4 hbz
   have v3:=cell_of_one z3
   have v40:=zAa z4 0
   have v41:=zAa z4 1
   have v42:=zAa z4 2
   simp at v40 v41 v42
   go_wp2_with fail
   refine bodyPost_ret (v:=.tuple #[.agg #[.slice none 0 0],.agg #[.string ⟨#[]⟩,.slice none 0 0,.slice none 0 0],.int .i64 ce]) (by simp [results,Tryz.results36,go_sem,v3,v40,v41,v42]) rfl ?_
   rw [HR.out]
   exact zB0 hbz
 rw [hce]
 have HCE:=lH hce
 go_wp2_with fail
 refine (zGA _ _ _ _ _ _ _ _ _ _ s key x HN.out hs hwf HX.out hce).mono ?_
 rintro e w2 ⟨rfl,hb2⟩
 clear c0 c10 c11 c12 l0 l1 c3 f3 c40 c41 c42 f40 f41 f42
 have p0:=Zm hb2 p0
 have p1:=Zm hb2 p1
 have p3:=Zm hb2 p3
 have p4:=Zm hb2 p4
 have hs:=hs.mono hb2
 have hbw:=zAd hbw hb2
 have c0:=cell_of_one p0
 have c10:=zAa p1 0
 have c11:=zAa p1 1
 have c12:=zAa p1 2
 simp at c10 c11 c12
 have l0:=zAb p0
 have l1:=zAb p1
 have c3:=cell_of_one p3
 have f3:=free_of_one p3
 have c40:=zAa p4 0
 have c41:=zAa p4 1
 have c42:=zAa p4 2
 simp at c40 c41 c42
 have f40:=zAc p4 0
 have f41:=zAc p4 1
 have f42:=zAc p4 2
 by_cases hhe:heldE s x=0
 rotate_left
 . have HR:Hid (RD=([],noSet,heldE s x)):=lH (by rw [<- HRD.out];unfold zAL;rw [if_neg (fun h=>h HCE.out),if_pos hhe])
   have he1:(heldE s x != 0)=true:=by rw [bne_iff_ne];exact hhe
   generalize heldE s x=ce at *
   clear hce hhe hs HX HX0 HWX hb1 hb2 hwf HRD
   obtain ⟨z3,z4,zb,-⟩:=zCK p3 p4 (by omega) (.slice none 0 0) (.string ⟨#[]⟩) (.slice none 0 0) (.slice none 0 0)
   have hbz:=zb _ _ hbw (by omega) (by omega)
   unfold putW at z3 z4 hbz
   have v3:=cell_of_one z3
   have v40:=zAa z4 0
   have v41:=zAa z4 1
   have v42:=zAa z4 2
   simp at v40 v41 v42
   go_wp2_with fail
   refine bodyPost_ret (v:=.tuple #[.agg #[.slice none 0 0],.agg #[.string ⟨#[]⟩,.slice none 0 0,.slice none 0 0],.int .i64 ce]) (by simp [results,Tryz.results36,go_sem,v3,v40,v41,v42]) rfl ?_
   rw [HR.out]
   exact zB0 hbz
 rw [hhe]
 have hAR:RD=if nameB name=false then ([],noSet,1) else if placeB (x.snaps.map Snp.nm) frm=false then ([],noSet,5) else (bump s (rootsF (snpAt x.snaps (placeN (x.snaps.map Snp.nm) frm)).files),⟨name,(snpAt x.snaps (placeN (x.snaps.map Snp.nm) frm)).files,[]⟩,0):=by rw [<- HRD.out];unfold zAL;rw [if_neg (fun h=>h hce),if_neg (fun h=>h hhe)]
 have HAR:=lH hAR
 have HRX:=lH (zEg hce)
 have HX2:=lH (HX0.out.mono hbw)
 have hz2:w.heap.size+4<=w2.heap.size:=by have h1:=hb1.size;have h2:=hb2.size;have h3:=HZ4.out;omega
 clear hce hhe hAR HRD hb1 hb2 HX
 go_wp2_with fail
 refine (zBR _ _).mono ?_
 rintro e w' ⟨rfl,rfl⟩
 cases hnb:nameB name with
 | false=>
  have HR:Hid (RD=([],noSet,1)):=lH (by rw [HAR.out,if_pos hnb])
  clear HAR hs HX0 HX2 hwf hnb
  obtain ⟨z3,z4,zb,-⟩:=zCK p3 p4 (by omega) (.slice none 0 0) (.string ⟨#[]⟩) (.slice none 0 0) (.slice none 0 0)
  have hbz:=zb _ _ hbw (by omega) (by omega)
  unfold putW at z3 z4 hbz
  have v3:=cell_of_one z3
  have v40:=zAa z4 0
  have v41:=zAa z4 1
  have v42:=zAa z4 2
  simp at v40 v41 v42
  go_wp2_with fail
  refine bodyPost_ret (v:=.tuple #[.agg #[.slice none 0 0],.agg #[.string ⟨#[]⟩,.slice none 0 0,.slice none 0 0],.int .i64 1]) (by simp [results,Tryz.results36,go_sem,v3,v40,v41,v42]) rfl ?_
  rw [HR.out]
  exact zB0 hbz
 | true=>
  have hAR:=HAR.out
  rw [if_neg (by rw [hnb];simp)] at hAR
  obtain ⟨PN,hPN⟩:∃ PN,placeN (x.snaps.map Snp.nm) frm=PN:=⟨_,rfl⟩
  obtain ⟨PB,hPB⟩:∃ PB,placeB (x.snaps.map Snp.nm) frm=PB:=⟨_,rfl⟩
  have HPLT:Hid (PB=true->PN<sn):=lH fun h=>by rw [<- hPN,<- HX2.out.slen];have:=(zAU (hPB.trans h)).1;rwa [zMA] at this
  obtain ⟨vs,hvl,hvr,hvi⟩:=HX2.out.srow
  have hvn:vs.map Snv.nm=x.snaps.map Snp.nm:=by
   apply zNd
   . rw [zMA,zMA,hvl]
   . intro i h1 h2
     rw [zM2,zM2]
     exact (hvi i (by simpa using h1) (by simpa using h2)).1
  have HPL:=lH (zGu w' x.nm fo so fn fc sn sc vs frm (by rw [hvl];exact HX2.out.slen) (by have:=HRX.out.slen;have:=HX2.out.slen;omega) hvr (by rw [hvn];exact HRX.out.rise))
  rw [hvn,hPN,hPB] at HPL
  rw [hPN,hPB] at hAR
  have HAR2:=lH hAR
  clear HAR hAR hPN hPB hvn hnb
  go_wp2_with fail
  refine HPL.out.mono ?_
  rintro e w3 ⟨rfl,hb3⟩
  clear c0 c10 c11 c12 l0 l1 c3 f3 c40 c41 c42 f40 f41 f42
  have p0:=Zm hb3 p0
  have p1:=Zm hb3 p1
  have p3:=Zm hb3 p3
  have p4:=Zm hb3 p4
  have hbw0:=hbw
  have hbw:=zAd hbw hb3
  have hs:=hs.mono hb3
  have hz3:=hb3.size
  have c0:=cell_of_one p0
  have c10:=zAa p1 0
  have c11:=zAa p1 1
  have c12:=zAa p1 2
  simp at c10 c11 c12
  have l0:=zAb p0
  have l1:=zAb p1
  have c3:=cell_of_one p3
  have f3:=free_of_one p3
  have c40:=zAa p4 0
  have c41:=zAa p4 1
  have c42:=zAa p4 2
  simp at c40 c41 c42
  have f40:=zAc p4 0
  have f41:=zAc p4 1
  have f42:=zAc p4 2
  cases PB with
  | false=>
   have HR:Hid (RD=([],noSet,5)):=lH (by rw [HAR2.out,if_pos rfl])
   clear HAR2 hs HX0 HX2 hwf HPL hvl hvr hvi hbw0 hb3
   obtain ⟨z3,z4,zb,-⟩:=zCK p3 p4 (by omega) (.slice none 0 0) (.string ⟨#[]⟩) (.slice none 0 0) (.slice none 0 0)
   have hbz:=zb _ _ hbw (by omega) (by omega)
   unfold putW at z3 z4 hbz
   have v3:=cell_of_one z3
   have v40:=zAa z4 0
   have v41:=zAa z4 1
   have v42:=zAa z4 2
   simp at v40 v41 v42
   go_wp2_with fail
   refine bodyPost_ret (v:=.tuple #[.agg #[.slice none 0 0],.agg #[.string ⟨#[]⟩,.slice none 0 0,.slice none 0 0],.int .i64 5]) (by simp [results,Tryz.results36,go_sem,v3,v40,v41,v42]) rfl ?_
   rw [HR.out]
   exact zB0 hbz
  | true=>
   have hlt:=HPLT.out rfl
   have hkl:PN<x.snaps.length:=by have:=HX2.out.slen;omega
   have hkv:PN<vs.length:=by omega
   have hlt':(PN:Int)<sn:=by omega
   have hea:snpAt x.snaps PN=x.snaps[PN]:=by unfold snpAt;rw [zMt hkl];rfl
   have hR:=HAR2.out
   rw [if_neg (by simp),hea] at hR
   obtain ⟨bq,oq,rfl,hq⟩:=SnvRow.at hvr PN hkv
   have hE:=(hq PN hkv).mono hb3
   have hI:=(hvi PN hkv hkl).mono hb3
   have HEO:=lH (HRX.out.snaps _ (zMr hkl)).2
   generalize x.snaps[PN]=y at *
   generalize vs[PN]=u at *
   obtain ⟨ynm,yl⟩:=y
   obtain ⟨unm,ua,um,uc⟩:=u
   obtain ⟨i1,i2,i3,i4⟩:=hI
   simp only at i1 i2 i3 i4 hR HEO
   subst i1
   have HR3:=lH hR
   have hb3w:=hb3
   clear hvl hvr hvi hq hea hR HAR2 HPLT HPL
   go_wp2_with fail
   refine (zGi _ _ _ _ s HN.out hs hwf HC.out (by omega)).mono ?_
   rintro e w4 ⟨v,rfl,ho,hb4⟩
   clear c0 c10 c11 c12 l0 l1 c3 f3 c40 c41 c42 f40 f41 f42
   have p0:=Zm hb4 p0
   have p1:=Zm hb4 p1
   have p3:=Zm hb4 p3
   have p4:=Zm hb4 p4
   have hbw4:=zAd hbw hb4
   have ho:=ho.box p0 (by omega) v
   obtain ⟨a1,cap1,hv1,hc1,hr1⟩:=ho.sto
   rw [HN.out] at hv1 hc1
   subst hv1
   have c0:=cell_of_one p0
   have f0:=free_of_one p0
   have l0:=zAb p0
   have q0:=one_setCell (u:=.slice a1 n cap1) p0
   have q1:(w4.setCell ⟨w.heap.size,0,none⟩ (.slice a1 n cap1)).heap[w.heap.size+1]?=_:=zAh p1 (by simp)
   have q3:(w4.setCell ⟨w.heap.size,0,none⟩ (.slice a1 n cap1)).heap[w.heap.size+1+1]?=_:=zAh p3 (by simp;omega)
   have q4:(w4.setCell ⟨w.heap.size,0,none⟩ (.slice a1 n cap1)).heap[w.heap.size+1+1+1]?=_:=zAh p4 (by simp;omega)
   have hbw5:=hbw4.setCell (p:=⟨w.heap.size,0,none⟩) (zMs _) (.slice a1 n cap1)
   have hz5:w3.heap.size<=(w4.setCell ⟨w.heap.size,0,none⟩ (.slice a1 n cap1)).heap.size:=by have:=hb4.size;simpa using this
   have HSB:=lH (HX2.out.srow)
   have d2:=zAa q1 2
   simp at d2
   have m1:=zAb q1
   have hE5:SnvAt (w4.setCell ⟨w.heap.size,0,none⟩ (.slice a1 n cap1)) bq (oq+PN*2) ⟨unm,ua,um,uc⟩:=by
    have hne:bq≠w.heap.size:=by
     rintro rfl
     have h1:=(hE.mono hb4).sl
     have h2:=(hE.mono hb4).nm
     rw [zAa p0] at h1 h2
     rcases (show oq+PN*2=0\/1<=oq+PN*2 from by omega) with e | e
     . rw [e] at h2;simp at h2
     . rw [zMV (by simp;omega)] at h2;cases h2
    have hk:∀ j,(w4.setCell ⟨w.heap.size,0,none⟩ (.slice a1 n cap1)).cell? ⟨bq,j,none⟩=w4.cell? ⟨bq,j,none⟩:=fun j=>zMB (a:=⟨bq,j,none⟩) (zMu _ _ _ _ hne)
    exact ⟨(hk _).trans (hE.mono hb4).nm,(hk _).trans (hE.mono hb4).sl⟩
   have e0:=hE5.nm
   have e1:=hE5.sl
   have le:=hE5.lt
   have i3w:zBy (w4.setCell ⟨w.heap.size,0,none⟩ (.slice a1 n cap1)) ua yl:=by
    rcases zMJ yl.length with h0 | h0
    . exact .inl (zMv h0)
    . have i4:=i3.mono hb4
      obtain ⟨b2,o2,h2,hl2,hc2⟩:=Kind.Row.at i4 h0
      have hne:b2≠w.heap.size:=by
       rintro rfl
       have hE2:=zBz hc2 0 h0
       have h1:=hE2.root
       rw [zAa p0,zMV (by simp)] at h1
       cases h1
      exact .inr ⟨b2,o2,h2,fun j v hj=>(zMB (a:=⟨b2,o2+j,none⟩) (zMu _ _ _ _ hne)).trans (hc2 j v hj)⟩
   have H6:=lH (show um<=6 by have:=HEO.out.len;omega)
   have HU2:=lH i2
   have HU4:=lH i4
   have HRW:=lH i3w
   clear hr1 hb4 p0 p1 p3 p4 hs hc1 hE hE5 i2 i3 i4 i3w hbw0 hb3 hb3w
   go_wp2_with fail
   generalize w4.setCell ⟨w.heap.size,0,none⟩ (.slice a1 n cap1)=W5 at *
   refine (zCq W5 ua um uc yl HU2.out.symm HRW.out HU4.out (by have:=H6.out;omega)).mono ?_
   rintro e w6 ⟨vl,rfl,hown,hb6⟩
   obtain ⟨la,lc,hv,-,hlc,hl0⟩:=hown.row
   rw [<- HU2.out] at hv hlc
   subst hv
   have HLC:Hid (Capd la um lc):=lH ⟨hlc,hl0⟩
   have q0:=Zm hb6 q0
   have q3:=Zm hb6 q3
   have q4:=Zm hb6 q4
   have ho6:=ho.mono hb6
   have hbw6:=zAd hbw5 hb6
   have hz6:=hb6.size
   have hn4:n<=400:=by have:=(zAg s HRX.out.chk).1;have:=HN.out;omega
   have hrow:∀ g,s≠[]->a1=some ⟨g,0,none⟩->w3.heap.size<=g/\g<W5.heap.size:=fun g h1 h2=>⟨(ho.own_at h1 h2).le,(ho.own_at h1 h2).lt⟩
   have hfar:zA9 (fun b=>s≠[]/\a1=some ⟨b,0,none⟩) w6 la yl:=by
    rcases zMJ yl.length with h0 | h0
    . exact .inl (zMv h0)
    . obtain ⟨g,hg,hgb,hgl,-,hgc⟩:=hown.blk h0
      exact .inr ⟨g,0,hg,fun ⟨h1,h2⟩=>by have:=hrow g h1 h2;omega,hgl,fun j v hj=>by rw [zML];exact hgc j v hj⟩
   have HKM:=lH (zFn w6 w.heap.size w3.heap.size a1 la n cap1 um lc s yl HN.out hn4 q0 ho6 (by omega) (fun g h1 h2=>by have:=hrow g h1 h2;omega) (fun x hx=>by have:=(zAg s HRX.out.chk).2.2.2.1 x hx;omega) HU2.out.symm H6.out hfar (by rw [<- HN.out];exact zBe HEO.out))
   have HOW:=lH hown
   have HROW:=lH hrow
   have HHB:=lH hbw6
   clear c0 f0 l0 d2 m1 e0 e1 le hown hlc hl0 hfar hrow ho ho6 hb6 HRW hbw hbw4 hbw5
   have b0:=zAb q0
   go_wp2_with fail
   refine HKM.out.mono ?_
   rintro e w7 ⟨rfl,hI⟩
   have hlow:∀ c,c<w3.heap.size->w7.heap[c]?=w6.heap[c]?:=fun c hc=>hI.below.block c hc
   have p0:=(hlow _ (by omega)).trans q0
   have p3:=(hlow _ (by omega)).trans q3
   have p4:=(hlow _ (by omega)).trans q4
   have hbw:Below w.heap.size w w7:=HHB.out.trans (hI.below.mono (by omega))
   have c0:=cell_of_one p0
   have l0:=zAb p0
   have c3:=cell_of_one p3
   have f3:=free_of_one p3
   have c40:=zAa p4 0
   have c41:=zAa p4 1
   have c42:=zAa p4 2
   simp at c40 c41 c42
   have f40:=zAc p4 0
   have f41:=zAc p4 1
   have f42:=zAc p4 2
   obtain ⟨z3,z4,zb,-⟩:=zCK p3 p4 (by omega) (.slice a1 n cap1) (.string name) (.slice la um lc) (.slice none 0 0)
   have hbz:=zb _ _ hbw (by omega) (by omega)
   obtain ⟨j1,j2,j3⟩:=hI.own.read
   have hsz:=put_sto p3 p4 (by omega) (.slice a1 n cap1) (.string name) (.slice la um lc) (.slice none 0 0) j2
   have HSG:=lH (fun g o e h=>zMN (show w.heap.size<=w3.heap.size by omega) (hI.own.from_ g o e h))
   have hown7:entK.Own w7 W5.heap.size (.slice la um lc) yl:=HOW.out.other fun g hg hl=>hI.frame g hl fun g' h1 h2=>by have h3:=HROW.out g' h1 h2;have h5:=HOW.out;rw [hg] at h5;have h4:=h5.ge;omega
   have hox:OwnX w7 W5.heap.size la um lc none 0 0 ⟨name,yl,[]⟩ []:=⟨rfl,hown7,.inl ⟨rfl,rfl⟩,fun g _ h=>(by cases h),fun i h=>absurd h (by simp)⟩
   have hsf:zA1 w.heap.size w7 la um lc none 0 0 ⟨name,yl,[]⟩:=OwnX.from_ hox (by omega)
   have hsf2:zA1 w.heap.size (putW w7 (w.heap.size+1+1) (w.heap.size+1+1+1) (.slice a1 n cap1) (.string name) (.slice la um lc) (.slice none 0 0)) la um lc none 0 0 ⟨name,yl,[]⟩:=
    (OwnX.from_ hox (K:=w3.heap.size) hz5).go (by rw [put_size];exact zMs _) (fun b hb _=>zLk b (by omega) (by omega)) |>.weaken (by omega)
   unfold putW at z3 z4 hbz hsz hsf2
   have v3:=cell_of_one z3
   have v40:=zAa z4 0
   have v41:=zAa z4 1
   have v42:=zAa z4 2
   simp at v40 v41 v42
   have HSZ:=lH hsz
   have HSF:=lH hsf2
   have HJ1:=lH j1
   have HJ3:=lH j3
   clear zb hsz hsf hsf2 hox hown7 hI j1 j2 j3 HKM HOW hlow
   go_wp2_with fail
   refine bodyPost_ret (v:=.tuple #[.agg #[.slice a1 n cap1],.agg #[.string name,.slice la um lc,.slice none 0 0],.int .i64 0]) (by simp [results,Tryz.results36,go_sem,v3,v40,v41,v42]) rfl ?_
   rw [HR3.out]
   exact ⟨a1,n,cap1,la,um,lc,none,0,0,rfl,hbz,HJ1.out,⟨HSZ.out,HSG.out⟩,HJ3.out,HSF.out⟩
theorem zHq (w:World) (a b c:Obj) :
 Below w.heap.size w (((w.alloc a).alloc b).alloc c)/\(((w.alloc a).alloc b).alloc c).heap[w.heap.size]?=some a/\(((w.alloc a).alloc b).alloc c).heap[w.heap.size+1]?=some b/\
  (((w.alloc a).alloc b).alloc c).heap[w.heap.size+1+1]?=some c/\(((w.alloc a).alloc b).alloc c).heap.size=w.heap.size+3:=by
 refine ⟨(((zMy _ _).alloc (zMs _) _).alloc (by simp) _).alloc (by simp;omega) _,?_,?_,?_,by simp⟩
 . rw [zM5 _ _ _ (by simp;omega)];exact heap_alloc2_old _ _ _
 . rw [zM5 _ _ _ (by simp)];exact heap_alloc2_new _ _ _
 . have:=heap_alloc_new ((w.alloc a).alloc b) c
   rw [show ((w.alloc a).alloc b).heap.size=w.heap.size+1+1 from by simp] at this
   exact this
theorem InAt.trans {w w1 w2:World} {base n cap:Nat} {ao:Option Addr} {s t u:List Blk} (h1:InAt w w1 base ao n cap s t) (h2:InAt w1 w2 base ao n cap t u) (hl:t.length=s.length):InAt w w2 base ao n cap s u:=
 ⟨h2.own,h1.below.trans h2.below,fun c hc h=>(h2.frame c (zMw hc h1.below.size) (fun g hg=>h g (fun e=>hg (by rw [e] at hl;exact zMv hl)))).trans (h1.frame c hc h)⟩
theorem InAt.grown {w w1 w2:World} {base n cap:Nat} {ao:Option Addr} {s t:List Blk} (h1:InAt w w1 base ao n cap s t) (h2:Below w1.heap.size w1 w2) (hb:base<=w1.heap.size):InAt w w2 base ao n cap s t:=
 ⟨h1.own.mono h2,h1.below.trans (h2.mono hb),fun c hc h=>(h2.block c (zMw hc h1.below.size)).trans (h1.frame c hc h)⟩
def zK6 (e:Ending) (w w':World) (r:List Blk×Int):Prop:=
 ∃ (ao:Option Addr) (n cap:Nat),e=.returned (.tuple #[.agg #[.slice ao n cap],.int .i64 r.2])/\Below w.heap.size w w'/\r.1.length=n/\StoAt w.heap.size w' ao r.1/\Capd ao n cap
theorem zFf {w w':World} {ce:Int} (hb:Below w.heap.size w w'):zK6 (.returned (.tuple #[.agg #[.slice none 0 0],.int .i64 ce])) w w' ([],ce):=⟨none,0,0,rfl,hb,rfl,⟨.inl rfl,fun _ _ _ h=>absurd rfl h⟩,⟨zMs _,fun _=>rfl⟩⟩
set_option maxRecDepth 100000 in
set_option maxHeartbeats 16000000 in
theorem zIw (w:World) (ao fo so:Option Addr) (n cap fn fc sn sc:Nat) (s:List Blk) (key:Int) (x:SetV) (hn:s.length=n) (h41:n<=2199023255552) (hs:StoRow w ao s) (hwf:WfS s) (hc:Capd ao n cap) (hx:SetIn w fo fn fc so sn sc x) (hwx:WfX x) :
 Calls Tryz.prog 34 #[.agg #[.slice ao n cap],.int .i64 key,.agg #[.string x.nm,.slice fo fn fc,.slice so sn sc]] w fun e w'=>zK6 e w w' (zAN s key x):=by
 have HN:=lH hn
 have HC:=lH hc
 have HX0:=lH hx
 have HWX:=lH hwx
 obtain ⟨RD,hRD⟩:∃ RD,zAN s key x=RD:=⟨_,rfl⟩
 rw [hRD]
 have HRD:=lH hRD
 obtain ⟨hb0,p0,p1,p3,hz4⟩:=zHq w (.cells #[.slice ao n cap] 24) (.cells #[.string x.nm,.slice fo fn fc,.slice so sn sc] 47) (.cells #[.slice none 0 0] 24)
 have HZ4:=lH hz4
 clear hn hc hx hwx hRD hz4
 go_enter Tryz.func34,Tryz.ntmps34
 go_wp2_with fail
 have hs:=hs.mono hb0
 have HX:=lH (HX0.out.mono hb0)
 generalize ((w.alloc (.cells #[.slice ao n cap] 24)).alloc (.cells #[.string x.nm,.slice fo fn fc,.slice so sn sc] 47)).alloc (.cells #[.slice none 0 0] 24)=W0 at *
 refine (zBM _ _ _ _ _ _ _ _ _ _ s key x HN.out (by omega) hs hwf HX.out HWX.out).mono ?_
 rintro e w1 ⟨rfl,hb1⟩
 have p0:=Zm hb1 p0
 have p1:=Zm hb1 p1
 have p3:=Zm hb1 p3
 have hs:=hs.mono hb1
 have HX:=lH (HX.out.mono hb1)
 have hbw:=zAd hb0 hb1
 have c0:=cell_of_one p0
 have c10:=zAa p1 0
 have c11:=zAa p1 1
 have c12:=zAa p1 2
 simp at c10 c11 c12
 have l0:=zAb p0
 have l1:=zAb p1
 have c3:=cell_of_one p3
 have f3:=free_of_one p3
 by_cases hce:setE s key x=0
 rotate_left
 . have HR:Hid (RD=([],setE s key x)):=lH (by rw [<- HRD.out];unfold zAN;rw [if_pos hce])
   have he1:(setE s key x != 0)=true:=by rw [bne_iff_ne];exact hce
   generalize setE s key x=ce at *
   clear hce hs HX HX0 HWX hb1 hwf HRD
   have z3:=one_setCell (u:=.slice none 0 0) p3
   have hbz:=hbw.setCell (p:=⟨w.heap.size+1+1,0,none⟩) (by show w.heap.size<=w.heap.size+1+1;omega) (.slice none 0 0)
   have v3:=cell_of_one z3
   go_wp2_with fail
   refine bodyPost_ret (v:=.tuple #[.agg #[.slice none 0 0],.int .i64 ce]) (by simp [results,Tryz.results34,go_sem,v3]) rfl ?_
   rw [HR.out]
   exact zFf hbz
 rw [hce]
 have HCE:=lH hce
 go_wp2_with fail
 refine (zGA _ _ _ _ _ _ _ _ _ _ s key x HN.out hs hwf HX.out hce).mono ?_
 rintro e w2 ⟨rfl,hb2⟩
 clear c0 c10 c11 c12 l0 l1 c3 f3
 have p0:=Zm hb2 p0
 have p1:=Zm hb2 p1
 have p3:=Zm hb2 p3
 have hs:=hs.mono hb2
 have hbw:=zAd hbw hb2
 have c0:=cell_of_one p0
 have c10:=zAa p1 0
 have c11:=zAa p1 1
 have c12:=zAa p1 2
 simp at c10 c11 c12
 have l0:=zAb p0
 have l1:=zAb p1
 have c3:=cell_of_one p3
 have f3:=free_of_one p3
 by_cases hhe:heldE s x=0
 rotate_left
 . have HR:Hid (RD=([],heldE s x)):=lH (by rw [<- HRD.out];unfold zAN;rw [if_neg (fun h=>h HCE.out),if_pos hhe])
   have he1:(heldE s x != 0)=true:=by rw [bne_iff_ne];exact hhe
   generalize heldE s x=ce at *
   clear hce hhe hs HX HX0 HWX hb1 hb2 hwf HRD
   have z3:=one_setCell (u:=.slice none 0 0) p3
   have hbz:=hbw.setCell (p:=⟨w.heap.size+1+1,0,none⟩) (by show w.heap.size<=w.heap.size+1+1;omega) (.slice none 0 0)
   have v3:=cell_of_one z3
   go_wp2_with fail
   refine bodyPost_ret (v:=.tuple #[.agg #[.slice none 0 0],.int .i64 ce]) (by simp [results,Tryz.results34,go_sem,v3]) rfl ?_
   rw [HR.out]
   exact zFf hbz
 rw [hhe]
 have HR:Hid (RD=(lessL s (rootsL x),0)):=lH (by rw [<- HRD.out];unfold zAN;rw [if_neg (fun h=>h hce),if_neg (fun h=>h hhe)])
 have HRX:=lH (zEg hce)
 have hz2:w.heap.size+3<=w2.heap.size:=by have h1:=hb1.size;have h2:=hb2.size;have h3:=HZ4.out;omega
 have hn4:n<=400:=by have:=(zAg s HRX.out.chk).1;have:=HN.out;omega
 have HGD:=lH (Good.of_check HRX.out.chk hwf)
 clear hce hhe HRD hb1 hb2 HX
 go_wp2_with fail
 refine (zGi _ _ _ _ s HN.out hs hwf HC.out (by omega)).mono ?_
 rintro e w3 ⟨v,rfl,ho,hb3⟩
 clear c0 c10 c11 c12 l0 l1 c3 f3
 have p0:=Zm hb3 p0
 have p1:=Zm hb3 p1
 have p3:=Zm hb3 p3
 have hbw3:=zAd hbw hb3
 have ho:=ho.box p0 (by omega) v
 obtain ⟨a1,cap1,hv1,hc1,hr1⟩:=ho.sto
 rw [HN.out] at hv1 hc1
 subst hv1
 have c0:=cell_of_one p0
 have f0:=free_of_one p0
 have l0:=zAb p0
 have q0:=one_setCell (u:=.slice a1 n cap1) p0
 have q1:(w3.setCell ⟨w.heap.size,0,none⟩ (.slice a1 n cap1)).heap[w.heap.size+1]?=_:=zAh p1 (by simp)
 have q3:(w3.setCell ⟨w.heap.size,0,none⟩ (.slice a1 n cap1)).heap[w.heap.size+1+1]?=_:=zAh p3 (by simp;omega)
 have hbw5:=hbw3.setCell (p:=⟨w.heap.size,0,none⟩) (zMs _) (.slice a1 n cap1)
 have hz5:w2.heap.size<=(w3.setCell ⟨w.heap.size,0,none⟩ (.slice a1 n cap1)).heap.size:=by have:=hb3.size;simpa using this
 have d1:=zAa q1 1
 simp at d1
 have m1:=zAb q1
 have HSM:=lH HRX.out.small
 clear hr1 hb3 p0 p1 p3 hs hc1
 go_wp2_with fail
 generalize w3.setCell ⟨w.heap.size,0,none⟩ (.slice a1 n cap1)=W5 at *
 have hrow:∀ g,s≠[]->a1=some ⟨g,0,none⟩->w2.heap.size<=g/\g<W5.heap.size:=fun g h1 h2=>⟨(ho.own_at h1 h2).le,(ho.own_at h1 h2).lt⟩
 have HROW:=lH hrow
 have hfarw:∀ (u:World) ao l (t:List Blk),(t≠[]->s≠[])->zBy w ao l->Below w.heap.size w u->zA9 (fun b=>t≠[]/\a1=some ⟨b,0,none⟩) u ao l:=fun u ao l t hts hr hb=>
  (zBy.far (bad:=fun b=>t≠[]/\a1=some ⟨b,0,none⟩) hr (fun b hb2 ⟨h1,h2⟩=>by have:=HROW.out b (hts h1) h2;omega)).keep hb.size (fun b _ hl=>hb.block b hl)
 have HFAR:=lH hfarw
 have HKP:=lH (zDY W5 w.heap.size w2.heap.size a1 fo n cap1 fn fc s x.files 0 HN.out hn4 q0 ho hz5 (fun g h1 h2=>by have:=hrow g h1 h2;omega) HGD.out.lv.1 (HGD.out.refsL (by omega)) (zNc _) (by omega) HX0.out.flen (by have:=HSM.out.files;have:=HX0.out.flen;omega) (HFAR.out W5 fo x.files s id HX0.out.frow hbw5) (HGD.out.low rfl (zBe HRX.out.files)))
 refine HKP.out.mono ?_
 rintro e w6 ⟨rfl,hI⟩
 have HQ0:=lH q0
 have HQ3:=lH q3
 have HB5:=lH hbw5
 have hlow:∀ c,c<w2.heap.size->w6.heap[c]?=W5.heap[c]?:=fun c hc=>hI.below.block c hc
 have p1:=(hlow _ (by omega)).trans q1
 have e2:=zAa p1 2
 simp at e2
 have m2:=zAb p1
 have hsn:(sn:Int)<=3:=by have:=HSM.out.snaps;have:=HX0.out.slen;omega
 have HI0:=lH hI
 clear q0 q1 q3 d1 m1 c0 f0 l0 ho hrow hfarw hI hlow hbw hbw3 hbw5 HKP
 go_wp2_with fail
 go_loopw [35] (fun i wr=>∃ k:Nat,k<=sn/\i=.int .i64 k/\Hid (InAt W5 wr w2.heap.size a1 n cap1 s (lessL s (rootsF x.files++rootsS (x.snaps.take k))))) (fun i _=>sn - (intOf i).toNat)
 case atStart=>exact ⟨0,zMO _,rfl,lH (by simpa [rootsS] using HI0.out)⟩
 case round=>
  clear HI0 e2 m2 p1
  obtain ⟨k,hkn,rfl,HI⟩:=hrel
  have hsz:=HI.out.below.size
  have hbel:Below w.heap.size w wr:=HB5.out.trans (HI.out.below.mono (by omega))
  have hP:w.heap.size<W5.heap.size:=zAb HQ0.out
  have p0:=(HI.out.frame _ hP (fun g h1 h2=>by have:=HROW.out g h1 h2;omega)).trans HQ0.out
  by_cases hlt:k<sn
  . have hks:k<x.snaps.length:=by have:=HX0.out.slen;omega
    have hlt':(k:Int)<sn:=by omega
    obtain ⟨vs,hvl,hvr,hvi⟩:=HX0.out.srow
    have hkv:k<vs.length:=by omega
    obtain ⟨b,o,rfl,hq⟩:=SnvRow.at hvr k hkv
    have hE:=(hq k hkv).mono hbel
    have hIs:=hvi k hkv hks
    have c0:=hE.nm
    have c1:=hE.sl
    have lb:=hE.lt
    have HKT:=lH (zFc x.snaps k hks)
    have HEO:=lH (HRX.out.snaps _ (zMr hks)).2
    have hlen:(rootsF x.files++rootsS (x.snaps.take k)).length<=24:=by
     have h1:=zC0 (x.snaps.take k) (fun y hy=>HSM.out.each y (zNl hy))
     rw [zMI] at h1
     rw [zMG,zAX]
     have:=HSM.out.files
     have:=HSM.out.snaps
     omega
    have HLS:=lH (zIb HGD.out.lv.1 (HGD.out.refsL (by omega)) hlen)
    clear hq hE hvl hvr hvi hlen
    generalize x.snaps[k]=y at *
    generalize vs[k]=u at *
    obtain ⟨ynm,yl⟩:=y
    obtain ⟨unm,ua,um,uc⟩:=u
    obtain ⟨i1,i2,i3,i4⟩:=hIs
    simp only at c0 c1 i1 i2 i3 i4 HKT HEO
    subst i1
    obtain ⟨T,hT⟩:∃ T,lessL s (rootsF x.files++rootsS (x.snaps.take k))=T:=⟨_,rfl⟩
    rw [hT] at HI HLS
    have hb2:=bA0 wr (.cells #[.string unm,.slice ua um uc] 79)
    have q2:=heap_alloc_new wr (.cells #[.string unm,.slice ua um uc] 79)
    have d1:=zAa q2 1
    simp at d1
    have hI2:=HI.out.grown hb2 (by omega)
    have hts:T≠[]->s≠[]:=fun h1 h2=>h1 (by rw [h2] at HLS;exact zMv HLS.out.len)
    have HKP:=lH (zDY (wr.alloc (.cells #[.string unm,.slice ua um uc] 79)) w.heap.size w2.heap.size a1 ua n cap1 um uc T yl (-2040) (HLS.out.len.trans HN.out) hn4 (Zm hb2 p0) hI2.own (by have:=hb2.size;omega) (fun g h1 h2=>by have:=HROW.out g (hts h1) h2;omega) HLS.out.lv HLS.out.refs (by omega) (by omega) i2.symm (by have:=HEO.out.len;omega) (HFAR.out _ ua yl T hts i3 (zAd hbel hb2)) (by have h9:=HLS.out;rw [<- hT] at h9 ⊢;exact zAC.less h9 (HGD.out.low rfl (zBe HEO.out))))
    have HI2:=lH hI2
    have HT:=lH hT
    clear i2 i3 i4 hI2 q2 hts hT p0 HI
    go_wp2_with fail
    refine HKP.out.mono ?_
    rintro e w7 ⟨rfl,hI7⟩
    have HI7:=lH (HI2.out.trans hI7 HLS.out.len)
    clear hI7 HKP hb2 d1 c0 c1 lb
    go_wp2_with fail
    go_roundw
    case rel=>exact ⟨k+1,by omega,by go_num,lH (by rw [HKT.out,<- zM8,zG8,HT.out];exact HI7.out)⟩
    case measure=>simp [intOf];omega
  . obtain rfl:k=sn:=by omega
    have ht:x.snaps.take k=x.snaps:=zMM (by have:=HX0.out.slen;omega)
    have hlt':¬ (k:Int)<k:=by omega
    have HIF:Hid (InAt W5 wr w2.heap.size a1 n cap1 s (lessL s (rootsL x))):=lH (by have:=HI.out;rw [ht] at this;exact this)
    have p3:=(HI.out.below.block _ (by omega)).trans HQ3.out
    have c0:=cell_of_one p0
    have l0:=zAb p0
    have c3:=cell_of_one p3
    have f3:=free_of_one p3
    have l3:=zAb p3
    have z3:=one_setCell (u:=.slice a1 n cap1) p3
    have hbz:=hbel.setCell (p:=⟨w.heap.size+1+1,0,none⟩) (by show w.heap.size<=w.heap.size+1+1;omega) (.slice a1 n cap1)
    obtain ⟨j1,j2,j3⟩:=HIF.out.own.read
    have HSG:=lH (fun g o e h=>zMN (show w.heap.size<=w2.heap.size by omega) (HIF.out.own.from_ g o e h))
    have HSZ:=lH (zIy (p:=w.heap.size+1+1) (w':=wr.setCell ⟨w.heap.size+1+1,0,none⟩ (.slice a1 n cap1)) j2 (fun o k x hx=>by
     rw [zAa p3] at hx
     rcases (show o=0\/1<=o from by omega) with rfl | e
     . simp at hx
     . rw [zMV (by simp;omega)] at hx;cases hx) (fun b hb=>zMu _ _ _ _ hb))
    have HJ1:=lH j1
    have HJ3:=lH j3
    have v3:=cell_of_one z3
    clear HI HIF ht j1 j2 j3
    go_wp2_with fail
    refine bodyPost_ret (v:=.tuple #[.agg #[.slice a1 n cap1],.int .i64 0]) (by simp [results,Tryz.results34,go_sem,v3]) rfl ?_
    rw [HR.out]
    exact ⟨a1,n,cap1,rfl,hbz,HJ1.out,⟨HSZ.out,HSG.out⟩,HJ3.out⟩
theorem zB8 {α:Type} [DecidableEq α]:∀ (A L:List α),A.Nodup->(∀ x∈A,x∈L)->A.length<=L.length
 | [],L,_,_=>zMO _
 | a::A,L,hn,hs=>by
  obtain ⟨h1,h2⟩:=List.nodup_cons.1 hn
  have ha:=hs a (zNJ ..)
  have h3:=zB8 A (L.erase a) h2 fun x hx=>(List.mem_erase_of_ne (fun e=>h1 (by rw [<- e];exact hx))).2 (hs x (zNq _ hx))
  rw [List.length_erase_of_mem ha] at h3
  have:=List.length_pos_of_mem ha
  simp only [zMT]
  omega
def atB (s:List Blk) (i:Nat):Blk:=blk s ((i:Int)+1)
theorem zAH {s:List Blk} {i:Nat} (h:i<s.length):atB s i=s[i]:=zAk s i h
theorem zGp (s:List Blk) (v:Int):(kidsOf s).count v=((List.range s.length).map fun i=>(atB s i).kids.count v).sum:=by
 have h:s=(List.range s.length).map fun i=>atB s i:=by
  apply zNd
  . simp
  . intro i h1 h2
    rw [zM2,List.getElem_range,zAH h1]
 unfold kidsOf
 conv=>lhs;rw [h]
 rw [List.flatMap_map,List.count_flatMap]
 rfl
theorem sum_le (l:List Nat) (f g:Nat->Nat) (h:∀ i∈l,f i<=g i):(l.map f).sum<=(l.map g).sum:=by
 induction l with
 | nil=>simp
 | cons a l ih=>
  have h1:=h a (zNJ ..)
  have h2:=ih fun i hi=>h i (zNq _ hi)
  simp only [zNw,zOd]
  omega
theorem sum_add (l:List Nat) (f g:Nat->Nat):(l.map fun i=>f i+g i).sum=(l.map f).sum+(l.map g).sum:=by
 induction l with
 | nil=>simp
 | cons a l ih=>
  simp only [zNw,zOd,ih]
  omega
theorem zGt (l:List Nat) (g:Nat->Nat) (c:Nat) (h:∀ i∈l,g i<=c):(l.map g).sum<=c*(l.filter fun i=>decide (0<g i)).length:=by
 induction l with
 | nil=>simp
 | cons a l ih=>
  have h1:=h a (zNJ ..)
  have h2:=ih fun i hi=>h i (zNq _ hi)
  simp only [zNw,zOd,List.filter_cons]
  by_cases e:0<g a
  . rw [if_pos (by simpa using e),zMT,Nat.mul_add]
    omega
  . rw [if_neg (by simpa using e)]
    omega
def newB (O:Nat->Bool) (m:List Blk) (i:Nat):Bool:=decide (0<(atB m i).refs)&&!O i
def newL (O:Nat->Bool) (m:List Blk) (l:Int):List Nat:=(List.range m.length).filter fun i=>newB O m i&&decide ((atB m i).level=l)
structure OldIn (c s m:List Blk) (O:Nat->Bool):Prop where
 live:∀ i,O i=true->i<m.length/\0<(atB m i).refs/\(atB m i).kids=(atB s i).kids
 base:∀ i,i<m.length->0<(atB c i).refs->O i=true
 closed:∀ i,O i=true->∀ j:Nat,((j:Int)+1)∈(atB m i).kids->O j=true
structure Hold (s m:List Blk) (R:List Int) (M:Int):Prop where
 good:Good m M
 len:m.length=s.length
 keeps:Keeps s m
 out:∀ j,j<s.length->outA m j=outA s j+((R.count ((j:Int)+1):Nat):Int)
 rt:∀ r∈R,zAs m 3 r
section
variable {s m:List Blk} {R:List Int} {M:Int}
theorem zEM {i:Nat} (hi:i<m.length) (h:0<(atB m i).refs):zAi m ((i:Int)+1)=true:=by
 rw [zAF m i hi,<- zAH hi]
 simpa using h
theorem zB3 {a:Int} (h:zAi m a=true):∃ i:Nat,i<m.length/\a=(i:Int)+1/\0<(atB m i).refs:=by
 obtain ⟨k,hk,e,hr⟩:=zAt h
 refine ⟨k,hk,e,?_⟩
 rw [zAH hk]
 rwa [zMt hk] at hr
theorem Good.kid_there (hg:Good m M) {i:Nat} (hi:i<m.length) {v:Int} (hv:v∈(atB m i).kids) (h0:v≠0):0<(atB m i).refs/\1<=(atB m i).level/\(atB m i).level<=3/\(atB m i).kids.length=4/\zAi m v=true/\(blk m v).level=(atB m i).level - 1:=by
 rw [zAH hi] at *
 rcases hg.forms _ (zMr hi) with e | ⟨hr,⟨_,e,_⟩ | ⟨h1,h2,h3,_,h5,_⟩⟩
 . rw [e] at hv;simp [noBlk] at hv
 . rw [e] at hv;cases hv
 . have:=zDE (zNF.1 h5 v hv)
   rcases this with h | ⟨h6,h7⟩
   . exact absurd h h0
   . exact ⟨hr,h1,h2,h3,h6,h7⟩
theorem Good.kids4 (hg:Good m M) {i:Nat} (hi:i<m.length):(atB m i).kids.length<=4:=by
 rw [zAH hi]
 rcases hg.forms _ (zMr hi) with e | ⟨hr,⟨_,e,_⟩ | ⟨h1,h2,h3,_⟩⟩
 . rw [e];simp [noBlk]
 . rw [e];simp
 . omega
theorem Good.no_kid (hg:Good s M) {v:Int} (h0:v≠0) (h:zAi s v=false):(kidsOf s).count v=0:=by
 rw [zGp]
 have h1:∀ i∈List.range s.length,(atB s i).kids.count v<=0:=fun i hi=>by
  rw [Nat.le_zero,List.count_eq_zero]
  intro hv
  have:=(hg.kid_there (List.mem_range.1 hi) hv h0).2.2.2.2.1
  rw [h] at this
  cases this
 have:=sum_le _ _ (fun _=>0) h1
 have h2:((List.range s.length).map fun _=>0).sum=0:=by
  have:=zGt (List.range s.length) (fun _=>0) 0 (fun _ _=>zMs _)
  omega
 omega
theorem Good.free_out (hg:Good s M) {i:Nat} (hi:i<s.length) (h:(atB s i).refs<=0):outA s i=0:=by
 have hf:zAi s ((i:Int)+1)=false:=by rw [zAF s i hi,<- zAH hi];simpa using h
 have hr:(atB s i).refs=0:=by
  rw [zAH hi] at h ⊢
  rcases hg.forms _ (zMr hi) with e | ⟨hr,_⟩
  . rw [e];rfl
  . omega
 have h1:=hg.no_kid (v:=(i:Int)+1) (by omega) hf
 unfold outA
 rw [h1]
 unfold atB at hr
 omega
end
section
variable {s m:List Blk} {R:List Int} {M M0:Int} {O:Nat->Bool} {z:List Blk}
theorem zAO {l:Int} {i:Nat}:i∈newL O m l↔i<m.length/\0<(atB m i).refs/\O i=false/\(atB m i).level=l:=by
 unfold newL newB
 simp only [zOr,List.mem_range,zMW,decide_eq_true_eq,and_assoc,Bool.not_eq_true']
theorem zC3 (l:Int):(newL O m l).Nodup:=List.Pairwise.filter _ List.nodup_range
theorem Hold.above (hs:Good s M0) (h:Hold s m R M) (hO:OldIn s z m O) {l:Int} {i:Nat} (hi:i∈newL O m l) (hR:((i:Int)+1)∉R):∃ p∈newL O m (l+1),((i:Int)+1)∈(atB m p).kids:=by
 obtain ⟨hil,hr,hz,hlv⟩:=zAO.1 hi
 have hlen:=h.len
 have ho:=h.out i (by omega)
 have hfree:(atB s i).refs<=0:=by
  refine zNf fun hn=>?_
  have:=hO.base i hil (by omega)
  rw [hz] at this
  cases this
 rw [hs.free_out (by omega) hfree,List.count_eq_zero.2 hR] at ho
 have hpos:0<(kidsOf m).count ((i:Int)+1):=by
  unfold outA at ho
  unfold atB at hr
  omega
 obtain ⟨x,hx,hxv⟩:=List.mem_flatMap.1 (List.count_pos_iff.1 hpos)
 obtain ⟨p,hp,rfl⟩:=zMR hx
 rw [<- zAH hp] at hxv
 obtain ⟨k1,k2,k3,k4,k5,k6⟩:=h.good.kid_there hp hxv (by omega)
 refine ⟨p,zAO.2 ⟨hp,k1,?_,?_⟩,hxv⟩
 . cases hop:O p with
   | false=>rfl
   | true=>
    have:=hO.closed p hop i hxv
    rw [hz] at this
    cases this
 . have:(blk m ((i:Int)+1)).level=l:=hlv
   omega
theorem cover {A B:List Nat} (hA:A.Nodup) (hB:∀ p∈B,(atB m p).kids.length<=4) (h:∀ i∈A,∃ p∈B,((i:Int)+1)∈(atB m p).kids):A.length<=4*B.length:=by
 have h1:(A.map fun (i:Nat)=>(i:Int)+1).length<=(B.flatMap fun p=>(atB m p).kids).length:=by
  refine zB8 _ _ ?_ fun x hx=>?_
  . refine List.Pairwise.map _ (fun a b hab e=>hab ?_) hA
    have:(a:Int)=b:=by omega
    omega
  . obtain ⟨i,hi,rfl⟩:=List.mem_map.1 hx
    obtain ⟨p,hp,hv⟩:=h i hi
    exact List.mem_flatMap.2 ⟨p,hp,hv⟩
 have h2:(B.flatMap fun p=>(atB m p).kids).length<=4*B.length:=by
  clear h1 h hA
  induction B with
  | nil=>simp
  | cons p B ih=>
   have:=hB p (zNJ ..)
   have h3:=ih fun q hq=>hB q (zNq _ hq)
   simp only [zM0,zMG,zMT]
   omega
 rw [zMA] at h1
 omega
def zBP (O:Nat->Bool) (N R:List Int):Prop:=∀ r∈R,r=0\/(∃ i:Nat,r=(i:Int)+1/\O i=true)\/r∈N
theorem Hold.few (hs:Good s M0) (h:Hold s m R M) (hO:OldIn s z m O) {N:List Int} {k:Nat} (hN:N.length<=k) (hRN:zBP O N R) :
 (newL O m 3).length<=k/\(newL O m 2).length<=4*k/\(newL O m 1).length<=16*k:=by
 have hlen:=h.len
 have h3:(newL O m 3).length<=k:=by
  have h1:((newL O m 3).map fun (i:Nat)=>(i:Int)+1).length<=N.length:=by
   refine zB8 _ _ ?_ fun x hx=>?_
   . refine List.Pairwise.map _ (fun a b hab e=>hab ?_) (zC3 3)
     have:(a:Int)=b:=by omega
     omega
   . obtain ⟨i,hi,rfl⟩:=List.mem_map.1 hx
     obtain ⟨hil,hr,hz,hlv⟩:=zAO.1 hi
     by_cases hR:((i:Int)+1)∈R
     . rcases hRN _ hR with h0 | ⟨q,h0,h00⟩ | h0
       . omega
       . obtain rfl:i=q:=by omega
         rw [hz] at h00
         cases h00
       . exact h0
     . obtain ⟨p,hp,hv⟩:=h.above hs hO hi hR
       obtain ⟨hpl,-,-,hplv⟩:=zAO.1 hp
       have:=(h.good.kid_there hpl hv (by omega)).2.2.1
       omega
  rw [zMA] at h1
  omega
 have hk4:∀ l,∀ p∈newL O m l,(atB m p).kids.length<=4:=fun l p hp=>h.good.kids4 (zAO.1 hp).1
 have hnR:∀ l,l≠3->∀ i∈newL O m l,((i:Int)+1)∉R:=fun l hl i hi hR=>by
  obtain ⟨hil,hr,hz,hlv⟩:=zAO.1 hi
  rcases h.rt _ hR with h0 | ⟨-,h0⟩
  . omega
  . have:(blk m ((i:Int)+1)).level=l:=hlv
    omega
 have h2:=cover (zC3 2) (hk4 3) (fun i hi=>h.above hs hO hi (hnR 2 (by omega) i hi))
 have h1:=cover (zC3 1) (hk4 2) (fun i hi=>h.above hs hO hi (hnR 1 (by omega) i hi))
 exact ⟨h3,by omega,by omega⟩
theorem Hold.refs_le {Mz:Int} (hs:Good s M0) (h:Hold s m R M) (hz:Good z Mz) (hzl:z.length=s.length) (hzo:∀ j,j<s.length->outA s j<=outA z j) (hO:OldIn s z m O) {N:List Int} {k c:Nat} (hN:N.length<=k) (hRN:zBP O N R) (hc1:1<=c) (hc4:c<=4)
 (hc:∀ i∈newL O m 1,∀ q:Nat,O q=true->(atB m i).kids.count ((q:Int)+1)<=c) (j:Nat) (hj:j<s.length) :
 (O j=true->(atB m j).refs<=(atB z j).refs+((R.count ((j:Int)+1):Nat):Int)+16*c*k)/\(O j=false->(atB m j).refs<=((R.count ((j:Int)+1):Nat):Int)+64*k):=by
 obtain ⟨n3,n2,n1⟩:=h.few hs hO hN hRN
 have hlen:=h.len
 have ho:=h.out j hj
 have hv0:((j:Int)+1)≠0:=by omega
 -- the new blocks that have it
 have hsplit:∀ i∈List.range s.length,(atB m i).kids.count ((j:Int)+1)<=(if O j then (atB z i).kids.count ((j:Int)+1) else 0)+(if newB O m i then (atB m i).kids.count ((j:Int)+1) else 0):=fun i hi=>by
  have hil:=List.mem_range.1 hi
  by_cases hn:newB O m i=true
  . rw [if_pos hn];omega
  . rw [if_neg hn]
    by_cases hv:((j:Int)+1)∈(atB m i).kids
    . have hr:=(h.good.kid_there (by omega) hv hv0).1
      have hold:O i=true:=by
       unfold newB at hn
       simp only [zMW,decide_eq_true_eq,Bool.not_eq_true',not_and] at hn
       have:=hn hr
       simpa using this
      rw [(hO.live i hold).2.2,if_pos (hO.closed i hold j hv)]
      omega
    . rw [List.count_eq_zero.2 hv]
      omega
 have hsum:(kidsOf m).count ((j:Int)+1)<=((List.range s.length).map fun i=>if O j then (atB z i).kids.count ((j:Int)+1) else 0).sum+((List.range s.length).map fun i=>if newB O m i then (atB m i).kids.count ((j:Int)+1) else 0).sum:=by
  rw [zGp m,hlen]
  have:=sum_le _ _ _ hsplit
  rw [sum_add] at this
  exact this
 have hin:∀ i∈(List.range s.length).filter (fun i=>decide (0<(if newB O m i then (atB m i).kids.count ((j:Int)+1) else 0))),i∈newL O m ((blk m ((j:Int)+1)).level+1):=fun i hi=>by
  simp only [zOr,List.mem_range,decide_eq_true_eq] at hi
  obtain ⟨hil,hp⟩:=hi
  by_cases hn:newB O m i=true
  . rw [if_pos hn] at hp
    have hv:=List.count_pos_iff.1 hp
    have hk:=h.good.kid_there (by omega) hv hv0
    unfold newB at hn
    simp only [zMW,decide_eq_true_eq,Bool.not_eq_true'] at hn
    exact zAO.2 ⟨by omega,hn.1,hn.2,by omega⟩
  . rw [if_neg hn] at hp
    omega
 have hnd:((List.range s.length).filter (fun i=>decide (0<(if newB O m i then (atB m i).kids.count ((j:Int)+1) else 0)))).Nodup:=List.Pairwise.filter _ List.nodup_range
 have hcnt:=zB8 _ _ hnd hin
 have h4:∀ i∈List.range s.length,(if newB O m i then (atB m i).kids.count ((j:Int)+1) else 0)<=4:=fun i hi=>by
  split
  . exact zMN zNj (h.good.kids4 (by have:=List.mem_range.1 hi;omega))
  . omega
 -- levels
 have hlvl:(newL O m ((blk m ((j:Int)+1)).level+1)).length<=16*k/\((blk m ((j:Int)+1)).level≠0->(newL O m ((blk m ((j:Int)+1)).level+1)).length<=4*k):=by
  have hl:=h.good.lv.2 (blk m ((j:Int)+1)) (by rw [zAk m j (by omega)];exact zMr _)
  have hl0:=(h.good.lv.1 (blk m ((j:Int)+1)) (by rw [zAk m j (by omega)];exact zMr _)).1
  rcases (show (blk m ((j:Int)+1)).level=0\/(blk m ((j:Int)+1)).level=1\/(blk m ((j:Int)+1)).level=2\/(blk m ((j:Int)+1)).level=3 from by omega) with e | e | e | e
  . rw [e];exact ⟨n1,fun h=>absurd rfl h⟩
  . rw [e];exact ⟨by show (newL O m 2).length<=16*k;omega,fun _=>n2⟩
  . rw [e];exact ⟨by show (newL O m 3).length<=16*k;omega,fun _=>by show (newL O m 3).length<=4*k;omega⟩
  . rw [e]
    have hz:newL O m (3+1)=[]:=by
     rw [List.eq_nil_iff_forall_not_mem]
     intro i hi
     obtain ⟨hil,hr,-,hlv⟩:=zAO.1 hi
     have:=h.good.lv.2 (atB m i) (by rw [zAH (by omega)];exact zMr _)
     omega
    rw [hz]
    exact ⟨by simp,fun _=>by simp⟩
 have hs4:=zGt _ _ 4 h4
 unfold outA at ho
 have hm:(blk m ((j:Int)+1))=atB m j:=rfl
 have hss:(blk s ((j:Int)+1))=atB s j:=rfl
 rw [hm,hss] at ho
 have h8:((16*c:Nat):Int)*(k:Int)=16*(c:Int)*(k:Int):=by rw [Int.natCast_mul];rfl
 constructor
 . intro ht
   have hzk:((List.range s.length).map fun i=>if O j then (atB z i).kids.count ((j:Int)+1) else 0).sum=(kidsOf z).count ((j:Int)+1):=by
    rw [zGp z,hzl]
    simp only [ht,if_true]
   have hzj:=hzo j hj
   unfold outA at hzj
   have hzz:(blk z ((j:Int)+1))=atB z j:=rfl
   rw [hzz,hss] at hzj
   by_cases hl:(blk m ((j:Int)+1)).level=0
   . have hcc:∀ i∈List.range s.length,(if newB O m i then (atB m i).kids.count ((j:Int)+1) else 0)<=c:=fun i hi=>by
      by_cases hp:0<(if newB O m i then (atB m i).kids.count ((j:Int)+1) else 0)
      . have hmem:=hin i (zOr.2 ⟨hi,by simpa using hp⟩)
        rw [hl] at hmem
        have:=hc i hmem _ ht
        split<;>omega
      . omega
     have h5:=zGt _ _ c hcc
     have h6:=Nat.mul_le_mul_left c (zMN hcnt hlvl.1)
     have h7:c*(16*k)=16*c*k:=by rw [Nat.mul_comm 16 c,Nat.mul_assoc]
     omega
   . have h6:=hlvl.2 hl
     have h7:16*k<=16*c*k:=zNr k (by omega)
     omega
 . intro hf
   have hzk:((List.range s.length).map fun i=>if O j then (atB z i).kids.count ((j:Int)+1) else 0).sum=0:=by
    simp only [hf]
    have:=zGt (List.range s.length) (fun _=>0) 0 (fun _ _=>zMs _)
    simpa using this
   have hr:(atB s j).refs<=0:=by
    refine zNf fun hn=>?_
    have:=hO.base j (by omega) (by omega)
    rw [hf] at this
    cases this
   have hoz:=hs.free_out hj hr
   unfold outA at hoz
   rw [hss] at hoz
   have:=hlvl.1
   omega
theorem OldIn.keeps {t:List Blk} (hO:OldIn s z m O) (hk:Keeps m t) (hl:t.length=m.length):OldIn s z t O:=by
 refine ⟨fun i hi=>?_,fun i h1 h2=>hO.base i (by omega) h2,fun i hi j hj=>?_⟩
 all_goals
  obtain ⟨h1,h2,h3⟩:=hO.live i hi
  obtain ⟨k1,k2,k3,k4,k5⟩:=hk _ (zEM h1 h2)
 . refine ⟨by omega,?_,?_⟩
   . unfold atB at h2 ⊢;omega
   . unfold atB at h3 ⊢;rw [k3];exact h3
 . unfold atB at hj
   rw [k3] at hj
   exact hO.closed i hi j hj
def zDV (O:Nat->Bool) (m:List Blk) (i:Nat):Bool:=O i&&decide (0<(atB m i).refs)
theorem OldIn.sub {u:List Blk} {Mu:Int} (hO:OldIn s z m O) (hs:Sub m u) (hg:Good u Mu) (hk:Keeps s u) (hl:u.length=s.length):OldIn s z u (zDV O u):=by
 have hul:=hs.len
 have hkids:∀ i,i<u.length->0<(atB u i).refs->(atB u i).kids=(atB m i).kids:=fun i h1 h2=>by
  rcases hs.each i (by omega) h1 with e | ⟨-,-,e⟩
  . rw [zAH h1,e] at h2;simp [noBlk] at h2
  . rw [zAH h1,zAH (by omega),e]
 refine ⟨fun i hi=>?_,fun i h1 h2=>?_,fun i hi j hj=>?_⟩
 . unfold zDV at hi
   simp only [zMW,decide_eq_true_eq] at hi
   obtain ⟨h1,h2,h3⟩:=hO.live i hi.1
   exact ⟨by omega,hi.2,by rw [hkids i (by omega) hi.2];exact h3⟩
 . unfold zDV
   have h3:=hk _ (zEM (m:=s) (by omega) h2)
   have h4:0<(atB u i).refs:=by
    have:=h3.2.2.2.2
    unfold atB at h2 ⊢
    omega
   simp only [zMW,decide_eq_true_eq]
   exact ⟨hO.base i (by omega) h2,h4⟩
 . unfold zDV at hi ⊢
   simp only [zMW,decide_eq_true_eq] at hi ⊢
   have hil:i<u.length:=by have:=(hO.live i hi.1).1;omega
   have h5:=(hg.kid_there hil hj (by omega)).2.2.2.2.1
   obtain ⟨q,hq,e,hpos⟩:=zB3 h5
   obtain rfl:q=j:=by omega
   rw [hkids i hil hi.2] at hj
   exact ⟨hO.closed i hi.1 q hj,hpos⟩
end
theorem zCS {m:List Blk} {k:Nat} {a:Int} (h:zAs m k a):a=0\/(1<=a/\a<=m.length/\0<(blk m a).refs):=by
 rcases h with h | ⟨h,_⟩
 . exact .inl h
 . obtain ⟨i,hi,e,hr⟩:=zB3 h
   refine .inr ⟨by omega,by omega,?_⟩
   rw [e]
   exact hr
section
variable {s m t:List Blk} {R ks:List Int} {M:Int}
theorem Hold.perm {R':List Int} (h:Hold s m R M) (hp:R.Perm R'):Hold s m R' M:=
 ⟨h.good,h.len,h.keeps,fun j hj=>by rw [h.out j hj,hp.count_eq],fun r hr=>h.rt r (hp.mem_iff.2 hr)⟩
theorem zFe (hg:Good m M) (hM:0<=M/\M<=800000000) (hk:ks.length<=1000) (hl:∀ a∈ks,a=0\/(1<=a/\a<=m.length/\0<(blk m a).refs)):Good (bump m ks) (M+ks.length):=by
 have ha:=zDG hl
 have hlen:(bump m ks).length=m.length:=zAp m ks
 have hcnt:∀ j,ks.count ((j:Int)+1)<=ks.length:=fun j=>zNj
 refine ⟨by rw [hlen];exact hg.few,fun x hx=>?_,fun x hx=>?_,bump_wf hg.wf ha fun j h=>?_⟩
 . obtain ⟨j,hj,rfl⟩:=zMR hx
   have hj2:j<m.length:=by omega
   rw [zBS ks m j hj2 hj ha]
   have:=hg.refs _ (zMr hj2)
   have:=hcnt j
   simp only
   omega
 . obtain ⟨j,hj,rfl⟩:=zMR hx
   have hj2:j<m.length:=by omega
   rw [zBS ks m j hj2 hj ha]
   rcases hg.forms _ (zMr hj2) with e | ⟨h0,hf⟩
   . left
     have hz:ks.count ((j:Int)+1)=0:=List.count_eq_zero.2 fun hm=>by
      rcases hl _ hm with h | ⟨-,-,h⟩
      . omega
      . rw [zAk m j hj2,e] at h;simp [noBlk] at h
     rw [e,hz]
     rfl
   . right
     exact ⟨by simp only;omega,(zBb ha).form hf _⟩
 . have:=hg.refs _ (zMr h)
   have:=hcnt j
   unfold I64
   omega
theorem Hold.bump (h:Hold s m R M) (hM:0<=M/\M<=800000000) (hk:ks.length<=1000) (hr:∀ a∈ks,zAs m 3 a):Hold s (bump m ks) (ks++R) (M+ks.length):=by
 have hl:∀ a∈ks,a=0\/(1<=a/\a<=m.length/\0<(blk m a).refs):=fun a ha=>zCS (hr a ha)
 have ha:=zDG hl
 have hlen:=h.len
 refine ⟨zFe h.good hM hk hl,by rw [zAp];exact h.len,h.keeps.trans (zBb ha),fun j hj=>?_,fun r hr'=>?_⟩
 . rw [bump_out ha j (by omega),h.out j hj,zMZ]
   omega
 . rcases zNo.1 hr' with h1 | h1
   . exact (zBb ha).root (hr r h1)
   . exact (zBb ha).root (h.rt r h1)
theorem Hold.less {M0:Int} (hs:Good s M0) (ho:∀ j,j<s.length->0<=outA s j) (h:Hold s m (ks++R) M):Hold s (lessL m ks) R M/\Sub m (lessL m ks):=by
 have hlen:=h.len
 have hlow:∀ a∈ks,Low m 4 a:=fun a ha=>by
  have hr:=h.rt a (zNo.2 (.inl ha))
  rcases hr with h0 | ⟨h1,h2⟩
  . exact .inl h0
  . obtain ⟨i,hi,e,-⟩:=zAt h1
    exact .inr ⟨by omega,by omega,by omega⟩
 have hL:zDI m (lessL m ks) ks:=zCE 4 (zGC 4) ks m R h.good.lv.1 h.good.live hlow fun j hj=>by
  have h1:=h.out j (by omega)
  have h2:=ho j (by omega)
  omega
 have hout:∀ j,j<s.length->outA (lessL m ks) j=outA s j+((R.count ((j:Int)+1):Nat):Int):=fun j hj=>by
  rw [hL.out j (by omega),h.out j hj,zMZ]
  omega
 have hnn:∀ j,j<s.length->0<=outA (lessL m ks) j:=fun j hj=>by
  rw [hout j hj]
  have:=ho j hj
  omega
 have hg2:=zGE h.good hL.sub fun j hj=>hnn j (by omega)
 have hkp:Keeps s (lessL m ks):=zFV hs h.keeps h.len hL.sub hnn fun j hj=>by rw [hout j hj];omega
 refine ⟨⟨hg2,by rw [hL.sub.len];exact h.len,hkp,hout,fun r hr=>?_⟩,hL.sub⟩
 have hrm:=h.rt r (zNo.2 (.inr hr))
 rcases hrm with h0 | ⟨h1,h2⟩
 . exact .inl h0
 . obtain ⟨i,hi,e,hpos⟩:=zB3 h1
   have hi2:i<(lessL m ks).length:=by rw [hL.sub.len];exact hi
   have h3:=hout i (by omega)
   have h4:=ho i (by omega)
   have h5:0<R.count ((i:Int)+1):=by rw [<- e];exact List.count_pos_iff.2 hr
   have h6:0<(atB (lessL m ks) i).refs:=by
    unfold outA at h3 h4
    unfold atB
    omega
   have h7:=zEM hi2 h6
   rw [<- e] at h7
   refine .inr ⟨h7,?_⟩
   have h8:=(zCX hL.sub hg2 r h7).2.1
   omega
theorem Hold.turn {rt Mt:Int} (h:Hold s m R M) (ht:zFp m t rt Mt):Hold s t (rt::R) Mt:=by
 have hlen:=h.len
 refine ⟨ht.good,by rw [ht.len];exact h.len,h.keeps.trans ht.keeps,fun j hj=>?_,fun r hr=>?_⟩
 . rw [ht.out j (by omega),h.out j hj,zNU]
   by_cases e:rt=(j:Int)+1
   . rw [if_pos e,e];simp;omega
   . have:(rt==(j:Int)+1)=false:=by rw [beq_eq_false_iff_ne];exact e
     rw [if_neg e,this];simp
 . rcases zNP.1 hr with rfl | hr
   . exact ht.rt
   . exact ht.keeps.root (h.rt r hr)
end
structure Via (m m':List Blk):Prop where
 t:∃ t M1 M2 M3,Good m M1/\Keeps m t/\Good t M2/\Sub t m'/\Good m' M3
theorem Via.leaves {m m':List Blk} (h:Via m m') {r:Int} (h1:zAs m 3 r) (h2:zAs m' 3 r):leavesF 3 m' r=leavesF 3 m r:=by
 obtain ⟨t,M1,M2,M3,g1,g2,g3,g4,g5⟩:=h.t
 unfold leavesF
 apply zNT
 intro i hi
 have hi:=List.mem_range.1 hi
 rw [<- zBh g1 g2 3 r i (by omega) h1 hi,zBh g5 (zCX g4 g5) 3 r i (by omega) h2 hi]
theorem zBl {m:List Blk} {key r z:Int} (h:fileE m key r z=0):zAs m 3 r:=by
 obtain ⟨hk,h1,hz,hct,hfb⟩:=zAA h
 obtain ⟨-,k,hm3,hm,hroot,-,-⟩:=zAP hct
 obtain rfl:k=3:=by omega
 exact hroot
theorem zG9 {m m':List Blk} {key r z:Int} (hchk:checkE m'=0) (hr:zAs m' 3 r) (hlv:leavesF 3 m' r=leavesF 3 m r) (hok:fileE m key r z=0):fileE m' key r z=0/\fileB m' key r z=fileB m key r z:=by
 obtain ⟨hk,h1,hz,hct,hfb⟩:=zAA hok
 have hct2:checkT m' r (3:Nat) ((0:Nat):Int)=0:=zFv hchk (by omega) hr (show 0<p4n 3 by decide)
 have hct2:checkT m' r 3 0=0:=hct2
 constructor
 . unfold fileE
   rw [if_neg (by simp [hk]),if_neg (by omega),if_neg (by simp [hct2]),hlv,hfb,if_neg (by simp)]
 . unfold fileB
   rw [hlv]
structure Shape (l:List Ent):Prop where
 len:l.length<=6
 names:∀ x∈l,nameB x.nm=true
 rise:zAw (l.map Ent.nm)
structure zEv (key:Int) (y:SetV):Prop where
 kok:keyE key 0=0
 nm:nameB y.nm=true
 files:Shape y.files
 slen:y.snaps.length<=3
 snaps:∀ z∈y.snaps,nameB z.nm=true/\Shape z.files
 rise:zAw (y.snaps.map Snp.nm)
theorem zA5.shape {m:List Blk} {key:Int} {l:List Ent} (h:zA5 m key l):Shape l:=⟨h.len,fun x hx=>(h.each x hx).1,h.rise⟩
theorem zAV.shape {m:List Blk} {key:Int} {y:SetV} (h:zAV m key y):zEv key y:=⟨h.kok,h.nm,h.files.shape,h.slen,fun z hz=>⟨(h.snaps z hz).1,(h.snaps z hz).2.shape⟩,h.rise⟩
def allE (y:SetV):List Ent:=y.files++y.snaps.flatMap Snp.files
theorem zEv.right {m:List Blk} {key:Int} {y:SetV} (h:zEv key y) (hc:checkE m=0) (hf:∀ e∈allE y,fileE m key e.root e.size=0):zAV m key y:=
 ⟨h.kok,hc,h.nm,⟨h.files.len,fun x hx=>⟨h.files.names x hx,hf x (zNo.2 (.inl hx))⟩,h.files.rise⟩,h.slen,
  fun z hz=>⟨(h.snaps z hz).1,(h.snaps z hz).2.len,fun x hx=>⟨(h.snaps z hz).2.names x hx,hf x (zNo.2 (.inr (List.mem_flatMap.2 ⟨z,hz,hx⟩)))⟩,(h.snaps z hz).2.rise⟩,h.rise⟩
theorem zAV.all {m:List Blk} {key:Int} {y:SetV} (h:zAV m key y):∀ e∈allE y,fileE m key e.root e.size=0:=fun e he=>by
 rcases zNo.1 he with h1 | h1
 . exact (h.files.each e h1).2
 . obtain ⟨z,hz,h2⟩:=List.mem_flatMap.1 h1
   exact ((h.snaps z hz).2.each e h2).2
theorem zDO {y:SetV} {e:Ent} (he:e∈allE y):e.root∈rootsL y:=by
 unfold rootsL rootsS rootsF
 rcases zNo.1 he with h1 | h1
 . exact zNo.2 (.inl (List.mem_map.2 ⟨e,h1,rfl⟩))
 . obtain ⟨z,hz,h2⟩:=List.mem_flatMap.1 h1
   exact zNo.2 (.inr (List.mem_flatMap.2 ⟨z,hz,List.mem_map.2 ⟨e,h2,rfl⟩⟩))
def FewC (O:Nat->Bool) (m:List Blk) (c:Nat):Prop:=∀ i∈newL O m 1,∀ q:Nat,O q=true->(atB m i).kids.count ((q:Int)+1)<=c
theorem zDP {O:Nat->Bool} {m:List Blk} {M:Int} (hg:Good m M):FewC O m 4:=fun i hi q _=>zMN zNj (hg.kids4 (zAO.1 hi).1)
structure zCs (s z:List Blk):Prop where
 chk:checkE s=0
 wf:WfS s
 gz:Good z 999000
 len:z.length=s.length
 out:∀ j,j<s.length->outA s j<=outA z j
theorem zCs.self {s:List Blk} (h:checkE s=0) (hw:WfS s) (hf:∀ x∈s,x.refs<=999000):zCs s s:=⟨h,hw,Good.few_ofM h hw hf,rfl,fun _ _=>zNc _⟩
theorem zCs.nn {s z:List Blk} (h:zCs s z):∀ j,j<s.length->0<=outA s j:=fun j hj=>zIR h.chk j hj
structure SHold (s z m:List Blk) (key:Int) (y:SetV) (k c:Nat):Prop where
 hold:Hold s m (rootsL y) 1000000
 right:zAV m key y
 old:∃ O N,OldIn s z m O/\N.length<=k/\zBP O N (rootsL y)/\FewC O m c
theorem zFi {s z m m':List Blk} {key M:Int} {y':SetV} {k c:Nat} {O:Nat->Bool} (hB:zCs s z) (hvia:Via m m') (hH:Hold s m' (rootsL y') M) (hsh:zEv key y') (hO:OldIn s z m' O) {N:List Int} (hN:N.length<=k) (hRN:zBP O N (rootsL y'))
 (hc1:1<=c) (hc4:c<=4) (hcN:16*c*k+24<=1000) (hkN:k<=1000) (hC:FewC O m' c) (hf:∀ e∈allE y',fileE m key e.root e.size=0\/(checkE m'=0->fileE m' key e.root e.size=0)) :
 SHold s z m' key y' k c/\∀ e∈allE y',fileE m key e.root e.size=0->fileB m' key e.root e.size=fileB m key e.root e.size:=by
 have hgs:=Good.of_check hB.chk hB.wf
 have hlen:=hH.len
 have hzl:=hB.len
 have hroots:(rootsL y').length<=24:=by
  have h1:=hsh.files.len
  have h2:=zC0 y'.snaps fun z hz=>(hsh.snaps z hz).2.len
  have h3:=hsh.slen
  unfold rootsL
  rw [zMG,zAX]
  omega
 have hg:Good m' 1000000:=by
  refine ⟨hH.good.few,fun x hx=>⟨(hH.good.refs x hx).1,?_⟩,hH.good.forms,hH.good.wf⟩
  obtain ⟨j,hj,rfl⟩:=zMR hx
  obtain ⟨r1,r2⟩:=hH.refs_le hgs hB.gz hB.len hB.out hO hN hRN hc1 hc4 hC j (by omega)
  have hcnt:(rootsL y').count ((j:Int)+1)<=(rootsL y').length:=zNj
  rw [zAH hj] at r1 r2
  have h9:((16*c*k:Nat):Int)=16*(c:Int)*(k:Int):=by rw [Int.natCast_mul,Int.natCast_mul];rfl
  cases ht:O j with
  | true=>
   have h1:=r1 ht
   have h2:(atB z j).refs<=999000:=by rw [zAH (by omega)];exact (hB.gz.refs _ (zMr _)).2
   omega
  | false=>
   have h1:=r2 ht
   omega
 have hH':Hold s m' (rootsL y') 1000000:=⟨hg,hH.len,hH.keeps,hH.out,hH.rt⟩
 have hchk:checkE m'=0:=zHg m' hg.few (hg.form_ok (by omega)) fun j hj=>by
  rw [hH.out j (by omega)]
  have:=hB.nn j (by omega)
  omega
 have hsame:∀ e∈allE y',fileE m key e.root e.size=0->fileE m' key e.root e.size=0/\fileB m' key e.root e.size=fileB m key e.root e.size:=fun e he h0=>by
  have hr':=hH.rt _ (zDO he)
  exact zG9 hchk hr' (hvia.leaves (zBl h0) hr') h0
 refine ⟨⟨hH',hsh.right hchk fun e he=>?_,⟨O,N,hO,hN,hRN,hC⟩⟩,fun e he h0=>(hsame e he h0).2⟩
 rcases hf e he with h | h
 . exact (hsame e he h).1
 . exact h hchk
theorem FewC.sub {O:Nat->Bool} {t u:List Blk} {c:Nat} (h:FewC O t c) (hs:Sub t u):FewC (zDV O u) u c:=fun i hi q hq=>by
 obtain ⟨hil,hr,hz,hlv⟩:=zAO.1 hi
 have hlu:=hs.len
 have h1:=hs.each i (by omega) hil
 have hzO:O i=false:=by
  unfold zDV at hz
  cases e:O i with
  | false=>rfl
  | true=>rw [e] at hz;simp at hz;omega
 have hqO:O q=true:=by
  unfold zDV at hq
  simp only [zMW] at hq
  exact hq.1
 rw [zAH hil] at hr hlv ⊢
 rcases h1 with e | ⟨h2,h3,h4⟩
 . rw [e] at hr;simp [noBlk] at hr
 . have e1:(u[i]'hil).kids=(t[i]'(by omega)).kids:=by rw [h4]
   have e2:(u[i]'hil).level=(t[i]'(by omega)).level:=by rw [h4]
   rw [e1]
   have:=h i (zAO.2 ⟨by omega,by rw [zAH (by omega)];omega,hzO,by rw [zAH (by omega),<- e2];exact hlv⟩) q hqO
   rwa [zAH (by omega)] at this
theorem FewC.bump {O:Nat->Bool} {m:List Blk} {c:Nat} {M:Int} {ks:List Int} (h:FewC O m c) (hg:Good m M) (ha:Adr m ks):FewC O (bump m ks) c:=fun i hi q hq=>by
 obtain ⟨hil,hr,hz,hlv⟩:=zAO.1 hi
 have hlb:(Go.Proofs.YtfmgdjgedhnmeaaGreat.bump m ks).length=m.length:=zAp m ks
 have hb:=zBS ks m i (by omega) (by omega) ha
 rw [zAH hil,hb] at hr hlv ⊢
 simp only at hr hlv ⊢
 rcases hg.forms _ (zMr (show i<m.length by omega)) with e | ⟨h1,-⟩
 . rw [e] at hlv;simp [noBlk] at hlv
 . have:=h i (zAO.2 ⟨by omega,by rw [zAH (by omega)];exact h1,hz,by rw [zAH (by omega)];exact hlv⟩) q hq
   rwa [zAH (by omega)] at this
theorem zBP.sub {O:Nat->Bool} {N R R':List Int} {u:List Blk} (h:zBP O N R) (hR:∀ r∈R',r∈R) (hrt:∀ r∈R',zAs u 3 r):zBP (zDV O u) N R':=fun r hr=>by
 rcases h r (hR r hr) with h0 | ⟨i,h1,h2⟩ | h0
 . exact .inl h0
 . rcases hrt r hr with h3 | ⟨h3,-⟩
   . exact .inl h3
   . obtain ⟨q,hq,e,hpos⟩:=zB3 h3
     obtain rfl:q=i:=by omega
     refine .inr (.inl ⟨q,h1,?_⟩)
     unfold zDV
     simp only [zMW,decide_eq_true_eq]
     exact ⟨h2,hpos⟩
 . exact .inr (.inr h0)
theorem zBP.mem {O:Nat->Bool} {N R R':List Int} (h:zBP O N R) (hR:∀ r∈R',r∈R):zBP O N R':=fun r hr=>h r (hR r hr)
theorem zIX {m:List Blk} {key root z:Int} {l:List Ent} {nm:ByteArray} {b:List Int} (h:(turnW m key l nm root z b).2.2=0):(turnR m key root z b).2.2=0/\turnW m key l nm root z b=layR (turnR m key root z b).1 l nm (turnR m key root z b).2.1 b.length:=by
 unfold turnW at h ⊢
 generalize turnR m key root z b=T at h ⊢
 by_cases e:T.2.2=0
 . rw [if_neg (fun k=>k e)]
   exact ⟨e,rfl⟩
 . rw [if_pos e] at h
   exact absurd h e
theorem zLZ {m:List Blk} {key:Int} {l:List Ent} (hl:zA5 m key l) (hc:checkE m=0) (hk:keyE key 0=0) (nm:ByteArray):∃ z:Nat,(oldF l nm).2=z/\fileE m key (oldF l nm).1 z=0:=by
 unfold oldF
 by_cases h:placeB (l.map Ent.nm) nm=true
 . rw [if_pos h]
   obtain ⟨-,hk1,-⟩:=zAU h
   have hkl:placeN (l.map Ent.nm) nm<l.length:=by rwa [zMA] at hk1
   have e:entAt l (placeN (l.map Ent.nm) nm)=l[placeN (l.map Ent.nm) nm]:=by unfold entAt;rw [zMt hkl];rfl
   rw [e]
   have h1:=(hl.each _ (zMr hkl)).2
   refine ⟨(l[placeN (l.map Ent.nm) nm]).size.toNat,by have:=(zAA h1).2.1;simp only;omega,?_⟩
   have:=(zAA h1).2.1
   rw [show (((l[placeN (l.map Ent.nm) nm]).size.toNat:Nat):Int)=(l[placeN (l.map Ent.nm) nm]).size from by omega]
   exact h1
 . rw [if_neg h]
   exact ⟨0,rfl,(zFT hc hk).1⟩
theorem zKt {m:List Blk} {key:Int} {l:List Ent} {a:AskV} (hl:zA5 m key l) (hc:checkE m=0) (hk:keyE key 0=0) (hb:Byt a.bytes) (h:(writeW m key l a).2.2=0) :
 nameB a.file=true/\∃ (z:Nat) (b:List Int),fileE m key (oldF l a.file).1 z=0/\Byt b/\b.length<=256/\(turnR m key (oldF l a.file).1 z b).2.2=0/\writeW m key l a=layR (turnR m key (oldF l a.file).1 z b).1 l a.file (turnR m key (oldF l a.file).1 z b).2.1 b.length:=by
 obtain ⟨z,hz,hf⟩:=zLZ hl hc hk a.file
 have hfl:(fileB m key (oldF l a.file).1 z).length<=256:=by rw [zB4 hf];have:=(zAA hf).2.2.1;omega
 have hfb:=zDQ m key (oldF l a.file).1 z
 unfold writeW at h ⊢
 rw [hz] at h ⊢
 cases hn:nameB a.file with
 | false=>rw [if_pos hn] at h;simp at h
 | true=>
 rw [if_neg (by simp [hn])] at h ⊢
 by_cases h4:a.kind=4
 . rw [if_pos h4] at h ⊢
   by_cases hp:placeB (l.map Ent.nm) a.file=false
   . rw [if_pos hp] at h;simp at h
   . rw [if_neg hp] at h ⊢
     by_cases hr:a.n<0\/256<a.n
     . rw [if_pos hr] at h;simp at h
     . rw [if_neg hr] at h ⊢
       obtain ⟨g1,g2⟩:=zIX h
       exact ⟨rfl,z,_,hf,zGg hfb _,by rw [zGe];omega,g1,g2⟩
 . rw [if_neg h4] at h ⊢
   by_cases he:(overR (fileB m key (oldF l a.file).1 z) a.at_ a.bytes).2=0
   . rw [if_neg (fun k=>k he)] at h ⊢
     obtain ⟨g1,g2⟩:=zIX h
     exact ⟨rfl,z,_,hf,zE1 hfb hb,zFy he hfl,g1,g2⟩
   . rw [if_pos he] at h
     exact absurd h he
theorem set_perm {α:Type} (l:List α) (k:Nat) (h:k<l.length) (e:α):(l.set k e).Perm (e::l.eraseIdx k):=by
 have h1:=zBW (l.set k e) k (by rw [zMK];exact h)
 rw [zNX] at h1
 have h2:(l.set k e).eraseIdx k=l.eraseIdx k:=by
  rw [zM1,zM1,List.take_set_of_le (zMs _),List.drop_set_of_lt (Nat.lt_succ_self _)]
 rw [h2] at h1
 exact h1.symm
theorem lay_ok {t:List Blk} {l:List Ent} {nm:ByteArray} {rt z:Int} (hsh:Shape l) (hn:nameB nm=true) (h:(layR t l nm rt z).2.2=0) :
 Shape (layR t l nm rt z).2.1/\∃ x:Ent,x.root=rt/\x.size=z/\((∃ o:Ent,o∈l/\(layR t l nm rt z).1=zAj 4 t o.root/\(∀ e∈(layR t l nm rt z).2.1,e=x\/e∈l)/\(rt::rootsF l).Perm (o.root::rootsF (layR t l nm rt z).2.1))\/
  ((layR t l nm rt z).1=t/\(∀ e∈(layR t l nm rt z).2.1,e=x\/e∈l)/\(rt::rootsF l).Perm (rootsF (layR t l nm rt z).2.1))):=by
 unfold layR at h ⊢
 by_cases hb:placeB (l.map Ent.nm) nm=true
 . rw [if_pos hb]
   obtain ⟨-,hk,hke⟩:=zAU hb
   generalize placeN (l.map Ent.nm) nm=k at hk hke ⊢
   have hkl:k<l.length:=by rwa [zMA] at hk
   rw [zM2] at hke
   have hea:entAt l k=l[k]:=by unfold entAt;rw [zMt hkl];rfl
   rw [hea]
   have hmem:∀ e∈l.set k ⟨l[k].nm,rt,z⟩,e=⟨l[k].nm,rt,z⟩\/e∈l:=fun e he=>(zMU he).symm
   have hmap:(l.set k ⟨l[k].nm,rt,z⟩).map Ent.nm=l.map Ent.nm:=by
    rw [List.map_set]
    apply zNd
    . simp
    . intro i h1 h2
      rw [zMP]
      split
      . rename_i e;subst e;simp
      . rfl
   refine ⟨⟨by simp only [zMK];exact hsh.len,fun e he=>?_,by simp only;rw [hmap];exact hsh.rise⟩,⟨l[k].nm,rt,z⟩,rfl,rfl,.inl ⟨l[k],zMr hkl,rfl,hmem,?_⟩⟩
   . rcases hmem e he with rfl | h1
     . show nameB l[k].nm=true
       exact hsh.names _ (zMr hkl)
     . exact hsh.names e h1
   . have h1:(rootsF (l.set k ⟨l[k].nm,rt,z⟩)).Perm (rt::rootsF (l.eraseIdx k)):=(set_perm l k hkl _).map Ent.root
     have h2:(l[k].root::rootsF (l.eraseIdx k)).Perm (rootsF l):=(zBW l k hkl).map Ent.root
     have h3:(rt::l[k].root::rootsF (l.eraseIdx k)).Perm (l[k].root::rt::rootsF (l.eraseIdx k)):=List.Perm.swap _ _ _
     exact ((h2.symm.cons rt).trans h3).trans (h1.symm.cons l[k].root)
 . rw [if_neg hb] at h ⊢
   have hb':placeB (l.map Ent.nm) nm=false:=by simpa using hb
   by_cases h6:l.length=6
   . rw [if_pos h6] at h;simp at h
   . rw [if_neg h6]
     have hple:placeN (l.map Ent.nm) nm<=l.length:=by have:=zBt (l.map Ent.nm) nm;rwa [zMA] at this
     have hri:=zCi hsh.rise hb'
     generalize placeN (l.map Ent.nm) nm=P at hple hri ⊢
     have hp:=zBw l P ⟨nm,rt,z⟩
     have hmem:∀ e∈insL l P ⟨nm,rt,z⟩,e=⟨nm,rt,z⟩\/e∈l:=fun e he=>zNP.1 (hp.mem_iff.1 he)
     refine ⟨⟨by simp only;rw [zBr _ _ _ hple];have:=hsh.len;omega,fun e he=>?_,by simp only;rw [zEJ];exact hri⟩,⟨nm,rt,z⟩,rfl,rfl,.inr ⟨rfl,hmem,?_⟩⟩
     . rcases hmem e he with rfl | h1
       . exact hn
       . exact hsh.names e h1
     . have h1:(rootsF (insL l P ⟨nm,rt,z⟩)).Perm (rt::rootsF l):=hp.map Ent.root
       exact h1.symm
theorem SHold.weaken {s z m:List Blk} {key:Int} {y:SetV} {k k' c:Nat} (h:SHold s z m key y k c) (hk:k<=k'):SHold s z m key y k' c:=by
 obtain ⟨O,N,h0,h1,h2,h3⟩:=h.old
 exact ⟨h.hold,h.right,⟨O,N,h0,by omega,h2,h3⟩⟩
section
variable {s z m:List Blk} {key:Int} {y:SetV} {k c:Nat}
theorem zJQ (hB:zCs s z) (h:SHold s z m key y k c) (hc1:1<=c) (hc4:c<=4) (hcN:16*c*(k+1)+24<=1000) (hkN:k+1<=1000) {a:AskV} (hb:Byt a.bytes)
 (hFT:∀ O root (sz:Nat) b,OldIn s z m O->FewC O m c->fileE m key root sz=0->Byt b->b.length<=256->(turnR m key root sz b).2.2=0->FewC O (turnR m key root sz b).1 c) (hd:(writeW m key y.files a).2.2=0) :
 SHold s z (writeW m key y.files a).1 key { y with files:=(writeW m key y.files a).2.1 } (k+1) c/\∀ e∈allE { y with files:=(writeW m key y.files a).2.1 },fileE m key e.root e.size=0->fileB (writeW m key y.files a).1 key e.root e.size=fileB m key e.root e.size:=by
 have hR:=h.right
 have hgs:=Good.of_check hB.chk hB.wf
 have hnn:=hB.nn
 obtain ⟨O,N,hO,hN,hRN,hFC0⟩:=h.old
 obtain ⟨hn,sz,b,hf,hbb,hbl,hte,heq⟩:=zKt hR.files hR.chk hR.kok hb hd
 have hFC:=hFT O _ sz b hO hFC0 hf hbb hbl hte
 have hT:=turnR_ok h.hold.good.wf hf (fun x hx=>(h.hold.good.refs x hx).2) (by omega) (by omega) hbb hbl hte
 rw [heq] at hd ⊢
 generalize turnR m key (oldF y.files a.file).1 sz b=T at hT hFC hte hd heq ⊢
 obtain ⟨t,rt,te⟩:=T
 simp only at hT hFC hte hd ⊢
 obtain ⟨hsh,x,hx1,hx2,hcase⟩:=lay_ok hR.files.shape hn hd
 have hHt:=h.hold.turn hT.at_
 have hOt:=hO.keeps hT.at_.keeps hT.at_.len
 have hRN1:zBP O (rt::N) (rt::rootsL y):=fun r hr=>by
  rcases zNP.1 hr with rfl | hr
  . exact .inr (.inr (zNJ ..))
  . rcases hRN r hr with h0 | h0 | h0
    . exact .inl h0
    . exact .inr (.inl h0)
    . exact .inr (.inr (zNq _ h0))
 -- the new file
 have hleafs:∀ {u:List Blk} {M':Int},Good u M'->Keeps u t->zAs u 3 rt->checkE u=0->fileE u key rt b.length=0:=fun {u M'} hgu hku hru hcu=>by
  refine (zHp hcu hru hR.kok hbb hbl fun j hj=>?_).1
  rw [<- zBh hgu hku 3 rt j (by omega) hru hj]
  exact hT.leaf j hj
 have hshX:zEv key { y with files:=(layR t y.files a.file rt b.length).2.1 }:=⟨hR.kok,hR.nm,hsh,hR.slen,hR.shape.snaps,hR.rise⟩
 have hall:=hR.all
 rcases hcase with ⟨o,ho,g1,g2,g3⟩ | ⟨g1,g2,g3⟩
 . -- what was there is let go
   have hp:(rt::rootsL y).Perm ([o.root]++rootsL { y with files:=(layR t y.files a.file rt b.length).2.1 }):=by
    unfold rootsL
    have:=g3.append_right (rootsS y.snaps)
    simpa using this
   obtain ⟨hH2,hsub⟩:=Hold.less hgs hnn (hHt.perm hp)
   have e1:lessL t [o.root]=zAj 4 t o.root:=rfl
   rw [e1,<- g1] at hH2 hsub
   have hvia:Via m (layR t y.files a.file rt b.length).1:=⟨t,_,_,_,h.hold.good,hT.at_.keeps,hT.at_.good,hsub,hH2.good⟩
   have hk2:=zCX hsub hH2.good
   have hfin:=zFi (k:=k+1) (c:=c) hB hvia hH2 hshX (hOt.sub hsub hH2.good hH2.keeps hH2.len) (N:=rt::N) (by simp only [zMT];omega) (hRN1.sub (fun r hr=>hp.mem_iff.2 (zNo.2 (.inr hr))) hH2.rt) hc1 hc4 hcN hkN (hFC.sub hsub) (fun e he=>?_)
   . exact hfin
   . rcases zNo.1 he with h1 | h1
     . rcases g2 e h1 with rfl | h2
       . right
         intro hck
         rw [hx1,hx2]
         refine hleafs hH2.good hk2 (hH2.rt rt ?_) hck
         have:=zDO he
         rwa [hx1] at this
       . exact .inl (hall e (zNo.2 (.inl h2)))
     . exact .inl (hall e (zNo.2 (.inr h1)))
 . have hp:(rt::rootsL y).Perm (rootsL { y with files:=(layR t y.files a.file rt b.length).2.1 }):=by
    unfold rootsL
    have:=g3.append_right (rootsS y.snaps)
    simpa using this
   have hH2:Hold s (layR t y.files a.file rt b.length).1 (rootsL { y with files:=(layR t y.files a.file rt b.length).2.1 }) (1000000+833):=by rw [g1];exact hHt.perm hp
   have hvia:Via m (layR t y.files a.file rt b.length).1:=by rw [g1];exact ⟨t,_,_,_,h.hold.good,hT.at_.keeps,hT.at_.good,Sub.refl hT.at_.good.live,hT.at_.good⟩
   have hfin:=zFi (k:=k+1) (c:=c) hB hvia hH2 hshX (by rw [g1];exact hOt) (N:=rt::N) (by simp only [zMT];omega) (hRN1.mem fun r hr=>hp.mem_iff.2 hr) hc1 hc4 hcN hkN (by rw [g1];exact hFC) (fun e he=>?_)
   . exact hfin
   . rcases zNo.1 he with h1 | h1
     . rcases g2 e h1 with rfl | h2
       . right
         intro hck
         rw [hx1,hx2]
         refine hleafs hH2.good (by rw [g1];exact Keeps.refl t) (hH2.rt rt ?_) hck
         have:=zDO he
         rwa [hx1] at this
       . exact .inl (hall e (zNo.2 (.inl h2)))
     . exact .inl (hall e (zNo.2 (.inr h1)))
theorem Sub.via {m m':List Blk} {M M':Int} (hg:Good m M) (hs:Sub m m') (hg':Good m' M'):Via m m':=⟨m,M,M,M',hg,Keeps.refl m,hg,hs,hg'⟩
theorem zLP (hB:zCs s z) (h:SHold s z m key y k c) (hc1:1<=c) (hc4:c<=4) (hcN:16*c*k+24<=1000) (hkN:k<=1000) {a:AskV} (hd:(moveR m y.files a).2.2=0) :
 SHold s z (moveR m y.files a).1 key { y with files:=(moveR m y.files a).2.1 } k c/\∀ e∈allE { y with files:=(moveR m y.files a).2.1 },fileE m key e.root e.size=0->fileB (moveR m y.files a).1 key e.root e.size=fileB m key e.root e.size:=by
 have hR:=h.right
 have hgs:=Good.of_check hB.chk hB.wf
 have hnn:=hB.nn
 obtain ⟨O,N,hO,hN,hRN,hFC⟩:=h.old
 by_cases h6:a.kind=6
 . obtain ⟨kind,sn,nm,dest,p,q,bs⟩:=a
   simp only at h6
   subst h6
   obtain ⟨g1,l1,g2,g3,g4,g5,-⟩:=zLV (sn':=sn) (p':=p) (q':=q) (bs':=bs) hR.files hd
   rw [g1,g2]
   have hp:(rootsL y).Perm (rootsL { y with files:=l1 }):=by
    unfold rootsL
    exact g5.symm.append_right _
   refine ⟨⟨h.hold.perm hp,⟨hR.kok,hR.chk,hR.nm,g4,hR.slen,hR.snaps,hR.rise⟩,⟨O,N,hO,hN,hRN.mem fun r hr=>hp.mem_iff.2 hr,hFC⟩⟩,fun e _ _=>rfl⟩
 . unfold moveR at hd ⊢
   by_cases hb:placeB (y.files.map Ent.nm) a.file=false
   . rw [if_pos hb] at hd;simp at hd
   . rw [if_neg hb,if_neg h6]
     have hb':placeB (y.files.map Ent.nm) a.file=true:=by simpa using hb
     obtain ⟨-,hk,hke⟩:=zAU hb'
     generalize placeN (y.files.map Ent.nm) a.file=q at hk hke ⊢
     have hkl:q<y.files.length:=by rwa [zMA] at hk
     have hea:entAt y.files q=y.files[q]:=by unfold entAt;rw [zMt hkl];rfl
     rw [hea]
     simp only
     have hp:(rootsL y).Perm ([(y.files[q]).root]++rootsL { y with files:=y.files.eraseIdx q }):=by
      unfold rootsL
      have h2:((y.files[q]).root::rootsF (y.files.eraseIdx q)).Perm (rootsF y.files):=(zBW y.files q hkl).map Ent.root
      have:=h2.symm.append_right (rootsS y.snaps)
      simpa using this
     obtain ⟨hH2,hsub⟩:=Hold.less hgs hnn (h.hold.perm hp)
     have e1:lessL m [(y.files[q]).root]=zAj 4 m (y.files[q]).root:=rfl
     rw [e1] at hH2 hsub
     have hsh:Shape (y.files.eraseIdx q):=⟨by rw [zNm];have:=hR.files.len;split<;>omega,fun e he=>(hR.files.each e ((zNE _ _).mem he)).1,by rw [zB1];exact hR.files.rise.erase q⟩
     exact zFi hB (hsub.via h.hold.good hH2.good) hH2 ⟨hR.kok,hR.nm,hsh,hR.slen,hR.shape.snaps,hR.rise⟩ (hO.sub hsub hH2.good hH2.keeps hH2.len) hN (hRN.sub (fun r hr=>hp.mem_iff.2 (zNo.2 (.inr hr))) hH2.rt) hc1 hc4 hcN hkN (hFC.sub hsub) (fun e he=>.inl (hR.all e (by
      rcases zNo.1 he with h1 | h1
      . exact zNo.2 (.inl ((zNE _ _).mem h1))
      . exact zNo.2 (.inr h1))))
theorem zHO {l l':List Snp} (h:l.Perm l'):(rootsS l).Perm (rootsS l'):=h.flatMap_right _
theorem zKo (hB:zCs s z) (h:SHold s z m key y k c) (hc1:1<=c) (hc4:c<=4) (hcN:16*c*k+24<=1000) (hkN:k<=1000) {a:AskV} (hd:(snapsR m y a).2.2=0) :
 SHold s z (snapsR m y a).1 key (snapsR m y a).2.1 k c/\(∀ e∈allE (snapsR m y a).2.1,fileE m key e.root e.size=0->fileB (snapsR m y a).1 key e.root e.size=fileB m key e.root e.size)/\
  (∀ z∈y.snaps,¬ (a.kind=8/\a.dest=z.nm)->z∈(snapsR m y a).2.1.snaps):=by
 have hR:=h.right
 have hsx:=hR.shape
 have hgs:=Good.of_check hB.chk hB.wf
 have hnn:=hB.nn
 obtain ⟨O,N,hO,hN,hRN,hFC⟩:=h.old
 have hrtF:∀ a∈rootsF y.files,zAs m 3 a:=fun a ha=>by
  obtain ⟨e,he,rfl⟩:=List.mem_map.1 ha
  exact zBl (hR.files.each e he).2
 have hlenF:(rootsF y.files).length<=6:=by rw [zAX];exact hR.files.len
 unfold snapsR at hd ⊢
 cases hn:nameB a.dest with
 | false=>rw [if_pos hn] at hd;simp at hd
 | true=>
 rw [if_neg (by simp [hn])] at hd ⊢
 by_cases h7:a.kind=7
 . rw [if_pos h7] at hd ⊢
   cases hb:placeB (y.snaps.map Snp.nm) a.dest with
   | true=>rw [if_pos hb] at hd;simp at hd
   | false=>
   rw [if_neg (by simp [hb])] at hd ⊢
   by_cases h3:y.snaps.length=3
   . rw [if_pos h3] at hd;simp at hd
   rw [if_neg h3]
   have hple:placeN (y.snaps.map Snp.nm) a.dest<=y.snaps.length:=by have:=zBt (y.snaps.map Snp.nm) a.dest;rwa [zMA] at this
   have hri:=zCi hR.rise hb
   generalize placeN (y.snaps.map Snp.nm) a.dest=P at hple hri ⊢
   simp only
   have hip:=zBw y.snaps P ⟨a.dest,y.files⟩
   have hp:(rootsF y.files++rootsL y).Perm (rootsL { y with snaps:=insL y.snaps P ⟨a.dest,y.files⟩ }):=by
    unfold rootsL
    refine List.Perm.append_left _ ?_
    have h1:(rootsS (insL y.snaps P ⟨a.dest,y.files⟩)).Perm (rootsF y.files++rootsS y.snaps):=zHO hip
    exact h1.symm
   have hH2:=(h.hold.bump (by omega) (by omega) hrtF).perm hp
   have hadr:Adr m (rootsF y.files):=zDG fun a ha=>zCS (hrtF a ha)
   have hbg:=zFe h.hold.good (by omega) (ks:=rootsF y.files) (by omega) (fun a ha=>zCS (hrtF a ha))
   have hvia:Via m (bump m (rootsF y.files)):=⟨bump m (rootsF y.files),_,_,_,h.hold.good,zBb hadr,hbg,Sub.refl hbg.live,hbg⟩
   have hs3:=hR.slen
   have hmem:∀ z∈insL y.snaps P ⟨a.dest,y.files⟩,z=⟨a.dest,y.files⟩\/z∈y.snaps:=fun z hz=>zNP.1 (hip.mem_iff.1 hz)
   have hshX:zEv key { y with snaps:=insL y.snaps P ⟨a.dest,y.files⟩ }:=⟨hR.kok,hR.nm,hsx.files,by simp only;rw [zBr _ _ _ hple];omega,fun z hz=>by
    rcases hmem z hz with rfl | h1
    . exact ⟨hn,hsx.files⟩
    . exact hsx.snaps z h1,by simp only;rw [zEJ];exact hri⟩
   have hfin:=zFi hB hvia hH2 hshX (hO.keeps (zBb hadr) (zAp _ _)) hN (hRN.mem fun r hr=>by
    rcases zNo.1 (hp.mem_iff.2 hr) with h1 | h1
    . exact zNo.2 (.inl h1)
    . exact h1) hc1 hc4 hcN hkN (hFC.bump h.hold.good hadr) (fun e he=>.inl (hR.all e (by
      rcases zNo.1 he with h1 | h1
      . exact zNo.2 (.inl h1)
      . obtain ⟨z,hz,h2⟩:=List.mem_flatMap.1 h1
        rcases hmem z hz with rfl | h3
        . exact zNo.2 (.inl h2)
        . exact zNo.2 (.inr (List.mem_flatMap.2 ⟨z,h3,h2⟩)))))
   exact ⟨hfin.1,hfin.2,fun z hz _=>hip.mem_iff.2 (zNq _ hz)⟩
 . rw [if_neg h7] at hd ⊢
   by_cases hb:placeB (y.snaps.map Snp.nm) a.dest=false
   . rw [if_pos hb] at hd;simp at hd
   rw [if_neg hb]
   have hb':placeB (y.snaps.map Snp.nm) a.dest=true:=by simpa using hb
   obtain ⟨-,hk,hke⟩:=zAU hb'
   generalize placeN (y.snaps.map Snp.nm) a.dest=q at hk hke ⊢
   have hkl:q<y.snaps.length:=by rwa [zMA] at hk
   rw [zM2] at hke
   have hea:snpAt y.snaps q=y.snaps[q]:=by unfold snpAt;rw [zMt hkl];rfl
   rw [hea]
   have hzm:=zMr hkl
   have hep:=zBW y.snaps q hkl
   by_cases h8:a.kind=8
   . rw [if_pos h8]
     simp only
     have hp:(rootsL y).Perm (rootsF (y.snaps[q]).files++rootsL { y with snaps:=y.snaps.eraseIdx q }):=by
      unfold rootsL
      have h1:(rootsF (y.snaps[q]).files++rootsS (y.snaps.eraseIdx q)).Perm (rootsS y.snaps):=zHO hep
      have h2:(rootsF y.files++(rootsF (y.snaps[q]).files++rootsS (y.snaps.eraseIdx q))).Perm (rootsF (y.snaps[q]).files++(rootsF y.files++rootsS (y.snaps.eraseIdx q))):=by
       rw [<- zM8,<- zM8]
       exact List.perm_append_comm.append_right _
      exact (h1.symm.append_left _).trans h2
     obtain ⟨hH2,hsub⟩:=Hold.less hgs hnn (h.hold.perm hp)
     have hsubl:∀ z∈y.snaps.eraseIdx q,z∈y.snaps:=fun z hz=>(zNE _ _).mem hz
     have hshX:zEv key { y with snaps:=y.snaps.eraseIdx q }:=⟨hR.kok,hR.nm,hsx.files,by simp only;rw [zNm];have:=hR.slen;split<;>omega,fun z hz=>hsx.snaps z (hsubl z hz),by simp only;rw [zB1];exact hR.rise.erase q⟩
     have hfin:=zFi hB (hsub.via h.hold.good hH2.good) hH2 hshX (hO.sub hsub hH2.good hH2.keeps hH2.len) hN (hRN.sub (fun r hr=>hp.mem_iff.2 (zNo.2 (.inr hr))) hH2.rt) hc1 hc4 hcN hkN (hFC.sub hsub) (fun e he=>.inl (hR.all e (by
      rcases zNo.1 he with h1 | h1
      . exact zNo.2 (.inl h1)
      . obtain ⟨z,hz,h2⟩:=List.mem_flatMap.1 h1
        exact zNo.2 (.inr (List.mem_flatMap.2 ⟨z,hsubl z hz,h2⟩)))))
     refine ⟨hfin.1,hfin.2,fun z hz hnot=>?_⟩
     rcases zNP.1 (hep.mem_iff.2 hz) with rfl | h1
     . exact absurd ⟨h8,hke.symm⟩ hnot
     . exact h1
   . rw [if_neg h8]
     simp only
     have hrtS:∀ a∈rootsF (y.snaps[q]).files,zAs m 3 a:=fun a ha=>by
      obtain ⟨e,he,rfl⟩:=List.mem_map.1 ha
      exact zBl ((hR.snaps _ hzm).2.each e he).2
     have hlenS:(rootsF (y.snaps[q]).files).length<=6:=by rw [zAX];exact (hR.snaps _ hzm).2.len
     have hH1:=h.hold.bump (by omega) (by omega) hrtS
     have hp:(rootsF (y.snaps[q]).files++rootsL y).Perm (rootsF y.files++rootsL { y with files:=(y.snaps[q]).files }):=by
      unfold rootsL
      have h2:(rootsF (y.snaps[q]).files++(rootsF y.files++rootsS y.snaps)).Perm (rootsF y.files++(rootsF (y.snaps[q]).files++rootsS y.snaps)):=by
       rw [<- zM8,<- zM8]
       exact List.perm_append_comm.append_right _
      exact h2
     obtain ⟨hH2,hsub⟩:=Hold.less hgs hnn (hH1.perm hp)
     have hadr:Adr m (rootsF (y.snaps[q]).files):=zDG fun a ha=>zCS (hrtS a ha)
     have hvia:Via m (lessL (bump m (rootsF (y.snaps[q]).files)) (rootsF y.files)):=⟨bump m (rootsF (y.snaps[q]).files),_,_,_,h.hold.good,zBb hadr,hH1.good,hsub,hH2.good⟩
     have hshX:zEv key { y with files:=(y.snaps[q]).files }:=⟨hR.kok,hR.nm,(hsx.snaps _ hzm).2,hR.slen,hsx.snaps,hR.rise⟩
     have hfin:=zFi hB hvia hH2 hshX ((hO.keeps (zBb hadr) (zAp _ _)).sub hsub hH2.good hH2.keeps hH2.len) hN (hRN.sub (fun r hr=>by
      rcases zNo.1 (hp.mem_iff.2 (zNo.2 (.inr hr))) with h1 | h1
      . exact zNo.2 (.inr (List.mem_flatMap.2 ⟨_,hzm,h1⟩))
      . exact h1) hH2.rt) hc1 hc4 hcN hkN ((hFC.bump h.hold.good hadr).sub hsub) (fun e he=>.inl (hR.all e (by
      rcases zNo.1 he with h1 | h1
      . exact zNo.2 (.inr (List.mem_flatMap.2 ⟨_,hzm,h1⟩))
      . exact zNo.2 (.inr h1))))
     exact ⟨hfin.1,hfin.2,fun z hz _=>hz⟩
theorem zKS (hB:zCs s z) (h:SHold s z m key y k c) (hc1:1<=c) (hc4:c<=4) (hcN:16*c*(k+1)+24<=1000) (hkN:k+1<=1000) {a:AskV} (hb:Byt a.bytes)
 (hFT:∀ O root (sz:Nat) b,OldIn s z m O->FewC O m c->fileE m key root sz=0->Byt b->b.length<=256->(turnR m key root sz b).2.2=0->FewC O (turnR m key root sz b).1 c) (hd:(doR writeW m key y a).2.2=0) :
 SHold s z (doR writeW m key y a).1 key (doR writeW m key y a).2.1 (k+1) c/\(∀ e∈allE (doR writeW m key y a).2.1,fileE m key e.root e.size=0->fileB (doR writeW m key y a).1 key e.root e.size=fileB m key e.root e.size)/\
  (∀ z∈y.snaps,¬ (a.kind=8/\a.dest=z.nm)->z∈(doR writeW m key y a).2.1.snaps):=by
 obtain ⟨-,-,h3,h4⟩:=zK0 hd
 have hcN':16*c*k+24<=1000:=by
  have:16*c*k<=16*c*(k+1):=Nat.mul_le_mul_left _ (by omega)
  omega
 rw [h4]
 unfold askR at h3 ⊢
 by_cases g1:a.kind=3\/a.kind=4
 . rw [if_pos g1] at h3 ⊢
   obtain ⟨r1,r2⟩:=zJQ hB h hc1 hc4 hcN hkN hb hFT h3
   exact ⟨r1,r2,fun z hz _=>hz⟩
 . rw [if_neg g1] at h3 ⊢
   by_cases g2:a.kind=5\/a.kind=6
   . rw [if_pos g2] at h3 ⊢
     obtain ⟨r1,r2⟩:=zLP hB h hc1 hc4 hcN' (by omega) h3
     exact ⟨r1.weaken (by omega),r2,fun z hz _=>hz⟩
   . rw [if_neg g2] at h3 ⊢
     by_cases g3:a.kind=7\/a.kind=8\/a.kind=9
     . rw [if_pos g3] at h3 ⊢
       obtain ⟨r1,r2,r3⟩:=zKo hB h hc1 hc4 hcN' (by omega) h3
       exact ⟨r1.weaken (by omega),r2,r3⟩
     . rw [if_neg g3] at h3
       simp at h3
end
def liveB (s:List Blk) (i:Nat):Bool:=decide (i<s.length)&&decide (0<(atB s i).refs)
theorem zGo {s:List Blk} {M:Int} (hg:Good s M):OldIn s s s (liveB s):=by
 refine ⟨fun i hi=>?_,fun i h1 h2=>?_,fun i hi j hj=>?_⟩
 . unfold liveB at hi
   simp only [zMW,decide_eq_true_eq] at hi
   exact ⟨hi.1,hi.2,rfl⟩
 . unfold liveB
   simp only [zMW,decide_eq_true_eq]
   exact ⟨h1,h2⟩
 . unfold liveB at hi ⊢
   simp only [zMW,decide_eq_true_eq] at hi ⊢
   have h5:=(hg.kid_there hi.1 hj (by omega)).2.2.2.2.1
   obtain ⟨q,hq,e,hpos⟩:=zB3 h5
   obtain rfl:q=j:=by omega
   exact ⟨hq,hpos⟩
theorem zEE {s:List Blk} {R N:List Int} (h:∀ r∈R,zAs s 3 r):zBP (liveB s) N R:=fun r hr=>by
 rcases h r hr with h0 | ⟨h0,-⟩
 . exact .inl h0
 . obtain ⟨q,hq,e,hpos⟩:=zB3 h0
   refine .inr (.inl ⟨q,e,?_⟩)
   unfold liveB
   simp only [zMW,decide_eq_true_eq]
   exact ⟨hq,hpos⟩
theorem zHS {s:List Blk} {M:Int} (hg:Good s M):Hold s s [] M:=⟨hg,rfl,Keeps.refl s,fun j _=>by simp,fun r hr=>by cases hr⟩
theorem zFZ {s:List Blk} {key:Int} {l:List Ent} {nm:ByteArray} (hB:zCs s s) (hk:keyE key 0=0) (hl:zA5 s key l) (hn:nameB nm=true):SHold s s (bump s (rootsF l)) key ⟨nm,l,[]⟩ 0 4:=by
 have hgs:=Good.of_check hB.chk hB.wf
 have hrt:∀ a∈rootsF l,zAs s 3 a:=fun a ha=>by
  obtain ⟨e,he,rfl⟩:=List.mem_map.1 ha
  exact zBl (hl.each e he).2
 have hlen:(rootsF l).length<=6:=by rw [zAX];exact hl.len
 have hlive:=fun a ha=>zCS (hrt a ha)
 have hadr:Adr s (rootsF l):=zDG hlive
 have hH:=(zHS hgs).bump (ks:=rootsF l) (by omega) (by omega) hrt
 have hp:(rootsF l++[]).Perm (rootsL ⟨nm,l,[]⟩):=by simp [rootsL,rootsS]
 have hH2:=hH.perm hp
 have hbg:=zFe hgs (by omega) (ks:=rootsF l) (by omega) hlive
 have hvia:Via s (bump s (rootsF l)):=⟨bump s (rootsF l),_,_,_,hgs,zBb hadr,hbg,Sub.refl hbg.live,hbg⟩
 exact (zFi (k:=0) (c:=4) hB hvia hH2 ⟨hk,hn,hl.shape,by simp,fun z hz=>(by cases hz),.nil⟩ ((zGo hgs).keeps (zBb hadr) (zAp _ _)) (N:=[]) (by simp) (zEE fun r hr=>hrt r (by
  have:=hp.mem_iff.2 hr
  simpa using this)) (by omega) (by omega) (by omega) (by omega) (zDP hbg) (fun e he=>.inl (by
   rcases zNo.1 he with h1 | h1
   . exact (hl.each e h1).2
   . simp at h1))).1
theorem zHT {s:List Blk} {key:Int} {x:SetV} {frm name:ByteArray} (h:(zAL s key x frm name).2.2=0):setE s key x=0/\nameB name=true/\∃ z∈x.snaps,zAL s key x frm name=(bump s (rootsF z.files),⟨name,z.files,[]⟩,0):=by
 unfold zAL at h ⊢
 by_cases h1:setE s key x=0
 . rw [if_neg (fun k=>k h1)] at h ⊢
   by_cases h2:heldE s x=0
   . rw [if_neg (fun k=>k h2)] at h ⊢
     cases hn:nameB name with
     | false=>rw [if_pos hn] at h;simp at h
     | true=>
     rw [if_neg (by simp [hn])] at h ⊢
     by_cases hb:placeB (x.snaps.map Snp.nm) frm=false
     . rw [if_pos hb] at h;simp at h
     . rw [if_neg hb]
       obtain ⟨-,hk,-⟩:=zAU (by simpa using hb:placeB (x.snaps.map Snp.nm) frm=true)
       have hkl:placeN (x.snaps.map Snp.nm) frm<x.snaps.length:=by rwa [zMA] at hk
       have hea:snpAt x.snaps (placeN (x.snaps.map Snp.nm) frm)=x.snaps[placeN (x.snaps.map Snp.nm) frm]:=by unfold snpAt;rw [zMt hkl];rfl
       rw [hea]
       exact ⟨h1,rfl,_,zMr hkl,rfl⟩
   . rw [if_pos h2] at h
     exact absurd h h2
 . rw [if_pos h1] at h
   exact absurd h h1
theorem SHold.wf {s z m:List Blk} {key:Int} {y:SetV} {k c:Nat} (h:SHold s z m key y k c):WfS m:=h.hold.good.wf
end Go.Proofs.YtfmgdjgedhnmeaaGreat
