/- The script of 'pooled', in plain words. · The closed fact of the pools. -/
import Derived.Test.YtfmgdjgedhnmeaaGreatPoolY
import Derived.Test.YtfmgdjgedhnmeaaGreatPoolZ
import Derived.Test.YtfmgdjgedhnmeaaGreatPoolNew
namespace Go.Proofs.YtfmgdjgedhnmeaaGreat
open Go.RowKit
set_option linter.unusedVariables false
set_option linter.unusedSimpArgs false
def gpA:ByteArray:=⟨#[97]⟩
def gpF:ByteArray:=⟨#[102]⟩
def gpNo:ByteArray:=⟨#[]⟩
def gp0:PoolV:=⟨List.replicate 110 noBlk,[⟨1,4,[]⟩,⟨2,10,[]⟩]⟩
def gpAsks:List AskV:=[⟨1,gpA,gpNo,gpNo,0,0,[]⟩,⟨3,gpA,gpF,gpNo,0,0,[104,101,121]⟩,⟨3,gpA,gpF,gpNo,9,0,[120]⟩,⟨11,gpA,gpF,gpNo,0,9,[]⟩,⟨11,gpA,gpF,gpNo,0,9,[]⟩]
def gpWho:List Int:=[0,0,0,1,0]
theorem gp_ok:poolE gp0=0:=by kernel_rfl
theorem zKV:(runL gp0 gpWho gpAsks).2.map (fun y=>(y.e,y.bytes))=[(0,[]),(0,[]),(8,[]),(5,[]),(0,[104,101,121])]:=by kernel_rfl
theorem zMe:∀ (p:PoolV) (who:List Int) (l:List AskV),zAM p->WfS p.s->(∀ a∈l,Byt a.bytes)->zAM (runL p who l).1/\WfS (runL p who l).1.s
 | p,i::who,a::l,hp,hw,hb=>by
  obtain ⟨h1,h2⟩:=zJt hp hw (i:=i) (hb a (zNJ ..))
  simp only [runL]
  exact zMe _ who l h1 h2 fun b hb2=>hb b (zNq _ hb2)
 | p,[],_,hp,hw,_=>⟨hp,hw⟩
 | p,_::_,[],hp,hw,_=>⟨hp,hw⟩
def gpQ:PoolV:=(runL gp0 gpWho gpAsks).1
def gpO:List AnsV:=(runL gp0 gpWho gpAsks).2
theorem gp_run:runP gp0 gpWho gpAsks=(gpQ,gpO,0):=by
 unfold runP
 rw [if_neg (fun h=>h gp_ok),if_neg (by decide),if_neg (by decide)]
 rfl
theorem gp_wf:WfP gp0:=by
 refine (zCC gp_ok).wfp fun x hx=>?_
 have hx:x∈List.replicate 110 noBlk:=hx
 rw [List.eq_of_mem_replicate hx]
 refine ⟨⟨by decide,by decide⟩,⟨by decide,by decide⟩,fun k hk=>(zNG hk).elim,fun k hk=>(zNG hk).elim,by decide,by decide⟩
theorem gp_byt:∀ a∈gpAsks,Byt a.bytes/\a.bytes.length<=140737488351232:=fun a ha=>by
 simp [gpAsks] at ha
 rcases ha with rfl | rfl | rfl | rfl<;>simp [Byt]
theorem gp_end:poolE gpQ=0/\WfP gpQ:=by
 obtain ⟨h1,h2⟩:=zMe gp0 gpWho gpAsks (zCC gp_ok) gp_wf.sto fun a ha=>(gp_byt a ha).1
 exact ⟨h1.zero,h1.wfp h2⟩
theorem zF7:gpO.length=5:=by
 have h:=congrArg List.length zKV
 rw [zMA] at h
 exact h
theorem gp_at (i:Nat) (h:i<gpO.length):some ((gpO[i]).e,(gpO[i]).bytes)=[((0:Int),([]:List Int)),(0,[]),(8,[]),(5,[]),(0,[104,101,121])][i]?:=by
 rw [<- zKV,zOh]
 show _=Option.map _ (gpO[i]?)
 rw [zMt h]
 rfl
end Go.Proofs.YtfmgdjgedhnmeaaGreat

namespace Go.Proofs.YtfmgdjgedhnmeaaGreat
open Go.RowKit
set_option linter.unusedVariables false
set_option linter.unusedSimpArgs false
theorem zIK (w:World) (k:IntKind) (t:TypeId) (l:List Int):Row k (w.alloc (.cells (l.map (Value.int k)).toArray t)) (some ⟨w.heap.size,0,none⟩) l:=by
 refine .inr ⟨_,_,rfl,fun i hi=>?_⟩
 rw [zAa (heap_alloc_new w _)]
 simp [hi]
theorem zG4 (w:World) (b o n c:Nat) (xs:List Int) (hn:xs.length=n) (h:Row .u8 w (some ⟨b,o,none⟩) xs):(convert 28 9 (.slice (some ⟨b,o,none⟩) n c)).run Tryz.prog w=.ok (.string (strOfNums xs)) w:=by
 refine run_convert_bytes_arg w 28 5 Tryz.underlying28 Tryz.underlying5 b o n c xs hn (fun i hi=>?_) 9 Tryz.underlying9
 obtain ⟨g,q,e,hc⟩:=h.at i (by omega)
 simp only [zMz,zME,and_true] at e
 obtain ⟨rfl,rfl⟩:=e
 rw [hc i (by omega),zMH,zMt (by omega)]
 rfl
theorem zGO (w:World) (C:Array Value) (n c g:Nat) (hg:g=w.heap.size) :
 (convert 28 28 (.slice (some ⟨g,0,none⟩) n c)).run Tryz.prog (w.alloc (.cells C 5))=.ok (.slice (some ⟨g,0,none⟩) n c) (w.alloc (.cells C 5 (C.size,C.size+1))):=by
 subst hg
 exact Lib.run_convert_bytes_const w 28 5 C n c Tryz.underlying28 Tryz.underlying5
theorem zAG.off_box {w:World} {so ao x y:Option Addr} {sn sc n cap b t l c m d:Nat} {p:PoolV} (h:zAG w so sn sc ao n cap p) (hb:w.heap[b]?=some (.cells #[.slice x l c,.slice y m d] t (0,0))) :
 (∀ g o,so=some ⟨g,o,none⟩->p.s≠[]->¬ g=b)/\∀ g o,ao=some ⟨g,o,none⟩->p.tens≠[]->¬ g=b:=by
 have hc:∀ o k v,w.cell? ⟨b,o,none⟩≠some (.int k v):=fun o k v hv=>by
  rw [zAa hb] at hv
  rcases (show o=0\/o=1\/2<=o from by omega) with rfl | rfl | e
  . simp at hv
  . simp at hv
  . rw [zMV (by simp;omega)] at hv;cases hv
 refine ⟨fun g o e hs eb=>?_,fun g o e ht eb=>?_⟩
 . rcases h.srow with h4 | ⟨g',o',e',h4⟩
   . exact hs h4
   . rw [e'] at e
     simp only [zMz,zME] at e
     have h5:=(h4 0 (List.length_pos_iff.2 hs)).refs
     rw [e.1,eb] at h5
     exact hc _ _ _ h5
 . obtain ⟨vs,h1,h2,-⟩:=h.row
   have hl:0<vs.length:=by rw [h1];exact List.length_pos_iff.2 ht
   obtain ⟨b',o',e',-,h5⟩:=Kind.Row.at h2 hl
   rw [e'] at e
   simp only [zMz,zME] at e
   have h7:(tnvK.all vs)[0*tnvK.k+0]?=some (.int .i64 vs[0].key):=tnvK.all_at vs 0 hl 0 (by decide)
   rw [zOp] at h7
   have h6:=h5 0 _ h7
   rw [e.1,eb] at h6
   exact hc _ _ _ h6
theorem gp_new:zBE 110 [1,2] [4,10]=(gp0,0):=by kernel_rfl
theorem gp_right {n:Int} {ks qs:List Int} {P:PoolV} (h:zBE n ks qs=(P,0)):zAM P:=by
 unfold zBE at h
 split at h
 . rename_i h1
   simp only [zOc] at h
   exact absurd h.2 h1
 . split at h
   . simp only [zOc] at h
     exact absurd h.2 (by decide)
   . split at h
     . rename_i h1
       simp only [zOc] at h
       exact absurd h.2 h1
     . rename_i h1
       simp only [zOc,and_true] at h
       rw [<- h]
       exact zCC (Classical.not_not.1 h1)
set_option maxRecDepth 100000 in
set_option maxHeartbeats 8000000 in
theorem zL4 (w:World) (q:Int) (P:PoolV) (hP:zBE 110 [1,2] [q,10]=(P,0)) (h2:P.tens.length=2) (hq:I64 q) :
 Calls Tryz.prog 12 #[.int .i64 q] w fun e w'=>∃ so sn sc ao n cap,e=.returned (.tuple #[.agg #[.slice so sn sc,.slice ao n cap],.bool true])/\zAG w' so sn sc ao n cap P/\WfP P/\Below w.heap.size w w':=by
 have HPN:=lH hP
 have HQ:=lH hq
 have H2:=lH h2
 obtain ⟨hb0,p2,pa,hz⟩:=zCz w (.cells #[.slice none 0 0,.slice none 0 0] 27) (.cells #[.int .i64 1,.int .i64 2] 3)
 have hb1:Below w.heap.size w (((w.alloc (.cells #[.slice none 0 0,.slice none 0 0] 27)).alloc (.cells #[.int .i64 1,.int .i64 2] 3)).alloc (.cells #[.int .i64 q,.int .i64 10] 3)):=hb0.alloc hb0.size _
 have hr1:Row .i64 (((w.alloc (.cells #[.slice none 0 0,.slice none 0 0] 27)).alloc (.cells #[.int .i64 1,.int .i64 2] 3)).alloc (.cells #[.int .i64 q,.int .i64 10] 3)) (some ⟨w.heap.size+1,0,none⟩) [1,2]:=by
  have h:=(zIK (w.alloc (.cells #[.slice none 0 0,.slice none 0 0] 27)) .i64 3 [1,2]).mono ((zMy _ _).alloc (zMs _) (.cells #[.int .i64 q,.int .i64 10] 3))
  simpa using h
 have hr2:Row .i64 (((w.alloc (.cells #[.slice none 0 0,.slice none 0 0] 27)).alloc (.cells #[.int .i64 1,.int .i64 2] 3)).alloc (.cells #[.int .i64 q,.int .i64 10] 3)) (some ⟨w.heap.size+2,0,none⟩) [q,10]:=by
  have h:=zIK ((w.alloc (.cells #[.slice none 0 0,.slice none 0 0] 27)).alloc (.cells #[.int .i64 1,.int .i64 2] 3)) .i64 3 [q,10]
  rw [hz] at h
  exact h
 have p2:=(((zMy _ _).alloc (zMs _) (.cells #[.int .i64 q,.int .i64 10] 3):Below ((w.alloc (.cells #[.slice none 0 0,.slice none 0 0] 27)).alloc (.cells #[.int .i64 1,.int .i64 2] 3)).heap.size _ _).block _ (zAb p2)).trans p2
 clear hP h2 hq pa hb0 hz
 go_enter Tryz.func12,Tryz.ntmps12
 go_wp2_with fail
 generalize ((w.alloc (.cells #[.slice none 0 0,.slice none 0 0] 27)).alloc (.cells #[.int .i64 1,.int .i64 2] 3)).alloc (.cells #[.int .i64 q,.int .i64 10] 3)=W0 at *
 refine (new_pool W0 110 _ _ 2 2 2 2 [1,2] [q,10] rfl rfl hr1 hr2 (fun k hk=>by simp at hk;rcases hk with rfl | rfl<;>exact ⟨by decide,by decide⟩) (fun k hk=>by simp at hk;rcases hk with rfl | rfl;exact HQ.out;exact ⟨by decide,by decide⟩) (by decide)).mono ?_
 rw [HPN.out]
 rintro e w1 ⟨so,sn,sc,ao,n,cap,rfl,hin,hwf,hb2⟩
 simp only at hin hwf
 have hbw:=zAd hb1 hb2
 have p2:=Zm hb2 p2
 have hn2:n=2:=by have:=hin.len;have:=H2.out;omega
 subst hn2
 have hbp:=bA0 w1 (.cells #[.slice so sn sc,.slice ao 2 cap] 27)
 have q2:=Zm hbp p2
 have c0:(w1.alloc (.cells #[.slice so sn sc,.slice ao 2 cap] 27)).cell? ⟨w1.heap.size,0,none⟩=some (.slice so sn sc):=by simp
 have c1:(w1.alloc (.cells #[.slice so sn sc,.slice ao 2 cap] 27)).cell? ⟨w1.heap.size,1,none⟩=some (.slice ao 2 cap):=by simp
 have hne:w.heap.size≠w1.heap.size:=by have:=zAb p2;omega
 have HIN:=lH (hin.mono hbp)
 have HWFP:=lH hwf
 have HB:=lH (zAd hbw hbp)
 clear hin hwf hbw hbp hb1 hb2 hr1 hr2 p2
 go_upto_region 2 with fail
 generalize w1.alloc (.cells #[.slice so sn sc,.slice ao 2 cap] 27)=W1 at *
 have l1:=zMx _ _ c0
 simp only at l1
 have y0:=zAa q2 0
 have y1:=zAa q2 1
 simp only [cA1,cA2,cA3] at y0 y1
 have yf:=fun j=>zAc q2 j
 have yl:=zAb q2
 have HSK:Hid (∀ u,Kept (fun b=>b=w.heap.size) W1 u->u.cell? ⟨w1.heap.size,0,none⟩=some (.slice so sn sc)/\u.cell? ⟨w1.heap.size,1,none⟩=some (.slice ao 2 cap)):=lH fun u h=>⟨(h.cell l1 (by omega)).trans c0,(h.cell l1 (by omega)).trans c1⟩
 obtain ⟨z2,zb⟩:=zDr q2 (.slice so sn sc) (.slice ao 2 cap)
 have HZ:=lH z2
 have HQ2:=lH q2
 clear z2 zb c0 c1 q2
 go_cut [3] (fun u wx=>u=.bool true/\wx.heap[w.heap.size]?=some (.cells #[.slice so sn sc,.slice ao 2 cap] 27 (0,0))/\Hid (Kept (fun b=>b=w.heap.size) W1 wx))
 case first=>
  go_region_held3 (fun u=>u.cell? ⟨w1.heap.size,0,none⟩=some (.slice so sn sc)/\u.cell? ⟨w1.heap.size,1,none⟩=some (.slice ao 2 cap))
   ((refine HSK.out _ ?_;repeat (first | with_reducible exact Kept.refl _ _ | with_reducible refine Kept.dr ?_ | with_reducible refine Kept.set (bad:=fun b=>b=w.heap.size) ?_ (.inr rfl) _)))
   (fail)
  all_goals
   go_wp2_with fail
   go_meet
   refine ⟨rfl,(by rw [zFl];exact HZ.out),lH (Kept.dr ?_)⟩
   repeat (first | with_reducible exact Kept.refl _ _ | with_reducible refine Kept.set (bad:=fun b=>b=w.heap.size) ?_ (.inr rfl) _)
 case rest=>
  obtain ⟨rfl,z2,hk⟩:=hcut
  have x0:=zAa z2 0
  have x1:=zAa z2 1
  simp only [cA1,cA2,cA3] at x0 x1
  clear z2 y0 y1 yf yl HSK
  go_wp2_with fail
  refine bodyPost_ret (v:=.tuple #[.agg #[.slice so sn sc,.slice ao 2 cap],.bool true]) (by simp [results,Tryz.results12,go_sem,x0,x1]) rfl ?_
  obtain ⟨o1,o2⟩:=HIN.out.off_box HQ2.out
  have hOK:=gp_right HPN.out
  refine ⟨so,sn,sc,ao,2,cap,rfl,zBU HIN.out (X:=fun b=>b=w.heap.size) o1 o2 (Good.of_check hOK.chk HWFP.out.sto).kid4 (fun b _ e=>by rw [e];exact zBI HQ2.out) _ hk.out,HWFP.out,HB.out.trans (hk.out.below HB.out.size (fun b hb e=>by have e:b=w.heap.size:=e;omega))⟩
set_option maxRecDepth 100000 in
set_option maxHeartbeats 8000000 in
theorem zGc (w:World):Calls Tryz.prog 5 #[] w fun e w'=>e=.returned (.bool true)/\Below w.heap.size w w':=by
 go_enter Tryz.func5,Tryz.ntmps5
 go_wp2_with fail
 refine (zL4 w 4 gp0 gp_new rfl ⟨by decide,by decide⟩).mono ?_
 rintro e w1 ⟨so,sn,sc,ao,n,cap,rfl,hin,hwf,hb1⟩
 have hbp:=bA0 w1 (.cells #[.slice so sn sc,.slice ao n cap] 27)
 have p1:=heap_alloc_new w1 (.cells #[.slice so sn sc,.slice ao n cap] 27)
 have HIN:=lH (hin.mono hbp)
 have HB:=lH (zAd hb1 hbp)
 clear hin hwf hb1 hbp
 go_upto_region 4 with fail
 generalize w1.alloc (.cells #[.slice so sn sc,.slice ao n cap] 27)=W0 at *
 have c0:=zAa p1 0
 have c1:=zAa p1 1
 simp at c0 c1
 have lp1:=zAb p1
 have kc1:=zGO (W0.alloc (.cells #[.int .i64 0,.int .i64 0,.int .i64 0,.int .i64 1,.int .i64 0] 3)) #[.int .u8 104,.int .u8 101,.int .u8 121] 3 3 (W0.heap.size+1) (by simp)
 have kc2:=zGO ((W0.alloc (.cells #[.int .i64 0,.int .i64 0,.int .i64 0,.int .i64 1,.int .i64 0] 3)).alloc (.cells #[.int .u8 104,.int .u8 101,.int .u8 121] 5 (3,4))) #[.int .u8 120] 1 1 (W0.heap.size+1+1) (by simp)
 simp only [zOa,zMT,zNK] at kc1 kc2
 obtain ⟨hb4,q0,q1,q2,q3,hz4⟩:=zB6 W0 (.cells #[.int .i64 0,.int .i64 0,.int .i64 0,.int .i64 1,.int .i64 0] 3) (.cells #[.int .u8 104,.int .u8 101,.int .u8 121] 5 (3,4)) (.cells #[.int .u8 120] 5 (1,2)) (.cells #[.int .i64 1,.string ⟨#[97]⟩,.string ⟨#[]⟩,.string ⟨#[]⟩,.int .i64 0,.int .i64 0,.slice none 0 0,.int .i64 3,.string ⟨#[97]⟩,.string ⟨#[102]⟩,.string ⟨#[]⟩,.int .i64 0,.int .i64 0,.slice (some ⟨W0.heap.size+1,0,none⟩) 3 3,.int .i64 3,.string ⟨#[97]⟩,.string ⟨#[102]⟩,.string ⟨#[]⟩,.int .i64 9,.int .i64 0,.slice (some ⟨W0.heap.size+1+1,0,none⟩) 1 1,.int .i64 11,.string ⟨#[97]⟩,.string ⟨#[102]⟩,.string ⟨#[]⟩,.int .i64 0,.int .i64 9,.slice none 0 0,.int .i64 11,.string ⟨#[97]⟩,.string ⟨#[102]⟩,.string ⟨#[]⟩,.int .i64 0,.int .i64 9,.slice none 0 0] 30)
 have hq:∀ o,((((W0.alloc (.cells #[.int .i64 0,.int .i64 0,.int .i64 0,.int .i64 1,.int .i64 0] 3)).alloc (.cells #[.int .u8 104,.int .u8 101,.int .u8 121] 5 (3,4))).alloc (.cells #[.int .u8 120] 5 (1,2))).alloc (.cells #[.int .i64 1,.string ⟨#[97]⟩,.string ⟨#[]⟩,.string ⟨#[]⟩,.int .i64 0,.int .i64 0,.slice none 0 0,.int .i64 3,.string ⟨#[97]⟩,.string ⟨#[102]⟩,.string ⟨#[]⟩,.int .i64 0,.int .i64 0,.slice (some ⟨W0.heap.size+1,0,none⟩) 3 3,.int .i64 3,.string ⟨#[97]⟩,.string ⟨#[102]⟩,.string ⟨#[]⟩,.int .i64 9,.int .i64 0,.slice (some ⟨W0.heap.size+1+1,0,none⟩) 1 1,.int .i64 11,.string ⟨#[97]⟩,.string ⟨#[102]⟩,.string ⟨#[]⟩,.int .i64 0,.int .i64 9,.slice none 0 0,.int .i64 11,.string ⟨#[97]⟩,.string ⟨#[102]⟩,.string ⟨#[]⟩,.int .i64 0,.int .i64 9,.slice none 0 0] 30)).cell? ⟨W0.heap.size+1+1+1,o,none⟩=(#[.int .i64 1,.string ⟨#[97]⟩,.string ⟨#[]⟩,.string ⟨#[]⟩,.int .i64 0,.int .i64 0,.slice none 0 0,.int .i64 3,.string ⟨#[97]⟩,.string ⟨#[102]⟩,.string ⟨#[]⟩,.int .i64 0,.int .i64 0,.slice (some ⟨W0.heap.size+1,0,none⟩) 3 3,.int .i64 3,.string ⟨#[97]⟩,.string ⟨#[102]⟩,.string ⟨#[]⟩,.int .i64 9,.int .i64 0,.slice (some ⟨W0.heap.size+1+1,0,none⟩) 1 1,.int .i64 11,.string ⟨#[97]⟩,.string ⟨#[102]⟩,.string ⟨#[]⟩,.int .i64 0,.int .i64 9,.slice none 0 0,.int .i64 11,.string ⟨#[97]⟩,.string ⟨#[102]⟩,.string ⟨#[]⟩,.int .i64 0,.int .i64 9,.slice none 0 0]:Array Value)[o]?:=fun o=>zAa q3 o
 have hlr:zIS ((((W0.alloc (.cells #[.int .i64 0,.int .i64 0,.int .i64 0,.int .i64 1,.int .i64 0] 3)).alloc (.cells #[.int .u8 104,.int .u8 101,.int .u8 121] 5 (3,4))).alloc (.cells #[.int .u8 120] 5 (1,2))).alloc (.cells #[.int .i64 1,.string ⟨#[97]⟩,.string ⟨#[]⟩,.string ⟨#[]⟩,.int .i64 0,.int .i64 0,.slice none 0 0,.int .i64 3,.string ⟨#[97]⟩,.string ⟨#[102]⟩,.string ⟨#[]⟩,.int .i64 0,.int .i64 0,.slice (some ⟨W0.heap.size+1,0,none⟩) 3 3,.int .i64 3,.string ⟨#[97]⟩,.string ⟨#[102]⟩,.string ⟨#[]⟩,.int .i64 9,.int .i64 0,.slice (some ⟨W0.heap.size+1+1,0,none⟩) 1 1,.int .i64 11,.string ⟨#[97]⟩,.string ⟨#[102]⟩,.string ⟨#[]⟩,.int .i64 0,.int .i64 9,.slice none 0 0,.int .i64 11,.string ⟨#[97]⟩,.string ⟨#[102]⟩,.string ⟨#[]⟩,.int .i64 0,.int .i64 9,.slice none 0 0] 30)) (some ⟨W0.heap.size+1+1+1,0,none⟩) gpAsks:=by
  refine .inr ⟨_,0,rfl,fun i hi=>?_⟩
  have hi5:i<5:=hi
  rcases (show i=0\/i=1\/i=2\/i=3\/i=4 from by omega) with rfl | rfl | rfl | rfl | rfl
  . exact ⟨none,0,⟨(hq _).trans rfl,(hq _).trans rfl,(hq _).trans rfl,(hq _).trans rfl,(hq _).trans rfl,(hq _).trans rfl,(hq _).trans rfl,.inl rfl,⟨zMs _,fun _=>rfl⟩⟩⟩
  . exact ⟨some ⟨W0.heap.size+1,0,none⟩,3,⟨(hq _).trans rfl,(hq _).trans rfl,(hq _).trans rfl,(hq _).trans rfl,(hq _).trans rfl,(hq _).trans rfl,(hq _).trans rfl,zEe q1,⟨zMs _,fun h=>by cases h⟩⟩⟩
  . exact ⟨some ⟨W0.heap.size+1+1,0,none⟩,1,⟨(hq _).trans rfl,(hq _).trans rfl,(hq _).trans rfl,(hq _).trans rfl,(hq _).trans rfl,(hq _).trans rfl,(hq _).trans rfl,zEe q2,⟨zMs _,fun h=>by cases h⟩⟩⟩
  . exact ⟨none,0,⟨(hq _).trans rfl,(hq _).trans rfl,(hq _).trans rfl,(hq _).trans rfl,(hq _).trans rfl,(hq _).trans rfl,(hq _).trans rfl,.inl rfl,⟨zMs _,fun _=>rfl⟩⟩⟩
  . exact ⟨none,0,⟨(hq _).trans rfl,(hq _).trans rfl,(hq _).trans rfl,(hq _).trans rfl,(hq _).trans rfl,(hq _).trans rfl,(hq _).trans rfl,.inl rfl,⟨zMs _,fun _=>rfl⟩⟩⟩
 have HRUN:=lH (zIj ((((W0.alloc (.cells #[.int .i64 0,.int .i64 0,.int .i64 0,.int .i64 1,.int .i64 0] 3)).alloc (.cells #[.int .u8 104,.int .u8 101,.int .u8 121] 5 (3,4))).alloc (.cells #[.int .u8 120] 5 (1,2))).alloc (.cells #[.int .i64 1,.string ⟨#[97]⟩,.string ⟨#[]⟩,.string ⟨#[]⟩,.int .i64 0,.int .i64 0,.slice none 0 0,.int .i64 3,.string ⟨#[97]⟩,.string ⟨#[102]⟩,.string ⟨#[]⟩,.int .i64 0,.int .i64 0,.slice (some ⟨W0.heap.size+1,0,none⟩) 3 3,.int .i64 3,.string ⟨#[97]⟩,.string ⟨#[102]⟩,.string ⟨#[]⟩,.int .i64 9,.int .i64 0,.slice (some ⟨W0.heap.size+1+1,0,none⟩) 1 1,.int .i64 11,.string ⟨#[97]⟩,.string ⟨#[102]⟩,.string ⟨#[]⟩,.int .i64 0,.int .i64 9,.slice none 0 0,.int .i64 11,.string ⟨#[97]⟩,.string ⟨#[102]⟩,.string ⟨#[]⟩,.int .i64 0,.int .i64 9,.slice none 0 0] 30)) so ao (some ⟨W0.heap.size,0,none⟩) (some ⟨W0.heap.size+1+1+1,0,none⟩) sn sc n cap 5 5 5 5 gp0 gpWho gpAsks _ rfl (HIN.out.mono hb4) gp_wf rfl (zEe q0) rfl hlr gp_byt (by omega) (by omega))
 rw [gp_run] at HRUN
 have HB4:=lH (zAd HB.out hb4)
 clear hq hlr q0 q1 q2 q3 hz4 hb4
 go_wp2_with fail
 refine HRUN.out.mono ?_
 rintro e w2 ⟨so2,sn2,sc2,ao2,n2,cap2,oa,on,oc,rfl,hb2,hin2,vs,hown,hvl,heach⟩
 simp only at hin2 hvl heach ⊢
 have hvl5:vs.length=5:=hvl.trans zF7
 obtain ⟨g,rfl,-,hgl,-,hgc⟩:=hown.blk (by omega)
 have hon:on=5:=by
  obtain ⟨_,_,e1,-⟩:=hown.row
  simp only [Value.slice.injEq] at e1
  omega
 subst hon
 have hcell:∀ i (hi:i<vs.length) j,j<4->w2.cell? ⟨g,i*4+j,none⟩=(anvK.cells vs[i])[j]?:=fun i hi j hj=>by
  have h1:=anvK.all_at vs i hi j hj
  have h2:j<(anvK.cells vs[i]).length:=hj
  have h3:=hgc (i*4+j) ((anvK.cells vs[i])[j]) (h1.trans (zMt h2))
  rw [h3,zMt h2]
 have hv:∀ i (hi:i<vs.length) (ho:i<gpO.length) e b,some (e,b)=[((0:Int),([]:List Int)),(0,[]),(8,[]),(5,[]),(0,[104,101,121])][i]?->vs[i].e=e/\gpO[i].bytes=b:=fun i hi ho e b h=>by
  rw [<- gp_at i ho] at h
  simp only [zMz,zOc] at h
  exact ⟨(heach i hi ho).1.trans h.1.symm,h.2.symm⟩
 have k1:=(hcell 1 (by omega) 0 (by omega)).trans (show _=some (.int .i64 0) by rw [<- (hv 1 (by omega) (by rw [zF7];omega) 0 [] rfl).1];rfl)
 have k2:=(hcell 2 (by omega) 0 (by omega)).trans (show _=some (.int .i64 8) by rw [<- (hv 2 (by omega) (by rw [zF7];omega) 8 [] rfl).1];rfl)
 have k3:=(hcell 3 (by omega) 0 (by omega)).trans (show _=some (.int .i64 5) by rw [<- (hv 3 (by omega) (by rw [zF7];omega) 5 [] rfl).1];rfl)
 have h4:=heach 4 (by omega) (by rw [zF7];omega)
 have hb5:=(hv 4 (by omega) (by rw [zF7];omega) 0 [104,101,121] rfl).2
 obtain ⟨u,hu⟩:∃ u,vs[4]=u:=⟨_,rfl⟩
 have k4:=hcell 4 (by omega) 3 (by omega)
 rw [hu] at h4 k4
 obtain ⟨ue,un,una,unn,unc,uba,ubn,ubc⟩:=u
 obtain ⟨-,-,han⟩:=h4
 simp only at han
 have hrow:=han.bytes
 have hbn:=han.blen
 rw [hb5] at hrow hbn
 obtain rfl:ubn=3:=hbn.symm
 obtain ⟨bb,bo,rfl,-⟩:=hrow.at 0 (by decide)
 have k4':w2.cell? ⟨g,19,none⟩=some (.slice (some ⟨bb,bo,none⟩) 3 ubc):=k4
 have k1':w2.cell? ⟨g,4,none⟩=some (.int .i64 0):=k1
 have k2':w2.cell? ⟨g,8,none⟩=some (.int .i64 8):=k2
 have k3':w2.cell? ⟨g,12,none⟩=some (.int .i64 5):=k3
 have hb3:=bA0 w2 (.cells #[.slice so2 sn2 sc2,.slice ao2 n2 cap2] 27)
 have x0:(w2.alloc (.cells #[.slice so2 sn2 sc2,.slice ao2 n2 cap2] 27)).cell? ⟨w2.heap.size,0,none⟩=some (.slice so2 sn2 sc2):=by simp
 have x1:(w2.alloc (.cells #[.slice so2 sn2 sc2,.slice ao2 n2 cap2] 27)).cell? ⟨w2.heap.size,1,none⟩=some (.slice ao2 n2 cap2):=by simp
 have HIN2:=lH (hin2.mono hb3)
 have HROW:=lH (hrow.mono hb3)
 have HB2:=lH (zAd (zAd HB4.out hb2) hb3)
 have m1:=Zc hb3 hgl k1'
 have m2:=Zc hb3 hgl k2'
 have m3:=Zc hb3 hgl k3'
 have m4:=Zc hb3 hgl k4'
 clear hcell hv k1 k2 k3 k4 k1' k2' k3' k4' han hrow hbn hb5 hu heach hgc hown hvl hvl5 hb2 hin2 HRUN kc1 kc2 c0 c1 p1 lp1 hb3
 go_upto_region 5 with fail
 generalize w2.alloc (.cells #[.slice so2 sn2 sc2,.slice ao2 n2 cap2] 27)=W3 at *
 have hcv:=zG4 W3 bb bo 3 ubc [104,101,121] rfl HROW.out
 rw [show strOfNums [104,101,121]=⟨#[104,101,121]⟩ from by decide] at hcv
 go_wp2_with fail
 refine (zBQ _ so2 ao2 sn2 sc2 n2 cap2 gpQ HIN2.out gp_end.2).mono ?_
 rintro e w4 ⟨rfl,hb5⟩
 rw [gp_end.1]
 have HB5:=lH (zAd HB2.out hb5)
 clear hb5
 go_wp2_with fail
 go_ret
 exact ⟨rfl,HB5.out⟩
end Go.Proofs.YtfmgdjgedhnmeaaGreat
