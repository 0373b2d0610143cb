/- Whatever the pool, the tenant and the ask: rookerylaw.PoolStays returns true, and its arguments read as before. No condition. -/
import Derived.Test.YtfmgdjgedhnmeaaGreatRows
import Derived.Test.YtfmgdjgedhnmeaaGreatOpenX
import Derived.Test.YtfmgdjgedhnmeaaGreatStays
import Derived.SizedLaws
import Derived.WalkKit
import Derived.ProofKit
import Derived.OpenShut
import Derived.ShutString
import Derived.ChangeOld
import Derived.Below
namespace Go.Proofs.YtfmgdjgedhnmeaaGreat.poolStays
open Go.ChangeShapes Go.WideShapes Go.ChangeAt Go.RowKit
open Go.ChangeMaps (open_string shut_string)
set_option linter.unusedVariables false
theorem own:ownKnob Tryz.prog.godebug=none:=by kernel_rfl
theorem laidOut:laidOutB Tryz.prog=true:=by kernel_rfl
theorem walk (w:World) (so0:Option Addr) (sn0:Nat) (sc0:Nat) (ao0:Option Addr) (n0:Nat) (cap0:Nat) (p0x:PoolV) (x1:Int) (ba2:Option Addr) (bn2:Nat) (bc2:Nat) (a2x:AskV) (hp0:zAG w so0 sn0 sc0 ao0 n0 cap0 p0x) (hwp0:WfP p0x) (hx1:I64 x1) (ha2:AskIn w ba2 bn2 bc2 a2x) :
 Calls Tryz.prog 3 #[.agg #[.slice so0 sn0 sc0,.slice ao0 n0 cap0],.int .i64 x1,.agg #[.int .i64 a2x.kind,.string a2x.sname,.string a2x.file,.string a2x.dest,.int .i64 a2x.at_,.int .i64 a2x.n,.slice ba2 bn2 bc2]] w fun e w'=>e=.returned (.bool true)∧Below w.heap.size w w':=by
 exact zO2 w so0 ao0 ba2 sn0 sc0 n0 cap0 bn2 bc2 p0x a2x x1 hp0 hwp0 ha2
set_option maxRecDepth 100000 in
set_option maxHeartbeats 4000000 in
theorem lifted (os:Os) (started:os.Started) (H:Type) (enc:TypeId×Value→H) :
 ReturnsInHanded {} Tryz.checked os 3 .any (Rows.poolStaysSpec.pre6 enc Tryz.prog Tryz.f3 Rows.poolStaysRow.domain false) (Rows.poolStaysSpec.post enc Tryz.prog Tryz.f3 false true false false):=by
 refine returnsInHanded_of_change_sized (C:=Tryz.checked) own started (by kernel_rfl) Tryz.func3
  (ChangeSpec.witness6 (enc:=enc) (C:=Tryz.checked) false ⟨#[],#[.agg #[.slice none 0 0,.slice none 0 0],.int .i64 0,.agg #[.int .i64 0,.string ⟨#[]⟩,.string ⟨#[]⟩,.string ⟨#[]⟩,.int .i64 0,.int .i64 0,.slice none 0 0]],[]⟩ 8 (by kernel_rfl) (by kernel_rfl) (by kernel_rfl) (by kernel_rfl)) ?_
 intro W base args ds gs before hval0 hW hcnd hwt _
 have hval:∀ (j:Nat) t v,Tryz.f3.params[j]?=some t→args[j]?=some v→Value.okWide Tryz.prog W .any base t v:=hval0
 have hW':=hW
 obtain ⟨p,q,hA0,hV,rfl,hfz,hnd⟩:=hW
 have hA:DataW.TrodAll enc Tryz.prog W 0 (fun _=>true) true Tryz.f3.params.toList args.toList ds p:=hA0
 rw [Tryz.params3] at hA hval hwt
 obtain ⟨v0,vs0,d0,ds0,p0,q0,hargs,rfl,rfl,h0,tr0⟩:=trodAll_cons hA
 obtain ⟨v1,vs1,d1,ds1,p1,q1,rfl,rfl,rfl,h1,tr1⟩:=trodAll_cons tr0
 obtain ⟨v2,vs2,d2,ds2,p2,q2,rfl,rfl,rfl,h2,tr2⟩:=trodAll_cons tr1
 obtain ⟨rfl,rfl,rfl⟩:=trodAll_nil tr2
 obtain rfl:args=#[v0,v1,v2]:=by cases args;simp_all
 obtain ⟨rfl,rfl⟩:=trodVars_none hV
 have hwe:=fun n hn=>zNF.1 hwt n hn
 have k0:=h0
 have lt0:∀ x∈p0,x.block<W.heap.size:=by obtain ⟨m,hm⟩:=k0;exact DataW.trod_lt m _ _ _ hm
 have k2:=h2
 have lt2:∀ x∈p2,x.block<W.heap.size:=by obtain ⟨m,hm⟩:=k2;exact DataW.trod_lt m _ _ _ hm
 obtain ⟨so0,sn0,sc0,ao0,n0,cap0,p0x,rfl,hp0,hwp0⟩:=zKH (hval 0 27 v0 rfl rfl) h0 (fun n hn=>by simpa using hwe n (DataW.weights_mem_each (j:=0) (t:=27) (d:=d0) rfl rfl n hn))
 obtain ⟨ba2,bn2,bc2,a2x,rfl,ha2⟩:=zKP (hval 2 30 v2 rfl rfl) h2 (fun n hn=>by simpa using hwe n (DataW.weights_mem_each (j:=2) (t:=30) (d:=d2) rfl rfl n hn))
 obtain ⟨x1,rfl,rfl,rfl,w1⟩:=open_int Tryz.underlying3 (hval 1 3 v1 rfl rfl) h1
 clear hA0 hval0
 refine (walk W so0 sn0 sc0 ao0 n0 cap0 p0x x1 ba2 bn2 bc2 a2x hp0 hwp0 (zDC w1) ha2).mono fun e W' ⟨he,bel⟩=>?_
 subst he
 exact ⟨_,rfl,_,_,_,[],_,[],hW',trodAll_mk1 (shut_bool Tryz.underlying4 _),(trodAll_cons_mk (Below.trod laidOut (by kernel_rfl) (of_decide_eq_true (by kernel_rfl)) k0 bel lt0) (trodAll_cons_mk (shut_int Tryz.underlying3 w1) (trodAll_cons_mk (Below.trod laidOut (by kernel_rfl) (of_decide_eq_true (by kernel_rfl)) k2 bel lt2) trodAll_mk0))),rfl,bel.frame _,fun h=>by cases h⟩
theorem over:Rows.poolStaysRow.holds Tryz.pinned (OpenSpec.ofChange Rows.poolStaysSpec):=
 OpenClaim.holds_of_wide 3 Tryz.f3 rfl rfl rfl rfl rfl rfl rfl ⟨rfl,rfl,rfl,rfl,rfl⟩ rfl rfl rfl rfl rfl (by kernel_rfl) Tryz.func3 (by kernel_rfl)
  (of_decide_eq_true (by kernel_rfl)) (by unfold Func.isWrapper;first | (rw [if_pos (by decide +kernel)];kernel_rfl) | (rw [if_neg (by decide +kernel)];exact ⟨rfl,rfl⟩))
  (fun os started H enc _=>lifted os started H enc)
/-- ████ THE STATEMENT ████ -/
theorem proved:Rows.PoolStaysSaid:=over
end Go.Proofs.YtfmgdjgedhnmeaaGreat.poolStays
