/- set.at's bytes and lay. -/
import Derived.Test.YtfmgdjgedhnmeaaGreatAtIn
import Derived.Test.YtfmgdjgedhnmeaaGreatFileWrite
namespace Go.Proofs.YtfmgdjgedhnmeaaGreat
open Go.RowKit
set_option linter.unusedVariables false
set_option linter.unusedSimpArgs false
theorem zKD {s:List Blk} {key root:Int} {z:Nat} (hok:fileE s key root z=0):readR s key root z 0 256=(fileB s key root z,0):=by
 have hl:=zB4 hok
 obtain ⟨-,-,hz,-,-⟩:=zAA hok
 unfold readR
 rw [if_neg (fun h=>h hok),if_neg (by omega)]
 rw [zMM (by rw [hl];show z<=256;omega)]
 rfl
set_option maxRecDepth 100000 in
set_option maxHeartbeats 8000000 in
theorem zHR (w:World) (B P base bx n cap z fn fc sn sc:Nat) (key root:Int) (ao fo so:Option Addr) (s:List Blk) (x:SetV) (vs:List Snv) (hA:AtIn w B P base bx key ao n cap s fo fn fc so sn sc x vs) (hwf:WfS s) (hok:fileE s key root z=0) :
 Calls Tryz.prog 81 #[.pointer (some ⟨B,0,none⟩),.agg #[.int .i64 root,.int .i64 z]] w fun e w'=>∃ ao' c',e=.returned (.slice ao' z c')/\Row .u8 w' ao' (fileB s key root z)/\Capd ao' z c'/\Below w.heap.size w w':=by
 have hn4:=hA.n4
 have hz256:=(zAA hok).2.2.1
 have hb0:=bA0 w (.cells #[.int .i64 root,.int .i64 z] 74)
 have q0:=heap_alloc_new w (.cells #[.int .i64 root,.int .i64 z] 74)
 have hA1:=hA.mono hb0
 have HA:=lH hA1
 obtain ⟨ao',cap',hv,hc,hr⟩:=hA1.own.sto
 rw [hA1.slen] at hv hc
 simp only [Value.slice.injEq,true_and] at hv
 obtain ⟨rfl,rfl⟩:=hv
 have HC:=lH hc
 have HFL:=lH (zB4 hok)
 have HRA:=lH (zKD hok)
 go_enter Tryz.func81,Tryz.ntmps81
 go_wp2_with fail
 generalize w.alloc (.cells #[.int .i64 root,.int .i64 z] 74)=W0 at *
 have a0:=zAa hA1.abox 0
 have a1:=zAa hA1.abox 1
 have b0:=cell_of_one hA1.sbox
 have c0:=zAa q0 0
 have c1:=zAa q0 1
 simp at a0 a1 c0 c1
 have l1:=zAb hA1.abox
 have l2:=zAb hA1.sbox
 have l3:=zAb q0
 clear hA hc hA1
 have hrd:StoRow W0.drew ao s:=hr.mono (zMy _ _).drew
 have HRD:=lH (zI9 W0.drew ao n cap s key root z 0 256 HA.out.slen (by omega) hrd hwf ⟨by omega,by omega⟩ HC.out)
 have hbd:Below w.heap.size w W0.drew:=hb0.drew
 go_region_with (go_at_call 60;refine HRD.out.mono ?_;rintro e w1 ⟨ra,rn,rc,rfl,hrl,hrr,hrc,hb1⟩)
 all_goals
  rw [HRA.out] at hrl hrr
  simp only at hrl hrr
  have hbw:=zAd hbd hb1
  obtain rfl:z=rn:=HFL.out.symm.trans hrl
  clear HRD hrl hb1 a0 a1 b0 c0 c1 l1 l2 l3 hr hrd q0 HA
  go_wp2
  go_ret
  exact ⟨_,_,rfl,hrr,hrc,hbw⟩
end Go.Proofs.YtfmgdjgedhnmeaaGreat
