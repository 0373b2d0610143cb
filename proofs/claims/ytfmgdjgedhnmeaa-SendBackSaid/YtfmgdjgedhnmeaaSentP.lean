/- What the closed fact 'sent' reckons. No program in sight. -/
import Derived.Test.YtfmgdjgedhnmeaaSendP
import Derived.KernelRfl
namespace Go.Proofs.Ytfmgdjgedhnmeaa
open Go.RowKit
set_option linter.unusedVariables false
set_option linter.unusedSimpArgs false

def zd0 : List Blk := List.replicate 40 noBlk
def zd1 : List Blk := [⟨1, 0, [], [186, 145, 63, 10]⟩, ⟨1, 1, [1, 0, 0, 0], []⟩, ⟨1, 2, [2, 0, 0, 0], []⟩, ⟨1, 3, [3, 0, 0, 0], []⟩] ++ List.replicate 36 noBlk
def zd2 : List Blk := [⟨1, 0, [], [186, 145, 63, 10]⟩, ⟨1, 1, [1, 0, 0, 0], []⟩, ⟨1, 2, [2, 0, 0, 0], []⟩, ⟨2, 3, [3, 0, 0, 0], []⟩] ++ List.replicate 36 noBlk
def zd3 : List Blk := [⟨1, 0, [], [186, 145, 63, 10]⟩, ⟨1, 1, [1, 0, 0, 0], []⟩, ⟨1, 2, [2, 0, 0, 0], []⟩, ⟨3, 3, [3, 0, 0, 0], []⟩] ++ List.replicate 36 noBlk
def zd4 : List Blk := [⟨2, 0, [], [186, 145, 63, 10]⟩, ⟨1, 1, [1, 0, 0, 0], []⟩, ⟨1, 2, [2, 0, 0, 0], []⟩, ⟨2, 3, [3, 0, 0, 0], []⟩, ⟨1, 0, [], [189, 9, 180, 208]⟩, ⟨1, 1, [1, 5, 0, 0], []⟩, ⟨1, 2, [6, 0, 0, 0], []⟩, ⟨1, 3, [7, 0, 0, 0], []⟩] ++ List.replicate 32 noBlk
def zx0 : SetV := ⟨⟨#[97]⟩, [], []⟩
def zx1 : SetV := ⟨⟨#[97]⟩, [⟨⟨#[102]⟩, 4, 4⟩], []⟩
def zx2 : SetV := ⟨⟨#[97]⟩, [⟨⟨#[102]⟩, 4, 4⟩], [⟨⟨#[115]⟩, [⟨⟨#[102]⟩, 4, 4⟩]⟩]⟩
def zx3 : SetV := ⟨⟨#[98]⟩, [⟨⟨#[102]⟩, 4, 4⟩], []⟩
def zx4 : SetV := ⟨⟨#[98]⟩, [⟨⟨#[102]⟩, 8, 5⟩], []⟩
def za1 : AskV := ⟨3, ⟨#[]⟩, ⟨#[102]⟩, ⟨#[]⟩, 0, 0, [97, 98, 99, 100]⟩
def za2 : AskV := ⟨7, ⟨#[]⟩, ⟨#[]⟩, ⟨#[115]⟩, 0, 0, []⟩
def za3 : AskV := ⟨3, ⟨#[]⟩, ⟨#[102]⟩, ⟨#[]⟩, 4, 0, [101]⟩
theorem zd_1 : doR writeW zd0 1 zx0 za1 = (zd1, zx1, 0) := by kernel_rfl
theorem zd_2 : doR writeW zd1 1 zx1 za2 = (zd2, zx2, 0) := by kernel_rfl
theorem zd_3 : cloneR zd2 1 zx2 ⟨#[115]⟩ ⟨#[98]⟩ = (zd3, zx3, 0) := by kernel_rfl
theorem zd_4 : doR writeW zd3 1 zx3 za3 = (zd4, zx4, 0) := by kernel_rfl
theorem zd_5 : diffR zd4 1 zx2 zx4 = ([⟨2, ⟨#[102]⟩, 5, []⟩, ⟨3, ⟨#[102]⟩, 4, [101]⟩], 0) := by kernel_rfl
theorem zd0_wf : WfS zd0 := fun x hx => by
  rw [(List.mem_replicate.1 hx).2]
  constructor <;> (try decide) <;> simp [noBlk, I64, Byt]
theorem zd1_wf : WfS zd1 := by
  intro x hx
  simp [zd1] at hx
  rcases hx with rfl | rfl | rfl | rfl | rfl <;> constructor <;> (try decide) <;> simp [noBlk, I64, Byt] <;> omega
theorem zd2_wf : WfS zd2 := by
  intro x hx
  simp [zd2] at hx
  rcases hx with rfl | rfl | rfl | rfl | rfl <;> constructor <;> (try decide) <;> simp [noBlk, I64, Byt] <;> omega
theorem zd3_wf : WfS zd3 := by
  intro x hx
  simp [zd3] at hx
  rcases hx with rfl | rfl | rfl | rfl | rfl <;> constructor <;> (try decide) <;> simp [noBlk, I64, Byt] <;> omega
theorem zd4_wf : WfS zd4 := by
  intro x hx
  simp [zd4] at hx
  rcases hx with rfl | rfl | rfl | rfl | rfl | rfl | rfl | rfl | rfl <;> constructor <;> (try decide) <;> simp [noBlk, I64, Byt] <;> omega
theorem zx0_wf : WfX zx0 := ⟨by simp [zx0, WfL], by simp [zx0]⟩
theorem zx1_wf : WfX zx1 := ⟨by simp [zx1, WfL, I64], by simp [zx1]⟩
theorem zx2_wf : WfX zx2 := ⟨by simp [zx2, WfL, I64], by simp [zx2, WfL, I64]⟩
theorem zx3_wf : WfX zx3 := ⟨by simp [zx3, WfL, I64], by simp [zx3]⟩
theorem zx4_wf : WfX zx4 := ⟨by simp [zx4, WfL, I64], by simp [zx4]⟩
end Go.Proofs.Ytfmgdjgedhnmeaa
