/- What the laws' arguments read as. -/
import Derived.Test.YtfdcjkhckjnaeaaPDx0
import Derived.Test.YtfdcjkhckjnaeaaVOpens
namespace Go.Proofs.Ytfdcjkhckjnaeaa.PD
open Go.RowKit Go.Proofs.YtfdcjkhckjnaeaaW.PrintWords Go.Proofs.YtfdcjkhckjnaeaaW.PrintLast Go.Proofs.Ytfdcjkhckjnaeaa
theorem cells3 : Try.prog.cellsOf 3 = 1 := by kernel_rfl
theorem cells23 : Try.prog.cellsOf 23 = 1 := by kernel_rfl
theorem cells25 : Try.prog.cellsOf 25 = 2 := by kernel_rfl
theorem cells40 : Try.prog.cellsOf 40 = 1 := by kernel_rfl
theorem cells42 : Try.prog.cellsOf 42 = 2 := by kernel_rfl
theorem cells59 : Try.prog.cellsOf 59 = 1 := by kernel_rfl
def Q25 (x : S25) : Prop := (Lit.int .i64 x.f0).wf = true ∧ (x.f1.length ≤ maxLen ∧ ∀ z0, z0 ∈ x.f1 → (Lit.int .u64 z0).wf = true)
theorem opens25 {W : World} : Opens.Opens Try.prog W k25 25 Q25 := Opens.opens_fields Try.underlying25 (fun enc n cs hl hf => by
 rw [cells25] at hl
 obtain ⟨y0, h0⟩ : ∃ y, DataW.trod enc Try.prog W 0 (fun _ => true) true n 3 ((cs.drop 0).take (Try.prog.cellsOf 3)) = some y := hf 0 _ rfl
 rw [cells3] at h0
 obtain ⟨x0, K0, Q0⟩ := (Opens.opens_int Try.underlying3) enc n _ _ h0
 obtain ⟨y1, h1⟩ : ∃ y, DataW.trod enc Try.prog W 0 (fun _ => true) true n 23 ((cs.drop 1).take (Try.prog.cellsOf 23)) = some y := hf 1 _ rfl
 rw [cells23] at h1
 obtain ⟨x1, K1, Q1⟩ := (Opens.opens_slice Try.underlying23 cells59 (Opens.opens_int Try.underlying59)) enc n _ _ h1
 rw [← Opens.split_last (o := 1) (k := 1) hl] at K1
 exact ⟨⟨x0, x1⟩, ⟨_, _, Opens.split_at cs 0 1, K0, K1⟩, Q0, Q1⟩)
def Q42 (x : S42) : Prop := (Lit.int .i64 x.f0).wf = true ∧ (x.f1.length ≤ maxLen ∧ ∀ z0, z0 ∈ x.f1 → Q25 z0)
theorem opens42 {W : World} : Opens.Opens Try.prog W k42 42 Q42 := Opens.opens_fields Try.underlying42 (fun enc n cs hl hf => by
 rw [cells42] at hl
 obtain ⟨y0, h0⟩ : ∃ y, DataW.trod enc Try.prog W 0 (fun _ => true) true n 3 ((cs.drop 0).take (Try.prog.cellsOf 3)) = some y := hf 0 _ rfl
 rw [cells3] at h0
 obtain ⟨x0, K0, Q0⟩ := (Opens.opens_int Try.underlying3) enc n _ _ h0
 obtain ⟨y1, h1⟩ : ∃ y, DataW.trod enc Try.prog W 0 (fun _ => true) true n 40 ((cs.drop 1).take (Try.prog.cellsOf 40)) = some y := hf 1 _ rfl
 rw [cells40] at h1
 obtain ⟨x1, K1, Q1⟩ := (Opens.opens_slice Try.underlying40 cells25 opens25) enc n _ _ h1
 rw [← Opens.split_last (o := 1) (k := 1) hl] at K1
 exact ⟨⟨x0, x1⟩, ⟨_, _, Opens.split_at cs 0 1, K0, K1⟩, Q0, Q1⟩)
end Go.Proofs.Ytfdcjkhckjnaeaa.PD
