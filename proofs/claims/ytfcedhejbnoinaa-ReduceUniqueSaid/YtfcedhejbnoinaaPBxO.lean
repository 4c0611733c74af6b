/- What the laws' arguments read as. -/
import Derived.Test.YtfcedhejbnoinaaPBx0
import Derived.Test.YtfcedhejbnoinaaVOpens
namespace Go.Proofs.Ytfcedhejbnoinaa.PB
open Go.RowKit Go.Proofs.YtfcedhejbnoinaaW.PrintWords Go.Proofs.YtfcedhejbnoinaaW.PrintLast Go.Proofs.Ytfcedhejbnoinaa
theorem cells3 : Try.prog.cellsOf 3 = 1 := by kernel_rfl
theorem cells22 : Try.prog.cellsOf 22 = 1 := by kernel_rfl
theorem cells24 : Try.prog.cellsOf 24 = 2 := by kernel_rfl
theorem cells38 : Try.prog.cellsOf 38 = 1 := by kernel_rfl
theorem cells40 : Try.prog.cellsOf 40 = 2 := by kernel_rfl
theorem cells48 : Try.prog.cellsOf 48 = 1 := by kernel_rfl
def Q40 (x : S40) : Prop := (Lit.int .i64 x.f0).wf = true ∧ (x.f1.length ≤ maxLen ∧ ∀ z0, z0 ∈ x.f1 → (Lit.int .u64 z0).wf = true)
theorem opens40 {W : World} : Opens.Opens Try.prog W k40 40 Q40 := Opens.opens_fields Try.underlying40 (fun enc n cs hl hf => by
 rw [cells40] at hl
 obtain ⟨y0, h0⟩ : ∃ y, DataW.trod enc Try.prog W 0 (fun _ => true) true n 3 ((cs.drop 0).take (Try.prog.cellsOf 3)) = some y := hf 0 _ rfl
 rw [cells3] at h0
 obtain ⟨x0, K0, Q0⟩ := (Opens.opens_int Try.underlying3) enc n _ _ h0
 obtain ⟨y1, h1⟩ : ∃ y, DataW.trod enc Try.prog W 0 (fun _ => true) true n 38 ((cs.drop 1).take (Try.prog.cellsOf 38)) = some y := hf 1 _ rfl
 rw [cells38] at h1
 obtain ⟨x1, K1, Q1⟩ := (Opens.opens_slice Try.underlying38 cells48 (Opens.opens_int Try.underlying48)) enc n _ _ h1
 rw [← Opens.split_last (o := 1) (k := 1) hl] at K1
 exact ⟨⟨x0, x1⟩, ⟨_, _, Opens.split_at cs 0 1, K0, K1⟩, Q0, Q1⟩)
def Q24 (x : S24) : Prop := (Lit.int .i64 x.f0).wf = true ∧ (x.f1.length ≤ maxLen ∧ ∀ z0, z0 ∈ x.f1 → Q40 z0)
theorem opens24 {W : World} : Opens.Opens Try.prog W k24 24 Q24 := Opens.opens_fields Try.underlying24 (fun enc n cs hl hf => by
 rw [cells24] at hl
 obtain ⟨y0, h0⟩ : ∃ y, DataW.trod enc Try.prog W 0 (fun _ => true) true n 3 ((cs.drop 0).take (Try.prog.cellsOf 3)) = some y := hf 0 _ rfl
 rw [cells3] at h0
 obtain ⟨x0, K0, Q0⟩ := (Opens.opens_int Try.underlying3) enc n _ _ h0
 obtain ⟨y1, h1⟩ : ∃ y, DataW.trod enc Try.prog W 0 (fun _ => true) true n 22 ((cs.drop 1).take (Try.prog.cellsOf 22)) = some y := hf 1 _ rfl
 rw [cells22] at h1
 obtain ⟨x1, K1, Q1⟩ := (Opens.opens_slice Try.underlying22 cells40 opens40) enc n _ _ h1
 rw [← Opens.split_last (o := 1) (k := 1) hl] at K1
 exact ⟨⟨x0, x1⟩, ⟨_, _, Opens.split_at cs 0 1, K0, K1⟩, Q0, Q1⟩)
end Go.Proofs.Ytfcedhejbnoinaa.PB
