/- Short words for what printed texts say often (`squeeze2.py` writes them). -/
import Derived.Test.YtfcedhejbnoinaaDoorVFnv
namespace Go.Proofs.YtfcedhejbnoinaaDoorW.PrintLast
open Go.RowKit Go.Proofs.YtfcedhejbnoinaaDoorW.PrintWords
theorem pq {P Q : Prop} (h : Aside0 P) (f : P → Q := by intro h_; repeat (first | (with_reducible first | exact h_ | refine blk_drewN ?_ _ | refine blk_drew ?_ | refine blk_alloc ?_ _) | refine blk_far ?_ (Aside0.out (by assumption)) _)) : Q := f h.out
theorem bq {w0 w1 w2 : World} {g : Nat} {o : Obj} (h : Aside0 (w0.heap[g]? = some o)) (hb : Below w1.heap.size w1 w2) (f : w0.heap[g]? = some o → w1.heap[g]? = some o := by intro h_; repeat (first | (with_reducible first | exact h_ | refine blk_drewN ?_ _ | refine blk_drew ?_ | refine blk_alloc ?_ _) | refine blk_far ?_ (Aside0.out (by assumption)) _)) : Aside0 (w2.heap[g]? = some o) := ⟨blk_below (f h.out) hb⟩
theorem fq {w0 w1 : World} {g : Nat} {o : Obj} (h : Aside0 (w0.heap[g]? = some o)) (k : Nat) (hk : w1.heap.size ≤ k) (f : w0.heap[g]? = some o → w1.heap[g]? = some o := by intro h_; repeat (first | (with_reducible first | exact h_ | refine blk_drewN ?_ _ | refine blk_drew ?_ | refine blk_alloc ?_ _) | refine blk_far ?_ (Aside0.out (by assumption)) _)) : k ≠ g := Kd.freshB (f h.out) k hk
section
variable {α : Type} {d : Kd α} {e : Nat} {w : World} {base : Nat} {ok ok' : Nat → Prop} {v : Value} {xs : List α} {g : Nat}
theorem nf2N (h : Kd.N d e w base ok v xs) (hok : ∀ k, ok k → k ≠ g) (a b : Value) : Kd.N d e ((w.setCell ⟨g, 0, none⟩ a).setCell ⟨g, 1, none⟩ b) base ok v xs := Kd.N_far (p := ⟨g, 1, none⟩) (Kd.N_far (p := ⟨g, 0, none⟩) h hok a) hok b
theorem nf2S (h : Kd.S d e w base ok v xs) (hok : ∀ k, ok k → k ≠ g) (a b : Value) : Kd.S d e ((w.setCell ⟨g, 0, none⟩ a).setCell ⟨g, 1, none⟩ b) base ok v xs := Kd.S_far (p := ⟨g, 1, none⟩) (Kd.S_far (p := ⟨g, 0, none⟩) h hok a) hok b
theorem nf2R (h : Kd.R d e w base ok v xs) (hok : ∀ k, ok k → k ≠ g) (a b : Value) : Kd.R d e ((w.setCell ⟨g, 0, none⟩ a).setCell ⟨g, 1, none⟩ b) base ok v xs := Kd.R_far (p := ⟨g, 1, none⟩) (Kd.R_far (p := ⟨g, 0, none⟩) h hok a) hok b
theorem nf2V (h : Kd.V d e w base ok v xs) (hok : ∀ k, ok k → k ≠ g) (a b : Value) : Kd.V d e ((w.setCell ⟨g, 0, none⟩ a).setCell ⟨g, 1, none⟩ b) base ok v xs := Kd.V_far (p := ⟨g, 1, none⟩) (Kd.V_far (p := ⟨g, 0, none⟩) h hok a) hok b
theorem nm (h : Kd.N d e w base ok v xs) (f : ∀ k, ok k → ok' k := by intro k_ h_; revert h_; simp only [and_imp]; intros; and_intros <;> assumption) : Kd.N d e w base ok' v xs := Kd.N_mono h f
end
theorem pnx {P Q : Prop} (h : P) (f : P → Q := by intro h_; (with_reducible repeat (first | apply Kd.N_alloc | apply Kd.N_drewN | apply Kd.N_drew)); exact h_) : Q := f h
end Go.Proofs.YtfcedhejbnoinaaDoorW.PrintLast
