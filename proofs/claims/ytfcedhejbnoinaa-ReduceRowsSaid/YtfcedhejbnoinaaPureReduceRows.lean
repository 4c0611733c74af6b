/- The printed law ReduceRows answers true, whatever its arguments are: plain Lean, no program in sight. -/
import Derived.Test.YtfcedhejbnoinaaPAx11
import Derived.Test.YtfcedhejbnoinaaVOpens
import Derived.Test.YtfcedhejbnoinaaPAxO
import Derived.Test.YtfcedhejbnoinaaPureQPARed
namespace Go.Proofs.Ytfcedhejbnoinaa.Pure
open Go.RowKit Go.Proofs.Ytfcedhejbnoinaa.PA Go.Proofs.YtfcedhejbnoinaaW.PrintWords Go.Proofs.YtfcedhejbnoinaaW.PrintLast Go.Proofs.Ytfcedhejbnoinaa Go.Proofs.Ytfcedhejbnoinaa.PureBit Go.Proofs.Ytfcedhejbnoinaa.Row Go.Proofs.Ytfcedhejbnoinaa.Lin

theorem ReduceRows (x0 : S24) (_q0 : Q24 x0) : ∃ k, downpourlaw04_ReduceRows.f k x0.f0 x0.f1 = some true := by
  obtain ⟨n, a0⟩ := x0
  obtain ⟨_, _, ha0⟩ := _q0
  obtain ⟨a, hfa, ha⟩ := few_mat (n := n) (l := a0) fun x hx => ok_of (ha0 x hx).2.2
  show ∃ k, downpourlaw04_ReduceRows.f k n a0 = some true
  unfold downpourlaw04_ReduceRows.f
  obtain ⟨u, hu, hu'⟩ := refRight_mat (n := n) ha
  by_cases h : MRt n a
  · obtain rfl : u = true := hu'.2 h
    obtain ⟨e, hlt⟩ := mrt_mrs (fun x hx => (ha.2 x hx).1) h
    obtain ⟨h0, h1, hl, _⟩ := h
    generalize vals a = vs at e hlt
    subst e
    have hl' : vs.length ≤ 64 := by rw [mrs_len] at hl; exact hl
    obtain ⟨red, hr, hle, he⟩ := echelon_ok h0 h1 hl' hlt
    obtain ⟨red', hr', ha', he'⟩ := refEchelon_spec h0 h1 hl' hlt n
    obtain rfl := hr.unique hr' (fun w => Iff.rfl)
    have hsh : Short (mrs n (rows red)) := mrs_short h1 (by rw [rows_len]; exact ha'.len)
    have hlen := ha'.len
    refine Ev.rounds (Ev.bind hfa (Ev.bind he (Ev.bind (rank_of he) (Ev.bind hu (Ev.congr (fun k => if_pos rfl) (Ev.bind he' (Ev.bind alive04_spec (Ev.congr (fun k => (if_pos rfl).trans ((if_pos rfl).trans (if_pos rfl))) (Ev.bind (same_mat_self n hsh) (Ev.congr (fun k => if_pos rfl) (Ev.bind (refRPlaces_spec h0 h1 ha') (Ev.bind (refNumbers_spec (by rw [pcastL]; omega)) ?_))))))))))))
    refine Ev.congr (fun k => if_pos (decide_eq_true rfl)) ?_
    have : (((pcast red).length : Int) == ((mrs n (rows red)).length : Int)) = true := by rw [pcastL, mrs_len, rows_len]; exact beq_self_eq_true _
    show Ev (fun _ => some (((pcast red).length : Int) == ((mrs n (rows red)).length : Int))) true
    rw [this]
    exact Ev.now _
  · have hbf : u = false := by
      cases u with
      | false => rfl
      | true => exact absurd (hu'.1 rfl) h
    subst hbf
    have he := echelon_arg ha h
    exact Ev.rounds (Ev.bind hfa (Ev.bind he (Ev.bind (rank_of he) (Ev.bind hu (Ev.congr (fun k => if_neg (by decide)) (Ev.bind alive04_spec (Ev.congr (fun k => (if_pos rfl).trans ((if_pos rfl).trans (if_pos rfl))) (Ev.bind (same_mat_self 0 short_nil) (Ev.congr (fun k => (if_pos rfl).trans (if_pos rfl)) (Ev.now true))))))))))

end Go.Proofs.Ytfcedhejbnoinaa.Pure
