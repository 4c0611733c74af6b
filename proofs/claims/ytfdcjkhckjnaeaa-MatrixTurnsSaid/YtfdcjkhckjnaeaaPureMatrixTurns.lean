/- The printed law MatrixTurns answers true, whatever its arguments are: plain Lean, no program in sight. -/
import Derived.Test.YtfdcjkhckjnaeaaPDx8
import Derived.Test.YtfdcjkhckjnaeaaVOpens
import Derived.Test.YtfdcjkhckjnaeaaPDxO
import Derived.Test.YtfdcjkhckjnaeaaPureMat
namespace Go.Proofs.Ytfdcjkhckjnaeaa.Pure
open Go.RowKit Go.Proofs.Ytfdcjkhckjnaeaa.PD Go.Proofs.YtfdcjkhckjnaeaaW.PrintWords Go.Proofs.YtfdcjkhckjnaeaaW.PrintLast Go.Proofs.Ytfdcjkhckjnaeaa Go.Proofs.Ytfdcjkhckjnaeaa.PureBit Go.Proofs.Ytfdcjkhckjnaeaa.Row

theorem MatrixTurns_end (n o : Int) {l : List S25} (hf : Few l) {r s : Int × List S25 × Int}
    (hr : Ev (fun k => matrix_Turn.f k n l) r) (hs : Ev (fun k => matrix_One.f k o) s) : Ev (fun k => downpourlaw03_MatrixTurns.j0 k o r.2.2 s.2.2 false n l r.1 r.2.1 s.1 s.2.1) true := by
  have hempty := same_mat_self 0 short_nil
  have j2 : Ev (fun k => downpourlaw03_MatrixTurns.j2 k r.2.2 false n l r.1 r.2.1) true := by
    refine up ?_
    simp only [downpourlaw03_MatrixTurns.j2]
    obtain ⟨b, hb, hb'⟩ := refRight_mat (n := n) hf
    refine Ev.congr (fun k => if_neg (by decide)) (Ev.bind hb ?_)
    by_cases h : MRt n l
    · obtain rfl : b = true := hb'.2 h
      obtain rfl := ev_unique hr (turn_ok hf h)
      exact Ev.congr (fun k => (if_pos (by first | rfl | trivial)).trans (if_pos (by first | rfl | trivial))) (Ev.bind (refTurn_spec hf h) (Ev.bind (same_mat_self _ (short_turn h.2.1 h.2.2.1)) (Ev.now _)))
    · have hbf : b = false := by
        cases b with
        | false => rfl
        | true => exact absurd (hb'.1 rfl) h
      subst hbf
      obtain rfl := ev_unique hr (turn_arg hf h)
      exact Ev.congr (fun k => (if_neg (by decide)).trans (if_pos (by first | rfl | trivial))) (Ev.bind hempty (Ev.now _))
  have size : ¬ (0 ≤ o ∧ o ≤ 64) → Ev (fun k => downpourlaw03_MatrixTurns.j1 k o r.2.2 s.2.2 false n l r.1 r.2.1 s.1 s.2.1) true := fun h => by
    obtain rfl := ev_unique hs (one_size h)
    refine up ?_
    simp only [downpourlaw03_MatrixTurns.j1]
    exact Ev.congr (fun k => (if_neg (by decide)).trans (if_pos (by first | rfl | trivial))) (Ev.bind hempty j2)
  refine up ?_
  simp only [downpourlaw03_MatrixTurns.j0]
  refine Ev.congr (fun k => if_neg (by decide)) ?_
  by_cases h0 : o ≥ 0
  · refine Ev.congr (fun k => if_pos h0) ?_
    by_cases h1 : o ≤ 64
    · rw [decide_eq_true h1]
      obtain rfl := ev_unique hs (one_ok h0 h1)
      refine up ?_
      simp only [downpourlaw03_MatrixTurns.j1]
      exact Ev.congr (fun k => (if_pos (by first | rfl | trivial)).trans (if_pos (by first | rfl | trivial))) (Ev.bind (refOne_spec h0 h1) (Ev.bind (same_mat_self _ (short_one h1)) (Ev.congr (fun k => if_pos (by first | rfl | trivial)) j2)))
    · rw [decide_eq_false h1]; exact size fun g => h1 g.2
  · exact Ev.congr (fun k => if_neg h0) (size fun g => h0 g.1)

theorem MatrixTurns (x0 : S42) (_q0 : Q42 x0)  (x1 : S42) (_q1 : Q42 x1)  (x2 : Int) (_q2 : (Lit.int .i64 x2).wf = true) : ∃ k, downpourlaw03_MatrixTurns.f k x0.f0 x0.f1 x1.f0 x1.f1 x2 = some true := by
  obtain ⟨n, a0⟩ := x0
  obtain ⟨m, b0⟩ := x1
  obtain ⟨_, _, ha0⟩ := _q0
  obtain ⟨_, _, hb0⟩ := _q1
  obtain ⟨a, hfa, ha⟩ := few_mat (n := n) (l := a0) fun x hx => ok_of (ha0 x hx).2.2
  obtain ⟨b, hfb, _⟩ := few_mat (n := m) (l := b0) fun x hx => ok_of (hb0 x hx).2.2
  show ∃ k, downpourlaw03_MatrixTurns.f k n a0 m b0 x2 = some true
  unfold downpourlaw03_MatrixTurns.f
  obtain ⟨r, hr⟩ : ∃ r, Ev (fun k => matrix_Turn.f k n a) r := by
    by_cases h : MRt n a
    · exact ⟨_, turn_ok ha h⟩
    · exact ⟨_, turn_arg ha h⟩
  obtain ⟨s, hs⟩ : ∃ s, Ev (fun k => matrix_One.f k x2) s := by
    by_cases h : 0 ≤ x2 ∧ x2 ≤ 64
    · exact ⟨_, one_ok h.1 h.2⟩
    · exact ⟨_, one_size h⟩
  obtain ⟨t, ht, ht'⟩ := right_mat (n := n) ha
  obtain ⟨u, hu, hu'⟩ := refRight_mat (n := n) ha
  obtain rfl : t = u := by rw [Bool.eq_iff_iff, ht', hu']
  obtain ⟨v, hv, hv'⟩ := like_mat n m (a := a) (b := b) ha.short
  obtain ⟨w, hw, hw'⟩ := same_mat n m (a := a) (b := b) ha.short
  obtain rfl : v = w := by rw [Bool.eq_iff_iff, hv', hw']
  obtain ⟨z, hz, hz'⟩ := like_mat n n (a := a) (b := a) ha.short
  obtain rfl : z = true := hz'.2 ⟨rfl, rfl⟩
  refine Ev.rounds (Ev.bind hfa (Ev.bind hfb (Ev.bind hr (Ev.bind hs (Ev.bind ht (Ev.bind hu (Ev.congr (fun k => if_neg (by simp)) (Ev.bind hv (Ev.bind hw (Ev.congr (fun k => if_neg (by simp)) (Ev.bind hz (Ev.congr (fun k => if_pos (by first | rfl | trivial)) (Ev.bind alive03_spec ?_)))))))))))))
  exact MatrixTurns_end n x2 ha hr hs

end Go.Proofs.Ytfdcjkhckjnaeaa.Pure
