/- The printed law ReduceSpans answers true, whatever its arguments are: plain Lean, no program in sight. -/
import Derived.Test.YtfcedhejbnoinaaPCx9
import Derived.Test.YtfcedhejbnoinaaVOpens
import Derived.Test.YtfcedhejbnoinaaPCxO
import Derived.Test.YtfcedhejbnoinaaPureQPCRed
namespace Go.Proofs.Ytfcedhejbnoinaa.Pure
open Go.RowKit Go.Proofs.Ytfcedhejbnoinaa.PC Go.Proofs.YtfcedhejbnoinaaW.PrintWords Go.Proofs.YtfcedhejbnoinaaW.PrintLast Go.Proofs.Ytfcedhejbnoinaa Go.Proofs.Ytfcedhejbnoinaa.PureBit Go.Proofs.Ytfcedhejbnoinaa.Row Go.Proofs.Ytfcedhejbnoinaa.Lin

theorem spans_arg {n m : Int} {l : List S40} {ws : List Int} (hf : Few l) (hok : Ok ws) (hlw : ws.length ≤ 10) (h : ¬ (MRt n l ∧ Rt m ws)) : Ev (fun k => reduce_Spans.f k n l m ws) (false, 1) := by
  obtain ⟨q, hq, hq'⟩ := right_spec (n := m) hok (by omega)
  unfold reduce_Spans.f
  by_cases hm : MRt n l
  · obtain ⟨e, hlt⟩ := mrt_mrs (fun x hx => (hf.2 x hx).1) hm
    obtain ⟨h0, h1, hl, _⟩ := hm
    generalize vals l = vs at e hlt
    subst e
    have hl' : vs.length ≤ 64 := by rw [mrs_len] at hl; exact hl
    obtain ⟨red, hr, hle, he⟩ := echelon_ok h0 h1 hl' hlt
    have hqf : q = false := by
      cases q with
      | false => rfl
      | true => exact absurd ⟨mrs_mrt h0 h1 hl' hlt, hq'.1 rfl⟩ h
    subst hqf
    refine Ev.bind he (Ev.congr (fun k => (if_pos (by first | rfl | trivial)).trans (bind_of hq)) (up ?_))
    simp only [reduce_Spans.j0]
    exact Ev.congr (fun k => if_pos (by first | rfl | trivial)) (Ev.now _)
  · refine Ev.bind (echelon_arg hf hm) (Ev.congr (fun k => if_neg (by decide)) (up ?_))
    simp only [reduce_Spans.j0]
    exact Ev.congr (fun k => if_pos (by first | rfl | trivial)) (Ev.now _)
theorem spans_size {n m : Int} {l : List S40} {ws : List Int} (hf : Few l) (hok : Ok ws) (hm : MRt n l) (hr : Rt m ws) (hne : m ≠ n) : Ev (fun k => reduce_Spans.f k n l m ws) (false, 2) := by
  have := rt_len hr
  obtain ⟨q, hq, hq'⟩ := right_spec (n := m) hok (by omega)
  obtain rfl : q = true := hq'.2 hr
  unfold reduce_Spans.f
  obtain ⟨e, hlt⟩ := mrt_mrs (fun x hx => (hf.2 x hx).1) hm
  obtain ⟨h0, h1, hl, _⟩ := hm
  generalize vals l = vs at e hlt
  subst e
  have hl' : vs.length ≤ 64 := by rw [mrs_len] at hl; exact hl
  obtain ⟨red, hrr, hle, he⟩ := echelon_ok h0 h1 hl' hlt
  refine Ev.bind he (Ev.congr (fun k => (if_pos (by first | rfl | trivial)).trans (bind_of hq)) (up ?_))
  simp only [reduce_Spans.j0]
  exact Ev.congr (fun k => (if_neg (by decide)).trans (if_neg hne)) (Ev.now _)
theorem rt_mr {n : Int} {ws : List Int} (hok : Ok ws) (h : Rt n ws) : ws = (mr n (val ws)).f1 := by
  have hl := h.2.2.1
  have h0 := h.1
  show ws = words ((n + 63) / 64).toNat (val ws)
  have : ((n + 63) / 64).toNat = ws.length := by omega
  rw [this, words_val hok]

theorem ReduceSpans (x0 : S24) (_q0 : Q24 x0)  (x1 : S40) (_q1 : Q40 x1) : ∃ k, downpourlaw04_ReduceSpans.f k x0.f0 x0.f1 x1.f0 x1.f1 = some true := by
  obtain ⟨n, a0⟩ := x0
  obtain ⟨m, b0⟩ := x1
  obtain ⟨_, _, ha0⟩ := _q0
  have hb0 : Ok b0 := ok_of _q1.2.2
  obtain ⟨a, hfa, ha⟩ := few_mat (n := n) (l := a0) fun x hx => ok_of (ha0 x hx).2.2
  show ∃ k, downpourlaw04_ReduceSpans.f k n a0 m b0 = some true
  obtain ⟨b, hbe⟩ : ∃ b, b0.take ((mn (b0.length : Int) 10) : Int).toNat = b := ⟨_, rfl⟩
  have hmn : 0 ≤ mn (b0.length : Int) 10 ∧ mn (b0.length : Int) 10 ≤ (b0.length : Int) ∧ mn (b0.length : Int) 10 ≤ 10 := by unfold mn; split <;> omega
  have hbl : b.length ≤ 10 := by rw [← hbe, List.length_take]; omega
  have hb : Ok b := by rw [← hbe]; exact ok_take hb0 _
  unfold downpourlaw04_ReduceSpans.f
  rw [hbe]
  obtain ⟨u, hu, hu'⟩ := refRight_mat (n := n) ha
  obtain ⟨w, hw, hw'⟩ := refRight_any (n := m) hb (by omega)
  have bad : ¬ (MRt n a ∧ Rt m b) → Ev (fun k => downpourlaw04_ReduceSpans.j0 k false 1 true n a m b) true := fun _ => by
    refine up ?_
    simp only [downpourlaw04_ReduceSpans.j0]
    exact Ev.congr (fun k => if_pos (by first | rfl | trivial)) (Ev.bind alive04_spec (Ev.congr (fun k => (if_pos (by first | rfl | trivial)).trans (if_pos (by first | rfl | trivial))) (Ev.now true)))
  refine Ev.rounds (Ev.bind hfa (Ev.congr (fun k => (if_pos hmn.1).trans (if_pos hmn.2.1)) ?_))
  by_cases hm : MRt n a
  · obtain rfl : u = true := hu'.2 hm
    by_cases hr : Rt m b
    · obtain rfl : w = true := hw'.2 hr
      by_cases hnm : m = n
      · subst hnm
        obtain ⟨e, hlt⟩ := mrt_mrs (fun x hx => (ha.2 x hx).1) hm
        have hmm := hm
        obtain ⟨h0, h1, hl, _⟩ := hmm
        generalize vals a = vs at e hlt
        subst e
        have hl' : vs.length ≤ 64 := by rw [mrs_len] at hl; exact hl
        have hv := hr.2.2.2
        have eb := rt_mr hb hr
        generalize val b = v at hv eb
        subst eb
        obtain ⟨t, ht, ht'⟩ := spans_ok h0 h1 hl' hlt hv
        obtain ⟨s, hs, hs'⟩ := refSpans_spec h0 h1 hl' hlt m hv
        obtain rfl : t = s := by rw [Bool.eq_iff_iff, ht', hs']
        refine Ev.bind ht (Ev.bind hu (Ev.congr (fun k => if_pos (by first | rfl | trivial)) (Ev.bind hw (up ?_))))
        simp only [downpourlaw04_ReduceSpans.j0]
        refine Ev.congr (fun k => (if_neg (by decide)).trans (if_pos (by first | rfl | trivial))) (Ev.bind alive04_spec (Ev.congr (fun k => (if_pos (by first | rfl | trivial)).trans (if_pos (by first | rfl | trivial))) (Ev.bind hs ?_)))
        rw [beq_self_eq_true]
        exact Ev.now true
      · refine Ev.bind (spans_size ha hb hm hr hnm) (Ev.bind hu (Ev.congr (fun k => if_pos (by first | rfl | trivial)) (Ev.bind hw (up ?_))))
        simp only [downpourlaw04_ReduceSpans.j0]
        exact Ev.congr (fun k => (if_neg (by decide)).trans (if_neg hnm)) (Ev.bind alive04_spec (Ev.congr (fun k => (if_pos (by first | rfl | trivial)).trans (if_pos (by first | rfl | trivial))) (Ev.now true)))
    · have hwf : w = false := by
        cases w with
        | false => rfl
        | true => exact absurd (hw'.1 rfl) hr
      subst hwf
      refine Ev.bind (spans_arg ha hb hbl fun g => hr g.2) (Ev.bind hu (Ev.congr (fun k => if_pos (by first | rfl | trivial)) (Ev.bind hw (bad fun g => hr g.2))))
  · have huf : u = false := by
      cases u with
      | false => rfl
      | true => exact absurd (hu'.1 rfl) hm
    subst huf
    refine Ev.bind (spans_arg ha hb hbl fun g => hm g.1) (Ev.bind hu (Ev.congr (fun k => if_neg (by decide)) (bad fun g => hm g.1)))

end Go.Proofs.Ytfcedhejbnoinaa.Pure
