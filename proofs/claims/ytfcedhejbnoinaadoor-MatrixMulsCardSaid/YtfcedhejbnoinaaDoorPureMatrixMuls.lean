/- The printed law MatrixMuls answers true, whatever its arguments are: plain Lean, no program in sight. -/
import Derived.Test.YtfcedhejbnoinaaDoorPMx12
import Derived.Test.YtfcedhejbnoinaaDoorVOpens
import Derived.Test.YtfcedhejbnoinaaDoorPMxO
import Derived.Test.YtfcedhejbnoinaaDoorPureQPMMul
namespace Go.Proofs.YtfcedhejbnoinaaDoor.Pure
open Go.RowKit Go.Proofs.YtfcedhejbnoinaaDoor.PM Go.Proofs.YtfcedhejbnoinaaDoorW.PrintWords Go.Proofs.YtfcedhejbnoinaaDoorW.PrintLast Go.Proofs.YtfcedhejbnoinaaDoor Go.Proofs.YtfcedhejbnoinaaDoor.PureBit Go.Proofs.YtfcedhejbnoinaaDoor.Row

theorem app_len {n m : Int} {a : List S25} {l : List ByteArray} (h : a.length ≤ 66) : (app n m a l).length < 1000000 := by
  unfold app; rw [List.length_map, List.length_range]; omega

theorem MatrixMuls_apply {n m : Int} {a : List S25} {l : List ByteArray} (fa : Few a) (hl : l.length < 1000000) {s : List ByteArray × Int} (hs : Ev (fun k => matrix_Apply.f k n a m l) s) :
    Ev (fun k => downpourlaw03_MatrixMuls.j1 k m l s.1 s.2 n a) true := by
  obtain ⟨b, hb, hb'⟩ := refRight_mat (n := n) fa
  refine up ?_
  simp only [downpourlaw03_MatrixMuls.j1]
  refine Ev.bind hb ?_
  by_cases ha : MRt n a
  · obtain rfl : b = true := hb'.2 ha
    refine Ev.congr (fun k => if_pos (by first | rfl | trivial)) ?_
    obtain ⟨w1, w2⟩ := why_spec (n := m) hl
    by_cases h : BOk m l ∧ (l.length : Int) = n
    · obtain rfl := ev_unique hs (apply_ok fa ha h.1 h.2)
      have e : ((l.length : Int) != n) = false := by rw [h.2]; simp
      refine Ev.bind (w1 h.1) (Ev.congr (fun k => if_pos (by first | rfl | trivial)) (up ?_))
      simp only [downpourlaw03_MatrixMuls.j2]
      rw [e]
      exact Ev.congr (fun k => (if_neg (by decide)).trans (if_pos (by first | rfl | trivial))) (Ev.bind (refApply_ok fa ha h.1 h.2) (Ev.bind (texts_self (app_len fa.1)) (Ev.now _)))
    · obtain rfl := ev_unique hs (apply_size fa ha hl h)
      have j2 : Ev (fun k => downpourlaw03_MatrixMuls.j2 k m l [] 2 true n a) true := by
        refine up ?_
        simp only [downpourlaw03_MatrixMuls.j2]
        exact Ev.congr (fun k => (if_pos (by first | rfl | trivial)).trans (if_pos (by first | rfl | trivial))) (Ev.now _)
      by_cases hbk : BOk m l
      · have e : ((l.length : Int) != n) = true := by rw [bne_iff_ne]; exact fun g => h ⟨hbk, g⟩
        refine Ev.bind (w1 hbk) (Ev.congr (fun k => if_pos (by first | rfl | trivial)) ?_)
        rw [e]
        exact j2
      · exact Ev.bind (w2 hbk) (Ev.congr (fun k => if_neg (by decide)) j2)
  · have hf : b = false := by cases b with | false => rfl | true => exact absurd (hb'.1 rfl) ha
    subst hf
    obtain rfl := ev_unique hs (apply_arg fa ha)
    exact Ev.congr (fun k => (if_neg (by decide)).trans (if_pos (by first | rfl | trivial))) (Ev.now _)

theorem MatrixMuls (x0 : S55) (_q0 : Q55 x0)  (x1 : S55) (_q1 : Q55 x1)  (x2 : Int) (_q2 : (Lit.int .i64 x2).wf = true)  (x3 : List ByteArray) (_q3 : (x3.length ≤ maxLen ∧ ∀ z0, z0 ∈ x3 → z0.size ≤ maxLen)) : ∃ k, downpourlaw03_MatrixMuls.f k x0.f0 x0.f1 x1.f0 x1.f1 x2 x3 = some true := by
  obtain ⟨n, a0⟩ := x0
  obtain ⟨m, b0⟩ := x1
  obtain ⟨_, _, ha0⟩ := _q0
  obtain ⟨_, _, hb0⟩ := _q1
  obtain ⟨a, hfa, fa⟩ := few_mat (n := n) (l := a0) fun x hx => ok_of (ha0 x hx).2.2
  obtain ⟨b, hfb, fb⟩ := few_mat (n := m) (l := b0) fun x hx => ok_of (hb0 x hx).2.2
  obtain ⟨l, hfl, hll⟩ := blocks_spec x3
  have hl : l.length < 1000000 := by omega
  show ∃ k, downpourlaw03_MatrixMuls.f k n a0 m b0 x2 x3 = some true
  unfold downpourlaw03_MatrixMuls.f
  have hempty := same_mat_self 0 short_nil
  obtain ⟨s, hs⟩ : ∃ s, Ev (fun k => matrix_Apply.f k n a x2 l) s := by
    by_cases ha : MRt n a
    · by_cases h : BOk x2 l ∧ (l.length : Int) = n
      · exact ⟨_, apply_ok fa ha h.1 h.2⟩
      · exact ⟨_, apply_size fa ha hl h⟩
    · exact ⟨_, apply_arg fa ha⟩
  have hj1 := MatrixMuls_apply fa hl hs
  obtain ⟨t, ht, ht'⟩ := refRight_mat (n := n) fa
  obtain ⟨u, hu, hu'⟩ := refRight_mat (n := m) fb
  by_cases h : MRt n a ∧ MRt m b
  · obtain rfl : t = true := ht'.2 h.1
    obtain rfl : u = true := hu'.2 h.2
    by_cases hn : n = (b.length : Int)
    · refine Ev.rounds (Ev.bind hfa (Ev.bind hfb (Ev.bind hfl (Ev.bind (mul_ok fa fb h.1 h.2 hn) (Ev.bind hs (Ev.bind alive03_spec (Ev.congr (fun k => if_pos (by first | rfl | trivial)) (Ev.bind ht (Ev.congr (fun k => if_pos (by first | rfl | trivial)) (Ev.bind hu (up ?_)))))))))))
      simp only [downpourlaw03_MatrixMuls.j0]
      exact Ev.congr (fun k => (if_neg (by decide)).trans ((if_pos hn).trans (if_pos (by first | rfl | trivial)))) (Ev.bind (refMul_ok fa fb h.1 h.2 hn) (Ev.bind (same_mat_self _ (short_mul h.2.2.1 h.1.2.2.1)) (Ev.congr (fun k => if_pos (by first | rfl | trivial)) hj1)))
    · refine Ev.rounds (Ev.bind hfa (Ev.bind hfb (Ev.bind hfl (Ev.bind (mul_size fa fb h.1 h.2 hn) (Ev.bind hs (Ev.bind alive03_spec (Ev.congr (fun k => if_pos (by first | rfl | trivial)) (Ev.bind ht (Ev.congr (fun k => if_pos (by first | rfl | trivial)) (Ev.bind hu (up ?_)))))))))))
      simp only [downpourlaw03_MatrixMuls.j0]
      exact Ev.congr (fun k => (if_neg (by decide)).trans ((if_neg hn).trans (if_pos (by first | rfl | trivial)))) (Ev.bind hempty (Ev.congr (fun k => if_pos (by first | rfl | trivial)) hj1))
  · have hj0 : Ev (fun k => downpourlaw03_MatrixMuls.j0 k x2 l 1 s.1 s.2 true n a m b 0 []) true := by
      refine up ?_
      simp only [downpourlaw03_MatrixMuls.j0]
      exact Ev.congr (fun k => (if_pos (by first | rfl | trivial)).trans (if_pos (by first | rfl | trivial))) (Ev.bind hempty (Ev.congr (fun k => if_pos (by first | rfl | trivial)) hj1))
    refine Ev.rounds (Ev.bind hfa (Ev.bind hfb (Ev.bind hfl (Ev.bind (mul_arg fa fb h) (Ev.bind hs (Ev.bind alive03_spec (Ev.congr (fun k => if_pos (by first | rfl | trivial)) (Ev.bind ht ?_))))))))
    cases t with
    | false => exact Ev.congr (fun k => if_neg (by decide)) hj0
    | true =>
      refine Ev.congr (fun k => if_pos (by first | rfl | trivial)) (Ev.bind hu ?_)
      have hf : u = false := by cases u with | false => rfl | true => exact absurd ⟨ht'.1 rfl, hu'.1 rfl⟩ h
      subst hf
      exact hj0

end Go.Proofs.YtfcedhejbnoinaaDoor.Pure
