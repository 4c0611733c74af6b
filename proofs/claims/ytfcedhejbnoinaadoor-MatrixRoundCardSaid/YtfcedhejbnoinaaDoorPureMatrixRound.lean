/- The printed law MatrixRound answers true, whatever its arguments are: plain Lean, no program in sight. -/
import Derived.Test.YtfcedhejbnoinaaDoorPRx10
import Derived.Test.YtfcedhejbnoinaaDoorVOpens
import Derived.Test.YtfcedhejbnoinaaDoorPRxO
import Derived.Test.YtfcedhejbnoinaaDoorPureQPRRound
namespace Go.Proofs.YtfcedhejbnoinaaDoor.Pure
open Go.RowKit Go.Proofs.YtfcedhejbnoinaaDoor.PR Go.Proofs.YtfcedhejbnoinaaDoorW.PrintWords Go.Proofs.YtfcedhejbnoinaaDoorW.PrintLast Go.Proofs.YtfcedhejbnoinaaDoor Go.Proofs.YtfcedhejbnoinaaDoor.PureBit Go.Proofs.YtfcedhejbnoinaaDoor.Row

theorem MatrixRound_apply {c n r : Nat} {m : Int} {u w : Nat → Nat} (hc : c ≤ 64) (hn : n ≤ 64) (hr : r ≤ 64) (hu : Fit n r u) (hw : Fit c n w) {l : List ByteArray} (hl : l.length < 1000000) :
    Ev (fun k => downpourlaw03_MatrixRound.j1 k m l false (n : Int) (mkm n r u) (c : Int) (mkm c n w) (c : Int) (mkm c r (fun i => mvp (u i) w n))) true := by
  have hp : Fit c r (fun i => mvp (u i) w n) := fun i _ => mvp_lt hw _ n (Nat.le_refl _)
  have fu := mkm_few hn hr hu
  have fw := mkm_few hc hn hw
  have fp := mkm_few hc hr hp
  have mu := mkm_mrt hn hr hu
  have mw := mkm_mrt hc hn hw
  have mp := mkm_mrt hc hr hp
  refine up ?_
  simp only [downpourlaw03_MatrixRound.j1]
  refine Ev.congr (fun k => if_neg (by decide)) ?_
  by_cases h : BOk m l ∧ (l.length : Int) = (c : Int)
  · have h0 := h.1.1
    have h1 := h.1.2.1
    have hlen : (app (c : Int) m (mkm c n w) l).length = n := by unfold app; rw [List.length_map, List.length_range, mkm_len]
    have hb2 : BOk m (app (c : Int) m (mkm c n w) l) := ⟨h0, h1, by rw [hlen]; exact hn, fun j hj => by
      rw [hlen] at hj
      rw [app_size (by rw [mkm_len]; exact hj)]
      exact Int.toNat_of_nonneg h0⟩
    refine Ev.bind (apply_ok fw mw h.1 h.2) (Ev.bind (apply_ok fp mp h.1 h.2) (Ev.congr (fun k => if_pos (by first | rfl | trivial)) (Ev.bind (apply_ok fu mu hb2 (by rw [hlen])) ?_)))
    dsimp only
    rw [app_app hc hn hu hw l]
    refine Ev.congr (fun k => (if_pos (by first | rfl | trivial)).trans (if_pos (by first | rfl | trivial))) (Ev.bind (texts_self ?_) (Ev.now _))
    unfold app
    rw [List.length_map, List.length_range, mkm_len]; omega
  · refine Ev.bind (apply_size fw mw hl h) (Ev.bind (apply_size fp mp hl h) ?_)
    refine Ev.congr (fun k => (if_neg (by decide)).trans (if_pos (by first | rfl | trivial))) ?_
    rw [show (wrap64 ((([] : List ByteArray).length : Int) + (([] : List ByteArray).length : Int)) == 0) = true by decide +kernel]
    exact Ev.now _

theorem MatrixRound_mul {n r : Nat} {u : Nat → Nat} (hn : n ≤ 64) (hr : r ≤ 64) (hu : Fit n r u) {m : Int} {b : List S25} (fb : Few b) {q : Int} {l : List ByteArray} (hl : l.length < 1000000) :
    Ev (fun k => downpourlaw03_MatrixRound.j0 k q l false (n : Int) (mkm n r u) m b (r : Int) (mkm r n (tv r u))) true := by
  have hempty := same_mat_self 0 short_nil
  have fu := mkm_few hn hr hu
  have mu := mkm_mrt hn hr hu
  refine up ?_
  simp only [downpourlaw03_MatrixRound.j0]
  refine Ev.congr (fun k => if_neg (by decide)) ?_
  by_cases hb : MRt m b
  · by_cases hlen : (n : Int) = (b.length : Int)
    · obtain ⟨hcan, hfit⟩ := mrt_mkm (fun x hx => (fb.2 x hx).1) hb
      have hc : m.toNat ≤ 64 := by have := hb.2.1; omega
      have hm : ((m.toNat : Nat) : Int) = m := Int.toNat_of_nonneg hb.1
      have hbl : b.length = n := by omega
      generalize (fun i => val (row b i).f1) = w at hcan hfit
      rw [hbl] at hcan hfit
      generalize m.toNat = c at *
      subst hm hcan
      have hp : Fit c r (fun i => mvp (u i) w n) := fun i _ => mvp_lt hfit _ n (Nat.le_refl _)
      have htw : Fit n c (tv n w) := tv_fit n c w
      have htu : Fit r n (tv r u) := tv_fit r n u
      refine Ev.bind (mul_mkm hc hn hr hu hfit) (Ev.congr (fun k => if_pos (by first | rfl | trivial)) (Ev.bind (turn_mkm hc hn hfit) (Ev.bind (turn_mkm hc hr hp) (Ev.bind (mul_mkm hr hn hc htw htu) ?_))))
      dsimp only
      have e : mkm r c (tv r fun i => mvp (u i) w n) = mkm r c (fun i => mvp (tv n w i) (tv r u) n) := mkm_congr fun i _ => tv_mvp
      rw [e]
      refine Ev.congr (fun k => (if_pos (by first | rfl | trivial)).trans ((if_pos (by first | rfl | trivial)).trans (if_pos (by first | rfl | trivial)))) (Ev.bind (same_mat_self _ (short_mkm hr hc)) ?_)
      exact MatrixRound_apply hc hn hr hu hfit hl
    · exact Ev.bind (mul_size fu fb mu hb hlen) (Ev.congr (fun k => if_neg (by decide)) (Ev.bind hempty (Ev.now _)))
  · exact Ev.bind (mul_arg fu fb fun g => hb g.2) (Ev.congr (fun k => if_neg (by decide)) (Ev.bind hempty (Ev.now _)))

theorem MatrixRound (x0 : S55) (_q0 : Q55 x0)  (x1 : S55) (_q1 : Q55 x1)  (x2 : Int) (_q2 : (Lit.int .i64 x2).wf = true)  (x3 : List ByteArray) (_q3 : (x3.length ≤ maxLen ∧ ∀ z0, z0 ∈ x3 → z0.size ≤ maxLen)) : ∃ k, downpourlaw03_MatrixRound.f k x0.f0 x0.f1 x1.f0 x1.f1 x2 x3 = some true := by
  obtain ⟨n, a0⟩ := x0
  obtain ⟨m, b0⟩ := x1
  obtain ⟨_, _, ha0⟩ := _q0
  obtain ⟨_, _, hb0⟩ := _q1
  obtain ⟨a, hfa, fa⟩ := few_mat (n := n) (l := a0) fun x hx => ok_of (ha0 x hx).2.2
  obtain ⟨b, hfb, fb⟩ := few_mat (n := m) (l := b0) fun x hx => ok_of (hb0 x hx).2.2
  obtain ⟨l, hfl, hll⟩ := blocks_spec x3
  have hl : l.length < 1000000 := by omega
  show ∃ k, downpourlaw03_MatrixRound.f k n a0 m b0 x2 x3 = some true
  unfold downpourlaw03_MatrixRound.f
  have hempty := same_mat_self 0 short_nil
  refine Ev.rounds (Ev.bind hfa (Ev.bind hfb (Ev.bind hfl ?_)))
  dsimp only
  by_cases ha : MRt n a
  · obtain ⟨hcan, hfit⟩ := mrt_mkm (fun x hx => (fa.2 x hx).1) ha
    have hc : n.toNat ≤ 64 := by have := ha.2.1; omega
    have hr : a.length ≤ 64 := ha.2.2.1
    have hm : ((n.toNat : Nat) : Int) = n := Int.toNat_of_nonneg ha.1
    clear hfa
    generalize (fun i => val (row a i).f1) = u at hcan hfit
    generalize a.length = r at *
    generalize n.toNat = c at *
    subst hm hcan
    have htu : Fit r c (tv r u) := tv_fit r c u
    refine Ev.bind (turn_mkm hc hr hfit) (Ev.congr (fun k => if_pos (by first | rfl | trivial)) (Ev.bind (turn_mkm hr hc htu) (Ev.bind (one_mkm hc) (Ev.bind (mul_mkm hc hc hr hfit (one_fit c)) ?_))))
    dsimp only
    have e1 : mkm c r (tv c (tv r u)) = mkm c r u := mkm_congr fun i hi => tv_tv hfit hi
    have e2 : mkm c r (fun i => mvp (u i) (fun i => 2 ^ i) c) = mkm c r u := mkm_congr fun i hi => mvp_one (hfit i hi)
    rw [e1, e2]
    refine Ev.congr (fun k => (if_pos (by first | rfl | trivial)).trans ((if_pos (by first | rfl | trivial)).trans (if_pos (by first | rfl | trivial)))) (Ev.bind (same_mat_self _ (short_mkm hc hr)) (Ev.congr (fun k => if_pos (by first | rfl | trivial)) (Ev.bind (same_mat_self _ (short_mkm hc hr)) (Ev.congr (fun k => if_pos (by first | rfl | trivial)) (Ev.bind alive03_spec ?_)))))
    exact MatrixRound_mul hc hr hfit fb hl
  · exact Ev.bind (turn_arg fa ha) (Ev.congr (fun k => if_neg (by decide)) (Ev.bind alive03_spec (Ev.congr (fun k => if_pos (by first | rfl | trivial)) (Ev.bind hempty (Ev.now _)))))

end Go.Proofs.YtfcedhejbnoinaaDoor.Pure
