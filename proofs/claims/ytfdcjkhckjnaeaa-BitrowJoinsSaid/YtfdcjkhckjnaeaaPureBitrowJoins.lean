import Derived.Test.YtfdcjkhckjnaeaaPAx8
import Derived.Test.YtfdcjkhckjnaeaaVOpens
import Derived.Test.YtfdcjkhckjnaeaaPAxO
import Derived.Test.YtfdcjkhckjnaeaaPureRef
namespace Go.Proofs.Ytfdcjkhckjnaeaa.Pure
open Go.RowKit Go.Proofs.Ytfdcjkhckjnaeaa.PA Go.Proofs.YtfdcjkhckjnaeaaW.PrintWords Go.Proofs.YtfdcjkhckjnaeaaW.PrintLast Go.Proofs.Ytfdcjkhckjnaeaa Go.Proofs.Ytfdcjkhckjnaeaa.PureBit Go.Proofs.Ytfdcjkhckjnaeaa.Row

theorem BitrowJoins (x0 : S25) (_q0 : Q25 x0)  (x1 : S25) (_q1 : Q25 x1) : ∃ k, downpourlaw01_BitrowJoins.f k x0.f0 x0.f1 x1.f0 x1.f1 = some true := by
  obtain ⟨n, a0⟩ := x0
  obtain ⟨m, b0⟩ := x1
  obtain ⟨hn, _, ha0⟩ := _q0
  obtain ⟨hm, _, hb0⟩ := _q1
  have ha : Ok (a0.take 10) := ok_take (ok_of ha0) 10
  have hb : Ok (b0.take 10) := ok_take (ok_of hb0) 10
  have hla : (a0.take 10).length ≤ 10 := by rw [List.length_take]; omega
  have hlb : (b0.take 10).length ≤ 10 := by rw [List.length_take]; omega
  show ∃ k, downpourlaw01_BitrowJoins.f k n a0 m b0 = some true
  unfold downpourlaw01_BitrowJoins.f
  refine (Ev.bind (Ev.congr (fun _ => few_spec n a0) (Ev.now _)) (Ev.bind (Ev.congr (fun _ => few_spec m b0) (Ev.now _)) ?_)).rounds
  dsimp only
  generalize a0.take 10 = a at *
  generalize b0.take 10 = b at *
  have hempty := same_self 0 (a := []) (by decide)
  obtain ⟨r, hr, hr'⟩ := refRight_spec ha (by omega) hn
  obtain ⟨s, hs, hs'⟩ := refRight_spec hb (by omega) hm
  by_cases h : Rt n a ∧ Rt m b
  · have hrt : r = true := hr'.2 h.1
    have hst : s = true := hs'.2 h.2
    subst hrt hst
    by_cases hne : n = m
    · subst hne
      refine Ev.bind (xor_ok ha hb h.1 h.2) (Ev.bind (and_ok ha hb h.1 h.2) (Ev.bind hr ?_))
      refine Ev.congr (fun k => if_pos (by first | rfl | trivial)) (Ev.bind hs (up ?_))
      simp only [downpourlaw01_BitrowJoins.j0]
      refine Ev.congr (fun k => (if_neg (by decide)).trans (if_pos (by first | rfl | trivial))) (up ?_)
      simp only [downpourlaw01_BitrowJoins.j1]
      refine Ev.congr (fun k => if_pos (by first | rfl | trivial)) (Ev.bind alive_spec (Ev.congr (fun k => (if_pos (by first | rfl | trivial)).trans ((if_pos (by first | rfl | trivial)).trans (if_pos (by first | rfl | trivial)))) (Ev.bind (refXor_spec ha hb h.1 h.2) (Ev.bind (same_self _ ?_) (Ev.congr (fun k => if_pos (by first | rfl | trivial)) (Ev.bind (refAnd_spec ha hb h.1 h.2) (Ev.bind (same_self _ ?_) (Ev.now _))))))))
      · rw [length_words]; omega
      · rw [length_words]; omega
    · refine Ev.bind (xor_size ha hb h.1 h.2 hne) (Ev.bind (and_size ha hb h.1 h.2 hne) (Ev.bind hr ?_))
      refine Ev.congr (fun k => if_pos (by first | rfl | trivial)) (Ev.bind hs (up ?_))
      simp only [downpourlaw01_BitrowJoins.j0]
      refine Ev.congr (fun k => (if_neg (by decide)).trans (if_neg hne)) (up ?_)
      simp only [downpourlaw01_BitrowJoins.j1]
      exact Ev.congr (fun k => if_neg (by decide)) (Ev.bind alive_spec (Ev.congr (fun k => (if_pos (by first | rfl | trivial)).trans ((if_pos (by first | rfl | trivial)).trans (if_pos (by first | rfl | trivial)))) (Ev.bind hempty (Ev.congr (fun k => if_pos (by first | rfl | trivial)) (Ev.bind hempty (Ev.now _))))))
  · refine Ev.bind (xor_arg ha hb (by omega) (by omega) h) (Ev.bind (and_arg ha hb (by omega) (by omega) h) (Ev.bind hr ?_))
    have hj : Ev (fun k => downpourlaw01_BitrowJoins.j0 k 1 1 0 true n a m b 0 [] 0 []) true := by
      refine up ?_
      simp only [downpourlaw01_BitrowJoins.j0]
      refine Ev.congr (fun k => if_pos (by first | rfl | trivial)) (up ?_)
      simp only [downpourlaw01_BitrowJoins.j1]
      exact Ev.congr (fun k => if_neg (by decide)) (Ev.bind alive_spec (Ev.congr (fun k => (if_pos (by first | rfl | trivial)).trans ((if_pos (by first | rfl | trivial)).trans (if_pos (by first | rfl | trivial)))) (Ev.bind hempty (Ev.congr (fun k => if_pos (by first | rfl | trivial)) (Ev.bind hempty (Ev.now _))))))
    cases r with
    | false => exact Ev.congr (fun k => if_neg (by decide)) hj
    | true =>
      have hsf : s = false := by
        cases s with
        | false => rfl
        | true => exact absurd ⟨hr'.1 rfl, hs'.1 rfl⟩ h
      subst hsf
      exact Ev.congr (fun k => if_pos (by first | rfl | trivial)) (Ev.bind hs hj)

end Go.Proofs.Ytfdcjkhckjnaeaa.Pure
