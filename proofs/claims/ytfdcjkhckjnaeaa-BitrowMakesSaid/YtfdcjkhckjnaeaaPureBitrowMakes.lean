/- The printed law BitrowMakes answers true, whatever its arguments are: plain Lean, no program in sight. -/
import Derived.Test.YtfdcjkhckjnaeaaPAx4
import Derived.Test.YtfdcjkhckjnaeaaVOpens
import Derived.Test.YtfdcjkhckjnaeaaPAxO
import Derived.Test.YtfdcjkhckjnaeaaPureMake
namespace Go.Proofs.Ytfdcjkhckjnaeaa.Pure
open Go.RowKit Go.Proofs.Ytfdcjkhckjnaeaa.PA Go.Proofs.YtfdcjkhckjnaeaaW.PrintWords Go.Proofs.YtfdcjkhckjnaeaaW.PrintLast Go.Proofs.Ytfdcjkhckjnaeaa Go.Proofs.Ytfdcjkhckjnaeaa.PureBit Go.Proofs.Ytfdcjkhckjnaeaa.Row

/-- The tail of the law, from the two rows made. -/
theorem BitrowMakes_tail (x0 : Int) (l : List Int) (hl : l.length < 1000000) {r s : Int × List Int × Int}
    (hr : bitrow_New.f x0 = some r) (hs : Ev (fun k => bitrow_Of.f k x0 l) s) : Ev (fun k => downpourlaw01_BitrowMakes.j0 k x0 l r.2.2 s.2.2 false r.1 r.2.1 s.1 s.2.1) true := by
  have hempty := same_self 0 (a := []) (by decide)
  refine up ?_
  simp only [downpourlaw01_BitrowMakes.j0]
  refine Ev.congr (fun k => if_neg (by decide)) ?_
  have bad : ¬ (0 ≤ x0 ∧ x0 ≤ 512) → Ev (fun k => downpourlaw01_BitrowMakes.j1 k x0 l r.2.2 s.2.2 true r.1 r.2.1 s.1 s.2.1) true := fun h => by
    have er := hr.symm.trans (new_size h)
    obtain rfl : r = (0, [], 2) := by injection er
    obtain rfl : s = (0, [], 2) := ev_unique hs (of_size h)
    refine up ?_
    simp only [downpourlaw01_BitrowMakes.j1]
    exact Ev.congr (fun k => (if_pos (by first | rfl | trivial)).trans ((if_pos (by first | rfl | trivial)).trans (if_pos (by first | rfl | trivial)))) (Ev.bind hempty (Ev.congr (fun k => if_pos (by first | rfl | trivial)) (Ev.bind hempty (Ev.now _))))
  by_cases h0 : x0 < 0
  · exact Ev.congr (fun k => if_pos h0) (bad (by omega))
  · refine Ev.congr (fun k => if_neg h0) ?_
    by_cases h1 : x0 > 512
    · rw [decide_eq_true h1]; exact bad (by omega)
    · rw [decide_eq_false h1]
      have h : 0 ≤ x0 ∧ x0 ≤ 512 := by omega
      have er := hr.symm.trans (new_ok h)
      obtain rfl : r = (x0, List.replicate ((x0 + 63) / 64).toNat 0, 0) := by injection er
      refine up ?_
      simp only [downpourlaw01_BitrowMakes.j1]
      refine Ev.congr (fun k => (if_neg (by decide)).trans (if_pos (by first | rfl | trivial))) ?_
      refine Ev.bind (refOf_spec (l := []) (ws := List.replicate ((x0 + 63) / 64).toNat 0) (by decide) h.1 h.2 (fun z hz => by simp at hz) (ok_replicate _) (by rw [List.length_replicate]; omega) (fun j => by rw [val_replicate]; simp)) ?_
      refine Ev.bind (same_self x0 (a := List.replicate ((x0 + 63) / 64).toNat 0) (by rw [List.length_replicate]; omega)) (up ?_)
      simp only [downpourlaw01_BitrowMakes.j2]
      refine Ev.congr (fun k => if_neg (by decide)) (Ev.bind (there_spec (by omega) x0) ?_)
      rcases of_spec h hl with ⟨ha, ws, he, hok, hlen, hb⟩ | ⟨ha, he⟩
      · obtain rfl : s = (x0, ws, 0) := ev_unique hs he
        rw [decide_eq_true ha]
        exact Ev.congr (fun k => (if_pos (by first | rfl | trivial)).trans (if_pos (by first | rfl | trivial))) (Ev.bind (refOf_spec (by omega) h.1 h.2 ha hok hlen hb) (Ev.bind (same_self x0 (a := ws) (by omega)) (Ev.now _)))
      · obtain rfl : s = (0, [], 3) := ev_unique hs he
        rw [decide_eq_false ha]
        exact Ev.congr (fun k => (if_neg (by decide)).trans (if_pos (by first | rfl | trivial))) (Ev.bind hempty (Ev.now _))

theorem BitrowMakes (x0 : Int) (_q0 : (Lit.int .i64 x0).wf = true)  (x1 : List Int) (_q1 : (x1.length ≤ maxLen ∧ ∀ x, x ∈ x1 → (Lit.int .i64 x).wf = true))  (x2 : S25) (_q2 : Q25 x2)  (x3 : S25) (_q3 : Q25 x3) : ∃ k, downpourlaw01_BitrowMakes.f k x0 x1 x2.f0 x2.f1 x3.f0 x3.f1 = some true := by
  obtain ⟨n, a0⟩ := x2
  obtain ⟨m, b0⟩ := x3
  obtain ⟨hn, _, ha0⟩ := _q2
  have ha : Ok (a0.take 10) := ok_take (ok_of ha0) 10
  have hla : (a0.take 10).length ≤ 10 := by rw [List.length_take]; omega
  have hmn0 : 0 ≤ mn (x1.length : Int) 40 := by unfold mn; split <;> omega
  have hmn1 : mn (x1.length : Int) 40 ≤ (x1.length : Int) := by unfold mn; split <;> omega
  have hmn2 : mn (x1.length : Int) 40 ≤ 40 := by unfold mn; split <;> omega
  have hl : (x1.take (mn (x1.length : Int) 40).toNat).length < 1000000 := by rw [List.length_take]; omega
  show ∃ k, downpourlaw01_BitrowMakes.f k x0 x1 n a0 m b0 = some true
  unfold downpourlaw01_BitrowMakes.f
  refine Ev.rounds (Ev.congr (fun k => (if_pos hmn0).trans (if_pos hmn1)) (Ev.bind (Ev.congr (fun _ => few_spec n a0) (Ev.now _)) (Ev.bind (Ev.congr (fun _ => few_spec m b0) (Ev.now _)) ?_)))
  dsimp only
  generalize x1.take (mn (x1.length : Int) 40).toNat = l at *
  generalize a0.take 10 = a at *
  generalize b0.take 10 = b at *
  obtain ⟨r, hr⟩ : ∃ r, bitrow_New.f x0 = some r := by
    by_cases h : 0 ≤ x0 ∧ x0 ≤ 512
    · exact ⟨_, new_ok h⟩
    · exact ⟨_, new_size h⟩
  obtain ⟨s, hs⟩ : ∃ s, Ev (fun k => bitrow_Of.f k x0 l) s := by
    by_cases h : 0 ≤ x0 ∧ x0 ≤ 512
    · rcases of_spec h hl with ⟨_, ws, he, _⟩ | ⟨_, he⟩
      · exact ⟨_, he⟩
      · exact ⟨_, he⟩
    · exact ⟨_, of_size h⟩
  obtain ⟨t, ht, ht'⟩ := right_spec (n := n) ha (by omega)
  obtain ⟨u, hu, hu'⟩ := refRight_spec ha (by omega) hn
  obtain rfl : t = u := by rw [Bool.eq_iff_iff, ht', hu']
  refine Ev.bind (Ev.congr (fun _ => hr) (Ev.now _)) (Ev.bind hs (Ev.bind (Ev.congr (fun _ => ht) (Ev.now _)) (Ev.bind hu ?_)))
  refine Ev.congr (fun k => if_neg (by simp)) ?_
  refine Ev.bind (like_spec n m (by omega)) (Ev.bind (same_spec n m (by omega)) (Ev.congr (fun k => if_neg (by simp)) ?_))
  refine Ev.bind (like_spec n n (a := a) (b := a) (by omega)) (Ev.congr (fun k => if_pos (by simp)) (Ev.bind alive_spec ?_))
  exact BitrowMakes_tail x0 l hl hr hs

end Go.Proofs.Ytfdcjkhckjnaeaa.Pure
