/- The printed law BitrowOrder answers true, whatever its arguments are: plain Lean, no program in sight. -/
import Derived.Test.YtfdcjkhckjnaeaaPAx9
import Derived.Test.YtfdcjkhckjnaeaaVOpens
import Derived.Test.YtfdcjkhckjnaeaaPAxO
import Derived.Test.YtfdcjkhckjnaeaaPureRef
namespace Go.Proofs.Ytfdcjkhckjnaeaa.Pure
open Go.RowKit Go.Proofs.Ytfdcjkhckjnaeaa.PA Go.Proofs.YtfdcjkhckjnaeaaW.PrintWords Go.Proofs.YtfdcjkhckjnaeaaW.PrintLast Go.Proofs.Ytfdcjkhckjnaeaa Go.Proofs.Ytfdcjkhckjnaeaa.PureBit Go.Proofs.Ytfdcjkhckjnaeaa.Row

theorem BitrowOrder (x0 : S25) (_q0 : Q25 x0)  (x1 : S25) (_q1 : Q25 x1)  (x2 : S25) (_q2 : Q25 x2) : ∃ k, downpourlaw01_BitrowOrder.f k x0.f0 x0.f1 x1.f0 x1.f1 x2.f0 x2.f1 = some true := by
  obtain ⟨n, a0⟩ := x0
  obtain ⟨m, b0⟩ := x1
  obtain ⟨o, c0⟩ := x2
  obtain ⟨_, _, ha0⟩ := _q0
  obtain ⟨_, _, hb0⟩ := _q1
  obtain ⟨_, _, hc0⟩ := _q2
  have ha : Ok (a0.take 10) := ok_take (ok_of ha0) 10
  have hb : Ok (b0.take 10) := ok_take (ok_of hb0) 10
  have hc : Ok (c0.take 10) := ok_take (ok_of hc0) 10
  have hla : (a0.take 10).length ≤ 10 := by rw [List.length_take]; omega
  have hlb : (b0.take 10).length ≤ 10 := by rw [List.length_take]; omega
  have hlc : (c0.take 10).length ≤ 10 := by rw [List.length_take]; omega
  show ∃ k, downpourlaw01_BitrowOrder.f k n a0 m b0 o c0 = some true
  unfold downpourlaw01_BitrowOrder.f
  refine (Ev.bind (Ev.congr (fun _ => few_spec n a0) (Ev.now _)) (Ev.bind (Ev.congr (fun _ => few_spec m b0) (Ev.now _)) (Ev.bind (Ev.congr (fun _ => few_spec o c0) (Ev.now _)) ?_))).rounds
  dsimp only
  generalize a0.take 10 = a at *
  generalize b0.take 10 = b at *
  generalize c0.take 10 = c at *
  have hempty := same_self 0 (a := []) (by decide)
  have bad : ∀ (e : Int) (u : List Int) (v : Int) (w : List Int), e ≠ 0 → Ev (fun k => downpourlaw01_BitrowOrder.j0 k e true n a m b o c 0 [] v w) true := fun e u v w he => by
    refine up ?_
    simp only [downpourlaw01_BitrowOrder.j0]
    exact Ev.congr (fun k => if_pos (by first | rfl | trivial)) (Ev.bind alive_spec (Ev.congr (fun k => (if_pos (by first | rfl | trivial)).trans (if_neg he)) (Ev.bind hempty (Ev.now _))))
  have part : ∀ (s : Int) (u : List Int) (v : Int) (w : List Int), Ev (fun k => downpourlaw01_BitrowOrder.j0 k 0 true n a m b o c s u v w) true := fun s u v w => by
    refine up ?_
    simp only [downpourlaw01_BitrowOrder.j0]
    exact Ev.congr (fun k => if_pos (by first | rfl | trivial)) (Ev.bind alive_spec (Ev.congr (fun k => (if_pos (by first | rfl | trivial)).trans (if_pos (by first | rfl | trivial))) (Ev.now _)))
  by_cases h : Rt n a ∧ Rt m b
  · by_cases hne : n = m
    · subst hne
      refine Ev.bind (xor_ok ha hb h.1 h.2) ?_
      by_cases h2 : Rt o c
      · by_cases hne2 : n = o
        · subst hne2
          refine Ev.bind (xor_ok hb hc h.2 h2) (Ev.congr (fun k => if_pos (by first | rfl | trivial)) ?_)
          obtain ⟨L, ea, hL⟩ : ∃ L, a.length = L ∧ (L : Int) = (n + 63) / 64 := ⟨_, rfl, h.1.2.2.1⟩
          have eb : b.length = L := by have := h.2.2.2.1; omega
          have ec : c.length = L := by have := h2.2.2.1; omega
          have wa := words_val ha
          have wb := words_val hb
          have wc := words_val hc
          rw [ea] at wa
          rw [eb] at wb
          rw [ec] at wc
          have hA := h.1.2.2.2
          have hB := h.2.2.2.2
          have hC := h2.2.2.2
          have n0 := h.1.1
          have n1 := h.1.2.1
          rw [ea, eb]
          generalize val a = A at *
          generalize val b = B at *
          generalize val c = C at *
          subst wa wb wc
          have hl : ∀ v, (words L v).length < 9223372036854775807 := fun v => by rw [length_words]; omega
          have lAB := Nat.xor_lt_two_pow hA hB
          have lBC := Nat.xor_lt_two_pow hB hC
          have xAB : Ev (fun k => bitrow_Xor.f k n (words L A) n (words L B)) (n, words L (A ^^^ B), 0) := xor_w n0 n1 hL hA hB
          refine up ?_
          simp only [downpourlaw01_BitrowOrder.j0]
          refine Ev.congr (fun k => if_neg (by decide)) ?_
          refine Ev.bind (xor_w n0 n1 hL hB hA) (Ev.bind (xor_w n0 n1 hL lAB hC) (Ev.bind (xor_w n0 n1 hL hA lBC) (Ev.bind (and_w n0 n1 hL hA lBC) (Ev.bind (and_w n0 n1 hL hA hB) (Ev.bind (and_w n0 n1 hL hA hC) (Ev.bind (xor_w n0 n1 hL (Nat.and_lt_two_pow _ hB) (Nat.and_lt_two_pow _ hC)) (Ev.bind (and_w n0 n1 hL hB hA) ?_)))))))
          refine Ev.bind alive_spec ?_
          have e1 : B ^^^ A = A ^^^ B := Nat.xor_comm _ _
          have e2 : A ^^^ B ^^^ C = A ^^^ (B ^^^ C) := Nat.xor_assoc _ _ _
          have e3 : A &&& (B ^^^ C) = (A &&& B) ^^^ (A &&& C) := Nat.and_xor_distrib_left
          have e4 : B &&& A = A &&& B := Nat.and_comm _ _
          dsimp only
          rw [e1, e2, e3, e4]
          refine Ev.congr (fun k => (if_pos (by first | rfl | trivial)).trans ((if_pos (by first | rfl | trivial)).trans ((if_pos (by first | rfl | trivial)).trans ((if_pos (by first | rfl | trivial)).trans ((if_pos (by first | rfl | trivial)).trans ((if_pos (by first | rfl | trivial)).trans ((if_pos (by first | rfl | trivial)).trans ((if_pos (by first | rfl | trivial)).trans (if_pos (by first | rfl | trivial)))))))))) ?_
          refine Ev.bind (same_self _ (hl _)) (Ev.congr (fun k => if_pos (by first | rfl | trivial)) ?_)
          refine Ev.bind (same_self _ (hl _)) (Ev.congr (fun k => if_pos (by first | rfl | trivial)) ?_)
          refine Ev.bind (same_self _ (hl _)) (Ev.congr (fun k => if_pos (by first | rfl | trivial)) ?_)
          exact Ev.bind (same_self _ (hl _)) (Ev.now _)
        · exact Ev.bind (xor_size hb hc h.2 h2 hne2) (Ev.congr (fun k => if_pos (by first | rfl | trivial)) (part _ _ _ _))
      · exact Ev.bind (xor_arg hb hc (by omega) (by omega) fun g => h2 g.2) (Ev.congr (fun k => if_pos (by first | rfl | trivial)) (part _ _ _ _))
    · have hx := xor_size ha hb h.1 h.2 hne
      obtain ⟨y, hy⟩ := xor_any hb hc (by omega) (by omega) m o
      exact Ev.bind hx (Ev.bind hy (Ev.congr (fun k => if_neg (by decide)) (bad _ [] _ _ (by decide))))
  · have hx := xor_arg ha hb (by omega) (by omega) h
    obtain ⟨y, hy⟩ := xor_any hb hc (by omega) (by omega) m o
    exact Ev.bind hx (Ev.bind hy (Ev.congr (fun k => if_neg (by decide)) (bad _ [] _ _ (by decide))))

end Go.Proofs.Ytfdcjkhckjnaeaa.Pure
