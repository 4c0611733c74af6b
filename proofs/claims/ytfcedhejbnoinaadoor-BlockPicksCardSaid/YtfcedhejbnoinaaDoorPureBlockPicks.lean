/- The printed law BlockPicks answers true, whatever its arguments are: plain Lean, no program in sight. -/
import Derived.Test.YtfcedhejbnoinaaDoorPBx4
import Derived.Test.YtfcedhejbnoinaaDoorVOpens
import Derived.Test.YtfcedhejbnoinaaDoorPBxO
import Derived.Test.YtfcedhejbnoinaaDoorPureQPBBlk
namespace Go.Proofs.YtfcedhejbnoinaaDoor.Pure
open Go.RowKit Go.Proofs.YtfcedhejbnoinaaDoor.PB Go.Proofs.YtfcedhejbnoinaaDoorW.PrintWords Go.Proofs.YtfcedhejbnoinaaDoorW.PrintLast Go.Proofs.YtfcedhejbnoinaaDoor Go.Proofs.YtfcedhejbnoinaaDoor.PureBit Go.Proofs.YtfcedhejbnoinaaDoor.Row Go.Proofs.YtfcedhejbnoinaaDoor.Bits

theorem empty_text : ((⟨#[]⟩ : ByteArray).toList == ([] : List UInt8)) = true := by decide +kernel

theorem BlockPicks (x0 : Int) (_q0 : (Lit.int .i64 x0).wf = true)  (x1 : List ByteArray) (_q1 : (x1.length ≤ maxLen ∧ ∀ z0, z0 ∈ x1 → z0.size ≤ maxLen))  (x2 : S25) (_q2 : Q25 x2) : ∃ k, downpourlaw02_BlockPicks.f k x0 x1 x2.f0 x2.f1 = some true := by
  obtain ⟨m, ws0⟩ := x2
  obtain ⟨hn, _, ha0⟩ := _q2
  obtain ⟨l, hfl, hll⟩ := few02_spec x1
  have hl : l.length < 1000000 := by omega
  obtain ⟨h0, h1, h2⟩ := mn_le (ws0.length : Int) 10 (by omega) (by omega)
  have ha : Ok (ws0.take (mn (ws0.length : Int) 10).toNat) := ok_take (ok_of ha0) _
  have hla : (ws0.take (mn (ws0.length : Int) 10).toNat).length ≤ 10 := by rw [List.length_take]; omega
  show ∃ k, downpourlaw02_BlockPicks.f k x0 x1 m ws0 = some true
  unfold downpourlaw02_BlockPicks.f
  generalize mn (ws0.length : Int) 10 = q at h0 h1 h2 ha hla ⊢
  generalize ws0.take q.toNat = ws at ha hla ⊢
  obtain ⟨w1, w2⟩ := why_spec (n := x0) hl
  refine (Ev.bind hfl (Ev.congr (fun k => (if_pos h0).trans (if_pos h1)) ?_)).rounds
  by_cases hb : BOk x0 l
  · obtain ⟨r, hr, hr'⟩ := refRight_spec ha (by omega) hn
    have yes : ¬ (Rt m ws ∧ m = (l.length : Int)) → Ev (fun k => downpourlaw02_BlockPicks.j0 k x0 l (⟨#[]⟩ : ByteArray) 1 true m ws) true := fun h => by
      refine up ?_
      simp only [downpourlaw02_BlockPicks.j0]
      refine Ev.congr (fun k => if_pos (by first | rfl | trivial)) (Ev.bind alive02_spec (Ev.congr (fun k => (if_pos (by first | rfl | trivial)).trans (if_pos (by first | rfl | trivial))) ?_))
      rw [empty_text]
      exact Ev.now _
    by_cases h : Rt m ws ∧ m = (l.length : Int)
    · obtain rfl : r = true := hr'.2 h.1
      refine Ev.bind (pick_ok ha h.1 hb h.2) (Ev.bind (w1 hb) (Ev.congr (fun k => if_pos (by first | rfl | trivial)) (Ev.bind hr (Ev.congr (fun k => if_pos (by first | rfl | trivial)) (up ?_)))))
      have e : (m != (l.length : Int)) = false := by rw [h.2]; simp
      have em : m.toNat = l.length := by omega
      have hrb := refBits_spec ha h.1
      rw [em] at hrb
      simp only [downpourlaw02_BlockPicks.j0]
      rw [e, em]
      refine Ev.congr (fun k => if_neg (by decide)) (Ev.bind alive02_spec (Ev.congr (fun k => (if_pos (by first | rfl | trivial)).trans (if_pos (by first | rfl | trivial))) (Ev.bind hrb (Ev.bind (refSum_spec hb _) ?_))))
      rw [beq_self_eq_true]
      exact Ev.now _
    · refine Ev.bind (pick_arg hl ha (by omega) hb h) (Ev.bind (w1 hb) (Ev.congr (fun k => if_pos (by first | rfl | trivial)) (Ev.bind hr ?_)))
      by_cases hrt : Rt m ws
      · obtain rfl : r = true := hr'.2 hrt
        have e : (m != (l.length : Int)) = true := by rw [bne_iff_ne]; exact fun g => h ⟨hrt, g⟩
        refine Ev.congr (fun k => if_pos (by first | rfl | trivial)) ?_
        rw [e]
        exact yes h
      · have hf : r = false := by cases r with | false => rfl | true => exact absurd (hr'.1 rfl) hrt
        subst hf
        exact Ev.congr (fun k => if_neg (by decide)) (yes h)
  · refine Ev.bind (pick_bad hl hb) (Ev.bind (w2 hb) (Ev.congr (fun k => if_neg (by decide)) (Ev.bind alive02_spec (Ev.congr (fun k => (if_pos (by first | rfl | trivial)).trans (if_pos (by first | rfl | trivial))) ?_))))
    dsimp only
    rw [empty_text]
    exact Ev.now _

end Go.Proofs.YtfcedhejbnoinaaDoor.Pure
