/- The printed law BitrowTells answers true, whatever its arguments are: plain Lean, no program in sight. -/
import Derived.Test.YtfcedhejbnoinaaDoorPAx3
import Derived.Test.YtfcedhejbnoinaaDoorVOpens
import Derived.Test.YtfcedhejbnoinaaDoorPAxO
import Derived.Test.YtfcedhejbnoinaaDoorPureTell
namespace Go.Proofs.YtfcedhejbnoinaaDoor.Pure
open Go.RowKit Go.Proofs.YtfcedhejbnoinaaDoor.PA Go.Proofs.YtfcedhejbnoinaaDoorW.PrintWords Go.Proofs.YtfcedhejbnoinaaDoorW.PrintLast Go.Proofs.YtfcedhejbnoinaaDoor Go.Proofs.YtfcedhejbnoinaaDoor.PureBit Go.Proofs.YtfcedhejbnoinaaDoor.Row Go.Proofs.YtfcedhejbnoinaaDoor.Bits Go.Proofs.YtfcedhejbnoinaaDoor.Pop

theorem BitrowTells_bit {n i : Int} {a : List Int} (ha : Ok a) (h : Rt n a) {b c : Int} (hg : bitrow_Get.f n a i = some (b, c)) : Ev (fun k => downpourlaw01_BitrowTells.j1 k i b c false n a) true := by
  refine up ?_
  simp only [downpourlaw01_BitrowTells.j1]
  refine Ev.congr (fun k => if_neg (by decide)) ?_
  by_cases hi : 0 ≤ i ∧ i < n
  · obtain ⟨j, rfl⟩ : ∃ j : Nat, i = (j : Int) := ⟨i.toNat, by omega⟩
    have e := hg.symm.trans (get_ok ha h hi.2)
    obtain ⟨rfl, rfl⟩ := Prod.mk.inj (Option.some.inj e)
    have hb := bit_spec ha n j (by have := h.2.2.1; omega) (by have := rt_len h; omega) (by have := h.2.1; omega)
    refine Ev.congr (fun k => (if_neg (by omega)).trans ((if_neg (by omega)).trans ((if_pos (by first | rfl | trivial)).trans (bind_of hb)))) ?_
    rw [beq_self_eq_true]
    exact Ev.now _
  · have e := hg.symm.trans (get_range ha h hi)
    obtain ⟨rfl, rfl⟩ := Prod.mk.inj (Option.some.inj e)
    by_cases h0 : i < 0
    · exact Ev.congr (fun k => (if_pos h0).trans (if_pos (by first | rfl | trivial))) (Ev.now _)
    · exact Ev.congr (fun k => (if_neg h0).trans ((if_pos (by omega)).trans (if_pos (by first | rfl | trivial)))) (Ev.now _)

theorem BitrowTells (x0 : S25) (_q0 : Q25 x0)  (x1 : Int) (_q1 : (Lit.int .i64 x1).wf = true) : ∃ k, downpourlaw01_BitrowTells.f k x0.f0 x0.f1 x1 = some true := by
  obtain ⟨n, a0⟩ := x0
  obtain ⟨hn, _, ha0⟩ := _q0
  have ha : Ok (a0.take 10) := ok_take (ok_of ha0) 10
  have hla : (a0.take 10).length ≤ 10 := by rw [List.length_take]; omega
  show ∃ k, downpourlaw01_BitrowTells.f k n a0 x1 = some true
  unfold downpourlaw01_BitrowTells.f
  refine (Ev.bind (Ev.congr (fun _ => few_spec n a0) (Ev.now _)) ?_).rounds
  dsimp only
  generalize a0.take 10 = a at *
  obtain ⟨r, hr, hr'⟩ := refRight_spec ha (by omega) hn
  by_cases h : Rt n a
  · obtain rfl : r = true := hr'.2 h
    obtain ⟨gb, hgb⟩ : ∃ gb, bitrow_Get.f n a x1 = some gb := by
      by_cases hi : 0 ≤ x1 ∧ x1 < n
      · obtain ⟨j, rfl⟩ : ∃ j : Nat, x1 = (j : Int) := ⟨x1.toNat, by omega⟩
        exact ⟨_, get_ok ha h hi.2⟩
      · exact ⟨_, get_range ha h hi⟩
    obtain ⟨b, c⟩ := gb
    have hlen := length_plc (val a) n.toNat
    have hle := cnt_le n.toNat (val a)
    have hnn := h.2.1
    refine Ev.bind (Ev.congr (fun _ => places_ok ha h) (Ev.now _)) (Ev.bind (Ev.congr (fun _ => first_ok ha h) (Ev.now _)) (Ev.bind (count_ok ha h) (Ev.bind (Ev.congr (fun _ => hgb) (Ev.now _)) (Ev.bind hr ?_))))
    dsimp only
    have e1 : (((cnt n.toNat (val a) : Nat) : Int)) = ((plc (val a) n.toNat).length : Int) := by rw [hlen]
    refine Ev.congr (fun k => if_pos (by first | rfl | trivial)) (Ev.bind (refPlaces_spec ha h) (Ev.congr (fun k => (if_pos (by first | rfl | trivial)).trans (if_pos (by first | rfl | trivial))) (Ev.bind (refNumbers_spec (a := plc (val a) n.toNat) (b := plc (val a) n.toNat) (by omega)) ?_)))
    rw [decide_eq_true rfl]
    refine Ev.congr (fun k => (if_pos (by first | rfl | trivial)).trans (if_pos e1)) (Ev.bind alive_spec (up ?_))
    simp only [downpourlaw01_BitrowTells.j0]
    refine Ev.congr (fun k => if_neg (by decide)) ?_
    have hb := BitrowTells_bit ha h hgb
    cases hp : plc (val a) n.toNat with
    | nil => exact Ev.congr (fun k => (if_pos (by first | rfl | trivial)).trans ((if_pos (by first | rfl | trivial)).trans (if_pos (by first | rfl | trivial)))) hb
    | cons z t =>
      have e2 : ((z != rd (z :: t) 0) : Bool) = false := by
        have : rd (z :: t) 0 = z := rfl
        rw [this]; simp
      have c1 : ¬ (((z :: t).length : Int) = 0) := by simp only [List.length_cons]; omega
      have c2 : (0 : Int) < ((z :: t).length : Int) := by simp only [List.length_cons]; omega
      dsimp only
      rw [e2]
      exact Ev.congr (fun k => (if_neg c1).trans ((if_pos (by first | rfl | trivial)).trans (if_pos c2))) hb
  · have hrf : r = false := by cases r with | false => rfl | true => exact absurd (hr'.1 rfl) h
    subst hrf
    refine Ev.bind (Ev.congr (fun _ => places_arg ha (by omega) h) (Ev.now _)) (Ev.bind (Ev.congr (fun _ => first_arg ha (by omega) h) (Ev.now _)) (Ev.bind (count_arg ha (by omega) h) (Ev.bind (Ev.congr (fun _ => get_arg ha (by omega) h x1) (Ev.now _)) (Ev.bind hr ?_))))
    dsimp only
    refine Ev.congr (fun k => if_neg (by decide)) (Ev.bind alive_spec ?_)
    exact Ev.congr (fun k => (if_pos (by first | rfl | trivial)).trans ((if_pos (by first | rfl | trivial)).trans ((if_pos (by first | rfl | trivial)).trans ((if_pos (by first | rfl | trivial)).trans ((if_pos (by first | rfl | trivial)).trans (if_pos (by first | rfl | trivial))))))) (by rw [show (wrap64 (wrap64 (0 + 0) + 0) == 0) = true by decide +kernel]; exact Ev.now _)

end Go.Proofs.YtfcedhejbnoinaaDoor.Pure
