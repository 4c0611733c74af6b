/- What Places, First, Count, Get and their printed references of layer 1 tell, of rows as numbers. -/
import Derived.Test.YtfcedhejbnoinaaDoorPEx1
import Derived.Test.YtfcedhejbnoinaaDoorPureQPERef
import Derived.Test.YtfcedhejbnoinaaDoorVPlc
import Derived.Test.YtfcedhejbnoinaaDoorVPop
namespace Go.Proofs.YtfcedhejbnoinaaDoor.PureBit
open Go Go.RowKit Go.Proofs.YtfcedhejbnoinaaDoor.PE Go.Proofs.YtfcedhejbnoinaaDoorW.PrintWords Go.Proofs.YtfcedhejbnoinaaDoorW.PrintLast Go.Proofs.YtfcedhejbnoinaaDoorW.PrintMore Go.Proofs.YtfcedhejbnoinaaDoor.Row Go.Proofs.YtfcedhejbnoinaaDoor.Bits Go.Proofs.YtfcedhejbnoinaaDoor.Pop

theorem length_plc (v n : Nat) : (plc v n).length = cnt n v := by
  induction n with
  | zero => rfl
  | succ n ih =>
    rw [plc_succ, cnt_snoc, List.length_append, ih]
    congr 1
    split <;> rfl

theorem fit_ok {ws : List Int} (hok : Ok ws) (hl : ws.length ≤ 8) : wordsFit ws = true := by
  unfold wordsFit
  rw [Bool.and_eq_true, decide_eq_true_eq, List.all_eq_true]
  exact ⟨hl, fun x hx => decide_eq_true (hok x hx)⟩

theorem wf_rt {n : Int} {ws : List Int} (hok : Ok ws) (h : Rt n ws) : wordsFrom ws ws.length 0 = plc (val ws) n.toNat :=
  wordsFrom_plc hok h.2.2.2 (by have := h.2.2.1; have := h.1; omega)

theorem places_ok {n : Int} {ws : List Int} (hok : Ok ws) (h : Rt n ws) : bitrow_Places.f n ws = some (plc (val ws) n.toNat, 0) := by
  have hl := rt_len h
  obtain ⟨b, hb, hb'⟩ := right_spec (n := n) hok (by omega)
  obtain rfl : b = true := hb'.2 h
  unfold bitrow_Places.f
  rw [hb, Option.bind_some, if_pos rfl, if_pos (fit_ok hok hl), wf_rt hok h]

theorem places_arg {n : Int} {ws : List Int} (hok : Ok ws) (hl : ws.length ≤ 9223372036854775807) (h : ¬ Rt n ws) : bitrow_Places.f n ws = some ([], 1) := by
  obtain ⟨b, hb, hb'⟩ := right_spec (n := n) hok hl
  have : b = false := by cases b with | false => rfl | true => exact absurd (hb'.1 rfl) h
  subst this
  unfold bitrow_Places.f
  rw [hb]; rfl

end Go.Proofs.YtfcedhejbnoinaaDoor.PureBit
