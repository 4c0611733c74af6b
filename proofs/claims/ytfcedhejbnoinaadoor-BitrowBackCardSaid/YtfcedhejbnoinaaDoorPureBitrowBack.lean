/- The printed law BitrowBack answers true, whatever its arguments are: plain Lean, no program in sight. -/
import Derived.Test.YtfcedhejbnoinaaDoorPAx7
import Derived.Test.YtfcedhejbnoinaaDoorVOpens
import Derived.Test.YtfcedhejbnoinaaDoorPAxO
import Derived.Test.YtfcedhejbnoinaaDoorPureMake
import Derived.Test.YtfcedhejbnoinaaDoorPureTell
namespace Go.Proofs.YtfcedhejbnoinaaDoor.Pure
open Go.RowKit Go.Proofs.YtfcedhejbnoinaaDoor.PA Go.Proofs.YtfcedhejbnoinaaDoorW.PrintWords Go.Proofs.YtfcedhejbnoinaaDoorW.PrintLast Go.Proofs.YtfcedhejbnoinaaDoor Go.Proofs.YtfcedhejbnoinaaDoor.PureBit Go.Proofs.YtfcedhejbnoinaaDoor.Row Go.Proofs.YtfcedhejbnoinaaDoor.Bits Go.Proofs.YtfcedhejbnoinaaDoor.Pop

theorem right_true {n : Int} {ws : List Int} (hok : Ok ws) (h : Rt n ws) : bitrow_Right.f n ws = some true := by
  obtain ⟨b, hb, hb'⟩ := right_spec (n := n) hok (by have := rt_len h; omega)
  obtain rfl : b = true := hb'.2 h
  exact hb

theorem wrap_sum {a b c d : Nat} (h : a + b = c + 2 * d) (ha : a ≤ 1000) (hb : b ≤ 1000) : wrap64 ((a : Int) + (b : Int)) = wrap64 ((c : Int) + wrap64 (2 * (d : Int))) := by
  rw [wrap_in (i := 2 * (d : Int)) (by omega) (by omega)]
  congr 1; omega

theorem BitrowBack_tail {n m : Int} {a b : List Int} (ha : Ok a) (hb : Ok b) (h : Rt n a) (hlb : b.length ≤ 10) {x : Int × List Int × Int} (hx : Ev (fun k => bitrow_Xor.f k n a m b) x) :
    Ev (fun k => downpourlaw01_BitrowBack.j0 k x.2.2 false n a m b x.1 x.2.1) true := by
  have hempty := same_self 0 (a := []) (by decide)
  have hla := rt_len h
  refine up ?_
  simp only [downpourlaw01_BitrowBack.j0]
  refine Ev.congr (fun k => if_neg (by decide)) ?_
  by_cases hab : Rt m b
  · by_cases hne : n = m
    · subst hne
      obtain rfl := ev_unique hx (xor_ok ha hb h hab)
      dsimp only
      refine Ev.congr (fun k => if_pos (by first | rfl | trivial)) ?_
      have hl : a.length = b.length := by have := h.2.2.1; have := hab.2.2.1; omega
      have hL : (a.length : Int) = (n + 63) / 64 := h.2.2.1
      have hxlt : val a ^^^ val b < 2 ^ n.toNat := Nat.xor_lt_two_pow h.2.2.2 hab.2.2.2
      have hylt : val a &&& val b < 2 ^ n.toNat := Nat.and_lt_two_pow _ hab.2.2.2
      obtain ⟨ox, rx, vx⟩ := rt_words h.1 h.2.1 hL hxlt
      obtain ⟨oy, ry, vy⟩ := rt_words h.1 h.2.1 hL hylt
      have hback := xor_ok ox hb rx hab
      rw [vx, Nat.xor_assoc, Nat.xor_self, Nat.xor_zero, length_words, words_val ha] at hback
      have cx := count_ok ox rx
      have cy := count_ok oy ry
      rw [vx] at cx
      rw [vy] at cy
      have hsum := wrap_sum (cnt_two n.toNat (val a) (val b)) (Nat.le_trans (cnt_le _ _) (by have := h.2.1; omega)) (Nat.le_trans (cnt_le _ _) (by have := h.2.1; omega))
      refine Ev.bind (and_ok ha hb h hab) (Ev.bind hback (Ev.bind (count_ok ha h) (Ev.bind (count_ok hb hab) (Ev.bind cx (Ev.bind cy ?_)))))
      dsimp only
      refine Ev.congr (fun k => (if_pos (by first | rfl | trivial)).trans ((if_pos (by first | rfl | trivial)).trans ((if_pos (by first | rfl | trivial)).trans ((if_pos (by first | rfl | trivial)).trans ((if_pos (by first | rfl | trivial)).trans (if_pos (by first | rfl | trivial))))))) ?_
      refine Ev.bind (same_self n (a := a) (by omega)) (Ev.congr (fun k => (if_pos (by first | rfl | trivial)).trans (if_pos hsum)) ?_)
      rw [right_true ox rx, right_true oy ry]
      exact Ev.now _
    · obtain rfl := ev_unique hx (xor_size ha hb h hab hne)
      exact Ev.congr (fun k => if_neg (by decide)) (Ev.bind hempty (Ev.now _))
  · obtain rfl := ev_unique hx (xor_arg ha hb (by omega) (by omega) (fun g => hab g.2))
    exact Ev.congr (fun k => if_neg (by decide)) (Ev.bind hempty (Ev.now _))

theorem BitrowBack (x0 : S25) (_q0 : Q25 x0)  (x1 : S25) (_q1 : Q25 x1) : ∃ k, downpourlaw01_BitrowBack.f k x0.f0 x0.f1 x1.f0 x1.f1 = some true := by
  obtain ⟨n, a0⟩ := x0
  obtain ⟨m, b0⟩ := x1
  obtain ⟨hn, _, ha0⟩ := _q0
  obtain ⟨hm, _, hb0⟩ := _q1
  have ha : Ok (a0.take 10) := ok_take (ok_of ha0) 10
  have hb : Ok (b0.take 10) := ok_take (ok_of hb0) 10
  have hla : (a0.take 10).length ≤ 10 := by rw [List.length_take]; omega
  have hlb : (b0.take 10).length ≤ 10 := by rw [List.length_take]; omega
  show ∃ k, downpourlaw01_BitrowBack.f k n a0 m b0 = some true
  unfold downpourlaw01_BitrowBack.f
  refine (Ev.bind (Ev.congr (fun _ => few_spec n a0) (Ev.now _)) (Ev.bind (Ev.congr (fun _ => few_spec m b0) (Ev.now _)) ?_)).rounds
  dsimp only
  generalize a0.take 10 = a at *
  generalize b0.take 10 = b at *
  by_cases h : Rt n a
  · have hpl := length_plc (val a) n.toNat
    have hle := cnt_le n.toNat (val a)
    have hn0 := h.1
    have hnn := h.2.1
    refine Ev.bind (Ev.congr (fun _ => places_ok ha h) (Ev.now _)) (Ev.congr (fun k => if_pos (by first | rfl | trivial)) ?_)
    dsimp only
    have hall : ∀ z ∈ plc (val a) n.toNat, 0 ≤ z ∧ z < n := fun z hz => by
      obtain ⟨i, hi, _, rfl⟩ := (mem_plc _ _ _).1 hz
      omega
    obtain ⟨x, hx⟩ := xor_any ha hb (by omega) (by omega) n m
    rcases of_spec (n := n) (l := plc (val a) n.toNat) ⟨hn0, hnn⟩ (by omega) with ⟨_, ws, he, hok, hlen, hbit⟩ | ⟨hno, _⟩
    · have hws : ws = a := by
        refine val_inj hok ha (by have := h.2.2.1; omega) ?_
        apply Nat.eq_of_testBit_eq
        intro j
        rw [hbit]
        by_cases hj : (val a).testBit j = true
        · rw [hj, decide_eq_true_eq, nat_mem_plc]
          refine ⟨?_, hj⟩
          refine Nat.lt_of_not_le fun hle => ?_
          rw [Nat.testBit_lt_two_pow (Nat.lt_of_lt_of_le h.2.2.2 (Nat.pow_le_pow_right (by omega) hle))] at hj
          cases hj
        · rw [Bool.eq_false_iff.2 hj, decide_eq_false_iff_not, nat_mem_plc]
          exact fun g => hj g.2
      subst hws
      refine Ev.bind he (Ev.bind hx ?_)
      dsimp only
      refine Ev.congr (fun k => if_pos (by first | rfl | trivial)) (Ev.bind (same_self n (a := ws) (by omega)) (Ev.congr (fun k => if_pos (by first | rfl | trivial)) (Ev.bind alive_spec ?_)))
      exact BitrowBack_tail ha hb h hlb hx
    · exact absurd hall hno
  · refine Ev.bind (Ev.congr (fun _ => places_arg ha (by omega) h) (Ev.now _)) (Ev.congr (fun k => if_neg (by decide)) (Ev.bind alive_spec ?_))
    exact Ev.congr (fun k => if_pos (by first | rfl | trivial)) (Ev.now _)

end Go.Proofs.YtfcedhejbnoinaaDoor.Pure
