/- The printed law BlockOrder answers true, whatever its arguments are: plain Lean, no program in sight. -/
import Derived.Test.YtfcedhejbnoinaaDoorPEx4
import Derived.Test.YtfcedhejbnoinaaDoorVOpens
import Derived.Test.YtfcedhejbnoinaaDoorPExO
import Derived.Test.YtfcedhejbnoinaaDoorPureQPEByt
namespace Go.Proofs.YtfcedhejbnoinaaDoor.Pure
open Go.RowKit Go.Proofs.YtfcedhejbnoinaaDoor.PE Go.Proofs.YtfcedhejbnoinaaDoorW.PrintWords Go.Proofs.YtfcedhejbnoinaaDoorW.PrintLast Go.Proofs.YtfcedhejbnoinaaDoor Go.Proofs.YtfcedhejbnoinaaDoor.PureBit Go.Proofs.YtfcedhejbnoinaaDoor.Row Go.Proofs.YtfcedhejbnoinaaDoor.Bits

theorem empty_text : ((⟨#[]⟩ : ByteArray).toList == ([] : List UInt8)) = true := by decide +kernel

theorem pick_any {n m : Int} {l : List ByteArray} {ws : List Int} (hl : l.length < 1000000) (hok : Ok ws) (hlw : ws.length ≤ 10) (hb : BOk n l) :
    ∃ s, Ev (fun k => block_Pick.f k n l m ws) s ∧ (s.2 = 0 → Rt m ws ∧ m = (l.length : Int) ∧ s.1 = strOfNums (pk n.toNat l (plc (val ws) m.toNat))) ∧ (Rt m ws ∧ m = (l.length : Int) → s.2 = 0) := by
  by_cases h : Rt m ws ∧ m = (l.length : Int)
  · exact ⟨_, pick_ok hok h.1 hb h.2, fun _ => ⟨h.1, h.2, rfl⟩, fun _ => rfl⟩
  · exact ⟨_, pick_arg hl hok (by omega) hb h, fun e => absurd e (by decide), fun g => absurd g h⟩

theorem BlockOrder_j2 {x0 : Int} {p q b : ByteArray} {e1 e2 : Int} (h : e1 = 0 → (p.size : Int) = x0) : Ev (fun k => downpourlaw02_BlockOrder.j2 k x0 p e1 q b e2 true) true := by
  refine up ?_
  simp only [downpourlaw02_BlockOrder.j2]
  refine Ev.congr (fun k => if_pos (by first | rfl | trivial)) (Ev.bind alive02_spec (Ev.congr (fun k => if_pos (by first | rfl | trivial)) ?_))
  by_cases he : e1 = 0
  · refine Ev.congr (fun k => if_pos he) ?_
    rw [h he, beq_self_eq_true]
    exact Ev.now _
  · exact Ev.congr (fun k => if_neg he) (Ev.now _)

theorem BlockOrder_j1 {x0 n m : Int} {l : List ByteArray} {a b : List Int} (hl : l.length < 1000000) (hb : BOk x0 l) (oka : Ok a) (okb : Ok b) (la : a.length ≤ 10) (lb : b.length ≤ 10) :
    Ev (fun k => downpourlaw02_BlockOrder.j1 k x0 l n a m b) true := by
  refine up ?_
  simp only [downpourlaw02_BlockOrder.j1]
  obtain ⟨p, hp, hp1, hp2⟩ := pick_any (m := n) hl oka la hb
  obtain ⟨q, hq, hq1, hq2⟩ := pick_any (m := m) hl okb lb hb
  have h0 := hb.1
  have h1 := hb.2.1
  have hsz : p.2 = 0 → (p.1.size : Int) = x0 := fun e => by
    rw [(hp1 e).2.2, strOfNums_size, pk_len]
    omega
  by_cases hall : Rt n a ∧ Rt m b ∧ n = m
  · obtain ⟨hra, hrb, rfl⟩ := hall
    have hx := xor_ok oka okb hra hrb
    obtain ⟨okx, hrx, hvx⟩ := rt_words (L := a.length) (v := val a ^^^ val b) hra.1 hra.2.1 hra.2.2.1 (Nat.xor_lt_two_pow hra.2.2.2 hrb.2.2.2)
    have lx := rt_len hrx
    obtain ⟨s, hs, hs1, hs2⟩ := pick_any (m := n) hl okx (by omega) hb
    refine Ev.bind hx (Ev.bind hp (Ev.bind hq (Ev.bind hs (Ev.congr (fun k => if_pos (by first | rfl | trivial)) ?_))))
    by_cases hpe : p.2 = 0
    · refine Ev.congr (fun k => if_pos hpe) ?_
      obtain ⟨_, hn, hp3⟩ := hp1 hpe
      have hqe : q.2 = 0 := hq2 ⟨hrb, hn⟩
      have hse : s.2 = 0 := hs2 ⟨hrx, hn⟩
      have hq3 := (hq1 hqe).2.2
      have hs3 := (hs1 hse).2.2
      have e : (q.2 != 0) = false := by rw [hqe]; rfl
      rw [e]
      refine up ?_
      simp only [downpourlaw02_BlockOrder.j2]
      rw [hp3, hq3, hs3, hvx]
      refine Ev.congr (fun k => if_neg (by decide)) (Ev.bind (bxor_ok (by omega)) (Ev.bind alive02_spec (Ev.congr (fun k => (if_pos (by first | rfl | trivial)).trans ((if_pos hse).trans (if_pos (by first | rfl | trivial)))) ?_)))
      rw [beq_self_eq_true]
      exact Ev.now _
    · exact Ev.congr (fun k => if_neg hpe) (BlockOrder_j2 hsz)
  · obtain ⟨x, hx, hxe, okx, lx⟩ : ∃ x, Ev (fun k => bitrow_Xor.f k n a m b) x ∧ x.2.2 ≠ 0 ∧ Ok x.2.1 ∧ x.2.1.length ≤ 10 := by
      by_cases hr : Rt n a ∧ Rt m b
      · exact ⟨_, xor_size oka okb hr.1 hr.2 (fun e => hall ⟨hr.1, hr.2, e⟩), by decide, (fun w hw => by cases hw), by decide⟩
      · exact ⟨_, xor_arg oka okb (by omega) (by omega) hr, by decide, (fun w hw => by cases hw), by decide⟩
    obtain ⟨s, hs, _⟩ := pick_any (m := x.1) hl okx lx hb
    exact Ev.bind hx (Ev.bind hp (Ev.bind hq (Ev.bind hs (Ev.congr (fun k => if_neg hxe) (BlockOrder_j2 hsz)))))

theorem turn_at {by_ L : Int} (h0 : 0 < L) (h1 : L < 63) : 0 ≤ Int.tmod (wrap64 (Int.tmod by_ L + L)) L ∧ Int.tmod (wrap64 (Int.tmod by_ L + L)) L < L := by
  have a1 : -L < Int.tmod by_ L := by have := Int.lt_tmod_of_pos by_ h0; omega
  have a2 : Int.tmod by_ L < L := Int.tmod_lt_of_pos by_ h0
  have e : wrap64 (Int.tmod by_ L + L) = Int.tmod by_ L + L := wrap_in (by omega) (by omega)
  rw [e]
  have h2 : 0 ≤ Int.tmod by_ L + L := by omega
  exact ⟨Int.tmod_nonneg _ h2, Int.tmod_lt_of_pos _ h0⟩

theorem BlockOrder_j0 {x0 by_ n m : Int} {l : List ByteArray} {a b : List Int} {f : Bool} (hl : l.length < 1000000) (hb : BOk x0 l) (oka : Ok a) (okb : Ok b) (la : a.length ≤ 10) (lb : b.length ≤ 10) (hf : f = true → 0 < l.length ∧ l.length < 63) :
    Ev (fun k => downpourlaw02_BlockOrder.j0 k x0 l by_ (strOfNums (pk x0.toNat l ((List.range l.length).map fun (i : Nat) => (i : Int)))) f n a m b) true := by
  have hj1 := BlockOrder_j1 (n := n) (m := m) hl hb oka okb la lb
  refine up ?_
  simp only [downpourlaw02_BlockOrder.j0]
  cases f with
  | false => exact Ev.congr (fun k => if_neg (by decide)) hj1
  | true =>
    obtain ⟨h0, h1⟩ := hf rfl
    have hL0 : ((l.length : Nat) : Int) ≠ 0 := by omega
    obtain ⟨q0, q1⟩ := turn_at (by_ := by_) (L := (l.length : Int)) (by omega) (by omega)
    obtain ⟨c0, c1, c2, c3⟩ := bok_iff.1 hb
    generalize Int.tmod (wrap64 (Int.tmod by_ (l.length : Int) + (l.length : Int))) (l.length : Int) = at_ at q0 q1 ⊢
    have hbt : BOk x0 (l.drop at_.toNat ++ l.take at_.toNat) := bok_iff.2 ⟨c0, c1, by rw [List.length_append, List.length_drop, List.length_take]; omega, fun s hs => by
      rcases List.mem_append.1 hs with h | h
      · exact c3 s (List.mem_of_mem_drop h)
      · exact c3 s (List.mem_of_mem_take h)⟩
    have hbi : rdOf ByteArray.empty l at_ ∈ l := by
      have := blk_mem l at_.toNat (by omega)
      unfold blk at this
      rwa [show ((at_.toNat : Nat) : Int) = at_ by omega] at this
    have hbw : BOk x0 ([rdOf ByteArray.empty l at_, rdOf ByteArray.empty l at_] ++ l) := bok_iff.2 ⟨c0, c1, by rw [List.length_append]; show 2 + l.length ≤ 64; omega, fun s hs => by
      rcases List.mem_append.1 hs with h | h
      · rcases List.mem_cons.1 h with rfl | h
        · exact c3 _ hbi
        · rcases List.mem_cons.1 h with rfl | h
          · exact c3 _ hbi
          · cases h
      · exact c3 s h⟩
    have et := pk_all (l := l.drop at_.toNat ++ l.take at_.toNat) (m := l) x0.toNat (fun j => axor_turn l at_.toNat j)
    have ew := pk_all (l := [rdOf ByteArray.empty l at_, rdOf ByteArray.empty l at_] ++ l) (m := l) x0.toNat (fun j => axor_twice _ l j)
    have st := sum_ok hbt
    have sw := sum_ok hbw
    rw [et] at st
    rw [ew] at sw
    refine Ev.congr (fun k => (if_pos (by first | rfl | trivial)).trans (if_neg hL0)) ?_
    simp only [Option.bind_some, List.nil_append]
    refine Ev.congr (fun k => (if_pos q0).trans ((if_pos (Int.le_of_lt q1)).trans ((if_pos (by rw [List.length_nil, List.length_drop]; omega)).trans (if_pos (by rw [List.length_drop, List.length_take]; omega))))) ?_
    refine Ev.bind st (Ev.congr (fun k => (if_pos q1).trans (if_pos (by show 2 + l.length < 8796093022208; omega))) (Ev.bind sw ?_))
    exact Ev.congr (fun k => (if_pos (by first | rfl | trivial)).trans ((if_pos (by first | rfl | trivial)).trans ((if_pos (by first | rfl | trivial)).trans (if_pos (by first | rfl | trivial))))) hj1

theorem BlockOrder (x0 : Int) (_q0 : (Lit.int .i64 x0).wf = true)  (x1 : List ByteArray) (_q1 : (x1.length ≤ maxLen ∧ ∀ z0, z0 ∈ x1 → z0.size ≤ maxLen))  (x2 : S25) (_q2 : Q25 x2)  (x3 : S25) (_q3 : Q25 x3)  (x4 : Int) (_q4 : (Lit.int .i64 x4).wf = true) : ∃ k, downpourlaw02_BlockOrder.f k x0 x1 x2.f0 x2.f1 x3.f0 x3.f1 x4 = some true := by
  obtain ⟨n, a0⟩ := x2
  obtain ⟨m, b0⟩ := x3
  obtain ⟨_, _, ha0⟩ := _q2
  obtain ⟨_, _, hb0⟩ := _q3
  obtain ⟨l, hfl, hll⟩ := few02_spec x1
  have hl : l.length < 1000000 := by omega
  obtain ⟨h0, h1, h2⟩ := mn_le (a0.length : Int) 10 (by omega) (by omega)
  obtain ⟨g0, g1, g2⟩ := mn_le (b0.length : Int) 10 (by omega) (by omega)
  have oka : Ok (a0.take (mn (a0.length : Int) 10).toNat) := ok_take (ok_of ha0) _
  have okb : Ok (b0.take (mn (b0.length : Int) 10).toNat) := ok_take (ok_of hb0) _
  have la : (a0.take (mn (a0.length : Int) 10).toNat).length ≤ 10 := by rw [List.length_take]; omega
  have lb : (b0.take (mn (b0.length : Int) 10).toNat).length ≤ 10 := by rw [List.length_take]; omega
  show ∃ k, downpourlaw02_BlockOrder.f k x0 x1 n a0 m b0 x4 = some true
  unfold downpourlaw02_BlockOrder.f
  generalize mn (a0.length : Int) 10 = qa at h0 h1 h2 oka la ⊢
  generalize mn (b0.length : Int) 10 = qb at g0 g1 g2 okb lb ⊢
  generalize a0.take qa.toNat = a at oka la ⊢
  generalize b0.take qb.toNat = b at okb lb ⊢
  refine (Ev.bind hfl (Ev.congr (fun k => (if_pos h0).trans ((if_pos h1).trans ((if_pos g0).trans (if_pos g1)))) ?_)).rounds
  by_cases hb : BOk x0 l
  · refine Ev.bind (sum_ok hb) (Ev.congr (fun k => if_pos (by first | rfl | trivial)) ?_)
    by_cases hp : (l.length : Int) > 0
    · refine Ev.congr (fun k => if_pos hp) (BlockOrder_j0 hl hb oka okb la lb fun e => ⟨by omega, ?_⟩)
      have := of_decide_eq_true e
      omega
    · exact Ev.congr (fun k => if_neg hp) (BlockOrder_j0 hl hb oka okb la lb fun e => absurd e (by decide))
  · refine Ev.bind (sum_bad hl hb) (Ev.congr (fun k => if_neg (by decide)) (Ev.bind alive02_spec (Ev.congr (fun k => if_pos (by first | rfl | trivial)) ?_)))
    dsimp only
    rw [empty_text]
    exact Ev.now _

end Go.Proofs.YtfcedhejbnoinaaDoor.Pure
