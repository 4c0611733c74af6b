/- What Of, New, Like and their printed references of layer 1 tell, of rows as numbers. -/
import Derived.Test.YtfcedhejbnoinaaDoorPKx3
import Derived.Test.YtfcedhejbnoinaaDoorPureQPKRef
namespace Go.Proofs.YtfcedhejbnoinaaDoor.PureBit
open Go Go.RowKit Go.Proofs.YtfcedhejbnoinaaDoor.PK Go.Proofs.YtfcedhejbnoinaaDoorW.PrintWords Go.Proofs.YtfcedhejbnoinaaDoorW.PrintLast Go.Proofs.YtfcedhejbnoinaaDoorW.PrintMore Go.Proofs.YtfcedhejbnoinaaDoor.Row

theorem ok_replicate (k : Nat) : Ok (List.replicate k 0) := fun w hw => by rw [List.eq_of_mem_replicate hw]; omega

theorem val_replicate (k : Nat) : val (List.replicate k 0) = 0 := by
  induction k with
  | zero => rfl
  | succ k ih => rw [List.replicate_succ]; unfold val; rw [ih]; rfl

theorem ok_set_or {ws : List Int} (h : Ok ws) (j b : Nat) (_hj : j < ws.length) (hb : b < 64) : Ok (ws.set j (((ws.getD j 0).toNat ||| 2 ^ b : Nat) : Int)) := by
  intro u hu
  rcases List.mem_or_eq_of_mem_set hu with hu | rfl
  · exact h u hu
  · have h1 : (ws.getD j 0).toNat < 2 ^ 64 := by have := h.getD j; omega
    have h2 : 2 ^ b < 2 ^ 64 := Nat.pow_lt_pow_right (by omega) hb
    have := Nat.or_lt_two_pow h1 h2
    omega

theorem shl_one {b : Nat} (hb : b < 64) : shl .u64 1 (b : Int) = ((2 ^ b : Nat) : Int) := by
  unfold shl
  have e : min ((b : Nat) : Int).toNat IntKind.u64.bits = b := by
    have : IntKind.u64.bits = 64 := rfl
    rw [this, Int.toNat_natCast]; omega
  have h2 : 2 ^ b < 2 ^ 64 := Nat.pow_lt_pow_right (by omega) hb
  rw [e, Int.one_mul]
  have e2 : (2 : Int) ^ b = ((2 ^ b : Nat) : Int) := by norm_cast
  rw [e2]
  exact wraps_u64 _ (Int.natCast_nonneg _) (by exact_mod_cast h2)

theorem or_bit {x : Int} (hx : 0 ≤ x ∧ x < 18446744073709551616) {b : Nat} (hb : b < 64) : Go.bits .or .u64 x (shl .u64 1 (b : Int)) = ((x.toNat ||| 2 ^ b : Nat) : Int) := by
  have h2 : 2 ^ b < 2 ^ 64 := Nat.pow_lt_pow_right (by omega) hb
  have h3 : ∀ q : Nat, q < 2 ^ 64 → (q : Int) < 18446744073709551616 := fun q hq => by omega
  rw [shl_one hb, bits_or' hx ⟨Int.natCast_nonneg _, h3 _ h2⟩, Int.toNat_natCast]

theorem getD_mem {l : List Int} {i : Nat} (hi : i < l.length) : l.getD i 0 ∈ l := by
  rw [List.getD_eq_getElem?_getD, List.getElem?_eq_getElem hi]; exact List.getElem_mem hi

theorem take_succ_mem {l : List Int} {i : Nat} (hi : i < l.length) (z : Int) : z ∈ l.take (i + 1) ↔ z ∈ l.take i ∨ z = l.getD i 0 := by
  rw [List.take_succ_eq_append_getElem hi, List.getD_eq_getElem?_getD, List.getElem?_eq_getElem hi, List.mem_append, List.mem_singleton]
  rfl

theorem of_loop {n : Int} {l : List Int} (h0 : 0 ≤ n) (h1 : n ≤ 512) (hl : l.length < 1000000) (d : Nat) : ∀ (i : Nat) (ws : List Int), i + d = l.length → Ok ws → (ws.length : Int) = (n + 63) / 64 →
    (∀ z ∈ l.take i, 0 ≤ z ∧ z < n) → (∀ j, (val ws).testBit j = decide ((j : Int) ∈ l.take i)) →
    ((∀ z ∈ l, 0 ≤ z ∧ z < n) ∧ ∃ ws', Ev (fun k => bitrow_Of.l0 k n l (l.length : Int) (i : Int) n ws) (n, ws', 0) ∧ Ok ws' ∧ (ws'.length : Int) = (n + 63) / 64 ∧ ∀ j, (val ws').testBit j = decide ((j : Int) ∈ l)) ∨
    ((¬ ∀ z ∈ l, 0 ≤ z ∧ z < n) ∧ Ev (fun k => bitrow_Of.l0 k n l (l.length : Int) (i : Int) n ws) (0, [], 3)) := by
  induction d with
  | zero =>
    intro i ws hd hok hlen hr hb
    have e : l.take i = l := List.take_of_length_le (by omega)
    rw [e] at hr hb
    refine .inl ⟨hr, ws, up ?_, hok, hlen, hb⟩
    simp only [bitrow_Of.l0]
    exact Ev.congr (fun k => if_neg (by omega)) (Ev.now _)
  | succ d ih =>
    intro i ws hd hok hlen hr hb
    have hi : i < l.length := by omega
    have hm := getD_mem hi
    have hrd : rd l (i : Int) = l.getD i 0 := by rw [rd_eq, Int.toNat_natCast]
    by_cases hz : 0 ≤ l.getD i 0 ∧ l.getD i 0 < n
    · obtain ⟨b, hbz⟩ : ∃ b : Nat, l.getD i 0 = (b : Int) := ⟨(l.getD i 0).toNat, by omega⟩
      rw [hbz] at hz hrd
      have ed : wrap64 (Int.tdiv (b : Int) 64) = ((b / 64 : Nat) : Int) := by rw [Int.tdiv_eq_ediv_of_nonneg (by omega), wrap_in (by omega) (by omega)]; norm_cast
      have em : Int.tmod (b : Int) 64 = ((b % 64 : Nat) : Int) := by rw [Int.tmod_eq_emod_of_nonneg (by omega)]; norm_cast
      have hj : b / 64 < ws.length := by omega
      have hb64 : b % 64 < 64 := Nat.mod_lt _ (by decide)
      have c0 : (0 : Int) ≤ (i : Int) := Int.natCast_nonneg _
      have c1 : (i : Int) < (l.length : Int) := Int.ofNat_lt.2 hi
      have c2 : ¬ ((b : Int) < 0) := by omega
      have c3 : ¬ ((b : Int) ≥ n) := by omega
      have c4 : (0 : Int) ≤ ((b / 64 : Nat) : Int) := Int.natCast_nonneg _
      have c5 : ((b / 64 : Nat) : Int) < (ws.length : Int) := Int.ofNat_lt.2 hj
      have c6 : (0 : Int) ≤ ((b % 64 : Nat) : Int) := Int.natCast_nonneg _
      have ew : wrap64 ((i : Int) + 1) = ((i + 1 : Nat) : Int) := wrap_lt (by omega) (by omega)
      have hor := or_bit (hok.getD (b / 64)) hb64
      have hset := val_set_or hok (b / 64) (b % 64) hj hb64
      have hoks := ok_set_or hok (b / 64) (b % 64) hj hb64
      have e3 : 64 * (b / 64) + b % 64 = b := Nat.div_add_mod b 64
      rw [e3] at hset
      have hrw : rd ws ((b / 64 : Nat) : Int) = ws.getD (b / 64) 0 := by rw [rd_eq, Int.toNat_natCast]
      have key := ih (i + 1) (ws.set (b / 64) (((ws.getD (b / 64) 0).toNat ||| 2 ^ (b % 64) : Nat) : Int)) (by omega) hoks (by rw [List.length_set]; exact hlen)
        (fun z hzm => by
          rcases (take_succ_mem hi z).1 hzm with hzm | rfl
          · exact hr z hzm
          · rw [hbz]; exact hz)
        (fun j => by
          rw [hset, Nat.testBit_or, hb j, Nat.testBit_two_pow, ← Bool.decide_or, decide_eq_decide, take_succ_mem hi, hbz]
          constructor
          · rintro (h | h)
            · exact .inl h
            · exact .inr (by omega)
          · rintro (h | h)
            · exact .inl h
            · exact .inr (by omega))
      have hstep : ∀ k, bitrow_Of.l0 (k + 1) n l (l.length : Int) (i : Int) n ws = bitrow_Of.l0 k n l (l.length : Int) ((i + 1 : Nat) : Int) n (ws.set (b / 64) (((ws.getD (b / 64) 0).toNat ||| 2 ^ (b % 64) : Nat) : Int)) := fun k => by
        simp only [bitrow_Of.l0]
        rw [hrd, ed, em, hrw, hor, ew, Int.toNat_natCast]
        exact (if_pos c1).trans ((if_pos c0).trans ((if_pos c1).trans ((if_neg c2).trans ((if_neg c3).trans ((if_pos c4).trans ((if_pos c5).trans (if_pos c6)))))))
      rcases key with ⟨ha, ws', he, hk⟩ | ⟨ha, he⟩
      · exact .inl ⟨ha, ws', Ev.step hstep he, hk⟩
      · exact .inr ⟨ha, Ev.step hstep he⟩
    · refine .inr ⟨fun g => hz (g _ hm), up ?_⟩
      simp only [bitrow_Of.l0]
      rw [hrd]
      refine Ev.congr (fun k => (if_pos (by omega)).trans ((if_pos (by omega)).trans (if_pos (by omega)))) ?_
      by_cases hn : l.getD i 0 < 0
      · exact Ev.congr (fun k => if_pos hn) (Ev.now _)
      · exact Ev.congr (fun k => (if_neg hn).trans (if_pos (by omega))) (Ev.now _)

theorem of_size {n : Int} {l : List Int} (h : ¬ (0 ≤ n ∧ n ≤ 512)) : Ev (fun k => bitrow_Of.f k n l) (0, [], 2) := by
  unfold bitrow_Of.f
  rw [sized_spec, decide_eq_false h]
  exact Ev.now _

theorem of_spec {n : Int} {l : List Int} (h : 0 ≤ n ∧ n ≤ 512) (hl : l.length < 1000000) :
    ((∀ z ∈ l, 0 ≤ z ∧ z < n) ∧ ∃ ws', Ev (fun k => bitrow_Of.f k n l) (n, ws', 0) ∧ Ok ws' ∧ (ws'.length : Int) = (n + 63) / 64 ∧ ∀ j, (val ws').testBit j = decide ((j : Int) ∈ l)) ∨
    ((¬ ∀ z ∈ l, 0 ≤ z ∧ z < n) ∧ Ev (fun k => bitrow_Of.f k n l) (0, [], 3)) := by
  unfold bitrow_Of.f
  rw [sized_spec, decide_eq_true h, fresh_spec h.1 h.2]
  exact of_loop h.1 h.2 hl l.length 0 (List.replicate ((n + 63) / 64).toNat 0) (by omega) (ok_replicate _) (by rw [List.length_replicate]; omega) (fun z hz => by simp at hz) (fun j => by rw [val_replicate]; simp)

end Go.Proofs.YtfcedhejbnoinaaDoor.PureBit
