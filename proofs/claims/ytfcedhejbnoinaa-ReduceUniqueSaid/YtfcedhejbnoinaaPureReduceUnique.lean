/- The printed law ReduceUnique answers true, whatever its arguments are: plain Lean, no program in sight. -/
import Derived.Test.YtfcedhejbnoinaaPBx7
import Derived.Test.YtfcedhejbnoinaaVOpens
import Derived.Test.YtfcedhejbnoinaaPBxO
import Derived.Test.YtfcedhejbnoinaaPureQPBRed
namespace Go.Proofs.Ytfcedhejbnoinaa.Pure
open Go.RowKit Go.Proofs.Ytfcedhejbnoinaa.PB Go.Proofs.YtfcedhejbnoinaaW.PrintWords Go.Proofs.YtfcedhejbnoinaaW.PrintLast Go.Proofs.Ytfcedhejbnoinaa Go.Proofs.Ytfcedhejbnoinaa.PureBit Go.Proofs.Ytfcedhejbnoinaa.Row Go.Proofs.Ytfcedhejbnoinaa.Lin

theorem place_of (x : Int) {L : Nat} (h0 : 0 < L) (h1 : L ≤ 64) : ∃ a : Nat, a < L ∧ Int.tmod (wrap64 (Int.tmod x (L : Int) + (L : Int))) (L : Int) = (a : Int) := by
  have hlt : Int.tmod x (L : Int) < (L : Int) := Int.tmod_lt_of_pos x (by omega)
  have hgt : -(L : Int) < Int.tmod x (L : Int) := Int.lt_tmod_of_pos x (by omega)
  generalize Int.tmod x (L : Int) = y at hlt hgt
  have hw : wrap64 (y + (L : Int)) = y + (L : Int) := wrap_in (by omega) (by omega)
  rw [hw, Int.tmod_eq_emod_of_nonneg (by omega)]
  refine ⟨((y + (L : Int)) % (L : Int)).toNat, ?_, ?_⟩
  · have := Int.emod_lt_of_pos (y + (L : Int)) (show (0 : Int) < (L : Int) by omega)
    have := Int.emod_nonneg (y + (L : Int)) (show (L : Int) ≠ 0 by omega)
    omega
  · have := Int.emod_nonneg (y + (L : Int)) (show (L : Int) ≠ 0 by omega)
    omega
theorem turn_at {a L i : Nat} (ha : a < L) (h1 : L ≤ 64) (hi : i < L) : Int.tmod (wrap64 (wrap64 ((a : Int) + (L : Int)) - (i : Int))) (L : Int) = (((a + L - i) % L : Nat) : Int) := by
  rw [wrap_in (i := (a : Int) + (L : Int)) (by omega) (by omega), wrap_in (by omega) (by omega), Int.tmod_eq_emod_of_nonneg (by omega)]
  have : (a : Int) + (L : Int) - (i : Int) = ((a + L - i : Nat) : Int) := by omega
  rw [this]; norm_cast

theorem ReduceUnique (x0 : S24) (_q0 : Q24 x0)  (x1 : Int) (_q1 : (Lit.int .i64 x1).wf = true)  (x2 : Int) (_q2 : (Lit.int .i64 x2).wf = true) : ∃ k, downpourlaw04_ReduceUnique.f k x0.f0 x0.f1 x1 x2 = some true := by
  obtain ⟨n, a0⟩ := x0
  obtain ⟨_, _, ha0⟩ := _q0
  obtain ⟨m, hfa, hm⟩ := few_mat (n := n) (l := a0) fun x hx => ok_of (ha0 x hx).2.2
  show ∃ k, downpourlaw04_ReduceUnique.f k n a0 x1 x2 = some true
  unfold downpourlaw04_ReduceUnique.f
  by_cases h : MRt n m
  case neg =>
    refine Ev.rounds (Ev.bind hfa (Ev.bind (echelon_arg hm h) (Ev.congr (fun k => if_neg (by decide)) (up ?_))))
    simp only [downpourlaw04_ReduceUnique.j0]
    exact Ev.congr (fun k => if_pos (by first | rfl | trivial)) (Ev.bind alive04_spec (Ev.congr (fun k => (if_pos (by first | rfl | trivial)).trans (if_neg (by decide))) (Ev.now true)))
  obtain ⟨e, hlt⟩ := mrt_mrs (fun x hx => (hm.2 x hx).1) h
  obtain ⟨h0, h1, hl, _⟩ := h
  generalize vals m = vs at e hlt
  subst e
  have hl' : vs.length ≤ 64 := by rw [mrs_len] at hl; exact hl
  obtain ⟨red, hr, hle, he⟩ := echelon_ok h0 h1 hl' hlt
  have few : ∀ b : Bool, b = true → Ev (fun k => downpourlaw04_ReduceUnique.j0 k x1 x2 0 b n (mrs n vs) n (mrs n (rows red))) true := fun b hb => by
    subst hb
    refine up ?_
    simp only [downpourlaw04_ReduceUnique.j0]
    exact Ev.congr (fun k => if_pos (by first | rfl | trivial)) (Ev.bind alive04_spec (Ev.congr (fun k => (if_pos (by first | rfl | trivial)).trans (if_pos (by first | rfl | trivial))) (Ev.now true)))
  refine Ev.rounds (Ev.bind hfa (Ev.bind he (Ev.congr (fun k => if_pos rfl) ?_)))
  show Ev (fun k => if ((mrs n vs).length : Int) = 0 then downpourlaw04_ReduceUnique.j0 k x1 x2 0 true n (mrs n vs) n (mrs n (rows red)) else downpourlaw04_ReduceUnique.j0 k x1 x2 0 (decide (((mrs n vs).length : Int) ≥ 64)) n (mrs n vs) n (mrs n (rows red))) true
  by_cases hz : ((mrs n vs).length : Int) = 0
  · exact Ev.congr (fun k => if_pos hz) (few true rfl)
  refine Ev.congr (fun k => if_neg hz) ?_
  by_cases hbig : ((mrs n vs).length : Int) ≥ 64
  · exact few _ (decide_eq_true hbig)
  rw [decide_eq_false hbig]
  obtain ⟨L, hL⟩ : ∃ L, vs.length = L := ⟨_, rfl⟩
  rw [mrs_len, hL] at hz hbig
  have hL0 : 0 < L := by omega
  obtain ⟨a, ha, hA⟩ := place_of x1 hL0 (by omega)
  obtain ⟨b, hb, hB⟩ := place_of x2 hL0 (by omega)
  have ha' : a < vs.length := by omega
  have hb' : b < vs.length := by omega
  obtain ⟨us, hus⟩ : ∃ us : Nat → List Nat, us = fun i => (vs.getD a 0 ^^^ vs.getD b 0) :: (List.range i).map fun t => vs.getD ((a + L - t) % L) 0 := ⟨_, rfl⟩
  have hmod : ∀ t, (a + L - t) % L < vs.length := fun t => by rw [hL]; exact Nat.mod_lt _ hL0
  have husl : ∀ i, (us i).length = i + 1 := fun i => by rw [hus]; simp
  have hult : Lt n (us L) := Lt.of_mem fun v hv => by
    rw [hus] at hv
    rcases List.mem_cons.1 hv with rfl | hv
    · exact Nat.xor_lt_two_pow (hlt a ha') (hlt b hb')
    · obtain ⟨t, _, rfl⟩ := List.mem_map.1 hv
      exact hlt _ (hmod t)
  have hmem : ∀ j, j < vs.length → vs.getD j 0 ∈ vs := fun j hj => mem_getD.2 ⟨j, hj, rfl⟩
  have hspan : ∀ w, Sp (us L) w ↔ Sp vs w := fun w => by
    constructor
    · refine Sp.mono fun v hv => ?_
      rw [hus] at hv
      rcases List.mem_cons.1 hv with rfl | hv
      · exact (Sp.of_mem (hmem a ha')).xor (.of_mem (hmem b hb'))
      · obtain ⟨t, _, rfl⟩ := List.mem_map.1 hv
        exact .of_mem (hmem _ (hmod t))
    · refine Sp.sub fun v hv => ?_
      obtain ⟨j, hj, rfl⟩ := mem_getD.1 hv
      rw [hus]
      refine List.mem_cons_of_mem _ (List.mem_map.2 ⟨(a + L - j) % L, List.mem_range.2 (Nat.mod_lt _ hL0), ?_⟩)
      congr 1
      rw [hL] at hj
      rcases Nat.lt_or_ge a j with hlt2 | hge
      · rw [Nat.mod_eq_of_lt (a := a + L - j) (by omega)]
        rw [show a + L - (a + L - j) = j by omega]
        exact Nat.mod_eq_of_lt hj
      · have e1 : (a + L - j) % L = a - j := by
          rw [show a + L - j = (a - j) + L by omega, Nat.add_mod_right]
          exact Nat.mod_eq_of_lt (by omega)
        rw [e1, show a + L - (a - j) = j + L by omega, Nat.add_mod_right]
        exact Nat.mod_eq_of_lt hj
  obtain ⟨red', hr', hle', he'⟩ := echelon_ok h0 h1 (vs := us L) (by rw [husl]; omega) hult
  obtain rfl := hr'.unique hr hspan
  have hsh : Short (mrs n (rows red')) := mrs_short h1 (by rw [show (rows red').length = red'.length from List.length_map _]; omega)
  refine up ?_
  simp only [downpourlaw04_ReduceUnique.j0, mrs_len, hL]
  rw [hA, hB]
  have cA : (0 : Int) ≤ (a : Int) := Int.natCast_nonneg _
  have cA2 : (a : Int) < (L : Int) := by omega
  have cB : (0 : Int) ≤ (b : Int) := Int.natCast_nonneg _
  have cB2 : (b : Int) < (L : Int) := by omega
  rw [mrs_rd ha', mrs_rd hb']
  refine Ev.congr (fun k => (if_neg (by decide)).trans ((if_neg hz).trans ((if_pos cA).trans ((if_pos cA2).trans ((if_pos cB).trans (if_pos cB2)))))) (Ev.bind (xor_mr h0 h1 (hlt a ha') (hlt b hb')) ?_)
  have e0 : ([mr n (vs.getD a 0 ^^^ vs.getD b 0)] : List S40) = (fun i => mrs n (us i)) 0 := by
    show _ = mrs n (us 0)
    rw [hus]; rfl
  refine Eq.mpr (congrArg (fun z => Ev (fun k => downpourlaw04_ReduceUnique.l0 k (a : Int) (L : Int) 0 (L : Int) ((0 : Nat) : Int) n (mrs n vs) n (mrs n (rows red')) n z) true) e0) ?_
  refine loop_acc (g := fun k i acc => downpourlaw04_ReduceUnique.l0 k (a : Int) (L : Int) 0 (L : Int) (i : Int) n (mrs n vs) n (mrs n (rows red')) n acc) L (fun i => mrs n (us i)) (fun i hi hnext => up ?_) (up ?_)
  · have c1 : (i : Int) < (L : Int) := by omega
    have c2 : (0 : Int) ≤ (((a + L - i) % L : Nat) : Int) := Int.natCast_nonneg _
    have c3 : (((a + L - i) % L : Nat) : Int) < ((mrs n vs).length : Int) := by rw [mrs_len]; have := hmod i; omega
    have c4 : (mrs n (us i)).length < 4398046511104 := by rw [mrs_len, husl]; omega
    have e1 : wrap64 ((i : Int) + 1) = ((i + 1 : Nat) : Int) := wrap_lt (by omega) (by omega)
    simp only [downpourlaw04_ReduceUnique.l0]
    rw [turn_at ha (by omega) hi, e1, mrs_rd (hmod i)]
    refine Ev.congr (fun k => (if_pos c1).trans ((if_neg hz).trans ((if_pos c2).trans ((if_pos c3).trans (if_pos c4))))) ?_
    have hn : us (i + 1) = us i ++ [vs.getD ((a + L - i) % L) 0] := by
      rw [hus]
      simp only [List.range_succ, List.map_append]
      rfl
    have hm2 : mrs n (us (i + 1)) = mrs n (us i) ++ [mr n (vs.getD ((a + L - i) % L) 0)] := by rw [hn]; unfold mrs; rw [List.map_append]; rfl
    rw [hm2] at hnext
    exact hnext
  · simp only [downpourlaw04_ReduceUnique.l0]
    refine Ev.congr (fun k => if_neg (Int.lt_irrefl _)) (Ev.bind he' (Ev.bind alive04_spec (Ev.congr (fun k => (if_pos (by first | rfl | trivial)).trans ((if_pos (by first | rfl | trivial)).trans (if_pos (by first | rfl | trivial)))) (Ev.bind (same_mat_self n hsh) (Ev.now true)))))

end Go.Proofs.Ytfcedhejbnoinaa.Pure
