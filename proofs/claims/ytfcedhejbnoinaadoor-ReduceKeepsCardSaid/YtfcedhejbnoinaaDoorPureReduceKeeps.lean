/- The printed law ReduceKeeps answers true, whatever its arguments are: plain Lean, no program in sight. -/
import Derived.Test.YtfcedhejbnoinaaDoorPKx8
import Derived.Test.YtfcedhejbnoinaaDoorVOpens
import Derived.Test.YtfcedhejbnoinaaDoorPKxO
import Derived.Test.YtfcedhejbnoinaaDoorPureQPKRed
namespace Go.Proofs.YtfcedhejbnoinaaDoor.Pure
open Go.RowKit Go.Proofs.YtfcedhejbnoinaaDoor.PK Go.Proofs.YtfcedhejbnoinaaDoorW.PrintWords Go.Proofs.YtfcedhejbnoinaaDoorW.PrintLast Go.Proofs.YtfcedhejbnoinaaDoor Go.Proofs.YtfcedhejbnoinaaDoor.PureBit Go.Proofs.YtfcedhejbnoinaaDoor.Row Go.Proofs.YtfcedhejbnoinaaDoor.Lin Go.Proofs.YtfcedhejbnoinaaDoor.Bits

theorem spans_arg {n m : Int} {l : List S25} {ws : List Int} (hf : Few l) (hok : Ok ws) (hlw : ws.length ≤ 10) (h : ¬ (MRt n l ∧ Rt m ws)) : Ev (fun k => reduce_Spans.f k n l m ws) (false, 1) := by
  obtain ⟨q, hq, hq'⟩ := right_spec (n := m) hok (by omega)
  unfold reduce_Spans.f
  by_cases hm : MRt n l
  · obtain ⟨e, hlt⟩ := mrt_mrs (fun x hx => (hf.2 x hx).1) hm
    obtain ⟨h0, h1, hl, _⟩ := hm
    generalize vals l = vs at e hlt
    subst e
    have hl' : vs.length ≤ 64 := by rw [mrs_len] at hl; exact hl
    obtain ⟨red, hr, hle, he⟩ := echelon_ok h0 h1 hl' hlt
    have hqf : q = false := by
      cases q with
      | false => rfl
      | true => exact absurd ⟨mrs_mrt h0 h1 hl' hlt, hq'.1 rfl⟩ h
    subst hqf
    refine Ev.bind he (Ev.congr (fun k => (if_pos (by first | rfl | trivial)).trans (bind_of hq)) (up ?_))
    simp only [reduce_Spans.j0]
    exact Ev.congr (fun k => if_pos (by first | rfl | trivial)) (Ev.now _)
  · refine Ev.bind (echelon_arg hf hm) (Ev.congr (fun k => if_neg (by decide)) (up ?_))
    simp only [reduce_Spans.j0]
    exact Ev.congr (fun k => if_pos (by first | rfl | trivial)) (Ev.now _)
theorem spans_size {n m : Int} {l : List S25} {ws : List Int} (hf : Few l) (hok : Ok ws) (hm : MRt n l) (hr : Rt m ws) (hne : m ≠ n) : Ev (fun k => reduce_Spans.f k n l m ws) (false, 2) := by
  have := rt_len hr
  obtain ⟨q, hq, hq'⟩ := right_spec (n := m) hok (by omega)
  obtain rfl : q = true := hq'.2 hr
  unfold reduce_Spans.f
  obtain ⟨e, hlt⟩ := mrt_mrs (fun x hx => (hf.2 x hx).1) hm
  obtain ⟨h0, h1, hl, _⟩ := hm
  generalize vals l = vs at e hlt
  subst e
  have hl' : vs.length ≤ 64 := by rw [mrs_len] at hl; exact hl
  obtain ⟨red, hrr, hle, he⟩ := echelon_ok h0 h1 hl' hlt
  refine Ev.bind he (Ev.congr (fun k => (if_pos (by first | rfl | trivial)).trans (bind_of hq)) (up ?_))
  simp only [reduce_Spans.j0]
  exact Ev.congr (fun k => (if_neg (by decide)).trans (if_neg hne)) (Ev.now _)
theorem rt_mr {n : Int} {ws : List Int} (hok : Ok ws) (h : Rt n ws) : ws = (mr n (val ws)).f1 := by
  have hl := h.2.2.1
  have h0 := h.1
  show ws = words ((n + 63) / 64).toNat (val ws)
  have : ((n + 63) / 64).toNat = ws.length := by omega
  rw [this, words_val hok]


/-- A column of rows, as a number. -/
def colN (vs : List Nat) (i : Nat) : Nat := bn ((List.range vs.length).map fun j => bitI (vs.getD j 0) i)
theorem bitI1 {v i : Nat} : bitI v i = 1 ↔ v.testBit i = true := by unfold bitI; split <;> simp [*]
theorem colN_test (vs : List Nat) (i j : Nat) : (colN vs i).testBit j = (decide (j < vs.length) && (vs.getD j 0).testBit i) := by
  unfold colN
  rw [testBit_bn, List.getD_eq_getElem?_getD, List.getElem?_map]
  by_cases hj : j < vs.length
  · rw [List.getElem?_range hj, decide_eq_true hj, Bool.true_and]
    show decide (bitI (vs.getD j 0) i = 1) = _
    rw [Bool.eq_iff_iff, decide_eq_true_iff, bitI1]
  · rw [List.getElem?_eq_none (by rw [List.length_range]; omega), decide_eq_false hj, Bool.false_and]
    rfl
theorem colN_lt (vs : List Nat) (i : Nat) : colN vs i < 2 ^ vs.length := by
  have := bn_lt ((List.range vs.length).map fun j => bitI (vs.getD j 0) i)
  rw [List.length_map, List.length_range] at this
  exact this
/-- The xor of those columns at whose places a reduced row has 1. -/
def cc (C : Nat → Nat) (i : Nat) : List (Nat × Nat) → Nat
  | [] => 0
  | x :: t => (if x.2.testBit i = true then C x.1 else 0) ^^^ cc C i t
theorem cc_test {C : Nat → Nat} {w i j : Nat} (h : ∀ p, (C p).testBit j = w.testBit p) (red : List (Nat × Nat)) : (cc C i red).testBit j = (comb w red).testBit i := by
  induction red with
  | nil => unfold cc comb; rw [Nat.zero_testBit, Nat.zero_testBit]
  | cons x t ih =>
    unfold cc comb
    rw [Nat.testBit_xor, Nat.testBit_xor, ih]
    congr 1
    cases ha : x.2.testBit i <;> cases hb : w.testBit x.1 <;> simp [h, ha, hb]
theorem cc_sp (C : Nat → Nat) (i : Nat) (red : List (Nat × Nat)) : Sp ((places red).map C) (cc C i red) := by
  induction red with
  | nil => exact .zero
  | cons x t ih =>
    unfold cc
    refine Sp.xor ?_ (ih.sub fun a ha => by simp only [places, List.map_cons] at ha ⊢; exact List.mem_cons_of_mem _ ha)
    by_cases hb : x.2.testBit i = true
    · rw [if_pos hb]; exact .of_mem (by simp [places])
    · rw [if_neg hb]; exact .zero
/-- Columns are spanned by so many as rows are reduced to. -/
theorem rank_half {vs cs : List Nat} {red redT : List (Nat × Nat)} (hL : vs.length ≤ 64) (hr : IsRed vs red) (hrl : red.length ≤ 64) (hT : IsRed cs redT) (hc : ∀ c, c ∈ cs → ∃ i, c = colN vs i) : redT.length ≤ red.length := by
  have hcol : ∀ i, Sp ((places red).map (colN vs)) (colN vs i) := fun i => by
    have e : colN vs i = cc (colN vs) i red := Nat.eq_of_testBit_eq fun j => by
      by_cases hj : j < vs.length
      · rw [cc_test (w := vs.getD j 0) (fun p => by rw [colN_test, decide_eq_true hj, Bool.true_and]) red, colN_test, decide_eq_true hj, Bool.true_and, hr.1.comb_self ((hr.2 _).2 (.of_mem (mem_getD.2 ⟨j, hj, rfl⟩)))]
      · rw [cc_test (w := 0) (fun p => by rw [colN_test, decide_eq_false hj, Bool.false_and, Nat.zero_testBit]) red, colN_test, decide_eq_false hj, Bool.false_and, comb_zero (fun _ _ => Nat.zero_testBit _), Nat.zero_testBit]
    rw [e]; exact cc_sp _ _ _
  have hll : ((places red).map (colN vs)).length = red.length := by rw [List.length_map, List.length_map]
  obtain ⟨redC, hC, hCl, _⟩ := echelon_ok (n := (vs.length : Int)) (vs := (places red).map (colN vs)) (by omega) (by omega) (by rw [hll]; exact hrl) (Lt.of_mem fun v hv => by
    obtain ⟨p, _, rfl⟩ := List.mem_map.1 hv
    rw [Int.toNat_natCast]; exact colN_lt _ _)
  have := hT.1.length_le hC.1 fun v hv => (hC.2 v).2 (((hT.2 v).1 hv).mono fun a ha => by
    obtain ⟨i, rfl⟩ := hc a ha; exact hcol i)
  rw [hll] at hCl; omega
theorem colN_back {n : Nat} {vs : List Nat} (hv : ∀ v, v ∈ vs → v < 2 ^ n) {j : Nat} (hj : j < vs.length) : vs.getD j 0 = colN ((List.range n).map (colN vs)) j := Nat.eq_of_testBit_eq fun i => by
  rw [colN_test, List.length_map, List.length_range]
  by_cases hi : i < n
  · rw [decide_eq_true hi, Bool.true_and, List.getD_eq_getElem?_getD (l := (List.range n).map (colN vs)), List.getElem?_map, List.getElem?_range hi]
    show _ = (colN vs i).testBit j
    rw [colN_test, decide_eq_true hj, Bool.true_and]
  · rw [decide_eq_false hi, Bool.false_and]
    exact Nat.testBit_lt_two_pow (Nat.lt_of_lt_of_le (hv _ (mem_getD.2 ⟨j, hj, rfl⟩)) (Nat.pow_le_pow_right (by decide) (by omega)))
/-- The rank of rows is that of their columns. -/
theorem rank_turn {n : Nat} {vs : List Nat} {red redT : List (Nat × Nat)} (hn : n ≤ 64) (hL : vs.length ≤ 64) (hv : ∀ v, v ∈ vs → v < 2 ^ n) (hr : IsRed vs red) (hrl : red.length ≤ 64) (hT : IsRed ((List.range n).map (colN vs)) redT) : redT.length = red.length := by
  have h1 := rank_half hL hr hrl hT fun c hc => by
    obtain ⟨i, _, rfl⟩ := List.mem_map.1 hc
    exact ⟨i, rfl⟩
  have h2 := rank_half (by rw [List.length_map, List.length_range]; exact hn) hT (by omega) hr fun c hc => by
    obtain ⟨j, hj, rfl⟩ := mem_getD.1 hc
    exact ⟨j, colN_back hv hj⟩
  omega
/-- One row more. -/
theorem rank_more {vs : List Nat} {v : Nat} {red redM : List (Nat × Nat)} (hr : IsRed vs red) (hM : IsRed (vs ++ [v]) redM) : (Sp vs v → redM.length = red.length) ∧ (¬ Sp vs v → redM.length = red.length + 1) := by
  constructor
  · intro hs
    rw [hM.unique hr fun w => ⟨fun h => h.mono fun a ha => by
      rcases List.mem_append.1 ha with h | h
      · exact .of_mem h
      · rw [List.mem_singleton.1 h]; exact hs, fun h => h.sub fun a ha => List.mem_append_left _ ha⟩]
  · intro hs
    have hz : left red v ≠ 0 := fun e => hs ((hr.2 v).1 ((hr.1.left_zero_iff v).1 e))
    obtain ⟨p, hp⟩ := exists_fst hz
    have hne : ∀ x, x ∈ red → x.1 ≠ p := fun x hx e => by
      have := hr.1.left_clear v hx
      rw [e, hp.1] at this; cases this
    have hI : IsRed (vs ++ [v]) (ins red p (left red v)) := ⟨hr.1.ins hp fun x hx => hr.1.left_clear v hx, fun w => by
      rw [ins_sp hne]
      constructor
      · refine fun h => h.mono fun a ha => ?_
        rcases List.mem_cons.1 ha with h | h
        · rw [h]
          have := ((hr.2 _).1 (left_sp (l := red) v)).sub (m := vs ++ [v]) fun a ha => List.mem_append_left _ ha
          have := this.xor (.of_mem (a := v) (by simp))
          rwa [xor_back] at this
        · exact ((hr.2 a).1 (.of_mem h)).sub fun a ha => List.mem_append_left _ ha
      · refine fun h => h.mono fun a ha => ?_
        rcases List.mem_append.1 ha with h | h
        · exact ((hr.2 a).2 (.of_mem h)).sub fun a ha => List.mem_cons_of_mem _ ha
        · rw [List.mem_singleton.1 h]
          have h1 := (left_sp (l := red) v).sub (m := left red v :: rows red) fun a ha => List.mem_cons_of_mem _ ha
          have h2 : Sp (left red v :: rows red) (left red v) := .of_mem (by simp)
          have := h2.xor h1
          rwa [← Nat.xor_assoc, Nat.xor_self, Nat.zero_xor] at this⟩
    rw [hM.unique hI fun w => Iff.rfl, ins_length hne]
theorem red_small {n : Nat} {vs : List Nat} {red : List (Nat × Nat)} (hr : IsRed vs red) (hv : ∀ v, v ∈ vs → v < 2 ^ n) : red.length ≤ n := by
  have := length_le_of_sub (m := List.range n) hr.1.nodup_places fun a ha => by
    obtain ⟨x, hx, rfl⟩ := List.mem_map.1 ha
    exact List.mem_range.2 (hr.lt hv hx).2
  rwa [List.length_map, List.length_range] at this
theorem turn_mrs {n : Int} {vs : List Nat} (h0 : 0 ≤ n) (h1 : n ≤ 64) (hv : Lt n vs) : (List.range n.toNat).map (colr (mrs n vs)) = mrs (vs.length : Int) ((List.range n.toNat).map (colN vs)) := by
  unfold mrs
  rw [List.map_map]
  refine List.map_congr_left fun i _ => ?_
  show colr (mrs n vs) i = mr (vs.length : Int) (colN vs i)
  unfold colr mr colb colN
  have e : (List.range (mrs n vs).length).map (fun j => bitI (val (row (mrs n vs) j).f1) i) = (List.range vs.length).map fun j => bitI (vs.getD j 0) i := by
    rw [mrs_len]
    refine List.map_congr_left fun j hj => ?_
    have hj' := List.mem_range.1 hj
    show bitI (val (row (mrs n vs) j).f1) i = _
    rw [mrs_row hj', (mr_rt h0 h1 (hv j hj')).2.2]
  rw [e, mrs_len, show (((vs.length : Int) + 63) / 64).toNat = (vs.length + 63) / 64 from by omega]
theorem plc_fst {v p : Nat} (h : IsFst v p) (n : Nat) (hp : p < n) : ∃ t, plc v n = (p : Int) :: t := by
  induction n with
  | zero => omega
  | succ n ih =>
    rw [plc_succ]
    by_cases e : p = n
    · subst e
      have hn : plc v p = [] := List.eq_nil_iff_forall_not_mem.2 fun z hz => by
        obtain ⟨i, hi, hb, _⟩ := (mem_plc v p z).1 hz
        rw [h.2 i hi] at hb; cases hb
      rw [hn, if_pos h.1]
      exact ⟨[], rfl⟩
    · obtain ⟨t, ht⟩ := ih (by omega)
      rw [ht]
      exact ⟨_, rfl⟩

theorem ReduceKeeps (x0 : S55) (_q0 : Q55 x0)  (x1 : S25) (_q1 : Q25 x1) : ∃ k, downpourlaw04_ReduceKeeps.f k x0.f0 x0.f1 x1.f0 x1.f1 = some true := by
  obtain ⟨n, a0⟩ := x0
  obtain ⟨m, b0⟩ := x1
  obtain ⟨_, _, ha0⟩ := _q0
  have hb0 : Ok b0 := ok_of _q1.2.2
  obtain ⟨a, hfa, ha⟩ := few_mat (n := n) (l := a0) fun x hx => ok_of (ha0 x hx).2.2
  show ∃ k, downpourlaw04_ReduceKeeps.f k n a0 m b0 = some true
  obtain ⟨b, hbe⟩ : ∃ b, b0.take ((mn (b0.length : Int) 10) : Int).toNat = b := ⟨_, rfl⟩
  have hmn : 0 ≤ mn (b0.length : Int) 10 ∧ mn (b0.length : Int) 10 ≤ (b0.length : Int) ∧ mn (b0.length : Int) 10 ≤ 10 := by unfold mn; split <;> omega
  have hbl : b.length ≤ 10 := by rw [← hbe, List.length_take]; omega
  have hb : Ok b := by rw [← hbe]; exact ok_take hb0 _
  unfold downpourlaw04_ReduceKeeps.f
  rw [hbe]
  refine Ev.rounds (Ev.bind hfa (Ev.congr (fun k => (if_pos hmn.1).trans (if_pos hmn.2.1)) (up ?_)))
  simp only [downpourlaw04_ReduceKeeps.j0]
  by_cases hm : MRt n a
  case neg =>
    exact Ev.bind (echelon_arg ha hm) (Ev.congr (fun k => if_neg (by decide)) (Ev.bind alive04_spec (Ev.congr (fun k => if_pos (by first | rfl | trivial)) (Ev.now true))))
  obtain ⟨e, hlt⟩ := mrt_mrs (fun x hx => (ha.2 x hx).1) hm
  have hmm := hm
  obtain ⟨h0, h1, hl, _⟩ := hmm
  generalize vals a = vs at e hlt
  subst e
  have hl' : vs.length ≤ 64 := by rw [mrs_len] at hl; exact hl
  have hmem : ∀ v, v ∈ vs → v < 2 ^ n.toNat := fun v hv => hlt.mem hv
  obtain ⟨red, hr, hle, he⟩ := echelon_ok h0 h1 hl' hlt
  have hredm : ∀ x, x ∈ red → x.2 < 2 ^ n.toNat ∧ x.1 < n.toNat := fun x hx => hr.lt hmem hx
  have hltr : Lt n (rows red) := Lt.of_mem fun v hv => by
    obtain ⟨x, hx, rfl⟩ := List.mem_map.1 hv
    exact (hredm x hx).1
  have hrl : (rows red).length ≤ 64 := by rw [List.length_map]; omega
  obtain ⟨red', hr', _, he'⟩ := echelon_ok h0 h1 hrl hltr
  obtain rfl : red' = red := hr'.unique hr fun w => hr.2 w
  have ht := turn_ok ha hm
  rw [turn_mrs h0 h1 hlt, mrs_len] at ht
  obtain ⟨redT, hrT, _, heT⟩ := echelon_ok (n := (vs.length : Int)) (vs := (List.range n.toNat).map (colN vs)) (by omega) (by omega) (by rw [List.length_map, List.length_range]; omega) (Lt.of_mem fun v hv => by
    obtain ⟨p, _, rfl⟩ := List.mem_map.1 hv
    rw [Int.toNat_natCast]; exact colN_lt _ _)
  have hrk : redT.length = red'.length := rank_turn (by omega) hl' hmem hr (by omega) hrT
  have hrankT := rank_of heT
  have hsm := red_small hr hmem
  have hsh : Short (mrs n (rows red')) := mrs_short h1 hrl
  have hRank : (((n, mrs n (rows red'), pcast red', (0 : Int)) : Int × List S25 × List Int × Int).2.2.1.length : Int) = (red'.length : Int) := by rw [pcastL]
  -- what follows the loops
  have fin : Ev (fun k => downpourlaw04_ReduceKeeps.l1 k (pcast red') (redT.length : Int) (mrs n (rows red')) ((mrs n (rows red')).length : Int) ((0 : Nat) : Int) n (mrs n vs) m b) true := by
    have key : ∀ d i, i + d = red'.length → Ev (fun k => downpourlaw04_ReduceKeeps.l1 k (pcast red') (redT.length : Int) (mrs n (rows red')) ((mrs n (rows red')).length : Int) (i : Int) n (mrs n vs) m b) true := by
      intro d
      induction d with
      | zero =>
        intro i hi
        have c1 : ¬ (i : Int) < ((mrs n (rows red')).length : Int) := by rw [mrs_len, List.length_map]; omega
        refine up ?_
        simp only [downpourlaw04_ReduceKeeps.l1]
        refine Ev.congr (fun k => if_neg c1) ?_
        by_cases hrt : Rt m b
        case neg =>
          refine Ev.bind (spans_arg ha hb hbl fun g => hrt g.2) (Ev.congr (fun k => if_neg (by decide)) (up ?_))
          simp only [downpourlaw04_ReduceKeeps.j6]
          exact Ev.congr (fun k => if_pos (by first | rfl | trivial)) (Ev.bind alive04_spec (Ev.congr (fun k => (if_pos (by first | rfl | trivial)).trans (if_neg (by decide))) (Ev.now true)))
        by_cases hnm : m = n
        case neg =>
          refine Ev.bind (spans_size ha hb hm hrt hnm) (Ev.congr (fun k => if_neg (by decide)) (up ?_))
          simp only [downpourlaw04_ReduceKeeps.j6]
          exact Ev.congr (fun k => if_pos (by first | rfl | trivial)) (Ev.bind alive04_spec (Ev.congr (fun k => (if_pos (by first | rfl | trivial)).trans (if_neg (by decide))) (Ev.now true)))
        subst hnm
        have hv := hrt.2.2.2
        have eb := rt_mr hb hrt
        generalize val b = v at hv eb
        subst eb
        obtain ⟨t, hst, hst'⟩ := spans_ok h0 h1 hl' hlt hv
        refine Ev.bind hst (Ev.congr (fun k => if_pos (by first | rfl | trivial)) (up ?_))
        simp only [downpourlaw04_ReduceKeeps.j6]
        by_cases hbig : ((mrs m vs).length : Int) ≥ 64
        · exact Ev.congr (fun k => if_pos (decide_eq_true hbig)) (Ev.bind alive04_spec (Ev.congr (fun k => (if_pos (by first | rfl | trivial)).trans (if_pos (by first | rfl | trivial))) (Ev.now true)))
        have hl2 : vs.length < 64 := by rw [mrs_len] at hbig; omega
        have hltM : Lt m (vs ++ [v]) := Lt.of_mem fun u hu => by
          rcases List.mem_append.1 hu with h | h
          · exact hmem u h
          · rw [List.mem_singleton.1 h]; exact hv
        obtain ⟨redM, hrM, _, heM⟩ := echelon_ok h0 h1 (by rw [List.length_append]; exact hl2) hltM
        have hrankM := rank_of heM
        have eM : mrs m (vs ++ [v]) = (([] : List S25) ++ mrs m vs) ++ [(⟨m, (mr m v).f1⟩ : S25)] := by unfold mrs; rw [List.map_append]; rfl
        rw [eM] at hrankM
        obtain ⟨r1, r2⟩ := rank_more hr hrM
        have lM : ((pcast redM).length : Int) = (redM.length : Int) := by rw [pcastL]
        refine Ev.congr (fun k => if_neg (by rw [decide_eq_false hbig]; decide)) ?_
        refine Ev.bind (Ev.now ([] : List S25)) (Ev.congr (fun k => if_pos (by rw [mrs_len]; simp only [List.length_nil]; omega)) (Ev.bind (Ev.now (([] : List S25) ++ mrs m vs)) (Ev.bind (Ev.now [(⟨m, (mr m v).f1⟩ : S25)]) (Ev.congr (fun k => if_pos (by rw [List.nil_append, mrs_len]; simp only [List.length_cons, List.length_nil]; omega)) (Ev.bind hrankM (up ?_))))))
        simp only [downpourlaw04_ReduceKeeps.j7]
        refine Ev.congr (fun k => if_pos (by first | rfl | trivial)) ?_
        cases t with
        | true =>
          have := r1 (hst'.1 rfl)
          exact Ev.congr (fun k => (if_pos (by first | rfl | trivial)).trans (if_pos (by show ((pcast redM).length : Int) = _; rw [lM]; omega))) (Ev.now true)
        | false =>
          have := r2 fun h => by cases hst'.2 h
          refine Ev.congr (fun k => (if_neg (by decide)).trans (congrArg some (?_ : _ = true))) (Ev.now true)
          show (((pcast redM).length : Int) == wrap64 ((redT.length : Int) + 1)) = true
          rw [lM, wrap_lt (by omega) (by omega), beq_iff_eq]; omega
      | succ d ih =>
        intro i hi
        have hil : i < red'.length := by omega
        have hil' : i < (rows red').length := by rw [List.length_map]; exact hil
        have hx := hredm _ (List.getElem_mem hil)
        have c1 : (i : Int) < ((mrs n (rows red')).length : Int) := by rw [mrs_len]; omega
        have c2 : (0 : Int) ≤ (i : Int) := Int.natCast_nonneg _
        have c3 : (i : Int) < ((pcast red').length : Int) := by rw [pcastL]; omega
        have e1 : wrap64 ((i : Int) + 1) = ((i + 1 : Nat) : Int) := wrap_lt (by omega) (by omega)
        have hg : (rows red').getD i 0 = (red'[i]).2 := by
          rw [List.getD_eq_getElem?_getD, List.getElem?_map, List.getElem?_eq_getElem hil]; rfl
        obtain ⟨t, hs, hs'⟩ := spans_ok h0 h1 hl' hlt hx.1
        obtain rfl : t = true := hs'.2 ((hr.2 _).1 (.of_mem (List.mem_map.2 ⟨_, List.getElem_mem hil, rfl⟩)))
        obtain ⟨q1, q2, q3⟩ := mr_rt h0 h1 hx.1
        obtain ⟨tl, htl⟩ := plc_fst (hr.1.fst _ (List.getElem_mem hil)) n.toNat hx.2
        have hf := first_ok q1 q2
        rw [q3, htl] at hf
        have hrd : rd (pcast red') (i : Int) = ((red'[i]).1 : Int) := by
          rw [rd_eq, Int.toNat_natCast]
          unfold pcast places
          rw [List.getD_eq_getElem?_getD, List.getElem?_map, List.getElem?_map, List.getElem?_eq_getElem hil]
          rfl
        refine up ?_
        simp only [downpourlaw04_ReduceKeeps.l1, mrs_rd hil', hg, hrd]
        refine Ev.congr (fun k => (if_pos c1).trans ((if_pos c2).trans (if_pos c1))) (Ev.bind hs (Ev.congr (fun k => (bind_of hf).trans ((if_pos (by first | rfl | trivial)).trans ((if_pos (by first | rfl | trivial)).trans ((if_pos (by first | rfl | trivial)).trans (if_pos c3))))) (up ?_)))
        simp only [downpourlaw04_ReduceKeeps.j5]
        refine Ev.congr (fun k => if_neg (by simp)) ?_
        rw [e1]
        exact ih (i + 1) (by omega)
    exact key red'.length 0 (by omega)
  have key0 : ∀ d i, i + d = vs.length → Ev (fun k => downpourlaw04_ReduceKeeps.l0 k (pcast red') (redT.length : Int) (mrs n vs) ((mrs n vs).length : Int) (i : Int) n (mrs n vs) m b n (mrs n (rows red'))) true := by
    intro d
    induction d with
    | zero =>
      intro i hi
      have c1 : ¬ (i : Int) < ((mrs n vs).length : Int) := by rw [mrs_len]; omega
      refine up ?_
      simp only [downpourlaw04_ReduceKeeps.l0]
      exact Ev.congr (fun k => if_neg c1) fin
    | succ d ih =>
      intro i hi
      have hil : i < vs.length := by omega
      have c1 : (i : Int) < ((mrs n vs).length : Int) := by rw [mrs_len]; omega
      have c2 : (0 : Int) ≤ (i : Int) := Int.natCast_nonneg _
      have e1 : wrap64 ((i : Int) + 1) = ((i + 1 : Nat) : Int) := wrap_lt (by omega) (by omega)
      have hvi : vs.getD i 0 ∈ vs := mem_getD.2 ⟨i, hil, rfl⟩
      obtain ⟨t, hs, hs'⟩ := spans_ok h0 h1 hl' hlt (hlt i hil)
      obtain rfl : t = true := hs'.2 (.of_mem hvi)
      obtain ⟨u, hu, hu'⟩ := spans_ok h0 h1 hrl hltr (hlt i hil)
      obtain rfl : u = true := hu'.2 ((hr.2 _).2 (.of_mem hvi))
      refine up ?_
      simp only [downpourlaw04_ReduceKeeps.l0, mrs_rd hil]
      refine Ev.congr (fun k => (if_pos c1).trans ((if_pos c2).trans (if_pos c1))) (Ev.bind hs (Ev.bind hu (Ev.congr (fun k => (if_pos (by first | rfl | trivial)).trans ((if_pos (by first | rfl | trivial)).trans (if_pos (by first | rfl | trivial)))) (up ?_))))
      simp only [downpourlaw04_ReduceKeeps.j3]
      refine Ev.congr (fun k => if_neg (by decide)) ?_
      rw [e1]
      exact ih (i + 1) (by omega)
  have lT : ((pcast redT).length : Int) = (redT.length : Int) := by rw [pcastL]
  have lR : ((pcast red').length : Int) = (red'.length : Int) := by rw [pcastL]
  refine Ev.bind he (Ev.congr (fun k => if_pos (by first | rfl | trivial)) (Ev.bind he' (Ev.bind ht (Ev.bind hrankT (Ev.congr (fun k => (if_pos (by first | rfl | trivial)).trans ((if_pos (by first | rfl | trivial)).trans (if_pos (by first | rfl | trivial)))) (Ev.bind (same_mat_self n hsh) (Ev.congr (fun k => if_pos (by first | rfl | trivial)) (Ev.bind (refNumbers_spec (by rw [pcastL]; omega)) ?_))))))))
  refine Ev.congr (fun k => (if_pos (by simp)).trans ((if_pos (by show ((pcast redT).length : Int) = ((pcast red').length : Int); rw [lT, lR, hrk])).trans ((if_neg (by show ¬ ((pcast redT).length : Int) > n; rw [lT]; omega)).trans (if_neg (by show ¬ ((pcast redT).length : Int) > _; rw [lT, mrs_len]; omega))))) (Ev.bind alive04_spec (up ?_))
  simp only [downpourlaw04_ReduceKeeps.j1, lT]
  exact Ev.congr (fun k => if_neg (by decide)) (key0 vs.length 0 (by omega))

end Go.Proofs.YtfcedhejbnoinaaDoor.Pure
