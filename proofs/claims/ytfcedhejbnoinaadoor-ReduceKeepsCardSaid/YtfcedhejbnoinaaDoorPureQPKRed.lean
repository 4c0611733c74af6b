/- Rows reduced: what the printed functions and references of layer 4 tell, of rows as numbers. -/
import Derived.Test.YtfcedhejbnoinaaDoorPKx6
import Derived.Test.YtfcedhejbnoinaaDoorPKx7
import Derived.Test.YtfcedhejbnoinaaDoorPKx5
import Derived.Test.YtfcedhejbnoinaaDoorPureQPKMat
import Derived.Test.YtfcedhejbnoinaaDoorVEch
namespace Go.Proofs.YtfcedhejbnoinaaDoor.PureBit
open Go Go.RowKit Go.Proofs.YtfcedhejbnoinaaDoor.PK Go.Proofs.YtfcedhejbnoinaaDoorW.PrintWords Go.Proofs.YtfcedhejbnoinaaDoorW.PrintLast Go.Proofs.YtfcedhejbnoinaaDoorW.PrintMore Go.Proofs.YtfcedhejbnoinaaDoor.Row Go.Proofs.YtfcedhejbnoinaaDoor.Lin

/-- A number as a row of n bits. -/
def mr (n : Int) (v : Nat) : S25 := ⟨n, words ((n + 63) / 64).toNat v⟩
def mrs (n : Int) (vs : List Nat) : List S25 := vs.map (mr n)
def vals (l : List S25) : List Nat := l.map fun x => val x.f1
/-- Numbers of n bits. -/
def Lt (n : Int) (vs : List Nat) : Prop := ∀ t, t < vs.length → vs.getD t 0 < 2 ^ n.toNat
theorem Lt.mem {n : Int} {vs : List Nat} (h : Lt n vs) {v : Nat} (hv : v ∈ vs) : v < 2 ^ n.toNat := by
  obtain ⟨t, ht, rfl⟩ := mem_getD.1 hv
  exact h t ht
theorem Lt.of_mem {n : Int} {vs : List Nat} (h : ∀ v, v ∈ vs → v < 2 ^ n.toNat) : Lt n vs := fun t ht => h _ (mem_getD.2 ⟨t, ht, rfl⟩)
theorem sp_lt {n : Nat} {vs : List Nat} (h : ∀ v, v ∈ vs → v < 2 ^ n) {w : Nat} (hw : Sp vs w) : w < 2 ^ n := by
  induction hw with
  | zero => exact Nat.two_pow_pos n
  | step ha _ ih => exact Nat.xor_lt_two_pow ih (h _ ha)

theorem mr_rt {n : Int} (h0 : 0 ≤ n) (h1 : n ≤ 64) {v : Nat} (hv : v < 2 ^ n.toNat) : Ok (mr n v).f1 ∧ Rt n (mr n v).f1 ∧ val (mr n v).f1 = v := rt_words h0 (by omega) (by omega) hv
theorem mrs_len (n : Int) (vs : List Nat) : (mrs n vs).length = vs.length := List.length_map _
theorem mrs_row {n : Int} {vs : List Nat} {t : Nat} (ht : t < vs.length) : row (mrs n vs) t = mr n (vs.getD t 0) := by
  unfold row mrs
  rw [List.getD_eq_getElem?_getD, List.getElem?_map, List.getD_eq_getElem?_getD, List.getElem?_eq_getElem ht]
  rfl
theorem mrs_rd {n : Int} {vs : List Nat} {t : Nat} (ht : t < vs.length) : rd_T25 (mrs n vs) (t : Int) = mr n (vs.getD t 0) := by rw [rd_row, mrs_row ht]
theorem mrs_set (n : Int) (vs : List Nat) (t v : Nat) : (mrs n vs).set t (mr n v) = mrs n (vs.set t v) := by unfold mrs; rw [List.map_set]
theorem mrs_mem {n : Int} {vs : List Nat} {x : S25} (hx : x ∈ mrs n vs) : ∃ v, v ∈ vs ∧ x = mr n v := by
  obtain ⟨v, hv, rfl⟩ := List.mem_map.1 hx
  exact ⟨v, hv, rfl⟩
theorem mrs_short {n : Int} (h1 : n ≤ 64) {vs : List Nat} (hl : vs.length ≤ 64) : Short (mrs n vs) := ⟨by rw [mrs_len]; omega, fun x hx => by
  obtain ⟨v, _, rfl⟩ := mrs_mem hx
  show (words _ _).length < 1000000
  rw [length_words]; omega⟩
theorem mrs_few {n : Int} (h0 : 0 ≤ n) (h1 : n ≤ 64) {vs : List Nat} (hl : vs.length ≤ 64) (hv : Lt n vs) : Few (mrs n vs) := ⟨by rw [mrs_len]; omega, fun x hx => by
  obtain ⟨v, hm, rfl⟩ := mrs_mem hx
  refine ⟨(mr_rt h0 h1 (hv.mem hm)).1, ?_⟩
  show (words _ _).length ≤ 3
  rw [length_words]; omega⟩
theorem mrs_mrt {n : Int} (h0 : 0 ≤ n) (h1 : n ≤ 64) {vs : List Nat} (hl : vs.length ≤ 64) (hv : Lt n vs) : MRt n (mrs n vs) := ⟨h0, h1, by rw [mrs_len]; exact hl, fun i hi => by
  rw [mrs_len] at hi
  rw [mrs_row hi]
  exact ⟨rfl, (mr_rt h0 h1 (hv i hi)).2.1⟩⟩
theorem vals_len (l : List S25) : (vals l).length = l.length := List.length_map _
theorem vals_get {l : List S25} {t : Nat} (ht : t < l.length) : (vals l).getD t 0 = val (row l t).f1 := by
  unfold vals row
  rw [List.getD_eq_getElem?_getD, List.getElem?_map, List.getD_eq_getElem?_getD, List.getElem?_eq_getElem ht]
  rfl
theorem mrt_mrs {n : Int} {l : List S25} (hf : ∀ x ∈ l, Ok x.f1) (h : MRt n l) : l = mrs n (vals l) ∧ Lt n (vals l) := by
  obtain ⟨h0, h1, _, hr⟩ := h
  refine ⟨row_ext (by rw [mrs_len, vals_len]) fun j hj => ?_, fun t ht => ?_⟩
  · rw [mrs_row (by rw [vals_len]; exact hj), vals_get hj, s25_eq]
    obtain ⟨e, hrt⟩ := hr j hj
    refine ⟨e, ?_⟩
    show _ = words ((n + 63) / 64).toNat _
    have hlen := hrt.2.2.1
    have : ((n + 63) / 64).toNat = (row l j).f1.length := by omega
    rw [this, words_val (hf _ (row_mem hj))]
  · rw [vals_len] at ht
    rw [vals_get ht]
    exact (hr t ht).2.2.2.2

theorem bit_mr {n : Int} (h0 : 0 ≤ n) (h1 : n ≤ 64) {v : Nat} (hv : v < 2 ^ n.toNat) {i : Nat} (hi : (i : Int) < n) : reduce_bit.f (mr n v).f0 (mr n v).f1 (i : Int) = some (v.testBit i) := by
  obtain ⟨a, b, c⟩ := mr_rt h0 h1 hv
  unfold reduce_bit.f
  show (bitrow_Get.f n (mr n v).f1 (i : Int)).bind _ = _
  rw [get_ok a b hi, c]
  unfold bitI
  cases v.testBit i <;> rfl
theorem xor_mr {n : Int} (h0 : 0 ≤ n) (h1 : n ≤ 64) {u v : Nat} (hu : u < 2 ^ n.toNat) (hv : v < 2 ^ n.toNat) : Ev (fun k => bitrow_Xor.f k (mr n u).f0 (mr n u).f1 (mr n v).f0 (mr n v).f1) (n, words ((n + 63) / 64).toNat (u ^^^ v), 0) := by
  show Ev (fun k => bitrow_Xor.f k n (words ((n + 63) / 64).toNat u) n (words ((n + 63) / 64).toNat v)) _
  exact xor_w (L := ((n + 63) / 64).toNat) h0 (by omega) (by omega) hu hv

theorem index_spec {n : Int} (h0 : 0 ≤ n) (h1 : n ≤ 64) {vs : List Nat} (hv : Lt n vs) (hl : vs.length ≤ 64) {i : Nat} (hi : (i : Int) < n) :
    ∃ p : Int, Ev (fun k => api_Row_100.f k (mrs n vs) (i : Int)) p ∧ ((p = -1 ∧ ∀ b, b < vs.length → (vs.getD b 0).testBit i = false) ∨ ∃ b : Nat, p = (b : Int) ∧ b < vs.length ∧ (vs.getD b 0).testBit i = true) := by
  have key : ∀ d j, j + d = vs.length → ∃ p : Int, Ev (fun k => api_Row_100.l0 k (mrs n vs) (vs.length : Int) (j : Int) (i : Int)) p ∧ ((p = -1 ∧ ∀ b, j ≤ b → b < vs.length → (vs.getD b 0).testBit i = false) ∨ ∃ b : Nat, p = (b : Int) ∧ b < vs.length ∧ (vs.getD b 0).testBit i = true) := by
    intro d
    induction d with
    | zero =>
      intro j hj
      obtain rfl : j = vs.length := by omega
      refine ⟨-1, up ?_, .inl ⟨rfl, fun b h1 h2 => by omega⟩⟩
      simp only [api_Row_100.l0]
      exact Ev.congr (fun k => if_neg (Int.lt_irrefl _)) (Ev.now _)
    | succ d ih =>
      intro j hj
      have hjl : j < vs.length := by omega
      have c1 : (j : Int) < (vs.length : Int) := by omega
      have c2 : (0 : Int) ≤ (j : Int) := Int.natCast_nonneg _
      have c3 : (j : Int) < ((mrs n vs).length : Int) := by rw [mrs_len]; omega
      have e1 : wrap64 ((j : Int) + 1) = ((j + 1 : Nat) : Int) := wrap_lt (by omega) (by omega)
      have hb : reduce_work_columns_1.f (mr n (vs.getD j 0)).f0 (mr n (vs.getD j 0)).f1 (i : Int) = some ((vs.getD j 0).testBit i) := by
        unfold reduce_work_columns_1.f
        rw [bit_mr h0 h1 (hv j hjl) hi]; rfl
      cases hx : (vs.getD j 0).testBit i with
      | true =>
        refine ⟨(j : Int), up ?_, .inr ⟨j, rfl, hjl, hx⟩⟩
        simp only [api_Row_100.l0, mrs_rd hjl]
        rw [hb, hx]
        simp only [Option.bind_some]
        exact Ev.congr (fun k => (if_pos c1).trans ((if_pos c2).trans ((if_pos c3).trans (if_pos trivial)))) (Ev.now _)
      | false =>
        obtain ⟨p, hp, hp'⟩ := ih (j + 1) (by omega)
        refine ⟨p, up ?_, ?_⟩
        · simp only [api_Row_100.l0, mrs_rd hjl]
          rw [hb, hx, e1]
          simp only [Option.bind_some]
          exact Ev.congr (fun k => (if_pos c1).trans ((if_pos c2).trans ((if_pos c3).trans (if_neg (by decide))))) hp
        · rcases hp' with ⟨a, b⟩ | h
          · refine .inl ⟨a, fun c h1 h2 => ?_⟩
            rcases Nat.eq_or_lt_of_le h1 with rfl | h1
            · exact hx
            · exact b c h1 h2
          · exact .inr h
  unfold api_Row_100.f
  rw [mrs_len]
  obtain ⟨p, hp, hp'⟩ := key vs.length 0 (by omega)
  exact ⟨p, hp, hp'.imp (fun h => ⟨h.1, fun b hb => h.2 b (Nat.zero_le _) hb⟩) (fun h => h)⟩

theorem ech_in_spec {n : Int} (h0 : 0 ≤ n) (h1 : n ≤ 64) {i d o : Nat} (hi : (i : Int) < n) (ho : o < 2 ^ n.toNat) (m : Nat) : ∀ j (vs : List Nat), j + m ≤ vs.length → Lt n vs → ∃ ws, Elim vs i d o j m ws ∧ Ev (fun k => ech_in k (i : Int) d (mr n o) m j (mrs n vs)) (mrs n ws) := by
  induction m with
  | zero =>
    intro j vs _ _
    refine ⟨vs, ⟨rfl, fun t ht => by rw [if_neg (by omega)]⟩, ?_⟩
    simp only [ech_in]
    exact Ev.now _
  | succ m ih =>
    intro j vs hj hv
    have hjl : j < vs.length := by omega
    by_cases hjd : j = d
    · obtain ⟨ws, ⟨hl, hw⟩, he⟩ := ih (j + 1) vs (by omega) hv
      refine ⟨ws, ⟨hl, fun t ht => ?_⟩, ?_⟩
      · rw [hw t ht]
        by_cases htj : t = j
        · rw [if_neg (by omega), if_neg (fun h => h.2.2.1 (by omega))]
        · by_cases hc : j ≤ t ∧ t < j + (m + 1) ∧ t ≠ d ∧ (vs.getD t 0).testBit i = true
          · rw [if_pos hc, if_pos ⟨by omega, by omega, hc.2.2⟩]
          · rw [if_neg hc, if_neg (fun h => hc ⟨by omega, by omega, h.2.2⟩)]
      · simp only [ech_in]
        exact Ev.congr (fun k => if_pos hjd) he
    · have hvj := hv j hjl
      cases hx : (vs.getD j 0).testBit i with
      | false =>
        obtain ⟨ws, ⟨hl, hw⟩, he⟩ := ih (j + 1) vs (by omega) hv
        refine ⟨ws, ⟨hl, fun t ht => ?_⟩, ?_⟩
        · rw [hw t ht]
          by_cases htj : t = j
          · rw [if_neg (by omega), if_neg (fun h => by rw [htj, hx] at h; exact absurd h.2.2.2 (by decide))]
          · by_cases hc : j ≤ t ∧ t < j + (m + 1) ∧ t ≠ d ∧ (vs.getD t 0).testBit i = true
            · rw [if_pos hc, if_pos ⟨by omega, by omega, hc.2.2⟩]
            · rw [if_neg hc, if_neg (fun h => hc ⟨by omega, by omega, h.2.2⟩)]
        · simp only [ech_in, mrs_rd hjl]
          rw [bit_mr h0 h1 hvj hi, hx]
          simp only [Option.bind_some]
          exact Ev.congr (fun k => (if_neg hjd).trans (if_neg (by decide))) he
      | true =>
        have hxl : vs.getD j 0 ^^^ o < 2 ^ n.toNat := Nat.xor_lt_two_pow hvj ho
        obtain ⟨ws, ⟨hl, hw⟩, he⟩ := ih (j + 1) (vs.set j (vs.getD j 0 ^^^ o)) (by rw [List.length_set]; omega) (fun t ht => by
          rw [List.length_set] at ht
          rw [set_getD _ _ ht]
          by_cases e : j = t
          · rw [if_pos e]; exact hxl
          · rw [if_neg e]; exact hv t ht)
        rw [List.length_set] at hl hw
        refine ⟨ws, ⟨hl, fun t ht => ?_⟩, ?_⟩
        · rw [hw t ht, set_getD _ _ ht]
          by_cases htj : j = t
          · subst htj
            rw [if_pos rfl, if_neg (by omega), if_pos ⟨Nat.le_refl _, by omega, hjd, hx⟩]
          · rw [if_neg htj]
            by_cases hc : j ≤ t ∧ t < j + (m + 1) ∧ t ≠ d ∧ (vs.getD t 0).testBit i = true
            · rw [if_pos hc, if_pos ⟨by omega, by omega, hc.2.2⟩]
            · rw [if_neg hc, if_neg (fun h => hc ⟨by omega, by omega, h.2.2⟩)]
        · simp only [ech_in, mrs_rd hjl]
          rw [bit_mr h0 h1 hvj hi, hx]
          simp only [Option.bind_some]
          refine Ev.congr (fun k => (if_neg hjd).trans (if_pos trivial)) (Ev.bind (xor_mr h0 h1 hvj ho) ?_)
          have : (mrs n vs).set j ⟨n, words ((n + 63) / 64).toNat (vs.getD j 0 ^^^ o)⟩ = mrs n (vs.set j (vs.getD j 0 ^^^ o)) := mrs_set n vs j _
          show Ev (fun k => ech_in k (i : Int) d (mr n o) m (j + 1) ((mrs n vs).set j ⟨n, words ((n + 63) / 64).toNat (vs.getD j 0 ^^^ o)⟩)) _
          rw [this]; exact he

theorem drop_mrs (n : Int) (vs : List Nat) (d : Nat) : (mrs n vs).drop d = mrs n (vs.drop d) := by unfold mrs; rw [List.map_drop]
theorem drop_getD (vs : List Nat) (d b : Nat) : (vs.drop d).getD b 0 = vs.getD (d + b) 0 := by rw [List.getD_eq_getElem?_getD, List.getElem?_drop, ← List.getD_eq_getElem?_getD]
theorem swap_mrs {n : Int} {vs : List Nat} {d s : Nat} (hd : d < vs.length) (hs : s < vs.length) : ech_swap (mrs n vs) d s = mrs n (sw vs d s) := by
  unfold ech_swap sw
  rw [mrs_rd hd, mrs_rd hs, mrs_set, mrs_set]

theorem ech_out_spec {n : Int} (h0 : 0 ≤ n) (h1 : n ≤ 64) {vs0 : List Nat} (hl : vs0.length ≤ 64) (m : Nat) : ∀ (i d : Nat) (vs qs : List Nat), i + m = n.toNat → Inv n.toNat vs0 i vs d qs →
    ∃ d' vs' qs', Inv n.toNat vs0 n.toNat vs' d' qs' ∧ Ev (fun k => ech_out k m i (mrs n vs) d (qs.map fun (q : Nat) => (q : Int))) (mrs n vs', d', qs'.map fun (q : Nat) => (q : Int)) := by
  induction m with
  | zero =>
    intro i d vs qs hi h
    obtain rfl : i = n.toNat := by omega
    refine ⟨d, vs, qs, h, ?_⟩
    simp only [ech_out]
    exact Ev.now _
  | succ m ih =>
    intro i d vs qs hi h
    have hin : (i : Int) < n := by omega
    have hall := h.all
    have hdv : Lt n (vs.drop d) := fun t ht => by
      rw [List.length_drop] at ht
      rw [drop_getD]; exact h.lt _ (by omega)
    obtain ⟨p, hp, hp'⟩ := index_spec h0 h1 hdv (by rw [List.length_drop]; omega) hin
    have c1 : d ≤ (mrs n vs).length := by rw [mrs_len]; exact h.le
    rcases hp' with ⟨rfl, hno⟩ | ⟨b, rfl, hb, hbit⟩
    · obtain ⟨d', vs', qs', h', he⟩ := ih (i + 1) d vs qs (by omega) (h.skip fun b hb hbl => by
        have := hno (b - d) (by rw [List.length_drop]; omega)
        rwa [drop_getD, show d + (b - d) = b by omega] at this)
      refine ⟨d', vs', qs', h', ?_⟩
      simp only [ech_out, drop_mrs]
      exact Ev.congr (fun k => if_pos c1) (Ev.bind hp (Ev.congr (fun k => if_pos (by decide)) he))
    · rw [List.length_drop] at hb
      rw [drop_getD] at hbit
      have hs : d + b < vs.length := by omega
      have hd : d < vs.length := by omega
      have hso : (sw vs d (d + b)).getD d 0 = vs.getD (d + b) 0 := by
        rw [sw_get hd]
        by_cases e : d + b = d
        · rw [if_pos e, e]
        · rw [if_neg e, if_pos rfl]
      have hswl : Lt n (sw vs d (d + b)) := fun t ht => by
        rw [sw_len] at ht
        obtain ⟨c, hc, e, _⟩ := sw_from hd hs ht
        rw [e]; exact h.lt c hc
      obtain ⟨ws, hE, he⟩ := ech_in_spec h0 h1 (d := d) hin (h.lt _ hs) vs.length 0 (sw vs d (d + b)) (by rw [sw_len]; omega) hswl
      obtain ⟨d', vs', qs', h', he'⟩ := ih (i + 1) (d + 1) ws (qs ++ [i]) (by omega) (h.take (by omega) hs hbit hE)
      refine ⟨d', vs', qs', h', ?_⟩
      have c2 : ¬ ((b : Int) < 0) := by omega
      have c3 : d + (b : Int).toNat < (mrs n vs).length := by rw [mrs_len, Int.toNat_natCast]; exact hs
      simp only [ech_out, drop_mrs]
      refine Ev.congr (fun k => if_pos c1) (Ev.bind hp (Ev.congr (fun k => (if_neg c2).trans (if_pos c3)) ?_))
      rw [Int.toNat_natCast, swap_mrs hd hs, mrs_rd (by rw [sw_len]; exact hd), hso, mrs_len]
      refine Ev.bind he ?_
      rw [List.map_append] at he'
      exact he'

/-- What a matrix is reduced to: the one reduced list of its span. -/
def IsRed (vs : List Nat) (red : List (Nat × Nat)) : Prop := Red red ∧ ∀ w, Sp (rows red) w ↔ Sp vs w
theorem IsRed.unique {vs us : List Nat} {a b : List (Nat × Nat)} (ha : IsRed vs a) (hb : IsRed us b) (h : ∀ w, Sp vs w ↔ Sp us w) : a = b := ha.1.unique hb.1 fun v => by rw [ha.2, hb.2, h]
theorem IsRed.lt {n : Nat} {vs : List Nat} {red : List (Nat × Nat)} (h : IsRed vs red) (hv : ∀ v, v ∈ vs → v < 2 ^ n) {x : Nat × Nat} (hx : x ∈ red) : x.2 < 2 ^ n ∧ x.1 < n := by
  have h2 : x.2 < 2 ^ n := sp_lt hv ((h.2 _).1 (.of_mem (List.mem_map.2 ⟨x, hx, rfl⟩)))
  refine ⟨h2, ?_⟩
  have hf := (h.1.fst x hx).1
  rcases Nat.lt_or_ge x.1 n with hlt | hge
  · exact hlt
  · rw [Nat.testBit_lt_two_pow (Nat.lt_of_lt_of_le h2 (Nat.pow_le_pow_right (by decide) hge))] at hf
    cases hf

/-- The program's own answer. -/
def pcast (red : List (Nat × Nat)) : List Int := (places red).map fun (q : Nat) => (q : Int)
theorem pcastL (red : List (Nat × Nat)) : (pcast red).length = red.length := by unfold pcast places; rw [List.length_map, List.length_map]
theorem echelon_ok {n : Int} {vs : List Nat} (h0 : 0 ≤ n) (h1 : n ≤ 64) (hl : vs.length ≤ 64) (hv : Lt n vs) : ∃ red, IsRed vs red ∧ red.length ≤ vs.length ∧ Ev (fun k => reduce_Echelon.f k n (mrs n vs)) (n, mrs n (rows red), pcast red, 0) := by
  obtain ⟨b, hb, hb'⟩ := right_mat (n := n) (mrs_few h0 h1 hl hv)
  obtain rfl : b = true := hb'.2 (mrs_mrt h0 h1 hl hv)
  obtain ⟨d, us, qs, h, he⟩ := ech_out_spec h0 h1 hl n.toNat 0 0 vs [] (by omega) (Inv.start hv)
  obtain ⟨hr, hs, hp, hrow⟩ := h.done
  have hle := h.le
  have hall := h.all
  refine ⟨qs.zip (us.take d), ⟨hr, hs⟩, ?_, ?_⟩
  · rw [List.length_zip, List.length_take]; omega
  · unfold reduce_Echelon.f pcast
    rw [hp, hrow]
    refine Ev.bind hb (Ev.congr (fun k => (if_pos rfl).trans (if_pos ⟨h0, h1, by rw [mrs_len]; exact hl⟩)) ?_)
    refine Ev.bind he ?_
    have : (mrs n us).take d = mrs n (us.take d) := by unfold mrs; rw [List.map_take]
    show Ev (fun _ => some (n, (mrs n us).take d, _, 0)) _
    rw [this]
    exact Ev.now _
theorem echelon_arg {n : Int} {l : List S25} (hf : Few l) (h : ¬ MRt n l) : Ev (fun k => reduce_Echelon.f k n l) (0, [], [], 1) := by
  obtain ⟨b, hb, hb'⟩ := right_mat (n := n) hf
  have hbf : b = false := by
    cases b with
    | false => rfl
    | true => exact absurd (hb'.1 rfl) h
  subst hbf
  unfold reduce_Echelon.f
  exact Ev.bind hb (Ev.congr (fun k => if_neg (by decide)) (Ev.now _))
theorem rows_len (red : List (Nat × Nat)) : (rows red).length = red.length := List.length_map _
theorem rows_rd {n : Int} {red : List (Nat × Nat)} {i : Nat} (hi : i < red.length) : rd_T25 (mrs n (rows red)) (i : Int) = mr n (red[i]).2 := by
  rw [mrs_rd (by rw [rows_len]; exact hi)]
  unfold rows
  rw [List.getD_eq_getElem?_getD, List.getElem?_map, List.getElem?_eq_getElem hi]
  rfl
theorem left_lt {n : Nat} {l : List (Nat × Nat)} (h : ∀ x, x ∈ l → x.2 < 2 ^ n) : ∀ {v : Nat}, v < 2 ^ n → left l v < 2 ^ n := by
  induction l with
  | nil => exact fun hv => hv
  | cons x t ih =>
    intro v hv
    unfold left
    refine ih (fun y hy => h y (List.mem_cons_of_mem _ hy)) ?_
    by_cases hb : v.testBit x.1 = true
    · rw [if_pos hb]; exact Nat.xor_lt_two_pow hv (h x (by simp))
    · rw [if_neg hb]; exact hv
theorem rank_of {n : Int} {l : List S25} {r : Int × List S25 × List Int × Int} (h : Ev (fun k => reduce_Echelon.f k n l) r) : Ev (fun k => reduce_Rank.f k n l) ((r.2.2.1.length : Int), r.2.2.2) := by
  unfold reduce_Rank.f
  exact Ev.bind h (Ev.now _)
theorem alive04_spec : Ev (fun k => downpourlaw04_alive.f k) true := by
  obtain ⟨red, hr, hl, he⟩ := echelon_ok (n := 2) (vs := [3, 3]) (by decide) (by decide) (by decide) (fun t ht => by
    have : t = 0 ∨ t = 1 := by simp at ht; omega
    rcases this with rfl | rfl <;> decide)
  have hred : red = [(0, 3)] := by
    have h3 : Red [((0 : Nat), (3 : Nat))] := ⟨fun x hx => by
      obtain rfl := List.mem_singleton.1 hx
      exact ⟨by decide, fun q hq => by omega⟩, List.pairwise_singleton _ _, fun x hx y hy hne => by
      obtain rfl := List.mem_singleton.1 hx
      obtain rfl := List.mem_singleton.1 hy
      exact absurd rfl hne⟩
    refine hr.1.unique h3 fun v => ?_
    rw [hr.2]
    exact ⟨Sp.sub (fun a ha => by simpa using ha), Sp.sub (fun a ha => by simpa using ha)⟩
  subst hred
  unfold downpourlaw04_alive.f
  have hm : ([(⟨2, [3]⟩ : S25), ⟨2, [3]⟩] : List S25) = mrs 2 [3, 3] := rfl
  rw [hm]
  refine Ev.bind (rank_of he) ?_
  exact Ev.congr (fun k => if_pos rfl) (Ev.now true)
theorem cnt_eq_zero (m : Nat) : ∀ v, v < 2 ^ m → (Go.Proofs.YtfcedhejbnoinaaDoor.Pop.cnt m v = 0 ↔ v = 0) := by
  induction m with
  | zero => intro v hv; simp [Go.Proofs.YtfcedhejbnoinaaDoor.Pop.cnt]; omega
  | succ m ih =>
    intro v hv
    rw [Go.Proofs.YtfcedhejbnoinaaDoor.Pop.cnt]
    have := ih (v / 2) (by rw [Nat.pow_succ] at hv; omega)
    omega
theorem pcast_rd {red : List (Nat × Nat)} {i : Nat} (hi : i < red.length) : rd (pcast red) (i : Int) = ((red[i]).1 : Int) := by
  rw [rd_eq, Int.toNat_natCast]
  unfold pcast places
  rw [List.getD_eq_getElem?_getD, List.getElem?_map, List.getElem?_map, List.getElem?_eq_getElem hi]
  rfl
theorem pcast_len (red : List (Nat × Nat)) : (pcast red).length = red.length := by unfold pcast places; rw [List.length_map, List.length_map]
theorem spans_ok {n : Int} {vs : List Nat} (h0 : 0 ≤ n) (h1 : n ≤ 64) (hl : vs.length ≤ 64) (hv : Lt n vs) {v : Nat} (hvv : v < 2 ^ n.toNat) : ∃ t : Bool, Ev (fun k => reduce_Spans.f k n (mrs n vs) n (mr n v).f1) (t, 0) ∧ (t = true ↔ Sp vs v) := by
  obtain ⟨red, hr, hle, he⟩ := echelon_ok h0 h1 hl hv
  have hlen : red.length ≤ 64 := by omega
  have hlt : ∀ x, x ∈ red → x.2 < 2 ^ n.toNat ∧ (x.1 : Int) < n := fun x hx => by
    have := hr.lt (n := n.toNat) (fun u hu => hv.mem hu) hx
    exact ⟨this.1, by omega⟩
  obtain ⟨a, b, _⟩ := mr_rt h0 h1 hvv
  have hlb := rt_len b
  obtain ⟨q, hq, hq'⟩ := right_spec (n := n) a (by omega)
  obtain rfl : q = true := hq'.2 b
  have key : ∀ d i, i + d = red.length → ∀ v, v < 2 ^ n.toNat → Ev (fun k => reduce_Spans.l0 k (pcast red) ((pcast red).length : Int) (i : Int) n (mr n v).f1 n (mrs n (rows red))) ((((Go.Proofs.YtfcedhejbnoinaaDoor.Pop.cnt n.toNat (left (red.drop i) v) : Nat) : Int) == 0), 0) := by
    intro d
    induction d with
    | zero =>
      intro i hi v hv
      rw [List.drop_eq_nil_of_le (by omega)]
      refine up ?_
      simp only [reduce_Spans.l0, pcast_len]
      obtain ⟨a, b, c⟩ := mr_rt h0 h1 hv
      have hc := count_ok a b
      rw [c] at hc
      exact Ev.congr (fun k => if_neg (by omega)) (Ev.bind hc (Ev.now _))
    | succ d ih =>
      intro i hi v hv
      have hil : i < red.length := by omega
      have hx := hlt _ (List.getElem_mem hil)
      have c1 : (i : Int) < (red.length : Int) := by omega
      have c2 : (0 : Int) ≤ (i : Int) := Int.natCast_nonneg _
      have e1 : wrap64 ((i : Int) + 1) = ((i + 1 : Nat) : Int) := wrap_lt (by omega) (by omega)
      have hdrop : red.drop i = red[i] :: red.drop (i + 1) := List.drop_eq_getElem_cons hil
      rw [hdrop]
      unfold left
      refine up ?_
      simp only [reduce_Spans.l0, rows_rd hil, pcast_rd hil]
      simp only [pcast_len, mrs_len, rows_len] at ih ⊢
      refine Ev.congr (fun k => (if_pos c1).trans ((if_pos c2).trans ((if_pos c1).trans (bind_of (bit_mr h0 h1 hv hx.2))))) ?_
      by_cases hb : v.testBit (red[i]).1 = true
      · rw [if_pos hb]
        refine Ev.congr (fun k => (if_pos hb).trans (if_pos c1)) (Ev.bind (xor_mr h0 h1 hv hx.1) ?_)
        rw [e1]
        exact ih (i + 1) (by omega) _ (Nat.xor_lt_two_pow hv hx.1)
      · rw [if_neg hb]
        refine Ev.congr (fun k => if_neg hb) ?_
        rw [e1]
        exact ih (i + 1) (by omega) _ hv
  refine ⟨((Go.Proofs.YtfcedhejbnoinaaDoor.Pop.cnt n.toNat (left (red.drop 0) v) : Nat) : Int) == 0, ?_, ?_⟩
  · unfold reduce_Spans.f
    refine Ev.bind he (Ev.congr (fun k => (if_pos rfl).trans (bind_of hq)) (up ?_))
    simp only [reduce_Spans.j0]
    exact Ev.congr (fun k => (if_neg (by decide)).trans (if_pos (by first | rfl | trivial))) (key red.length 0 (by omega) v hvv)
  · rw [beq_iff_eq, ← hr.2, ← hr.1.left_zero_iff]
    have := cnt_eq_zero n.toNat (left red v) (left_lt (fun x hx => (hlt x hx).1) hvv)
    rw [List.drop_zero]
    omega
end Go.Proofs.YtfcedhejbnoinaaDoor.PureBit
