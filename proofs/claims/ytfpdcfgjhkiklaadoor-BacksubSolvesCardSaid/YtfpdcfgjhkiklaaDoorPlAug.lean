/- Equations as numbers: a row's bits, and behind them the bits of its block; what equations tell. No program in sight. -/
import Derived.Test.YtfpdcfgjhkiklaaDoorPlEch
import Derived.Test.YtfpdcfgjhkiklaaDoorPlBlk
set_option linter.unusedSimpArgs false
set_option linter.unusedVariables false
set_option autoImplicit false
namespace Go.PM.Lin
open Go Go.PM Go.PM.Blk

/-- Bytes as one number. -/
def bval : List Int → Nat
  | [] => 0
  | b :: t => b.toNat + 256 * bval t
theorem testBit_bval : ∀ {l : List Int}, ByteOk l → ∀ i, (bval l).testBit i = ((l.getD (i / 8) 0).toNat).testBit (i % 8)
  | [], _, i => by simp [bval]
  | b :: t, h, i => by
    have hb := h b List.mem_cons_self
    have ih := testBit_bval (l := t) (fun x hx => h x (List.mem_cons_of_mem _ hx))
    rw [bval, Nat.add_comm, show 256 * bval t = 2 ^ 8 * bval t from rfl, Nat.testBit_two_pow_mul_add _ (by omega)]
    by_cases hi : i < 8
    · rw [if_pos hi, Nat.div_eq_of_lt hi, Nat.mod_eq_of_lt hi]; rfl
    · rw [if_neg hi, ih, show i / 8 = (i - 8) / 8 + 1 by omega, show i % 8 = (i - 8) % 8 by omega]; rfl
theorem bval_lt : ∀ {l : List Int}, ByteOk l → bval l < 2 ^ (8 * l.length)
  | [], _ => by simp [bval]
  | b :: t, h => by
    have hb := h b List.mem_cons_self
    have ih := bval_lt (l := t) (fun x hx => h x (List.mem_cons_of_mem _ hx))
    rw [bval, List.length_cons, Nat.mul_add, Nat.pow_add]
    generalize 2 ^ (8 * t.length) = q at *
    omega
theorem byte_ext {x y : Int} (h0 : 0 ≤ x ∧ x < 256) (h1 : 0 ≤ y ∧ y < 256) (h : ∀ k, k < 8 → x.toNat.testBit k = y.toNat.testBit k) : x = y := by
  have : x.toNat = y.toNat := Nat.eq_of_testBit_eq fun k => by
    by_cases hk : k < 8
    · exact h k hk
    · rw [Nat.testBit_lt_two_pow (Nat.lt_of_lt_of_le (by omega : x.toNat < 2 ^ 8) (Nat.pow_le_pow_right (by decide) (by omega))), Nat.testBit_lt_two_pow (Nat.lt_of_lt_of_le (by omega : y.toNat < 2 ^ 8) (Nat.pow_le_pow_right (by decide) (by omega)))]
  omega
theorem bval_inj {a b : List Int} (ha : ByteOk a) (hb : ByteOk b) (hl : a.length = b.length) (h : bval a = bval b) : a = b := by
  refine ext_getD hl fun i _ => byte_ext (getD_ok ha i) (getD_ok hb i) fun k hk => ?_
  have h1 := testBit_bval ha (8 * i + k)
  have h2 := testBit_bval hb (8 * i + k)
  rw [show (8 * i + k) / 8 = i by omega, show (8 * i + k) % 8 = k by omega] at h1 h2
  rw [← h1, ← h2, h]
theorem bval_zb (n : Nat) : bval (zb n) = 0 := by
  refine Nat.eq_of_testBit_eq fun i => ?_
  rw [testBit_bval (zb_ok n), zb_getD]; simp
theorem bval_xb {a b : List Int} (ha : ByteOk a) (hb : ByteOk b) (hl : a.length = b.length) : bval (xb a b) = bval a ^^^ bval b := by
  refine Nat.eq_of_testBit_eq fun i => ?_
  rw [testBit_bval (xb_ok ha hb), Nat.testBit_xor, testBit_bval ha, testBit_bval hb, ← Nat.testBit_xor]
  congr 1
  by_cases h : i / 8 < a.length
  · have h1 := getD_ok ha (i / 8)
    have h2 := getD_ok hb (i / 8)
    rw [xb_getD h (by omega), x8_nat h1.1 h1.2 h2.1 h2.2, Int.toNat_natCast]
  · have e : ∀ l : List Int, l.length ≤ i / 8 → l.getD (i / 8) 0 = 0 := fun l hl => by rw [List.getD_eq_getElem?_getD, List.getElem?_eq_none hl]; rfl
    rw [e _ (by rw [xb_len]; omega), e _ (by omega), e _ (by omega)]; rfl
/-- A number as so many bytes. -/
def byts : Nat → Nat → List Int
  | 0, _ => []
  | n + 1, s => ((s % 256 : Nat) : Int) :: byts n (s / 256)
theorem byts_len : ∀ n s, (byts n s).length = n
  | 0, _ => rfl
  | n + 1, s => by rw [byts, List.length_cons, byts_len n]
theorem byts_ok : ∀ n s, ByteOk (byts n s)
  | 0, _ => fun x h => by simp [byts] at h
  | n + 1, s => fun x h => by
    rw [byts] at h
    rcases List.mem_cons.1 h with rfl | h
    · omega
    · exact byts_ok n _ x h
theorem bval_byts : ∀ n s, s < 2 ^ (8 * n) → bval (byts n s) = s
  | 0, s, h => by simp [byts, bval] at *; omega
  | n + 1, s, h => by
    rw [Nat.mul_add, Nat.pow_add] at h
    have := bval_byts n (s / 256) (by generalize 2 ^ (8 * n) = q at *; omega)
    rw [byts, bval, this, Int.toNat_natCast]; omega
theorem byts_bval {l : List Int} (h : ByteOk l) : byts l.length (bval l) = l := bval_inj (byts_ok _ _) h (byts_len _ _) (bval_byts _ _ (bval_lt h))

/-- A row's bits, and its block's behind them. -/
def aug (N v s : Nat) : Nat := 2 ^ N * s + v
def lo (N u : Nat) : Nat := u % 2 ^ N
def hi (N u : Nat) : Nat := u / 2 ^ N
theorem lo_aug {N v s : Nat} (h : v < 2 ^ N) : lo N (aug N v s) = v := by unfold lo aug; rw [Nat.mul_add_mod, Nat.mod_eq_of_lt h]
theorem hi_aug {N v s : Nat} (h : v < 2 ^ N) : hi N (aug N v s) = s := by unfold hi aug; rw [Nat.mul_add_div (Nat.two_pow_pos N), Nat.div_eq_of_lt h, Nat.add_zero]
theorem aug_lohi (N u : Nat) : aug N (lo N u) (hi N u) = u := by unfold aug lo hi; exact Nat.div_add_mod u (2 ^ N)
theorem lo_bit (N u i : Nat) : (lo N u).testBit i = (decide (i < N) && u.testBit i) := by unfold lo; exact Nat.testBit_mod_two_pow ..
theorem hi_bit (N u i : Nat) : (hi N u).testBit i = u.testBit (N + i) := by
  unfold hi
  rw [Nat.testBit_div_two_pow, Nat.add_comm]
theorem lo_xor (N u w : Nat) : lo N (u ^^^ w) = lo N u ^^^ lo N w := Nat.eq_of_testBit_eq fun i => by
  rw [lo_bit, Nat.testBit_xor, Nat.testBit_xor, lo_bit, lo_bit]
  cases decide (i < N) <;> simp
theorem hi_xor (N u w : Nat) : hi N (u ^^^ w) = hi N u ^^^ hi N w := Nat.eq_of_testBit_eq fun i => by
  rw [hi_bit, Nat.testBit_xor, Nat.testBit_xor, hi_bit, hi_bit]
theorem aug_xor {N v w s t : Nat} (hv : v < 2 ^ N) (hw : w < 2 ^ N) : aug N v s ^^^ aug N w t = aug N (v ^^^ w) (s ^^^ t) := by
  rw [← aug_lohi N (aug N v s ^^^ aug N w t), lo_xor, hi_xor, lo_aug hv, lo_aug hw, hi_aug hv, hi_aug hw]
theorem lo_lt (N u : Nat) : lo N u < 2 ^ N := Nat.mod_lt _ (Nat.two_pow_pos N)
theorem lo_zero (N : Nat) : lo N 0 = 0 := by unfold lo; simp
theorem aug_lt {N v s M : Nat} (hv : v < 2 ^ N) (hs : s < 2 ^ M) : aug N v s < 2 ^ (N + M) := by
  unfold aug
  rw [Nat.pow_add]
  have : 2 ^ N * (s + 1) ≤ 2 ^ N * 2 ^ M := Nat.mul_le_mul_left _ hs
  rw [Nat.mul_add] at this
  omega
theorem hi_lt {N M u : Nat} (h : u < 2 ^ (N + M)) : hi N u < 2 ^ M := by
  unfold hi
  rw [Nat.pow_add] at h
  exact Nat.div_lt_of_lt_mul h
theorem aug_zero {N v s : Nat} (hv : v < 2 ^ N) : aug N v s = 0 ↔ v = 0 ∧ s = 0 := by
  constructor
  · intro h
    have h1 := lo_aug (s := s) hv
    have h2 := hi_aug (s := s) hv
    rw [h] at h1 h2
    simp [lo, hi] at h1 h2
    exact ⟨h1.symm, h2.symm⟩
  · rintro ⟨rfl, rfl⟩; simp [aug]
theorem Sp.lo {N : Nat} {us : List Nat} {u : Nat} (h : Sp us u) : Sp (us.map (lo N)) (lo N u) := by
  induction h with
  | zero => rw [lo_zero]; exact .zero
  | step ha _ ih => rw [lo_xor]; exact .step (List.mem_map.2 ⟨_, ha, rfl⟩) ih
theorem Sp.up {N : Nat} {us : List Nat} {v : Nat} (h : Sp (us.map (Lin.lo N)) v) : ∃ u, Sp us u ∧ Lin.lo N u = v := by
  induction h with
  | zero => exact ⟨0, .zero, lo_zero N⟩
  | step ha _ ih =>
    obtain ⟨u, hu, rfl⟩ := ih
    obtain ⟨b, hb, rfl⟩ := List.mem_map.1 ha
    exact ⟨u ^^^ b, .step hb hu, lo_xor N u b⟩
/-- Can equations be so? -/
def Fit (N : Nat) (us : List Nat) : Prop := ∀ u, Sp us u → lo N u = 0 → u = 0
theorem Fit.unique {N : Nat} {us : List Nat} (h : Fit N us) {u w : Nat} (hu : Sp us u) (hw : Sp us w) (e : lo N u = lo N w) : u = w := xor_eq_zero (h _ (hu.xor hw) (by rw [lo_xor, e, Nat.xor_self]))
theorem Fit.sub {N : Nat} {us ws : List Nat} (h : Fit N us) (hs : ∀ a, a ∈ ws → a ∈ us) : Fit N ws := fun u hu e => h u (hu.sub hs) e

/-- What a matrix is reduced to. -/
def IsRed (vs : List Nat) (red : List (Nat × Nat)) : Prop := Red red ∧ ∀ w, Sp (rows red) w ↔ Sp vs w
theorem IsRed.unique {vs us : List Nat} {a b : List (Nat × Nat)} (ha : IsRed vs a) (hb : IsRed us b) (h : ∀ w, Sp vs w ↔ Sp us w) : a = b := ha.1.unique hb.1 fun v => by rw [ha.2, hb.2, h]
theorem red_nil : IsRed [] [] := ⟨⟨fun x h => by simp at h, List.Pairwise.nil, fun x h => by simp at h⟩, fun w => Iff.rfl⟩
theorem Sp.cons_zero {l : List Nat} {w : Nat} : Sp (0 :: l) w ↔ Sp l w := by
  constructor
  · refine Sp.mono fun a ha => ?_
    rcases List.mem_cons.1 ha with rfl | ha
    · exact .zero
    · exact .of_mem ha
  · exact Sp.sub fun a ha => List.mem_cons_of_mem _ ha
theorem IsRed.next {vs : List Nat} {red : List (Nat × Nat)} (h : IsRed vs red) (v : Nat) : ∃ r, IsRed (vs ++ [v]) r ∧ (left red v = 0 → r = red) ∧ ∀ p, IsFst (left red v) p → r = ins red p (left red v) := by
  have hspan : ∀ w, Sp (left red v :: rows red) w ↔ Sp (vs ++ [v]) w := fun w => by
    have hl := left_sp (l := red) v
    have hl' : Sp vs (left red v ^^^ v) := (h.2 _).1 hl
    constructor
    · refine Sp.mono fun a ha => ?_
      rcases List.mem_cons.1 ha with rfl | ha
      · have h1 : Sp (vs ++ [v]) (left red v ^^^ v) := hl'.sub fun a ha => List.mem_append_left _ ha
        have := h1.xor (.of_mem (List.mem_append_right vs (List.mem_singleton.2 rfl)))
        rwa [xor_back] at this
      · exact ((h.2 _).1 (.of_mem ha)).sub fun a ha => List.mem_append_left _ ha
    · refine Sp.mono fun a ha => ?_
      rcases List.mem_append.1 ha with ha | ha
      · exact ((h.2 _).2 (.of_mem ha)).sub fun a ha => List.mem_cons_of_mem _ ha
      · rw [List.mem_singleton] at ha
        subst ha
        have h1 : Sp (left red a :: rows red) (left red a ^^^ a) := hl.sub fun a ha => List.mem_cons_of_mem _ ha
        have h2 : Sp (left red a :: rows red) (left red a) := .of_mem List.mem_cons_self
        have := h2.xor h1
        rwa [← Nat.xor_assoc, Nat.xor_self, Nat.zero_xor] at this
  by_cases hz : left red v = 0
  · refine ⟨red, ⟨h.1, fun w => ?_⟩, fun _ => rfl, fun p hp => ?_⟩
    · rw [← hspan, hz, Sp.cons_zero]
    · have := hp.1
      rw [hz, Nat.zero_testBit] at this; cases this
  · obtain ⟨p, hp⟩ := exists_fst hz
    have hc : ∀ x, x ∈ red → (left red v).testBit x.1 = false := fun x hx => h.1.left_clear v hx
    have hne : ∀ x, x ∈ red → x.1 ≠ p := fun x hx e => by
      have := hc x hx
      rw [e, hp.1] at this; cases this
    exact ⟨ins red p (left red v), ⟨h.1.ins hp hc, fun w => by rw [ins_sp hne, hspan]⟩, fun e => absurd e hz, fun q hq => by rw [hp.unique hq]⟩
theorem red_exists (vs : List Nat) : ∃ red, IsRed vs red := by
  have key : ∀ (ws vs : List Nat) (red : List (Nat × Nat)), IsRed vs red → ∃ r, IsRed (vs ++ ws) r := by
    intro ws
    induction ws with
    | nil => intro vs red h; exact ⟨red, by rwa [List.append_nil]⟩
    | cons v ws ih =>
      intro vs red h
      obtain ⟨r, hr, _⟩ := h.next v
      obtain ⟨r', hr'⟩ := ih _ _ hr
      exact ⟨r', by rwa [List.append_assoc] at hr'⟩
  obtain ⟨r, hr⟩ := key vs [] [] red_nil
  exact ⟨r, hr⟩
noncomputable def red (vs : List Nat) : List (Nat × Nat) := Classical.choose (red_exists vs)
theorem red_is (vs : List Nat) : IsRed vs (red vs) := Classical.choose_spec (red_exists vs)
theorem red_eq {vs : List Nat} {r : List (Nat × Nat)} (h : IsRed vs r) : red vs = r := (red_is vs).unique h fun _ => Iff.rfl
theorem red_congr {vs us : List Nat} (h : ∀ w, Sp vs w ↔ Sp us w) : red vs = red us := (red_is vs).unique (red_is us) h
theorem sp_lt {n : Nat} {vs : List Nat} (h : ∀ v, v ∈ vs → v < 2 ^ n) {w : Nat} (hw : Sp vs w) : w < 2 ^ n := by
  induction hw with
  | zero => exact Nat.two_pow_pos n
  | step ha _ ih => exact Nat.xor_lt_two_pow ih (h _ ha)
theorem IsRed.lt {n : Nat} {vs : List Nat} {red : List (Nat × Nat)} (h : IsRed vs red) (hv : ∀ v, v ∈ vs → v < 2 ^ n) {x : Nat × Nat} (hx : x ∈ red) : x.2 < 2 ^ n ∧ x.1 < n := by
  have h2 : x.2 < 2 ^ n := sp_lt hv ((h.2 _).1 (.of_mem (List.mem_map.2 ⟨x, hx, rfl⟩)))
  refine ⟨h2, ?_⟩
  have hf := (h.1.fst x hx).1
  rcases Nat.lt_or_ge x.1 n with hlt | hge
  · exact hlt
  · rw [Nat.testBit_lt_two_pow (Nat.lt_of_lt_of_le h2 (Nat.pow_le_pow_right (by decide) hge))] at hf
    cases hf
/-- A reduced list has no more rows than bits. -/
theorem inc_len : ∀ (l : List (Nat × Nat)) (a n : Nat), l.Pairwise (fun x y => x.1 < y.1) → (∀ x, x ∈ l → a ≤ x.1 ∧ x.1 < n) → l.length ≤ n - a
  | [], a, n, _, _ => Nat.zero_le _
  | x :: t, a, n, hp, h => by
    rw [List.pairwise_cons] at hp
    have hx := h x List.mem_cons_self
    have := inc_len t (x.1 + 1) n hp.2 fun y hy => ⟨hp.1 y hy, (h y (List.mem_cons_of_mem _ hy)).2⟩
    rw [List.length_cons]; omega
theorem IsRed.len {n : Nat} {vs : List Nat} {red : List (Nat × Nat)} (h : IsRed vs red) (hv : ∀ v, v ∈ vs → v < 2 ^ n) : red.length ≤ n := by
  have := inc_len red 0 n h.1.inc fun x hx => ⟨Nat.zero_le _, (h.lt hv hx).2⟩
  omega
/-- The reduced list that spans all: each bit alone. -/
theorem inc_full : ∀ (l : List (Nat × Nat)) (a n : Nat), l.Pairwise (fun x y => x.1 < y.1) → (∀ x, x ∈ l → a ≤ x.1 ∧ x.1 < n) → a ≤ n → l.length = n - a → l.map (·.1) = (List.range (n - a)).map (· + a)
  | [], a, n, _, _, _, h => by
    have : n - a = 0 := h.symm
    rw [this]; rfl
  | x :: t, a, n, hp, h, ha, hl => by
    rw [List.pairwise_cons] at hp
    have hx := h x List.mem_cons_self
    rw [List.length_cons] at hl
    have hle := inc_len t (x.1 + 1) n hp.2 fun y hy => ⟨hp.1 y hy, (h y (List.mem_cons_of_mem _ hy)).2⟩
    have hxa : x.1 = a := by omega
    have ih := inc_full t (a + 1) n hp.2 (fun y hy => by
      have h1 := hp.1 y hy
      have h2 := (h y (List.mem_cons_of_mem _ hy)).2
      omega) (by omega) (by omega)
    rw [List.map_cons, ih, hxa, show n - a = (n - (a + 1)) + 1 by omega, List.range_succ_eq_map, List.map_cons, List.map_map]
    congr 1
    · omega
    · refine List.map_congr_left fun i _ => ?_
      show i + (a + 1) = i + 1 + a
      omega
theorem Red.alone {l : List (Nat × Nat)} {n : Nat} (h : Red l) (hn : places l = List.range n) (hv : ∀ x, x ∈ l → x.2 < 2 ^ n) {x : Nat × Nat} (hx : x ∈ l) : x.2 = 2 ^ x.1 := by
  refine Nat.eq_of_testBit_eq fun i => ?_
  rw [Nat.testBit_two_pow]
  by_cases hi : x.1 = i
  · subst hi; rw [(h.fst x hx).1]; simp
  · rw [decide_eq_false hi]
    rcases Nat.lt_or_ge i n with hlt | hge
    · have : i ∈ places l := by rw [hn]; exact List.mem_range.2 hlt
      obtain ⟨y, hy, rfl⟩ := List.mem_map.1 this
      exact h.own y hy x hx (Ne.symm hi)
    · exact Nat.testBit_lt_two_pow (Nat.lt_of_lt_of_le (hv x hx) (Nat.pow_le_pow_right (by decide) hge))

/-! Elimination of equations, at their rows' places alone. -/
theorem Inv.zipmem {n i d : Nat} {vs0 vs qs : List Nat} (h : Inv n vs0 i vs d qs) {x : Nat × Nat} : x ∈ qs.zip (vs.take d) ↔ ∃ a, a < d ∧ x = (qs.getD a 0, vs.getD a 0) := by
  have hl1 : (vs.take d).length = d := by rw [List.length_take]; have := h.le; omega
  have hg : ∀ a, a < d → (qs.zip (vs.take d))[a]? = some (qs.getD a 0, vs.getD a 0) := fun a ha => by
    have hle := h.le
    have hlen := h.len
    rw [List.getElem?_zip_eq_some]
    refine ⟨?_, ?_⟩
    · rw [List.getD_eq_getElem?_getD, List.getElem?_eq_getElem (by omega)]; rfl
    · show _ = some (vs.getD a 0)
      rw [List.getElem?_take, if_pos ha, List.getD_eq_getElem?_getD, List.getElem?_eq_getElem (by omega)]; rfl
  rw [List.mem_iff_getElem?]
  constructor
  · rintro ⟨a, ha⟩
    have hlt : a < d := by
      obtain ⟨hlt, _⟩ := List.getElem?_eq_some_iff.1 ha
      rw [List.length_zip, hl1] at hlt
      omega
    rw [hg a hlt] at ha
    exact ⟨a, hlt, (Option.some.inj ha).symm⟩
  · rintro ⟨a, ha, rfl⟩
    exact ⟨a, hg a ha⟩
theorem Inv.nodup {n i d : Nat} {vs0 vs qs : List Nat} (h : Inv n vs0 i vs d qs) : (qs.zip (vs.take d)).Pairwise fun x y => x.1 < y.1 := by
  have hl1 : (vs.take d).length = d := by rw [List.length_take]; have := h.le; omega
  rw [List.pairwise_iff_getElem]
  intro a b ha hb hab
  rw [List.length_zip, hl1, h.len, Nat.min_self] at ha hb
  rw [List.getElem_zip, List.getElem_zip]
  have := h.inc a b hab hb
  rw [List.getD_eq_getElem?_getD, List.getD_eq_getElem?_getD, List.getElem?_eq_getElem (by rw [h.len]; omega), List.getElem?_eq_getElem (by rw [h.len]; omega)] at this
  exact this
/-- Without the done rows' share an element is spanned by the rows behind them. -/
theorem Inv.share {n i d : Nat} {vs0 vs qs : List Nat} (h : Inv n vs0 i vs d qs) {u : Nat} (hu : Sp vs u) : Sp (vs.drop d) (u ^^^ comb u (qs.zip (vs.take d))) := by
  induction hu with
  | zero =>
    rw [comb_zero fun x _ => Nat.zero_testBit _]; exact .zero
  | @step a v ha _ ih =>
    have e : ∀ p q r s : Nat, (p ^^^ q) ^^^ (r ^^^ s) = (p ^^^ r) ^^^ (q ^^^ s) := fun p q r s => by
      rw [Nat.xor_assoc, Nat.xor_assoc, ← Nat.xor_assoc q, Nat.xor_comm q r, Nat.xor_assoc r]
    rw [comb_xor, e]
    obtain ⟨t, ht, rfl⟩ := mem_getD.1 ha
    have hnd : (qs.zip (vs.take d)).Nodup := h.nodup.imp fun hlt e => by subst e; exact absurd hlt (Nat.lt_irrefl _)
    by_cases htd : t < d
    · have : comb (vs.getD t 0) (qs.zip (vs.take d)) = vs.getD t 0 := by
        refine comb_one (x := (qs.getD t 0, vs.getD t 0)) hnd (h.zipmem.2 ⟨t, htd, rfl⟩) (h.fst t htd).1 fun y hy hne => ?_
        obtain ⟨b, hb, rfl⟩ := h.zipmem.1 hy
        exact h.own b t hb ht fun e => hne (by rw [e])
      rw [this, Nat.xor_self, Nat.xor_zero]; exact ih
    · have : comb (vs.getD t 0) (qs.zip (vs.take d)) = 0 := comb_zero fun y hy => by
        obtain ⟨b, hb, rfl⟩ := h.zipmem.1 hy
        exact h.own b t hb ht (by omega)
      rw [this, Nat.xor_zero]
      refine .step ?_ ih
      rw [List.mem_iff_getElem?]
      exact ⟨t - d, by rw [List.getElem?_drop, show d + (t - d) = t by omega, List.getD_eq_getElem?_getD, List.getElem?_eq_getElem ht]; rfl⟩
theorem Inv.low {n i d : Nat} {vs0 vs qs : List Nat} (h : Inv n vs0 i vs d qs) {u : Nat} (hu : Sp vs u) (hp : ∀ a, a < d → u.testBit (qs.getD a 0) = false) {q : Nat} (hq : q < i) : u.testBit q = false := by
  have := h.share hu
  rw [comb_zero fun x hx => by
    obtain ⟨a, ha, rfl⟩ := h.zipmem.1 hx
    exact hp a ha, Nat.xor_zero] at this
  clear hu hp
  induction this with
  | zero => exact Nat.zero_testBit _
  | step ha _ ih =>
    rw [Nat.testBit_xor, ih]
    obtain ⟨t, ht⟩ := List.mem_iff_getElem?.1 ha
    rw [List.getElem?_drop] at ht
    obtain ⟨hlt, he⟩ := List.getElem?_eq_some_iff.1 ht
    have := h.rest (d + t) q (by omega) hlt hq
    rw [List.getD_eq_getElem?_getD, ht] at this
    exact (by simpa using this)
/-- A column is one of the places just if a row that is not done has it. -/
theorem Inv.has {N M i d : Nat} {us0 us qs : List Nat} (h : Inv M us0 i us d qs) (hiN : i < N) : (∃ x, x ∈ red (us0.map (lo N)) ∧ x.1 = i) ↔ ∃ b, d ≤ b ∧ b < us.length ∧ (us.getD b 0).testBit i = true := by
  have hR := red_is (us0.map (lo N))
  constructor
  · rintro ⟨x, hx, rfl⟩
    apply Classical.byContradiction
    intro hno
    have hsk := h.skip fun b hb hl => by
      cases hc : (us.getD b 0).testBit x.1 with
      | false => rfl
      | true => exact absurd ⟨b, hb, hl, hc⟩ hno
    obtain ⟨u, hu, e⟩ := Sp.up ((hR.2 _).1 (.of_mem (List.mem_map.2 ⟨x, hx, rfl⟩)))
    have hf := hR.1.fst x hx
    have hb : ∀ q, q < N → u.testBit q = x.2.testBit q := fun q hq => by
      have := lo_bit N u q
      rw [e, decide_eq_true hq, Bool.true_and] at this
      exact this.symm
    have := hsk.low ((h.sp u).2 hu) (fun a ha => by
      have hpl := h.pl a ha
      rw [hb _ (by omega)]; exact hf.2 _ hpl) (Nat.lt_succ_self x.1)
    rw [hb _ hiN, hf.1] at this
    cases this
  · rintro ⟨b, hb, hl, hc⟩
    refine hR.1.fst_mem (v := lo N (us.getD b 0)) ((hR.2 _).2 (Sp.lo ((h.sp _).1 (.of_mem (mem_getD.2 ⟨b, hl, rfl⟩))))) ⟨?_, fun q hq => ?_⟩
    · rw [lo_bit, hc, decide_eq_true hiN]; rfl
    · rw [lo_bit, h.rest b q hb hl hq, Bool.and_false]
/-- Columns between two places are passed by. -/
theorem Inv.pass {N M : Nat} {us0 us qs : List Nat} {d : Nat} : ∀ (k i : Nat), Inv M us0 i us d qs → i + k ≤ N → (∀ j, i ≤ j → j < i + k → ∀ x, x ∈ red (us0.map (lo N)) → x.1 ≠ j) → Inv M us0 (i + k) us d qs
  | 0, i, h, _, _ => h
  | k + 1, i, h, hN, hno => by
    have := h.skip fun b hb hl => by
      cases hc : (us.getD b 0).testBit i with
      | false => rfl
      | true =>
        obtain ⟨x, hx, e⟩ := (h.has (N := N) (by omega)).2 ⟨b, hb, hl, hc⟩
        exact absurd e (hno i (Nat.le_refl _) (by omega) x hx)
    have := Inv.pass k (i + 1) this (by omega) fun j hj hj2 => hno j (by omega) (by omega)
    rwa [show i + 1 + k = i + (k + 1) by omega] at this
/-- When all columns are done: equations can be so just if nothing is left of the others' blocks. -/
theorem Inv.fits {N M d : Nat} {us0 us qs : List Nat} (h : Inv M us0 N us d qs) (hNM : N ≤ M) : Fit N us0 ↔ ∀ b, d ≤ b → b < us.length → us.getD b 0 = 0 := by
  constructor
  · intro hF b hb hl
    refine hF _ ((h.sp _).1 (.of_mem (mem_getD.2 ⟨b, hl, rfl⟩))) (eq_zero_of_testBit fun i => ?_)
    rw [lo_bit]
    by_cases hi : i < N
    · rw [h.rest b i hb hl hi, Bool.and_false]
    · rw [decide_eq_false hi]; rfl
  · intro hz u hu e
    have h2 := h.share ((h.sp u).2 hu)
    rw [comb_zero fun x hx => by
      obtain ⟨a, ha, rfl⟩ := h.zipmem.1 hx
      have := lo_bit N u (qs.getD a 0)
      rw [e, Nat.zero_testBit, decide_eq_true (h.pl a ha), Bool.true_and] at this
      exact this.symm, Nat.xor_zero] at h2
    clear e hu
    induction h2 with
    | zero => rfl
    | step ha _ ih =>
      obtain ⟨t, ht⟩ := List.mem_iff_getElem?.1 ha
      rw [List.getElem?_drop] at ht
      obtain ⟨hlt, he⟩ := List.getElem?_eq_some_iff.1 ht
      have := hz (d + t) (by omega) hlt
      rw [List.getD_eq_getElem?_getD, ht] at this
      have this : _ = 0 := this
      rw [ih]
      simpa using this
/-- Equations that can be so: what is done is what they are reduced to, and their rows are what these are reduced to. -/
theorem Inv.reds {N M d : Nat} {us0 us qs : List Nat} (h : Inv M us0 N us d qs) (hNM : N ≤ M) : IsRed (us0.map (lo N)) (qs.zip ((us.take d).map (lo N))) := by
  have hl1 : (us.take d).length = d := by rw [List.length_take]; have := h.le; omega
  have hz : qs.zip ((us.take d).map (lo N)) = (qs.zip (us.take d)).map fun x => (x.1, lo N x.2) := by
    rw [List.zip_map_right]; rfl
  have hr : rows (qs.zip ((us.take d).map (lo N))) = (us.take d).map (lo N) := List.map_snd_zip (by rw [List.length_map, hl1, h.len]; exact Nat.le_refl _)
  refine ⟨⟨fun x hx => ?_, ?_, fun x hx y hy hne => ?_⟩, fun w => ?_⟩
  · rw [hz] at hx
    obtain ⟨z, hz1, rfl⟩ := List.mem_map.1 hx
    obtain ⟨a, ha, rfl⟩ := h.zipmem.1 hz1
    have hf := h.fst a ha
    have hp := h.pl a ha
    exact ⟨by rw [lo_bit, hf.1, decide_eq_true hp]; rfl, fun q hq => by rw [lo_bit, hf.2 q hq, Bool.and_false]⟩
  · rw [hz, List.pairwise_map]
    exact h.nodup
  · rw [hz] at hx hy
    obtain ⟨z, hz1, rfl⟩ := List.mem_map.1 hx
    obtain ⟨z', hz2, rfl⟩ := List.mem_map.1 hy
    obtain ⟨a, ha, rfl⟩ := h.zipmem.1 hz1
    obtain ⟨b, hb, rfl⟩ := h.zipmem.1 hz2
    have hle := h.le
    show (lo N (us.getD b 0)).testBit (qs.getD a 0) = false
    rw [lo_bit, h.own a b ha (by omega) (fun e => hne (by rw [e])), Bool.and_false]
  · rw [hr]
    constructor
    · intro hw
      obtain ⟨u, hu, rfl⟩ := Sp.up hw
      exact Sp.lo ((h.sp u).1 (hu.sub fun a ha => List.mem_of_mem_take ha))
    · intro hw
      obtain ⟨u, hu, rfl⟩ := Sp.up hw
      replace hu := (h.sp u).2 hu
      clear hw
      induction hu with
      | zero => rw [lo_zero]; exact .zero
      | step ha _ ih =>
        rw [lo_xor]
        obtain ⟨t, ht, rfl⟩ := mem_getD.1 ha
        by_cases htd : t < d
        · refine .step (List.mem_map.2 ⟨_, ?_, rfl⟩) ih
          rw [List.mem_iff_getElem?]
          exact ⟨t, by rw [List.getElem?_take, if_pos htd, List.getD_eq_getElem?_getD, List.getElem?_eq_getElem ht]; rfl⟩
        · have : lo N (us.getD t 0) = 0 := eq_zero_of_testBit fun i => by
            rw [lo_bit]
            by_cases hi : i < N
            · rw [h.rest t i (by omega) ht hi, Bool.and_false]
            · rw [decide_eq_false hi]; rfl
          rw [this, Nat.xor_zero]; exact ih
end Go.PM.Lin
