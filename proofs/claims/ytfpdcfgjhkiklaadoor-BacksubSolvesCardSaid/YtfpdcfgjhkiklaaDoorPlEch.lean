/- Rows reduced column by column (each is put behind the done ones, and taken out of all others): what comes is reduced and spans the same. No program in sight. -/
import Derived.Test.YtfpdcfgjhkiklaaDoorPlLin
set_option linter.unusedSimpArgs false
set_option linter.unusedVariables false
set_option autoImplicit false
namespace Go.PM.Lin

theorem mem_getD {vs : List Nat} {x : Nat} : x ∈ vs ↔ ∃ t, t < vs.length ∧ vs.getD t 0 = x := by
  rw [List.mem_iff_getElem]
  constructor
  · rintro ⟨t, h, e⟩; exact ⟨t, h, by rw [List.getD_eq_getElem?_getD, List.getElem?_eq_getElem h]; exact e⟩
  · rintro ⟨t, h, e⟩; exact ⟨t, h, by rw [List.getD_eq_getElem?_getD, List.getElem?_eq_getElem h] at e; exact e⟩

def sw (vs : List Nat) (d s : Nat) : List Nat := (vs.set d (vs.getD s 0)).set s (vs.getD d 0)
theorem sw_len (vs : List Nat) (d s : Nat) : (sw vs d s).length = vs.length := by unfold sw; rw [List.length_set, List.length_set]
theorem set_getD {vs : List Nat} {i : Nat} (v t : Nat) (ht : t < vs.length) : (vs.set i v).getD t 0 = if i = t then v else vs.getD t 0 := by
  rw [List.getD_eq_getElem?_getD, List.getElem?_set, List.getD_eq_getElem?_getD]
  by_cases e : i = t
  · subst e; rw [if_pos rfl, if_pos ht, if_pos rfl]; rfl
  · rw [if_neg e, if_neg e]
theorem sw_get {vs : List Nat} {d s t : Nat} (ht : t < vs.length) : (sw vs d s).getD t 0 = if s = t then vs.getD d 0 else if d = t then vs.getD s 0 else vs.getD t 0 := by
  unfold sw
  rw [set_getD _ _ (by rw [List.length_set]; exact ht), set_getD _ _ ht]
/-- Where a row came from. -/
theorem sw_from {vs : List Nat} {d s t : Nat} (hd : d < vs.length) (hs : s < vs.length) (ht : t < vs.length) : ∃ c, c < vs.length ∧ (sw vs d s).getD t 0 = vs.getD c 0 ∧ (t ≠ d → t ≠ s → c = t) ∧ (t = d → c = s) ∧ (t = s → t ≠ d → c = d) := by
  rw [sw_get ht]
  by_cases e1 : s = t
  · by_cases e2 : d = t
    · rw [if_pos e1]; exact ⟨d, hd, rfl, fun _ _ => by omega, fun _ => by omega, fun _ _ => rfl⟩
    · rw [if_pos e1]; exact ⟨d, hd, rfl, fun _ _ => by omega, fun _ => by omega, fun _ _ => rfl⟩
  · rw [if_neg e1]
    by_cases e2 : d = t
    · rw [if_pos e2]; exact ⟨s, hs, rfl, fun _ _ => by omega, fun _ => rfl, fun _ _ => by omega⟩
    · rw [if_neg e2]; exact ⟨t, ht, rfl, fun _ _ => rfl, fun _ => by omega, fun _ _ => by omega⟩

/-- Row o, taken out of all rows of these places but d that have its bit i. -/
def Elim (vs : List Nat) (i d o j m : Nat) (ws : List Nat) : Prop := ws.length = vs.length ∧ ∀ t, t < vs.length → ws.getD t 0 = if j ≤ t ∧ t < j + m ∧ t ≠ d ∧ (vs.getD t 0).testBit i = true then vs.getD t 0 ^^^ o else vs.getD t 0

structure Inv (n : Nat) (vs0 : List Nat) (i : Nat) (vs : List Nat) (d : Nat) (qs : List Nat) : Prop where
  le : d ≤ vs.length
  len : qs.length = d
  all : vs.length = vs0.length
  lt : ∀ t, t < vs.length → vs.getD t 0 < 2 ^ n
  pl : ∀ a, a < d → qs.getD a 0 < i
  inc : ∀ a b, a < b → b < d → qs.getD a 0 < qs.getD b 0
  fst : ∀ a, a < d → IsFst (vs.getD a 0) (qs.getD a 0)
  own : ∀ a b, a < d → b < vs.length → b ≠ a → (vs.getD b 0).testBit (qs.getD a 0) = false
  rest : ∀ b q, d ≤ b → b < vs.length → q < i → (vs.getD b 0).testBit q = false
  sp : ∀ w, Sp vs w ↔ Sp vs0 w

theorem Inv.start {n : Nat} {vs : List Nat} (h : ∀ t, t < vs.length → vs.getD t 0 < 2 ^ n) : Inv n vs 0 vs 0 [] where
  le := Nat.zero_le _
  len := rfl
  all := rfl
  lt := h
  pl := fun a h => by omega
  inc := fun a b _ h => by omega
  fst := fun a h => by omega
  own := fun a b h => by omega
  rest := fun b q _ _ h => by omega
  sp := fun w => Iff.rfl

theorem Inv.skip {n i d : Nat} {vs0 vs qs : List Nat} (h : Inv n vs0 i vs d qs) (hn : ∀ b, d ≤ b → b < vs.length → (vs.getD b 0).testBit i = false) : Inv n vs0 (i + 1) vs d qs :=
  { h with
    pl := fun a ha => by have := h.pl a ha; omega
    rest := fun b q hb hl hq => by
      rcases Nat.lt_succ_iff_lt_or_eq.1 hq with hq | rfl
      · exact h.rest b q hb hl hq
      · exact hn b hb hl }

theorem snoc_getD {qs : List Nat} {i a : Nat} : (qs ++ [i]).getD a 0 = if a < qs.length then qs.getD a 0 else if a = qs.length then i else 0 := by
  rw [List.getD_eq_getElem?_getD, List.getD_eq_getElem?_getD, List.getElem?_append]
  by_cases h : a < qs.length
  · rw [if_pos h, if_pos h]
  · rw [if_neg h, if_neg h]
    by_cases e : a = qs.length
    · rw [if_pos e, e, Nat.sub_self]; rfl
    · rw [if_neg e, List.getElem?_eq_none (by simp; omega)]; rfl

theorem Inv.take {n i d s : Nat} {vs0 vs qs ws : List Nat} (h : Inv n vs0 i vs d qs) (hds : d ≤ s) (hs : s < vs.length) (hb : (vs.getD s 0).testBit i = true) (hE : Elim (sw vs d s) i d (vs.getD s 0) 0 vs.length ws) : Inv n vs0 (i + 1) ws (d + 1) (qs ++ [i]) := by
  have hd : d < vs.length := by omega
  obtain ⟨hwl, hw⟩ := hE
  rw [sw_len] at hwl hw
  obtain ⟨o, ho⟩ : ∃ o, vs.getD s 0 = o := ⟨_, rfl⟩
  rw [ho] at hw hb
  have holt : o < 2 ^ n := ho ▸ h.lt s hs
  have horest : ∀ q, q < i → o.testBit q = false := fun q hq => ho ▸ h.rest s q hds hs hq
  have hoown : ∀ a, a < d → o.testBit (qs.getD a 0) = false := fun a ha => ho ▸ h.own a s ha hs (by omega)
  -- a row behind the step: a row of before, with or without o
  have key : ∀ t, t < vs.length → ∃ c, c < vs.length ∧ (t ≠ d → t ≠ s → c = t) ∧ (t = d → c = s) ∧ (t = s → t ≠ d → c = d) ∧ (ws.getD t 0 = vs.getD c 0 ∧ (t ≠ d → (vs.getD c 0).testBit i = false) ∨ t ≠ d ∧ (vs.getD c 0).testBit i = true ∧ ws.getD t 0 = vs.getD c 0 ^^^ o) := by
    intro t ht
    obtain ⟨c, hc, e, h1, h2, h3⟩ := sw_from hd hs ht
    refine ⟨c, hc, h1, h2, h3, ?_⟩
    rw [hw t ht, e]
    by_cases hcond : 0 ≤ t ∧ t < 0 + vs.length ∧ t ≠ d ∧ (vs.getD c 0).testBit i = true
    · rw [if_pos hcond]; exact .inr ⟨hcond.2.2.1, hcond.2.2.2, rfl⟩
    · rw [if_neg hcond]
      refine .inl ⟨rfl, fun htd => ?_⟩
      cases hx : (vs.getD c 0).testBit i with
      | false => rfl
      | true => exact absurd ⟨Nat.zero_le _, by omega, htd, hx⟩ hcond
  have hdo : ws.getD d 0 = o := by
    obtain ⟨c, _, _, h2, _, h4⟩ := key d hd
    rw [h2 rfl] at h4
    rcases h4 with ⟨e, _⟩ | ⟨e, _⟩
    · rw [e, ho]
    · exact absurd rfl e
  have hqa : ∀ a, a < d → (qs ++ [i]).getD a 0 = qs.getD a 0 := fun a ha => by rw [snoc_getD, if_pos (by rw [h.len]; exact ha)]
  have hqd : (qs ++ [i]).getD d 0 = i := by rw [snoc_getD, h.len, if_neg (by omega), if_pos rfl]
  refine { le := by omega, len := by simp [h.len], all := by rw [hwl, h.all], lt := ?_, pl := ?_, inc := ?_, fst := ?_, own := ?_, rest := ?_, sp := ?_ }
  · intro t ht
    obtain ⟨c, hc, _, _, _, h4⟩ := key t (by omega)
    rcases h4 with ⟨e, _⟩ | ⟨_, _, e⟩
    · rw [e]; exact h.lt c hc
    · rw [e]; exact Nat.xor_lt_two_pow (h.lt c hc) holt
  · intro a ha
    rcases Nat.lt_succ_iff_lt_or_eq.1 ha with ha | rfl
    · rw [hqa a ha]; have := h.pl a ha; omega
    · rw [hqd]; omega
  · intro a b hab hb'
    rcases Nat.lt_succ_iff_lt_or_eq.1 hb' with hb' | rfl
    · rw [hqa a (by omega), hqa b hb']; exact h.inc a b hab hb'
    · rw [hqa a hab, hqd]; exact h.pl a hab
  · intro a ha
    rcases Nat.lt_succ_iff_lt_or_eq.1 ha with ha | rfl
    · rw [hqa a ha]
      obtain ⟨c, hc, h1, _, _, h4⟩ := key a (by omega)
      obtain rfl := h1 (by omega) (by omega)
      have hf := h.fst c ha
      have hp := h.pl c ha
      rcases h4 with ⟨e, _⟩ | ⟨_, _, e⟩
      · rw [e]; exact hf
      · rw [e]
        refine ⟨by rw [Nat.testBit_xor, hf.1, hoown c ha]; rfl, fun q hq => ?_⟩
        rw [Nat.testBit_xor, hf.2 q hq, horest q (by omega)]; rfl
    · rw [hqd, hdo]
      exact ⟨hb, horest⟩
  · intro a b ha hb' hab
    rcases Nat.lt_succ_iff_lt_or_eq.1 ha with ha | rfl
    · rw [hqa a ha]
      obtain ⟨c, hc, h1, h2, h3, h4⟩ := key b (by omega)
      have hca : c ≠ a := by
        by_cases e1 : b = d
        · have := h2 e1; omega
        · by_cases e2 : b = s
          · have := h3 e2 e1; omega
          · have := h1 e1 e2; omega
      have hz := h.own a c ha hc hca
      rcases h4 with ⟨e, _⟩ | ⟨_, _, e⟩
      · rw [e]; exact hz
      · rw [e, Nat.testBit_xor, hz, hoown a ha]; rfl
    · rw [hqd]
      obtain ⟨c, hc, _, _, _, h4⟩ := key b (by omega)
      rcases h4 with ⟨e, hz⟩ | ⟨_, hz, e⟩
      · rw [e]; exact hz hab
      · rw [e, Nat.testBit_xor, hz, hb]; rfl
  · intro b q hb' hl hq
    obtain ⟨c, hc, h1, _, h3, h4⟩ := key b (by omega)
    have hcd : d ≤ c := by
      by_cases e2 : b = s
      · have := h3 e2 (by omega); omega
      · have := h1 (by omega) e2; omega
    rcases Nat.lt_succ_iff_lt_or_eq.1 hq with hq | rfl
    · have hz := h.rest c q hcd hc hq
      rcases h4 with ⟨e, _⟩ | ⟨_, _, e⟩
      · rw [e]; exact hz
      · rw [e, Nat.testBit_xor, hz, horest q hq]; rfl
    · rcases h4 with ⟨e, hz⟩ | ⟨_, hz, e⟩
      · rw [e]; exact hz (by omega)
      · rw [e, Nat.testBit_xor, hz, hb]; rfl
  · intro w
    rw [← h.sp w]
    have hovs : Sp vs o := .of_mem (mem_getD.2 ⟨s, hs, ho⟩)
    have hows : Sp ws o := .of_mem (mem_getD.2 ⟨d, by omega, hdo⟩)
    constructor
    · refine Sp.mono fun a ha => ?_
      obtain ⟨t, ht, rfl⟩ := mem_getD.1 ha
      obtain ⟨c, hc, _, _, _, h4⟩ := key t (by omega)
      have hcs : Sp vs (vs.getD c 0) := .of_mem (mem_getD.2 ⟨c, hc, rfl⟩)
      rcases h4 with ⟨e, _⟩ | ⟨_, _, e⟩
      · rw [e]; exact hcs
      · rw [e]; exact hcs.xor hovs
    · refine Sp.mono fun a ha => ?_
      obtain ⟨c, hc, rfl⟩ := mem_getD.1 ha
      -- the place where row c stands now
      obtain ⟨t, ht, htc⟩ : ∃ t, t < vs.length ∧ ∀ c', c' < vs.length → (t ≠ d → t ≠ s → c' = t) → (t = d → c' = s) → (t = s → t ≠ d → c' = d) → c' = c := by
        by_cases e1 : c = d
        · by_cases e2 : s = d
          · exact ⟨d, hd, fun c' _ _ q2 _ => by have := q2 rfl; omega⟩
          · exact ⟨s, hs, fun c' _ _ _ q3 => by have := q3 rfl e2; omega⟩
        · by_cases e2 : c = s
          · exact ⟨d, hd, fun c' _ _ q2 _ => by have := q2 rfl; omega⟩
          · exact ⟨c, hc, fun c' _ q1 _ _ => q1 e1 e2⟩
      obtain ⟨c', hc', h1, h2, h3, h4⟩ := key t ht
      obtain rfl := htc c' hc' h1 h2 h3
      have hts : Sp ws (ws.getD t 0) := .of_mem (mem_getD.2 ⟨t, by omega, rfl⟩)
      rcases h4 with ⟨e, _⟩ | ⟨_, _, e⟩
      · rw [← e]; exact hts
      · have := hts.xor hows
        rwa [e, xor_back] at this

theorem Inv.done {n d : Nat} {vs0 vs qs : List Nat} (h : Inv n vs0 n vs d qs) : Red (qs.zip (vs.take d)) ∧ (∀ w, Sp (rows (qs.zip (vs.take d))) w ↔ Sp vs0 w) ∧ places (qs.zip (vs.take d)) = qs ∧ rows (qs.zip (vs.take d)) = vs.take d := by
  have hl1 : (vs.take d).length = d := by rw [List.length_take]; have := h.le; omega
  have hr : rows (qs.zip (vs.take d)) = vs.take d := List.map_snd_zip (by rw [hl1, h.len]; exact Nat.le_refl _)
  have hp : places (qs.zip (vs.take d)) = qs := List.map_fst_zip (by rw [hl1, h.len]; exact Nat.le_refl _)
  have hget : ∀ a, a < d → (qs.zip (vs.take d))[a]? = some (qs.getD a 0, vs.getD a 0) := fun a ha => by
    have hle := h.le
    rw [List.getElem?_zip_eq_some]
    refine ⟨?_, ?_⟩
    · rw [List.getD_eq_getElem?_getD, List.getElem?_eq_getElem (by rw [h.len]; exact ha)]; rfl
    · show (vs.take d)[a]? = some (vs.getD a 0)
      rw [List.getElem?_take, if_pos ha, List.getD_eq_getElem?_getD, List.getElem?_eq_getElem (by omega)]; rfl
  have hmem : ∀ x, x ∈ qs.zip (vs.take d) → ∃ a, a < d ∧ x = (qs.getD a 0, vs.getD a 0) := fun x hx => by
    obtain ⟨a, ha⟩ := List.mem_iff_getElem?.1 hx
    have hlt : a < d := by
      have := (List.getElem?_eq_some_iff.1 ha).1
      rw [List.length_zip, hl1, h.len] at this
      omega
    exact ⟨a, hlt, Option.some.inj (ha.symm.trans (hget a hlt))⟩
  refine ⟨⟨?_, ?_, ?_⟩, ?_, hp, hr⟩
  · intro x hx
    obtain ⟨a, ha, rfl⟩ := hmem x hx
    exact h.fst a ha
  · rw [List.pairwise_iff_getElem]
    intro a b ha hb hab
    have hb' : b < d := by rw [List.length_zip, hl1, h.len] at hb; omega
    have e1 := List.getElem?_eq_getElem ha
    have e2 := List.getElem?_eq_getElem hb
    rw [hget a (by omega)] at e1
    rw [hget b hb'] at e2
    rw [← Option.some.inj e1, ← Option.some.inj e2]
    exact h.inc a b hab hb'
  · intro x hx y hy hne
    obtain ⟨a, ha, rfl⟩ := hmem x hx
    obtain ⟨b, hb, rfl⟩ := hmem y hy
    have hle := h.le
    exact h.own a b ha (by omega) (fun e => hne (by rw [e]))
  · intro w
    rw [hr, ← h.sp w]
    constructor
    · exact Sp.sub fun a ha => List.mem_of_mem_take ha
    · refine Sp.mono fun a ha => ?_
      obtain ⟨t, ht, rfl⟩ := mem_getD.1 ha
      by_cases htd : t < d
      · refine .of_mem ?_
        rw [List.mem_iff_getElem?]
        exact ⟨t, by rw [List.getElem?_take, if_pos htd, List.getD_eq_getElem?_getD, List.getElem?_eq_getElem ht]; rfl⟩
      · have hz : vs.getD t 0 = 0 := eq_zero_of_testBit fun q => by
          rcases Nat.lt_or_ge q n with hq | hq
          · exact h.rest t q (by omega) ht hq
          · exact Nat.testBit_lt_two_pow (Nat.lt_of_lt_of_le (h.lt t ht) (Nat.pow_le_pow_right (by decide) hq))
        rw [hz]; exact .zero

theorem Red.places_nodup' {l : List (Nat × Nat)} (h : Red l) : (places l).Nodup := h.nodup_places
end Go.PM.Lin
