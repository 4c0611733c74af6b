/- Behind a call: its blocks are the caller's. -/
import Derived.Test.YtfpdcfgjhkiklaaDoorPmCall
set_option linter.unusedSimpArgs false
set_option linter.unusedVariables false
set_option autoImplicit false
namespace Go.PM

theorem lk_mem {α : Type} {l : List (Nat × α)} {t : Nat} {x : α} (h : lk l t = some x) : (t, x) ∈ l := by
  induction l with
  | nil => cases h
  | cons p l ih =>
    obtain ⟨j, v⟩ := p
    simp only [lk] at h
    cases e : Nat.beq j t with
    | true => rw [e] at h; cases h; rw [Nat.eq_of_beq_eq_true e]; exact List.mem_cons_self
    | false => rw [e] at h; exact List.mem_cons_of_mem _ (ih h)
theorem lk_none {α : Type} {l : List (Nat × α)} {t : Nat} (h : lk l t = none) : ∀ x, (t, x) ∉ l := by
  induction l with
  | nil => intro x hx; cases hx
  | cons p l ih =>
    obtain ⟨j, v⟩ := p
    simp only [lk] at h
    intro x hx
    cases e : Nat.beq j t with
    | true => rw [e] at h; cases h
    | false =>
      rw [e] at h
      rcases List.mem_cons.1 hx with hx | hx
      · cases hx; rw [Nat.beq_refl] at e; cases e
      · exact ih h x hx

theorem nodup_inj {l : List Nat} (h : l.Nodup) {i j : Nat} (hi : i < l.length) (hj : j < l.length) (e : l[i] = l[j]) : i = j := by
  have hp := List.pairwise_iff_getElem.1 h
  rcases Nat.lt_trichotomy i j with hlt | heq | hgt
  · exact absurd e (hp i j hi hj hlt)
  · exact heq
  · exact absurd e.symm (hp j i hj hi hgt)

/-- What the call's blocks are in the caller's table. -/
theorem backHw_mem {l : List Nat} {tok : Nat} : ∀ {j : Nat} {bs : List (Option Blk)} {hw : List (Nat × Option Blk)}, backHw l tok j bs = some hw → ∀ t ob, (t, ob) ∈ hw →
    ∃ i ob0, bs[i]? = some ob0 ∧ backTok l tok (j + i) = some t ∧ (match ob0 with | none => ob = none | some b => ∃ b', renB (backTok l tok) b = some b' ∧ ob = some b')
  | j, [], hw, h, t, ob, hm => by simp only [backHw, Option.some.injEq] at h; subst h; cases hm
  | j, ob0 :: bs, hw, h, t, ob, hm => by
    simp only [backHw] at h
    obtain ⟨t0, ht0, h⟩ := bind_eq.1 h
    cases ob0 with
    | none =>
      simp only [Option.map_eq_some_iff] at h
      obtain ⟨hw', hh, rfl⟩ := h
      rcases List.mem_cons.1 hm with hm | hm
      · cases hm; exact ⟨0, none, rfl, ht0, rfl⟩
      · obtain ⟨i, o1, g1, g2, g3⟩ := backHw_mem hh t ob hm
        exact ⟨i + 1, o1, g1, by rw [show j + (i + 1) = j + 1 + i by omega]; exact g2, g3⟩
    | some b =>
      obtain ⟨b', hb', h⟩ := bind_eq.1 h
      simp only [Option.map_eq_some_iff] at h
      obtain ⟨hw', hh, rfl⟩ := h
      rcases List.mem_cons.1 hm with hm | hm
      · cases hm; exact ⟨0, some b, rfl, ht0, b', hb', rfl⟩
      · obtain ⟨i, o1, g1, g2, g3⟩ := backHw_mem hh t ob hm
        exact ⟨i + 1, o1, g1, by rw [show j + (i + 1) = j + 1 + i by omega]; exact g2, g3⟩
theorem backHw_key {l : List Nat} {tok : Nat} : ∀ {j : Nat} {bs : List (Option Blk)} {hw : List (Nat × Option Blk)}, backHw l tok j bs = some hw → ∀ i, i < bs.length → ∃ t ob, backTok l tok (j + i) = some t ∧ (t, ob) ∈ hw
  | j, [], hw, h, i, hi => by simp at hi
  | j, ob0 :: bs, hw, h, i, hi => by
    simp only [backHw] at h
    obtain ⟨t0, ht0, h⟩ := bind_eq.1 h
    have key : ∃ hw' ob, backHw l tok (j + 1) bs = some hw' ∧ hw = (t0, ob) :: hw' := by
      cases ob0 with
      | none =>
        simp only [Option.map_eq_some_iff] at h
        obtain ⟨hw', hh, rfl⟩ := h
        exact ⟨hw', _, hh, rfl⟩
      | some b =>
        obtain ⟨b', hb', h⟩ := bind_eq.1 h
        simp only [Option.map_eq_some_iff] at h
        obtain ⟨hw', hh, rfl⟩ := h
        exact ⟨hw', _, hh, rfl⟩
    obtain ⟨hw', ob, hh, rfl⟩ := key
    cases i with
    | zero => exact ⟨t0, ob, ht0, List.mem_cons_self⟩
    | succ i =>
      obtain ⟨t, ob', g1, g2⟩ := backHw_key hh i (by simpa using hi)
      exact ⟨t, ob', by rw [show j + (i + 1) = j + 1 + i by omega]; exact g1, List.mem_cons_of_mem _ g2⟩

theorem freshN_none {H : Heap} {tok : Nat} : ∀ {n : Nat}, freshN H tok n = true → ∀ i, i < n → H (tok + i) = none
  | 0, _, i, hi => by omega
  | n + 1, h, i, hi => by
    simp only [freshN, Bool.and_eq_true] at h
    by_cases e : i = n
    · subst e; have := h.1; unfold fresh at this; rwa [Option.isNone_iff_eq_none] at this
    · exact freshN_none h.2 i (by omega)

theorem backTok_lt {l : List Nat} {tok j : Nat} (h : j < l.length) : backTok l tok j = some l[j] := by
  unfold backTok
  have : Nat.blt j l.length = true := by rw [Nat.blt_eq]; exact h
  rw [this]
  simp [h]
theorem backTok_ge {l : List Nat} {tok j : Nat} (h : l.length ≤ j) : backTok l tok j = some (tok + (j - l.length)) := by
  unfold backTok
  have : Nat.blt j l.length = false := by
    cases e : Nat.blt j l.length with
    | false => rfl
    | true => rw [Nat.blt_eq] at e; omega
  rw [this]
  rfl

section
variable {E : Env} {ρ ρc ρc' : Nat → Option Tk} {I I' : Nat → Prop} {T : Nat → Option V} {H : Heap} {a : Act} {w w' : World} {tok : Nat}

theorem Sim.back (S : Sim E ρ I T H a w) {out : Out} {x : Value} (L : Leave E.P ρc ρc' I I' w w' out x) {l : List Nat} (hnd : l.Nodup) (h1 : ∀ j k, ρc j = some k → ∃ t, l[j]? = some t ∧ ρ t = some k)
    (h2 : ∀ j t k, l[j]? = some t → ρ t = some k → ρc j = some k) (hl : ∀ t ∈ l, ∃ b, at_ H t = some b) (hle : l.length ≤ out.2.length) (hf : freshN H tok (out.2.length - l.length) = true)
    {hw : List (Nat × Option Blk)} (hhw : backHw l tok 0 out.2 = some hw) :
    ∃ ρ2, Sim E ρ2 I' T (hup hw H) a w' ∧ ∀ j t k, backTok l tok j = some t → ρc' j = some k → ρ2 t = some k := by
  have hfr : ∀ j, l.length ≤ j → j < out.2.length → H (tok + (j - l.length)) = none := fun j hj hj' => freshN_none hf _ (by omega)
  have hown : ∀ r, ownOf ρc r → ∃ t b k, t ∈ l ∧ at_ H t = some b ∧ ρ t = some k ∧ k.r = r ∧ (r < E.w0.heap.size → E.own0 r) ∧ r < w.heap.size ∧ (b.wr = false → I r) := by
    rintro r ⟨j, k, hk, rfl⟩
    obtain ⟨t, ht, hρ⟩ := h1 j k hk
    have hm := List.mem_of_getElem? ht
    obtain ⟨b, hb⟩ := hl t hm
    obtain ⟨k', g1, g2, g3, g4⟩ := S.live t b hb
    rw [g1] at hρ; cases hρ
    exact ⟨t, b, k, hm, hb, g1, rfl, g2, lt_of_rel g3, g4.2⟩
  -- tokens of the table are the call's just if they are keys
  have hkey : ∀ t ∈ l, ∃ x, lk hw t = some x := fun t ht => by
    obtain ⟨j, hj, rfl⟩ := List.getElem_of_mem ht
    obtain ⟨t', ob, g1, g2⟩ := backHw_key hhw j (by omega)
    rw [Nat.zero_add, backTok_lt hj] at g1
    cases g1
    cases e : lk hw l[j] with
    | some x => exact ⟨x, rfl⟩
    | none => exact absurd g2 (lk_none e ob)
  have hnl : ∀ t ∈ l, H t ≠ none := fun t ht e => by
    obtain ⟨b, hb⟩ := hl t ht
    unfold at_ at hb
    rw [e] at hb; cases hb
  let ρ2 : Nat → Option Tk := fun t => match ρ t with | some k => some k | none => if tok ≤ t ∧ t < tok + (out.2.length - l.length) then ρc' (l.length + (t - tok)) else none
  have hρ2 : ∀ t k, ρ t = some k → ρ2 t = some k := fun t k h => by simp only [ρ2, h]
  have hjt : ∀ j t k, backTok l tok j = some t → ρc' j = some k → ρ2 t = some k := fun j t k hj hk => by
    by_cases hlt : j < l.length
    · rw [backTok_lt hlt] at hj
      cases hj
      obtain ⟨b, hb⟩ := hl _ (List.getElem_mem hlt)
      obtain ⟨k', g1, _⟩ := S.live _ b hb
      have := L.stays.tok _ _ (h2 j _ k' (List.getElem?_eq_getElem hlt) g1)
      rw [this] at hk; cases hk
      exact hρ2 _ _ g1
    · have hge : l.length ≤ j := by omega
      rw [backTok_ge hge] at hj
      cases hj
      have hjl := L.dom j k hk
      have hn := hfr j hge hjl
      have hρn : ρ (tok + (j - l.length)) = none := by
        cases e : ρ (tok + (j - l.length)) with
        | none => rfl
        | some k' => have := S.dom _ _ e; rw [hn] at this; cases this
      simp only [ρ2, hρn]
      rw [if_pos (by omega), show l.length + (tok + (j - l.length) - tok) = j by omega]
      exact hk
  have st : Stays I I' ρ ρ2 w w' := ⟨L.stays.imm, hρ2, fun t k s ht hs => by
    by_cases ho : ownOf ρc k.r
    · obtain ⟨j, k', hk', hr⟩ := ho
      rw [← hr] at hs ⊢
      exact L.stays.shape j k' s hk' hs
    · rw [shape_of_heap (L.keep _ (lt_of_shape hs) ho)]; exact hs, L.stays.io⟩
  have hinj : ∀ i j t, i < out.2.length → j < out.2.length → backTok l tok i = some t → backTok l tok j = some t → i = j := fun i j t hi hj g1 g2 => by
    by_cases c1 : i < l.length
    · rw [backTok_lt c1] at g1
      by_cases c2 : j < l.length
      · rw [backTok_lt c2] at g2
        have : l[i] = l[j] := by rw [Option.some.inj g1, Option.some.inj g2]
        exact nodup_inj hnd c1 c2 this
      · rw [backTok_ge (by omega)] at g2
        exfalso
        have e : tok + (j - l.length) = l[i] := by rw [Option.some.inj g1, Option.some.inj g2]
        have := hfr j (by omega) hj
        rw [e] at this
        exact hnl _ (List.getElem_mem c1) this
    · rw [backTok_ge (by omega)] at g1
      by_cases c2 : j < l.length
      · rw [backTok_lt c2] at g2
        exfalso
        have e : tok + (i - l.length) = l[j] := by rw [Option.some.inj g1, Option.some.inj g2]
        have := hfr i (by omega) hi
        rw [e] at this
        exact hnl _ (List.getElem_mem c2) this
      · rw [backTok_ge (by omega)] at g2
        have := (Option.some.inj g1).trans (Option.some.inj g2).symm
        omega
  have hlook : ∀ t b, at_ (hup hw H) t = some b → (∃ j b0, out.2[j]? = some (some b0) ∧ backTok l tok j = some t ∧ renB (backTok l tok) b0 = some b) ∨ (lk hw t = none ∧ at_ H t = some b) := fun t b h => by
    unfold at_ hup at h
    cases e : lk hw t with
    | none => rw [e] at h; exact .inr ⟨rfl, h⟩
    | some ob =>
      rw [e] at h
      left
      obtain ⟨i, ob0, g1, g2, g3⟩ := backHw_mem hhw t ob (lk_mem e)
      rw [Nat.zero_add] at g2
      cases ob0 with
      | none => simp only at g3; subst g3; cases h
      | some b0 =>
        obtain ⟨b', g4, rfl⟩ := g3
        cases h
        exact ⟨i, b0, g1, g2, g4⟩
  have hold : ∀ t b k, lk hw t = none → at_ H t = some b → ρ t = some k → ownOf ρc k.r → b.wr = false ∧ I k.r := fun t b k hn hb hk ho => by
    obtain ⟨t', b', k', m1, m2, m3, m4, m5, m6, m7⟩ := hown _ ho
    have hne : t ≠ t' := by rintro rfl; obtain ⟨x, hx⟩ := hkey _ m1; rw [hn] at hx; cases hx
    cases hw' : b.wr with
    | true => exact absurd (S.dist t t' b b' k k' hb m2 hk m3 m4.symm hw') hne
    | false =>
      obtain ⟨k2, g1, g2, g3, g4, g5⟩ := S.live t b hb
      rw [g1] at hk; cases hk
      exact ⟨rfl, g5 hw'⟩
  refine ⟨ρ2, ⟨Nat.le_trans S.size L.size, fun b hb hn => ?_, S.st0.trans st, fun b hb => ?_, ?_, ?_, ?_, fun i v hv => RV.stays st v _ (S.tmp i v hv), S.num, S.dfs.stays st⟩, hjt⟩
  · have : ¬ ownOf ρc b := fun ho => by obtain ⟨_, _, _, _, _, _, _, g, _⟩ := hown b ho; exact hn (g hb)
    rw [L.keep b (Nat.lt_of_lt_of_le hb S.size) this]
    exact S.keep b hb hn
  · obtain ⟨g1, g2⟩ := L.immO b hb
    refine ⟨g1, fun hlt => ?_⟩
    rcases g2 (Nat.lt_of_lt_of_le hlt S.size) with h | h
    · exact (S.immO b h).2 hlt
    · obtain ⟨_, _, _, _, _, _, _, g, _⟩ := hown b h; exact .inr (g hlt)
  · intro t b hb
    rcases hlook t b hb with ⟨j, b0, g1, g2, g3⟩ | ⟨g1, g2⟩
    · obtain ⟨k, q1, q2, q3, q4, q5⟩ := L.live j b0 g1
      obtain ⟨r1, r2, r3⟩ := renB_rel (ρ' := ρ2) (fun t t' k h h' => hjt t t' k h h') g3 q3
      refine ⟨k, hjt j t k g2 q1, fun hlt => ?_, r1, by rw [r2]; exact q4, by rw [r2]; exact q5⟩
      obtain ⟨_, _, _, _, _, _, _, g, _⟩ := hown _ (q2 (Nat.lt_of_lt_of_le hlt S.size))
      exact g hlt
    · obtain ⟨k, q1, q2, q3, q4, q5⟩ := S.live t b g2
      have hsame : w'.heap[k.r]? = w.heap[k.r]? := by
        by_cases ho : ownOf ρc k.r
        · exact (L.stays.imm _ (hold t b k g1 g2 q1 ho).2).2
        · exact L.keep _ (lt_of_rel q3) ho
      refine ⟨k, hρ2 _ _ q1, q2, q3.stays st hsame, fun hw hi => ?_, fun hw => (L.stays.imm _ (q5 hw)).1⟩
      rcases (L.immO _ hi).2 (lt_of_rel q3) with h | h
      · exact q4 hw h
      · have := (hold t b k g1 g2 q1 h).1; rw [hw] at this; cases this
  · intro t t' b b' k k' hb hb' hk hk' hkk hwr
    rcases hlook t b hb with ⟨j, b0, g1, g2, g3⟩ | ⟨g1, g2⟩
    · obtain ⟨kj, q1, q2, q3, q4, q5⟩ := L.live j b0 g1
      have ek : kj = k := by have := hjt j t kj g2 q1; rw [this] at hk; exact Option.some.inj hk
      subst ek
      have hwr0 : b0.wr = true := by
        have := (renB_rel (ρ' := ρ2) (fun t t' k h h' => hjt t t' k h h') g3 q3).2.1
        rw [← this]; exact hwr
      rcases hlook t' b' hb' with ⟨j', b0', g1', g2', g3'⟩ | ⟨g1', g2'⟩
      · obtain ⟨kj', q1', _⟩ := L.live j' b0' g1'
        have ek' : kj' = k' := by have := hjt j' t' kj' g2' q1'; rw [this] at hk'; exact Option.some.inj hk'
        subst ek'
        have := L.dist j j' b0 b0' kj kj' g1 g1' q1 q1' hkk hwr0
        subst this
        rw [g2] at g2'; exact Option.some.inj g2'
      · exfalso
        obtain ⟨kt, q1', q2', q3', q4', q5'⟩ := S.live t' b' g2'
        have ek' : kt = k' := by have := hρ2 _ _ q1'; rw [this] at hk'; exact Option.some.inj hk'
        subst ek'
        have hlt := lt_of_rel q3'
        rw [← hkk] at hlt
        have ho := q2 hlt
        rw [hkk] at ho
        have := (hold t' b' kt g1' g2' q1' ho).2
        have := (L.stays.imm _ this).1
        rw [← hkk] at this
        exact q4 hwr0 this
    · obtain ⟨kt, q1, q2, q3, q4, q5⟩ := S.live t b g2
      have ek : kt = k := by have := hρ2 _ _ q1; rw [this] at hk; exact Option.some.inj hk
      subst ek
      rcases hlook t' b' hb' with ⟨j', b0', g1', g2', g3'⟩ | ⟨g1', g2'⟩
      · exfalso
        obtain ⟨kj', q1', q2', _⟩ := L.live j' b0' g1'
        have ek' : kj' = k' := by have := hjt j' t' kj' g2' q1'; rw [this] at hk'; exact Option.some.inj hk'
        subst ek'
        have hlt := lt_of_rel q3
        rw [hkk] at hlt
        have ho := q2' hlt
        rw [← hkk] at ho
        have := (hold t b kt g1 g2 q1 ho).1
        rw [hwr] at this; cases this
      · obtain ⟨kt', q1', _⟩ := S.live t' b' g2'
        have ek' : kt' = k' := by have := hρ2 _ _ q1'; rw [this] at hk'; exact Option.some.inj hk'
        subst ek'
        exact S.dist t t' b b' kt kt' g2 g2' q1 q1' hkk hwr
  · intro t k h
    unfold hup
    cases e : lk hw t with
    | some x => rfl
    | none =>
      cases e2 : ρ t with
      | some k' => exact S.dom t k' e2
      | none =>
        simp only [ρ2, e2] at h
        split at h
        · rename_i hr
          exfalso
          obtain ⟨t', ob, m1, m2⟩ := backHw_key hhw (l.length + (t - tok)) (by omega)
          rw [Nat.zero_add, backTok_ge (by omega)] at m1
          have : t' = t := by have := Option.some.inj m1; omega
          subst this
          exact lk_none e ob m2
        · cases h
end
end Go.PM
