/- Ranges over functions: an activation within an activation. -/
import Derived.Test.YtfpdcfgjhkiklaaDoorPmDraw
import Derived.RangeFuncLeaves
import Derived.RangeFuncRecord
import Derived.RangeFuncNested
set_option linter.unusedSimpArgs false
set_option linter.unusedVariables false
set_option autoImplicit false
namespace Go.PM

/-- The living tokens' blocks. -/
def liveOwn (H : Heap) (ρ : Nat → Option Tk) (r : Nat) : Prop := ∃ t b k, at_ H t = some b ∧ ρ t = some k ∧ k.r = r

/-- A record changes. -/
theorem Stay2.turn {I I' : Nat → Prop} {ρ ρ' : Nat → Option Tk} {w w' : World} {l : Nat} {r : Loop} (hI : ∀ b, I b → I' b) (hρ : ∀ t k, ρ t = some k → ρ' t = some k) (hl : w.heap[l]? = some (.loop r)) (h : ∀ b, b ≠ l → w'.heap[b]? = w.heap[b]?) : Stay2 I I' ρ ρ' w w' := by
  refine ⟨fun b hb => ⟨hI b hb, fun o y hc => ?_⟩, hρ, fun t k s _ hs => ?_⟩
  · by_cases e : b = l
    · subst e; unfold World.cell? at hc; rw [hl] at hc; simp at hc
    · rw [cell_of_heap (h b e)]; exact hc
  · by_cases e : k.r = l
    · unfold World.shape? at hs; rw [e, hl] at hs; simp at hs
    · rw [shape_of_heap (h _ e)]; exact hs

theorem ne_rec {P : Program} {I : Nat → Prop} {ρ : Nat → Option Tk} {w : World} {k : Tk} {b : Blk} {l : Nat} {r : Loop} (h : BlkRel P I ρ w k b) (hl : w.heap[l]? = some (.loop r)) : k.r ≠ l := by
  obtain ⟨cs, fz, ys, h1, _⟩ := h
  rintro rfl
  rw [hl] at h1; cases h1

section
variable {E : Env} {ρ ρ' : Nat → Option Tk} {I I' : Nat → Prop} {T T' : Nat → Option V} {H H' : Heap} {a a' : Act} {w : World}

/-- An activation begins within another one. -/
theorem Sim.begin (S : Sim E ρ I T H a w) {N lo : Nat} (hT : ∀ i v, T' i = some v → RV I ρ w v (a'.tmps.getD i undef)) (hN : N ≤ a'.tmps.size) (hd : a'.defers = []) :
    Sim { P := E.P, w0 := w, own0 := liveOwn H ρ, I0 := I, ρ0 := ρ, N := N, lo := lo } ρ I T' H a' w := by
  refine ⟨Nat.le_refl _, fun _ _ _ => rfl, Stays.refl I ρ w, fun b hb => ⟨(S.immO b hb).1, fun _ => .inl hb⟩, fun t b hb => ?_, S.dist, S.dom, hT, hN, ⟨[], List.nodup_nil, by rw [hd]; rfl, by simp⟩⟩
  obtain ⟨k, g1, g2, g3⟩ := S.live t b hb
  exact ⟨k, g1, fun _ => ⟨t, b, k, hb, g1, rfl⟩, g3⟩

/-- The outer activation's own temporaries, seen anew. -/
theorem Sim.frame (S : Sim E ρ I T H a w) {N : Nat} (hT : ∀ i v, T' i = some v → RV I ρ w v (a'.tmps.getD i undef)) (hN : N ≤ a'.tmps.size) (hd : Marks E.lo I w a'.defers) :
    Sim { E with N := N } ρ I T' H a' w := { S with tmp := hT, num := hN, dfs := hd }

/-- A token whose block is no block of cells. -/
theorem Sim.beginRange (S : Sim E ρ I T H a w) {t l : Nat} {r : Loop} {N : Nat} (ht : H t = none) (hl : w.heap[l]? = some (.loop r)) (hT : ∀ i v, T' i = some v → RV (fun b => I b ∨ b = l) (PM.rhoUp ρ t ⟨l, 0, 0⟩) w v (a'.tmps.getD i undef)) (hN : N ≤ a'.tmps.size) (hd : a'.defers = []) :
    Stays I (fun b => I b ∨ b = l) ρ (PM.rhoUp ρ t ⟨l, 0, 0⟩) w w ∧
    Sim { P := E.P, w0 := w, own0 := liveOwn H ρ, I0 := fun b => I b ∨ b = l, ρ0 := PM.rhoUp ρ t ⟨l, 0, 0⟩, N := N, lo := w.heap.size } (PM.rhoUp ρ t ⟨l, 0, 0⟩) (fun b => I b ∨ b = l) T' (hup [(t, none)] H) a' w := by
  have hρ : ∀ t' k', ρ t' = some k' → PM.rhoUp ρ t ⟨l, 0, 0⟩ t' = some k' := fun t' k' h => by
    unfold PM.rhoUp
    rw [if_neg]
    · exact h
    · rintro rfl
      have := S.dom _ _ h
      rw [ht] at this; cases this
  have st : Stays I (fun b => I b ∨ b = l) ρ (PM.rhoUp ρ t ⟨l, 0, 0⟩) w w := ⟨fun b hb => ⟨.inl hb, rfl⟩, hρ, fun _ _ _ _ h => h, .rfl⟩
  have hlt : l < w.heap.size := (Array.getElem?_eq_some_iff.1 hl).1
  have hat : ∀ t' b, at_ (hup [(t, none)] H) t' = some b → at_ H t' = some b := fun t' b h => by
    rw [at_hup_one] at h
    by_cases e : t = t'
    · rw [if_pos e] at h; cases h
    · rw [if_neg e] at h; exact h
  have hne : ∀ t' b, at_ H t' = some b → ∀ k', PM.rhoUp ρ t ⟨l, 0, 0⟩ t' = some k' → ρ t' = some k' := fun t' b h k' hk => by
    unfold PM.rhoUp at hk
    by_cases e : t' = t
    · subst e; unfold at_ at h; rw [ht] at h; cases h
    · rw [if_neg e] at hk; exact hk
  refine ⟨st, ⟨Nat.le_refl _, fun _ _ _ => rfl, Stays.refl _ _ w, fun b hb => ?_, fun t' b hb => ?_, fun t1 t2 b1 b2 k1 k2 h1 h2 g1 g2 e hw => ?_, fun t' k hk => ?_, hT, hN, ⟨[], List.nodup_nil, by rw [hd]; rfl, by simp⟩⟩⟩
  · refine ⟨?_, fun _ => .inl hb⟩
    rcases hb with hb | rfl
    · exact (S.immO b hb).1
    · exact hlt
  · have hb' := hat t' b hb
    obtain ⟨k, g1, g2, g3, g4, g5⟩ := S.live t' b hb'
    refine ⟨k, hρ _ _ g1, fun _ => ⟨t', b, k, hb', g1, rfl⟩, g3.stays st rfl, fun hw => ?_, fun hw => .inl (g5 hw)⟩
    rintro (h | h)
    · exact g4 hw h
    · exact ne_rec g3 hl h
  · exact S.dist t1 t2 b1 b2 k1 k2 (hat _ _ h1) (hat _ _ h2) (hne _ _ (hat _ _ h1) _ g1) (hne _ _ (hat _ _ h2) _ g2) e hw
  · unfold hup lk
    cases e : Nat.beq t t' with
    | true => rfl
    | false =>
      simp only [cond_false, lk]
      unfold PM.rhoUp at hk
      rw [if_neg (fun e0 => by rw [e0, Nat.beq_refl] at e; cases e)] at hk
      exact S.dom t' k hk

/-- An activation within has ended: the outer one goes on. -/
theorem Sim.join {E4 : Env} {T4 : Nat → Option V} {a4 : Act} {w3 w4 w0' : World} {l : Nat} {r1 r2 r3 r4 : Loop} (S1 : Sim E ρ I T H a w) (S4 : Sim E4 ρ' I' T4 H' a4 w3)
    (hP : E4.P = E.P) (ho : ∀ b, E4.own0 b → liveOwn H ρ b) (hI : ∀ b, I b → E4.I0 b) (hI2 : ∀ b, E4.I0 b → I b ∨ b = l) (hl0 : l < E.w0.heap.size → E.I0 l) (hρ : ∀ t k, ρ t = some k → E4.ρ0 t = some k)
    (hs2 : E4.w0.heap.size = w.heap.size) (h2 : ∀ b, b ≠ l → E4.w0.heap[b]? = w.heap[b]?) (hr1 : w.heap[l]? = some (.loop r1)) (hr2 : E4.w0.heap[l]? = some (.loop r2))
    (hs4 : w4.heap.size = w3.heap.size) (h4 : ∀ b, b ≠ l → w4.heap[b]? = w3.heap[b]?) (hr3 : w3.heap[l]? = some (.loop r3)) (hr4 : w4.heap[l]? = some (.loop r4))
    (hs0 : w0'.heap.size = E.w0.heap.size) (h0 : ∀ b, b ≠ l → w0'.heap[b]? = E.w0.heap[b]?) (hfin : w4.heap[l]? = w0'.heap[l]? ∨ (E.w0.heap.size ≤ l ∧ ¬ E.I0 l)) (io1 : Io w E4.w0) (io2 : Io w3 w4) (io3 : Io E.w0 w0') :
    Sim { E with w0 := w0' } ρ' I' T H' a w4 := by
  have t1 : Stay2 I E4.I0 ρ E4.ρ0 w E4.w0 := Stay2.turn hI hρ hr1 h2
  have t2 := t1.trans S4.st0.two
  have t3 : Stay2 I' I' ρ' ρ' w3 w4 := Stay2.turn (fun _ h => h) (fun _ _ h => h) hr3 h4
  have tt := t2.trans t3
  have hlive : ∀ b, b < E.w0.heap.size → liveOwn H ρ b → E.own0 b := fun b hb ho => by
    obtain ⟨t, bl, k, g1, g2, rfl⟩ := ho
    obtain ⟨k', q1, q2, _⟩ := S1.live t bl g1
    rw [g2] at q1; cases q1
    exact q2 hb
  have hII : ∀ b, I b → I' b ∧ (b ≠ l → w4.heap[b]? = w.heap[b]?) := fun b hb => by
    obtain ⟨g1, g2⟩ := S4.st0.imm b (hI b hb)
    exact ⟨g1, fun hne => (h4 b hne).trans (g2.trans (h2 b hne))⟩
  have hsz : w.heap.size ≤ w3.heap.size := by have := S4.size; omega
  refine ⟨?_, fun b hb hn => ?_, ⟨fun b hb => ?_, fun t k hk => tt.tok t k (S1.st0.tok t k hk), fun t k s hk hs => ?_, ((io3.symm.trans S1.st0.io).trans io1).trans (S4.st0.io.trans io2)⟩, fun b hb => ?_, fun t b hb => ?_, S4.dist, S4.dom, fun i v hv => RV.stay2 tt v _ (S1.tmp i v hv), S1.num, ?_⟩
  · show w0'.heap.size ≤ _
    have := S1.size; omega
  · show w4.heap[b]? = w0'.heap[b]?
    have hb : b < E.w0.heap.size := by rw [← hs0]; exact hb
    by_cases e : b = l
    · subst e
      rcases hfin with h | ⟨h, _⟩
      · exact h
      · omega
    · rw [h4 b e, h0 b e, S4.keep b (by have := S1.size; omega) (fun ho4 => hn (hlive b hb (ho b ho4))), h2 b e]
      exact S1.keep b hb hn
  · refine ⟨(hII b (S1.st0.imm b hb).1).1, ?_⟩
    show w4.heap[b]? = w0'.heap[b]?
    by_cases e : b = l
    · subst e
      rcases hfin with h | ⟨_, h⟩
      · exact h
      · exact absurd hb h
    · rw [h0 b e, (hII b (S1.st0.imm b hb).1).2 e]
      exact (S1.st0.imm b hb).2
  · have hs' : w0'.shape? k.r = some s := hs
    refine tt.shape t k s (S1.st0.tok t k hk) (S1.st0.shape t k s hk ?_)
    by_cases e : k.r = l
    · exfalso
      -- a record has no shape
      have hlt := lt_of_shape hs'
      rcases hfin with h | ⟨h, _⟩
      · rw [h] at hr4
        unfold World.shape? at hs'; rw [e, hr4] at hs'; simp at hs'
      · omega
    · rw [← shape_of_heap (h0 _ e)]; exact hs'
  · obtain ⟨g1, g2⟩ := S4.immO b hb
    refine ⟨by rw [hs4]; exact g1, fun hlt => ?_⟩
    have hlt : b < E.w0.heap.size := by rw [← hs0]; exact hlt
    have hltw : b < w.heap.size := Nat.lt_of_lt_of_le hlt S1.size
    rcases g2 (by rw [hs2]; exact hltw) with h | h
    · rcases hI2 b h with h | rfl
      · exact (S1.immO b h).2 hlt
      · exact .inl (hl0 hlt)
    · exact .inr (hlive b hlt (ho b h))
  · obtain ⟨k, g1, g2, g3, g4, g5⟩ := S4.live t b hb
    rw [hP] at g3
    refine ⟨k, g1, fun hlt => ?_, g3.stay2 t3 (h4 _ (ne_rec g3 hr3)), g4, g5⟩
    have hlt : k.r < E.w0.heap.size := by rw [← hs0]; exact hlt
    exact hlive _ hlt (ho _ (g2 (by rw [hs2]; exact Nat.lt_of_lt_of_le hlt S1.size)))
  · obtain ⟨ds, d1, d2, d3⟩ := S1.dfs
    refine ⟨ds, d1, d2, fun D hD => ⟨(d3 D hD).1, (hII D (d3 D hD).2.1).1, ?_⟩⟩
    rw [(hII D (d3 D hD).2.1).2 (fun e => by have := (d3 D hD).2.2; rw [e, hr1] at this; cases this)]
    exact (d3 D hD).2.2
end
end Go.PM
