-- PRINTED by print.py (a twelfth state) out of the translation. Not trusted: Lean checks it.
import Derived.Test.YtfcedhejbnoinaaDoorPKx0
import Derived.Test.YtfcedhejbnoinaaDoorPKx3
import Derived.Test.YtfcedhejbnoinaaDoorPKx5
namespace Go.Proofs.YtfcedhejbnoinaaDoor.PK
open Go.RowKit Go.Proofs.YtfcedhejbnoinaaDoorW.PrintWords Go.Proofs.YtfcedhejbnoinaaDoorW.PrintLast Go.Proofs.YtfcedhejbnoinaaDoorW.PrintMore
open Bool renaming true → T, false → F
open List renaming setIfInBounds_toArray → q1, set_cons_zero → q2, set_cons_succ → q3
attribute [local go_sem] run_store_func max2_int min2_int max_two min_two max_three min_three max_four min_four   -- for this text's walks alone
set_option linter.unusedVariables false
set_option linter.unusedSimpArgs false

/-! ### reduce_Echelon: function 47 -/
section
attribute [local go_sem] Oper.semAt_some
/-! The memory of a work: its box, and its rows (records in cells of the call's own; what they lead to is only read). -/
/-- What the rounds of a range keep: what lay below H0, and cells of other types than a list of numbers and its variable. -/
structure KeepW (H0 : Nat) (W W' : World) : Prop where
  below : Below H0 W W'
  cells : ∀ (k : Nat) (cs : Array Value) (t : TypeId) (fz : Nat × Nat), W.heap[k]? = some (.cells cs t fz) → t ≠ 3 → t ≠ 34 → W'.heap[k]? = some (.cells cs t fz)
theorem KeepW.trans {H0 : Nat} {A B C : World} (h : KeepW H0 A B) (k : KeepW H0 B C) : KeepW H0 A C :=
  ⟨h.below.trans k.below, fun i cs t fz hi h1 h2 => k.cells i cs t fz (h.cells i cs t fz hi h1 h2) h1 h2⟩
theorem KeepW.putObj {H0 : Nat} (W : World) (l : Nat) (o o' : Obj) (hl : H0 ≤ l) (h : W.heap[l]? = some o) (ho : o.isCells = false) : KeepW H0 W (W.putObj l o') := by
  have hg := grownBy_putObj' W l o'
  refine ⟨⟨hg.os, hg.tape, hg.output, by simp, fun k hk => World.putObj_heap_other (by omega)⟩, fun k cs t fz hk _ _ => ?_⟩
  rw [World.putObj_heap_other]
  · exact hk
  · rintro rfl
    rw [h] at hk
    cases hk
    cases ho
/-- The iterator's own turns: of its box and of its rows' block. -/
def Turns (Wb : Nat) (v : Value) (A B : World) : Prop := ∃ row, A.grownBy B row ∧ ∀ r, row = some r → (r = Wb ∨ some r = v.ownBlock) ∧ ∃ cs t fz, A.heap[r]? = some (.cells cs t fz)
theorem Turns.others {Wb : Nat} {v : Value} (A B : World) (h : Turns Wb v A B) (k : Nat) (o : Obj) (hk : A.heap[k]? = some o) (ho : o.isCells = false) : B.heap[k]? = some o := by
  obtain ⟨row, hg, hr⟩ := h
  refine (hg.block k (Array.getElem?_eq_some_iff.1 hk).1 fun e => ?_).trans hk
  obtain ⟨_, cs, t, fz, hc⟩ := hr k e.symm
  rw [hk] at hc
  cases hc
  cases ho
theorem Turns.of_below {Wb : Nat} {v : Value} {A B : World} (h : Below A.heap.size A B) : Turns Wb v A B := ⟨none, grown_of_below h none, fun r e => by cases e⟩

structure ColMem (W : World) (H0 Wb : Nat) (P0 : Nat → Prop) (v : Value) (n : Int) (rs : List S25) (done : Nat) : Prop where
  box : W.heap[Wb]? = some (.cells #[.int .i64 n, v, .int .i64 (done : Int)] 106 (0, 0))
  rows : ∃ ok, Kd.N k25 25 W H0 ok v rs ∧ ∀ k, ok k → k ≠ Wb ∧ (k < H0 → P0 k) ∧ (H0 ≤ k → ∃ cs t fz, W.heap[k]? = some (.cells cs t fz) ∧ t ≠ 3 ∧ t ≠ 34)
theorem ColMem.step {W W' : World} {H0 Wb : Nat} {P0 : Nat → Prop} {v : Value} {n : Int} {rs : List S25} {done : Nat} (h : ColMem W H0 Wb P0 v n rs done)
    (hb : W'.heap[Wb]? = W.heap[Wb]?) (hk : ∀ k, k < W.heap.size → k ≠ Wb → (k < H0 ∨ ∃ cs t fz, W.heap[k]? = some (.cells cs t fz) ∧ t ≠ 3 ∧ t ≠ 34) → W'.heap[k]? = W.heap[k]?) : ColMem W' H0 Wb P0 v n rs done := by
  obtain ⟨hx, ok, hN, hok⟩ := h
  have hs : ∀ k, ok k → k < W.heap.size → W'.heap[k]? = W.heap[k]? := fun k ho hl => by
    obtain ⟨h1, h2, h3⟩ := hok k ho
    rcases Nat.lt_or_ge k H0 with hh | hh
    · exact hk k hl h1 (.inl hh)
    · exact hk k hl h1 (.inr (h3 hh))
  refine ⟨hb.trans hx, ok, Kd.N_step hN hs, fun k ho => ?_⟩
  obtain ⟨h1, h2, h3⟩ := hok k ho
  refine ⟨h1, h2, fun hh => ?_⟩
  obtain ⟨cs, t, fz, hc, ht⟩ := h3 hh
  exact ⟨cs, t, fz, (hs k ho (Array.getElem?_eq_some_iff.1 hc).1).trans hc, ht⟩
theorem ColMem.below {W W' : World} {H0 Wb : Nat} {P0 : Nat → Prop} {v : Value} {n : Int} {rs : List S25} {done : Nat} (h : ColMem W H0 Wb P0 v n rs done) (hb : Below W.heap.size W W') : ColMem W' H0 Wb P0 v n rs done :=
  h.step (hb.block _ (blk_lt h.box)) fun k hl _ _ => hb.block k hl
theorem ColMem.keep {W W' : World} {H0 Wb : Nat} {P0 : Nat → Prop} {v : Value} {n : Int} {rs : List S25} {done : Nat} (h : ColMem W H0 Wb P0 v n rs done) (hb : KeepW H0 W W') : ColMem W' H0 Wb P0 v n rs done := by
  refine h.step ?_ fun k hl _ hk => ?_
  · exact (hb.cells _ _ _ _ h.box (by decide) (by decide)).trans h.box.symm
  · rcases hk with hk | ⟨cs, t, fz, hc, h1, h2⟩
    · exact hb.below.block k hk
    · exact (hb.cells _ _ _ _ hc h1 h2).trans hc.symm
theorem ColMem.putObj {W : World} {H0 Wb : Nat} {P0 : Nat → Prop} {v : Value} {n : Int} {rs : List S25} {done : Nat} (h : ColMem W H0 Wb P0 v n rs done) (l : Nat) (o o' : Obj) (hl : H0 ≤ l) (hk : W.heap[l]? = some o) (ho : o.isCells = false) : ColMem (W.putObj l o') H0 Wb P0 v n rs done :=
  h.keep (KeepW.putObj W l o o' hl hk ho)
/-- done is counted on. -/
theorem ColMem.count {W : World} {H0 Wb : Nat} {P0 : Nat → Prop} {v : Value} {n : Int} {rs : List S25} {done : Nat} (h : ColMem W H0 Wb P0 v n rs done) (d : Nat) : ColMem (W.setCell ⟨Wb, 2, none⟩ (.int .i64 (d : Int))) H0 Wb P0 v n rs d := by
  obtain ⟨hx, ok, hN, hok⟩ := h
  have ho : ∀ k, k ≠ Wb → (W.setCell ⟨Wb, 2, none⟩ (.int .i64 (d : Int))).heap[k]? = W.heap[k]? := fun k hk => Below.heap_setCell W _ _ k hk
  refine ⟨?_, ok, Kd.N_step hN (fun k hk _ => ho k (hok k hk).1), fun k hk => ?_⟩
  · have := blk_put (cs := #[.int .i64 n, v, .int .i64 (done : Int)]) hx 2 (.int .i64 (d : Int)) rfl
    exact this
  · obtain ⟨h1, h2, h3⟩ := hok k hk
    refine ⟨h1, h2, fun hh => ?_⟩
    rw [ho k h1]
    exact h3 hh
theorem ColMem.reads {W : World} {H0 Wb : Nat} {P0 : Nat → Prop} {v : Value} {n : Int} {rs : List S25} {done : Nat} (h : ColMem W H0 Wb P0 v n rs done) : ∃ A c, v = .slice A rs.length c ∧ rs.length ≤ c ∧ Kd.C k25 W A rs.length rs := by
  obtain ⟨_, ok, hN, _⟩ := h
  obtain ⟨A, c, rfl⟩ := Kd.N_slice hN
  obtain ⟨_, h2, h3⟩ := Kd.N_reads' hN
  exact ⟨A, c, rfl, h2, h3⟩
/-- A row of words that is read: its value, and that it stays. -/
def WordsOf (W : World) (H0 Wb : Nat) (P0 : Nat → Prop) (v : Value) (u : Value) (ws : List Int) : Prop :=
  ∃ A c ok, u = .slice A ws.length c ∧ ws.length ≤ c ∧ Kd.F (Kd.int .u64) W ok A ws.length ws ∧ ∀ k, ok k → k ≠ Wb ∧ some k ≠ v.ownBlock ∧ (k < H0 → P0 k) ∧ (H0 ≤ k → ∃ cs t fz, W.heap[k]? = some (.cells cs t fz) ∧ t ≠ 3 ∧ t ≠ 34)
theorem WordsOf.below {W W' : World} {H0 Wb : Nat} {P0 : Nat → Prop} {v u : Value} {ws : List Int} (h : WordsOf W H0 Wb P0 v u ws) (hb : Below W.heap.size W W') : WordsOf W' H0 Wb P0 v u ws := by
  obtain ⟨A, c, ok, rfl, hl, hF, hok⟩ := h
  refine ⟨A, c, ok, rfl, hl, Kd.F_below hF hb, fun k hk => ?_⟩
  obtain ⟨h1, h2, h3, h4⟩ := hok k hk
  refine ⟨h1, h2, h3, fun hh => ?_⟩
  obtain ⟨cs, t, fz, hc, ht⟩ := h4 hh
  exact ⟨cs, t, fz, (hb.block k (Array.getElem?_eq_some_iff.1 hc).1).trans hc, ht⟩
theorem WordsOf.turn {W W' : World} {H0 Wb : Nat} {P0 : Nat → Prop} {v u : Value} {ws : List Int} (h : WordsOf W H0 Wb P0 v u ws) (ht : ∀ k, k < W.heap.size → k ≠ Wb → some k ≠ v.ownBlock → W'.heap[k]? = W.heap[k]?) : WordsOf W' H0 Wb P0 v u ws := by
  obtain ⟨A, c, ok, rfl, hl, hF, hok⟩ := h
  refine ⟨A, c, ok, rfl, hl, Kd.F_step hF (fun k hk hlt => ht k hlt (hok k hk).1 (hok k hk).2.1), fun k hk => ?_⟩
  obtain ⟨h1, h2, h3, h4⟩ := hok k hk
  refine ⟨h1, h2, h3, fun hh => ?_⟩
  obtain ⟨cs, t, fz, hc, htt⟩ := h4 hh
  exact ⟨cs, t, fz, (ht k (Array.getElem?_eq_some_iff.1 hc).1 h1 h2).trans hc, htt⟩
theorem WordsOf.reads {W : World} {H0 Wb : Nat} {P0 : Nat → Prop} {v u : Value} {ws : List Int} (h : WordsOf W H0 Wb P0 v u ws) : ∃ A c, u = .slice A ws.length c ∧ ws.length ≤ c ∧ Kd.C (Kd.int .u64) W A ws.length ws := by
  obtain ⟨A, c, ok, rfl, hl, hF, _⟩ := h
  exact ⟨A, c, rfl, hl, Kd.F_now hF⟩
theorem WordsOf.fresh {W W' : World} {H0 Wb : Nat} {P0 : Nat → Prop} {v u : Value} {ws : List Int} (hr : Kd.R (Kd.int .u64) 90 W' W.heap.size (fun _ => True) u ws) (h1 : H0 ≤ W.heap.size) (h2 : Wb < W.heap.size) (h3 : ∀ k, v.ownBlock = some k → k < W.heap.size) : WordsOf W' H0 Wb P0 v u ws := by
  obtain ⟨A, c, rfl⟩ := Kd.R_slice hr
  have hr2 := Kd.R_tight rfl hr
  have hty := Kd.R_typed hr
  have hba := Kd.R_base hr
  obtain ⟨_, hc, hC⟩ := Kd.R_reads' hr
  refine ⟨A, c, _, rfl, hc, Kd.R_F hr2, fun k hk => ?_⟩
  have hk' := hk.symm
  have hge := hba k hk'
  obtain ⟨cs, hcs⟩ := hty k hk'
  exact ⟨by omega, fun e => by have := h3 k e.symm; omega, fun _ => by omega, fun _ => ⟨cs, _, _, hcs, by decide, by decide⟩⟩
theorem ColMem.get {W : World} {H0 Wb : Nat} {P0 : Nat → Prop} {v : Value} {n : Int} {rs : List S25} {done : Nat} (h : ColMem W H0 Wb P0 v n rs done) (i : Nat) (hi : i < rs.length) :
    ∃ g cap u, v = .slice (some ⟨g, 0, none⟩) rs.length cap ∧ H0 ≤ g ∧ g < W.heap.size ∧ W.cell? ⟨g, i * 2, none⟩ = some (.int .i64 (rd_T25 rs (i : Int)).f0) ∧ W.cell? ⟨g, i * 2 + 1, none⟩ = some u ∧ WordsOf W H0 Wb P0 v u (rd_T25 rs (i : Int)).f1 := by
  obtain ⟨hx, ok, hN, hok⟩ := h
  obtain ⟨g, cap, rfl, hg1, hg2, _⟩ := Kd.N_form hN (by omega)
  obtain ⟨c, hc, hF, hcc⟩ := Kd.N_get hN z25 (i : Int) (by omega) (by omega)
  rw [Int.toNat_natCast] at hF hcc
  have hrd : rd_T25 rs (i : Int) = rs.getD i z25 := by unfold rd_T25; rw [Int.toNat_natCast]
  rw [hrd]
  obtain ⟨A1, c1, hce, hl1, hC1⟩ := k25_openF hF
  subst hce
  have h0 := hcc 0 _ rfl
  have h1 := hcc 1 _ rfl
  have e0 : (⟨g, 0, none⟩ : Addr).add (i * k25.sz + 0) = ⟨g, i * 2, none⟩ := by
    show Addr.add _ (i * 2 + 0) = _
    unfold Addr.add
    split
    · rename_i e
      have e' : i * 2 = 0 := e
      rw [e']
    · simp
  have e1 : (⟨g, 0, none⟩ : Addr).add (i * k25.sz + 1) = ⟨g, i * 2 + 1, none⟩ := by
    show Addr.add _ (i * 2 + 1) = _
    unfold Addr.add
    split
    · rename_i e; omega
    · simp
  rw [e0] at h0
  rw [e1] at h1
  refine ⟨g, cap, _, rfl, hg1, hg2, h0, h1, A1, c1, _, rfl, hl1, hC1, fun k hk => ?_⟩
  obtain ⟨h1, h2, h3⟩ := hok k hk.1
  exact ⟨h1, hk.2, h2, h3⟩
theorem FK_words {W : World} {H0 Wb : Nat} {P0 : Nat → Prop} {v u : Value} {x : S25} (h : WordsOf W H0 Wb P0 v u x.f1) : ∃ ok, Kd.FK k25 W ok x [.int .i64 x.f0, u] ∧ ∀ k, ok k → k ≠ Wb ∧ some k ≠ v.ownBlock ∧ (k < H0 → P0 k) ∧ (H0 ≤ k → ∃ cs t fz, W.heap[k]? = some (.cells cs t fz) ∧ t ≠ 3 ∧ t ≠ 34) := by
  obtain ⟨A, c, ok, rfl, hl, hF, hok⟩ := h
  exact ⟨ok, k25_mkF W ok x hl hF, hok⟩
theorem WordsOf.one {W : World} {H0 Wb : Nat} {P0 : Nat → Prop} {v u : Value} {ws : List Int} (h : WordsOf W H0 Wb P0 v u ws) : u.oneCell' = true ∧ u.cells.toList = [u] := by
  obtain ⟨A, c, ok, rfl, _⟩ := h
  exact ⟨rfl, rfl⟩
theorem infoRow : (Tryd.prog.info? 25).map (·.size) = some 2 := by kernel_rfl
theorem ColMem.put {W : World} {H0 Wb : Nat} {P0 : Nat → Prop} {g cap : Nat} {n : Int} {rs : List S25} {done L : Nat} (h : ColMem W H0 Wb P0 (.slice (some ⟨g, 0, none⟩) L cap) n rs done) (i : Nat) (hi : i < rs.length) (x : S25) (u : Value) (hu : WordsOf W H0 Wb P0 (.slice (some ⟨g, 0, none⟩) L cap) u x.f1) :
    ColMem (W.setCells g (i * 2) [.int .i64 x.f0, u]) H0 Wb P0 (.slice (some ⟨g, 0, none⟩) L cap) n (rs.set i x) done ∧ Turns Wb (.slice (some ⟨g, 0, none⟩) L cap) W (W.setCells g (i * 2) [.int .i64 x.f0, u]) ∧ W.grownBy (W.setCells g (i * 2) [.int .i64 x.f0, u]) (some g) ∧
    (Instr.storeAt 25 (.pointer (some ⟨g, i * 2, none⟩)) (.agg #[.int .i64 x.f0, u])).run Tryd.prog W = .ok () (W.setCells g (i * 2) [.int .i64 x.f0, u]) := by
  obtain ⟨hx, ok, hN, hok⟩ := h
  have hL : L = rs.length := (Kd.N_reads' hN).1
  subst hL
  obtain ⟨c, hc, hF, hcc⟩ := Kd.N_get hN z25 (i : Int) (by omega) (by omega)
  obtain ⟨okw, hFw, hokw⟩ := FK_words hu
  obtain ⟨hu1, hu2⟩ := hu.one
  have hsz : k25.sz = 2 := rfl
  have hcc' : ∀ (j : Nat) (u' : Value), c[j]? = some u' → W.cell? ⟨g, (i : Int).toNat * k25.sz + j, none⟩ = some u' := fun j u' hj => by
    have := hcc j u' hj
    unfold Addr.add at this
    split at this
    · rename_i e; rw [e]; exact this
    · simpa using this
  have hgo : ∀ k, some k ≠ (Value.slice (some ⟨g, 0, none⟩) rs.length cap).ownBlock → k ≠ g := fun k hk e => hk (by rw [e]; rfl)
  have hN2 : Kd.N k25 25 W H0 (fun k => ok k ∨ okw k) (.slice (some ⟨g, 0, none⟩) rs.length cap) rs := Kd.N_mono hN fun k hk => .inl hk
  have hseg := Kd.N_seg hN2 (i : Int) (by omega) (by omega) (c := c) (seg := [.int .i64 x.f0, u]) (j := 0) hc hcc' (by show 0 + 2 ≤ 2; omega) (x' := x) (okp := okw) (by
    have : c.drop (0 + [Value.int .i64 x.f0, u].length) = [] := by
      apply List.drop_eq_nil_of_le
      show c.length ≤ 2
      omega
    rw [this, List.take_zero, List.nil_append, List.append_nil]
    exact hFw) (fun k hk => ⟨.inr hk, hgo k (hokw k hk).2.1⟩)
  rw [hsz, Int.toNat_natCast, Nat.add_zero] at hseg
  obtain ⟨hrow, hg⟩ := hseg
  obtain ⟨cs, hcs⟩ := Kd.N_typed hN g rfl
  have hWg : Wb ≠ g := by
    have := (hok g (hN.1 g rfl)).1
    exact fun e => this e.symm
  have hsame : ∀ k, k ≠ g → k < W.heap.size → (W.setCells g (i * 2) [.int .i64 x.f0, u]).heap[k]? = W.heap[k]? := fun k hk hl => hg.block k hl (by simpa using hk)
  have hgt := Kd.N_typed hrow g rfl
  refine ⟨⟨(hsame Wb hWg (blk_lt hx)).trans hx, _, hrow, fun k hk => ?_⟩, ⟨some g, hg, fun r e => ?_⟩, hg, ?_⟩
  · by_cases hkg : k = g
    · subst hkg
      obtain ⟨h1, h2, _⟩ := hok k (hN.1 k rfl)
      obtain ⟨cs', hcs'⟩ := hgt
      exact ⟨h1, h2, fun _ => ⟨cs', _, _, hcs', by decide, by decide⟩⟩
    · have key : k ≠ Wb ∧ (k < H0 → P0 k) ∧ (H0 ≤ k → ∃ cs t fz, W.heap[k]? = some (.cells cs t fz) ∧ t ≠ 3 ∧ t ≠ 34) := by
        rcases hk with hk | hk
        · exact hok k hk
        · obtain ⟨h1, _, h2, h3⟩ := hokw k hk
          exact ⟨h1, h2, h3⟩
      refine ⟨key.1, key.2.1, fun hh => ?_⟩
      obtain ⟨cs', t, fz, hc', ht⟩ := key.2.2 hh
      exact ⟨cs', t, fz, (hsame k hkg (Array.getElem?_eq_some_iff.1 hc').1).trans hc', ht⟩
  · obtain rfl : g = r := by injection e
    exact ⟨.inr rfl, cs, _, _, hcs⟩
  · obtain ⟨rows, hrl, hR, _⟩ : ∃ rows : List (List Value), rows.length = rs.length ∧ (Kd.raw 2).R 25 W H0 (fun k => some k = (Value.slice (some ⟨g, 0, none⟩) rs.length cap).ownBlock) (.slice (some ⟨g, 0, none⟩) rs.length cap) rows ∧ True := by
      obtain ⟨_, rows, h1, h2, _⟩ := hN
      exact ⟨rows, h1, h2, trivial⟩
    obtain ⟨_, inner, hown, _⟩ := hR
    rcases hown.2 with ⟨hv, _⟩ | ⟨g', cap', cur, hv, _, hh, hnc, _, hsz', _⟩
    · exact absurd (Value.slice.inj hv).1 (by simp)
    · obtain ⟨ha, hb, hc2⟩ := Value.slice.inj hv
      have ha := congrArg Addr.block (Option.some.inj ha)
      simp only at ha
      subst ha
      subst hc2
      have hs2 : cur.size = cap * 2 := hsz'
      refine run_store_run 25 _ _ hh ?_ infoRow ?_ ?_
      · obtain ⟨A, c0, okx, hue, _⟩ := hu
        rw [hue]
        simp [Value.cells]
      · show i * 2 + 2 ≤ cur.size
        omega
      · intro q hq
        rcases List.mem_cons.1 hq with rfl | hq
        · rfl
        · rcases List.mem_cons.1 hq with rfl | hq
          · exact hu1
          · cases hq
theorem rows_cut (A : Option Addr) (c : Nat) (xs : List S25) (m : Nat) (hm : m ≤ xs.length) (hc : xs.length ≤ c) :
    ∃ A' : Option Addr, (∀ W : World, (Instr.slice 53 (.slice A xs.length c) (some (.int .i64 (m : Int))) none none).run Tryd.prog W = .ok (.slice A' (xs.drop m).length (c - m)) W) ∧
      (∀ W : World, Kd.C k25 W A xs.length xs → Kd.C k25 W A' (xs.drop m).length (xs.drop m)) ∧ (xs.drop m).length ≤ c - m := by
  obtain ⟨i, hi, _, hsz, _⟩ := info_parts info25
  have hl : (xs.drop m).length = xs.length - m := List.length_drop
  refine ⟨if c = m then A else A.map (·.add (m * 2)), fun W => ?_, fun W h => Kd.C_drop (k := k25) h hm hc, by omega⟩
  have ht := Tryd.underlying53
  have hel : Tryd.prog.elem 53 = 25 := by simp [Program.elem, ht]
  have hu : Tryd.prog.underlying 53 = some (.slice (Tryd.prog.elem 53)) := by rw [hel]; exact ht
  rw [run_slice_l W 53 A xs.length c hu .i64 (m : Int) (Int.natCast_nonneg _) (by omega), hel, hl]
  simp [sizeOf, typeInfo, hi, hsz, sliced, Result.andThen]
theorem storeG_step {P : Program} {ops : Array Oper} {oi : Oper} {a : Act} {W W1 : World} {K : Act → World → Prop} {Q : Exit → Act → World → Prop} (t : TypeId) (p x : Operand) (pv xv : Value) (hw : Region.wanted oi (yielded ops a.tmps) = true) (hN : oi.dst = none) (ho : oi.op = .store t p x)
    (hp : a.eval p = pv) (hx : a.eval x = xv) (hrun : (Instr.storeAt t pv xv).run P W = .ok () W1) (h : K a W1) : if Region.wanted oi (yielded ops a.tmps) = true then Oper.wp P oi a W K Q else K (a.put none undef) W :=
  skip_ hw hN (by unfold execOp; simp only [ho, hp, hx, Sem.run_bind, Sem.run_pure, Result.andThen_ok, hrun]) h
theorem words_far {W W' : World} {H0 Wb g n cap : Nat} {P0 : Nat → Prop} {u : Value} {ws : List Int} (h : WordsOf W H0 Wb P0 (.slice (some ⟨g, 0, none⟩) n cap) u ws) (hg : W.grownBy W' (some g)) : WordsOf W' H0 Wb P0 (.slice (some ⟨g, 0, none⟩) n cap) u ws :=
  h.turn fun k hl _ h2 => hg.block k hl h2
theorem ColMem.typ {W : World} {H0 Wb g L cap : Nat} {P0 : Nat → Prop} {n : Int} {rs : List S25} {done : Nat} (h : ColMem W H0 Wb P0 (.slice (some ⟨g, 0, none⟩) L cap) n rs done) : ∃ cs, W.heap[g]? = some (.cells cs 25 (0, 0)) := by
  obtain ⟨_, ok, hN, _⟩ := h
  exact Kd.N_typed hN g rfl
theorem ne_typ {W : World} {a b : Nat} {cs cs' : Array Value} {t t' : TypeId} {fz fz' : Nat × Nat} (h : W.heap[a]? = some (.cells cs t fz)) (h' : W.heap[b]? = some (.cells cs' t' fz')) (ht : t ≠ t') : a ≠ b := by
  rintro rfl
  rw [h] at h'
  injection h' with h'
  injection h' with _ h' _
  exact ht h'
theorem below_over {n go : Nat} {W W1 W2 : World} (hb : Below n W W1) (hg : W1.grownBy W2 (some go)) (hn : n ≤ go) (hl : n ≤ W1.heap.size) : Below n W W2 :=
  hb.trans ⟨hg.os, hg.tape, hg.output, hg.size, fun k hk => hg.block k (by omega) (by simp; omega)⟩
theorem box2_store {W : World} {go : Nat} {a b : Value} (h : W.heap[go]? = some (.cells #[a, b] 25 (0, 0))) (f : Int) (u : Value) (hu : u.oneCell' = true) (hc : u.cells.toList = [u]) :
    (Instr.storeAt 25 (.pointer (some ⟨go, 0, none⟩)) (.agg #[.int .i64 f, u])).run Tryd.prog W = .ok () (W.setCells go 0 [.int .i64 f, u]) ∧ (W.setCells go 0 [.int .i64 f, u]).heap[go]? = some (.cells #[.int .i64 f, u] 25 (0, 0)) ∧ W.grownBy (W.setCells go 0 [.int .i64 f, u]) (some go) := by
  have h1 : ∀ q ∈ [Value.int .i64 f, u], q.oneCell' = true := by
    intro q hq
    rcases List.mem_cons.1 hq with rfl | hq
    · rfl
    · rcases List.mem_cons.1 hq with rfl | hq
      · exact hu
      · cases hq
  obtain ⟨s1, s2, s3, s4⟩ := setCells_same go [Value.int .i64 f, u] 0 W
  refine ⟨run_store_run 25 _ _ h rfl infoRow (by show 0 + 2 ≤ 2; omega) h1, ?_, ⟨s1, s2, s3, Nat.le_of_eq s4.symm, fun k _ hk => setCells_far _ _ k (fun e => hk (by rw [e]))⟩⟩
  have p1 := blk_put (cs := #[a, b]) h 0 (.int .i64 f) rfl
  have p2 := blk_put (cs := #[.int .i64 f, b]) p1 1 u rfl
  exact p2
theorem grown_setCell (w : World) (a : Addr) (u : Value) : w.grownBy (w.setCell a u) (some a.block) :=
  ⟨rfl, rfl, rfl, by simp, fun k _ hk => Below.heap_setCell w a u k (fun e => hk (by rw [e]))⟩
def ech_in (k : Nat) (i : Int) (d : Nat) (own : S25) : Nat → Nat → List S25 → Option (List S25)
  | 0, _, rs => some rs
  | m + 1, j, rs => if j = d then ech_in k i d own m (j + 1) rs else (reduce_bit.f (rd_T25 rs (j : Int)).f0 (rd_T25 rs (j : Int)).f1 i).bind fun b => if b = true then (bitrow_Xor.f k (rd_T25 rs (j : Int)).f0 (rd_T25 rs (j : Int)).f1 own.f0 own.f1).bind fun y => ech_in k i d own m (j + 1) (rs.set j ⟨y.1, y.2.1⟩) else ech_in k i d own m (j + 1) rs
def ech_swap (rs : List S25) (d e : Nat) : List S25 := (rs.set d (rd_T25 rs (e : Int))).set e (rd_T25 rs (d : Int))
def ech_out (k : Nat) : Nat → Nat → List S25 → Nat → List Int → Option (List S25 × Nat × List Int)
  | 0, _, rs, d, ps => some (rs, d, ps)
  | m + 1, i, rs, d, ps => if d ≤ rs.length then (api_Row_100.f k (rs.drop d) (i : Int)).bind fun p => if p < 0 then ech_out k m (i + 1) rs d ps else if d + p.toNat < rs.length then (ech_in k (i : Int) d (rd_T25 (ech_swap rs d (d + p.toNat)) (d : Int)) rs.length 0 (ech_swap rs d (d + p.toNat))).bind fun rs2 => ech_out k m (i + 1) rs2 (d + 1) (ps ++ [(i : Int)]) else none else none
theorem ech_in_mono (k : Nat) (i : Int) (d : Nat) (own : S25) (m : Nat) : ∀ j rs, LeO (ech_in k i d own m j rs) (ech_in (k + 1) i d own m j rs) := by
  induction m with
  | zero => exact fun _ _ => LeO.refl _
  | succ m ih =>
    intro j rs
    unfold ech_in
    exact LeO.ite (ih _ _) (LeO.bind (LeO.refl _) fun b => LeO.ite (LeO.bind (bitrow_Xor.mono _ _ _ _ _) fun y => ih _ _) (ih _ _))
theorem ech_out_mono (k m : Nat) : ∀ i rs d ps, LeO (ech_out k m i rs d ps) (ech_out (k + 1) m i rs d ps) := by
  induction m with
  | zero => exact fun _ _ _ _ => LeO.refl _
  | succ m ih =>
    intro i rs d ps
    unfold ech_out
    exact LeO.ite (LeO.bind (api_Row_100.mono _ _ _) fun p => LeO.ite (ih _ _ _ _) (LeO.ite (LeO.bind (ech_in_mono _ _ _ _ _ _ _) fun rs2 => ih _ _ _ _) (LeO.none _))) (LeO.none _)
def columns.T3 : Bool × List (List Nat × List Nat) := (true, [([], []), ([0], [0]), ([1], [1]), ([2], [2]), ([], []), ([4], [4]), ([5], [5]), ([6], [6]), ([3, 7], [3, 7]), ([], []), ([8, 9], [8, 9]), ([10, 10, 0, 1, 2, 3, 4, 5, 6, 7, 8, 9, 10], [10])])
def columns.B3 : List Nat := [0, 1, 3, 7, 0, 16, 48, 112, 255, 0, 1023, 2047]
theorem columns.tab3 : rtab .any (opsOf Tryd.f83 3) = columns.T3 := by kernel_rfl
theorem columns.bits3 : waitsOk columns.T3.2 columns.B3 = true := by kernel_rfl
def columns.T5 : Bool × List (List Nat × List Nat) := (true, [([], []), ([0], [0]), ([1], [1]), ([2], [2]), ([], []), ([4], [4]), ([5], [5]), ([6], [6]), ([], []), ([8], [8]), ([9], [9]), ([10], [10]), ([], []), ([12], [12]), ([13], [13]), ([14], [14]), ([], []), ([15, 16], [15, 16]), ([], []), ([18], [18]), ([19], [19]), ([20], [20]), ([], []), ([22], [22]), ([23], [23]), ([24], [24]), ([], []), ([25, 26], [25, 26]), ([21, 27], [21, 27]), ([28], [28]), ([], []), ([30], [30]), ([31], [31]), ([32], [32]), ([], []), ([34], [34]), ([35], [35]), ([36], [36]), ([33, 37], [33, 37]), ([38], [38]), ([3, 7, 0, 1, 2, 3, 4, 5, 6, 7, 11, 15, 18, 19, 20, 21, 22, 23, 24, 25, 26, 27, 28, 29, 33, 37, 39], [3, 7]), ([40, 29, 0, 1, 2, 3, 4, 5, 6, 7, 11, 15, 18, 19, 20, 21, 22, 23, 24, 25, 26, 27, 28, 29, 33, 37, 39], [29, 40]), ([11, 17, 0, 1, 2, 3, 4, 5, 6, 7, 8, 9, 10, 11, 12, 13, 14, 15, 16, 17, 18, 19, 20, 21, 22, 23, 24, 25, 26, 27, 28, 29, 30, 31, 32, 33, 34, 35, 36, 37, 38, 39, 40, 41], [11, 17]), ([42, 39, 41, 0, 1, 2, 3, 4, 5, 6, 7, 8, 9, 10, 11, 12, 13, 14, 15, 16, 17, 18, 19, 20, 21, 22, 23, 24, 25, 26, 27, 28, 29, 30, 31, 32, 33, 34, 35, 36, 37, 38, 39, 40, 41], [39, 42])])
def columns.B5 : List Nat := [0, 1, 3, 7, 0, 16, 48, 112, 0, 256, 768, 1792, 0, 4096, 12288, 28672, 0, 126976, 0, 262144, 786432, 1835008, 0, 4194304, 12582912, 29360128, 0, 130023424, 268173312, 536608768, 0, 1073741824, 3221225472, 7516192768, 0, 17179869184, 51539607552, 120259084288, 273804165120, 548682072064, 1099511431167, 2199023058943, 4398046511103, 8796093022207]
theorem columns.tab5 : rtab .any (opsOf Tryd.f83 5) = columns.T5 := by kernel_rfl
theorem columns.bits5 : waitsOk columns.T5.2 columns.B5 = true := by kernel_rfl
def columns.T6 : Bool × List (List Nat × List Nat) := (true, [([], []), ([0], [0]), ([1], [1]), ([2], [2]), ([], []), ([4], [4]), ([5], [5]), ([6], [6]), ([3, 7], [3, 7]), ([8], [8]), ([], []), ([10, 9, 0, 1, 2, 3, 4, 5, 6, 7, 8, 9, 10], [9, 10])])
def columns.B6 : List Nat := [0, 1, 3, 7, 0, 16, 48, 112, 255, 511, 0, 2047]
theorem columns.tab6 : rtab .any (opsOf Tryd.f83 6) = columns.T6 := by kernel_rfl
theorem columns.bits6 : waitsOk columns.T6.2 columns.B6 = true := by kernel_rfl
def columns.T11 : Bool × List (List Nat × List Nat) := (true, [([], []), ([0], [0]), ([1], [1]), ([2], [2]), ([], []), ([], []), ([], []), ([5, 6], [5, 6]), ([7], [7]), ([8], [8]), ([8], [8]), ([3, 4, 0, 1, 2, 3, 4, 5, 6, 7, 8, 9], [3, 4]), ([11, 9, 7, 0, 1, 2, 3, 4, 5, 6, 7, 8, 9], [9, 11])])
def columns.B11 : List Nat := [0, 1, 3, 7, 0, 0, 0, 96, 224, 480, 480, 1023, 3071]
theorem columns.tab11 : rtab .any (opsOf Tryd.f83 11) = columns.T11 := by kernel_rfl
theorem columns.bits11 : waitsOk columns.T11.2 columns.B11 = true := by kernel_rfl
set_option maxHeartbeats 8000000 in
set_option maxRecDepth 100000 in
theorem columns_calls (k m l H0 Wb : Nat) (P0 : Nat → Prop) (v : Value) (n : Int) (rs : List S25) (r : List S25 × Nat × List Int) (W : World) (J : List Int → World → Prop) (hn0 : 0 ≤ n) (hn : n ≤ 64) (hL : rs.length ≤ 64)
    (hJT : ∀ s A B, J s A → Turns Wb v A B → J s B)
    (hY : ∀ (pre : List Int) (x : Int) W1, J pre W1 → pre.length < 64 → YieldAt Fence.wide m Tryd.prog l #[.int .i64 x] W1 fun e W' => e = .returned (.bool true) ∧ J (pre ++ [x]) W' ∧ KeepW H0 W1 W')
    (hM : ColMem W H0 Wb P0 v n rs 0) (hJ : J [] W) (hH : H0 ≤ Wb) (h : ech_out k n.toNat 0 rs 0 [] = some r) :
    Calls Tryd.prog 83 #[.pointer (some ⟨Wb, 0, none⟩), .func (.yield l) #[] #[]] W fun e W' => (∃ x, e = .returned x) ∧ J r.2.2 W' ∧ ColMem W' H0 Wb P0 v n r.1 r.2.1 ∧ r.1.length = rs.length := by
  obtain ⟨A, c, rfl, hlc, _⟩ := hM.reads
  have hc0 : W.cell? ⟨Wb, 0, none⟩ = some (.int .i64 n) := (blk_cell hM.box 0).trans rfl
  go_enter Tryd.func83, Tryd.ntmps83
  go_wp2
  go_loopw [13] (fun i wr => ∃ (j : Nat) (rs' : List S25) (d : Nat) (pre : List Int), i = .int .i64 (j : Int) ∧ (j : Int) ≤ n ∧ ech_out k (n.toNat - j) j rs' d pre = some r ∧ J pre wr ∧ ColMem wr H0 Wb P0 (.slice A rs.length c) n rs' d ∧ rs'.length = rs.length ∧ pre.length ≤ j ∧ H0 ≤ wr.heap.size) (fun i _ => n.toNat - (intOf i).toNat)
  case atStart => exact ⟨0, rs, 0, [], rfl, hn0, h, hJ, hM, rfl, Nat.le_refl _, by have := blk_lt hM.box; omega⟩
  case round =>
    obtain ⟨j, rs', d, pre, rfl, hjn, hev, hJ', hM', hl', hp', hw'⟩ := hrel
    clear hc0 h hM hJ
    by_cases hlt : (j : Int) < n
    · obtain ⟨q, hq⟩ : ∃ q, n.toNat - j = q + 1 := ⟨n.toNat - j - 1, by omega⟩
      rw [hq] at hev
      unfold ech_out at hev
      by_cases hdl : d ≤ rs'.length
      case neg => rw [if_neg hdl] at hev; cases hev
      rw [if_pos hdl] at hev
      obtain ⟨p, hp1, hev⟩ := Option.bind_eq_some_iff.mp hev
      have hlt' : decide ((j : Int) < n) = true := decide_eq_true hlt
      go_wp2
      clear hlt'
      have hb2 : Below wr.heap.size wr ((wr.alloc (.cells #[.int .i64 (j : Int)] 3)).drew) := below_drew1 (below_alloc (Below.refl _ _) _)
      have hgi : ((wr.alloc (.cells #[.int .i64 (j : Int)] 3)).drew).heap[wr.heap.size]? = some (.cells #[.int .i64 (j : Int)] 3 (0, 0)) := blk_drew (blk_new wr _)
      obtain ⟨gi, hgie⟩ : ∃ gi, wr.heap.size = gi := ⟨_, rfl⟩
      rw [hgie] at hgi ⊢
      obtain ⟨A1, hcutR, hcutC, hcutL⟩ := rows_cut A c rs' d hdl (by omega)
      rw [hl'] at hcutR
      generalize rs'.drop d = xs at hcutR hcutC hcutL hp1
      refine startG_ (n := 12) [(fun w' => w'.cell? ⟨Wb, 1, none⟩ = some (.slice A rs.length c) ∧ w'.cell? ⟨Wb, 2, none⟩ = some (.int .i64 (d : Int)), [])] #[F, F, F, F, F, F, F, F, F, F, F, F] (by kernel_rfl) rfl rfl ?_; refine with_tabG columns.tab3 columns.bits3 (fun HT_ HW_ => ?_)
      have hM2 := hM'.below hb2
      generalize (wr.alloc (.cells #[.int .i64 (j : Int)] 3)).drew = w2 at hb2 hgi hM2 ⊢
      have hC2 : Kd.C k25 w2 A rs'.length rs' := by (obtain ⟨A2, c2, he2, _, hC2⟩ := hM2.reads; rw [(Value.slice.inj he2).1]; exact hC2)
      refine pureG_ (i := 0) (N := some 16) (v := ?_) (a' := ?_) #[T, F, F, F, F, F, F, F, F, F, F, F] rfl rfl (any_of HT_.out (by kernel_rfl)) (fun _ _ _ h => h) (Or.inl ⟨by rfl, ?_⟩) ?_ ?_
      rotate_left
      · intro w'
        go_simp
        with_reducible rfl
      rotate_left
      · simp only [Act.put, q1, q2, q3, i64_w, i32_w]
        rfl
      refine pureG_ (i := 1) (N := some 17) (v := ?_) (a' := ?_) #[T, T, F, F, F, F, F, F, F, F, F, F] rfl rfl (any_of HT_.out (by kernel_rfl)) (fun _ _ _ h => h) (Or.inl ⟨by rfl, ?_⟩) ?_ ?_
      rotate_left
      · intro w'
        go_simp
        with_reducible rfl
      rotate_left
      · simp only [Act.put, q1, q2, q3, i64_w, i32_w]
        rfl
      refine pureG_ (i := 2) (N := some 18) (v := ?_) (a' := ?_) #[T, T, T, F, F, F, F, F, F, F, F, F] rfl rfl (any_of HT_.out (by kernel_rfl)) (fun _ _ _ h => h) (Or.inl ⟨by rfl, ?_⟩) ?_ ?_
      rotate_left
      · intro w'
        go_simp
        with_reducible rfl
      rotate_left
      · simp only [Act.put, q1, q2, q3, i64_w, i32_w]
        rfl
      refine pureG_ (i := 4) (N := some 20) (v := ?_) (a' := ?_) #[T, T, T, F, T, F, F, F, F, F, F, F] rfl rfl (any_of HT_.out (by kernel_rfl)) (fun _ _ _ h => h) (Or.inl ⟨by rfl, ?_⟩) ?_ ?_
      rotate_left
      · intro w'
        go_simp
        with_reducible rfl
      rotate_left
      · simp only [Act.put, q1, q2, q3, i64_w, i32_w]
        rfl
      refine pureG_ (i := 5) (N := some 21) (v := ?_) (a' := ?_) #[T, T, T, F, T, T, F, F, F, F, F, F] rfl rfl (any_of HT_.out (by kernel_rfl)) (fun _ _ _ h => h) (Or.inl ⟨by rfl, ?_⟩) ?_ ?_
      rotate_left
      · intro w'
        go_simp
        with_reducible rfl
      rotate_left
      · simp only [Act.put, q1, q2, q3, i64_w, i32_w]
        rfl
      refine pureG_ (i := 6) (N := some 22) (v := ?_) (a' := ?_) #[T, T, T, F, T, T, T, F, F, F, F, F] rfl rfl (any_of HT_.out (by kernel_rfl)) (fun _ _ _ h => h) (Or.inl ⟨by rfl, ?_⟩) ?_ ?_
      rotate_left
      · intro w'
        go_simp
        with_reducible rfl
      rotate_left
      · simp only [Act.put, q1, q2, q3, i64_w, i32_w]
        rfl
      refine pureG_ (i := 9) (N := some 25) (v := ?_) (a' := ?_) #[T, T, T, F, T, T, T, F, F, T, F, F] rfl rfl (any_of HT_.out (by kernel_rfl)) (fun _ _ _ h => h) (Or.inl ⟨by rfl, ?_⟩) ?_ ?_
      rotate_left
      · intro w'
        go_simp
        with_reducible rfl
      rotate_left
      · simp only [Act.put, q1, q2, q3, i64_w, i32_w]
        rfl
      refine takeG_ (i := 3) (N := some 19) (v := ?_) (a' := ?_) (fun w' => w'.cell? ⟨Wb, 1, none⟩ = some (.slice A rs.length c) ∧ w'.cell? ⟨Wb, 2, none⟩ = some (.int .i64 (d : Int))) [] (.head _) #[T, T, T, T, T, T, T, F, F, T, F, F] rfl rfl (take_ofW HT_.out HW_.out (by kernel_rfl)) (fun _ _ _ h => h) (Or.inl ⟨by rfl, ?_⟩) ⟨(blk_cell hM2.box 1).trans rfl, (blk_cell hM2.box 2).trans rfl⟩ ?_ ?_
      rotate_left
      · rintro w' ⟨s0, s1⟩
        go_simp
        with_reducible rfl
      rotate_left
      · simp only [Act.put, q1, q2, q3, i64_w, i32_w]
        rfl
      refine takeG_ (i := 7) (N := some 23) (v := ?_) (a' := ?_) (fun w' => w'.cell? ⟨Wb, 1, none⟩ = some (.slice A rs.length c) ∧ w'.cell? ⟨Wb, 2, none⟩ = some (.int .i64 (d : Int))) [] (.head _) #[T, T, T, T, T, T, T, T, F, T, F, F] rfl rfl (take_ofW HT_.out HW_.out (by kernel_rfl)) (fun _ _ _ h => h) (Or.inl ⟨by rfl, ?_⟩) ⟨(blk_cell hM2.box 1).trans rfl, (blk_cell hM2.box 2).trans rfl⟩ ?_ ?_
      rotate_left
      · rintro w' ⟨s0, s1⟩
        go_simp
        with_reducible rfl
      rotate_left
      · simp only [Act.put, q1, q2, q3, i64_w, i32_w]
        rfl
      refine pureG_ (i := 8) (N := some 24) (v := ?_) (a' := ?_) #[T, T, T, T, T, T, T, T, T, T, F, F] rfl rfl (any_of HT_.out (by kernel_rfl)) (fun _ _ _ h => h) (Or.inl ⟨by rfl, ?_⟩) ?_ ?_
      rotate_left
      · intro w'
        go_simp
        with_reducible rfl
      rotate_left
      · simp only [Act.put, q1, q2, q3, i64_w, i32_w]
        rfl
      refine oneG_ (i := 10) (N := some 26) #[T, T, T, T, T, T, T, T, T, T, T, F] rfl rfl (one_of HT_.out (by kernel_rfl)) (fun K hK => ?_)
      refine goes_ Tryd.func99 (by kernel_rfl) rfl #[.slice A1 xs.length (c - d), .func (.func 100) #[] #[.pointer (some ⟨gi, 0, none⟩)]] (by rfl) rfl rfl (by (try simp only [List.map_toArray, List.map_cons, List.map_nil]); first | done | rfl) ?_
      refine (api_Row_100.calls k A1 (c - d) xs gi (j : Int) p w2 (hcutC w2 hC2) hcutL hgi hp1).mono ?_
      rintro e w3 ⟨rfl, hb3⟩
      have hM3 := hM2.below hb3
      refine ⟨_, rfl, ?_⟩
      refine hK.out _ _ (Goes.cons ⟨(blk_cell hM3.box 1).trans rfl, (blk_cell hM3.box 2).trans rfl⟩ Goes.nil) ?_
      clear hK K
      refine normG_ (a' := ?_) ?_ ?_
      rotate_left
      · show Act.put _ (some 26) _ = _
        simp only [Act.put, q1, q2, q3, i64_w, i32_w]
        rfl
      refine pureG_ (i := 11) (N := some 5) (v := ?_) (a' := ?_) #[T, T, T, T, T, T, T, T, T, T, T, T] rfl rfl (any_of HT_.out (by kernel_rfl)) (fun _ _ _ h => h) (Or.inl ⟨by rfl, ?_⟩) ?_ ?_
      rotate_left
      · intro w'
        go_simp
        with_reducible rfl
      rotate_left
      · simp only [Act.put, q1, q2, q3, i64_w, i32_w]
        rfl
      refine doneG_ (done_of HT_.out (by kernel_rfl)) ?_
      have hB3 : Below wr.heap.size wr w3 := hb2.trans (hb3.mono hb2.size)
      have hJ3 : J pre w3 := hJT _ _ _ hJ' (Turns.of_below hB3)
      have hw3 : H0 ≤ w3.heap.size := Nat.le_trans hw' hB3.size
      have hgi3 : w3.heap[gi]? = some (.cells #[.int .i64 (j : Int)] 3 (0, 0)) := blk_below hgi hb3
      clear hB3 hb2 hb3 hgi hM2 hC2 hcutR hcutC hcutL hJ' hM' hgie hw' w2 wr
      by_cases hneg : p < 0
      · rw [if_pos hneg] at hev
        have hn' : decide (p < 0) = true := decide_eq_true hneg
        go_wp2
        go_roundw
        case rel => exact ⟨j + 1, rs', d, pre, by simp, by omega, by (rw [show n.toNat - (j + 1) = q by omega]; exact hev), hJ3, hM3, hl', by omega, hw3⟩
        case measure => simp [intOf]; omega
      · rw [if_neg hneg] at hev
        have hn' : decide (p < 0) = false := decide_eq_false hneg
        obtain ⟨e, rfl⟩ : ∃ e : Nat, p = (e : Int) := ⟨p.toNat, by omega⟩
        rw [Int.toNat_natCast] at hev
        by_cases hde : d + e < rs'.length
        case neg => rw [if_neg hde] at hev; cases hev
        rw [if_pos hde] at hev
        obtain ⟨rs2, hin, hev⟩ := Option.bind_eq_some_iff.mp hev
        obtain ⟨s, hse⟩ : ∃ s, d + e = s := ⟨_, rfl⟩
        rw [hse] at hde hin
        have hs := hde
        have hd : d < rs'.length := by omega
        have hws : IntKind.i64.wrap ((d : Int) + (e : Int)) = (s : Int) := by rw [← hse]; exact (i64_w _).trans (by unfold wrap64; omega)
        have hs1 : (s < rs.length) = True := eq_true (by omega)
        have hd1 : (d < rs.length) = True := eq_true (by omega)
        have hs0 : (s < rs'.length) = True := eq_true (by omega)
        have hd0 : (d < rs'.length) = True := eq_true (by omega)
        go_wp2
        have hM4 := hM3.below (below_drew1 (Below.refl _ _))
        have hgi4 := blk_drew hgi3
        have hJ4 : J pre w3.drew := hJT _ _ _ hJ3 (Turns.of_below (below_drew1 (Below.refl _ _)))
        have hw4 : H0 ≤ w3.drew.heap.size := hw3
        obtain ⟨g, cap, ua, hva, hg0, hg1, ca0, ca1, hwa⟩ := hM4.get s hs
        obtain ⟨g', cap', ub, hvb, _, _, cb0, cb1, hwb⟩ := hM4.get d hd
        obtain ⟨hva1, hva2, hva3⟩ := Value.slice.inj hva
        subst hva1
        subst hva3
        have hgg := (Value.slice.inj hvb).1
        obtain rfl : g = g' := congrArg Addr.block (Option.some.inj hgg)
        clear hva hva2 hvb hgg hM3 hgi3 hJ3 hw3 hg0 hg1
        replace hse := Aside0.mk hse
        replace hde := Aside0.mk hde
        replace hs := Aside0.mk hs
        replace hd := Aside0.mk hd
        replace hdl := Aside0.mk hdl
        replace hlt := Aside0.mk hlt
        replace hneg := Aside0.mk hneg
        replace hq := Aside0.mk hq
        replace hev := Aside0.mk hev
        replace hin := Aside0.mk hin
        replace hl' := Aside0.mk hl'
        replace hp' := Aside0.mk hp'
        replace hp1 := Aside0.mk hp1
        replace ca0 := Aside0.mk ca0
        replace ca1 := Aside0.mk ca1
        replace cb0 := Aside0.mk cb0
        replace cb1 := Aside0.mk cb1
        replace hgi4 := Aside0.mk hgi4
        replace hJ4 := Aside0.mk hJ4
        replace hw4 := Aside0.mk hw4
        replace hjn := Aside0.mk hjn
        replace hn' := Aside0.mk hn'
        replace hn0 := Aside0.mk hn0
        replace hn := Aside0.mk hn
        replace hL := Aside0.mk hL
        refine startG_ (n := 44) [(fun w' => w'.cell? ⟨Wb, 1, none⟩ = some (.slice (some ⟨g, 0, none⟩) rs.length c) ∧ w'.cell? ⟨Wb, 2, none⟩ = some (.int .i64 (d : Int)), []), (fun w' => w'.cell? ⟨g, s * 2, none⟩ = some (.int .i64 (rd_T25 rs' (s : Int)).f0) ∧ w'.cell? ⟨g, s * 2 + 1, none⟩ = some ua ∧ w'.cell? ⟨g, d * 2, none⟩ = some (.int .i64 (rd_T25 rs' (d : Int)).f0) ∧ w'.cell? ⟨g, d * 2 + 1, none⟩ = some ub, [41, 43])] #[F, F, F, F, F, F, F, F, F, F, F, F, F, F, F, F, F, F, F, F, F, F, F, F, F, F, F, F, F, F, F, F, F, F, F, F, F, F, F, F, F, F, F, F] (by kernel_rfl) rfl rfl ?_; refine with_tabG columns.tab5 columns.bits5 (fun HT_ HW_ => ?_)
        generalize w3.drew = w4 at hM4 hgi4 hJ4 hw4 ca0 ca1 cb0 cb1 hwa hwb ⊢
        refine pureG_ (i := 0) (N := some 29) (v := ?_) (a' := ?_) #[T, F, F, F, F, F, F, F, F, F, F, F, F, F, F, F, F, F, F, F, F, F, F, F, F, F, F, F, F, F, F, F, F, F, F, F, F, F, F, F, F, F, F, F] rfl rfl (any_of HT_.out (by kernel_rfl)) (fun _ _ _ h => h) (Or.inl ⟨by rfl, ?_⟩) ?_ ?_
        rotate_left
        · intro w'
          go_simp
          with_reducible rfl
        rotate_left
        · simp only [Act.put, q1, q2, q3, i64_w, i32_w]
          rfl
        refine pureG_ (i := 1) (N := some 30) (v := ?_) (a' := ?_) #[T, T, F, F, F, F, F, F, F, F, F, F, F, F, F, F, F, F, F, F, F, F, F, F, F, F, F, F, F, F, F, F, F, F, F, F, F, F, F, F, F, F, F, F] rfl rfl (any_of HT_.out (by kernel_rfl)) (fun _ _ _ h => h) (Or.inl ⟨by rfl, ?_⟩) ?_ ?_
        rotate_left
        · intro w'
          go_simp
          with_reducible rfl
        rotate_left
        · simp only [Act.put, q1, q2, q3, i64_w, i32_w]
          rfl
        refine pureG_ (i := 2) (N := some 31) (v := ?_) (a' := ?_) #[T, T, T, F, F, F, F, F, F, F, F, F, F, F, F, F, F, F, F, F, F, F, F, F, F, F, F, F, F, F, F, F, F, F, F, F, F, F, F, F, F, F, F, F] rfl rfl (any_of HT_.out (by kernel_rfl)) (fun _ _ _ h => h) (Or.inl ⟨by rfl, ?_⟩) ?_ ?_
        rotate_left
        · intro w'
          go_simp
          with_reducible rfl
        rotate_left
        · simp only [Act.put, q1, q2, q3, i64_w, i32_w]
          rfl
        refine pureG_ (i := 4) (N := some 33) (v := ?_) (a' := ?_) #[T, T, T, F, T, F, F, F, F, F, F, F, F, F, F, F, F, F, F, F, F, F, F, F, F, F, F, F, F, F, F, F, F, F, F, F, F, F, F, F, F, F, F, F] rfl rfl (any_of HT_.out (by kernel_rfl)) (fun _ _ _ h => h) (Or.inl ⟨by rfl, ?_⟩) ?_ ?_
        rotate_left
        · intro w'
          go_simp
          with_reducible rfl
        rotate_left
        · simp only [Act.put, q1, q2, q3, i64_w, i32_w]
          rfl
        refine pureG_ (i := 5) (N := some 34) (v := ?_) (a' := ?_) #[T, T, T, F, T, T, F, F, F, F, F, F, F, F, F, F, F, F, F, F, F, F, F, F, F, F, F, F, F, F, F, F, F, F, F, F, F, F, F, F, F, F, F, F] rfl rfl (any_of HT_.out (by kernel_rfl)) (fun _ _ _ h => h) (Or.inl ⟨by rfl, ?_⟩) ?_ ?_
        rotate_left
        · intro w'
          go_simp
          with_reducible rfl
        rotate_left
        · simp only [Act.put, q1, q2, q3, i64_w, i32_w]
          rfl
        refine pureG_ (i := 6) (N := some 35) (v := ?_) (a' := ?_) #[T, T, T, F, T, T, T, F, F, F, F, F, F, F, F, F, F, F, F, F, F, F, F, F, F, F, F, F, F, F, F, F, F, F, F, F, F, F, F, F, F, F, F, F] rfl rfl (any_of HT_.out (by kernel_rfl)) (fun _ _ _ h => h) (Or.inl ⟨by rfl, ?_⟩) ?_ ?_
        rotate_left
        · intro w'
          go_simp
          with_reducible rfl
        rotate_left
        · simp only [Act.put, q1, q2, q3, i64_w, i32_w]
          rfl
        refine pureG_ (i := 8) (N := some 37) (v := ?_) (a' := ?_) #[T, T, T, F, T, T, T, F, T, F, F, F, F, F, F, F, F, F, F, F, F, F, F, F, F, F, F, F, F, F, F, F, F, F, F, F, F, F, F, F, F, F, F, F] rfl rfl (any_of HT_.out (by kernel_rfl)) (fun _ _ _ h => h) (Or.inl ⟨by rfl, ?_⟩) ?_ ?_
        rotate_left
        · intro w'
          go_simp
          with_reducible rfl
        rotate_left
        · simp only [Act.put, q1, q2, q3, i64_w, i32_w]
          rfl
        refine pureG_ (i := 9) (N := some 38) (v := ?_) (a' := ?_) #[T, T, T, F, T, T, T, F, T, T, F, F, F, F, F, F, F, F, F, F, F, F, F, F, F, F, F, F, F, F, F, F, F, F, F, F, F, F, F, F, F, F, F, F] rfl rfl (any_of HT_.out (by kernel_rfl)) (fun _ _ _ h => h) (Or.inl ⟨by rfl, ?_⟩) ?_ ?_
        rotate_left
        · intro w'
          go_simp
          with_reducible rfl
        rotate_left
        · simp only [Act.put, q1, q2, q3, i64_w, i32_w]
          rfl
        refine pureG_ (i := 10) (N := some 39) (v := ?_) (a' := ?_) #[T, T, T, F, T, T, T, F, T, T, T, F, F, F, F, F, F, F, F, F, F, F, F, F, F, F, F, F, F, F, F, F, F, F, F, F, F, F, F, F, F, F, F, F] rfl rfl (any_of HT_.out (by kernel_rfl)) (fun _ _ _ h => h) (Or.inl ⟨by rfl, ?_⟩) ?_ ?_
        rotate_left
        · intro w'
          go_simp
          with_reducible rfl
        rotate_left
        · simp only [Act.put, q1, q2, q3, i64_w, i32_w]
          rfl
        refine pureG_ (i := 12) (N := some 41) (v := ?_) (a' := ?_) #[T, T, T, F, T, T, T, F, T, T, T, F, T, F, F, F, F, F, F, F, F, F, F, F, F, F, F, F, F, F, F, F, F, F, F, F, F, F, F, F, F, F, F, F] rfl rfl (any_of HT_.out (by kernel_rfl)) (fun _ _ _ h => h) (Or.inl ⟨by rfl, ?_⟩) ?_ ?_
        rotate_left
        · intro w'
          go_simp
          with_reducible rfl
        rotate_left
        · simp only [Act.put, q1, q2, q3, i64_w, i32_w]
          rfl
        refine pureG_ (i := 13) (N := some 42) (v := ?_) (a' := ?_) #[T, T, T, F, T, T, T, F, T, T, T, F, T, T, F, F, F, F, F, F, F, F, F, F, F, F, F, F, F, F, F, F, F, F, F, F, F, F, F, F, F, F, F, F] rfl rfl (any_of HT_.out (by kernel_rfl)) (fun _ _ _ h => h) (Or.inl ⟨by rfl, ?_⟩) ?_ ?_
        rotate_left
        · intro w'
          go_simp
          with_reducible rfl
        rotate_left
        · simp only [Act.put, q1, q2, q3, i64_w, i32_w]
          rfl
        refine pureG_ (i := 14) (N := some 43) (v := ?_) (a' := ?_) #[T, T, T, F, T, T, T, F, T, T, T, F, T, T, T, F, F, F, F, F, F, F, F, F, F, F, F, F, F, F, F, F, F, F, F, F, F, F, F, F, F, F, F, F] rfl rfl (any_of HT_.out (by kernel_rfl)) (fun _ _ _ h => h) (Or.inl ⟨by rfl, ?_⟩) ?_ ?_
        rotate_left
        · intro w'
          go_simp
          with_reducible rfl
        rotate_left
        · simp only [Act.put, q1, q2, q3, i64_w, i32_w]
          rfl
        refine pureG_ (i := 16) (N := some 45) (v := ?_) (a' := ?_) #[T, T, T, F, T, T, T, F, T, T, T, F, T, T, T, F, T, F, F, F, F, F, F, F, F, F, F, F, F, F, F, F, F, F, F, F, F, F, F, F, F, F, F, F] rfl rfl (any_of HT_.out (by kernel_rfl)) (fun _ _ _ h => h) (Or.inl ⟨by rfl, ?_⟩) ?_ ?_
        rotate_left
        · intro w'
          go_simp
          with_reducible rfl
        rotate_left
        · simp only [Act.put, q1, q2, q3, i64_w, i32_w]
          rfl
        refine pureG_ (i := 18) (N := some 47) (v := ?_) (a' := ?_) #[T, T, T, F, T, T, T, F, T, T, T, F, T, T, T, F, T, F, T, F, F, F, F, F, F, F, F, F, F, F, F, F, F, F, F, F, F, F, F, F, F, F, F, F] rfl rfl (any_of HT_.out (by kernel_rfl)) (fun _ _ _ h => h) (Or.inl ⟨by rfl, ?_⟩) ?_ ?_
        rotate_left
        · intro w'
          go_simp
          with_reducible rfl
        rotate_left
        · simp only [Act.put, q1, q2, q3, i64_w, i32_w]
          rfl
        refine pureG_ (i := 19) (N := some 48) (v := ?_) (a' := ?_) #[T, T, T, F, T, T, T, F, T, T, T, F, T, T, T, F, T, F, T, T, F, F, F, F, F, F, F, F, F, F, F, F, F, F, F, F, F, F, F, F, F, F, F, F] rfl rfl (any_of HT_.out (by kernel_rfl)) (fun _ _ _ h => h) (Or.inl ⟨by rfl, ?_⟩) ?_ ?_
        rotate_left
        · intro w'
          go_simp
          with_reducible rfl
        rotate_left
        · simp only [Act.put, q1, q2, q3, i64_w, i32_w]
          rfl
        refine pureG_ (i := 20) (N := some 49) (v := ?_) (a' := ?_) #[T, T, T, F, T, T, T, F, T, T, T, F, T, T, T, F, T, F, T, T, T, F, F, F, F, F, F, F, F, F, F, F, F, F, F, F, F, F, F, F, F, F, F, F] rfl rfl (any_of HT_.out (by kernel_rfl)) (fun _ _ _ h => h) (Or.inl ⟨by rfl, ?_⟩) ?_ ?_
        rotate_left
        · intro w'
          go_simp
          with_reducible rfl
        rotate_left
        · simp only [Act.put, q1, q2, q3, i64_w, i32_w]
          rfl
        refine pureG_ (i := 22) (N := some 51) (v := ?_) (a' := ?_) #[T, T, T, F, T, T, T, F, T, T, T, F, T, T, T, F, T, F, T, T, T, F, T, F, F, F, F, F, F, F, F, F, F, F, F, F, F, F, F, F, F, F, F, F] rfl rfl (any_of HT_.out (by kernel_rfl)) (fun _ _ _ h => h) (Or.inl ⟨by rfl, ?_⟩) ?_ ?_
        rotate_left
        · intro w'
          go_simp
          with_reducible rfl
        rotate_left
        · simp only [Act.put, q1, q2, q3, i64_w, i32_w]
          rfl
        refine pureG_ (i := 23) (N := some 52) (v := ?_) (a' := ?_) #[T, T, T, F, T, T, T, F, T, T, T, F, T, T, T, F, T, F, T, T, T, F, T, T, F, F, F, F, F, F, F, F, F, F, F, F, F, F, F, F, F, F, F, F] rfl rfl (any_of HT_.out (by kernel_rfl)) (fun _ _ _ h => h) (Or.inl ⟨by rfl, ?_⟩) ?_ ?_
        rotate_left
        · intro w'
          go_simp
          with_reducible rfl
        rotate_left
        · simp only [Act.put, q1, q2, q3, i64_w, i32_w]
          rfl
        refine pureG_ (i := 24) (N := some 53) (v := ?_) (a' := ?_) #[T, T, T, F, T, T, T, F, T, T, T, F, T, T, T, F, T, F, T, T, T, F, T, T, T, F, F, F, F, F, F, F, F, F, F, F, F, F, F, F, F, F, F, F] rfl rfl (any_of HT_.out (by kernel_rfl)) (fun _ _ _ h => h) (Or.inl ⟨by rfl, ?_⟩) ?_ ?_
        rotate_left
        · intro w'
          go_simp
          with_reducible rfl
        rotate_left
        · simp only [Act.put, q1, q2, q3, i64_w, i32_w]
          rfl
        refine pureG_ (i := 26) (N := some 55) (v := ?_) (a' := ?_) #[T, T, T, F, T, T, T, F, T, T, T, F, T, T, T, F, T, F, T, T, T, F, T, T, T, F, T, F, F, F, F, F, F, F, F, F, F, F, F, F, F, F, F, F] rfl rfl (any_of HT_.out (by kernel_rfl)) (fun _ _ _ h => h) (Or.inl ⟨by rfl, ?_⟩) ?_ ?_
        rotate_left
        · intro w'
          go_simp
          with_reducible rfl
        rotate_left
        · simp only [Act.put, q1, q2, q3, i64_w, i32_w]
          rfl
        refine pureG_ (i := 30) (N := some 59) (v := ?_) (a' := ?_) #[T, T, T, F, T, T, T, F, T, T, T, F, T, T, T, F, T, F, T, T, T, F, T, T, T, F, T, F, F, F, T, F, F, F, F, F, F, F, F, F, F, F, F, F] rfl rfl (any_of HT_.out (by kernel_rfl)) (fun _ _ _ h => h) (Or.inl ⟨by rfl, ?_⟩) ?_ ?_
        rotate_left
        · intro w'
          go_simp
          with_reducible rfl
        rotate_left
        · simp only [Act.put, q1, q2, q3, i64_w, i32_w]
          rfl
        refine pureG_ (i := 31) (N := some 60) (v := ?_) (a' := ?_) #[T, T, T, F, T, T, T, F, T, T, T, F, T, T, T, F, T, F, T, T, T, F, T, T, T, F, T, F, F, F, T, T, F, F, F, F, F, F, F, F, F, F, F, F] rfl rfl (any_of HT_.out (by kernel_rfl)) (fun _ _ _ h => h) (Or.inl ⟨by rfl, ?_⟩) ?_ ?_
        rotate_left
        · intro w'
          go_simp
          with_reducible rfl
        rotate_left
        · simp only [Act.put, q1, q2, q3, i64_w, i32_w]
          rfl
        refine pureG_ (i := 32) (N := some 61) (v := ?_) (a' := ?_) #[T, T, T, F, T, T, T, F, T, T, T, F, T, T, T, F, T, F, T, T, T, F, T, T, T, F, T, F, F, F, T, T, T, F, F, F, F, F, F, F, F, F, F, F] rfl rfl (any_of HT_.out (by kernel_rfl)) (fun _ _ _ h => h) (Or.inl ⟨by rfl, ?_⟩) ?_ ?_
        rotate_left
        · intro w'
          go_simp
          with_reducible rfl
        rotate_left
        · simp only [Act.put, q1, q2, q3, i64_w, i32_w]
          rfl
        refine pureG_ (i := 34) (N := some 63) (v := ?_) (a' := ?_) #[T, T, T, F, T, T, T, F, T, T, T, F, T, T, T, F, T, F, T, T, T, F, T, T, T, F, T, F, F, F, T, T, T, F, T, F, F, F, F, F, F, F, F, F] rfl rfl (any_of HT_.out (by kernel_rfl)) (fun _ _ _ h => h) (Or.inl ⟨by rfl, ?_⟩) ?_ ?_
        rotate_left
        · intro w'
          go_simp
          with_reducible rfl
        rotate_left
        · simp only [Act.put, q1, q2, q3, i64_w, i32_w]
          rfl
        refine pureG_ (i := 35) (N := some 64) (v := ?_) (a' := ?_) #[T, T, T, F, T, T, T, F, T, T, T, F, T, T, T, F, T, F, T, T, T, F, T, T, T, F, T, F, F, F, T, T, T, F, T, T, F, F, F, F, F, F, F, F] rfl rfl (any_of HT_.out (by kernel_rfl)) (fun _ _ _ h => h) (Or.inl ⟨by rfl, ?_⟩) ?_ ?_
        rotate_left
        · intro w'
          go_simp
          with_reducible rfl
        rotate_left
        · simp only [Act.put, q1, q2, q3, i64_w, i32_w]
          rfl
        refine pureG_ (i := 36) (N := some 65) (v := ?_) (a' := ?_) #[T, T, T, F, T, T, T, F, T, T, T, F, T, T, T, F, T, F, T, T, T, F, T, T, T, F, T, F, F, F, T, T, T, F, T, T, T, F, F, F, F, F, F, F] rfl rfl (any_of HT_.out (by kernel_rfl)) (fun _ _ _ h => h) (Or.inl ⟨by rfl, ?_⟩) ?_ ?_
        rotate_left
        · intro w'
          go_simp
          with_reducible rfl
        rotate_left
        · simp only [Act.put, q1, q2, q3, i64_w, i32_w]
          rfl
        refine takeG_ (i := 3) (N := some 32) (v := ?_) (a' := ?_) (fun w' => w'.cell? ⟨Wb, 1, none⟩ = some (.slice (some ⟨g, 0, none⟩) rs.length c) ∧ w'.cell? ⟨Wb, 2, none⟩ = some (.int .i64 (d : Int))) [] (.head _) #[T, T, T, T, T, T, T, F, T, T, T, F, T, T, T, F, T, F, T, T, T, F, T, T, T, F, T, F, F, F, T, T, T, F, T, T, T, F, F, F, F, F, F, F] rfl rfl (take_ofW HT_.out HW_.out (by kernel_rfl)) (fun _ _ _ h => h) (Or.inl ⟨by rfl, ?_⟩) ⟨(blk_cell hM4.box 1).trans rfl, (blk_cell hM4.box 2).trans rfl⟩ ?_ ?_
        rotate_left
        · rintro w' ⟨s0, s1⟩
          go_simp
          with_reducible rfl
        rotate_left
        · simp only [Act.put, q1, q2, q3, i64_w, i32_w]
          rfl
        refine takeG_ (i := 7) (N := some 36) (v := ?_) (a' := ?_) (fun w' => w'.cell? ⟨Wb, 1, none⟩ = some (.slice (some ⟨g, 0, none⟩) rs.length c) ∧ w'.cell? ⟨Wb, 2, none⟩ = some (.int .i64 (d : Int))) [] (.head _) #[T, T, T, T, T, T, T, T, T, T, T, F, T, T, T, F, T, F, T, T, T, F, T, T, T, F, T, F, F, F, T, T, T, F, T, T, T, F, F, F, F, F, F, F] rfl rfl (take_ofW HT_.out HW_.out (by kernel_rfl)) (fun _ _ _ h => h) (Or.inl ⟨by rfl, ?_⟩) ⟨(blk_cell hM4.box 1).trans rfl, (blk_cell hM4.box 2).trans rfl⟩ ?_ ?_
        rotate_left
        · rintro w' ⟨s0, s1⟩
          go_simp
          with_reducible rfl
        rotate_left
        · simp only [Act.put, q1, q2, q3, i64_w, i32_w]
          rfl
        refine takeG_ (i := 11) (N := some 40) (v := ?_) (a' := ?_) (fun w' => w'.cell? ⟨Wb, 1, none⟩ = some (.slice (some ⟨g, 0, none⟩) rs.length c) ∧ w'.cell? ⟨Wb, 2, none⟩ = some (.int .i64 (d : Int))) [] (.head _) #[T, T, T, T, T, T, T, T, T, T, T, T, T, T, T, F, T, F, T, T, T, F, T, T, T, F, T, F, F, F, T, T, T, F, T, T, T, F, F, F, F, F, F, F] rfl rfl (take_ofW HT_.out HW_.out (by kernel_rfl)) (fun _ _ _ h => h) (Or.inl ⟨by rfl, ?_⟩) ⟨(blk_cell hM4.box 1).trans rfl, (blk_cell hM4.box 2).trans rfl⟩ ?_ ?_
        rotate_left
        · rintro w' ⟨s0, s1⟩
          go_simp
          with_reducible rfl
        rotate_left
        · simp only [Act.put, q1, q2, q3, i64_w, i32_w]
          rfl
        refine takeG_ (i := 15) (N := some 44) (v := ?_) (a' := ?_) (fun w' => w'.cell? ⟨Wb, 1, none⟩ = some (.slice (some ⟨g, 0, none⟩) rs.length c) ∧ w'.cell? ⟨Wb, 2, none⟩ = some (.int .i64 (d : Int))) [] (.head _) #[T, T, T, T, T, T, T, T, T, T, T, T, T, T, T, T, T, F, T, T, T, F, T, T, T, F, T, F, F, F, T, T, T, F, T, T, T, F, F, F, F, F, F, F] rfl rfl (take_ofW HT_.out HW_.out (by kernel_rfl)) (fun _ _ _ h => h) (Or.inl ⟨by rfl, ?_⟩) ⟨(blk_cell hM4.box 1).trans rfl, (blk_cell hM4.box 2).trans rfl⟩ ?_ ?_
        rotate_left
        · rintro w' ⟨s0, s1⟩
          go_simp
          with_reducible rfl
        rotate_left
        · simp only [Act.put, q1, q2, q3, i64_w, i32_w]
          rfl
        refine pureG_ (i := 17) (N := some 46) (v := ?_) (a' := ?_) #[T, T, T, T, T, T, T, T, T, T, T, T, T, T, T, T, T, T, T, T, T, F, T, T, T, F, T, F, F, F, T, T, T, F, T, T, T, F, F, F, F, F, F, F] rfl rfl (any_of HT_.out (by kernel_rfl)) (fun _ _ _ h => h) (Or.inl ⟨by rfl, ?_⟩) ?_ ?_
        rotate_left
        · intro w'
          go_simp
          with_reducible rfl
        rotate_left
        · simp only [Act.put, q1, q2, q3, i64_w, i32_w]
          rfl
        refine takeG_ (i := 21) (N := some 50) (v := ?_) (a' := ?_) (fun w' => w'.cell? ⟨Wb, 1, none⟩ = some (.slice (some ⟨g, 0, none⟩) rs.length c) ∧ w'.cell? ⟨Wb, 2, none⟩ = some (.int .i64 (d : Int))) [] (.head _) #[T, T, T, T, T, T, T, T, T, T, T, T, T, T, T, T, T, T, T, T, T, T, T, T, T, F, T, F, F, F, T, T, T, F, T, T, T, F, F, F, F, F, F, F] rfl rfl (take_ofW HT_.out HW_.out (by kernel_rfl)) (fun _ _ _ h => h) (Or.inl ⟨by rfl, ?_⟩) ⟨(blk_cell hM4.box 1).trans rfl, (blk_cell hM4.box 2).trans rfl⟩ ?_ ?_
        rotate_left
        · rintro w' ⟨s0, s1⟩
          go_simp
          with_reducible rfl
        rotate_left
        · simp only [Act.put, q1, q2, q3, i64_w, i32_w]
          rfl
        refine takeG_ (i := 25) (N := some 54) (v := ?_) (a' := ?_) (fun w' => w'.cell? ⟨Wb, 1, none⟩ = some (.slice (some ⟨g, 0, none⟩) rs.length c) ∧ w'.cell? ⟨Wb, 2, none⟩ = some (.int .i64 (d : Int))) [] (.head _) #[T, T, T, T, T, T, T, T, T, T, T, T, T, T, T, T, T, T, T, T, T, T, T, T, T, T, T, F, F, F, T, T, T, F, T, T, T, F, F, F, F, F, F, F] rfl rfl (take_ofW HT_.out HW_.out (by kernel_rfl)) (fun _ _ _ h => h) (Or.inl ⟨by rfl, ?_⟩) ⟨(blk_cell hM4.box 1).trans rfl, (blk_cell hM4.box 2).trans rfl⟩ ?_ ?_
        rotate_left
        · rintro w' ⟨s0, s1⟩
          go_simp
          with_reducible rfl
        rotate_left
        · simp only [Act.put, q1, q2, q3, i64_w, i32_w]
          rfl
        refine pureG_ (i := 27) (N := some 56) (v := ?_) (a' := ?_) #[T, T, T, T, T, T, T, T, T, T, T, T, T, T, T, T, T, T, T, T, T, T, T, T, T, T, T, T, F, F, T, T, T, F, T, T, T, F, F, F, F, F, F, F] rfl rfl (any_of HT_.out (by kernel_rfl)) (fun _ _ _ h => h) (Or.inl ⟨by rfl, ?_⟩) ?_ ?_
        rotate_left
        · intro w'
          go_simp
          with_reducible rfl
        rotate_left
        · simp only [Act.put, q1, q2, q3, i64_w, i32_w]
          rfl
        refine pureG_ (i := 28) (N := some 57) (v := ?_) (a' := ?_) #[T, T, T, T, T, T, T, T, T, T, T, T, T, T, T, T, T, T, T, T, T, T, T, T, T, T, T, T, T, F, T, T, T, F, T, T, T, F, F, F, F, F, F, F] rfl rfl (any_of HT_.out (by kernel_rfl)) (fun _ _ _ h => h) (Or.inl ⟨by rfl, ?_⟩) ?_ ?_
        rotate_left
        · intro w'
          go_simp
          with_reducible rfl
        rotate_left
        · simp only [Act.put, q1, q2, q3, i64_w, i32_w]
          rfl
        refine takeG_ (i := 29) (N := some 58) (v := ?_) (a' := ?_) (fun w' => w'.cell? ⟨g, s * 2, none⟩ = some (.int .i64 (rd_T25 rs' (s : Int)).f0) ∧ w'.cell? ⟨g, s * 2 + 1, none⟩ = some ua ∧ w'.cell? ⟨g, d * 2, none⟩ = some (.int .i64 (rd_T25 rs' (d : Int)).f0) ∧ w'.cell? ⟨g, d * 2 + 1, none⟩ = some ub) [41, 43] (.tail _ (.head _)) #[T, T, T, T, T, T, T, T, T, T, T, T, T, T, T, T, T, T, T, T, T, T, T, T, T, T, T, T, T, T, T, T, T, F, T, T, T, F, F, F, F, F, F, F] rfl rfl (take_ofW HT_.out HW_.out (by kernel_rfl)) (fun _ _ _ h => h) (Or.inl ⟨by rfl, ?_⟩) ⟨ca0.out, ca1.out, cb0.out, cb1.out⟩ ?_ ?_
        rotate_left
        · rintro w' ⟨s0, s1, s2, s3⟩
          go_simp
          with_reducible rfl
        rotate_left
        · simp only [Act.put, q1, q2, q3, i64_w, i32_w]
          rfl
        refine takeG_ (i := 33) (N := some 62) (v := ?_) (a' := ?_) (fun w' => w'.cell? ⟨Wb, 1, none⟩ = some (.slice (some ⟨g, 0, none⟩) rs.length c) ∧ w'.cell? ⟨Wb, 2, none⟩ = some (.int .i64 (d : Int))) [] (.head _) #[T, T, T, T, T, T, T, T, T, T, T, T, T, T, T, T, T, T, T, T, T, T, T, T, T, T, T, T, T, T, T, T, T, T, T, T, T, F, F, F, F, F, F, F] rfl rfl (take_ofW HT_.out HW_.out (by kernel_rfl)) (fun _ _ _ h => h) (Or.inl ⟨by rfl, ?_⟩) ⟨(blk_cell hM4.box 1).trans rfl, (blk_cell hM4.box 2).trans rfl⟩ ?_ ?_
        rotate_left
        · rintro w' ⟨s0, s1⟩
          go_simp
          with_reducible rfl
        rotate_left
        · simp only [Act.put, q1, q2, q3, i64_w, i32_w]
          rfl
        refine takeG_ (i := 37) (N := some 66) (v := ?_) (a' := ?_) (fun w' => w'.cell? ⟨Wb, 1, none⟩ = some (.slice (some ⟨g, 0, none⟩) rs.length c) ∧ w'.cell? ⟨Wb, 2, none⟩ = some (.int .i64 (d : Int))) [] (.head _) #[T, T, T, T, T, T, T, T, T, T, T, T, T, T, T, T, T, T, T, T, T, T, T, T, T, T, T, T, T, T, T, T, T, T, T, T, T, T, F, F, F, F, F, F] rfl rfl (take_ofW HT_.out HW_.out (by kernel_rfl)) (fun _ _ _ h => h) (Or.inl ⟨by rfl, ?_⟩) ⟨(blk_cell hM4.box 1).trans rfl, (blk_cell hM4.box 2).trans rfl⟩ ?_ ?_
        rotate_left
        · rintro w' ⟨s0, s1⟩
          go_simp
          with_reducible rfl
        rotate_left
        · simp only [Act.put, q1, q2, q3, i64_w, i32_w]
          rfl
        refine pureG_ (i := 38) (N := some 67) (v := ?_) (a' := ?_) #[T, T, T, T, T, T, T, T, T, T, T, T, T, T, T, T, T, T, T, T, T, T, T, T, T, T, T, T, T, T, T, T, T, T, T, T, T, T, T, F, F, F, F, F] rfl rfl (any_of HT_.out (by kernel_rfl)) (fun _ _ _ h => h) (Or.inl ⟨by rfl, ?_⟩) ?_ ?_
        rotate_left
        · intro w'
          go_simp
          with_reducible rfl
        rotate_left
        · simp only [Act.put, q1, q2, q3, i64_w, i32_w]
          rfl
        refine takeG_ (i := 39) (N := some 68) (v := ?_) (a' := ?_) (fun w' => w'.cell? ⟨g, s * 2, none⟩ = some (.int .i64 (rd_T25 rs' (s : Int)).f0) ∧ w'.cell? ⟨g, s * 2 + 1, none⟩ = some ua ∧ w'.cell? ⟨g, d * 2, none⟩ = some (.int .i64 (rd_T25 rs' (d : Int)).f0) ∧ w'.cell? ⟨g, d * 2 + 1, none⟩ = some ub) [41, 43] (.tail _ (.head _)) #[T, T, T, T, T, T, T, T, T, T, T, T, T, T, T, T, T, T, T, T, T, T, T, T, T, T, T, T, T, T, T, T, T, T, T, T, T, T, T, T, F, F, F, F] rfl rfl (take_ofW HT_.out HW_.out (by kernel_rfl)) (fun _ _ _ h => h) (Or.inl ⟨by rfl, ?_⟩) ⟨ca0.out, ca1.out, cb0.out, cb1.out⟩ ?_ ?_
        rotate_left
        · rintro w' ⟨s0, s1, s2, s3⟩
          go_simp
          with_reducible rfl
        rotate_left
        · simp only [Act.put, q1, q2, q3, i64_w, i32_w]
          rfl
        refine pureG_ (i := 40) (N := some 69) (v := ?_) (a' := ?_) #[T, T, T, T, T, T, T, T, T, T, T, T, T, T, T, T, T, T, T, T, T, T, T, T, T, T, T, T, T, T, T, T, T, T, T, T, T, T, T, T, T, F, F, F] rfl rfl (any_of HT_.out (by kernel_rfl)) (fun _ _ _ h => h) (Or.inl ⟨by rfl, ?_⟩) ?_ ?_
        rotate_left
        · intro w'
          go_simp
          with_reducible rfl
        rotate_left
        · simp only [Act.put, q1, q2, q3, i64_w, i32_w]
          rfl
        refine oneG_ (i := 41) (N := none) #[T, T, T, T, T, T, T, T, T, T, T, T, T, T, T, T, T, T, T, T, T, T, T, T, T, T, T, T, T, T, T, T, T, T, T, T, T, T, T, T, T, T, F, F] rfl rfl (one_of HT_.out (by kernel_rfl)) (fun K hK => ?_)
        obtain ⟨hM5, hT5, hg5, hrun5⟩ := hM4.put d hd.out (rd_T25 rs' (s : Int)) ua hwa
        refine storeG_step 25 (.tmp 69) (.tmp 58) (.pointer (some ⟨g, d * 2, none⟩)) (.agg #[.int .i64 (rd_T25 rs' (s : Int)).f0, ua]) (by rfl) rfl rfl rfl rfl hrun5 ?_
        generalize w4.setCells g (d * 2) [.int .i64 (rd_T25 rs' (s : Int)).f0, ua] = w5 at hM5 hT5 hg5 ⊢
        refine hK.out _ _ (Goes.cons ⟨(blk_cell hM5.box 1).trans rfl, (blk_cell hM5.box 2).trans rfl⟩ (Goes.skip (by decide) Goes.nil)) ?_
        clear hK K
        refine pureG_ (i := 42) (N := some 70) (v := ?_) (a' := ?_) #[T, T, T, T, T, T, T, T, T, T, T, T, T, T, T, T, T, T, T, T, T, T, T, T, T, T, T, T, T, T, T, T, T, T, T, T, T, T, T, T, T, T, T, F] rfl rfl (any_of HT_.out (by kernel_rfl)) (fun _ _ _ h => h) (Or.inl ⟨by rfl, ?_⟩) ?_ ?_
        rotate_left
        · intro w'
          go_simp
          with_reducible rfl
        rotate_left
        · simp only [Act.put, q1, q2, q3, i64_w, i32_w]
          rfl
        refine oneG_ (i := 43) (N := none) #[T, T, T, T, T, T, T, T, T, T, T, T, T, T, T, T, T, T, T, T, T, T, T, T, T, T, T, T, T, T, T, T, T, T, T, T, T, T, T, T, T, T, T, T] rfl rfl (one_of HT_.out (by kernel_rfl)) (fun K hK => ?_)
        obtain ⟨hM6, hT6, hg6, hrun6⟩ := hM5.put s (by rw [List.length_set]; exact hs.out) (rd_T25 rs' (d : Int)) ub (words_far hwb hg5)
        refine storeG_step 25 (.tmp 70) (.tmp 68) (.pointer (some ⟨g, s * 2, none⟩)) (.agg #[.int .i64 (rd_T25 rs' (d : Int)).f0, ub]) (by rfl) rfl rfl rfl rfl hrun6 ?_
        generalize w5.setCells g (s * 2) [.int .i64 (rd_T25 rs' (d : Int)).f0, ub] = w6 at hM6 hT6 hg6 ⊢
        refine hK.out _ _ (Goes.cons ⟨(blk_cell hM6.box 1).trans rfl, (blk_cell hM6.box 2).trans rfl⟩ (Goes.skip (by decide) Goes.nil)) ?_
        clear hK K
        refine doneG_ (done_of HT_.out (by kernel_rfl)) ?_
        clear hws hs1 hd1 hs0 hd0 ca0 ca1 cb0 cb1
        replace hse := hse.out
        replace hde := hde.out
        replace hs := hs.out
        replace hd := hd.out
        replace hdl := hdl.out
        replace hlt := hlt.out
        replace hneg := hneg.out
        replace hq := hq.out
        replace hev := hev.out
        replace hin := hin.out
        replace hl' := hl'.out
        replace hp' := hp'.out
        replace hp1 := hp1.out
        replace hgi4 := hgi4.out
        replace hJ4 := hJ4.out
        replace hw4 := hw4.out
        replace hjn := hjn.out
        replace hn' := hn'.out
        replace hn0 := hn0.out
        replace hn := hn.out
        replace hL := hL.out
        have hgig : gi ≠ g := by
          obtain ⟨cs, hcs⟩ := hM4.typ
          exact ne_typ hgi4 hcs (by decide)
        have hgi6 : w6.heap[gi]? = some (.cells #[.int .i64 (j : Int)] 3 (0, 0)) := (hg6.block gi (Nat.lt_of_lt_of_le (blk_lt hgi4) hg5.size) (by simpa using hgig)).trans ((hg5.block gi (blk_lt hgi4) (by simpa using hgig)).trans hgi4)
        have hJ6 : J pre w6 := hJT _ _ _ (hJT _ _ _ hJ4 hT5) hT6
        have hw6 : H0 ≤ w6.heap.size := Nat.le_trans hw4 (Nat.le_trans hg5.size hg6.size)
        have hM6' : ColMem w6 H0 Wb P0 (.slice (some ⟨g, 0, none⟩) rs.length c) n (ech_swap rs' d s) d := hM6
        have hlt_ : (ech_swap rs' d s).length = rs.length := by unfold ech_swap; rw [List.length_set, List.length_set]; exact hl'
        generalize ech_swap rs' d s = rt at hM6' hlt_ hin
        clear hM6 hM5 hM4 hJ4 hT5 hT6 hg5 hg6 hrun5 hrun6 hgi4 hw4 hwa hwb hgig
        have hM7 := hM6'.below (below_drew1 (Below.refl _ _))
        have hgi7 := blk_drew hgi6
        have hJ7 : J pre w6.drew := hJT _ _ _ hJ6 (Turns.of_below (below_drew1 (Below.refl _ _)))
        have hw7 : H0 ≤ w6.drew.heap.size := hw6
        obtain ⟨g', cap', uo, hvo, _, _, co0, co1, hwo⟩ := hM7.get d (by omega)
        have hgg := (Value.slice.inj hvo).1
        obtain rfl : g = g' := congrArg Addr.block (Option.some.inj hgg)
        have hd1 : (d < rs.length) = True := eq_true (by omega)
        have hd0 : (d < rt.length) = True := eq_true (by omega)
        clear hvo hgg hM6' hgi6 hJ6 hw6 w5 w4
        replace hse := Aside0.mk hse
        replace hde := Aside0.mk hde
        replace hs := Aside0.mk hs
        replace hd := Aside0.mk hd
        replace hdl := Aside0.mk hdl
        replace hlt := Aside0.mk hlt
        replace hneg := Aside0.mk hneg
        replace hq := Aside0.mk hq
        replace hev := Aside0.mk hev
        replace hin := Aside0.mk hin
        replace hl' := Aside0.mk hl'
        replace hp' := Aside0.mk hp'
        replace hp1 := Aside0.mk hp1
        replace co0 := Aside0.mk co0
        replace co1 := Aside0.mk co1
        replace hgi7 := Aside0.mk hgi7
        replace hJ7 := Aside0.mk hJ7
        replace hw7 := Aside0.mk hw7
        replace hjn := Aside0.mk hjn
        replace hn' := Aside0.mk hn'
        replace hn0 := Aside0.mk hn0
        replace hn := Aside0.mk hn
        replace hL := Aside0.mk hL
        replace hlt_ := Aside0.mk hlt_
        go_wp2
        refine startG_ (n := 12) [(fun w' => w'.cell? ⟨Wb, 1, none⟩ = some (.slice (some ⟨g, 0, none⟩) rs.length c) ∧ w'.cell? ⟨Wb, 2, none⟩ = some (.int .i64 (d : Int)), []), (fun w' => w'.cell? ⟨g, d * 2, none⟩ = some (.int .i64 (rd_T25 rt (d : Int)).f0) ∧ w'.cell? ⟨g, d * 2 + 1, none⟩ = some uo, [])] #[F, F, F, F, F, F, F, F, F, F, F, F] (by kernel_rfl) rfl rfl ?_; refine with_tabG columns.tab6 columns.bits6 (fun HT_ HW_ => ?_)
        generalize w6.drew = w7 at hM7 hgi7 hJ7 hw7 co0 co1 hwo ⊢
        refine pureG_ (i := 0) (N := some 71) (v := ?_) (a' := ?_) #[T, F, F, F, F, F, F, F, F, F, F, F] rfl rfl (any_of HT_.out (by kernel_rfl)) (fun _ _ _ h => h) (Or.inl ⟨by rfl, ?_⟩) ?_ ?_
        rotate_left
        · intro w'
          go_simp
          with_reducible rfl
        rotate_left
        · simp only [Act.put, q1, q2, q3, i64_w, i32_w]
          rfl
        refine pureG_ (i := 1) (N := some 72) (v := ?_) (a' := ?_) #[T, T, F, F, F, F, F, F, F, F, F, F] rfl rfl (any_of HT_.out (by kernel_rfl)) (fun _ _ _ h => h) (Or.inl ⟨by rfl, ?_⟩) ?_ ?_
        rotate_left
        · intro w'
          go_simp
          with_reducible rfl
        rotate_left
        · simp only [Act.put, q1, q2, q3, i64_w, i32_w]
          rfl
        refine pureG_ (i := 2) (N := some 73) (v := ?_) (a' := ?_) #[T, T, T, F, F, F, F, F, F, F, F, F] rfl rfl (any_of HT_.out (by kernel_rfl)) (fun _ _ _ h => h) (Or.inl ⟨by rfl, ?_⟩) ?_ ?_
        rotate_left
        · intro w'
          go_simp
          with_reducible rfl
        rotate_left
        · simp only [Act.put, q1, q2, q3, i64_w, i32_w]
          rfl
        refine pureG_ (i := 4) (N := some 75) (v := ?_) (a' := ?_) #[T, T, T, F, T, F, F, F, F, F, F, F] rfl rfl (any_of HT_.out (by kernel_rfl)) (fun _ _ _ h => h) (Or.inl ⟨by rfl, ?_⟩) ?_ ?_
        rotate_left
        · intro w'
          go_simp
          with_reducible rfl
        rotate_left
        · simp only [Act.put, q1, q2, q3, i64_w, i32_w]
          rfl
        refine pureG_ (i := 5) (N := some 76) (v := ?_) (a' := ?_) #[T, T, T, F, T, T, F, F, F, F, F, F] rfl rfl (any_of HT_.out (by kernel_rfl)) (fun _ _ _ h => h) (Or.inl ⟨by rfl, ?_⟩) ?_ ?_
        rotate_left
        · intro w'
          go_simp
          with_reducible rfl
        rotate_left
        · simp only [Act.put, q1, q2, q3, i64_w, i32_w]
          rfl
        refine pureG_ (i := 6) (N := some 77) (v := ?_) (a' := ?_) #[T, T, T, F, T, T, T, F, F, F, F, F] rfl rfl (any_of HT_.out (by kernel_rfl)) (fun _ _ _ h => h) (Or.inl ⟨by rfl, ?_⟩) ?_ ?_
        rotate_left
        · intro w'
          go_simp
          with_reducible rfl
        rotate_left
        · simp only [Act.put, q1, q2, q3, i64_w, i32_w]
          rfl
        refine takeG_ (i := 3) (N := some 74) (v := ?_) (a' := ?_) (fun w' => w'.cell? ⟨Wb, 1, none⟩ = some (.slice (some ⟨g, 0, none⟩) rs.length c) ∧ w'.cell? ⟨Wb, 2, none⟩ = some (.int .i64 (d : Int))) [] (.head _) #[T, T, T, T, T, T, T, F, F, F, F, F] rfl rfl (take_ofW HT_.out HW_.out (by kernel_rfl)) (fun _ _ _ h => h) (Or.inl ⟨by rfl, ?_⟩) ⟨(blk_cell hM7.box 1).trans rfl, (blk_cell hM7.box 2).trans rfl⟩ ?_ ?_
        rotate_left
        · rintro w' ⟨s0, s1⟩
          go_simp
          with_reducible rfl
        rotate_left
        · simp only [Act.put, q1, q2, q3, i64_w, i32_w]
          rfl
        refine takeG_ (i := 7) (N := some 78) (v := ?_) (a' := ?_) (fun w' => w'.cell? ⟨Wb, 1, none⟩ = some (.slice (some ⟨g, 0, none⟩) rs.length c) ∧ w'.cell? ⟨Wb, 2, none⟩ = some (.int .i64 (d : Int))) [] (.head _) #[T, T, T, T, T, T, T, T, F, F, F, F] rfl rfl (take_ofW HT_.out HW_.out (by kernel_rfl)) (fun _ _ _ h => h) (Or.inl ⟨by rfl, ?_⟩) ⟨(blk_cell hM7.box 1).trans rfl, (blk_cell hM7.box 2).trans rfl⟩ ?_ ?_
        rotate_left
        · rintro w' ⟨s0, s1⟩
          go_simp
          with_reducible rfl
        rotate_left
        · simp only [Act.put, q1, q2, q3, i64_w, i32_w]
          rfl
        refine pureG_ (i := 8) (N := some 79) (v := ?_) (a' := ?_) #[T, T, T, T, T, T, T, T, T, F, F, F] rfl rfl (any_of HT_.out (by kernel_rfl)) (fun _ _ _ h => h) (Or.inl ⟨by rfl, ?_⟩) ?_ ?_
        rotate_left
        · intro w'
          go_simp
          with_reducible rfl
        rotate_left
        · simp only [Act.put, q1, q2, q3, i64_w, i32_w]
          rfl
        refine takeG_ (i := 9) (N := some 80) (v := ?_) (a' := ?_) (fun w' => w'.cell? ⟨g, d * 2, none⟩ = some (.int .i64 (rd_T25 rt (d : Int)).f0) ∧ w'.cell? ⟨g, d * 2 + 1, none⟩ = some uo) [] (.tail _ (.head _)) #[T, T, T, T, T, T, T, T, T, T, F, F] rfl rfl (take_ofW HT_.out HW_.out (by kernel_rfl)) (fun _ _ _ h => h) (Or.inl ⟨by rfl, ?_⟩) ⟨co0.out, co1.out⟩ ?_ ?_
        rotate_left
        · rintro w' ⟨s0, s1⟩
          go_simp
          with_reducible rfl
        rotate_left
        · simp only [Act.put, q1, q2, q3, i64_w, i32_w]
          rfl
        refine oneG_ (i := 10) (N := some 6) #[T, T, T, T, T, T, T, T, T, T, T, F] rfl rfl (one_of HT_.out (by kernel_rfl)) (fun K hK => ?_)
        refine value_ (w1 := ?_) (v := ?_) (by rfl) rfl ?_ ?_
        rotate_left 2
        · go_simp
          constructor
          · rfl
          · rfl
        have hgo8 := blk_new w7 (.cells #[.int .i64 0, .slice none 0 0] 25)
        have hb8 : Below w7.heap.size w7 _ := below_alloc (Below.refl _ w7) (.cells #[.int .i64 0, .slice none 0 0] 25)
        obtain ⟨go, hgoe⟩ : ∃ go, w7.heap.size = go := ⟨_, rfl⟩
        rw [hgoe] at hgo8 ⊢
        generalize w7.alloc (.cells #[.int .i64 0, .slice none 0 0] 25) = w8 at hgo8 hb8 ⊢
        have hM8 := hM7.below hb8
        refine hK.out _ _ (Goes.cons ⟨(blk_cell hM8.box 1).trans rfl, (blk_cell hM8.box 2).trans rfl⟩ (Goes.cons ⟨(hb8.cell (World.block_lt_of_cell? _ _ co0.out)).trans co0.out, (hb8.cell (World.block_lt_of_cell? _ _ co1.out)).trans co1.out⟩ Goes.nil)) ?_
        clear hK K
        refine normG_ (a' := ?_) ?_ ?_
        rotate_left
        · show Act.put _ (some 6) _ = _
          simp only [Act.put, q1, q2, q3, i64_w, i32_w]
          rfl
        refine oneG_ (i := 11) (N := none) #[T, T, T, T, T, T, T, T, T, T, T, T] rfl rfl (one_of HT_.out (by kernel_rfl)) (fun K hK => ?_)
        obtain ⟨hrun9, hgo9, hg9⟩ := box2_store hgo8 (rd_T25 rt (d : Int)).f0 uo (hwo.one).1 (hwo.one).2
        refine storeG_step 25 (.tmp 6) (.tmp 80) (.pointer (some ⟨go, 0, none⟩)) (.agg #[.int .i64 (rd_T25 rt (d : Int)).f0, uo]) (by rfl) rfl rfl rfl rfl hrun9 ?_
        have hb9 := below_over hb8 hg9 (Nat.le_of_eq hgoe) hb8.size
        generalize w8.setCells go 0 [.int .i64 (rd_T25 rt (d : Int)).f0, uo] = w9 at hgo9 hb9 ⊢
        have hM9 := hM7.below hb9
        refine hK.out _ _ (Goes.cons ⟨(blk_cell hM9.box 1).trans rfl, (blk_cell hM9.box 2).trans rfl⟩ (Goes.cons ⟨(hb9.cell (World.block_lt_of_cell? _ _ co0.out)).trans co0.out, (hb9.cell (World.block_lt_of_cell? _ _ co1.out)).trans co1.out⟩ Goes.nil)) ?_
        clear hK K
        refine doneG_ (done_of HT_.out (by kernel_rfl)) ?_
        clear hd1 hd0 co0 co1
        replace hse := hse.out
        replace hde := hde.out
        replace hs := hs.out
        replace hd := hd.out
        replace hdl := hdl.out
        replace hlt := hlt.out
        replace hneg := hneg.out
        replace hq := hq.out
        replace hev := hev.out
        replace hin := hin.out
        replace hl' := hl'.out
        replace hp' := hp'.out
        replace hp1 := hp1.out
        replace hgi7 := hgi7.out
        replace hJ7 := hJ7.out
        replace hw7 := hw7.out
        replace hjn := hjn.out
        replace hn' := hn'.out
        replace hn0 := hn0.out
        replace hn := hn.out
        replace hL := hL.out
        replace hlt_ := hlt_.out
        obtain ⟨own, howne⟩ : ∃ z, rd_T25 rt (d : Int) = z := ⟨_, rfl⟩
        rw [howne] at hwo hgo9 hin
        have hJ9 : J pre w9 := hJT _ _ _ hJ7 (Turns.of_below hb9)
        have hw9 : H0 ≤ w9.heap.size := Nat.le_trans hw7 hb9.size
        have hgi9 : w9.heap[gi]? = some (.cells #[.int .i64 (j : Int)] 3 (0, 0)) := blk_below hgi7 hb9
        have hwo9 := hwo.below hb9
        obtain ⟨Ao, co, hoe, hlo, hx_⟩ := hwo9.reads
        clear hx_
        subst hoe
        have hgog : Aside0 (go ≠ g) := Aside0.mk <| by
          obtain ⟨_, _, _, hv_, _, hl_, _⟩ := hM7.get d (by omega)
          obtain rfl := congrArg Addr.block (Option.some.inj (Value.slice.inj hv_).1)
          have hl2_ : g < w7.heap.size := hl_
          omega
        have c91 : w9.cell? ⟨Wb, 1, none⟩ = some (.slice (some ⟨g, 0, none⟩) rs.length c) := (blk_cell hM9.box 1).trans rfl
        rw [hl', ← hlt_] at hin
        clear hwo hgi7 hJ7 hw7 hM7 hM8 hgo8 hb8 hgoe hrun9 hg9 hb9 w8 w7 howne
        clear hse hde hs hdl hneg hp1 hn'
        go_wp2
        go_loopw [86] (fun v86 wr => ∃ (t : Nat) (rz : List S25), v86 = .int .i64 (t : Int) ∧ t ≤ rs.length ∧ ech_in k (j : Int) d own (rs.length - t) t rz = some rs2 ∧ J pre wr ∧ ColMem wr H0 Wb P0 (.slice (some ⟨g, 0, none⟩) rs.length c) n rz d ∧ rz.length = rs.length ∧ H0 ≤ wr.heap.size ∧ wr.heap[gi]? = some (.cells #[.int .i64 (j : Int)] 3 (0, 0)) ∧ wr.heap[go]? = some (.cells #[.int .i64 own.f0, .slice Ao own.f1.length co] 25 (0, 0)) ∧ WordsOf wr H0 Wb P0 (.slice (some ⟨g, 0, none⟩) rs.length c) (.slice Ao own.f1.length co) own.f1) (fun v86 _ => rs.length - (intOf v86).toNat)
        case atStart => exact ⟨0, rt, rfl, Nat.zero_le _, by rw [Nat.sub_zero, ← hlt_]; exact hin, hJ9, hM9, hlt_, hw9, hgi9, hgo9, hwo9⟩
        case round =>
          obtain ⟨t, rz, rfl, htl, hin', hJr, hMr, hlz, hwr, hgir, hgor, hwor⟩ := hrel
          clear hin hJ9 hM9 hlt_ hw9 hgi9 hgo9 hwo9 c91
          by_cases htn : t < rs.length
          · have htn' : decide ((t : Int) < (rs.length : Int)) = true := decide_eq_true (by omega)
            have htn2 : (t < rs.length) = True := eq_true htn
            obtain ⟨g', cap2, ut, hvt, _, hgwr, ct0, ct1, hwt⟩ := hMr.get t (by omega)
            obtain ⟨hgg, hggx, hgg2⟩ := Value.slice.inj hvt
            obtain rfl : g = g' := congrArg Addr.block (Option.some.inj hgg)
            subst hgg2
            clear hvt hgg hggx
            have hgwr := Aside0.mk hgwr
            have hwt' := hwt
            obtain ⟨Au, cu, _, hue, _⟩ := hwt'
            subst hue
            obtain ⟨wq, hwq⟩ : ∃ wq, wr.alloc (.cells #[.int .i64 (rd_T25 rz (t : Int)).f0, .slice Au (rd_T25 rz (t : Int)).f1.length cu] 25) = wq := ⟨_, rfl⟩
            have hbq : Below wr.heap.size wr wq := by rw [← hwq]; exact below_alloc (Below.refl _ wr) _
            have hgr : wq.heap[wr.heap.size]? = some (.cells #[.int .i64 (rd_T25 rz (t : Int)).f0, .slice Au (rd_T25 rz (t : Int)).f1.length cu] 25 (0, 0)) := by rw [← hwq]; exact blk_new wr _
            have hMq := hMr.below hbq
            have hgiq := blk_below hgir hbq
            have d2 : wq.cell? ⟨Wb, 2, none⟩ = some (.int .i64 (d : Int)) := (blk_cell hMq.box 2).trans rfl
            have d3 : wq.cell? ⟨gi, 0, none⟩ = some (.int .i64 (j : Int)) := (blk_cell hgiq 0).trans rfl
            have d4 : wq.cell? ⟨wr.heap.size, 0, none⟩ = some (.int .i64 (rd_T25 rz (t : Int)).f0) := (blk_cell hgr 0).trans rfl
            have d5 : wq.cell? ⟨wr.heap.size, 1, none⟩ = some (.slice Au (rd_T25 rz (t : Int)).f1.length cu) := (blk_cell hgr 1).trans rfl
            obtain ⟨mq, hmq⟩ : ∃ mq, rs.length - t = mq + 1 := ⟨rs.length - t - 1, by omega⟩
            rw [hmq] at hin'
            unfold ech_in at hin'
            by_cases htd : t = d
            · have e1 : ((t : Int) == (d : Int)) = true := by simp [htd]
              have e2 : ((t : Int) != (d : Int)) = false := by simp [htd]
              rw [if_pos htd] at hin'
              have htd' := Aside0.mk htd
              clear htd
              go_wp2
              go_roundw
              case rel => exact ⟨t + 1, rz, by simp, by omega, by (rw [show rs.length - (t + 1) = mq by omega]; exact hin'), hJT _ _ _ hJr (Turns.of_below hbq), hMq, hlz, Nat.le_trans hwr hbq.size, hgiq, blk_below hgor hbq, hwor.below hbq⟩
              case measure => simp [intOf]; omega
            · have e1 : ((t : Int) == (d : Int)) = false := by simp; omega
              have e2 : ((t : Int) != (d : Int)) = true := by simp; omega
              rw [if_neg htd] at hin'
              have htd' := Aside0.mk htd
              clear htd
              obtain ⟨b, hbit, hin'⟩ := Option.bind_eq_some_iff.mp hin'
              obtain ⟨Au', cu', hue', hlu, hCu⟩ := hwt.reads
              obtain ⟨hA_, _, hc_⟩ := Value.slice.inj hue'
              subst hA_
              subst hc_
              have hCq := Kd.C_below hCu hbq
              have hbit' := Aside0.mk hbit
              have hin2 := Aside0.mk hin'
              clear hbit hin' hue'
              cases b with
              | false =>
                replace hin2 := hin2.out
                rw [if_neg (by decide)] at hin2
                go_wp2_with ((with_reducible refine gate_callee (f := 84) rfl ?_); refine gate_guard (by first | rfl | simp) ?_; refine goesL_ (some 100) rfl rfl Tryd.func84 (by kernel_rfl) rfl #[.agg #[.int .i64 (rd_T25 rz (t : Int)).f0, .slice Au (rd_T25 rz (t : Int)).f1.length cu], .int .i64 (j : Int)] rfl (by (try simp only [List.map_toArray, List.map_cons, List.map_nil]); first | done | rfl) ?_; refine (reduce_bit.calls _ Au cu _ (j : Int) false _ hCq hlu hbit'.out).mono ?_; rintro e w' ⟨rfl, hbB⟩; refine ⟨_, rfl, ?_⟩)
                have hB2 := hbq.trans (hbB.mono hbq.size)
                go_roundw
                case rel => exact ⟨t + 1, rz, by simp, by omega, by (rw [show rs.length - (t + 1) = mq by omega]; exact hin2), hJT _ _ _ hJr (Turns.of_below hB2), hMr.below hB2, hlz, Nat.le_trans hwr hB2.size, blk_below hgir hB2, blk_below hgor hB2, hwor.below hB2⟩
                case measure => simp [intOf]; omega
              | true =>
                replace hin2 := hin2.out
                rw [if_pos rfl] at hin2
                obtain ⟨y, hxor, hin2⟩ := Option.bind_eq_some_iff.mp hin2
                go_wp2_with ((with_reducible refine gate_callee (f := 84) rfl ?_); refine gate_guard (by first | rfl | simp) ?_; refine goesL_ (some 100) rfl rfl Tryd.func84 (by kernel_rfl) rfl #[.agg #[.int .i64 (rd_T25 rz (t : Int)).f0, .slice Au (rd_T25 rz (t : Int)).f1.length cu], .int .i64 (j : Int)] rfl (by (try simp only [List.map_toArray, List.map_cons, List.map_nil]); first | done | rfl) ?_; refine (reduce_bit.calls _ Au cu _ (j : Int) true _ hCq hlu hbit'.out).mono ?_; rintro e w' ⟨rfl, hbB⟩; refine ⟨_, rfl, ?_⟩)
                have hBB := hbq.trans (hbB.mono hbq.size)
                have hB10 : Below wr.heap.size wr w'.drew := below_drew1 hBB
                have hM10 := hMr.below hB10
                have hgr10 : w'.drew.heap[wr.heap.size]? = _ := blk_drew (blk_below hgr hbB)
                have hgo10 : w'.drew.heap[go]? = _ := blk_below hgor hB10
                have hgi10 : w'.drew.heap[gi]? = _ := blk_below hgir hB10
                have hwo10 := hwor.below hB10
                have hJ10 : J pre w'.drew := hJT _ _ _ hJr (Turns.of_below hB10)
                have hw10 : H0 ≤ w'.drew.heap.size := Nat.le_trans hwr hB10.size
                have hCt10 := Kd.C_below hCu hB10
                obtain ⟨Ao', co', hoe', _, hCo10⟩ := hwo10.reads
                obtain ⟨ha_, _, hc_⟩ := Value.slice.inj hoe'
                subst ha_
                subst hc_
                have hgw10 : g < w'.drew.heap.size := by
                  obtain ⟨_, _, _, hv_, _, hl_, _⟩ := hM10.get t (by omega)
                  obtain rfl := congrArg Addr.block (Option.some.inj (Value.slice.inj hv_).1)
                  exact hl_
                have hgig : gi ≠ g := by
                  obtain ⟨cs, hcs⟩ := hMr.typ
                  exact ne_typ hgir hcs (by decide)
                have htz : t < rz.length := by omega
                obtain ⟨gr, hgre⟩ : ∃ gr, wr.heap.size = gr := ⟨_, rfl⟩
                rw [hgre] at hgr10 hgwr ⊢
                have hgrg : Aside0 (gr ≠ g) := ⟨by have := hgwr.out; omega⟩
                clear hgwr
                clear hoe' d2 d3 d4 d5 e1 e2 hBB hbB hbq hMq hgiq hgr hwq hCq ct0 ct1 hwt hgre hB10 hMr hgir hgor hwor hJr hwr hCu hbit' htd'
                replace hin2 := Aside0.mk hin2
                replace hev := Aside0.mk hev
                replace hd := Aside0.mk hd
                replace hlt := Aside0.mk hlt
                replace hq := Aside0.mk hq
                replace hl' := Aside0.mk hl'
                replace hp' := Aside0.mk hp'
                replace hjn := Aside0.mk hjn
                replace hmq := Aside0.mk hmq
                replace htl := Aside0.mk htl
                replace hlz := Aside0.mk hlz
                replace hgi10 := Aside0.mk hgi10
                replace hn0 := Aside0.mk hn0
                replace hn := Aside0.mk hn
                replace hL := Aside0.mk hL
                replace hgw10 := Aside0.mk hgw10
                replace htz := Aside0.mk htz
                refine startG_ (n := 13) [(fun w' => w'.cell? ⟨Wb, 1, none⟩ = some (.slice (some ⟨g, 0, none⟩) rs.length c), []), (fun w' => w'.cell? ⟨gr, 0, none⟩ = some (.int .i64 (rd_T25 rz (t : Int)).f0) ∧ w'.cell? ⟨gr, 1, none⟩ = some (.slice Au (rd_T25 rz (t : Int)).f1.length cu), []), (fun w' => w'.cell? ⟨go, 0, none⟩ = some (.int .i64 own.f0) ∧ w'.cell? ⟨go, 1, none⟩ = some (.slice Ao own.f1.length co), [])] #[F, F, F, F, F, F, F, F, F, F, F, F, F] (by kernel_rfl) rfl rfl ?_; refine with_tabG columns.tab11 columns.bits11 (fun HT_ HW_ => ?_)
                generalize w'.drew = w11 at hM10 hgr10 hgo10 hgi10 hwo10 hJ10 hw10 hCt10 hCo10 hgw10 ⊢
                have hM11 := hM10
                have hgr11 := hgr10
                have hgo11 := hgo10
                have hgi11 := hgi10
                have hwo11 := hwo10
                have hJ11 := hJ10
                have hw11 := hw10
                have hCt11 := hCt10
                have hCo11 := hCo10
                have hgw11 := hgw10
                clear hM10 hgr10 hgo10 hgi10 hwo10 hJ10 hw10 hCt10 hCo10 hgw10
                refine pureG_ (i := 0) (N := some 103) (v := ?_) (a' := ?_) #[T, F, F, F, F, F, F, F, F, F, F, F, F] rfl rfl (any_of HT_.out (by kernel_rfl)) (fun _ _ _ h => h) (Or.inl ⟨by rfl, ?_⟩) ?_ ?_
                rotate_left
                · intro w'
                  go_simp
                  with_reducible rfl
                rotate_left
                · simp only [Act.put, q1, q2, q3, i64_w, i32_w]
                  rfl
                refine pureG_ (i := 1) (N := some 104) (v := ?_) (a' := ?_) #[T, T, F, F, F, F, F, F, F, F, F, F, F] rfl rfl (any_of HT_.out (by kernel_rfl)) (fun _ _ _ h => h) (Or.inl ⟨by rfl, ?_⟩) ?_ ?_
                rotate_left
                · intro w'
                  go_simp
                  with_reducible rfl
                rotate_left
                · simp only [Act.put, q1, q2, q3, i64_w, i32_w]
                  rfl
                refine pureG_ (i := 2) (N := some 105) (v := ?_) (a' := ?_) #[T, T, T, F, F, F, F, F, F, F, F, F, F] rfl rfl (any_of HT_.out (by kernel_rfl)) (fun _ _ _ h => h) (Or.inl ⟨by rfl, ?_⟩) ?_ ?_
                rotate_left
                · intro w'
                  go_simp
                  with_reducible rfl
                rotate_left
                · simp only [Act.put, q1, q2, q3, i64_w, i32_w]
                  rfl
                refine pureG_ (i := 4) (N := some 107) (v := ?_) (a' := ?_) #[T, T, T, F, T, F, F, F, F, F, F, F, F] rfl rfl (any_of HT_.out (by kernel_rfl)) (fun _ _ _ h => h) (Or.inl ⟨by rfl, ?_⟩) ?_ ?_
                rotate_left
                · intro w'
                  go_simp
                  with_reducible rfl
                rotate_left
                · simp only [Act.put, q1, q2, q3, i64_w, i32_w]
                  rfl
                refine takeG_ (i := 3) (N := some 106) (v := ?_) (a' := ?_) (fun w' => w'.cell? ⟨Wb, 1, none⟩ = some (.slice (some ⟨g, 0, none⟩) rs.length c)) [] (.head _) #[T, T, T, T, T, F, F, F, F, F, F, F, F] rfl rfl (take_ofW HT_.out HW_.out (by kernel_rfl)) (fun _ _ _ h => h) (Or.inl ⟨by rfl, ?_⟩) ((blk_cell hM11.box 1).trans rfl) ?_ ?_
                rotate_left
                · intro w' s0
                  go_simp
                  with_reducible rfl
                rotate_left
                · simp only [Act.put, q1, q2, q3, i64_w, i32_w]
                  rfl
                refine takeG_ (i := 5) (N := some 108) (v := ?_) (a' := ?_) (fun w' => w'.cell? ⟨gr, 0, none⟩ = some (.int .i64 (rd_T25 rz (t : Int)).f0) ∧ w'.cell? ⟨gr, 1, none⟩ = some (.slice Au (rd_T25 rz (t : Int)).f1.length cu)) [] (.tail _ (.head _)) #[T, T, T, T, T, T, F, F, F, F, F, F, F] rfl rfl (take_ofW HT_.out HW_.out (by kernel_rfl)) (fun _ _ _ h => h) (Or.inl ⟨by rfl, ?_⟩) ⟨(blk_cell hgr11 0).trans rfl, (blk_cell hgr11 1).trans rfl⟩ ?_ ?_
                rotate_left
                · rintro w' ⟨s0, s1⟩
                  go_simp
                  with_reducible rfl
                rotate_left
                · simp only [Act.put, q1, q2, q3, i64_w, i32_w]
                  rfl
                refine takeG_ (i := 6) (N := some 109) (v := ?_) (a' := ?_) (fun w' => w'.cell? ⟨go, 0, none⟩ = some (.int .i64 own.f0) ∧ w'.cell? ⟨go, 1, none⟩ = some (.slice Ao own.f1.length co)) [] (.tail _ (.tail _ (.head _))) #[T, T, T, T, T, T, T, F, F, F, F, F, F] rfl rfl (take_ofW HT_.out HW_.out (by kernel_rfl)) (fun _ _ _ h => h) (Or.inl ⟨by rfl, ?_⟩) ⟨(blk_cell hgo11 0).trans rfl, (blk_cell hgo11 1).trans rfl⟩ ?_ ?_
                rotate_left
                · rintro w' ⟨s0, s1⟩
                  go_simp
                  with_reducible rfl
                rotate_left
                · simp only [Act.put, q1, q2, q3, i64_w, i32_w]
                  rfl
                refine oneG_ (i := 7) (N := some 110) #[T, T, T, T, T, T, T, T, F, F, F, F, F] rfl rfl (one_of HT_.out (by kernel_rfl)) (fun K hK => ?_)
                refine goes_ Tryd.func28 (by kernel_rfl) rfl #[.agg #[.int .i64 (rd_T25 rz (t : Int)).f0, .slice Au (rd_T25 rz (t : Int)).f1.length cu], .agg #[.int .i64 own.f0, .slice Ao own.f1.length co]] (by rfl) rfl rfl (by (try simp only [List.map_toArray, List.map_cons, List.map_nil]); first | done | rfl) ?_
                refine (bitrow_Xor.calls k _ Au cu _ _ Ao co _ y.1 y.2.1 y.2.2 w11 hCt11 hlu hCo11 hlo hxor).mono ?_
                rintro e w12 ⟨vx, rfl, hRx, hb12⟩
                have hM12 := hM11.below hb12
                have hgr12 := blk_below hgr11 hb12
                have hgo12 := blk_below hgo11 hb12
                have hgi12 : Aside0 _ := am (blk_below hgi11.out hb12)
                have hwo12 := hwo11.below hb12
                have hJ12 : J pre w12 := hJT _ _ _ hJ11 (Turns.of_below hb12)
                have hw12 : H0 ≤ w12.heap.size := Nat.le_trans hw11 hb12.size
                have hwx : WordsOf w12 H0 Wb P0 (.slice (some ⟨g, 0, none⟩) rs.length c) vx y.2.1 := WordsOf.fresh hRx hw11 (blk_lt hM11.box) (fun k_ e_ => by cases e_; exact hgw11.out)
                refine ⟨_, rfl, ?_⟩
                refine hK.out _ _ (Goes.cons ((blk_cell hM12.box 1).trans rfl) (Goes.cons ⟨(blk_cell hgr12 0).trans rfl, (blk_cell hgr12 1).trans rfl⟩ (Goes.cons ⟨(blk_cell hgo12 0).trans rfl, (blk_cell hgo12 1).trans rfl⟩ Goes.nil))) ?_
                clear hK K
                refine normG_ (a' := ?_) ?_ ?_
                rotate_left
                · show Act.put _ (some 110) _ = _
                  simp only [Act.put, q1, q2, q3, i64_w, i32_w]
                  rfl
                refine pureG_ (i := 8) (N := some 102) (v := ?_) (a' := ?_) #[T, T, T, T, T, T, T, T, T, F, F, F, F] rfl rfl (any_of HT_.out (by kernel_rfl)) (fun _ _ _ h => h) (Or.inl ⟨by rfl, ?_⟩) ?_ ?_
                rotate_left
                · intro w'
                  go_simp
                  with_reducible rfl
                rotate_left
                · simp only [Act.put, q1, q2, q3, i64_w, i32_w]
                  rfl
                refine pureG_ (i := 9) (N := some 111) (v := ?_) (a' := ?_) #[T, T, T, T, T, T, T, T, T, T, F, F, F] rfl rfl (any_of HT_.out (by kernel_rfl)) (fun _ _ _ h => h) (Or.inl ⟨by rfl, ?_⟩) ?_ ?_
                rotate_left
                · intro w'
                  go_simp
                  with_reducible rfl
                rotate_left
                · simp only [Act.put, q1, q2, q3, i64_w, i32_w]
                  rfl
                refine pureG_ (i := 10) (N := some 112) (v := ?_) (a' := ?_) #[T, T, T, T, T, T, T, T, T, T, T, F, F] rfl rfl (any_of HT_.out (by kernel_rfl)) (fun _ _ _ h => h) (Or.inl ⟨by rfl, ?_⟩) ?_ ?_
                rotate_left
                · intro w'
                  go_simp
                  with_reducible rfl
                rotate_left
                · simp only [Act.put, q1, q2, q3, i64_w, i32_w]
                  rfl
                refine pureG_ (i := 11) (N := some 113) (v := ?_) (a' := ?_) #[T, T, T, T, T, T, T, T, T, T, T, T, F] rfl rfl (any_of HT_.out (by kernel_rfl)) (fun _ _ _ h => h) (Or.inl ⟨by rfl, ?_⟩) ?_ ?_
                rotate_left
                · intro w'
                  go_simp
                  with_reducible rfl
                rotate_left
                · simp only [Act.put, q1, q2, q3, i64_w, i32_w]
                  rfl
                refine oneG_ (i := 12) (N := none) #[T, T, T, T, T, T, T, T, T, T, T, T, T] rfl rfl (one_of HT_.out (by kernel_rfl)) (fun K hK => ?_)
                obtain ⟨hM13, hT13, hg13, hrun13⟩ := hM12.put t htz.out ⟨y.1, y.2.1⟩ vx hwx
                refine storeG_step 25 (.tmp 113) (.tmp 111) (.pointer (some ⟨g, t * 2, none⟩)) (.agg #[.int .i64 y.1, vx]) (by rfl) rfl rfl rfl rfl hrun13 ?_
                generalize w12.setCells g (t * 2) [.int .i64 y.1, vx] = w13 at hM13 hT13 hg13 hrun13 ⊢
                refine hK.out _ _ (Goes.cons ((blk_cell hM13.box 1).trans rfl) (Goes.cons ⟨(blk_cell ((hg13.block gr (blk_lt hgr12) (by simpa using hgrg.out)).trans hgr12) 0).trans rfl, (blk_cell ((hg13.block gr (blk_lt hgr12) (by simpa using hgrg.out)).trans hgr12) 1).trans rfl⟩ (Goes.cons ⟨(blk_cell ((hg13.block go (blk_lt hgo12) (by simpa using hgog.out)).trans hgo12) 0).trans rfl, (blk_cell ((hg13.block go (blk_lt hgo12) (by simpa using hgog.out)).trans hgo12) 1).trans rfl⟩ Goes.nil))) ?_
                clear hK K
                refine doneG_ (done_of HT_.out (by kernel_rfl)) ?_
                replace hin2 := hin2.out
                replace hev := hev.out
                replace hd := hd.out
                replace hlt := hlt.out
                replace hq := hq.out
                replace hl' := hl'.out
                replace hp' := hp'.out
                replace hjn := hjn.out
                replace hmq := hmq.out
                replace htl := htl.out
                replace hlz := hlz.out
                replace hn0 := hn0.out
                replace hn := hn.out
                replace hL := hL.out
                clear hrun13
                have hgi13 : w13.heap[gi]? = some (.cells #[.int .i64 (j : Int)] 3 (0, 0)) := (hg13.block gi (blk_lt hgi12.out) (by simpa using hgig)).trans hgi12.out
                have hgo13 : w13.heap[go]? = some (.cells #[.int .i64 own.f0, .slice Ao own.f1.length co] 25 (0, 0)) := (hg13.block go (blk_lt hgo12) (by simpa using hgog.out)).trans hgo12
                have hwo13 := words_far hwo12 hg13
                have hJ13 : J pre w13 := hJT _ _ _ hJ12 hT13
                have hw13 : H0 ≤ w13.heap.size := Nat.le_trans hw12 hg13.size
                clear hg13 hM12 hgr12 hgo12 hgi12 hwo12 hJ12 hw12 hwx hb12 hRx
                go_wp2
                go_roundw
                case rel => exact ⟨t + 1, _, by simp, by omega, by (rw [show rs.length - (t + 1) = mq by omega]; exact hin2), hJ13, hM13, by rw [List.length_set]; exact hlz, hw13, hgi13, hgo13, hwo13⟩
                case measure => simp [intOf]; omega
          · obtain rfl : t = rs.length := by omega
            have htn' : decide ((rs.length : Int) < (rs.length : Int)) = false := by simp
            have htn2 : (rs.length < rs.length) = False := by simp
            rw [Nat.sub_self] at hin'
            unfold ech_in at hin'
            obtain rfl := Option.some.inj hin'
            have c92 : wr.cell? ⟨Wb, 2, none⟩ = some (.int .i64 (d : Int)) := (blk_cell hMr.box 2).trans rfl
            have cgi : wr.cell? ⟨gi, 0, none⟩ = some (.int .i64 (j : Int)) := (blk_cell hgir 0).trans rfl
            have fz : wr.frozen? ⟨Wb, 2, none⟩ = false := by simp [World.frozen?, hMr.box]
            have hwd : IntKind.i64.wrap ((d : Int) + 1) = ((d + 1 : Nat) : Int) := (i64_w _).trans (by unfold wrap64; omega)
            go_upto_region 14 with (fail)
            obtain ⟨wc, hwc⟩ : ∃ wc, wr.setCell ⟨Wb, 2, none⟩ (.int .i64 ((d : Int) + 1)) = wc := ⟨_, rfl⟩
            rw [hwc]
            have hMc : ColMem wc H0 Wb P0 (.slice (some ⟨g, 0, none⟩) rs.length c) n rz (d + 1) := by rw [← hwc]; exact hMr.count (d + 1)
            have hTc : Turns Wb (.slice (some ⟨g, 0, none⟩) rs.length c) wr wc := by rw [← hwc]; exact ⟨some Wb, grown_setCell wr _ _, fun r e => by cases e; exact ⟨.inl rfl, _, _, _, hMr.box⟩⟩
            have hJc := hJT _ _ _ hJr hTc
            have hgic : wc.cell? ⟨gi, 0, none⟩ = some (.int .i64 (j : Int)) := by
              have h1 : wc.heap[gi]? = some (.cells #[.int .i64 (j : Int)] 3 (0, 0)) := by rw [← hwc]; exact (Below.heap_setCell wr _ _ _ (ne_typ hgir hMr.box (by decide))).trans hgir
              exact (blk_cell h1 0).trans rfl
            have hszc : wr.heap.size ≤ wc.heap.size := by rw [← hwc]; simp
            obtain ⟨fn, tmps, assign, body, hy, hRd⟩ := hY pre (j : Int) wc hJc (by omega)
            clear c92 cgi fz hwc
            refine (wpIn_wide (n := m + 1)).1 ?_
            gi_wp2
            refine hRd.mono ?_
            rintro e3 W3 ⟨rfl, hJ3, hk3⟩
            gi_wp2
            go_wp2
            go_roundw
            case rel => exact ⟨j + 1, rz, d + 1, pre ++ [(j : Int)], by simp, by omega, by (rw [show n.toNat - (j + 1) = q by omega]; exact hev), hJ3, hMc.keep hk3, hlz, by simp; omega, Nat.le_trans hwr (Nat.le_trans hszc hk3.below.size)⟩
            case measure => simp [intOf]; omega
    · obtain rfl : (j : Int) = n := by omega
      have hlt' : decide ((j : Int) < (j : Int)) = false := by simp
      rw [Int.toNat_natCast, Nat.sub_self] at hev
      obtain rfl := Option.some.inj hev
      go_wp2
      go_end0
      exact ⟨⟨_, rfl⟩, hJ', by first | exact ⟨hM', hl'⟩ | exact hM'⟩
/-! slices.Clone of rows, and reduce.Echelon. -/
theorem raw_tight' {sz e base : Nat} {ok : Nat → Prop} {w : World} {v : Value} {rows : List (List Value)} (h : (Kd.raw sz).R e w base ok v rows) : (Kd.raw sz).R e w base (fun k => some k = v.ownBlock) v rows := Kd.raw_tight h
/-- A fresh row that bears copies of rows that are only read. -/
theorem N_copied {w w1 : World} {base : Nat} {okp : Nat → Prop} {v : Value} {l : List S25} {news : List (List Value)} (hB : Below base w w1) (hbz : base ≤ w.heap.size) (hokp : ∀ k, okp k → k < base) (hnl : news.length = l.length) (hR : (Kd.raw k25.sz).R 25 w1 base (fun _ => True) v news)
    (hnf : ∀ (j : Nat) (x : S25) (c : List Value), l[j]? = some x → news[j]? = some c → Kd.FK k25 w okp x c) : Kd.N k25 25 w1 base (fun k => okp k ∨ some k = v.ownBlock) v l := by
  refine ⟨fun k hk => .inr hk.symm, news, hnl, raw_tight' hR, fun j x c hx hc => ?_⟩
  have h1 := hnf j x c hx hc
  have hown : ∀ k, v.ownBlock = some k → base ≤ k := Kd.R_base hR
  intro W' hW'
  refine h1 W' fun k hk hl => ?_
  have hkb := hokp k hk
  have hsz := hB.size
  have := hW' k ⟨.inl hk, fun e => by have := hown k e.symm; omega⟩ (by omega)
  exact this.trans (hB.block k hkb)
set_option maxHeartbeats 8000000 in
set_option maxRecDepth 100000 in
theorem clone_calls (A : Option Addr) (c : Nat) (l : List S25) (P0 : Nat → Prop) (w : World) (hlc : l.length ≤ c) (hF : Kd.F k25 w P0 A l.length l) (hl : l.length ≤ 1000) :
    Calls Tryd.prog 82 #[.slice A l.length c] w fun e w' => ∃ v, e = .returned v ∧ Kd.N k25 25 w' w.heap.size (fun k => (P0 k ∧ k < w.heap.size) ∨ some k = v.ownBlock) v l ∧ Below w.heap.size w w' := by
  go_enter Tryd.func82, Tryd.ntmps82
  cases A with
  | none =>
    have hnil : l = [] := by
      cases l with
      | nil => rfl
      | cons x t =>
        obtain ⟨ad, h, _⟩ := (Kd.F_now hF).2.2 (by simp)
        cases h
    subst hnil
    have he : ∀ w : World, (binOp .eql 53 (.slice none 0 c) (.slice none 0 0)).run Tryd.prog w = .ok (.bool true) w := fun _ => rfl
    go_wp2
    go_ret
    exact ⟨_, rfl, Kd.N_nil _ _ _ _ _, Below.refl _ _⟩
  | some ad =>
    obtain ⟨news, hnl, hnr, hnf⟩ := Kd.reads_raw (Kd.F_rows (Kd.F_bound hF)) (fun y c hk => ⟨k25.K_len (Kd.FK_now hk), k25.K_one (Kd.FK_now hk)⟩)
    have he : ∀ w : World, (binOp .eql 53 (.slice (some ad) l.length c) (.slice none 0 0)).run Tryd.prog w = .ok (.bool false) w := fun _ => rfl
    have hR0 : (Kd.raw k25.sz).R 25 (w.alloc (.cells #[] 25)) w.heap.size (fun _ => True) (.slice (some ⟨w.heap.size, 0, none⟩) 0 0) [] := ⟨fun _ _ => trivial, [], ⟨by simp, .inr ⟨w.heap.size, 0, #[], rfl, Nat.le_refl _, blk_new w _, by simp, by decide, by simp, by simp⟩⟩, Reps.none _ _⟩
    have hB0 : Below w.heap.size w (w.alloc (.cells #[] 25)) := below_alloc (Below.refl _ w) _
    have hnr' : ReadsRow (fun x cs => cs = x ∧ cs.length = k25.sz ∧ ∀ (u : Value), u ∈ cs → u.oneCell' = true) k25.sz (w.alloc (.cells #[] 25)) (some ad) l.length news := ReadsRow.imp_ hnr hB0 (fun _ _ h => h)
    go_wp2_with ((with_reducible refine gate_dst (N := 7) rfl ?_); refine Kd.R_append_rows (Kd.raw k25.sz) (w0 := w) w.heap.size rfl (.tmp 5) (.tmp 6) 53 25 (.agg #[(.int .i64 0), (.slice none 0 0)]) 32 rfl Tryd.underlying53 info25 rfl (by decide) (by omega) (.slice (some ⟨w.heap.size, 0, none⟩) 0 0) [] news (some ad) l.length c (fun _ => True) (fun _ => False) rfl rfl hR0 hnr' (fun _ _ hk => hk) (fun _ hk => hk.elim) (fun _ _ => trivial) hB0 (by simp) (by simp; omega) ?_; intro v1 w1 hr1 hb1 _ _)
    go_ret
    exact ⟨_, rfl, N_copied (w := w) (base := w.heap.size) (okp := fun k => P0 k ∧ k < w.heap.size) hb1 (Nat.le_refl _) (fun k hk => hk.2) hnl hr1 hnf, hb1⟩
/-- A post where nothing panics. -/
def PostNP (Q : Exit → Act → World → Prop) : Exit → Act → World → Prop
  | .panic _, _, _ => False
  | e, a, w => Q e a w
theorem PostNP.out {Q : Exit → Act → World → Prop} : ∀ (e : Exit) (a : Act) (w : World), PostNP Q e a w → Q e a w := fun e a w h => by
  cases e <;> first | exact h | exact h.elim
theorem infoInt : (Tryd.prog.info? 3).map (fun i => (i.zero, i.size, i.bytes)) = some (some (.int .i64 0), 1, 8) := by kernel_rfl
theorem keepW_append {H0 gp n : Nat} {W w1 : World} {v v' : Value} {xs : List Value} {tmp : Obj} (hg : H0 ≤ gp) (hv : Boxed W gp 34 v) (hrow : W.ownsRow gp 3 1 v n xs) (hgrow : (W.alloc tmp).grownBy w1 v.ownBlock) (hb : Below gp W (w1.setCell ⟨gp, 0, none⟩ v')) : KeepW H0 W (w1.setCell ⟨gp, 0, none⟩ v') := by
  refine ⟨hb.mono hg, fun k cs t fz hk h1 h2 => ?_⟩
  have hlt := (Array.getElem?_eq_some_iff.1 hk).1
  have e1 : k ≠ gp := ne_typ hk (show W.heap[gp]? = _ from hv) h2
  have e2 : some k ≠ v.ownBlock := by
    rcases hrow.2 with ⟨rfl, _⟩ | ⟨g, cap, cur, rfl, _, hgb, _⟩
    · simp [Value.ownBlock]
    · intro e
      exact ne_typ hk hgb h1 (Option.some.inj e)
  exact (Below.heap_setCell w1 _ _ k e1).trans ((hgrow.block k (by simp; omega) e2).trans ((Below.heap_alloc W tmp k hlt).trans hk))
theorem rows_take (A : Option Addr) (n c m : Nat) (hm : m ≤ c) : ∀ W : World, (Instr.slice 53 (.slice A n c) none (some (.int .i64 (m : Int))) none).run Tryd.prog W = .ok (.slice A m c) W := fun W => by
  obtain ⟨i, hi, _, hsz, _⟩ := info_parts info25
  have ht := Tryd.underlying53
  have hel : Tryd.prog.elem 53 = 25 := by simp [Program.elem, ht]
  have hu : Tryd.prog.underlying 53 = some (.slice (Tryd.prog.elem 53)) := by rw [hel]; exact ht
  have ha : (A.map fun x => x.add 0) = A := by cases A <;> simp [Addr.add]
  rw [run_slice_h W 53 A n c hu .i64 (m : Int) (Int.natCast_nonneg _) (by omega), hel]
  simp [sizeOf, typeInfo, hi, hsz, sliced, Result.andThen, ha]
theorem ech_in_len (k : Nat) (i : Int) (d : Nat) (own : S25) (m : Nat) : ∀ j rs r, ech_in k i d own m j rs = some r → r.length = rs.length := by
  induction m with
  | zero => intro j rs r h; rw [← Option.some.inj h]
  | succ m ih =>
    intro j rs r h
    unfold ech_in at h
    by_cases e : j = d
    · rw [if_pos e] at h; exact ih _ _ _ h
    · rw [if_neg e] at h
      obtain ⟨b, _, h⟩ := Option.bind_eq_some_iff.mp h
      cases b with
      | false => rw [if_neg (by decide)] at h; exact ih _ _ _ h
      | true =>
        rw [if_pos rfl] at h
        obtain ⟨y, _, h⟩ := Option.bind_eq_some_iff.mp h
        rw [ih _ _ _ h, List.length_set]
theorem ech_out_le (k m : Nat) : ∀ i rs d ps r, d ≤ rs.length → ech_out k m i rs d ps = some r → r.2.1 ≤ r.1.length := by
  induction m with
  | zero => intro i rs d ps r hd h; rw [← Option.some.inj h]; exact hd
  | succ m ih =>
    intro i rs d ps r hd h
    unfold ech_out at h
    rw [if_pos hd] at h
    obtain ⟨p, _, h⟩ := Option.bind_eq_some_iff.mp h
    by_cases e : p < 0
    · rw [if_pos e] at h; exact ih _ _ _ _ _ hd h
    · rw [if_neg e] at h
      by_cases e2 : d + p.toNat < rs.length
      case neg => rw [if_neg e2] at h; cases h
      rw [if_pos e2] at h
      obtain ⟨rs2, h2, h⟩ := Option.bind_eq_some_iff.mp h
      have hl := ech_in_len _ _ _ _ _ _ _ _ h2
      refine ih _ _ _ _ _ ?_ h
      rw [hl]
      unfold ech_swap
      rw [List.length_set, List.length_set]
      omega
theorem infoMat : (Tryd.prog.info? 55).map (·.size) = some 2 := by kernel_rfl
theorem boxM_store {W : World} {go : Nat} {a b : Value} (h : W.heap[go]? = some (.cells #[a, b] 55 (0, 0))) (f : Int) (u : Value) (hu : u.oneCell' = true) (hc : u.cells.toList = [u]) :
    (Instr.storeAt 55 (.pointer (some ⟨go, 0, none⟩)) (.agg #[.int .i64 f, u])).run Tryd.prog W = .ok () (W.setCells go 0 [.int .i64 f, u]) ∧ (W.setCells go 0 [.int .i64 f, u]).heap[go]? = some (.cells #[.int .i64 f, u] 55 (0, 0)) ∧ W.grownBy (W.setCells go 0 [.int .i64 f, u]) (some go) := by
  have h1 : ∀ q ∈ [Value.int .i64 f, u], q.oneCell' = true := by
    intro q hq
    rcases List.mem_cons.1 hq with rfl | hq
    · rfl
    · rcases List.mem_cons.1 hq with rfl | hq
      · exact hu
      · cases hq
  obtain ⟨s1, s2, s3, s4⟩ := setCells_same go [Value.int .i64 f, u] 0 W
  refine ⟨run_store_run 55 _ _ h rfl infoMat (by show 0 + 2 ≤ 2; omega) h1, ?_, ⟨s1, s2, s3, Nat.le_of_eq s4.symm, fun k _ hk => setCells_far _ _ k (fun e => hk (by rw [e]))⟩⟩
  have p1 := blk_put (cs := #[a, b]) h 0 (.int .i64 f) rfl
  have p2 := blk_put (cs := #[.int .i64 f, b]) p1 1 u rfl
  exact p2
def reduce_Echelon.f (k : Nat) (a0_0 : Int) (l0_1 : List S25) : Option (Int × List S25 × List Int × Int) := (matrix_Right.f k a0_0 l0_1).bind fun t => if t = true then (if 0 ≤ a0_0 ∧ a0_0 ≤ 64 ∧ l0_1.length ≤ 64 then (ech_out k a0_0.toNat 0 l0_1 0 []).bind fun r => some (a0_0, r.1.take r.2.1, r.2.2, 0) else none) else some (0, [], [], 1)
theorem reduce_Echelon.mono : ∀ a0 a1 k, LeO (reduce_Echelon.f k a0 a1) (reduce_Echelon.f (k + 1) a0 a1) := by
 intro a0 a1 k
 unfold reduce_Echelon.f
 exact LeO.bind (matrix_Right.mono _ _ _) fun t => LeO.ite (LeO.ite (LeO.bind (ech_out_mono _ _ _ _ _ _) fun r => LeO.refl _) (LeO.none _)) (LeO.refl _)
def reduce_Echelon.T3 : Bool × List (List Nat × List Nat) := (true, [([], []), ([0], [0]), ([], []), ([2], [2]), ([3], [3]), ([1, 4], [1, 4]), ([5], [5]), ([6, 4, 0, 1, 2, 3, 4, 5, 6], [6])])
def reduce_Echelon.B3 : List Nat := [0, 1, 0, 4, 12, 31, 63, 127]
theorem reduce_Echelon.tab3 : rtab .any (opsOf Tryd.f47 3) = reduce_Echelon.T3 := by kernel_rfl
theorem reduce_Echelon.bits3 : waitsOk reduce_Echelon.T3.2 reduce_Echelon.B3 = true := by kernel_rfl
def reduce_Echelon.T8 : Bool × List (List Nat × List Nat) := (true, [([], []), ([0], [0]), ([], []), ([2], [2]), ([3], [3]), ([4], [4]), ([], []), ([6], [6]), ([7], [7]), ([8], [8]), ([5, 9], [5, 9]), ([1, 10], [1, 10]), ([], []), ([11, 0, 1, 2, 3, 4, 5, 6, 7, 8, 9, 10, 11], [11]), ([12, 13, 0, 1, 2, 3, 4, 5, 6, 7, 8, 9, 10, 11, 12, 13], [12]), ([14, 0, 1, 2, 3, 4, 5, 6, 7, 8, 9, 10, 11, 12, 13, 14], [])])
def reduce_Echelon.B8 : List Nat := [0, 1, 0, 4, 12, 28, 0, 64, 192, 448, 1020, 2047, 0, 4095, 16383, 32767]
theorem reduce_Echelon.tab8 : rtab .any (opsOf Tryd.f47 8) = reduce_Echelon.T8 := by kernel_rfl
theorem reduce_Echelon.bits8 : waitsOk reduce_Echelon.T8.2 reduce_Echelon.B8 = true := by kernel_rfl
set_option maxHeartbeats 8000000 in
set_option maxRecDepth 100000 in
theorem reduce_Echelon.calls (k : Nat) (a0_0 : Int) (P0_1_ : Nat → Prop) (A0_1 : Option Addr) (c0_1 : Nat) (l0_1 : List S25) (r1 : Int) (r2 : List S25) (r3 : List Int) (r4 : Int) (w : World) (hs0_1 : Kd.V k25 25 w w.heap.size (fun k_ => P0_1_ k_) (.slice A0_1 l0_1.length c0_1) l0_1) (h : reduce_Echelon.f k a0_0 l0_1 = some (r1, r2, r3, r4)) :
    Calls Tryd.prog 47 #[.agg #[.int .i64 a0_0, .slice A0_1 l0_1.length c0_1]] w fun e w' => ∃ v1_ v2_ : Value, e = .returned (.tuple #[.agg #[.int .i64 r1, v1_], v2_, .int .i64 r4]) ∧ Kd.N k25 25 w' w.heap.size (fun k_ => (P0_1_ k_ ∨ w.heap.size ≤ k_) ∧ some k_ ≠ (v2_ : Value).ownBlock) v1_ r2 ∧ Kd.R (Kd.int .i64) 3 w' w.heap.size (fun _ => True) v2_ r3 ∧ Below w.heap.size w w' := by
  obtain ⟨A, c, hAe, hlc, hF⟩ := hs0_1
  obtain ⟨hA1, _, hA2⟩ := Value.slice.inj hAe
  subst hA1
  subst hA2
  clear hAe
  unfold reduce_Echelon.f at h
  obtain ⟨t, hR, h⟩ := Option.bind_eq_some_iff.mp h
  have hbx1 : Below w.heap.size w (w.alloc (.cells #[.int .i64 a0_0, .slice A0_1 l0_1.length c0_1] 55)) := below_alloc (Below.refl _ w) _
  obtain ⟨w1, hw1⟩ : ∃ w1, w.alloc (.cells #[.int .i64 a0_0, .slice A0_1 l0_1.length c0_1] 55) = w1 := ⟨_, rfl⟩
  have hm1 : w1.heap[w.heap.size]? = some (.cells #[.int .i64 a0_0, .slice A0_1 l0_1.length c0_1] 55 (0, 0)) := by rw [← hw1]; exact blk_new w _
  have hs1 : w1.heap.size = w.heap.size + 1 := by rw [← hw1]; simp
  rw [hw1] at hbx1
  obtain ⟨w2, hw2⟩ : ∃ w2, w1.alloc (.cells #[.int .i64 0, .slice none 0 0] 55) = w2 := ⟨_, rfl⟩
  have hb2 : Below w1.heap.size w1 w2 := by rw [← hw2]; exact below_alloc (Below.refl _ w1) _
  have hg2 : w2.heap[w1.heap.size]? = some (.cells #[.int .i64 0, .slice none 0 0] 55 (0, 0)) := by rw [← hw2]; exact blk_new w1 _
  have hm2 := blk_below hm1 hb2
  have hbw2 : Below w.heap.size w w2 := hbx1.trans (hb2.mono (by omega))
  have hs2 : w2.heap.size = w.heap.size + 2 := by rw [← hw2]; simp [hs1]
  have cm0 : w2.cell? ⟨w.heap.size, 0, none⟩ = some (.int .i64 a0_0) := (blk_cell hm2 0).trans rfl
  have cm1 : w2.cell? ⟨w.heap.size, 1, none⟩ = some (.slice A0_1 l0_1.length c0_1) := (blk_cell hm2 1).trans rfl
  have hC2 := Kd.C_below (Kd.F_now hF) hbw2
  have hR' := Aside0.mk hR
  have hh := Aside0.mk h
  rw [hs1] at hg2
  clear hR h
  cases t with
  | false =>
    have h := hh.out
    rw [if_neg (by decide)] at h
    obtain ⟨rfl, rfl, rfl, rfl⟩ : 0 = r1 ∧ [] = r2 ∧ [] = r3 ∧ 1 = r4 := by simpa using h
    go_enter Tryd.func47, Tryd.ntmps47
    go_wp2_with ((with_reducible refine gate_callee (f := 71) rfl ?_); refine goesL_ (some 9) rfl rfl Tryd.func71 (by kernel_rfl) rfl #[.agg #[.int .i64 a0_0, .slice A0_1 l0_1.length c0_1]] rfl (by (try simp only [List.map_toArray, List.map_cons, List.map_nil]); first | done | rfl) ?_; refine (matrix_Right.calls k a0_0 A0_1 c0_1 l0_1 false _ hC2 hlc hR'.out).mono ?_; rintro e w' ⟨rfl, hb3⟩; refine ⟨_, rfl, ?_⟩; have hgR := blk_below hg2 hb3; have g0 : w'.cell? ⟨w.heap.size + 1, 0, none⟩ = some (.int .i64 0) := (blk_cell hgR 0).trans rfl; have g1 : w'.cell? ⟨w.heap.size + 1, 1, none⟩ = some (.slice none 0 0) := (blk_cell hgR 1).trans rfl; have fz : ∀ i, w'.frozen? ⟨w.heap.size + 1, i, none⟩ = false := fun i => by simp [World.frozen?, hgR])
    have hx1 := blk_put (cs := #[.int .i64 0, .slice none 0 0]) (blk_put (cs := #[.int .i64 0, .slice none 0 0]) hgR 0 (.int .i64 0) rfl) 1 (.slice none 0 0) rfl
    have e0 := (blk_cell hx1 0).trans rfl
    have e1 := (blk_cell hx1 1).trans rfl
    refine bodyPost_ret (v := .tuple #[.agg #[.int .i64 0, .slice none 0 0], .slice none 0 0, .int .i64 1]) ?_ rfl ⟨_, _, rfl, Kd.N_nil _ _ _ _ _, Kd.R_nil _ _ _ _ _, ?_⟩
    · simp [results, Tryd.f47, go_sem, e0, e1]
    · exact ((hbw2.trans (hb3.mono hbw2.size)).setCell (p := ⟨w.heap.size + 1, 0, none⟩) (by simp) _).setCell (p := ⟨w.heap.size + 1, 1, none⟩) (by simp) _
  | true =>
    have h := hh.out
    rw [if_pos rfl] at h
    by_cases hbd : 0 ≤ a0_0 ∧ a0_0 ≤ 64 ∧ l0_1.length ≤ 64
    case neg => rw [if_neg hbd] at h; cases h
    rw [if_pos hbd] at h
    obtain ⟨r, hr, h⟩ := Option.bind_eq_some_iff.mp h
    have hr' := Aside0.mk hr
    have hh' := Aside0.mk h
    have hbd' := Aside0.mk hbd
    clear hr h hh hbd
    refine callsIn_wide.1 (callsIn_of_wp_marks (n := 3) Tryd.func47 rfl trivial (wpIn_mono (Q := PostNP (bodyPostM Fence.wide 3 Tryd.prog Tryd.f47 _)) (wpIn_wide.2 ?_) PostNP.out) rfl)
    simp only [Tryd.ntmps47, List.size_toArray, List.length_cons, List.length_nil, Nat.reduceAdd, Nat.reduceSub, Array.replicate_succ, Array.replicate_zero, List.push_toArray, List.append_toArray, List.nil_append, List.cons_append]
    go_wp2_with ((with_reducible refine gate_callee (f := 71) rfl ?_); refine goesL_ (some 9) rfl rfl Tryd.func71 (by kernel_rfl) rfl #[.agg #[.int .i64 a0_0, .slice A0_1 l0_1.length c0_1]] rfl (by (try simp only [List.map_toArray, List.map_cons, List.map_nil]); first | done | rfl) ?_; refine (matrix_Right.calls k a0_0 A0_1 c0_1 l0_1 true _ hC2 hlc hR'.out).mono ?_; rintro e w' ⟨rfl, hb3⟩; refine ⟨_, rfl, ?_⟩)
    have hb4 : Below w2.heap.size w2 w'.drew := below_drew1 hb3
    have hm4 := blk_below hm2 hb4
    have hg4 := blk_below hg2 hb4
    have hbw4 : Below w.heap.size w w'.drew := hbw2.trans (hb4.mono hbw2.size)
    have hF4 := Kd.F_below (Kd.F_bound hF) hbw4
    have hs4 : w.heap.size + 2 ≤ w'.drew.heap.size := by have := hb4.size; omega
    clear cm0 cm1 hC2 hb3 hb4 hm2 hg2 hR'
    refine startG_ (n := 8) [(fun w' => w'.cell? ⟨w.heap.size, 0, none⟩ = some (.int .i64 a0_0) ∧ w'.cell? ⟨w.heap.size, 1, none⟩ = some (.slice A0_1 l0_1.length c0_1), [])] #[F, F, F, F, F, F, F, F] (by kernel_rfl) rfl rfl ?_; refine with_tabG reduce_Echelon.tab3 reduce_Echelon.bits3 (fun HT_ HW_ => ?_)
    generalize w'.drew = w4 at hm4 hg4 hbw4 hF4 hs4 ⊢
    refine pureG_ (i := 0) (N := some 12) (v := ?_) (a' := ?_) #[T, F, F, F, F, F, F, F] rfl rfl (any_of HT_.out (by kernel_rfl)) (fun _ _ _ h => h) (Or.inl ⟨by rfl, ?_⟩) ?_ ?_
    rotate_left
    · intro w'
      go_simp
      with_reducible rfl
    rotate_left
    · simp only [Act.put, q1, q2, q3, i64_w, i32_w]
      rfl
    refine pureG_ (i := 2) (N := some 14) (v := ?_) (a' := ?_) #[T, F, T, F, F, F, F, F] rfl rfl (any_of HT_.out (by kernel_rfl)) (fun _ _ _ h => h) (Or.inl ⟨by rfl, ?_⟩) ?_ ?_
    rotate_left
    · intro w'
      go_simp
      with_reducible rfl
    rotate_left
    · simp only [Act.put, q1, q2, q3, i64_w, i32_w]
      rfl
    refine takeG_ (i := 1) (N := some 13) (v := ?_) (a' := ?_) (fun w' => w'.cell? ⟨w.heap.size, 0, none⟩ = some (.int .i64 a0_0) ∧ w'.cell? ⟨w.heap.size, 1, none⟩ = some (.slice A0_1 l0_1.length c0_1)) [] (.head _) #[T, T, T, F, F, F, F, F] rfl rfl (take_ofW HT_.out HW_.out (by kernel_rfl)) (fun _ _ _ h => h) (Or.inl ⟨by rfl, ?_⟩) ⟨(blk_cell hm4 0).trans rfl, (blk_cell hm4 1).trans rfl⟩ ?_ ?_
    rotate_left
    · rintro w' ⟨s0, s1⟩
      go_simp
      with_reducible rfl
    rotate_left
    · simp only [Act.put, q1, q2, q3, i64_w, i32_w]
      rfl
    refine takeG_ (i := 3) (N := some 15) (v := ?_) (a' := ?_) (fun w' => w'.cell? ⟨w.heap.size, 0, none⟩ = some (.int .i64 a0_0) ∧ w'.cell? ⟨w.heap.size, 1, none⟩ = some (.slice A0_1 l0_1.length c0_1)) [] (.head _) #[T, T, T, T, F, F, F, F] rfl rfl (take_ofW HT_.out HW_.out (by kernel_rfl)) (fun _ _ _ h => h) (Or.inl ⟨by rfl, ?_⟩) ⟨(blk_cell hm4 0).trans rfl, (blk_cell hm4 1).trans rfl⟩ ?_ ?_
    rotate_left
    · rintro w' ⟨s0, s1⟩
      go_simp
      with_reducible rfl
    rotate_left
    · simp only [Act.put, q1, q2, q3, i64_w, i32_w]
      rfl
    refine oneG_ (i := 4) (N := some 16) #[T, T, T, T, T, F, F, F] rfl rfl (one_of HT_.out (by kernel_rfl)) (fun K hK => ?_)
    refine goes_ Tryd.func82 (by kernel_rfl) rfl #[.slice A0_1 l0_1.length c0_1] (by rfl) rfl rfl (by (try simp only [List.map_toArray, List.map_cons, List.map_nil]); first | done | rfl) ?_
    refine (clone_calls A0_1 c0_1 l0_1 (fun k_ => P0_1_ k_ ∧ k_ < w.heap.size) w4 hlc hF4 (by have := hbd'.out.2.2; omega)).mono ?_
    rintro e w5 ⟨vr, rfl, hN5, hb5⟩
    obtain ⟨Av, cv, hve⟩ := Kd.N_slice hN5
    subst hve
    have hm5 := blk_below hm4 hb5
    have hg5 := blk_below hg4 hb5
    have hbw5 := hbw4.trans (hb5.mono hbw4.size)
    refine ⟨_, rfl, ?_⟩
    refine hK.out _ _ (Goes.cons ⟨(blk_cell hm5 0).trans rfl, (blk_cell hm5 1).trans rfl⟩ Goes.nil) ?_
    clear hK K
    refine normG_ (a' := ?_) ?_ ?_
    rotate_left
    · show Act.put _ (some 16) _ = _
      simp only [Act.put, q1, q2, q3, i64_w, i32_w]
      rfl
    refine pureG_ (i := 5) (N := some 17) (v := ?_) (a' := ?_) #[T, T, T, T, T, T, F, F] rfl rfl (any_of HT_.out (by kernel_rfl)) (fun _ _ _ h => h) (Or.inl ⟨by rfl, ?_⟩) ?_ ?_
    rotate_left
    · intro w'
      go_simp
      with_reducible rfl
    rotate_left
    · simp only [Act.put, q1, q2, q3, i64_w, i32_w]
      rfl
    refine oneG_ (i := 6) (N := some 18) #[T, T, T, T, T, T, T, F] rfl rfl (one_of HT_.out (by kernel_rfl)) (fun K hK => ?_)
    refine value_ (w1 := ?_) (v := ?_) (by rfl) rfl ?_ ?_
    rotate_left 2
    · go_simp
      constructor
      · rfl
      · rfl
    have hW6 := blk_new w5 (.cells #[.int .i64 a0_0, .slice Av l0_1.length cv, .int .i64 0] 106)
    have hb6 : Below w5.heap.size w5 _ := below_alloc (Below.refl _ w5) (.cells #[.int .i64 a0_0, .slice Av l0_1.length cv, .int .i64 0] 106)
    obtain ⟨Wb, hWb⟩ : ∃ Wb, w5.heap.size = Wb := ⟨_, rfl⟩
    rw [hWb] at hW6 ⊢
    generalize w5.alloc (.cells #[.int .i64 a0_0, .slice Av l0_1.length cv, .int .i64 0] 106) = w6 at hW6 hb6 ⊢
    have hm6 := blk_below hm5 hb6
    refine hK.out _ _ (Goes.cons ⟨(blk_cell hm6 0).trans rfl, (blk_cell hm6 1).trans rfl⟩ Goes.nil) ?_
    clear hK K
    refine normG_ (a' := ?_) ?_ ?_
    rotate_left
    · show Act.put _ (some 18) _ = _
      simp only [Act.put, q1, q2, q3, i64_w, i32_w]
      rfl
    refine pureG_ (i := 7) (N := some 5) (v := ?_) (a' := ?_) #[T, T, T, T, T, T, T, T] rfl rfl (any_of HT_.out (by kernel_rfl)) (fun _ _ _ h => h) (Or.inl ⟨by rfl, ?_⟩) ?_ ?_
    rotate_left
    · intro w'
      go_simp
      with_reducible rfl
    rotate_left
    · simp only [Act.put, q1, q2, q3, i64_w, i32_w]
      rfl
    refine doneG_ (done_of HT_.out (by kernel_rfl)) ?_
    have hbw6 : Below w.heap.size w w6 := hbw5.trans (hb6.mono hbw5.size)
    have hN6 := Kd.N_below (Kd.N_lower (base' := w.heap.size + 2) hN5 hs4) hb6
    have hg6 := blk_below hg5 hb6
    have hM6 : ColMem w6 (w.heap.size + 2) Wb (fun k_ => P0_1_ k_ ∧ k_ < w.heap.size) (.slice Av l0_1.length cv) a0_0 l0_1 0 := by
      refine ⟨hW6, _, hN6, fun k_ hk => ?_⟩
      rcases hk with ⟨⟨hk1, hk2⟩, _⟩ | hk
      · have := hbw5.size
        exact ⟨by omega, fun _ => ⟨hk1, hk2⟩, fun hh => by omega⟩
      · have h1 := Kd.N_lt hN5 k_ hk.symm
        obtain ⟨cs, hcs⟩ := Kd.N_typed hN6 k_ hk.symm
        have h2 := Kd.N_base hN6 k_ hk.symm
        exact ⟨by omega, fun hh => by omega, fun _ => ⟨cs, _, _, hcs, by decide, by decide⟩⟩
    have hown : ∀ k_, (Value.slice Av l0_1.length cv).ownBlock = some k_ → w.heap.size + 2 ≤ k_ ∧ k_ < w6.heap.size := fun k_ hk => by
      have h1 := Kd.N_lt hN5 k_ hk
      obtain ⟨cs, hcs⟩ := Kd.N_typed hN6 k_ hk
      have h2 := Kd.N_base hN6 k_ hk
      exact ⟨h2, Nat.lt_of_lt_of_le h1 hb6.size⟩
    have hWb1 : w.heap.size + 1 < Wb := by
      have h1 := blk_lt hg5
      omega
    have hWb2 : Wb < w6.heap.size := blk_lt hW6
    have hs6 : w.heap.size + 2 ≤ w6.heap.size := by omega
    clear hN5 hN6 hm4 hm5 hg4 hg5 hF4 hb5 hb6 hbw4 hbw5 hs4 hWb w5 w4
    obtain ⟨w7, hw7⟩ : ∃ w7, w6.alloc (.cells #[.slice none 0 0] 34) = w7 := ⟨_, rfl⟩
    have hb7 : Below w6.heap.size w6 w7 := by rw [← hw7]; exact below_alloc (Below.refl _ w6) _
    have hM7 := hM6.below hb7
    have hm7 := blk_below hm6 hb7
    have hg7 := blk_below hg6 hb7
    have hbw7 : Below w.heap.size w w7 := hbw6.trans (hb7.mono hbw6.size)
    have hp7 : Boxed w7 w6.heap.size 34 (.slice none 0 0) := by rw [← hw7]; exact Boxed.new w6 _ _
    go_wp2
    refine (wpIn_wide (n := 3)).1 ?_
    obtain ⟨i0, hi, hz0, hz1, hz2⟩ := info_parts infoInt
    have hmx : 512 ≤ maxLen := by decide
    refine Go.Proofs.YtfcedhejbnoinaaDoor.Turn.wpIn_rangeFunc_turn (F := Fence.wide) (n := 3) rfl (by omega) (gf := 83) (fb := #[.pointer (some ⟨Wb, 0, none⟩)]) rfl trivial (enters_of Tryd.func83 (by kernel_rfl) rfl) (encs := fun x : Int => #[.int .i64 x]) (Kp := KeepW (w.heap.size + 2)) (T := Turns Wb (.slice Av l0_1.length cv)) (N := 64)
      (Pre := fun W => ColMem W (w.heap.size + 2) Wb (fun k_ => P0_1_ k_ ∧ k_ < w.heap.size) (.slice Av l0_1.length cv) a0_0 l0_1 0) (Post := fun xs W => xs = r.2.2 ∧ ColMem W (w.heap.size + 2) Wb (fun k_ => P0_1_ k_ ∧ k_ < w.heap.size) (.slice Av l0_1.length cv) a0_0 r.1 r.2.1 ∧ r.1.length = l0_1.length) ?hseq Turns.others (fun h k => h.trans k) (fun W l o o' hl hk ho _ => KeepW.putObj W l o o' (by have := blk_lt hg7; omega) hk ho) (fun _ => rfl)
      (fun pre W => (∃ v, Boxed W w6.heap.size 34 v ∧ W.ownsRow w6.heap.size 3 1 v pre.length (pre.map (Value.int .i64)) ∧ (v = .slice none 0 0 ↔ pre = [])) ∧ W.heap[w.heap.size]? = some (.cells #[.int .i64 a0_0, .slice A0_1 l0_1.length c0_1] 55 (0, 0)) ∧ W.heap[w.heap.size + 1]? = some (.cells #[.int .i64 0, .slice none 0 0] 55 (0, 0)) ∧ Below w.heap.size w W)
      ?hI ?hIT ⟨⟨_, hp7, World.ownsRow_nil _ _ _ _, by simp⟩, hm7, hg7, hbw7⟩ (fun o o' => hM7.below (below_alloc (below_alloc (Below.refl _ _) _) _)) ?hPost
      (fun x => { tmps := #[.agg #[.int .i64 a0_0, .slice A0_1 l0_1.length c0_1], .pointer (some ⟨w.heap.size, 0, none⟩), .pointer (some ⟨w.heap.size + 1, 0, none⟩), .slice none 0 0, .int .i64 0, .pointer (some ⟨Wb, 0, none⟩), .pointer (some ⟨w6.heap.size, 0, none⟩), .int .i64 x, .agg #[.int .i64 a0_0, .slice A0_1 l0_1.length c0_1], .bool true, .bool false, undef, .pointer (some ⟨w.heap.size, 0, none⟩), .int .i64 a0_0, .pointer (some ⟨w.heap.size, 1, none⟩), .slice A0_1 l0_1.length c0_1, .slice Av l0_1.length cv, .agg #[.int .i64 a0_0, .slice Av l0_1.length cv, .int .i64 0], .pointer (some ⟨Wb, 0, none⟩), .pointer (some ⟨Wb, 0, none⟩), .func (.func 83) #[.pointer (some ⟨Wb, 0, none⟩)] #[], .int .i64 x, undef, undef, undef, undef, undef, undef, undef, undef, undef, undef, undef, undef, undef, undef, undef, undef, undef], defers := [] }) ?assign ?body ?done
    case hseq =>
      intro l J W hJT hY hPre hJ
      have hbd := hbd'.out
      refine (callsIn_wide.2 (columns_calls k (3 - 1 - 1) l (w.heap.size + 2) Wb (fun k_ => P0_1_ k_ ∧ k_ < w.heap.size) (.slice Av l0_1.length cv) a0_0 l0_1 r W J hbd.1 hbd.2.1 hbd.2.2 hJT hY hPre hJ (by omega) hr'.out)).mono ?_
      rintro e W' ⟨he, hj, hm, hl⟩
      exact ⟨he, _, ⟨rfl, hm, hl⟩, hj⟩
    case hI =>
      refine OwnFrom.and (Own.from (holdsRow_own w6.heap.size w6.heap.size 34 3 1 (fun pre : List Int => pre.length) (fun pre => pre.map (Value.int .i64)) (fun pre v => v = .slice none 0 0 ↔ pre = [])) _) ?_
      rintro s A B row ⟨h1, h2, h3⟩ hg hr
      have hz : ∀ q, q < w7.heap.size → row ≠ some q := fun q hq e => by have := (hr q e).1; omega
      have hq1 := blk_lt hm7
      have hq2 := blk_lt hg7
      exact ⟨(hg.block _ (blk_lt h1) (fun e => hz _ hq1 e.symm)).trans h1, (hg.block _ (blk_lt h2) (fun e => hz _ hq2 e.symm)).trans h2, h3.grown hg (Nat.le_trans (Nat.le_refl _) h3.size) (fun q e => by have := (hr q e).1; have := hbw7.size; omega)⟩
    case hIT =>
      rintro s A B ⟨⟨v, h1, h2, h3⟩, h4, h5, h6⟩ ⟨row, hg, hr⟩
      have hrow : ∀ q, row = some q → w.heap.size + 2 ≤ q ∧ q < w6.heap.size := fun q e => by
        rcases (hr q e).1 with e1 | e1
        · omega
        · exact hown q e1.symm
      refine ⟨⟨v, h1.kept hg (fun e => by have := hrow _ e.symm; omega), h2.kept hg ?_, h3⟩, (hg.block _ (blk_lt h4) (fun e => by have := hrow _ e.symm; omega)).trans h4, (hg.block _ (blk_lt h5) (fun e => by have := hrow _ e.symm; omega)).trans h5, h6.grown hg h6.size (fun q e => by have := hrow q e; omega)⟩
      rcases h2.2 with ⟨rfl, _⟩ | ⟨g, cap, cur, rfl, hgb, _⟩
      · exact .inl rfl
      · refine .inr fun e => ?_
        have := hrow g e.symm
        omega
    case hPost =>
      rintro xs W l o o' ⟨h1, h2, h3⟩ hl hk ho
      exact ⟨h1, h2.putObj l o o' (by have := blk_lt hg7; omega) hk ho, h3⟩
    case assign =>
      intro l x W K hK
      gi_wp2
      exact hK
    case body =>
      rintro l pre x W ⟨⟨v, hv, hrow, hnil⟩, hmW, hgW, hBW⟩ hlt
      have hc := hv.cell
      have hBp : w6.heap.size ≤ W.heap.size := Nat.le_of_lt hv.lt
      gi_wp2_with (gi_at_builtin; refine wpListIn_append_own _ rfl _ _ 34 rfl w6.heap.size 3 i0 (.int .i64 0) 1 8 Tryd.underlying34 hi hz0 hz1 hz2 rfl (by decide) _ _ _ rfl (hrow.alloc _) ⟨W.heap.size, 0, none⟩ 1 1 [.int .i64 x] rfl rfl (cell_one_new _ _ _) (by simp [Value.oneCell']) (Nat.le_trans (by omega) hmx) (by omega) (by rw [World.size_alloc]; omega) ?_; intro v' w1 hown' hgrow _; obtain ⟨g', cap', rfl⟩ := ownsRow_succ hown'; obtain ⟨hv1, hv2, hr2, hk2, hb2⟩ := hv.appended (by decide) hrow hBp (Nat.le_refl _) hown' hgrow; have hkw := keepW_append (H0 := w.heap.size + 2) hs6 hv hrow hgrow hb2; have hc1 := hv1.cell; have hf1 := hv1.frozen)
      refine ⟨hk2.from _, hkw, ⟨_, hv2, by simpa using hr2, by simp⟩, (hb2.block _ (blk_lt hm6)).trans hmW, (hb2.block _ (blk_lt hg6)).trans hgW, hBW.trans (hb2.mono hbw6.size)⟩
    case done =>
      rintro D xs W hD ⟨rfl, hMd, hld⟩ ⟨⟨v, hv, hrow, hnil⟩, hmW, hgW, hBW⟩ hK
      have hdn : r.2.1 ≤ r.1.length := ech_out_le k _ _ _ _ _ _ (Nat.zero_le _) hr'.out
      have hcvl : l0_1.length ≤ cv := by
        obtain ⟨A_, c_, he_, hl_, _⟩ := hMd.reads
        obtain ⟨_, _, rfl⟩ := Value.slice.inj he_
        omega
      have hcutR : ∀ W : World, (Instr.slice 53 (.slice Av l0_1.length cv) none (some (.int .i64 (r.2.1 : Int))) none).run Tryd.prog W = .ok (.slice Av r.2.1 cv) W := rows_take Av l0_1.length cv r.2.1 (by omega)
      go_wp2
      have hB8 : Below W.heap.size W W.drew := below_drew1 (Below.refl _ _)
      have hM8 := hMd.below hB8
      have hm8 := blk_below hmW hB8
      have hg8 := blk_below hgW hB8
      have hv8 : Boxed W.drew w6.heap.size 34 v := blk_below hv hB8
      have hrow8 : W.drew.ownsRow w6.heap.size 3 1 v (r.2.2).length (r.2.2.map (Value.int .i64)) := hrow.kept (grown_of_below hB8 none) (by cases hvo : v.ownBlock <;> simp)
      have hK8 : W.drew.heap[D]? = some (.deferred (some [])) := hK
      have hB8' := hBW.trans (hB8.mono hBW.size)
      clear hMd hmW hgW hv hrow hK hB8 hBW
      refine startG_ (n := 16) [(fun w' => w'.cell? ⟨w.heap.size, 0, none⟩ = some (.int .i64 a0_0), []), (fun w' => w'.cell? ⟨Wb, 1, none⟩ = some (.slice Av l0_1.length cv) ∧ w'.cell? ⟨Wb, 2, none⟩ = some (.int .i64 (r.2.1 : Int)), []), (fun w' => w'.cell? ⟨w6.heap.size, 0, none⟩ = some v, [])] #[F, F, F, F, F, F, F, F, F, F, F, F, F, F, F, F] (by kernel_rfl) rfl rfl ?_; refine with_tabG reduce_Echelon.tab8 reduce_Echelon.bits8 (fun HT_ HW_ => ?_)
      generalize W.drew = w8 at hM8 hm8 hg8 hv8 hrow8 hK8 hB8' ⊢
      refine pureG_ (i := 0) (N := some 26) (v := ?_) (a' := ?_) #[T, F, F, F, F, F, F, F, F, F, F, F, F, F, F, F] rfl rfl (any_of HT_.out (by kernel_rfl)) (fun _ _ _ h => h) (Or.inl ⟨by rfl, ?_⟩) ?_ ?_
      rotate_left
      · intro w'
        go_simp
        with_reducible rfl
      rotate_left
      · simp only [Act.put, q1, q2, q3, i64_w, i32_w]
        rfl
      refine pureG_ (i := 2) (N := some 28) (v := ?_) (a' := ?_) #[T, F, T, F, F, F, F, F, F, F, F, F, F, F, F, F] rfl rfl (any_of HT_.out (by kernel_rfl)) (fun _ _ _ h => h) (Or.inl ⟨by rfl, ?_⟩) ?_ ?_
      rotate_left
      · intro w'
        go_simp
        with_reducible rfl
      rotate_left
      · simp only [Act.put, q1, q2, q3, i64_w, i32_w]
        rfl
      refine pureG_ (i := 3) (N := some 29) (v := ?_) (a' := ?_) #[T, F, T, T, F, F, F, F, F, F, F, F, F, F, F, F] rfl rfl (any_of HT_.out (by kernel_rfl)) (fun _ _ _ h => h) (Or.inl ⟨by rfl, ?_⟩) ?_ ?_
      rotate_left
      · intro w'
        go_simp
        with_reducible rfl
      rotate_left
      · simp only [Act.put, q1, q2, q3, i64_w, i32_w]
        rfl
      refine pureG_ (i := 4) (N := some 30) (v := ?_) (a' := ?_) #[T, F, T, T, T, F, F, F, F, F, F, F, F, F, F, F] rfl rfl (any_of HT_.out (by kernel_rfl)) (fun _ _ _ h => h) (Or.inl ⟨by rfl, ?_⟩) ?_ ?_
      rotate_left
      · intro w'
        go_simp
        with_reducible rfl
      rotate_left
      · simp only [Act.put, q1, q2, q3, i64_w, i32_w]
        rfl
      refine pureG_ (i := 6) (N := some 32) (v := ?_) (a' := ?_) #[T, F, T, T, T, F, T, F, F, F, F, F, F, F, F, F] rfl rfl (any_of HT_.out (by kernel_rfl)) (fun _ _ _ h => h) (Or.inl ⟨by rfl, ?_⟩) ?_ ?_
      rotate_left
      · intro w'
        go_simp
        with_reducible rfl
      rotate_left
      · simp only [Act.put, q1, q2, q3, i64_w, i32_w]
        rfl
      refine pureG_ (i := 7) (N := some 33) (v := ?_) (a' := ?_) #[T, F, T, T, T, F, T, T, F, F, F, F, F, F, F, F] rfl rfl (any_of HT_.out (by kernel_rfl)) (fun _ _ _ h => h) (Or.inl ⟨by rfl, ?_⟩) ?_ ?_
      rotate_left
      · intro w'
        go_simp
        with_reducible rfl
      rotate_left
      · simp only [Act.put, q1, q2, q3, i64_w, i32_w]
        rfl
      refine pureG_ (i := 8) (N := some 34) (v := ?_) (a' := ?_) #[T, F, T, T, T, F, T, T, T, F, F, F, F, F, F, F] rfl rfl (any_of HT_.out (by kernel_rfl)) (fun _ _ _ h => h) (Or.inl ⟨by rfl, ?_⟩) ?_ ?_
      rotate_left
      · intro w'
        go_simp
        with_reducible rfl
      rotate_left
      · simp only [Act.put, q1, q2, q3, i64_w, i32_w]
        rfl
      refine takeG_ (i := 1) (N := some 27) (v := ?_) (a' := ?_) (fun w' => w'.cell? ⟨w.heap.size, 0, none⟩ = some (.int .i64 a0_0)) [] (.head _) #[T, T, T, T, T, F, T, T, T, F, F, F, F, F, F, F] rfl rfl (take_ofW HT_.out HW_.out (by kernel_rfl)) (fun _ _ _ h => h) (Or.inl ⟨by rfl, ?_⟩) ((blk_cell hm8 0).trans rfl) ?_ ?_
      rotate_left
      · intro w' s0
        go_simp
        with_reducible rfl
      rotate_left
      · simp only [Act.put, q1, q2, q3, i64_w, i32_w]
        rfl
      refine takeG_ (i := 5) (N := some 31) (v := ?_) (a' := ?_) (fun w' => w'.cell? ⟨Wb, 1, none⟩ = some (.slice Av l0_1.length cv) ∧ w'.cell? ⟨Wb, 2, none⟩ = some (.int .i64 (r.2.1 : Int))) [] (.tail _ (.head _)) #[T, T, T, T, T, T, T, T, T, F, F, F, F, F, F, F] rfl rfl (take_ofW HT_.out HW_.out (by kernel_rfl)) (fun _ _ _ h => h) (Or.inl ⟨by rfl, ?_⟩) ⟨(blk_cell hM8.box 1).trans rfl, (blk_cell hM8.box 2).trans rfl⟩ ?_ ?_
      rotate_left
      · rintro w' ⟨s0, s1⟩
        go_simp
        with_reducible rfl
      rotate_left
      · simp only [Act.put, q1, q2, q3, i64_w, i32_w]
        rfl
      refine takeG_ (i := 9) (N := some 35) (v := ?_) (a' := ?_) (fun w' => w'.cell? ⟨Wb, 1, none⟩ = some (.slice Av l0_1.length cv) ∧ w'.cell? ⟨Wb, 2, none⟩ = some (.int .i64 (r.2.1 : Int))) [] (.tail _ (.head _)) #[T, T, T, T, T, T, T, T, T, T, F, F, F, F, F, F] rfl rfl (take_ofW HT_.out HW_.out (by kernel_rfl)) (fun _ _ _ h => h) (Or.inl ⟨by rfl, ?_⟩) ⟨(blk_cell hM8.box 1).trans rfl, (blk_cell hM8.box 2).trans rfl⟩ ?_ ?_
      rotate_left
      · rintro w' ⟨s0, s1⟩
        go_simp
        with_reducible rfl
      rotate_left
      · simp only [Act.put, q1, q2, q3, i64_w, i32_w]
        rfl
      refine pureG_ (i := 10) (N := some 36) (v := ?_) (a' := ?_) #[T, T, T, T, T, T, T, T, T, T, T, F, F, F, F, F] rfl rfl (any_of HT_.out (by kernel_rfl)) (fun _ _ _ h => h) (Or.inl ⟨by rfl, ?_⟩) ?_ ?_
      rotate_left
      · intro w'
        go_simp
        with_reducible rfl
      rotate_left
      · simp only [Act.put, q1, q2, q3, i64_w, i32_w]
        rfl
      refine pureG_ (i := 11) (N := some 37) (v := ?_) (a' := ?_) #[T, T, T, T, T, T, T, T, T, T, T, T, F, F, F, F] rfl rfl (any_of HT_.out (by kernel_rfl)) (fun _ _ _ h => h) (Or.inl ⟨by rfl, ?_⟩) ?_ ?_
      rotate_left
      · intro w'
        go_simp
        with_reducible rfl
      rotate_left
      · simp only [Act.put, q1, q2, q3, i64_w, i32_w]
        rfl
      refine takeG_ (i := 12) (N := some 38) (v := ?_) (a' := ?_) (fun w' => w'.cell? ⟨w6.heap.size, 0, none⟩ = some v) [] (.tail _ (.tail _ (.head _))) #[T, T, T, T, T, T, T, T, T, T, T, T, T, F, F, F] rfl rfl (take_ofW HT_.out HW_.out (by kernel_rfl)) (fun _ _ _ h => h) (Or.inl ⟨by rfl, ?_⟩) ((blk_cell (show w8.heap[w6.heap.size]? = _ from hv8) 0).trans rfl) ?_ ?_
      rotate_left
      · intro w' s0
        go_simp
        with_reducible rfl
      rotate_left
      · simp only [Act.put, q1, q2, q3, i64_w, i32_w]
        rfl
      refine oneG_ (i := 13) (N := none) #[T, T, T, T, T, T, T, T, T, T, T, T, T, T, F, F] rfl rfl (one_of HT_.out (by kernel_rfl)) (fun K hK => ?_)
      obtain ⟨hrun9, hg9, hgr9⟩ := boxM_store hg8 a0_0 (.slice Av r.2.1 cv) rfl rfl
      refine storeG_step 55 (.tmp 2) (.tmp 37) (.pointer (some ⟨w.heap.size + 1, 0, none⟩)) (.agg #[.int .i64 a0_0, .slice Av r.2.1 cv]) (by rfl) rfl rfl rfl rfl hrun9 ?_
      have hm9 := (hgr9.block w.heap.size (blk_lt hm8) (by simp)).trans hm8
      have hv9 := (hgr9.block w6.heap.size (blk_lt hv8) (by simp; omega)).trans (show w8.heap[w6.heap.size]? = _ from hv8)
      have hW9 := (hgr9.block Wb (blk_lt hM8.box) (by simp; omega)).trans hM8.box
      generalize w8.setCells (w.heap.size + 1) 0 [.int .i64 a0_0, .slice Av r.2.1 cv] = w9 at hrun9 hg9 hgr9 hm9 hv9 hW9 ⊢
      refine hK.out _ _ (Goes.cons ((blk_cell hm9 0).trans rfl) (Goes.cons ⟨(blk_cell hW9 1).trans rfl, (blk_cell hW9 2).trans rfl⟩ (Goes.cons ((blk_cell hv9 0).trans rfl) Goes.nil))) ?_
      clear hK K
      refine pureG_ (i := 14) (N := some 3) (v := ?_) (a' := ?_) #[T, T, T, T, T, T, T, T, T, T, T, T, T, T, T, F] rfl rfl (any_of HT_.out (by kernel_rfl)) (fun _ _ _ h => h) (Or.inl ⟨by rfl, ?_⟩) ?_ ?_
      rotate_left
      · intro w'
        go_simp
        with_reducible rfl
      rotate_left
      · simp only [Act.put, q1, q2, q3, i64_w, i32_w]
        rfl
      refine pureG_ (i := 15) (N := some 4) (v := ?_) (a' := ?_) #[T, T, T, T, T, T, T, T, T, T, T, T, T, T, T, T] rfl rfl (any_of HT_.out (by kernel_rfl)) (fun _ _ _ h => h) (Or.inl ⟨by rfl, ?_⟩) ?_ ?_
      rotate_left
      · intro w'
        go_simp
        with_reducible rfl
      rotate_left
      · simp only [Act.put, q1, q2, q3, i64_w, i32_w]
        rfl
      refine doneG_ (done_of HT_.out (by kernel_rfl)) ?_
      go_wp2
      have hD1 : w.heap.size + 1 < D := by have := blk_lt hg7; omega
      have hK9 : w9.heap[D]? = some (.deferred (some [])) := (hgr9.block D (Array.getElem?_eq_some_iff.1 hK8).1 (by simp; omega)).trans hK8
      have hg10 : (w9.putObj D (.deferred none)).heap[w.heap.size + 1]? = _ := (World.putObj_heap_other (by omega)).trans hg9
      have e1 := (blk_cell hg10 0).trans rfl
      have e2 := (blk_cell hg10 1).trans rfl
      refine ⟨by simp, .inl ⟨_, _, rfl, run_takeDeferred hK9, ?_⟩⟩
      obtain ⟨rfl, rfl, rfl, rfl⟩ : a0_0 = r1 ∧ List.take r.2.1 r.1 = r2 ∧ r.2.2 = r3 ∧ 0 = r4 := by simpa using hh'.out
      refine ⟨.tuple #[.agg #[.int .i64 a0_0, .slice Av r.2.1 cv], v, .int .i64 0], ?_, .slice Av r.2.1 cv, v, rfl, ?_, ?_, ?_⟩
      · simp [results, Tryd.f47, go_sem, e1, e2]
      · obtain ⟨hbx, ok, hN, hok⟩ := hM8
        have hN3 := Kd.N_lower (base' := w.heap.size) (Kd.N_take hN hdn) (by omega)
        have hkD : ∀ k_, ok k_ → k_ ≠ w.heap.size + 1 ∧ k_ ≠ D := fun k_ hk => by
          obtain ⟨_, h2, h3⟩ := hok k_ hk
          rcases Nat.lt_or_ge k_ (w.heap.size + 2) with hh | hh
          · have := (h2 hh).2
            exact ⟨by omega, by omega⟩
          · obtain ⟨cs, t, fz, hc, _⟩ := h3 hh
            exact ⟨by omega, fun e => by rw [e, hK8] at hc; cases hc⟩
        refine Kd.N_mono (Kd.N_step hN3 fun k_ hk hl => ?_) fun k_ hk => ?_
        · obtain ⟨h1, h2⟩ := hkD k_ hk
          exact (World.putObj_heap_other (by omega)).trans (hgr9.block k_ hl (by simpa using h1))
        · obtain ⟨_, h2, h3⟩ := hok k_ hk
          rcases Nat.lt_or_ge k_ (w.heap.size + 2) with hh | hh
          · refine ⟨.inl (h2 hh).1, ?_⟩
            rcases hrow8.2 with ⟨rfl, _⟩ | ⟨g, cap, cur, rfl, hgb, _⟩
            · simp [Value.ownBlock]
            · intro e
              have e := Option.some.inj e
              have e : k_ = g := e
              omega
          · obtain ⟨cs, t, fz, hc, ht1, ht2⟩ := h3 hh
            refine ⟨.inr (by omega), ?_⟩
            rcases hrow8.2 with ⟨rfl, _⟩ | ⟨g, cap, cur, rfl, _, hgb, _⟩
            · simp [Value.ownBlock]
            · intro e
              have e : k_ = g := Option.some.inj e
              exact ne_typ hc hgb ht1 e
      · have hrow9 := hrow8.kept hgr9 (by
          rcases hrow8.2 with ⟨rfl, _⟩ | ⟨g, cap, cur, rfl, hgb, _⟩
          · exact .inl rfl
          · refine .inr fun e => ?_
            have e : g = w.heap.size + 1 := Option.some.inj e
            omega)
        exact Kd.R_lower (Kd.R_of_own (enc := Value.int .i64) (ownsRow_putObj hrow9 _ hK9 rfl) (fun _ _ => trivial)) (by omega)
      · refine (hB8'.grown hgr9 hB8'.size (fun q e => by cases e; omega)).grown (grownBy_putObj' w9 D _) ?_ (fun q e => by cases e; omega)
        exact (hB8'.grown hgr9 hB8'.size (fun q e => by cases e; omega)).size
end

end Go.Proofs.YtfcedhejbnoinaaDoor.PK
