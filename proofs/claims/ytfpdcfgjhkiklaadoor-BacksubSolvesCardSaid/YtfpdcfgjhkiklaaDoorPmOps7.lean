/- Each operation of the evaluator is the machine's: lengths, appends. -/
import Derived.Test.YtfpdcfgjhkiklaaDoorPmOps6
set_option linter.unusedSimpArgs false
set_option linter.unusedVariables false
set_option autoImplicit false
namespace Go.PM
section
variable {E : Env} {ρ : Nat → Option Tk} {I : Nat → Prop} {T : Nat → Option V} {H : Heap} {a : Act} {w : World} {o : Oper} {e : Eff} {tok : Nat}

theorem clen_slice {c : V} {x : Value} {n : Nat} (hx : RV I ρ w c x) (hn : clen c = some n) : ∃ a0 cap, x = .slice a0 n cap := by
  unfold clen at hn
  split at hn <;> first | (cases hn; done) | skip
  all_goals (simp only [Option.some.injEq] at hn; subst hn; simp only [RV] at hx)
  · obtain ⟨a0, cap, rfl, _⟩ := hx; exact ⟨_, _, rfl⟩
  · obtain ⟨a0, cap, rfl, _⟩ := hx; exact ⟨_, _, rfl⟩
  · obtain ⟨a0, cap, ys, rfl, _⟩ := hx; exact ⟨_, _, rfl⟩
  · obtain ⟨a0, cap, ys, rfl, _⟩ := hx; exact ⟨_, _, rfl⟩
  · exact ⟨_, _, hx⟩
  · obtain ⟨⟨a0, cap, ys, rfl, _⟩, _⟩ := hx; exact ⟨_, _, rfl⟩
  · obtain ⟨⟨a0, cap, rfl, _⟩, _⟩ := hx; exact ⟨_, _, rfl⟩
  · obtain ⟨⟨a0, cap, rfl, _⟩, _⟩ := hx; exact ⟨_, _, rfl⟩
  · obtain ⟨⟨a0, cap, ys, rfl, _⟩, _⟩ := hx; exact ⟨_, _, rfl⟩

theorem call_builtin_run {b : Builtin} {args : Array Operand} {argTypes : Array TypeId} (hop : o.op = .call { callee := .builtin b, args := args, argTypes := argTypes }) :
    execOp a.eval o = (do let d ← resolve a.eval { callee := .builtin b, args := args, argTypes := argTypes } o.type; invoke d.target d.args) := by
  simp [execOp, hop]

theorem d_len {args : Array Operand} {argTypes : Array TypeId} (hop : o.op = .call { callee := .builtin .len, args := args, argTypes := argTypes }) (S : Sim E ρ I T H a w) (hd : dOk o.dst E.N = true) (h : eff E.P o T H tok some = some e) : Done E o T H a w e := by
  unfold eff at h
  rw [hop] at h
  simp only at h
  split at h
  case h_2 => cases h
  rename_i x t ts hargs htys
  have ha : args = #[x] := by apply Array.ext'; simpa using hargs
  have ht0 : argTypes[0]? = some t := by rw [← Array.getElem?_toList, htys]; rfl
  have hrun : ∀ v, (Builtin.len_ argTypes o.type #[a.eval x]).run E.P w = .ok v w → (execOp a.eval o).run E.P w = .ok (.value v) w := fun v hv => by
    subst ha
    simp [execOp, hop, resolve, invoke, builtin, hv]
  split at h
  · rename_i et hu
    have hl : ∀ a0 n cap, a.eval x = .slice a0 n cap → (execOp a.eval o).run E.P w = .ok (.value (.int .i64 n)) w := fun a0 n cap hx => by
      refine hrun _ ?_
      rw [hx]
      simp [Builtin.len_, ht0, run_underlying hu, goInt]
    split at h
    · rename_i t0 z off n hv
      have hx := ev_sound S hv
      cases h
      simp only [RV] at hx
      obtain ⟨k, cap, ty, m, p, hx, _⟩ := hx
      exact Done.value S hd rfl rfl (x := .int .i64 n) (by simp [RV]) (hl _ _ _ hx)
    · rename_i c _ hv
      have hx := ev_sound S hv
      obtain ⟨n, hn, h⟩ := bind_eq.1 h
      cases h
      obtain ⟨a0, cap, hx⟩ := clen_slice hx hn
      exact Done.value S hd rfl rfl (x := .int .i64 n) (by simp [RV]) (hl _ _ _ hx)
    · cases h
  · obtain ⟨v, hv, h⟩ := bind_eq.1 h
    cases h
    exact done_scalar S hd hv rfl rfl

theorem RVss_append {n : Nat} : ∀ {xs us : List (List V)} {ys zs : List Value}, RVss I ρ w n xs ys → RVss I ρ w n us zs → RVss I ρ w n (xs ++ us) (ys ++ zs)
  | [], us, ys, zs, h, g => by simp only [RVss] at h; subst h; simpa using g
  | r :: rs, us, ys, zs, h, g => by
    simp only [RVss] at h
    obtain ⟨y, z, rfl, h1, h2, h3, h4⟩ := h
    simp only [List.cons_append, RVss]
    exact ⟨y, _, by rw [List.append_assoc], h1, h2, h3, RVss_append h4 g⟩

theorem Rows_append {α : Type} {R : α → List Value → Prop} : ∀ {xs us : List α} {ys zs : List Value}, Rows R xs ys → Rows R us zs → Rows R (xs ++ us) (ys ++ zs)
  | [], us, ys, zs, h, g => by simp only [Rows] at h; subst h; simpa using g
  | r :: rs, us, ys, zs, h, g => by
    simp only [Rows] at h
    obtain ⟨y, z, rfl, h1, h2⟩ := h
    simp only [List.cons_append, Rows]
    exact ⟨y, _, by rw [List.append_assoc], h1, Rows_append h2 g⟩

theorem src_frozen {P : Program} {size : Nat} {tx e' : TypeId} (hk : P.underlying tx = some (.slice e')) {ao : Option Addr} {n c : Nat} {news : List Value} (hl : news.length = n * size) (hs : 0 < size) (h : Frozen I w ao news) (h1 : ∀ u ∈ news, u.oneCell' = true) :
    Src P size tx (.slice ao n c) n news w := by
  rcases h with h | ⟨b, o, rfl, _, hc⟩
  · subst h
    have hn : n = 0 := by
      rcases Nat.eq_zero_or_pos n with h0 | h0
      · exact h0
      · have := Nat.mul_pos h0 hs; simp at hl; omega
    subst hn
    cases ao with
    | none => exact Src.ofNil w hk c
    | some ad => exact Src.ofSlice w hk ad 0 c [] (by simp) (fun j u hu => by simp at hu) h1
  · exact Src.ofSlice w hk ⟨b, o, none⟩ n c news hl (fun j u hu => by rw [add_none]; exact hc j u hu) h1

/-- Contents with contents behind. -/
theorem capp_sound {P : Program} {et : TypeId} {c u c' : V} {ys : List Value} {x : Value} {n : Nat} {tx : TypeId} {d : TypeDesc} (hF : Flat I ρ w c ys) (hfit : Fits P ⟨et, c, true⟩ (szOf P et)) (hs : 0 < szOf P et) (h : capp c u = some c') (hx : RV I ρ w u x)
    (hn : alen u = some n) (hd : P.underlying tx = some d) (hkind : ∀ b, u = .s (.string b) → d = .string) (hkind' : (∀ b, u ≠ .s (.string b)) → ∃ e', d = .slice e') :
    ∃ news, Src P (szOf P et) tx x n news w ∧ Flat I ρ w c' (ys ++ news) ∧ lenC c' = lenC c + n ∧ Fits P ⟨et, c', true⟩ (szOf P et) := by
  unfold capp at h
  split at h
  · rename_i k xs k' zs
    obtain ⟨hk, h⟩ := cond_eq.1 h
    cases h
    simp only [alen, Option.some.injEq] at hn
    subst hn
    obtain ⟨e', rfl⟩ := hkind' (fun b hb => by cases hb)
    simp only [RV] at hx
    obtain ⟨ao, cap, rfl, h1, h2⟩ := hx
    have hk := of_decide_eq_true hk
    subst hk
    simp only [Fits] at hfit ⊢
    refine ⟨zs.map (.int k'), src_frozen hd (by rw [hfit.2.1]; simp) hs h2 (fun v hv => ?_), ?_, by simp [lenC], hfit⟩
    · obtain ⟨q, _, rfl⟩ := List.mem_map.1 hv; rfl
    · simp only [Flat] at hF ⊢; subst hF; simp
  · rename_i xs zs
    cases h
    simp only [alen, Option.some.injEq] at hn
    subst hn
    obtain ⟨e', rfl⟩ := hkind' (fun b hb => by cases hb)
    simp only [RV] at hx
    obtain ⟨ao, cap, rfl, h1, h2⟩ := hx
    simp only [Fits] at hfit ⊢
    refine ⟨zs.map .string, src_frozen hd (by rw [hfit.2.1]; simp) hs h2 (fun v hv => ?_), ?_, by simp [lenC], hfit⟩
    · obtain ⟨q, _, rfl⟩ := List.mem_map.1 hv; rfl
    · simp only [Flat] at hF ⊢; subst hF; simp
  · rename_i n0 xs m0 zs
    obtain ⟨hk, h⟩ := cond_eq.1 h
    cases h
    simp only [alen, Option.some.injEq] at hn
    subst hn
    obtain ⟨e', rfl⟩ := hkind' (fun b hb => by cases hb)
    simp only [RV] at hx
    obtain ⟨ao, cap, qs, rfl, h1, h3, h2⟩ := hx
    have hk := Nat.eq_of_beq_eq_true hk
    subst hk
    simp only [Fits] at hfit ⊢
    refine ⟨qs, src_frozen hd (by rw [RVss_len h3, hfit.2]) hs h2 (RVss_one h3), ?_, by simp [lenC], hfit⟩
    simp only [Flat] at hF ⊢
    exact RVss_append hF h3
  · rename_i s0 xs s1 zs
    by_cases hs0 : s1 = s0
    case neg => rw [dif_neg hs0] at h; cases h
    subst hs0
    rw [dif_pos rfl] at h
    cases h
    simp only [alen, Option.some.injEq] at hn
    subst hn
    obtain ⟨e', rfl⟩ := hkind' (fun b hb => by cases hb)
    simp only [RV] at hx
    obtain ⟨ao, cap, qs, rfl, h1, h3, h2⟩ := hx
    simp only [Fits] at hfit ⊢
    have h3' := Rows_iff (ρ := nil).1 h3
    refine ⟨qs, src_frozen hd (by rw [RVss_len h3', List.length_map, hfit.2]) hs h2 (RVss_one h3'), ?_, by simp [lenC], hfit⟩
    simp only [Flat] at hF ⊢
    exact Rows_append hF h3
  · rename_i xs b
    cases h
    simp only [alen, Option.some.injEq] at hn
    subst hn
    have := hkind b rfl
    subst this
    simp only [RV] at hx
    subst hx
    simp only [Fits] at hfit ⊢
    have hsz : szOf P et = 1 := hfit.2.1
    refine ⟨byteCells b, by rw [hsz]; exact Src.ofString w hd b, ?_, ?_, hfit⟩
    · simp only [Flat] at hF ⊢; subst hF
      unfold bytesL byteCells
      simp [Function.comp_def]
    · simp only [lenC, List.length_append]
      unfold bytesL
      rw [List.length_map, Array.length_toList]; rfl
  · cases h
    simp only [alen, Option.some.injEq] at hn
    subst hn
    obtain ⟨e', rfl⟩ := hkind' (fun b hb => by cases hb)
    simp only [RV] at hx
    subst hx
    exact ⟨[], Src.ofNil w hd 0, by simpa using hF, by simp, hfit⟩
  · cases h

theorem Flat_len {P : Program} {b : Blk} {z : Nat} {ys : List Value} (hF : Flat I ρ w b.c ys) (hfit : Fits P b z) (hc : ∀ cs, b.c ≠ .agg cs) : ys.length = lenC b.c * z := by
  unfold Fits at hfit
  cases h : b.c with
  | li k xs => rw [h] at hF hfit; simp only [Flat] at hF; subst hF; rw [hfit.2.2]; simp [lenC]
  | ls xs => rw [h] at hF hfit; simp only [Flat] at hF; subst hF; rw [hfit.2.2]; simp [lenC]
  | lg n xs => rw [h] at hF hfit; simp only [Flat] at hF; rw [RVss_len hF, hfit.2]; simp [lenC]
  | lt s xs => rw [h] at hF hfit; simp only [Flat] at hF; rw [RVss_len (Rows_iff (ρ := nil).1 hF), hfit.2]; simp [lenC]
  | agg cs => exact absurd h (hc cs)
  | _ => rw [h] at hF; exact hF.elim

/-- A token dies. -/
theorem Sim.kill (S : Sim E ρ I T H a w) (t0 : Nat) : Sim E ρ I T (hup [(t0, none)] H) a w := by
  have hat : ∀ t b, at_ (hup [(t0, none)] H) t = some b → t0 ≠ t ∧ at_ H t = some b := fun t b h => by
    rw [at_hup_one] at h
    by_cases e0 : t0 = t
    · rw [if_pos e0] at h; cases h
    · rw [if_neg e0] at h; exact ⟨e0, h⟩
  refine ⟨S.size, S.keep, S.st0, S.immO, fun t b h => S.live t b (hat t b h).2, fun t t' b b' k k' h h' => S.dist t t' b b' k k' (hat t b h).2 (hat t' b' h').2, fun t k h => ?_, S.tmp, S.num, S.dfs⟩
  unfold hup
  simp only [lk]
  cases Nat.beq t0 t
  · exact S.dom t k h
  · rfl

/-- A block that no token has becomes one's. -/
theorem sim_adopt (S : Sim E ρ I T H a w) (hf : PM.fresh H tok = true) {b : Blk} {k : Tk} {w' : World} (hw : b.wr = true) (hI : ¬ I k.r) (hown : k.r < E.w0.heap.size → E.own0 k.r)
    (hfree : ∀ t b k', at_ H t = some b → ρ t = some k' → k'.r ≠ k.r) (onl : Only k.r w w') (hb : BlkRel E.P I (rhoUp ρ tok k) w' k b) : Sim E (rhoUp ρ tok k) I T (hup [(tok, some b)] H) a w' := by
  have hρ := S.rhoUp hf k
  have st : Stays I I ρ (rhoUp ρ tok k) w w' := ⟨(onl.stays (ρ := ρ) hI).imm, hρ, (onl.stays (ρ := ρ) hI).shape, onl.io⟩
  refine ⟨by rw [onl.size]; exact S.size, fun b1 hb1 hn => (onl.other b1 (by rintro rfl; exact hn (hown hb1))).trans (S.keep b1 hb1 hn), S.st0.trans st, fun b1 h1 => ⟨by rw [onl.size]; exact (S.immO b1 h1).1, (S.immO b1 h1).2⟩, ?_, ?_, ?_,
    fun i v hv => RV.stays st v _ (S.tmp i v hv), S.num, S.dfs.stays st⟩
  · intro t b1 h1
    rw [at_hup_one] at h1
    by_cases h : tok = t
    · subst h
      rw [if_pos rfl] at h1
      cases h1
      exact ⟨k, by simp [rhoUp], hown, hb, fun _ => hI, fun hf => by rw [hw] at hf; cases hf⟩
    · rw [if_neg h] at h1
      obtain ⟨k', g1, g2, g3, g4⟩ := S.live t b1 h1
      exact ⟨k', hρ _ _ g1, g2, g3.stays st (onl.other _ (hfree t b1 k' h1 g1)), g4⟩
  · intro t t' b1 b2 k1 k2 h1 h2 e1 e2 hkk hwr
    rw [at_hup_one] at h1 h2
    have hup' : ∀ t, tok ≠ t → ∀ b k', at_ H t = some b → rhoUp ρ tok k t = some k' → ρ t = some k' := fun t ht b k' _ g => by
      unfold rhoUp at g
      rwa [if_neg (fun e0 => ht e0.symm)] at g
    have hself : ∀ k', rhoUp ρ tok k tok = some k' → k' = k := fun k' g => by simp [rhoUp] at g; exact g.symm
    by_cases ht : tok = t
    · by_cases ht' : tok = t'
      · exact ht.symm.trans ht'
      · exfalso
        rw [if_neg ht'] at h2
        rw [← ht] at e1
        have := hfree t' b2 k2 h2 (hup' t' ht' b2 k2 h2 e2)
        rw [hself _ e1] at hkk
        exact this hkk.symm
    · rw [if_neg ht] at h1
      by_cases ht' : tok = t'
      · exfalso
        rw [← ht'] at e2
        have := hfree t b1 k1 h1 (hup' t ht b1 k1 h1 e1)
        rw [hself _ e2] at hkk
        exact this hkk
      · rw [if_neg ht'] at h2
        exact S.dist t t' b1 b2 k1 k2 h1 h2 (hup' t ht b1 k1 h1 e1) (hup' t' ht' b2 k2 h2 e2) hkk hwr
  · intro t k' h
    unfold hup
    simp only [lk]
    by_cases ht : tok = t
    · subst ht; simp
    · have : Nat.beq tok t = false := beq_ne ht
      simp only [this, cond_false]
      refine S.dom t k' ?_
      unfold rhoUp at h
      rwa [if_neg (fun e => ht e.symm)] at h

theorem okN_eq {n b : Nat} (h : okN n b = true) : n * b ≤ 70368744177664 ∧ n ≤ 70368744177664 := by
  unfold okN at h
  rw [Bool.and_eq_true] at h
  exact ⟨Nat.le_of_ble_eq_true h.1, Nat.le_of_ble_eq_true h.2⟩

theorem stf (H : Heap) (ts : List Nat) : Stays I (frzI I ρ H ts) ρ ρ w w := ⟨fun b hb => ⟨.inl hb, rfl⟩, fun _ _ h => h, fun _ _ _ _ h => h, .rfl⟩

theorem fresh_frz {ts : List Nat} (hf : fresh H tok = true) : fresh (hup (frz H ts) H) tok = true := by
  unfold fresh hup
  unfold fresh at hf
  rw [lk_frz]
  unfold at_
  rw [Option.isNone_iff_eq_none] at hf ⊢
  rw [hf]
  rfl

theorem zeroCells_size (z : Array Value) (n : Nat) : (Builtin.zeroCells z n).size = n * z.size := by simp [Builtin.zeroCells]

/-- A new row, of old cells and new ones. -/
theorem grow_done (S : Sim E ρ I T H a w) (hd : dOk o.dst E.N = true) (hf : fresh H tok = true) {et : TypeId} {z : Nat} {olds news : List Value} {rest : Array Value} {m n cap : Nat} {c : V}
    (hz : z = szOf E.P et) (hF : Flat I ρ w c (olds ++ news)) (hfit : Fits E.P ⟨et, c, true⟩ z) (hl : lenC c = m + n) (hcap : m + n ≤ cap) (hsz : cap * z ≤ (olds ++ news).length + rest.size)
    (hr : (execOp a.eval o).run E.P w = .ok (.value (.slice (some ⟨w.heap.size, 0, none⟩) (m + n) cap)) (w.drew.alloc (.cells ((olds ++ news).toArray ++ rest) et)))
    (hv : e.v = .sl tok z 0 (m + n)) {H0 : Heap} (hhw : hup e.hw H0 = hup [(tok, some ⟨et, c, true⟩)] H) : 
    ∃ nx x w' ρ' I', (execOp a.eval o).run E.P w = .ok nx w' ∧ (nx = .value x ∨ (nx = .skip ∧ x = undef)) ∧ Sim E ρ' I' (upd T o.dst e.v) (hup e.hw H0) (a.put o.dst x) w' := by
  let k : Tk := ⟨w.heap.size, m + n, z⟩
  have S1 := S.heap (w' := w.drew) rfl
  have st := Stays.alloc S1 (.cells ((olds ++ news).toArray ++ rest) et) (S1.rhoUp hf k)
  have st0 : Stays I I ρ ρ w w.drew := .of_heap rfl
  have hblk : BlkRel E.P I (rhoUp ρ tok k) (w.drew.alloc (.cells ((olds ++ news).toArray ++ rest) et)) k ⟨et, c, true⟩ := by
    refine rel_new (w := w.drew) k rfl _ et rfl ((hF.stays st0).stays st) (fun j y hy => ?_) hl hfit
    rw [Array.getElem?_append_left (by simpa using (List.getElem?_eq_some_iff.1 hy).1)]
    simpa using hy
  refine ⟨_, _, _, rhoUp ρ tok k, I, hr, .inl rfl, ?_⟩
  rw [hhw, hv]
  refine (S1.new hf rfl rfl hblk).put ?_ hd
  simp only [RV]
  refine ⟨k, cap, et, ((olds ++ news).toArray ++ rest).size, 0, rfl, by simp, by simp [rhoUp], rfl, hcap, by simp [k], ?_, ?_⟩
  · unfold World.shape?
    rw [show k.r = w.drew.heap.size from rfl, heap_last]
  · simp only [Array.size_append, List.size_toArray, Nat.zero_add]
    exact hsz

theorem append_run {x y : Operand} {t tu : TypeId} (hop : o.op = .call { callee := .builtin .append, args := #[x, y], argTypes := #[t, tu] }) {v : Value} {w' : World} (hv : (Builtin.append_ #[t, tu] o.type #[a.eval x, a.eval y]).run E.P w = .ok v w') :
    (execOp a.eval o).run E.P w = .ok (.value v) w' := by
  simp [execOp, hop, resolve, invoke, builtin, hv]

theorem kindOk_str {d : TypeDesc} {u : V} (h : kindOk d u = true) : (∀ b, u = .s (.string b) → d = .string) ∧ ((∀ b, u ≠ .s (.string b)) → ∃ e', d = .slice e') := by
  unfold kindOk at h
  split at h
  · refine ⟨fun _ _ => rfl, fun hb => ?_⟩
    unfold isStr at h
    split at h
    · rename_i b; exact absurd rfl (hb b)
    · cases h
  · rename_i e'
    refine ⟨fun b hb => ?_, fun _ => ⟨e', rfl⟩⟩
    subst hb
    cases h
  · cases h

theorem frozen_flat {c : V} {x : Value} {z : Nat} (hx : RV I ρ w c x) (hz : zOk c z = true) : ∃ a0 cap ys, x = .slice a0 (lenC c) cap ∧ clen c = some (lenC c) ∧ Flat I ρ w c ys ∧ Frozen I w a0 ys ∧ ys.length = lenC c * z ∧ ∀ y ∈ ys, y.oneCell' = true := by
  cases c with
  | li k xs =>
    have hz := Nat.eq_of_beq_eq_true hz
    simp only [RV] at hx
    obtain ⟨a0, cap, rfl, _, h⟩ := hx
    refine ⟨a0, cap, _, rfl, rfl, rfl, h, by simp [lenC, hz], fun y hy => ?_⟩
    obtain ⟨q, _, rfl⟩ := List.mem_map.1 hy; rfl
  | ls xs =>
    have hz := Nat.eq_of_beq_eq_true hz
    simp only [RV] at hx
    obtain ⟨a0, cap, rfl, _, h⟩ := hx
    refine ⟨a0, cap, _, rfl, rfl, rfl, h, by simp [lenC, hz], fun y hy => ?_⟩
    obtain ⟨q, _, rfl⟩ := List.mem_map.1 hy; rfl
  | lg n xs =>
    have hz := Nat.eq_of_beq_eq_true hz
    simp only [RV] at hx
    obtain ⟨a0, cap, ys, rfl, _, h1, h⟩ := hx
    exact ⟨a0, cap, ys, rfl, rfl, h1, h, by rw [RVss_len h1, hz]; rfl, RVss_one h1⟩
  | lt s xs =>
    have hz := Nat.eq_of_beq_eq_true hz
    simp only [RV] at hx
    obtain ⟨a0, cap, ys, rfl, _, h1, h⟩ := hx
    have h1' := Rows_iff (ρ := nil).1 h1
    exact ⟨a0, cap, ys, rfl, rfl, h1, h, by rw [RVss_len h1', hz]; simp [lenC], RVss_one h1'⟩
  | _ => cases hz

theorem ttFits {P : Program} {et : TypeId} {c : V} (hz : zOk c (szOf P et) = true) (h : ttOk P et c = true) : Fits P ⟨et, c, true⟩ (szOf P et) := by
  unfold ttOk at h
  split at h
  · rename_i k xs
    have hz := Nat.eq_of_beq_eq_true hz
    split at h
    · rename_i k' hu
      have := of_decide_eq_true h
      subst this
      simp only [Fits]; exact ⟨hu, hz, hz⟩
    · cases h
  · have hz := Nat.eq_of_beq_eq_true hz
    split at h
    · rename_i hu; simp only [Fits]; exact ⟨hu, hz, hz⟩
    · cases h
  · have hz := Nat.eq_of_beq_eq_true hz
    simp only [Fits]; exact ⟨hz, hz.symm⟩
  · have hz := Nat.eq_of_beq_eq_true hz
    simp only [Fits]; exact ⟨hz, hz.symm⟩
  · cases h

theorem firstCells_frozen {P : Program} {size n c : Nat} {ao : Option Addr} {ys : List Value} (hl : ys.length = n * size) (hs : 0 < size) (h : Frozen I w ao ys) : (Builtin.firstCells size n (.slice ao n c)).run P w = .ok ys.toArray w := by
  rcases h with h | ⟨b, q, rfl, _, hc⟩
  · subst h
    have hn : n = 0 := by
      rcases Nat.eq_zero_or_pos n with h0 | h0
      · exact h0
      · have := Nat.mul_pos h0 hs; simp at hl; omega
    subst hn
    cases ao with
    | none => exact run_firstCells_none w size 0 0 c
    | some ad => exact run_firstCells_some w size 0 ad 0 c [] (by simp) (fun j u hu => by simp at hu)
  · exact run_firstCells_some w size n ⟨b, q, none⟩ n c ys hl (fun j u hu => by rw [add_none]; exact hc j u hu)

theorem fzT_eq (w u : V) : fzT w u = toks w ∨ (fzT w u = [] ∧ ((∃ k xs, u = .li k xs) ∨ ∃ xs, u = .ls xs)) := by
  unfold fzT
  split
  · exact .inr ⟨rfl, .inl ⟨_, _, rfl⟩⟩
  · exact .inr ⟨rfl, .inr ⟨_, rfl⟩⟩
  · exact .inl rfl
theorem fzT_sub {w u : V} {t : Nat} (h : t ∈ fzT w u) : t ∈ toks w := by
  rcases fzT_eq w u with e | ⟨e, _⟩
  · rw [e] at h; exact h
  · rw [e] at h; cases h
/-- Of numbers and strings it does not matter what is frozen. -/
theorem capp_li {c u c' : V} (h : capp c u = some c') (hu : (∃ k xs, u = .li k xs) ∨ ∃ xs, u = .ls xs) : (∀ (I I' : Nat → Prop) (ys : List Value), Flat I ρ w c ys → Flat I' ρ w c ys) ∧ ∀ (I I' : Nat → Prop) (ys : List Value), Flat I ρ w c' ys → Flat I' ρ w c' ys := by
  rcases hu with ⟨k, xs, rfl⟩ | ⟨xs, rfl⟩
  · cases c <;> simp only [capp] at h <;> first | (cases h; done) | skip
    obtain ⟨_, h⟩ := cond_eq.1 h
    cases h
    exact ⟨fun I I' ys h => by simpa only [Flat] using h, fun I I' ys h => by simpa only [Flat] using h⟩
  · cases c <;> simp only [capp] at h <;> first | (cases h; done) | skip
    cases h
    exact ⟨fun I I' ys h => by simpa only [Flat] using h, fun I I' ys h => by simpa only [Flat] using h⟩

theorem d_append {args : Array Operand} {argTypes : Array TypeId} (hop : o.op = .call { callee := .builtin .append, args := args, argTypes := argTypes }) (S : Sim E ρ I T H a w) (hd : dOk o.dst E.N = true) (h : eff E.P o T H tok some = some e) : Done E o T H a w e := by
  unfold eff at h
  rw [hop] at h
  simp only at h
  split at h
  case h_2 => cases h
  rename_i x y t tu hargs htys
  have ha : args = #[x, y] := by apply Array.ext'; simpa using hargs
  have ht : argTypes = #[t, tu] := by apply Array.ext'; simpa using htys
  subst ha; subst ht
  split at h
  case h_2 => cases h
  rename_i d hu
  rw [cond_eq] at h; obtain ⟨hf, h⟩ := h
  rw [bind_eq] at h; obtain ⟨et, het, h⟩ := h
  rw [bind_eq] at h; obtain ⟨s, hs, h⟩ := h
  rw [bind_eq] at h; obtain ⟨wv, hwv, h⟩ := h
  rw [bind_eq] at h; obtain ⟨u, hview, h⟩ := h
  rw [bind_eq] at h; obtain ⟨n, hn, h⟩ := h
  rw [cond_eq] at h; obtain ⟨hkd, h⟩ := h
  obtain ⟨hk1, hk2⟩ := kindOk_str hkd
  have hte := elemT_eq het
  have hx := ev_sound S hs
  have hy := ev_sound S hwv
  have S1 := S.freeze (fzT wv u)
  have st1 : Stays I (frzI I ρ H (fzT wv u)) ρ ρ w w := stf H (fzT wv u)
  have hcap : ∀ {c c' : V} {ys : List Value}, Flat (frzI I ρ H (fzT wv u)) ρ w c ys → Fits E.P ⟨et, c, true⟩ (szOf E.P et) → 0 < szOf E.P et → capp c u = some c' → ∃ news, Src E.P (szOf E.P et) tu (a.eval y) n news w ∧ Flat (frzI I ρ H (fzT wv u)) ρ w c' (ys ++ news) ∧ lenC c' = lenC c + n ∧ Fits E.P ⟨et, c', true⟩ (szOf E.P et) := fun hF hfit h0 hc => by
    have stf' := stf (I := I) (ρ := ρ) (w := w) H (toks wv)
    have hu1 := RV.stays (.up _ ρ w) _ _ (view_sound S stf' wv u _ hview (fun t ht b' k hb' hk => .inr ⟨t, ht, b', k, hb', hk, rfl⟩) hy)
    rcases fzT_eq wv u with he | ⟨_, hli⟩
    · rw [he] at hF ⊢
      exact capp_sound hF hfit h0 hc hu1 hn hu hk1 hk2
    · obtain ⟨hf2, hf3⟩ := capp_li hc hli
      obtain ⟨news, q1, q2, q3, q4⟩ := capp_sound (hf2 _ (frzI I ρ H (toks wv)) _ hF) hfit h0 hc hu1 hn hu hk1 hk2
      exact ⟨news, q1, hf3 _ _ _ q2, q3, q4⟩
  have hf1 := fresh_frz (ts := fzT wv u) hf
  split at h
  · -- nil
    rw [bind_eq] at h; obtain ⟨c0, hc0, h⟩ := h
    rw [bind_eq] at h; obtain ⟨c, hc, h⟩ := h
    rw [br_eq] at h
    obtain ⟨i, zv, g1, g2, g3, g4, g5, g6, g7, hzs, ys, g8, g9⟩ := made_cells hc0
    simp only [RV] at hx
    have hys : ys = [] := by
      have := Flat_len (b := ⟨et, c0, true⟩) (g8 I ρ w) (g6 true) (fun cs hcs => by
        simp only at hcs
        subst hcs
        simp [clen] at g7)
      rw [show lenC (Blk.mk et c0 true).c = 0 from g5] at this
      simpa using this
    obtain ⟨news, q1, q2, q3, q4⟩ := hcap (g8 _ ρ w) (g6 true) g4 hc
    subst hys
    simp only [List.nil_append] at q2
    rw [g5, Nat.zero_add] at q3
    cases hn0 : Nat.beq n 0 with
    | true =>
      rw [hn0] at h
      cases h
      have hn0 := Nat.eq_of_beq_eq_true hn0
      subst hn0
      refine Done.value S hd rfl rfl (x := .slice none 0 0) (by simp [RV]) (append_run hop ?_)
      rw [hx]
      rw [← g3] at q1
      have hnil : news = [] := by have := q1.newsLen; simpa using this
      rw [hnil] at q1
      exact run_append_nothing w t tu o.type et i hte g1 none 0 0 (Nat.le_refl _) _ q1
    | false =>
      rw [hn0] at h
      simp only [cond_false] at h
      rw [grd_eq] at h; obtain ⟨hok, h⟩ := h
      cases h
      obtain ⟨o1, o2⟩ := okN_eq hok
      have hn1 : n ≠ 0 := fun e0 => by rw [e0] at hn0; cases hn0
      have hby : bytesOf E.P et = i.bytes := by simp [bytesOf, g1]
      rw [hby] at o1
      rw [← g3] at q1
      have hrun := run_append_grow_src w t tu o.type et i zv hte g1 g2 none 0 0 [] (run_firstCells_none w.drew i.size 0 0 0) (a.eval y) n news q1 (by omega) (by omega) (growslice_fits (by omega) (by rw [Nat.zero_add]; omega))
      rw [Nat.zero_add] at hrun
      have hge := grownCap_ge w n 0 et
      have hzl : news.length = n * szOf E.P et := by rw [q1.newsLen, g3]
      refine grow_done (S := S1) (H0 := H) (z := szOf E.P et) (olds := []) (news := news) (rest := Builtin.zeroCells zv.cells (grownCap w n 0 et - n)) (m := 0) (n := n) (cap := grownCap w n 0 et) (c := c) hd hf1 rfl (by simpa using q2) q4 (by rw [q3]; omega) (by omega) ?_ ?_ (by show V.sl _ _ _ (lenC c) = _; rw [q3, Nat.zero_add]) (by rw [hup_cons])
      · rw [zeroCells_size]
        simp only [List.nil_append]
        rw [hzl, hzs, ← Nat.add_mul]
        have : n + (grownCap w n 0 et - n) = grownCap w n 0 et := by omega
        rw [this]
        exact Nat.le_refl _
      · have := append_run hop (w := w) (w' := w.drew.alloc (.cells (([] ++ news).toArray ++ Builtin.zeroCells zv.cells (grownCap w n 0 et - n)) et)) (v := .slice (some ⟨w.heap.size, 0, none⟩) (0 + n) (grownCap w n 0 et)) (by rw [hx, Nat.zero_add]; exact hrun)
        exact this
  · -- a slice of one's own
    rename_i t0 z m
    rw [bind_eq] at h; obtain ⟨b, hb, h⟩ := h
    rw [cond_eq] at h; obtain ⟨hc, h⟩ := h
    simp only [Bool.and_eq_true] at hc
    obtain ⟨⟨⟨⟨⟨⟨c1, c2⟩, c3⟩, c4⟩, c5⟩, c6⟩, c7⟩ := hc
    have d2 := Nat.eq_of_beq_eq_true c2
    clear c2
    have c3' := Nat.eq_of_beq_eq_true c3
    clear c3
    have c3 := c3'
    clear c3'
    rw [Nat.blt_eq] at c4
    have hnot := fun hm => any_beq c6 (fzT_sub (u := u) hm)
    rw [grd_eq] at h; obtain ⟨hg, h⟩ := h
    have hg' := Nat.eq_of_beq_eq_true hg
    clear hg
    have hg := hg'
    clear hg'
    rw [bind_eq] at h; obtain ⟨c, hcc, h⟩ := h
    rw [grd_eq] at h; obtain ⟨hok, h⟩ := h
    cases h
    obtain ⟨o1, o2⟩ := okN_eq hok
    simp only [RV] at hx
    obtain ⟨k, cap, ty, q, p, hx, hp, r1, r2, r3, r4, r5, r6⟩ := hx
    have hb1 : at_ (hup (frz H (fzT wv u)) H) t0 = some b := by rw [at_frz, hb]; simp only [if_neg hnot]
    obtain ⟨k', g1, g2, ⟨cs, fz, ys, v1, v2, v3, v4, v5, v6⟩, g4, g5⟩ := S1.live t0 b hb1
    rw [g1] at r1; cases r1
    obtain ⟨ty0, c0, wr0⟩ := b
    simp only at c1 d2 hg hcc v1 v2 v5 v6 g4
    subst c1; subst d2
    have hzk : k.z = z := r2
    have hfit : Fits E.P ⟨ty0, c0, true⟩ (szOf E.P ty0) := by rw [← c3, ← hzk]; exact v6
    obtain ⟨ie, hie, his⟩ := info_of_sz (P := E.P) (t := ty0) (by omega)
    have hby : bytesOf E.P ty0 = ie.bytes := by simp [bytesOf, hie]
    rw [hby] at o1
    obtain ⟨news, q1, q2, q3, q4⟩ := hcap v2 hfit (by omega) hcc
    rw [hg] at q3
    have hcagg : ∀ cs, c0 ≠ .agg cs := fun cs e0 => by subst e0; cases c7
    have hyl : ys.length = m * z := by
      have := Flat_len (b := ⟨ty0, c0, true⟩) v2 v6 hcagg
      rw [show lenC (Blk.mk ty0 c0 true).c = m from hg, hzk] at this
      exact this
    have hcs := len_cells (P := E.P) (b := ⟨ty0, c0, true⟩) v1 v3
    rw [← c3] at q1 q4
    have hisz : ie.size = z := by rw [his, c3]
    have hnl := q1.newsLen
    rw [← hisz] at q1
    have S2 := S1.kill t0
    have hf2 : fresh (hup [(t0, none)] (hup (frz H (fzT wv u)) H)) tok = true := by
      have htt : t0 ≠ tok := by
        rintro rfl
        unfold at_ at hb
        unfold fresh at hf
        rw [Option.isNone_iff_eq_none] at hf
        rw [hf] at hb
        cases hb
      unfold fresh hup at hf1 ⊢
      simp only [lk, beq_ne htt, cond_false]
      exact hf1
    by_cases hroom : m + n ≤ cap
    · have hp' : p = 0 ∨ (cap = 0 ∧ m = 0 ∧ n = 0) := by rcases hp with h | h; (left; simpa using h); (right; omega)
      have hcell : (0 + cap) * z ≤ cs.size := by
        have : w.shape? k.r = some (ty0, cs.size) := by unfold World.shape?; rw [v1]
        rw [this] at r5
        cases r5
        exact r6
      have hth : w.there k.r (p + m * z) news.length := by
        rcases hp' with rfl | ⟨_, rfl, rfl⟩
        · refine there_sub v4 ?_
          rw [hnl]
          have : (m + n) * z ≤ cap * z := Nat.mul_le_mul_right _ hroom
          rw [Nat.add_mul] at this
          simp only [Nat.zero_add] at hcell ⊢
          omega
        · intro j hj; rw [hnl] at hj; simp at hj
      have hrun := run_append_room_src w t tu o.type ty0 ie hte hie k.r p m cap (a.eval y) n news q1 hroom (fun j hj => by rw [hisz]; exact (hth j hj).1) (fun j hj => by rw [hisz]; exact (hth j hj).2)
      rw [hisz] at hrun
      have onl := Only.setCells v1 (p + m * z) news
      let k2 : Tk := ⟨k.r, m + n, z⟩
      have st : Stays (frzI I ρ H (fzT wv u)) (frzI I ρ H (fzT wv u)) ρ (rhoUp ρ tok k2) w (w.setCells k.r (p + m * z) news) :=
        ⟨(onl.stays (ρ := ρ) (g4 rfl)).imm, S2.rhoUp hf2 k2, (onl.stays (ρ := ρ) (g4 rfl)).shape, onl.io⟩
      obtain ⟨cs', n1, n2, _⟩ := setCells_heap k.r ty0 fz news (p + m * z) w cs v1
      have hblk : BlkRel E.P (frzI I ρ H (fzT wv u)) (rhoUp ρ tok k2) (w.setCells k.r (p + m * z) news) k2 ⟨ty0, c, true⟩ := by
        refine ⟨cs', fz, ys ++ news, n1, q2.stays st, fun j v hv => ?_, by rw [n2]; exact World.there_setCells v4 _ _ _, q3, q4⟩
        rcases hp' with rfl | ⟨_, rfl, rfl⟩
        · rw [List.getElem?_append] at hv
          split at hv
          · rename_i hj
            rw [World.cell?_setCells_out k.r news (0 + m * z) w ⟨k.r, 0 + j, none⟩ (fun _ _ => by left; simp; omega)]
            exact v3 j v hv
          · rename_i hj
            have := World.rangeAt_setCells_same w k.r (0 + m * z) news hth (j - ys.length) v hv
            rwa [show 0 + m * z + (j - ys.length) = 0 + j by omega] at this
        · have e1 : news = [] := by simpa using hnl
          have e2 : ys = [] := by simpa using hyl
          subst e1; subst e2
          simp at hv
      refine ⟨.value (.slice (some ⟨k.r, p, none⟩) (m + n) cap), .slice (some ⟨k.r, p, none⟩) (m + n) cap, w.setCells k.r (p + m * z) news, rhoUp ρ tok k2, frzI I ρ H (fzT wv u), append_run hop (by rw [hx]; exact hrun), .inl rfl, ?_⟩
      rw [hup_cons (tok, _), hup_cons (t0, none)]
      refine Sim.put (sim_adopt S2 hf2 (b := ⟨ty0, c, true⟩) (k := k2) rfl (g4 rfl) g2 (fun t b1 k1 h1 e1 => ?_) onl hblk) ?_ hd
      · rw [at_hup_one] at h1
        by_cases e0 : t0 = t
        · rw [if_pos e0] at h1; cases h1
        · rw [if_neg e0] at h1
          exact fun e2 => e0 (S1.dist t0 t _ b1 k k1 hb1 h1 g1 e1 e2.symm rfl)
      · show RV _ _ _ (.sl tok z 0 (lenC c)) _
        rw [q3]
        simp only [RV]
        refine ⟨k2, cap, ty, q, p, rfl, hp, by simp [rhoUp], rfl, hroom, by simp [k2], onl.shape _ r5, r6⟩
    · have hyf : (Builtin.firstCells ie.size m (.slice (some ⟨k.r, p, none⟩) m cap)).run E.P w.drew = .ok ys.toArray w.drew := by
        have hp' : p = 0 ∨ m = 0 := by rcases hp with h | h; (left; simpa using h); (right; omega)
        rcases hp' with rfl | rfl
        · exact run_firstCells_some w.drew ie.size m ⟨k.r, 0, none⟩ m cap ys (by rw [hyl, hisz]) (fun j v hv => by rw [add_none]; exact v3 j v hv)
        · have e2 : ys = [] := by simpa using hyl
          subst e2
          exact run_firstCells_some w.drew ie.size 0 ⟨k.r, p, none⟩ 0 cap [] (by simp) (fun j v hv => by simp at hv)
      unfold zLen at c5
      cases hzv : zeroV E.P ty0 with
      | none => rw [hzv] at c5; cases c5
      | some zl =>
        rw [hzv] at c5
        have c5 := Nat.eq_of_beq_eq_true c5
        obtain ⟨zv, _, hzc, i', hi', hiz⟩ := zero_run hzv
        rw [hie] at hi'; cases hi'
        have hzs : zv.cells.size = z := by rw [c3, ← c5, ← hzc]; simp
        have hrun := run_append_grow_src w t tu o.type ty0 ie zv hte hie hiz (some ⟨k.r, p, none⟩) m cap ys hyf (a.eval y) n news q1 (by omega) (by omega) (growslice_fits (by omega) (by omega))
        have hge := grownCap_ge w (m + n) cap ty0
        refine grow_done (S := S2) (H0 := H) (z := z) (olds := ys) (news := news) (rest := Builtin.zeroCells zv.cells (grownCap w (m + n) cap ty0 - (m + n))) (m := m) (n := n) (cap := grownCap w (m + n) cap ty0) (c := c) hd hf2 c3 q2 q4 q3 hge ?_ (append_run hop (by rw [hx]; exact hrun)) (by show V.sl _ _ _ (lenC c) = _; rw [q3]) (by rw [hup_cons (tok, _), hup_cons (t0, none)])
        rw [zeroCells_size, List.length_append, hyl, hnl, hzs, ← Nat.add_mul, ← Nat.add_mul]
        have : m + n + (grownCap w (m + n) cap ty0 - (m + n)) = grownCap w (m + n) cap ty0 := by omega
        rw [this]
        exact Nat.le_refl _
  · -- frozen, its capacity its length
    rename_i c
    rw [cond_eq] at h; obtain ⟨hc, h⟩ := h
    simp only [Bool.and_eq_true] at hc
    obtain ⟨⟨⟨c1, c2⟩, c3⟩, c5⟩ := hc
    rw [Nat.blt_eq] at c2
    rw [bind_eq] at h; obtain ⟨m, hm, h⟩ := h
    rw [bind_eq] at h; obtain ⟨c', hcc, h⟩ := h
    rw [br_eq] at h
    simp only [RV] at hx
    obtain ⟨hx1, a1, m1, hx2⟩ := hx
    have hx0 : RV I ρ w (.tt c) (a.eval x) := by simp only [RV]; exact ⟨hx1, a1, m1, hx2⟩
    have hx1' := RV.stays st1 _ _ (RV.stays (.up I ρ w) _ _ hx1)
    obtain ⟨a0, cap, ys, w1, w2, w3, w4, w5, w6⟩ := frozen_flat hx1' c1
    rw [w2] at hm
    simp only [Option.some.injEq] at hm
    subst hm
    rw [hx2] at w1
    simp only [Value.slice.injEq] at w1
    obtain ⟨rfl, rfl, rfl⟩ := w1
    obtain ⟨ie, hie, his⟩ := info_of_sz (P := E.P) (t := et) c2
    obtain ⟨news, q1, q2, q3, q4⟩ := hcap w3 (ttFits c1 c3) c2 hcc
    rw [← his] at q1
    cases hn0 : Nat.beq n 0 with
    | true =>
      rw [hn0] at h
      cases h
      have hn0 := Nat.eq_of_beq_eq_true hn0
      subst hn0
      have hnil : news = [] := by have := q1.newsLen; simpa using this
      rw [hnil] at q1
      refine Done.value S hd rfl rfl (x := a.eval x) hx0 (append_run hop ?_)
      rw [hx2]
      exact run_append_nothing w t tu o.type et ie hte hie a1 _ _ (Nat.le_refl _) _ q1
    | false =>
      rw [hn0] at h
      simp only [cond_false] at h
      rw [grd_eq] at h; obtain ⟨hok, h⟩ := h
      cases h
      obtain ⟨o1, o2⟩ := okN_eq hok
      have hn1 : n ≠ 0 := fun e0 => by rw [e0] at hn0; cases hn0
      have hby : bytesOf E.P et = ie.bytes := by simp [bytesOf, hie]
      rw [hby] at o1
      unfold zLen at c5
      cases hzv : zeroV E.P et with
      | none => rw [hzv] at c5; cases c5
      | some zl =>
        rw [hzv] at c5
        have c5 := Nat.eq_of_beq_eq_true c5
        obtain ⟨zv, _, hzc, i', hi', hiz⟩ := zero_run hzv
        rw [hie] at hi'; cases hi'
        have hzs : zv.cells.size = szOf E.P et := by rw [← c5, ← hzc]; simp
        have hfr : Frozen (frzI I ρ H (fzT wv u)) w.drew a1 ys := Frozen.stays (ρ := ρ) (ρ' := ρ) (I' := frzI I ρ H (fzT wv u)) (.of_heap (w := w) (w' := w.drew) rfl) w4
        have hrun := run_append_grow_src w t tu o.type et ie zv hte hie hiz a1 (lenC c) (lenC c) ys (firstCells_frozen (by rw [w5, his]) (by omega) hfr) (a.eval y) n news q1 (by omega) (by omega) (growslice_fits (by omega) (by omega))
        have hge := grownCap_ge w (lenC c + n) (lenC c) et
        refine grow_done (S := S1) (H0 := H) (z := szOf E.P et) (olds := ys) (news := news) (rest := Builtin.zeroCells zv.cells (grownCap w (lenC c + n) (lenC c) et - (lenC c + n))) (m := lenC c) (n := n) (cap := grownCap w (lenC c + n) (lenC c) et) (c := c') hd hf1 rfl q2 q4 q3 hge ?_
          (append_run hop (by rw [hx2]; exact hrun)) (by show V.sl _ _ _ (lenC c') = _; rw [q3]) (by rw [hup_cons])
        rw [zeroCells_size, List.length_append, w5, q1.newsLen, hzs, his, ← Nat.add_mul, ← Nat.add_mul]
        have : lenC c + n + (grownCap w (lenC c + n) (lenC c) et - (lenC c + n)) = grownCap w (lenC c + n) (lenC c) et := by omega
        rw [this]
        exact Nat.le_refl _
  · cases h
end
end Go.PM
