/- An operation hangs on the state only where it looks. -/
import Derived.Test.YtfpdcfgjhkiklaaDoorPmWalk
set_option linter.unusedSimpArgs false
set_option linter.unusedVariables false
set_option autoImplicit false
namespace Go.PM
section
variable {P : Program} {T T' : Nat → Option V} {H H' : Heap} {o : Oper} {tok : Nat} {Y : Type} {X : Ctx Y}

theorem evL_congr : ∀ {xs : List Operand}, (∀ x ∈ xs, ev T' x = ev T x) → evL T' xs = evL T xs
  | [], _ => rfl
  | x :: xs, h => by
    simp only [evL, h x (by simp), evL_congr (xs := xs) (fun y hy => h y (List.mem_cons_of_mem _ hy))]
theorem evPs_congr : ∀ {ps : List (Nat × Operand)}, (∀ p ∈ ps, ev T' p.2 = ev T p.2) → evPs T' ps = evPs T ps
  | [], _ => rfl
  | (i, x) :: ps, h => by
    simp only [evPs, h (i, x) (by simp), evPs_congr (ps := ps) (fun y hy => h y (List.mem_cons_of_mem _ hy))]
theorem intOf_congr {x : Operand} (h : ev T' x = ev T x) : intOf T' x = intOf T x := by unfold intOf; rw [h]
theorem bound_congr {R : Type} {m d : Nat} {x : Option Operand} {K : Nat → Option R} (h : ∀ y, x = some y → ev T' y = ev T y) : bound T' m x d K = bound T m x d K := by
  cases x with
  | none => rfl
  | some y => unfold bound; simp only [intOf_congr (h y rfl)]
theorem scalar_congr (h : ∀ x ∈ o.op.operands, ev T' x = ev T x) : scalar P T' o = scalar P T o := by
  unfold scalar
  have h1 : (o.op.operands.toList.all fun x => isS (ev T' x)) = o.op.operands.toList.all fun x => isS (ev T x) := by
    rw [Bool.eq_iff_iff]
    simp only [List.all_eq_true]
    exact ⟨fun g x hx => by rw [← h x (by simpa using hx)]; exact g x hx, fun g x hx => by rw [h x (by simpa using hx)]; exact g x hx⟩
  rw [h1]
  cases hc : noSel o.op && o.op.operands.toList.all (fun x => isS (ev T x)) with
  | false => rfl
  | true =>
    rw [Bool.and_eq_true] at hc
    have : execOp (sv T') o = execOp (sv T) o := execOp_congr o (fun cs b e => by rw [e] at hc; simp [noSel] at hc) fun x hx => by unfold sv; rw [h x hx]
    rw [this]

theorem eff_congrT {R : Type} {K : Eff → Option R} (h : ∀ x ∈ o.op.operands, ev T' x = ev T x) : eff P o T' H tok K = eff P o T H tok K := by
  have hs := scalar_congr (P := P) h
  unfold eff
  cases hop : o.op with
  | move x => simp only [h x (by simp [hop, Op.operands])]
  | assign x => simp only [h x (by simp [hop, Op.operands])]
  | pick c x y => simp only [h c (by simp [hop, Op.operands]), h x (by simp [hop, Op.operands]), h y (by simp [hop, Op.operands])]
  | alloc t => rfl
  | box t x => simp only [h x (by simp [hop, Op.operands])]
  | build t ps => simp only [evPs_congr (T' := T') (T := T) (ps := ps.toList) (fun p hp => h p.2 (by rw [hop]; simp only [Op.operands, List.mem_toArray, List.mem_map]; exact ⟨p, hp, rfl⟩))]
  | buildSlice t n ps => simp only [evPs_congr (T' := T') (T := T) (ps := ps.toList) (fun p hp => h p.2 (by rw [hop]; simp only [Op.operands, List.mem_toArray, List.mem_map]; exact ⟨p, hp, rfl⟩))]
  | load t x => simp only [h x (by simp [hop, Op.operands])]
  | store t x y => simp only [h x (by simp [hop, Op.operands]), h y (by simp [hop, Op.operands])]
  | nilCheck x => simp only [h x (by simp [hop, Op.operands])]
  | fieldAddr t x f => simp only [h x (by simp [hop, Op.operands])]
  | field t x f => simp only [h x (by simp [hop, Op.operands])]
  | indexAddr t x y => simp only [h x (by simp [hop, Op.operands]), intOf_congr (h y (by simp [hop, Op.operands]))]
  | index t x y => simp only [h x (by simp [hop, Op.operands]), intOf_congr (h y (by simp [hop, Op.operands]))]
  | extract x i => simp only [h x (by simp [hop, Op.operands])]
  | slice t x lo hi mx =>
    have hlo : ∀ y, lo = some y → ev T' y = ev T y := fun y hy => h y (by rw [hop]; simp [Op.operands, hy])
    have hhi : ∀ y, hi = some y → ev T' y = ev T y := fun y hy => h y (by rw [hop]; simp [Op.operands, hy])
    have hmx : ∀ y, mx = some y → ev T' y = ev T y := fun y hy => h y (by rw [hop]; simp [Op.operands, hy])
    simp only [h x (by simp [hop, Op.operands]), bound_congr hlo, bound_congr hhi, bound_congr hmx, hs]
  | makeSlice t x y => simp only [intOf_congr (h x (by simp [hop, Op.operands])), intOf_congr (h y (by simp [hop, Op.operands]))]
  | makeFunc fn x y =>
    cases fn with
    | func f => simp only [evL_congr (T' := T') (T := T) (xs := x.toList) (fun z hz => h z (by rw [hop]; simp only [Op.operands, Array.mem_append]; exact .inl (by simpa using hz))), evL_congr (T' := T') (T := T) (xs := y.toList) (fun z hz => h z (by rw [hop]; simp only [Op.operands, Array.mem_append]; exact .inr (by simpa using hz)))]
    | _ => rfl
  | binOp op t x y u => simp only [h x (by simp [hop, Op.operands]), h y (by simp [hop, Op.operands]), hs]
  | convert s d x => simp only [h x (by simp [hop, Op.operands]), hs]
  | call c =>
    obtain ⟨callee, args, argTypes⟩ := c
    cases callee with
    | value f => rfl
    | invoke r m => rfl
    | builtin b =>
      have hargs : ∀ x ∈ args.toList, ev T' x = ev T x := fun x hx => h x (by rw [hop]; simp [Op.operands, Call.operands]; simpa using hx)
      cases b with
      | len =>
        simp only
        split
        · rename_i x t ts ha ht
          simp only [hargs x (by rw [ha]; simp), hs]
        · rfl
      | append =>
        simp only
        split
        · rename_i x y t tu ha ht
          simp only [hargs x (by rw [ha]; simp), hargs y (by rw [ha]; simp)]
        · rfl
      | min =>
        simp only
        split
        · rename_i x y ha
          simp only [hargs x (by rw [ha]; simp), hargs y (by rw [ha]; simp), hs]
        · simp only [hs]
      | max =>
        simp only
        split
        · rename_i x y ha
          simp only [hargs x (by rw [ha]; simp), hargs y (by rw [ha]; simp), hs]
        · simp only [hs]
      | copy =>
        simp only
        split
        · rename_i x y t tu ha ht
          simp only [hargs x (by rw [ha]; simp), hargs y (by rw [ha]; simp)]
        · rfl
      | clear =>
        simp only
        split
        · rename_i x t ha ht
          simp only [hargs x (by rw [ha]; simp)]
        · rfl
      | _ => simp only [hs]
  | _ => simp only [hs]

mutual
theorem view_congr : ∀ (v : V), (∀ t ∈ toks v, H' t = H t) → view H' v = view H v
  | .sl t z a n, h => by simp only [view, at_, h t (by simp [toks])]
  | .ptr .., _ => rfl
  | .yl _, _ => rfl
  | .agg cs, h => by simp only [view, viewL_congr cs (fun t ht => h t (by simpa [toks] using ht))]
  | .tup cs, h => by simp only [view, viewL_congr cs (fun t ht => h t (by simpa [toks] using ht))]
  | .fn f a b, h => by simp only [view, viewL_congr a (fun t ht => h t (by simp [toks, ht])), viewL_congr b (fun t ht => h t (by simp [toks, ht]))]
  | .s _, _ => rfl
  | .li .., _ => rfl
  | .ls .., _ => rfl
  | .lg .., _ => rfl
  | .lt .., _ => rfl
  | .tt .., _ => rfl
  | .lp .., _ => rfl
theorem viewL_congr : ∀ (v : List V), (∀ t ∈ toksL v, H' t = H t) → viewL H' v = viewL H v
  | [], _ => rfl
  | v :: vs, h => by simp only [viewL, view_congr v (fun t ht => h t (by simp [toksL, ht])), viewL_congr vs (fun t ht => h t (by simp [toksL, ht]))]
end
theorem frz_congr : ∀ {ts : List Nat}, (∀ t ∈ ts, H' t = H t) → frz H' ts = frz H ts
  | [], _ => rfl
  | t :: ts, h => by simp only [frz, at_, h t (by simp), frz_congr (ts := ts) (fun s hs => h s (List.mem_cons_of_mem _ hs))]
theorem fresh_congr {t : Nat} (h : H' t = H t) : fresh H' t = fresh H t := by unfold fresh; rw [h]
theorem freshN_congr : ∀ {n : Nat}, (∀ i, i < n → H' (tok + i) = H (tok + i)) → freshN H' tok n = freshN H tok n
  | 0, _ => rfl
  | n + 1, h => by simp only [freshN, fresh_congr (h n (by omega)), freshN_congr (n := n) (fun i hi => h i (by omega))]
theorem blksOf_congr {f : Nat → Option Nat} : ∀ {l : List Nat}, (∀ t ∈ l, H' t = H t) → blksOf H' f l = blksOf H f l
  | [], _ => rfl
  | t :: ts, h => by simp only [blksOf, at_, h t (by simp), blksOf_congr (l := ts) (fun s hs => h s (List.mem_cons_of_mem _ hs))]
theorem reach_sub : ∀ (n : Nat) (ts acc : List Nat), ∀ t ∈ acc, t ∈ reach H n ts acc
  | 0, ts, acc, t, h => by simpa only [reach] using h
  | n + 1, [], acc, t, h => by simpa only [reach] using h
  | n + 1, u :: ts, acc, t, h => by
    simp only [reach]
    cases e : acc.any (Nat.beq u) with
    | true => exact reach_sub n ts acc t h
    | false =>
      simp only [cond_false]
      have h' : t ∈ acc ++ [u] := List.mem_append_left _ h
      split
      · split <;> exact reach_sub n _ _ t h'
      · exact reach_sub n _ _ t h'
theorem reach_congr : ∀ (n : Nat) (ts acc : List Nat), (∀ t ∈ reach H n ts acc, H' t = H t) → reach H' n ts acc = reach H n ts acc
  | 0, ts, acc, _ => by simp only [reach]
  | n + 1, [], acc, _ => by simp only [reach]
  | n + 1, u :: ts, acc, h => by
    simp only [reach] at h ⊢
    cases e : acc.any (Nat.beq u) with
    | true => rw [e] at h; exact reach_congr n ts acc h
    | false =>
      rw [e] at h
      simp only [cond_false] at h ⊢
      have hu : H' u = H u := by
        refine h u ?_
        have hm : u ∈ acc ++ [u] := by simp
        split
        · split <;> exact reach_sub n _ _ u hm
        · exact reach_sub n _ _ u hm
      have ha : at_ H' u = at_ H u := by unfold at_; rw [hu]
      rw [ha]
      cases hb : at_ H u with
      | none => rw [hb] at h; exact reach_congr n _ _ h
      | some b =>
        rw [hb] at h
        obtain ⟨ty, c, wr⟩ := b
        cases c with
        | agg cs => exact reach_congr n _ _ h
        | _ => exact reach_congr n _ _ h

theorem at_congr {k : Nat} (h : H' k = H k) : at_ H' k = at_ H k := by unfold at_; rw [h]

/-- The tokens that an effect hangs on. -/
def onToks (e : Eff) : List Nat := e.rd ++ e.hw.map (·.1)

theorem eff_congrH {e : Eff} (h : eff P o T H tok some = some e) (hH : ∀ k ∈ onToks e, H' k = H k) : eff P o T H' tok some = some e := by
  have hrd : ∀ k ∈ e.rd, H' k = H k := fun k hk => hH k (List.mem_append_left _ hk)
  have hkey : ∀ k b, (k, b) ∈ e.hw → H' k = H k := fun k b hk => hH k (List.mem_append_right _ (List.mem_map.2 ⟨(k, b), hk, rfl⟩))
  unfold eff at h ⊢
  cases hop : o.op with
  | alloc t =>
    rw [hop] at h
    simp only at h ⊢
    obtain ⟨hf, h1⟩ := cond_eq.1 h
    obtain ⟨z, hz, h2⟩ := bind_eq.1 h1
    obtain ⟨hc, h3⟩ := cond_eq.1 h2
    cases h3
    rw [fresh_congr (hkey tok _ List.mem_cons_self), hf, hz, Option.bind_some, hc]
    rfl
  | box t x =>
    rw [hop] at h
    simp only at h ⊢
    obtain ⟨hf, h1⟩ := cond_eq.1 h
    obtain ⟨z, hz, h2⟩ := bind_eq.1 h1
    obtain ⟨hc, h3⟩ := cond_eq.1 h2
    cases h3
    rw [fresh_congr (hkey tok _ List.mem_cons_self), hf, hz, Option.bind_some, hc]
    rfl
  | buildSlice t n ps =>
    rw [hop] at h
    simp only at h ⊢
    obtain ⟨hf, h1⟩ := cond_eq.1 h
    obtain ⟨vs, hvs, h2⟩ := bind_eq.1 h1
    obtain ⟨et, het, h3⟩ := bind_eq.1 h2
    obtain ⟨hc, h4⟩ := cond_eq.1 h3
    obtain ⟨us, hus, h5⟩ := bind_eq.1 h4
    obtain ⟨c, hcc, h6⟩ := bind_eq.1 h5
    cases h6
    rw [fresh_congr (hkey tok _ List.mem_cons_self), hf, hvs, Option.bind_some, het, Option.bind_some, hc, viewL_congr _ hrd, hus, Option.bind_some, hcc, Option.bind_some, frz_congr hrd]
    rfl
  | load t x =>
    rw [hop] at h
    simp only at h ⊢
    split at h
    · rename_i k z i off hv
      obtain ⟨b, hb, h1⟩ := bind_eq.1 h
      have h1' := h1
      obtain ⟨cs, h2, e2⟩ := cps_cget b.c z i Eff _ _ h1
      obtain ⟨v, hp, h3⟩ := bind_eq.1 h2
      cases h3
      try simp only [hv]
      rw [at_congr (hrd k List.mem_cons_self), hb]
      exact h1'
    · rename_i cs off hv
      try simp only [hv]
      exact h
    · cases h
  | store t x y =>
    rw [hop] at h
    simp only at h ⊢
    split at h
    · rename_i k z i off hv
      obtain ⟨v, hvv, h1⟩ := bind_eq.1 h
      obtain ⟨hc, h2⟩ := cond_eq.1 h1
      obtain ⟨b, hb, h3⟩ := bind_eq.1 h2
      obtain ⟨hw, h4⟩ := cond_eq.1 h3
      have hk : k ∈ e.rd := by
        split at h4
        · obtain ⟨c, h5, _⟩ := cps_cset _ z i off _ Eff _ _ h4
          cases h5
          exact List.mem_cons_self
        · obtain ⟨u, hu, h5⟩ := bind_eq.1 h4
          obtain ⟨_, h6⟩ := cond_eq.1 h5
          obtain ⟨c, h7, _⟩ := cps_cset _ z i off _ Eff _ _ h6
          cases h7
          exact List.mem_cons_self
      try simp only [hv]
      rw [hvv, Option.bind_some, hc, cond_true, at_congr (hrd k hk), hb, Option.bind_some]
      obtain ⟨ty, c, wr⟩ := b
      simp only at hw h4 ⊢
      subst hw
      cases c with
      | agg cs => exact h4
      | _ =>
        simp only [cond_true] at h4 ⊢
        obtain ⟨u, hu, h5⟩ := bind_eq.1 h4
        obtain ⟨hcc, h6⟩ := cond_eq.1 h5
        have h6' := h6
        obtain ⟨c, h7, _⟩ := cps_cset _ z i off _ Eff _ _ h6
        cases h7
        have htv : ∀ t ∈ toks v, H' t = H t := fun t ht => hrd t (List.mem_cons_of_mem _ ht)
        rw [view_congr _ htv, hu, Option.bind_some, hcc, frz_congr htv]
        exact h6'
    · cases h
  | makeSlice t x y =>
    rw [hop] at h
    simp only at h ⊢
    split at h
    · rename_i n m hn hm
      obtain ⟨hf, h1⟩ := cond_eq.1 h
      obtain ⟨et, het, h2⟩ := bind_eq.1 h1
      obtain ⟨q, hq, h3⟩ := bnd_eq.1 h2
      obtain ⟨c, hcc, h4⟩ := bind_eq.1 h3
      cases h4
      try simp only [hn, hm]
      rw [fresh_congr (hkey tok _ List.mem_cons_self), hf]
      simp only [cond_true, het, Option.bind_some]
      exact h2
    · cases h
  | convert s d x =>
    rw [hop] at h
    simp only at h ⊢
    split at h
    · rename_i et k z a0 n hs hd hv
      split at h
      · rename_i he
        obtain ⟨b, hb, h1⟩ := bind_eq.1 h
        have hk : k ∈ e.rd := by
          split at h1
          · obtain ⟨_, h2⟩ := grd_eq.1 h1
            cases h2
            exact List.mem_cons_self
          · cases h1
        try simp only [hs, hd, hv, he]
        rw [at_congr (hrd k hk), hb]
        exact h1
      · cases h
    · rename_i et b hs hd hv
      split at h
      · rename_i he
        obtain ⟨hf, h1⟩ := cond_eq.1 h
        obtain ⟨hc, h2⟩ := cond_eq.1 h1
        cases h2
        try simp only [hs, hd, hv, he]
        rw [fresh_congr (hkey tok _ List.mem_cons_self), hf, hc]
        rfl
      · cases h
    · exact h
  | call c =>
    obtain ⟨callee, args, argTypes⟩ := c
    cases callee with
    | value f => rw [hop] at h; cases h
    | invoke r m => rw [hop] at h; cases h
    | builtin b =>
      cases b with
      | append =>
        rw [hop] at h
        simp only at h ⊢
        split at h
        · rename_i x y t tu hargs htys
          try simp only [hargs, htys]
          split at h
          · rename_i d hu
            obtain ⟨hf, h1⟩ := cond_eq.1 h
            obtain ⟨et, het, h2⟩ := bind_eq.1 h1
            obtain ⟨s, hs, h3⟩ := bind_eq.1 h2
            obtain ⟨wv, hwv, h4⟩ := bind_eq.1 h3
            obtain ⟨u, hview, h5⟩ := bind_eq.1 h4
            obtain ⟨n, hn, h6⟩ := bind_eq.1 h5
            obtain ⟨hk, h7⟩ := cond_eq.1 h6
            have q1 : H' tok = H tok := by
              split at h7
              · obtain ⟨c, _, h8⟩ := bind_eq.1 h7
                obtain ⟨c', _, h9⟩ := bind_eq.1 h8
                rw [br_eq] at h9
                cases hb : Nat.beq n 0 with
                | true => rw [hb] at h9; cases h9; exact hrd tok List.mem_cons_self
                | false =>
                  rw [hb] at h9
                  obtain ⟨_, h10⟩ := grd_eq.1 h9
                  cases h10; exact hkey tok _ List.mem_cons_self
              · obtain ⟨b, _, h8⟩ := bind_eq.1 h7
                obtain ⟨_, h9⟩ := cond_eq.1 h8
                obtain ⟨_, h10⟩ := grd_eq.1 h9
                obtain ⟨c, _, h11⟩ := bind_eq.1 h10
                obtain ⟨_, h12⟩ := grd_eq.1 h11
                cases h12; exact hkey tok _ List.mem_cons_self
              · obtain ⟨_, h8⟩ := cond_eq.1 h7
                obtain ⟨m, _, h9⟩ := bind_eq.1 h8
                obtain ⟨c', _, h10⟩ := bind_eq.1 h9
                rw [br_eq] at h10
                cases hb : Nat.beq n 0 with
                | true => rw [hb] at h10; cases h10; exact hrd tok List.mem_cons_self
                | false =>
                  rw [hb] at h10
                  obtain ⟨_, h11⟩ := grd_eq.1 h10
                  cases h11; exact hkey tok _ List.mem_cons_self
              · cases h7
            have q2 : ∀ t ∈ toks wv, H' t = H t := by
              intro t0 ht0
              split at h7
              · obtain ⟨c, _, h8⟩ := bind_eq.1 h7
                obtain ⟨c', _, h9⟩ := bind_eq.1 h8
                rw [br_eq] at h9
                cases hb : Nat.beq n 0 with
                | true => rw [hb] at h9; cases h9; exact hrd t0 (List.mem_cons_of_mem _ ht0)
                | false =>
                  rw [hb] at h9
                  obtain ⟨_, h10⟩ := grd_eq.1 h9
                  cases h10; exact hrd t0 ht0
              · obtain ⟨b, _, h8⟩ := bind_eq.1 h7
                obtain ⟨_, h9⟩ := cond_eq.1 h8
                obtain ⟨_, h10⟩ := grd_eq.1 h9
                obtain ⟨c, _, h11⟩ := bind_eq.1 h10
                obtain ⟨_, h12⟩ := grd_eq.1 h11
                cases h12; exact hrd t0 (List.mem_cons_of_mem _ ht0)
              · obtain ⟨_, h8⟩ := cond_eq.1 h7
                obtain ⟨m, _, h9⟩ := bind_eq.1 h8
                obtain ⟨c', _, h10⟩ := bind_eq.1 h9
                rw [br_eq] at h10
                cases hb : Nat.beq n 0 with
                | true => rw [hb] at h10; cases h10; exact hrd t0 (List.mem_cons_of_mem _ ht0)
                | false =>
                  rw [hb] at h10
                  obtain ⟨_, h11⟩ := grd_eq.1 h10
                  cases h11; exact hrd t0 ht0
              · cases h7
            have q3 : ∀ k z m, s = .sl k z 0 m → H' k = H k := by
              rintro k z m rfl
              simp only at h7
              obtain ⟨b, _, h8⟩ := bind_eq.1 h7
              obtain ⟨_, h9⟩ := cond_eq.1 h8
              obtain ⟨_, h10⟩ := grd_eq.1 h9
              obtain ⟨c, _, h11⟩ := bind_eq.1 h10
              obtain ⟨_, h12⟩ := grd_eq.1 h11
              cases h12; exact hrd k List.mem_cons_self
            rw [fresh_congr q1, hf]
            simp only [cond_true, het, Option.bind_some, hs, hwv]
            rw [view_congr _ q2, hview]
            simp only [Option.bind_some, hn, hk, cond_true, frz_congr (fun t0 ht0 => q2 t0 (fzT_sub (u := u) ht0))]
            cases s with
            | sl k z a0 m =>
              cases a0 with
              | zero => simp only [at_congr (q3 k z m rfl)]; exact h7
              | succ a0 => exact h7
            | s v =>
              cases v with
              | slice b n' c' =>
                cases b with
                | some b => exact h7
                | none =>
                  cases n' with
                  | succ n' => exact h7
                  | zero => cases c' <;> exact h7
              | _ => exact h7
            | _ => exact h7
          · cases h
        · cases h
      | copy =>
        rw [hop] at h
        simp only at h ⊢
        split at h
        · rename_i x y t ts hargs htys
          try simp only [hargs, htys]
          split at h
          · rename_i et hu
            try simp only [hu]
            split at h
            · rename_i k z a0 n hv
              obtain ⟨v, hvv, h1⟩ := bind_eq.1 h
              obtain ⟨u, huv, h2⟩ := bind_eq.1 h1
              obtain ⟨b, hb, h3⟩ := bind_eq.1 h2
              have h3' := h3
              obtain ⟨s0, hs0, h4⟩ := bind_eq.1 h3
              obtain ⟨s, hs, h5⟩ := bind_eq.1 h4
              obtain ⟨hc, h6⟩ := cond_eq.1 h5
              obtain ⟨c, hcp, h7⟩ := bind_eq.1 h6
              cases h7
              have htv : ∀ t ∈ toks v, H' t = H t := fun t ht => hrd t (List.mem_cons_of_mem _ ht)
              try simp only [hv]
              rw [hvv, Option.bind_some, view_congr _ htv, huv, Option.bind_some, at_congr (hrd k List.mem_cons_self), hb, Option.bind_some]
              exact h3'
            · cases h
          · cases h
        · cases h
      | clear =>
        rw [hop] at h
        simp only at h ⊢
        split at h
        · rename_i x t hargs htys
          try simp only [hargs, htys]
          split at h
          · rename_i et hu
            try simp only [hu]
            split at h
            · rename_i k z a0 n hv
              obtain ⟨b, hb, h3⟩ := bind_eq.1 h
              have h3' := h3
              obtain ⟨s, hs, h5⟩ := bind_eq.1 h3
              obtain ⟨hc, h6⟩ := cond_eq.1 h5
              obtain ⟨c, hcp, h7⟩ := bind_eq.1 h6
              cases h7
              try simp only [hv]
              rw [at_congr (hrd k List.mem_cons_self), hb, Option.bind_some]
              exact h3'
            · cases h
          · cases h
        · cases h
      | _ => rw [hop] at h; exact h
  | makeFunc fn x y => rw [hop] at h; cases fn <;> exact h
  | _ => rw [hop] at h; exact h

theorem backHw_keys {l : List Nat} {tok : Nat} {bs : List (Option Blk)} {hw : List (Nat × Option Blk)} (h : backHw l tok 0 bs = some hw) (i : Nat) (hi : i < bs.length) : ∃ t ob, backTok l tok i = some t ∧ (t, ob) ∈ hw := by
  have := backHw_key h i hi
  simpa using this

theorem opE_congrT {R : Type} {K : Eff → Option R} (h : ∀ x ∈ o.op.operands, ev T' x = ev T x) : opE X o T' H tok K = opE X o T H tok K := by
  unfold opE
  split
  · rename_i f args argTypes hop
    have hf : ev T' f = ev T f := h f (by rw [hop]; simp [Op.operands, Call.operands])
    have ha : evL T' args.toList = evL T args.toList := evL_congr fun x hx => h x (by rw [hop]; simp only [Op.operands, Call.operands, Array.mem_append]; exact .inr (by simpa using hx))
    rw [hf, ha]
  · exact eff_congrT h

theorem opE_congrH {e : Eff} (h : opE X o T H tok some = some e) (hH : ∀ k ∈ onToks e, H' k = H k) : opE X o T H' tok some = some e := by
  have hrd : ∀ k ∈ e.rd, H' k = H k := fun k hk => hH k (List.mem_append_left _ hk)
  have hkey : ∀ k b, (k, b) ∈ e.hw → H' k = H k := fun k b hk => hH k (List.mem_append_right _ (List.mem_map.2 ⟨(k, b), hk, rfl⟩))
  unfold opE at h ⊢
  split at h
  · split at h
    · rename_i g first cap hfv
      obtain ⟨vs, hvs, h1⟩ := bind_eq.1 h
      split at h1
      · rename_i hmode
        simp only at h1
        generalize hl : reach H 1000 (toksL (first ++ vs ++ cap)) [] = l at h1
        obtain ⟨ws, hws, h2⟩ := bind_eq.1 h1
        obtain ⟨bs, hbs, h3⟩ := bind_eq.1 h2
        obtain ⟨⟨r0, bs'⟩, hc, h4⟩ := callK_eq.1 h3
        simp only at h4
        obtain ⟨r, hr, h5⟩ := bind_eq.1 h4
        obtain ⟨hw, hhw, h6⟩ := bind_eq.1 h5
        obtain ⟨hcond, h7⟩ := cond_eq.1 h6
        cases h7
        have hl' : reach H' 1000 (toksL (first ++ vs ++ cap)) [] = l := by rw [reach_congr _ _ _ (by rw [hl]; exact hrd), hl]
        have hcond' := hcond
        rw [Bool.and_eq_true] at hcond'
        have hle := Nat.le_of_ble_eq_true hcond'.1
        have hfr : freshN H' tok (bs'.length - l.length) = freshN H tok (bs'.length - l.length) := freshN_congr fun i hi => by
          obtain ⟨t, ob, m1, m2⟩ := backHw_keys hhw (l.length + i) (by omega)
          rw [backTok_ge (by omega)] at m1
          have := hkey t ob m2
          rw [← Option.some.inj m1, show l.length + i - l.length = i by omega] at this
          exact this
        try simp only [hfv]
        rw [hvs, Option.bind_some]
        try simp only [hmode]
        rw [hl', hws, Option.bind_some, blksOf_congr hrd, hbs, Option.bind_some]
        refine callK_eq.2 ⟨_, hc, ?_⟩
        simp only
        rw [hr, Option.bind_some, hhw, Option.bind_some, hfr, hcond]
        rfl
      · rename_i hmode
        obtain ⟨ws, hws, h2⟩ := bind_eq.1 h1
        obtain ⟨⟨r0, bs'⟩, hc, h4⟩ := callK_eq.1 h2
        simp only at h4
        obtain ⟨r, hr, h5⟩ := bind_eq.1 h4
        obtain ⟨hw, hhw, h6⟩ := bind_eq.1 h5
        obtain ⟨hcond, h7⟩ := cond_eq.1 h6
        have hts : ∀ t ∈ toksL (first ++ vs ++ cap), H' t = H t := by
          cases hfl : flat r && bs'.isEmpty with
          | true => rw [hfl] at h7; cases h7; exact hrd
          | false => rw [hfl] at h7; cases h7; exact hrd
        have hfr : freshN H' tok bs'.length = freshN H tok bs'.length := freshN_congr fun i hi => by
          obtain ⟨t, ob, m1, m2⟩ := backHw_keys hhw i hi
          rw [backTok_ge (by simp)] at m1
          have hm : (t, ob) ∈ e.hw := by
            cases hfl : flat r && bs'.isEmpty with
            | true =>
              rw [Bool.and_eq_true, List.isEmpty_iff] at hfl
              rw [hfl.2] at hi; simp at hi
            | false => rw [hfl] at h7; cases h7; exact List.mem_append_left _ m2
          have := hkey t ob hm
          rw [← Option.some.inj m1] at this
          simpa using this
        try simp only [hfv]
        rw [hvs, Option.bind_some]
        · rw [viewL_congr _ hts, hws, Option.bind_some]
          refine callK_eq.2 ⟨_, hc, ?_⟩
          simp only
          rw [hr, Option.bind_some, hhw, Option.bind_some, hfr, hcond, frz_congr hts]
          exact h7
    · cases h
  · exact eff_congrH h hH
end
end Go.PM
