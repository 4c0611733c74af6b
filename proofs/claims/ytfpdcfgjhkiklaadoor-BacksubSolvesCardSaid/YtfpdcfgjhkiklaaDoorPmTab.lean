/- Tables of what calls tell, and the laws of the reckoning's marks. -/
import Derived.Test.YtfpdcfgjhkiklaaDoorPmOpen
set_option linter.unusedSimpArgs false
set_option linter.unusedVariables false
set_option autoImplicit false
namespace Go.PM

/-- What goes on where the reckoning stands still. -/
theorem bnd_some {α β : Type} (x : α) (k : α → Option β) : bnd (some x) k = k x := by unfold bnd; rfl
theorem bnd_none {α β : Type} (k : α → Option β) : bnd none k = none := by unfold bnd; rfl
theorem bnd_of {α β : Type} {x : Option α} {v : α} (h : x = some v) (k : α → Option β) : bnd x k = k v := by rw [h, bnd_some]
theorem br_tt {β : Type} (k l : Option β) : br true k l = k := by unfold br; rfl
theorem br_ff {β : Type} (k l : Option β) : br false k l = l := by unfold br; rfl
theorem br_if {β : Type} (b : Bool) (k l : Option β) : br b k l = if b = true then k else l := by unfold br; cases b <;> rfl
theorem grd_tt {β : Type} (k : Option β) : grd true k = k := by unfold grd; rfl
theorem grd_of {β : Type} {b : Bool} (h : b = true) (k : Option β) : grd b k = k := by rw [h, grd_tt]
theorem divI_quo {k : IntKind} {a b : Int} (h : b ≠ 0) : divI .quo k a b = some (k.wrap (a.tdiv b)) := by unfold divI; rw [if_neg h]
theorem divI_rem {k : IntKind} {a b : Int} (h : b ≠ 0) : divI .rem k a b = some (a.tmod b) := by unfold divI; rw [if_neg h]
theorem shfI_shl {k : IntKind} {a b : Int} (h : 0 ≤ b) : shfI .shl k a b = some (k.wrap (a * 2 ^ min b.toNat k.bits)) := by unfold shfI; rw [if_neg (by omega)]
theorem shfI_shr {k : IntKind} {a b : Int} (h : 0 ≤ b) : shfI .shr k a b = some (a.fdiv (2 ^ min b.toNat k.bits)) := by unfold shfI; rw [if_neg (by omega)]
theorem upTo_of {i : Int} {m : Nat} (h : 0 ≤ i) (h2 : i ≤ m) : upTo i m = some i.toNat := by unfold upTo; rw [if_pos ⟨h, h2⟩]
theorem below_of {i : Int} {m : Nat} (h : 0 ≤ i) (h2 : i < m) : below i m = some i.toNat := by unfold below; rw [if_pos ⟨h, h2⟩]
theorem ix_of {α : Type} {xs : List α} {i : Int} {x : α} (h : 0 ≤ i) (h2 : xs[i.toNat]? = some x) : ix xs i = some x := by unfold ix; rw [if_pos h, h2]
theorem ix_nat {α : Type} (xs : List α) (i : Nat) : ix xs (i : Int) = xs[i]? := by unfold ix; rw [if_pos (by omega)]; simp
theorem mkN_of {n : Int} {b : Nat} (h : 0 ≤ n) (h2 : n * b ≤ 140737488355328) (h3 : n ≤ 140737488355328) : mkN n n b = some n.toNat := by unfold mkN; rw [if_pos ⟨h, rfl, h2, h3⟩]
theorem okN_of {n b : Nat} (h : n * b ≤ 70368744177664) (h2 : n ≤ 70368744177664) : okN n b = true := by unfold okN; rw [Nat.ble_eq_true_of_le h, Nat.ble_eq_true_of_le h2]; rfl
theorem beq_self (n : Nat) : Nat.beq n n = true := Nat.beq_refl n

/-- Whole numbers within their kind's bounds. -/
theorem wrap_i64 {x : Int} (h : -9223372036854775808 ≤ x) (h2 : x ≤ 9223372036854775807) : IntKind.i64.wrap x = x := by
  have e : (2 : Int) ^ 64 = 18446744073709551616 := by decide
  have e' : (2 : Int) ^ 63 = 9223372036854775808 := by decide
  simp only [IntKind.wrap, IntKind.bits, IntKind.signed, Bool.true_and, decide_eq_true_eq, e, e', Nat.reduceSub]
  split <;> omega
theorem wrap_u64 {x : Int} (h : 0 ≤ x) (h2 : x < 18446744073709551616) : IntKind.u64.wrap x = x := by
  have e : (2 : Int) ^ 64 = 18446744073709551616 := by decide
  simp only [IntKind.wrap, IntKind.bits, IntKind.signed, Bool.false_and, e, Bool.false_eq_true, if_false]
  omega
theorem wrap_u64_mod (x : Int) : IntKind.u64.wrap x = x % 18446744073709551616 := by
  have e : (2 : Int) ^ 64 = 18446744073709551616 := by decide
  simp only [IntKind.wrap, IntKind.bits, IntKind.signed, Bool.false_and, e, Bool.false_eq_true, if_false]
theorem wrap_u8 {x : Int} (h : 0 ≤ x) (h2 : x < 256) : IntKind.u8.wrap x = x := by
  have e : (2 : Int) ^ 8 = 256 := by decide
  simp only [IntKind.wrap, IntKind.bits, IntKind.signed, Bool.false_and, e, Bool.false_eq_true, if_false]
  omega

theorem u64_range (x : Int) : 0 ≤ IntKind.u64.wrap x ∧ IntKind.u64.wrap x < 18446744073709551616 := by
  rw [wrap_u64_mod]
  exact ⟨Int.emod_nonneg _ (by decide), Int.emod_lt_of_pos _ (by decide)⟩
theorem xor_range (x y : Int) : 0 ≤ xorI .u64 x y ∧ xorI .u64 x y < 18446744073709551616 := u64_range _
theorem quo_u64 {a b : Int} (h : 0 ≤ a) (h2 : a < 18446744073709551616) (hb : 0 < b) : divI .quo .u64 a b = some (a / b) := by
  rw [divI_quo (by omega), Int.tdiv_eq_ediv_of_nonneg h, wrap_u64 (Int.ediv_nonneg h (by omega))]
  exact Int.lt_of_le_of_lt (Int.ediv_le_self b h) h2
theorem quo_i64 {a b : Int} (h : 0 ≤ a) (h2 : a ≤ 9223372036854775807) (hb : 0 < b) : divI .quo .i64 a b = some (a / b) := by
  rw [divI_quo (by omega), Int.tdiv_eq_ediv_of_nonneg h, wrap_i64 (by have := Int.ediv_nonneg h (show 0 ≤ b by omega); omega)]
  exact Int.le_trans (Int.ediv_le_self b h) h2
theorem rem_pos {k : IntKind} {a b : Int} (h : 0 ≤ a) (hb : 0 < b) : divI .rem k a b = some (a % b) := by
  rw [divI_rem (by omega), Int.tmod_eq_emod_of_nonneg h]
theorem shr_u64 {a : Int} {b : Int} {c : Int} (hb : 0 ≤ b) (hc : (2 : Int) ^ min b.toNat 64 = c) : shfI .shr .u64 a b = some (a / c) := by
  rw [shfI_shr hb]
  have e : (2 : Int) ^ min b.toNat IntKind.u64.bits = c := hc
  rw [e, Int.fdiv_eq_ediv_of_nonneg]
  rw [← hc]
  exact Int.pow_nonneg (by decide)

theorem wf_u64 {x : Int} (h : (Lit.int .u64 x).wf = true) : 0 ≤ x ∧ x < 18446744073709551616 := by
  unfold Lit.wf at h
  simp only [IntKind.min, IntKind.max, IntKind.signed, IntKind.bits, Bool.and_eq_true, decide_eq_true_eq] at h
  have e : (2 : Int) ^ 64 = 18446744073709551616 := by decide
  simp at h
  omega
theorem wf_i64 {x : Int} (h : (Lit.int .i64 x).wf = true) : -9223372036854775808 ≤ x ∧ x ≤ 9223372036854775807 := by
  unfold Lit.wf at h
  simp only [IntKind.min, IntKind.max, IntKind.signed, IntKind.bits, Bool.and_eq_true, decide_eq_true_eq] at h
  simp at h
  omega

/-- No function of the program counts goroutines. -/
def namesOk (P : Program) : Bool := P.funcs.all fun fn => !(fn.name == "runtime.NumGoroutine")
theorem namesOk_spec {P : Program} (h : namesOk P = true) (f : FuncId) (fn : Func) (hf : P.funcs[f]? = some fn) : (fn.name == "runtime.NumGoroutine") = false := by
  unfold namesOk at h
  rw [Array.all_eq_true_iff_forall_mem] at h
  have := h fn (Array.mem_of_getElem? hf)
  simpa using this

def Tbl.nil : Tbl := fun _ _ _ => none
def Tbl.cons (f : FuncId) (e : List V → List Blk → Option (Bool × Out)) (t : Tbl) : Tbl := fun g args bs =>
  bif Nat.beq g f then (match e args bs with | some x => some x | none => t g args bs) else t g args bs

section
variable {P : Program} {G : Glob}
theorem nil_ok : CallOk P G Tbl.nil := fun _ _ _ _ h => by cases h
theorem cons_ok {f : FuncId} {e : List V → List Blk → Option (Bool × Out)} {t : Tbl} (ht : CallOk P G t) (he : ∀ args bs out, e args bs = some (true, out) → Fact P G f args bs out) : CallOk P G (Tbl.cons f e t) := fun g args bs out h => by
  unfold Tbl.cons at h
  cases hg : Nat.beq g f with
  | false => rw [hg] at h; exact ht g args bs out h
  | true =>
    rw [hg] at h
    have := Nat.eq_of_beq_eq_true hg
    subst this
    simp only [cond_true] at h
    cases hx : e args bs with
    | none => rw [hx] at h; exact ht g args bs out h
    | some x => rw [hx] at h; cases h; exact he args bs out hx
theorem callN_fact {mode : FuncId → Nat} {tbl : Tbl} (hn : namesOk P = true) (hM : P.follows .mixedOrders = true) (ht : CallOk P G tbl) {n : Nat} {f : FuncId} {args : List V} {bs : List Blk} {out : Out} (h : callN P mode tbl n f args bs = some out) : Fact P G f args bs out :=
  callF_fact (namesOk_spec hn) hM ht (fun r => iterN_sound (namesOk_spec hn) hM ht r 4) h
theorem Fact.args {f : FuncId} {args args' : List V} {bs : List Blk} {out : Out} (h : Fact P G f args' bs out) (ha : ∀ I ρ w xs, RVs I ρ w args xs → RVs I ρ w args' xs) : Fact P G f args bs out :=
  ⟨h.1, fun w ρ I xs hE hx => h.2 w ρ I xs hE (ha _ _ _ _ hx)⟩
theorem Fact.out {f : FuncId} {args : List V} {bs : List Blk} {v v' : V} {bs' : List (Option Blk)} (h : Fact P G f args bs (v, bs')) (hv : ∀ I ρ w x, RV I ρ w v x → RV I ρ w v' x) : Fact P G f args bs (v', bs') :=
  ⟨h.1, fun w ρ I xs hE hx => Calls.mono (h.2 w ρ I xs hE hx) fun e w' ⟨x, ρ', I', he, L⟩ => ⟨x, ρ', I', he, { L with val := hv _ _ _ _ L.val }⟩⟩
theorem lv_fact {mode : FuncId → Nat} {base : Tbl} (hn : namesOk P = true) (hM : P.follows .mixedOrders = true) (ht : CallOk P G base) {n : Nat} {f : FuncId} {args : List V} {bs : List Blk} {out : Out} (h : lv P mode base n f args bs = some (true, out)) : Fact P G f args bs out :=
  lv_sound (namesOk_spec hn) ht hM n f args bs out h
end

/-! Values seen more weakly: nil as an empty slice. -/
section
variable {I : Nat → Prop} {ρ : Nat → Option Tk} {w : World}
theorem RVs_two {v u : V} {vs us : List V} (h1 : ∀ x, RV I ρ w v x → RV I ρ w u x) (h2 : ∀ xs, RVs I ρ w vs xs → RVs I ρ w us xs) {xs : List Value} (h : RVs I ρ w (v :: vs) xs) : RVs I ρ w (u :: us) xs := by
  simp only [RVs] at h ⊢
  obtain ⟨y, r, rfl, g1, g2⟩ := h
  exact ⟨y, r, rfl, h1 y g1, h2 r g2⟩
theorem RV_agg_two {vs us : List V} (h : ∀ xs, RVs I ρ w vs xs → RVs I ρ w us xs) {x : Value} (hx : RV I ρ w (.agg vs) x) : RV I ρ w (.agg us) x := by
  simp only [RV] at hx ⊢
  obtain ⟨ys, rfl, g1, g2⟩ := hx
  exact ⟨ys, rfl, h ys g1, g2⟩
theorem RV_tup_two {vs us : List V} (h : ∀ xs, RVs I ρ w vs xs → RVs I ρ w us xs) {x : Value} (hx : RV I ρ w (.tup vs) x) : RV I ρ w (.tup us) x := by
  simp only [RV] at hx ⊢
  obtain ⟨ys, rfl, g1⟩ := hx
  exact ⟨ys, rfl, h ys g1⟩
theorem RVs_nil : RVs I ρ w [] [] := by simp only [RVs]
theorem RVs_cons {v : V} {x : Value} {vs : List V} {xs : List Value} (h : RV I ρ w v x) (g : RVs I ρ w vs xs) : RVs I ρ w (v :: vs) (x :: xs) := by
  simp only [RVs]; exact ⟨x, xs, rfl, h, g⟩
theorem RV_li {k : IntKind} {v : V} {xs : List Int} (h : asSl (.int k) v = some xs) {x : Value} (hx : RV I ρ w v x) : RV I ρ w (.li k xs) x := asSl_sound ρ (.int k) v xs x h hx
theorem RV_ls {v : V} {xs : List ByteArray} (h : asSl .str v = some xs) {x : Value} (hx : RV I ρ w v x) : RV I ρ w (.ls xs) x := asSl_sound ρ .str v xs x h hx
theorem RV_sl {s : Sh} {v : V} {xs : List (El s)} (h : asSl s v = some xs) {x : Value} (hx : RV I ρ w v x) : RV I ρ w (slV s xs) x := asSl_sound ρ s v xs x h hx
theorem RV_nil_li {k : IntKind} {x : Value} (hx : RV I ρ w (.s (.slice none 0 0)) x) : RV I ρ w (.li k []) x := RV_li (v := .s (.slice none 0 0)) rfl hx
theorem RV_nil_ls {x : Value} (hx : RV I ρ w (.s (.slice none 0 0)) x) : RV I ρ w (.ls []) x := RV_ls (v := .s (.slice none 0 0)) rfl hx
theorem RV_nil_sl {s : Sh} {x : Value} (hx : RV I ρ w (.s (.slice none 0 0)) x) : RV I ρ w (slV s []) x := RV_sl (s := s) (v := .s (.slice none 0 0)) rfl hx
end
end Go.PM
