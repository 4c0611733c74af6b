import Derived.RangeFuncBox
import Derived.RangeFuncLeaves
import Derived.RangeFuncNested
import Derived.Shelf.Abstract
import Derived.Shelf.Spec.TrailingZeros
import Derived.WalkKit
import Derived.OwnWalkIn
import Derived.TacticsInMore
import Derived.LoopNIn
import Derived.LoopIn
import Derived.Maps.AppendAt
import Derived.Test.YtfcedhejbnoinaaDoorProg
import Derived.Test.YtfcedhejbnoinaaDoorVTab64
import Derived.Test.YtfcedhejbnoinaaDoorVPlc
namespace Go.Proofs.YtfcedhejbnoinaaDoor.It
open Go Go.RowKit Go.Shelf Go.Proofs Go.Proofs.YtfcedhejbnoinaaDoorW.PrintLast Go.Proofs.YtfcedhejbnoinaaDoor.Bits
attribute [local go_sem] Oper.semAt_some

set_option maxRecDepth 100000 in
set_option maxHeartbeats 8000000 in
theorem tz.core_in (F : Fence) (n : Nat) (h7 : F.fn 95) (hro : F.round = none) (x k idx : Nat) (w : World) (hx0 : ((x : Int) == 0) = false)
    (key : IntKind.u64.wrap (bits BinOp.and IntKind.u64 (x : Int) (IntKind.u64.wrap (-(x : Int))) * 285870213051353865) / 288230376151711744 = (idx : Int))
    (hi : idx < 64) (hk : k < 64) (hcell : w.cell? ⟨0, idx, none⟩ = some (.int .u8 k)) :
    CallsIn F n Tryd.prog 95 #[.int .u64 x] w fun e w' => e = .returned (.int .i64 k) ∧ w' = w := by
  refine callsIn_of_wp Tryd.func95 rfl h7 ?_ hro
  simp only [Tryd.ntmps95, List.size_toArray, List.length_cons, List.length_nil, Nat.reduceAdd, Nat.reduceSub, Array.replicate_succ, Array.replicate_zero, List.push_toArray, List.append_toArray, List.nil_append, List.cons_append]
  gi_wp2_with (simp only [key])
  go_ret
  exact ⟨rfl, rfl⟩

theorem tz.all_in (F : Fence) (n : Nat) (h7 : F.fn 95) (hro : F.round = none) (x : Nat) (hx : x < 18446744073709551616) (hx0 : x ≠ 0) (w : World) (hT : TabOk w) :
    CallsIn F n Tryd.prog 95 #[.int .u64 x] w fun e w' => e = .returned (.int .i64 (Lib.ctz 64 x)) ∧ w' = w := by
  obtain ⟨hlow, hk⟩ := Lib.lowest_bit 64 x hx0 hx
  obtain ⟨hi, htab⟩ := Lib.deBruijn64_at _ hk
  have hcell := hT _ hi
  rw [htab] at hcell
  exact tz.core_in F n h7 hro x _ _ w (by simp; omega) (tz64_key x _ hx hx0 hlow) hi hk hcell

theorem add_block (a : Addr) (n : Nat) : (a.add n).block = a.block := by unfold Addr.add; split <;> rfl

set_option maxRecDepth 100000 in
set_option maxHeartbeats 4000000 in
/-- The iterator: the places of the words' bits, upward; for every loop body that keeps what lay below n₀. -/
theorem places1_in (F : Fence) (n : Nat) (h7 : F.fn 94) (hro : F.round = none) (hn : 1 ≤ n) (l Bs n₀ len cap : Nat) (A : Option Addr) (N0 : Int) (ws : List Int) (hreach : len ≤ 8) (h152 : F.fn 95) (hn0 : 0 < n₀) (hok : ∀ j, 0 ≤ ws.getD j 0 ∧ ws.getD j 0 < 18446744073709551616) (J Jx : List Int → World → Prop)
    (hY : ∀ pre x W, J pre W → pre.length < (wordsFrom ws len 0).length → YieldAt F (n - 1) Tryd.prog l #[.int .i64 x] W fun e W' =>
      (e = .returned (.bool true) ∧ J (pre ++ [x]) W' ∧ Below n₀ W W') ∨ (e = .returned (.bool false) ∧ Jx (pre ++ [x]) W'))
    (W : World) (_hBs : W.cell? ⟨Bs, 0, none⟩ = some (.int .i64 N0)) (hBs1 : W.cell? ⟨Bs, 1, none⟩ = some (.slice A len cap)) (hc : 0 < len → ∃ ad, A = some ad ∧ ad.block < n₀ ∧ ∀ j, j < len → W.cell? (ad.add j) = some (.int .u64 (ws.getD j 0))) (h0 : J [] W) (hT : TabOk W) :
    CallsIn F n Tryd.prog 94 #[.func (.yield l) #[] #[], .pointer (some ⟨Bs, 0, none⟩)] W fun e W' => (∃ v, e = .returned v) ∧
      (J (wordsFrom ws len 0) W' ∨ (∃ pre, pre <+: wordsFrom ws len 0 ∧ pre ≠ [] ∧ Jx pre W')) := by
  refine callsIn_of_wp Tryd.func94 rfl h7 ?_ hro
  simp only [Tryd.ntmps94, List.size_toArray, List.length_cons, List.length_nil, Nat.reduceAdd, Nat.reduceSub, Array.replicate_succ, Array.replicate_zero, List.push_toArray, List.append_toArray, List.nil_append, List.cons_append]
  gi_wp2
  gi_loopw [8] (fun i wr => ∃ (k : Nat) (pre : List Int), k ≤ len ∧ i = .int .i64 k ∧ pre ++ wordsFrom ws (len - k) k = wordsFrom ws len 0 ∧ J pre wr ∧ Below n₀ W wr)
    (fun i _ => len - (intOf i).toNat)
  case atStart => exact ⟨0, [], Nat.zero_le _, rfl, rfl, h0, Below.refl _ _⟩
  case round =>
    obtain ⟨k, pre, hk, rfl, hpre, hJs, hnx⟩ := hrel
    by_cases hlt : k < len
    · obtain ⟨ad, rfl, hb, hca⟩ := hc (by omega)
      have hcx' : wr.cell? (ad.add k) = some (.int .u64 (ws.getD k 0)) := (hnx.cell (p := ad.add k) ((add_block _ _).symm ▸ hb)).trans (hca k hlt)
      gi_wp2
      gi_loopw [4] (fun q wq => ∃ (v : Nat) (pre2 : List Int), q = .int .u64 v ∧ v < 18446744073709551616 ∧ pre2 ++ (bitsAt k v ++ wordsFrom ws (len - k - 1) (k + 1)) = wordsFrom ws len 0 ∧ J pre2 wq ∧ Below n₀ W wq)
        (fun q _ => (intOf q).toNat)
      case atStart =>
        have ho := hok k
        have e : len - k = (len - k - 1) + 1 := by omega
        rw [e, wordsFrom] at hpre
        exact ⟨(ws.getD k 0).toNat, pre, by rw [Int.toNat_of_nonneg ho.1]; simp, by omega, hpre, hJs, hnx⟩
      case round =>
        obtain ⟨v, pre2, rfl, hv, hpre2, hJ2, hn2⟩ := hrel
        by_cases hv0 : v = 0
        · subst hv0
          gi_wp2
          go_roundw
          case rel =>
            have e : len - k - 1 = len - (k + 1) := by omega
            refine ⟨k + 1, pre2, by omega, by simp, ?_, hJ2, hn2⟩
            rw [e] at hpre2
            simpa [bitsAt, bitsOf_zero] using hpre2
          case measure => simp [intOf]; omega
        · have hT2 : TabOk wr := fun j hj => (hn2.cell (p := ⟨0, j, none⟩) hn0).trans (hT j hj)
          have hst := bitsOf_step hv0 (by omega)
          have hpre3 : pre2 ++ [((64 * k + Lib.ctz 64 v : Nat) : Int)] ++ (bitsAt k (v &&& (v - 1)) ++ wordsFrom ws (len - k - 1) (k + 1)) = wordsFrom ws len 0 := by
            rw [← hpre2, bitsAt, bitsAt, hst]; simp
          have hlen : pre2.length < (wordsFrom ws len 0).length := by rw [← hpre3]; simp
          have hct := (parts hv0 (by omega)).elim fun _ h => h.2
          have hxe : ((64 * k + Lib.ctz 64 v : Nat) : Int) = wrap64 ((k : Int) * 64 + (Lib.ctz 64 v : Int)) := by unfold wrap64; omega
          rw [hxe] at hpre3
          clear hxe hct
          have hand : IntKind.u64.wrap ((v : Int) - 1) = ((v - 1 : Nat) : Int) := by
            rw [Row.wraps_u64 _ (by omega) (by omega)]; omega
          have hand2 : Go.bits .and .u64 (v : Int) ((v - 1 : Nat) : Int) = ((v &&& (v - 1) : Nat) : Int) := Row.bits_and _ _ (by omega) (by omega)
          have hlt2 : v &&& (v - 1) < v := Nat.lt_of_le_of_lt Nat.and_le_right (by omega)
          obtain ⟨fn, tmps, assign, body, hy, hR⟩ := hY pre2 (wrap64 ((k : Int) * 64 + (Lib.ctz 64 v : Int))) _ hJ2 hlen
          gi_wp2
          refine (tz.all_in F (n - 1) h152 hro v hv hv0 _ hT2).mono ?_
          rintro e w3 ⟨rfl, rfl⟩
          gi_wp2
          refine hR.mono ?_
          rintro e W3 (⟨rfl, hJ3, hk3⟩ | ⟨rfl, hJx3⟩)
          · gi_wp2_with (first | simp only [hand] | simp only [hand2])
            go_roundw
            case rel => exact ⟨v &&& (v - 1), _, rfl, by omega, hpre3, hJ3, hn2.trans hk3⟩
            case measure => simp only [intOf, Int.toNat_natCast]; exact hlt2
          · gi_wp2
            refine bodyPost_ret (results_none rfl _ _ _) rfl ?_
            exact ⟨⟨_, rfl⟩, .inr ⟨_, ⟨_, hpre3⟩, by simp, hJx3⟩⟩
    · obtain rfl : k = len := by omega
      gi_wp2
      go_end0
      rw [Nat.sub_self] at hpre
      have hp : pre = wordsFrom ws k 0 := by simpa [wordsFrom] using hpre
      exact ⟨⟨_, rfl⟩, .inl (hp ▸ hJs)⟩

/-- What the iterator reads: the row's struct in its box, the words, the library's table. -/
structure RowAt (n₀ : Nat) (W : World) (Bs len cap : Nat) (A : Option Addr) (N0 : Int) (ws : List Int) : Prop where
  c0 : W.cell? ⟨Bs, 0, none⟩ = some (.int .i64 N0)
  c1 : W.cell? ⟨Bs, 1, none⟩ = some (.slice A len cap)
  lt : Bs < n₀
  wd : 0 < len → ∃ ad, A = some ad ∧ ad.block < n₀ ∧ ∀ j, j < len → W.cell? (ad.add j) = some (.int .u64 (ws.getD j 0))
  tab : TabOk W
  pos : 0 < n₀
  small : len ≤ 8
  ok : ∀ j, 0 ≤ ws.getD j 0 ∧ ws.getD j 0 < 18446744073709551616
theorem RowAt.below {n₀ : Nat} {W W' : World} {Bs len cap : Nat} {A : Option Addr} {N0 : Int} {ws : List Int} (h : RowAt n₀ W Bs len cap A N0 ws) (hb : Below n₀ W W') : RowAt n₀ W' Bs len cap A N0 ws :=
  { h with
    c0 := (hb.cell (p := ⟨Bs, 0, none⟩) h.lt).trans h.c0
    c1 := (hb.cell (p := ⟨Bs, 1, none⟩) h.lt).trans h.c1
    wd := fun hl => by
      obtain ⟨ad, e, hbl, hc⟩ := h.wd hl
      exact ⟨ad, e, hbl, fun j hj => (hb.cell (p := ad.add j) ((add_block _ _).symm ▸ hbl)).trans (hc j hj)⟩
    tab := fun j hj => (hb.cell (p := ⟨0, j, none⟩) h.pos).trans (h.tab j hj) }

theorem places_stops (F : Fence) (n : Nat) (h94 : F.fn 94) (h95 : F.fn 95) (hro : F.round = none) (hn : 1 ≤ n) (n₀ Bs len cap : Nat) (A : Option Addr) (N0 : Int) (ws : List Int) (w : World) (hn₀ : n₀ ≤ w.heap.size) (h : RowAt n₀ w Bs len cap A N0 ws) :
    SeqStopsK F n Tryd.prog 94 #[.pointer (some ⟨Bs, 0, none⟩)] (fun x : Int => #[Value.int .i64 x]) (Below n₀) (fun ys => ys = wordsFrom ws len 0) (fun pre => pre <+: wordsFrom ws len 0 ∧ pre ≠ []) (wordsFrom ws len 0).length w := fun l J Jx W hW _ _ hY h0 => by
  have h' := h.below (hW.mono hn₀)
  refine (places1_in F n h94 hro hn l Bs n₀ len cap A N0 ws h.small h95 h.pos h.ok J Jx hY W h'.c0 h'.c1 h'.wd h0 h'.tab).mono ?_
  rintro e W' ⟨he, hj | ⟨pre, hp, hne, hj⟩⟩
  · exact ⟨he, .inl ⟨_, rfl, hj⟩⟩
  · exact ⟨he, .inr ⟨pre, ⟨hp, hne⟩, hj⟩⟩

set_option maxRecDepth 100000 in
set_option maxHeartbeats 1000000 in
theorem places_in (F : Fence) (n : Nat) (h64 : F.fn 64) (hro : F.round = none) (N0 : Int) (A : Option Addr) (len cap : Nat) (w : World) :
    CallsIn F n Tryd.prog 64 #[.agg #[.int .i64 N0, .slice A len cap]] w fun e w' => e = .returned (.func (.func 94) #[] #[.pointer (some ⟨w.heap.size, 0, none⟩)]) ∧ w' = w.alloc (.cells #[.int .i64 N0, .slice A len cap] 25) := by
  refine callsIn_of_wp Tryd.func64 rfl h64 ?_ hro
  simp only [Tryd.ntmps64, List.size_toArray, List.length_cons, List.length_nil, Nat.reduceAdd, Nat.reduceSub, Array.replicate_succ, Array.replicate_zero, List.push_toArray, List.append_toArray, List.nil_append, List.cons_append]
  gi_wp2
  go_ret
  exact ⟨rfl, rfl⟩

theorem infoInt : (Tryd.prog.info? 3).map (fun i => (i.zero, i.size, i.bytes)) = some (some (.int .i64 0), 1, 8) := by kernel_rfl

theorem wf_len (ws : List Int) (d : Nat) : ∀ k, (wordsFrom ws d k).length ≤ 64 * d := by
  induction d with
  | zero => intro k; simp [wordsFrom]
  | succ d ih =>
    intro k
    rw [wordsFrom, List.length_append]
    have h1 := ih (k + 1)
    have h2 : (bitsAt k (ws.getD k 0).toNat).length ≤ 64 := by
      unfold bitsAt bitsOf
      rw [List.length_map]
      exact Nat.le_trans (List.length_filter_le _ _) (by simp)
    omega

set_option maxRecDepth 100000 in
set_option maxHeartbeats 4000000 in
/-- slices.AppendSeq(nil, places of a row): a slice of the call's own that holds them. -/
theorem append_in (F : Fence) (n : Nat) (h93 : F.fn 93) (h94 : F.fn 94) (h95 : F.fn 95) (hro : F.round = none) (hn : 3 ≤ n) (Bs len cap : Nat) (A : Option Addr) (N0 : Int) (ws : List Int) (w : World) (h : RowAt w.heap.size w Bs len cap A N0 ws) :
    CallsIn F n Tryd.prog 93 #[.slice none 0 0, .func (.func 94) #[] #[.pointer (some ⟨Bs, 0, none⟩)]] w fun e W' => ∃ v, e = .returned v ∧ W'.ownsRow w.heap.size 3 1 v (wordsFrom ws len 0).length ((wordsFrom ws len 0).map (Value.int .i64)) ∧ (v = .slice none 0 0 ↔ wordsFrom ws len 0 = []) ∧ Below w.heap.size w W' := by
  have h1 : 1 ≤ n := by omega
  have hwl := wf_len ws len 0
  have hsm := h.small
  have hmx : 512 ≤ maxLen := by decide
  obtain ⟨i0, hi, hz0, hz1, hz2⟩ := info_parts infoInt
  refine callsIn_of_wp_marks Tryd.func93 rfl h93 ?_ hro
  simp only [Tryd.ntmps93, List.size_toArray, List.length_cons, List.length_nil, Nat.reduceAdd, Nat.reduceSub, Array.replicate_succ, Array.replicate_zero, List.push_toArray, List.append_toArray, List.nil_append, List.cons_append]
  gi_wp2
  have bO := Boxed.new w 34 (.slice none 0 0)
  have hB0 : Below w.heap.size w (w.alloc (.cells #[.slice none 0 0] 34)) := (Below.refl _ w).alloc (Nat.le_refl _) _
  refine wpIn_rangeFunc_ownG hro h1 (gf := 94) (lb := #[.pointer (some ⟨Bs, 0, none⟩)]) rfl h94 (enters_of Tryd.func94 (by kernel_rfl) rfl)
    (places_stops F (n - 1) h94 h95 hro (by omega) w.heap.size Bs len cap A N0 ws _ (by simp) (h.below hB0)) belowK_t (belowK_b (by simp)) (Below.refl _ _) (fun _ => rfl)
    (fun pre W => (∃ v, Boxed W w.heap.size 34 v ∧ W.ownsRow w.heap.size 3 1 v pre.length (pre.map (Value.int .i64)) ∧ (v = .slice none 0 0 ↔ pre = [])) ∧ Below w.heap.size w W)
    (fun _ _ _ => False)
    (OwnFrom.and (Own.from (holdsRow_own w.heap.size w.heap.size 34 3 1 (fun pre : List Int => pre.length) (fun pre => pre.map (Value.int .i64)) (fun pre v => v = .slice none 0 0 ↔ pre = [])) _) (ownFrom_below (Nat.le_refl _) (by simp)))
    (fun _ _ _ _ _ hs _ _ => hs)
    ⟨⟨_, bO, World.ownsRow_nil _ _ _ _, by simp⟩, hB0⟩
    (fun x => { tmps := #[.slice none 0 0, .func (.func 94) #[] #[.pointer (some ⟨Bs, 0, none⟩)], .pointer (some ⟨w.heap.size, 0, none⟩), undef, .slice none 0 0, .int .i64 x, .func (.func 94) #[] #[.pointer (some ⟨Bs, 0, none⟩)], .int .i64 x, undef, undef, undef, undef, undef], defers := [] }) ?assign ?body ?done ?stop
  case assign =>
    intro l x W K hK
    gi_wp2
    exact hK
  case body =>
    rintro l pre x W ⟨⟨v, hv, hrow, hnil⟩, hB⟩ hlt
    have hc := hv.cell
    gi_wp2_with (gi_at_builtin; refine wpListIn_append_own _ rfl _ _ 34 rfl w.heap.size 3 i0 (.int .i64 0) 1 8 Tryd.underlying34 hi hz0 hz1 hz2 rfl (by decide) _ _ _ rfl (hrow.alloc _) ⟨W.heap.size, 0, none⟩ 1 1 [.int .i64 x] rfl rfl (cell_one_new _ _ _) (by simp [Value.oneCell']) (by omega) (by omega) (by have := hB.size; simp; omega) ?_; intro v' w1 hown' hgrow _; obtain ⟨g', cap', rfl⟩ := ownsRow_succ hown'; obtain ⟨hv1, hv2, hr2, hk2, hb2⟩ := hv.appended (by decide) hrow hB.size (Nat.le_refl _) hown' hgrow; have hc1 := hv1.cell; have hf1 := hv1.frozen)
    exact ⟨hk2.from _, hb2, ⟨_, hv2, by simpa using hr2, by simp⟩, hB.trans hb2⟩
  case done =>
    rintro D ys W hD rfl ⟨⟨v, hv, hrow, hnil⟩, hB⟩ hK
    have hc := hv.cell
    gi_wp2
    refine ⟨by simp, .inl ⟨_, _, rfl, run_takeDeferred hK, ?_⟩⟩
    exact ⟨_, results_tmp rfl _ _ _, v, rfl, ownsRow_putObj hrow _ hK rfl, hnil, hB.trans (belowK_b (w := w) (Nat.le_refl _) W D _ _ (by simp at hD; omega) hK rfl rfl)⟩
  case stop =>
    rintro D c pre W _ _ h _
    exact h.elim

set_option maxRecDepth 100000 in
set_option maxHeartbeats 1000000 in
theorem collect_in (F : Fence) (n : Nat) (h63 : F.fn 63) (h93 : F.fn 93) (h94 : F.fn 94) (h95 : F.fn 95) (hro : F.round = none) (hn : 4 ≤ n) (Bs len cap : Nat) (A : Option Addr) (N0 : Int) (ws : List Int) (w : World) (h : RowAt w.heap.size w Bs len cap A N0 ws) :
    CallsIn F n Tryd.prog 63 #[.func (.func 94) #[] #[.pointer (some ⟨Bs, 0, none⟩)]] w fun e W' => ∃ v, e = .returned v ∧ W'.ownsRow w.heap.size 3 1 v (wordsFrom ws len 0).length ((wordsFrom ws len 0).map (Value.int .i64)) ∧ Below w.heap.size w W' := by
  have h1 : 1 ≤ n := by omega
  refine callsIn_of_wp Tryd.func63 rfl h63 ?_ hro
  simp only [Tryd.ntmps63, List.size_toArray, List.length_cons, List.length_nil, Nat.reduceAdd, Nat.reduceSub, Array.replicate_succ, Array.replicate_zero, List.push_toArray, List.append_toArray, List.nil_append, List.cons_append]
  gi_wp2_with (gi_at_call 93; refine (append_in F (n - 1) h93 h94 h95 hro (by omega) Bs len cap A N0 ws w h).mono ?_; rintro e W' ⟨v, rfl, hrow, _, hB⟩)
  go_ret
  exact ⟨_, rfl, hrow, hB⟩
end Go.Proofs.YtfcedhejbnoinaaDoor.It
