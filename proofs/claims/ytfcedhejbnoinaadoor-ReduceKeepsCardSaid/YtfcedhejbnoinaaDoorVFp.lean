/- bitrow.Places and bitrow.First: the walks over the iterator of a row's places. What bitrow.Right answers is handed in. -/
import Derived.Test.YtfcedhejbnoinaaDoorVIt
namespace Go.Proofs.YtfcedhejbnoinaaDoor.It
open Go Go.RowKit Go.Shelf Go.Proofs Go.Proofs.YtfcedhejbnoinaaDoorW.PrintLast Go.Proofs.YtfcedhejbnoinaaDoor.Bits
attribute [local go_sem] Oper.semAt_some

/-- A row's words, ahead of its box. -/
structure WordsAt (W : World) (len : Nat) (A : Option Addr) (ws : List Int) : Prop where
  wd : 0 < len → ∃ ad, A = some ad ∧ ad.block < W.heap.size ∧ ∀ j, j < len → W.cell? (ad.add j) = some (.int .u64 (ws.getD j 0))
  tab : TabOk W
  small : len ≤ 8
  ok : ∀ j, 0 ≤ ws.getD j 0 ∧ ws.getD j 0 < 18446744073709551616
theorem own_lower {w : World} {base base' : Nat} {e : TypeId} {size n : Nat} {v : Value} {xs : List Value} (h : w.ownsRow base e size v n xs) (hb : base' ≤ base) : w.ownsRow base' e size v n xs := by
  obtain ⟨h1, h2⟩ := h
  refine ⟨h1, ?_⟩
  rcases h2 with h2 | ⟨g, cap, cur, e1, hg, r⟩
  · exact .inl h2
  · exact .inr ⟨g, cap, cur, e1, Nat.le_trans hb hg, r⟩
theorem box_cells {w W' : World} {a b : Value} {t : TypeId} (hB : Below (w.alloc (.cells #[a, b] t)).heap.size (w.alloc (.cells #[a, b] t)) W') : W'.cell? ⟨w.heap.size, 0, none⟩ = some a ∧ W'.cell? ⟨w.heap.size, 1, none⟩ = some b := by
  have hbx : (w.alloc (.cells #[a, b] t)).heap[w.heap.size]? = some (.cells #[a, b] t (0, 0)) := World.alloc_heap_new w _
  refine ⟨(hB.cell (p := ⟨w.heap.size, 0, none⟩) (by simp)).trans ?_, (hB.cell (p := ⟨w.heap.size, 1, none⟩) (by simp)).trans ?_⟩
  · unfold World.cell?; rw [hbx]; rfl
  · unfold World.cell?; rw [hbx]; rfl
theorem WordsAt.box {w W : World} {len cap : Nat} {A : Option Addr} {N0 : Int} {ws : List Int} (h : WordsAt w len A ws) (hb : Below w.heap.size w W) (t : TypeId) : RowAt (W.alloc (.cells #[.int .i64 N0, .slice A len cap] t)).heap.size (W.alloc (.cells #[.int .i64 N0, .slice A len cap] t)) W.heap.size len cap A N0 ws := by
  have hp : 0 < w.heap.size := World.block_lt_of_cell? w _ (h.tab 0 (by decide))
  have hb2 : Below w.heap.size w (W.alloc (.cells #[.int .i64 N0, .slice A len cap] t)) := hb.alloc hb.size _
  have hbx : (W.alloc (.cells #[.int .i64 N0, .slice A len cap] t)).heap[W.heap.size]? = some (.cells #[.int .i64 N0, .slice A len cap] t (0, 0)) := World.alloc_heap_new W _
  exact { c0 := by unfold World.cell?; rw [hbx]; rfl
          c1 := by unfold World.cell?; rw [hbx]; rfl
          lt := by simp
          wd := fun hl => by
            obtain ⟨ad, e, hbl, hc⟩ := h.wd hl
            exact ⟨ad, e, by have := hb.size; simp; omega, fun j hj => (hb2.cell (p := ad.add j) ((add_block _ _).symm ▸ hbl)).trans (hc j hj)⟩
          tab := h.tab.below hb2
          pos := by simp
          small := h.small
          ok := h.ok }

set_option maxRecDepth 100000 in
set_option maxHeartbeats 4000000 in
theorem Places_no (F : Fence) (n : Nat) (h19 : F.fn 19) (h31 : F.fn 31) (hro : F.round = none) (hn : 6 ≤ n) (N0 : Int) (A : Option Addr) (len cap : Nat) (w : World)
    (hR : ∀ W, Below w.heap.size w W → CallsIn F (n - 1) Tryd.prog 31 #[.agg #[.int .i64 N0, .slice A len cap]] W fun e W' => e = .returned (.bool false) ∧ Below W.heap.size W W') :
    CallsIn F n Tryd.prog 19 #[.agg #[.int .i64 N0, .slice A len cap]] w fun e W' => e = .returned (.tuple #[.slice none 0 0, .int .i64 1]) ∧ Below w.heap.size w W' := by
  have h1 : 1 ≤ n := by omega
  refine callsIn_of_wp Tryd.func19 rfl h19 ?_ hro
  simp only [Tryd.ntmps19, List.size_toArray, List.length_cons, List.length_nil, Nat.reduceAdd, Nat.reduceSub, Array.replicate_succ, Array.replicate_zero, List.push_toArray, List.append_toArray, List.nil_append, List.cons_append]
  have hB0 : Below w.heap.size w (w.alloc (.cells #[.int .i64 N0, .slice A len cap] 25)) := (Below.refl _ w).alloc (Nat.le_refl _) _
  gi_wp2_with (gi_at_call 31; refine (hR _ hB0).mono ?_; rintro e W' ⟨rfl, hB⟩; obtain ⟨q0, q1⟩ := box_cells hB; have hB1 := hB0.trans (hB.mono hB0.size))
  go_ret2
  exact ⟨rfl, hB1⟩

set_option maxRecDepth 100000 in
set_option maxHeartbeats 4000000 in
theorem Places_yes (F : Fence) (n : Nat) (h19 : F.fn 19) (h64 : F.fn 64) (h63 : F.fn 63) (h93 : F.fn 93) (h94 : F.fn 94) (h95 : F.fn 95) (h31 : F.fn 31) (hro : F.round = none) (hn : 6 ≤ n) (N0 : Int) (A : Option Addr) (len cap : Nat) (ws : List Int) (w : World) (h : WordsAt w len A ws)
    (hR : ∀ W, Below w.heap.size w W → CallsIn F (n - 1) Tryd.prog 31 #[.agg #[.int .i64 N0, .slice A len cap]] W fun e W' => e = .returned (.bool true) ∧ Below W.heap.size W W') :
    CallsIn F n Tryd.prog 19 #[.agg #[.int .i64 N0, .slice A len cap]] w fun e W' => ∃ v, e = .returned (.tuple #[v, .int .i64 0]) ∧ W'.ownsRow w.heap.size 3 1 v (wordsFrom ws len 0).length ((wordsFrom ws len 0).map (Value.int .i64)) ∧ Below w.heap.size w W' := by
  have h1 : 1 ≤ n := by omega
  refine callsIn_of_wp Tryd.func19 rfl h19 ?_ hro
  simp only [Tryd.ntmps19, List.size_toArray, List.length_cons, List.length_nil, Nat.reduceAdd, Nat.reduceSub, Array.replicate_succ, Array.replicate_zero, List.push_toArray, List.append_toArray, List.nil_append, List.cons_append]
  have hB0 : Below w.heap.size w (w.alloc (.cells #[.int .i64 N0, .slice A len cap] 25)) := (Below.refl _ w).alloc (Nat.le_refl _) _
  gi_wp2_with (first
    | (gi_at_call 31; refine (hR _ hB0).mono ?_; rintro e W' ⟨rfl, hB⟩; obtain ⟨q0, q1⟩ := box_cells hB; have hB1 := hB0.trans (hB.mono hB0.size))
    | (gi_at_call 64; refine (places_in F (n - 1) h64 hro N0 A len cap _).mono ?_; rintro e W2 ⟨rfl, rfl⟩)
    | (gi_at_call 63; refine (collect_in F (n - 1) h63 h93 h94 h95 hro (by omega) _ len cap A N0 ws _ (h.box hB1 _)).mono ?_; rintro e W3 ⟨v, rfl, hrow, hB3⟩))
  go_ret2
  have hs := hB1.size
  exact ⟨v, rfl, own_lower hrow (by simp; omega), (hB1.alloc hs _).trans (hB3.mono (by simp; omega))⟩


theorem boxed_below {W W' : World} {B : Nat} {t : TypeId} {v : Value} (h : Boxed W B t v) (hb : Below W.heap.size W W') : Boxed W' B t v := (hb.block B h.lt).trans h

/-- A box of two cells. -/
def Box2 (W : World) (B : Nat) (a b : Value) : Prop := B < W.heap.size ∧ W.cell? ⟨B, 0, none⟩ = some a ∧ W.cell? ⟨B, 1, none⟩ = some b
theorem Box2.below {W W' : World} {B : Nat} {a b : Value} (h : Box2 W B a b) (hb : Below W.heap.size W W') : Box2 W' B a b :=
  ⟨by have := h.1; have := hb.size; omega, (hb.cell (p := ⟨B, 0, none⟩) h.1).trans h.2.1, (hb.cell (p := ⟨B, 1, none⟩) h.1).trans h.2.2⟩
theorem Box2.new (w : World) (a b : Value) (t : TypeId) : Box2 (w.alloc (.cells #[a, b] t)) w.heap.size a b := by
  have hbx : (w.alloc (.cells #[a, b] t)).heap[w.heap.size]? = some (.cells #[a, b] t (0, 0)) := World.alloc_heap_new w _
  refine ⟨by simp, ?_, ?_⟩
  · unfold World.cell?; rw [hbx]; rfl
  · unfold World.cell?; rw [hbx]; rfl

theorem first_start {w w1 : World} {N0 : Int} {A : Option Addr} {len cap : Nat} {t t1 t2 : TypeId} (hw1 : w.alloc (.cells #[.int .i64 N0, .slice A len cap] t) = w1) :
    Box2 ((w1.alloc (.cells #[.int .i64 0] t1)).alloc (.cells #[.int .i64 0] t2)) w.heap.size (.int .i64 N0) (.slice A len cap) ∧
    Boxed ((w1.alloc (.cells #[.int .i64 0] t1)).alloc (.cells #[.int .i64 0] t2)) (w.heap.size + 1) t1 (.int .i64 0) ∧ Boxed ((w1.alloc (.cells #[.int .i64 0] t1)).alloc (.cells #[.int .i64 0] t2)) (w.heap.size + 1 + 1) t2 (.int .i64 0) ∧
    Below w.heap.size w ((w1.alloc (.cells #[.int .i64 0] t1)).alloc (.cells #[.int .i64 0] t2)) ∧ w1.heap.size = w.heap.size + 1 := by
  have hs : w1.heap.size = w.heap.size + 1 := by rw [← hw1]; simp
  have b0 : Box2 w1 w.heap.size (.int .i64 N0) (.slice A len cap) := by rw [← hw1]; exact Box2.new _ _ _ _
  have hB : Below w.heap.size w w1 := by rw [← hw1]; exact (Below.refl _ w).alloc (Nat.le_refl _) _
  have b2 := Boxed.new (w1.alloc (.cells #[.int .i64 0] t1)) t2 (.int .i64 0)
  rw [World.size_alloc] at b2
  have b1 := (Boxed.new w1 t1 (.int .i64 0)).alloc (.cells #[.int .i64 0] t2)
  rw [hs] at b1 b2
  exact ⟨b0.below (((Below.refl _ w1).alloc (Nat.le_refl _) _).alloc (by simp) _), b1, b2, (hB.alloc hB.size _).alloc (by simp; omega) _, hs⟩

set_option maxRecDepth 100000 in
set_option maxHeartbeats 4000000 in
theorem First_no (F : Fence) (n : Nat) (h20 : F.fn 20) (h31 : F.fn 31) (hro : F.round = none) (hn : 6 ≤ n) (N0 : Int) (A : Option Addr) (len cap : Nat) (w : World)
    (hR : ∀ W, Below w.heap.size w W → CallsIn F (n - 1) Tryd.prog 31 #[.agg #[.int .i64 N0, .slice A len cap]] W fun e W' => e = .returned (.bool false) ∧ Below W.heap.size W W') :
    CallsIn F n Tryd.prog 20 #[.agg #[.int .i64 N0, .slice A len cap]] w fun e W' => e = .returned (.tuple #[.int .i64 0, .int .i64 1]) ∧ Below w.heap.size w W' := by
  have h1 : 1 ≤ n := by omega
  refine callsIn_of_wp_marks Tryd.func20 rfl h20 ?_ hro
  simp only [Tryd.ntmps20, List.size_toArray, List.length_cons, List.length_nil, Nat.reduceAdd, Nat.reduceSub, Array.replicate_succ, Array.replicate_zero, List.push_toArray, List.append_toArray, List.nil_append, List.cons_append]
  obtain ⟨w1, hw1⟩ : ∃ w1, w.alloc (.cells #[.int .i64 N0, .slice A len cap] 25) = w1 := ⟨_, rfl⟩
  obtain ⟨b0, b1, b2, hB0, hsz⟩ := first_start (t1 := 3) (t2 := 27) hw1
  have c0 := b0.2.1
  have c1 := b0.2.2
  gi_wp2_with (gi_at_call 31; refine (hR _ hB0).mono ?_; rintro e W' ⟨rfl, hB⟩; have b1' := boxed_below b1 hB; have b2' := boxed_below b2 hB; have g1 := b1'.cell; have f1 := b1'.frozen; have g2 := b2'.cell; have f2 := b2'.frozen; have hB1 := hB0.trans (hB.mono hB0.size); clear c0 c1)
  have e1 := ((Boxed.set (.int .i64 0) b1').other (B' := w.heap.size + 1 + 1) (by omega) (.int .i64 1)).cell
  have e2 := (Boxed.set (.int .i64 1) (b2'.other (B' := w.heap.size + 1) (by omega) (.int .i64 0))).cell
  refine ⟨.tuple #[.int .i64 0, .int .i64 1], ?_, rfl, (hB1.setCell (p := ⟨w.heap.size + 1, 0, none⟩) (by simp) _).setCell (p := ⟨w.heap.size + 1 + 1, 0, none⟩) (by simp; omega) _⟩
  simp [results, Tryd.f20, go_sem, e1, e2]

set_option maxRecDepth 100000 in
set_option maxHeartbeats 4000000 in
theorem First_yes (F : Fence) (n : Nat) (h20 : F.fn 20) (h31 : F.fn 31) (h64 : F.fn 64) (h94 : F.fn 94) (h95 : F.fn 95) (hro : F.round = none) (hn : 6 ≤ n) (N0 : Int) (A : Option Addr) (len cap : Nat) (ws : List Int) (w : World) (h : WordsAt w len A ws) (x0 y0 : Int) (hx0 : wordsFrom ws len 0 = [] → x0 = 0 ∧ y0 = 4) (hy0 : ∀ z tl, wordsFrom ws len 0 = z :: tl → x0 = z ∧ y0 = 0)
    (hR : ∀ W, Below w.heap.size w W → CallsIn F (n - 1) Tryd.prog 31 #[.agg #[.int .i64 N0, .slice A len cap]] W fun e W' => e = .returned (.bool true) ∧ Below W.heap.size W W') :
    CallsIn F n Tryd.prog 20 #[.agg #[.int .i64 N0, .slice A len cap]] w fun e W' => e = .returned (.tuple #[.int .i64 x0, .int .i64 y0]) ∧ Below w.heap.size w W' := by
  have h1 : 1 ≤ n := by omega
  refine callsIn_of_wp_marks Tryd.func20 rfl h20 ?_ hro
  simp only [Tryd.ntmps20, List.size_toArray, List.length_cons, List.length_nil, Nat.reduceAdd, Nat.reduceSub, Array.replicate_succ, Array.replicate_zero, List.push_toArray, List.append_toArray, List.nil_append, List.cons_append]
  obtain ⟨w1, hw1⟩ : ∃ w1, w.alloc (.cells #[.int .i64 N0, .slice A len cap] 25) = w1 := ⟨_, rfl⟩
  obtain ⟨b0, b1, b2, hB0, hsz⟩ := first_start (t1 := 3) (t2 := 27) hw1
  have c0 := b0.2.1
  have c1 := b0.2.2
  gi_wp2_with (first
    | (gi_at_call 31; refine (hR _ hB0).mono ?_; rintro e W' ⟨rfl, hB⟩; have b0' := b0.below hB; have b1' := boxed_below b1 hB; have b2' := boxed_below b2 hB; have hB1 := hB0.trans (hB.mono hB0.size); clear c0 c1; have c0 := b0'.2.1; have c1 := b0'.2.2)
    | (gi_at_call 64; refine (places_in F (n - 1) h64 hro N0 A len cap _).mono ?_; rintro e W2 ⟨rfl, rfl⟩))
  clear c0 c1
  obtain ⟨Wp, hWp⟩ : ∃ Wp, W'.alloc (.cells #[.int .i64 N0, .slice A len cap] 25) = Wp := ⟨_, rfl⟩
  have hrow := h.box (N0 := N0) (cap := cap) hB1 25
  have bb1 := Boxed.alloc b1' (.cells #[.int .i64 N0, .slice A len cap] 25)
  have bb2 := Boxed.alloc b2' (.cells #[.int .i64 N0, .slice A len cap] 25)
  have hBp : Below w.heap.size w Wp := by rw [← hWp]; exact hB1.alloc hB1.size _
  have hsp : Wp.heap.size = W'.heap.size + 1 := by rw [← hWp]; simp
  rw [hWp] at hrow bb1 bb2 ⊢
  have hl1 := bb1.lt
  have hl2 := bb2.lt
  refine wpIn_rangeFunc_ownG hro h1 (gf := 94) (lb := #[.pointer (some ⟨W'.heap.size, 0, none⟩)]) rfl h94 (enters_of Tryd.func94 (by kernel_rfl) rfl)
    (places_stops F (n - 1) h94 h95 hro (by omega) Wp.heap.size W'.heap.size len cap A N0 ws _ (Nat.le_refl _) hrow) belowK_t (belowK_b (Nat.le_refl _)) (Below.refl _ _) (fun _ => rfl)
    (fun pre W => (pre = [] ∧ Boxed W (w.heap.size + 1) 3 (.int .i64 0) ∧ Boxed W (w.heap.size + 1 + 1) 27 (.int .i64 0)) ∧ Below w.heap.size w W)
    (fun c pre W => (c = .ret ∧ ∃ x, pre = [x] ∧ Boxed W (w.heap.size + 1) 3 (.int .i64 x) ∧ Boxed W (w.heap.size + 1 + 1) 27 (.int .i64 0)) ∧ Below w.heap.size w W)
    (OwnFrom.and (Own.from (fun s A B row hs hg hr => ⟨hs.1, boxed_own (β := List Int) _ _ (fun _ => .int .i64 0) s A B row hs.2.1 hg hr, boxed_own (β := List Int) _ _ (fun _ => .int .i64 0) s A B row hs.2.2 hg hr⟩) _) (ownFrom_below (Nat.le_refl _) (by omega)))
    (fun c => OwnFrom.and (Own.from (fun s A B row hs hg hr => by obtain ⟨h1, x, h2, h3, h4⟩ := hs; exact ⟨h1, x, h2, boxed_own (β := List Int) _ _ (fun _ => .int .i64 x) s A B row h3 hg hr, boxed_own (β := List Int) _ _ (fun _ => .int .i64 0) s A B row h4 hg hr⟩) _) (ownFrom_below (Nat.le_refl _) (by omega)))
    ⟨⟨rfl, bb1, bb2⟩, hBp⟩
    (fun x => { tmps := #[.agg #[.int .i64 N0, .slice A len cap], .pointer (some ⟨w.heap.size, 0, none⟩), .pointer (some ⟨w.heap.size + 1, 0, none⟩), .pointer (some ⟨w.heap.size + 1 + 1, 0, none⟩), .int .i64 x, .agg #[.int .i64 N0, .slice A len cap], .bool true, .bool false, .agg #[.int .i64 N0, .slice A len cap], .func (.func 94) #[] #[.pointer (some ⟨W'.heap.size, 0, none⟩)], .int .i64 x, undef], defers := [] }) ?assign ?body ?done ?stop
  case assign =>
    intro l x W K hK
    gi_wp2
    exact hK
  case body =>
    rintro l pre x W ⟨⟨rfl, hv1, hv2⟩, hBw⟩ _
    have g1 := hv1.cell
    have f1 := hv1.frozen
    have g2 := hv2.cell
    have f2 := hv2.frozen
    gi_wp2
    exact ⟨((KeepsOthers.setCell _ _ _).trans (KeepsOthers.setCell _ _ _)).from _, ⟨rfl, x, rfl, (Boxed.set _ hv1).other (by omega) _, Boxed.set _ (hv2.other (by omega) _)⟩, (hBw.setCell (p := ⟨w.heap.size + 1, 0, none⟩) (by simp) _).setCell (p := ⟨w.heap.size + 1 + 1, 0, none⟩) (by simp; omega) _⟩
  case done =>
    rintro D ys W hD rfl ⟨⟨he, hv1, hv2⟩, hBw⟩ hK
    have g1 := hv1.cell
    have f1 := hv1.frozen
    have g2 := hv2.cell
    have f2 := hv2.frozen
    gi_wp2
    have hK' := ((KeepsOthers.setCell W ⟨w.heap.size + 1, 0, none⟩ (.int .i64 0)).trans (KeepsOthers.setCell _ ⟨w.heap.size + 1 + 1, 0, none⟩ (.int .i64 4))).same D _ hK rfl
    have v1 : Boxed ((W.setCell ⟨w.heap.size + 1, 0, none⟩ (.int .i64 0)).setCell ⟨w.heap.size + 1 + 1, 0, none⟩ (.int .i64 4)) (w.heap.size + 1) 3 (.int .i64 0) := (Boxed.set _ hv1).other (by omega) _
    have v2 : Boxed ((W.setCell ⟨w.heap.size + 1, 0, none⟩ (.int .i64 0)).setCell ⟨w.heap.size + 1 + 1, 0, none⟩ (.int .i64 4)) (w.heap.size + 1 + 1) 27 (.int .i64 4) := Boxed.set _ (hv2.other (by omega) _)
    have e1 := cell_kept v1.cell (grownBy_putObj' _ D (.deferred none)) (fun r e => by cases e; exact ⟨_, hK', rfl⟩)
    have e2 := cell_kept v2.cell (grownBy_putObj' _ D (.deferred none)) (fun r e => by cases e; exact ⟨_, hK', rfl⟩)
    have hBz := (hBw.setCell (p := ⟨w.heap.size + 1, 0, none⟩) (by simp) (.int .i64 0)).setCell (p := ⟨w.heap.size + 1 + 1, 0, none⟩) (by simp; omega) (.int .i64 4)
    refine ⟨by simp, .inl ⟨_, _, rfl, run_takeDeferred hK', ?_⟩⟩
    refine ⟨.tuple #[.int .i64 0, .int .i64 4], ?_, by rw [(hx0 he).1, (hx0 he).2], hBz.trans (belowK_b (w := w) (Nat.le_refl _) _ D _ _ (by omega) hK' rfl rfl)⟩
    simp [results, Tryd.f20, go_sem, e1, e2]
  case stop =>
    rintro D c pre W hD ⟨hpre, hne⟩ ⟨⟨rfl, x, rfl, hv1, hv2⟩, hBw⟩ hK
    gi_wp2
    have e1 := cell_kept hv1.cell (grownBy_putObj' _ D (.deferred none)) (fun r e => by cases e; exact ⟨_, hK, rfl⟩)
    have e2 := cell_kept hv2.cell (grownBy_putObj' _ D (.deferred none)) (fun r e => by cases e; exact ⟨_, hK, rfl⟩)
    refine ⟨by simp, .inl ⟨_, _, rfl, run_takeDeferred hK, ?_⟩⟩
    obtain ⟨tl, htl⟩ := hpre
    refine ⟨.tuple #[.int .i64 x, .int .i64 0], ?_, by rw [(hy0 x tl htl.symm).1, (hy0 x tl htl.symm).2], hBw.trans (belowK_b (w := w) (Nat.le_refl _) _ D _ _ (by omega) hK rfl rfl)⟩
    simp [results, Tryd.f20, go_sem, e1, e2]
end Go.Proofs.YtfcedhejbnoinaaDoor.It
