/- What the printed functions and references of layer 2 tell, of blocks as rows of numbers. -/
import Derived.Test.YtfcedhejbnoinaaDoorPEx1
import Derived.Test.YtfcedhejbnoinaaDoorPEx2
import Derived.Test.YtfcedhejbnoinaaDoorPureQPETell
import Derived.Test.YtfcedhejbnoinaaDoorPureQPEMat
namespace Go.Proofs.YtfcedhejbnoinaaDoor.PureBit
open Go Go.RowKit Go.Proofs.YtfcedhejbnoinaaDoor.PE Go.Proofs.YtfcedhejbnoinaaDoorW.PrintWords Go.Proofs.YtfcedhejbnoinaaDoorW.PrintLast Go.Proofs.YtfcedhejbnoinaaDoorW.PrintMore Go.Proofs.YtfcedhejbnoinaaDoor.Row Go.Proofs.YtfcedhejbnoinaaDoor.Bits Go.Proofs.YtfcedhejbnoinaaDoor.Pop

theorem loop_until {ρ : Type} {g : Nat → Nat → Option ρ} (n : Nat) (p : Nat → Prop) {yes no : ρ}
    (good : ∀ i, i < n → p i → ∀ r, Ev (fun k => g k (i + 1)) r → Ev (fun k => g k i) r)
    (bad : ∀ i, i < n → ¬ p i → Ev (fun k => g k i) no)
    (last : Ev (fun k => g k n) yes) : ((∀ i, i < n → p i) → Ev (fun k => g k 0) yes) ∧ ((¬ ∀ i, i < n → p i) → Ev (fun k => g k 0) no) := by
  have key : ∀ d i, i + d = n → ((∀ j, i ≤ j → j < n → p j) → Ev (fun k => g k i) yes) ∧ ((¬ ∀ j, i ≤ j → j < n → p j) → Ev (fun k => g k i) no) := by
    intro d
    induction d with
    | zero =>
      intro i hi
      obtain rfl : i = n := by omega
      exact ⟨fun _ => last, fun h => absurd (fun j h1 h2 => by omega) h⟩
    | succ d ih =>
      intro i hi
      by_cases hp : p i
      · obtain ⟨h1, h2⟩ := ih (i + 1) (by omega)
        refine ⟨fun h => good i (by omega) hp _ (h1 fun j a b => h j (by omega) b), fun h => good i (by omega) hp _ (h2 fun g => h fun j a b => ?_)⟩
        rcases Nat.eq_or_lt_of_le a with rfl | a
        · exact hp
        · exact g j a b
      · exact ⟨fun h => absurd (h i (Nat.le_refl _) (by omega)) hp, fun _ => bad i (by omega) hp⟩
  obtain ⟨h1, h2⟩ := key n 0 (by omega)
  exact ⟨fun h => h1 fun j _ hj => h j hj, fun h => h2 fun g => h fun j hj => g j (Nat.zero_le _) hj⟩

def X8 (a b : Int) : Int := Go.bits .xor .u8 a b
/-- A block of several. -/
def blk (l : List ByteArray) (z : Int) : ByteArray := rdOf ByteArray.empty l z
/-- Blocks that may be summed. -/
def BOk (n : Int) (l : List ByteArray) : Prop := 0 ≤ n ∧ n ≤ 64 ∧ l.length ≤ 64 ∧ ∀ j, j < l.length → ((blk l (j : Int)).size : Int) = n

theorem getD_range (n : Nat) (f : Nat → Int) (j : Nat) : ((List.range n).map f).getD j 0 = if j < n then f j else 0 := by
  rw [List.getD_eq_getElem?_getD, List.getElem?_map]
  by_cases h : j < n
  · rw [List.getElem?_range h, if_pos h]; rfl
  · rw [List.getElem?_eq_none (by simp; omega), if_neg h]; rfl

theorem block_may_loop {n : Int} {l : List ByteArray} (hl : l.length < 1000000) :
    ((∀ j, j < l.length → ((blk l (j : Int)).size : Int) = n) → Ev (fun k => block_may.l0 k n l (l.length : Int) ((0 : Nat) : Int)) 0) ∧ ((¬ ∀ j, j < l.length → ((blk l (j : Int)).size : Int) = n) → Ev (fun k => block_may.l0 k n l (l.length : Int) ((0 : Nat) : Int)) 2) := by
  refine loop_until (g := fun k i => block_may.l0 k n l (l.length : Int) (i : Int)) l.length _ (fun i hi hp r hr => up ?_) (fun i hi hp => up ?_) (up ?_)
  · have e1 : wrap64 ((i : Int) + 1) = ((i + 1 : Nat) : Int) := wrap_lt (by omega) (by omega)
    have c1 : (i : Int) < (l.length : Int) := Int.ofNat_lt.2 hi
    have c2 : (0 : Int) ≤ (i : Int) := Int.natCast_nonneg _
    simp only [block_may.l0]
    rw [e1]
    exact Ev.congr (fun k => (if_pos c1).trans ((if_pos c2).trans ((if_pos c1).trans (if_pos hp)))) hr
  · have c1 : (i : Int) < (l.length : Int) := Int.ofNat_lt.2 hi
    have c2 : (0 : Int) ≤ (i : Int) := Int.natCast_nonneg _
    simp only [block_may.l0]
    exact Ev.congr (fun k => (if_pos c1).trans ((if_pos c2).trans ((if_pos c1).trans (if_neg hp)))) (Ev.now _)
  · simp only [block_may.l0]
    exact Ev.congr (fun k => if_neg (Int.lt_irrefl _)) (Ev.now _)

theorem block_may_j0 {n : Int} {l : List ByteArray} (hl : l.length < 1000000) (h0 : 0 ≤ n) (h1 : n ≤ 64) :
    (BOk n l → Ev (fun k => block_may.j0 k n l (decide ((l.length : Int) > 64))) 0) ∧ (¬ BOk n l → Ev (fun k => block_may.j0 k n l (decide ((l.length : Int) > 64))) 2) := by
  obtain ⟨a, b⟩ := block_may_loop (n := n) hl
  refine ⟨fun h => up ?_, fun h => up ?_⟩
  · simp only [block_may.j0]
    have e : decide ((l.length : Int) > 64) = false := decide_eq_false (by have := h.2.2.1; omega)
    rw [e]
    exact Ev.congr (fun k => if_neg (by decide)) (a h.2.2.2)
  · simp only [block_may.j0]
    by_cases h2 : l.length ≤ 64
    · have e : decide ((l.length : Int) > 64) = false := decide_eq_false (by omega)
      rw [e]
      exact Ev.congr (fun k => if_neg (by decide)) (b fun g => h ⟨h0, h1, h2, g⟩)
    · have e : decide ((l.length : Int) > 64) = true := decide_eq_true (by omega)
      rw [e]
      exact Ev.congr (fun k => if_pos (by first | rfl | trivial)) (Ev.now _)

theorem may_spec {n : Int} {l : List ByteArray} (hl : l.length < 1000000) : (BOk n l → Ev (fun k => block_may.f k n l) 0) ∧ (¬ BOk n l → Ev (fun k => block_may.f k n l) 2) := by
  have hs : block_sized.f n = some (decide (0 ≤ n ∧ n ≤ 64)) := by
    unfold block_sized.f
    by_cases a : n ≥ 0
    · rw [if_pos a]; congr 1; rw [decide_eq_decide]; omega
    · have e : decide (0 ≤ n ∧ n ≤ 64) = false := decide_eq_false fun g => a g.1
      rw [if_neg a, e]
  unfold block_may.f
  rw [hs]
  simp only [Option.bind_some]
  by_cases h : 0 ≤ n ∧ n ≤ 64
  · obtain ⟨a, b⟩ := block_may_j0 hl h.1 h.2
    rw [decide_eq_true h]
    exact ⟨fun g => Ev.congr (fun k => if_pos (by first | rfl | trivial)) (a g), fun g => Ev.congr (fun k => if_pos (by first | rfl | trivial)) (b g)⟩
  · rw [decide_eq_false h]
    refine ⟨fun g => absurd ⟨g.1, g.2.1⟩ h, fun _ => Ev.congr (fun k => if_neg (by decide)) (up ?_)⟩
    simp only [block_may.j0]
    exact Ev.congr (fun k => if_pos (by first | rfl | trivial)) (Ev.now _)

theorem into_spec {x : List Int} {s : ByteArray} (hs : x.length ≤ s.size) (hl : x.length < 1000) : Ev (fun k => block_into.f k x s) ((List.range x.length).map fun i => X8 (x.getD i 0) (bt s (i : Int))) := by
  let S : Nat → List Int := fun i => (List.range x.length).map fun j => if j < i then X8 (x.getD j 0) (bt s (j : Int)) else x.getD j 0
  have hS : ∀ i, (S i).length = x.length := fun i => by simp [S]
  have h0 : S 0 = x := by
    refine ext_getD (hS 0) fun j hj => ?_
    rw [hS] at hj
    simp only [S, getD_range, if_pos hj, Nat.not_lt_zero, if_false]
  have hstep : ∀ i, i < x.length → (S i).set i (X8 (x.getD i 0) (bt s (i : Int))) = S (i + 1) := fun i hi => by
    refine ext_getD (by rw [List.length_set, hS, hS]) fun j hj => ?_
    rw [List.length_set, hS] at hj
    by_cases e : i = j
    · subst e
      rw [getD_set_self (by rw [hS]; exact hi)]
      simp only [S, getD_range, if_pos hj, Nat.lt_succ_self, if_true]
    · rw [getD_set_ne e]
      simp only [S, getD_range, if_pos hj]
      by_cases h1 : j < i
      · rw [if_pos h1, if_pos (by omega)]
      · rw [if_neg h1, if_neg (by omega)]
  have hend : S x.length = (List.range x.length).map fun i => X8 (x.getD i 0) (bt s (i : Int)) := by
    apply List.map_congr_left
    intro j hj
    rw [if_pos (List.mem_range.1 hj)]
  have key := loop_acc (g := fun k i acc => block_into.l0 k acc s (x.length : Int) (i : Int)) (r := S x.length) x.length S (fun i hi hr => up ?_) (up ?_)
  · rw [h0, hend] at key
    unfold block_into.f
    exact key
  · have e1 : wrap64 ((i : Int) + 1) = ((i + 1 : Nat) : Int) := wrap_lt (by omega) (by omega)
    have c1 : (i : Int) < (x.length : Int) := Int.ofNat_lt.2 hi
    have c2 : (0 : Int) ≤ (i : Int) := Int.natCast_nonneg _
    have c3 : (i : Int) < ((S i).length : Int) := by rw [hS]; exact c1
    have c4 : (i : Int) < (s.size : Int) := by omega
    have e2 : Go.bits .xor .u8 (rd (S i) (i : Int)) (bt s (i : Int)) = X8 (x.getD i 0) (bt s (i : Int)) := by
      have : rd (S i) (i : Int) = x.getD i 0 := by
        rw [rd_eq, Int.toNat_natCast]
        simp only [S, getD_range, if_pos hi, Nat.lt_irrefl, if_false]
      rw [this]; rfl
    simp only [block_into.l0]
    rw [e1, e2, Int.toNat_natCast, hstep i hi]
    exact Ev.congr (fun k => (if_pos c1).trans ((if_pos c2).trans ((if_pos c3).trans (if_pos c4)))) hr
  · simp only [block_into.l0]
    exact Ev.congr (fun k => if_neg (Int.lt_irrefl _)) (Ev.now _)

/-- A byte of the xor of those blocks that are named. -/
def pkb (l : List ByteArray) (P : List Int) (j : Nat) : Int := P.foldl (fun a z => X8 a (bt (blk l z) (j : Int))) 0
/-- The xor of those blocks that are named. -/
def pk (n : Nat) (l : List ByteArray) (P : List Int) : List Int := (List.range n).map (pkb l P)
theorem pkb_snoc (l : List ByteArray) (P : List Int) (z : Int) (j : Nat) : pkb l (P ++ [z]) j = X8 (pkb l P j) (bt (blk l z) (j : Int)) := by
  unfold pkb; rw [List.foldl_append]; rfl
theorem pk_len (n : Nat) (l : List ByteArray) (P : List Int) : (pk n l P).length = n := by unfold pk; simp
theorem pk_nil (n : Nat) (l : List ByteArray) : pk n l [] = List.replicate n 0 := by
  unfold pk
  rw [show pkb l [] = fun _ => 0 from rfl, List.map_const', List.length_range]
theorem pk_into {n : Nat} {l : List ByteArray} (P : List Int) (z : Int) (hs : n ≤ (blk l z).size) (hn : n < 1000) : Ev (fun k => block_into.f k (pk n l P) (blk l z)) (pk n l (P ++ [z])) := by
  have h := into_spec (x := pk n l P) (s := blk l z) (by rw [pk_len]; exact hs) (by rw [pk_len]; exact hn)
  have e : ((List.range (pk n l P).length).map fun i => X8 ((pk n l P).getD i 0) (bt (blk l z) (i : Int))) = pk n l (P ++ [z]) := by
    rw [pk_len]
    apply List.map_congr_left
    intro j hj
    have hj' := List.mem_range.1 hj
    rw [pkb_snoc]
    congr 1
    unfold pk
    rw [getD_range, if_pos hj']
  rwa [e] at h

theorem take_snoc {P : List Int} {i : Nat} (hi : i < P.length) : P.take (i + 1) = P.take i ++ [P.getD i 0] := by
  rw [List.take_succ_eq_append_getElem hi, List.getD_eq_getElem?_getD, List.getElem?_eq_getElem hi]; rfl

theorem pick_loop {n : Nat} {l : List ByteArray} {P : List Int} (hn : n < 1000) (hP : P.length < 1000000) (hz : ∀ z ∈ P, 0 ≤ z ∧ z < (l.length : Int) ∧ n ≤ (blk l z).size) : Ev (fun k => block_Pick.l0 k l (List.replicate n 0) P (P.length : Int) 0) (strOfNums (pk n l P), 0) := by
  have key := loop_acc (g := fun k i acc => block_Pick.l0 k l acc P (P.length : Int) (i : Int)) (r := (strOfNums (pk n l P), 0)) P.length (fun i => pk n l (P.take i)) (fun i hi hr => up ?_) (up ?_)
  · rw [List.take_zero, pk_nil] at key
    exact key
  · have e1 : wrap64 ((i : Int) + 1) = ((i + 1 : Nat) : Int) := wrap_lt (by omega) (by omega)
    have c1 : (i : Int) < (P.length : Int) := Int.ofNat_lt.2 hi
    have c2 : (0 : Int) ≤ (i : Int) := Int.natCast_nonneg _
    have hm := hz _ (getD_mem hi)
    have hr2 : rd P (i : Int) = P.getD i 0 := by rw [rd_eq, Int.toNat_natCast]
    have hin := pk_into (P := P.take i) (z := P.getD i 0) hm.2.2 hn
    rw [← take_snoc hi] at hin
    simp only [block_Pick.l0]
    rw [e1, hr2]
    exact Ev.congr (fun k => (if_pos c1).trans ((if_pos c2).trans ((if_pos c1).trans ((if_pos hm.1).trans (if_pos hm.2.1))))) (Ev.bind hin hr)
  · simp only [block_Pick.l0]
    refine Ev.congr (fun k => if_neg (Int.lt_irrefl _)) ?_
    rw [List.take_of_length_le (Nat.le_refl _)]
    exact Ev.now _

theorem pick_ok {n m : Int} {l : List ByteArray} {ws : List Int} (hok : Ok ws) (hr : Rt m ws) (hb : BOk n l) (hm : m = (l.length : Int)) : Ev (fun k => block_Pick.f k n l m ws) (strOfNums (pk n.toNat l (plc (val ws) m.toNat)), 0) := by
  have h0 := hb.1
  have h1 := hb.2.1
  have h2 := hb.2.2.1
  have hpl := length_plc (val ws) m.toNat
  have hle := cnt_le m.toNat (val ws)
  unfold block_Pick.f
  refine Ev.bind ((may_spec (by omega)).1 hb) (Ev.congr (fun k => if_pos (by first | rfl | trivial)) (Ev.bind (Ev.congr (fun _ => places_ok hok hr) (Ev.now _)) (Ev.congr (fun k => if_pos (by first | rfl | trivial)) (up ?_))))
  have e : (m != (l.length : Int)) = false := by rw [hm]; simp
  have c2 : (n : Int).toNat ≤ 281474976710656 := by omega
  simp only [block_Pick.j0]
  rw [e]
  refine Ev.congr (fun k => (if_neg (by decide)).trans ((if_pos h0).trans (if_pos c2))) ?_
  refine pick_loop (by omega) (by omega) fun z hz => ?_
  obtain ⟨i, hi, _, rfl⟩ := (mem_plc _ _ _).1 hz
  have := hb.2.2.2 i (by omega)
  exact ⟨by omega, by omega, by omega⟩

theorem pick_bad {n m : Int} {l : List ByteArray} {ws : List Int} (hl : l.length < 1000000) (hb : ¬ BOk n l) : Ev (fun k => block_Pick.f k n l m ws) ((⟨#[]⟩ : ByteArray), 2) := by
  unfold block_Pick.f
  exact Ev.bind ((may_spec hl).2 hb) (Ev.congr (fun k => if_neg (by decide)) (Ev.now _))

theorem pick_arg {n m : Int} {l : List ByteArray} {ws : List Int} (hl : l.length < 1000000) (hok : Ok ws) (hlw : ws.length ≤ 9223372036854775807) (hb : BOk n l) (h : ¬ (Rt m ws ∧ m = (l.length : Int))) : Ev (fun k => block_Pick.f k n l m ws) ((⟨#[]⟩ : ByteArray), 1) := by
  unfold block_Pick.f
  refine Ev.bind ((may_spec hl).1 hb) (Ev.congr (fun k => if_pos (by first | rfl | trivial)) ?_)
  by_cases hr : Rt m ws
  · have e : (m != (l.length : Int)) = true := by
      rw [bne_iff_ne]; exact fun g => h ⟨hr, g⟩
    refine Ev.bind (Ev.congr (fun _ => places_ok hok hr) (Ev.now _)) (Ev.congr (fun k => if_pos (by first | rfl | trivial)) (up ?_))
    simp only [block_Pick.j0]
    rw [e]
    exact Ev.congr (fun k => if_pos (by first | rfl | trivial)) (Ev.now _)
  · refine Ev.bind (Ev.congr (fun _ => places_arg hok hlw hr) (Ev.now _)) (Ev.congr (fun k => if_neg (by decide)) (up ?_))
    simp only [block_Pick.j0]
    exact Ev.congr (fun k => if_pos (by first | rfl | trivial)) (Ev.now _)

theorem sum_ok {n : Int} {l : List ByteArray} (hb : BOk n l) : Ev (fun k => block_Sum.f k n l) (strOfNums (pk n.toNat l ((List.range l.length).map fun (i : Nat) => (i : Int))), 0) := by
  have h0 := hb.1
  have h1 := hb.2.1
  have h2 := hb.2.2.1
  have c2 : (n : Int).toNat ≤ 281474976710656 := by omega
  unfold block_Sum.f
  refine Ev.bind ((may_spec (by omega)).1 hb) (Ev.congr (fun k => (if_pos (by first | rfl | trivial)).trans ((if_pos h0).trans (if_pos c2))) ?_)
  have key := loop_acc (g := fun k i acc => block_Sum.l0 k acc l (l.length : Int) (i : Int)) (r := (strOfNums (pk n.toNat l ((List.range l.length).map fun (i : Nat) => (i : Int))), 0)) l.length (fun i => pk n.toNat l ((List.range i).map fun (i : Nat) => (i : Int))) (fun i hi hr => up ?_) (up ?_)
  · simp only [List.range_zero, List.map_nil] at key
    rw [pk_nil] at key
    exact key
  · have e1 : wrap64 ((i : Int) + 1) = ((i + 1 : Nat) : Int) := wrap_lt (by omega) (by omega)
    have c1 : (i : Int) < (l.length : Int) := Int.ofNat_lt.2 hi
    have c2 : (0 : Int) ≤ (i : Int) := Int.natCast_nonneg _
    have hsz := hb.2.2.2 i hi
    have hin := pk_into (l := l) (n := n.toNat) (P := (List.range i).map fun (i : Nat) => (i : Int)) (z := (i : Int)) (by omega) (by omega)
    have e3 : ((List.range (i + 1)).map fun (i : Nat) => (i : Int)) = ((List.range i).map fun (i : Nat) => (i : Int)) ++ [(i : Int)] := by rw [List.range_succ, List.map_append]; rfl
    rw [← e3] at hin
    simp only [block_Sum.l0]
    rw [e1]
    exact Ev.congr (fun k => (if_pos c1).trans ((if_pos c2).trans (if_pos c1))) (Ev.bind hin hr)
  · simp only [block_Sum.l0]
    exact Ev.congr (fun k => if_neg (Int.lt_irrefl _)) (Ev.now _)

theorem sum_bad {n : Int} {l : List ByteArray} (hl : l.length < 1000000) (hb : ¬ BOk n l) : Ev (fun k => block_Sum.f k n l) ((⟨#[]⟩ : ByteArray), 2) := by
  unfold block_Sum.f
  exact Ev.bind ((may_spec hl).2 hb) (Ev.congr (fun k => if_neg (by decide)) (Ev.now _))

theorem mn_le (a b : Int) (ha : 0 ≤ a) (hb : 0 ≤ b) : 0 ≤ mn a b ∧ mn a b ≤ a ∧ mn a b ≤ b := by unfold mn; split <;> omega

def cut70 (s : ByteArray) : ByteArray := s.extract 0 (mn (s.size : Int) 70).toNat
theorem cut_spec (s : ByteArray) : downpourlaw02_cut.f s = some (cut70 s) := by
  obtain ⟨h0, h1, _⟩ := mn_le (s.size : Int) 70 (by omega) (by omega)
  unfold downpourlaw02_cut.f
  exact (if_pos h0).trans (if_pos h1)
theorem few02_spec (l : List ByteArray) : ∃ m, Ev (fun k => downpourlaw02_few.f k l) m ∧ m.length ≤ 66 := by
  obtain ⟨h0, h1, h2⟩ := mn_le (l.length : Int) 66 (by omega) (by omega)
  unfold downpourlaw02_few.f
  generalize mn (l.length : Int) 66 = q at h0 h1 h2
  have hyl : (l.take q.toNat).length ≤ 66 := by rw [List.length_take]; omega
  refine ⟨(List.range (l.take q.toNat).length).map fun (i : Nat) => cut70 (blk (l.take q.toNat) (i : Int)), ?_, by simpa using hyl⟩
  refine Ev.congr (fun k => (if_pos h0).trans (if_pos h1)) ?_
  generalize l.take q.toNat = y at hyl
  refine loop_map (g := fun k i acc => downpourlaw02_few.l0 k acc y (y.length : Int) (i : Int)) y.length (fun (i : Nat) => cut70 (blk y (i : Int))) (fun i hi acc hacc hr => up ?_) (up ?_)
  · have e1 : wrap64 ((i : Int) + 1) = ((i + 1 : Nat) : Int) := wrap_lt (by omega) (by omega)
    have c1 : (i : Int) < (y.length : Int) := Int.ofNat_lt.2 hi
    have c2 : (0 : Int) ≤ (i : Int) := Int.natCast_nonneg _
    have c3 : acc.length < 8796093022208 := by omega
    simp only [downpourlaw02_few.l0]
    rw [e1]
    exact Ev.congr (fun k => (if_pos c1).trans ((if_pos c2).trans (if_pos c1))) (Ev.bind (Ev.congr (fun _ => cut_spec _) (Ev.now _)) (Ev.congr (fun k => if_pos c3) hr))
  · simp only [downpourlaw02_few.l0]
    exact Ev.congr (fun k => if_neg (Int.lt_irrefl _)) (Ev.now _)

theorem alive02_spec : Ev (fun k => downpourlaw02_alive.f k) true := by
  unfold downpourlaw02_alive.f
  have hb : BOk 1 [(⟨#[97]⟩ : ByteArray), (⟨#[98]⟩ : ByteArray)] := by
    refine ⟨by decide, by decide, by decide, fun j hj => ?_⟩
    match j, hj with
    | 0, _ => rfl
    | 1, _ => rfl
  refine Ev.bind (sum_ok hb) (Ev.congr (fun k => if_pos (by first | rfl | trivial)) ?_)
  have e : ((strOfNums (pk (1 : Int).toNat [(⟨#[97]⟩ : ByteArray), (⟨#[98]⟩ : ByteArray)] ((List.range [(⟨#[97]⟩ : ByteArray), (⟨#[98]⟩ : ByteArray)].length).map fun (i : Nat) => (i : Int)))).toList == ([3] : List UInt8)) = true := by decide +kernel
  dsimp only
  rw [e]
  exact Ev.now _

end Go.Proofs.YtfcedhejbnoinaaDoor.PureBit
