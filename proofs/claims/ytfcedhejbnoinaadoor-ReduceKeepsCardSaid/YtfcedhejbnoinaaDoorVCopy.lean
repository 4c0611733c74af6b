/- copy(dst, s), s a text as long as dst, dst a row of one's own: the row then reads s's bytes. A step of the printed walk. -/
import Derived.Test.YtfcedhejbnoinaaDoorVFnv
import Derived.Lib.BufferWrite
import Derived.Laws.CopyOwn
namespace Go.Proofs.YtfcedhejbnoinaaDoorW.PrintLast
open Go.RowKit Go.Lib Go.Proofs.YtfcedhejbnoinaaDoorW.PrintWords
/-- A text's bytes. -/
def textNums (t : ByteArray) : List Int := t.data.toList.map fun b => (b.toNat : Int)
theorem length_textNums (t : ByteArray) : (textNums t).length = t.size := by unfold textNums; rw [List.length_map, Array.length_toList]; rfl
theorem encs_textNums (t : ByteArray) : encs (Value.int .u8) (textNums t) = byteCells t.data.toList := by
  unfold encs textNums byteCells
  rw [List.map_map]
  rfl
theorem own_copied {W : World} {base g n cap : Nat} {e : TypeId} {t : ByteArray} {cur : Array Value} (hb : base ≤ g) (hg : W.heap[g]? = some (.cells cur e (0, 0))) (hnc : n ≤ cap) (hcm : cap ≤ maxLen) (hcs : cur.size = cap * 1) (hn : t.size = n) :
    (W.setRow g (cur.toList.take 0 ++ byteCells t.data.toList ++ cur.toList.drop (0 + t.size)).toArray).ownsRow base e 1 (.slice (some ⟨g, 0, none⟩) n cap) n (byteCells t.data.toList) := by
  have hl : (byteCells t.data.toList).length = t.size := by rw [byteCells_length, ← size_eq]
  refine ⟨by rw [hl]; omega, .inr ⟨g, cap, _, rfl, hb, setRow_heap W g cur _ e _ hg, hnc, hcm, ?_, ?_⟩⟩
  · rw [List.size_toArray, List.take_zero, List.nil_append, List.length_append, hl, List.length_drop, Array.length_toList]
    omega
  · rw [List.take_zero, List.nil_append, List.take_append, List.take_of_length_le (by rw [hl]; omega), show n * 1 - (byteCells t.data.toList).length = 0 by rw [hl]; omega, List.take_zero, List.append_nil]
section
variable {P : Program} {ops : Array Oper} {rest : List Oper} {o : Oper} {a : Act} {Q : Exit → Act → World → Prop}
theorem copy_event {w0 W : World} (base e : Nat) (hgd : o.guard = none) {N : Tmp} (_hd : o.dst = some N) (d s : Operand) (dT sT : TypeId)
    (ho : o.op = .call { callee := .builtin .copy, args := #[d, s], argTypes := #[dT, sT] }) (hu : P.underlying dT = some (.slice e)) (hsz : (P.info? e).map (·.size) = some 1)
    {A : Option Addr} {n c : Nat} {t : ByteArray} {xs : List Int} {ok : Nat → Prop} (hd : a.eval d = .slice A n c) (hs : a.eval s = .string t)
    (hR : (Kd.int .u8).R e W base ok (.slice A n c) xs) (hn : t.size = xs.length) (HB : Below base w0 W)
    (h : ∀ w1, (Kd.int .u8).R e w1 base ok (.slice A n c) (textNums t) → Below base w0 w1 → wpList P ops Q rest (a.put o.dst (goInt t.size)) w1) : wpList P ops Q (o :: rest) a W := by
  obtain ⟨hnx, _, _⟩ := Kd.R_reads' hR
  have hok : ∀ k, (Value.slice A n c).ownBlock = some k → ok k := hR.1
  obtain ⟨_, h1 | ⟨g, cap, cur, he, hb, hg, hnc, hcm, hcs, htk⟩⟩ := Kd.own_of_R (enc := Value.int .u8) (h1 := fun _ => rfl) hR
  · obtain ⟨he, hl⟩ := h1
    have h0 : t.size = 0 := by omega
    refine Kd.event_run hgd (v := goInt 0) (w1 := W) ?_ ?_
    · have hrun := run_copy_empty_string (P := P) W dT sT o.type e A n c t hu (by rw [hsz]; rfl) h0
      simp [execOp, ho, resolve, invoke, builtin, hd, hs, hrun, Result.andThen]
    · have h2 := h W ?_ HB
      · rwa [h0] at h2
      · have hx : textNums t = xs := by rw [List.eq_nil_of_length_eq_zero (l := xs) hl, List.eq_nil_of_length_eq_zero (l := textNums t) (by rw [length_textNums]; exact h0)]
        rw [hx]
        exact hR
  · injection he with h1 h2 h3
    subst h1
    subst h3
    have hrun := run_copy_row_string (P := P) W dT sT o.type e g 0 n c t cur e hu hsz hg (by omega) (by omega)
    refine Kd.event_run hgd (v := goInt t.size) (w1 := W.setRow g (cur.toList.take 0 ++ byteCells t.data.toList ++ cur.toList.drop (0 + t.size)).toArray) ?_ (h _ ?_ (below_setRow HB hb _))
    · simp [execOp, ho, resolve, invoke, builtin, hd, hs, hrun, Result.andThen]
    · refine Kd.R_of_own (enc := Value.int .u8) ?_ hok
      rw [encs_textNums, length_textNums]
      have := own_copied (t := t) hb hg hnc hcm hcs (by omega)
      rw [hn, ← hnx] at this ⊢
      exact this
end
end Go.Proofs.YtfcedhejbnoinaaDoorW.PrintLast
