/- Plain laws of the scan layer: the text and the expression go forward, and say the same of a longer text. -/
import Derived.Test.YtdochnioodedmaaDoorM9
namespace Go.Proofs.YtdochnioodedmaaDoor
open Go Go.RowKit

theorem textGo_len (l out : List UInt8) (k : Nat) (t : List UInt8) (n : Nat) (h : textGo l out k = some (t, n)) : k < n ∧ n ≤ k + l.length := by
  fun_induction textGo l out k
  all_goals simp_all
  all_goals omega
theorem textGo_more (l out m : List UInt8) (k : Nat) (t : List UInt8) (n : Nat) (h : textGo l out k = some (t, n)) : textGo (l ++ m) out k = some (t, n) := by
  fun_induction textGo l out k
  all_goals try (simp_all; done)
  · rename_i h2
    rw [List.cons_append, textGo_quote _ _ _ _ h2]; exact h
  · rename_i h1 h2 h3 ih
    rw [List.cons_append, textGo_plain _ _ _ _ h1 h2 h3]; exact ih h
  · rename_i h3 _ _ hd ih
    rw [List.cons_append, List.cons_append, textGo_kept _ _ _ _ _ (by simpa using h3) hd]; exact ih h
  · rename_i h3 _ _ _ _ _ hd ih
    rw [List.cons_append, List.cons_append, List.cons_append, List.cons_append, textGo_hex _ _ _ _ _ _ _ (by simpa using h3) hd.1 hd.2.1 hd.2.2.1 hd.2.2.2]; exact ih h
theorem exprEnd_len (l : List UInt8) (k n : Nat) (h : exprEnd l k = some n) : k ≤ n ∧ n < k + l.length := by
  fun_induction exprEnd l k
  all_goals simp_all
  all_goals omega
theorem exprEnd_more (l m : List UInt8) (k n : Nat) (h : exprEnd l k = some n) : exprEnd (l ++ m) k = some n := by
  fun_induction exprEnd l k
  all_goals try (simp_all; done)
  · rename_i h1 _ _ hd ih
    rw [List.cons_append, List.cons_append, exprEnd_kept _ _ _ _ h1 hd]; exact ih h
  · rename_i h3
    rw [List.cons_append, exprEnd_slash _ _ _ h3]; exact h
  · rename_i h1 h2 h3 ih
    rw [List.cons_append, exprEnd_plain _ _ _ h1 h2 h3]; exact ih h

/-- what a text's token functions do not look behind: a byte that is none of theirs -/
def Odd (c : UInt8) : Prop := c.toNat = 10 ∨ c.toNat = 9
theorem Odd.fig {c : UInt8} (h : Odd c) : isFig c = false := by unfold isFig; rcases h with h | h <;> simp [h]
theorem Odd.word {c : UInt8} (h : Odd c) : wordB c = false := by unfold wordB; rcases h with h | h <;> simp [h]
theorem takeWhile_odd {p : UInt8 → Bool} {c : UInt8} (hc : p c = false) (l m : List UInt8) : (l ++ c :: m).takeWhile p = l.takeWhile p := by
  induction l with
  | nil => simp [hc]
  | cons d r ih => simp only [List.cons_append, List.takeWhile_cons]; split <;> simp_all
theorem figs_odd {c : UInt8} (h : Odd c) (l m : List UInt8) : figs (l ++ c :: m) = figs l := by unfold figs; rw [takeWhile_odd h.fig]
theorem wordLen_odd {c : UInt8} (h : Odd c) (l m : List UInt8) : wordLen (l ++ c :: m) = wordLen l := by unfold wordLen; rw [takeWhile_odd h.word]
theorem numLen_odd {c : UInt8} (h : Odd c) (l m : List UInt8) : numLen (l ++ c :: m) = numLen l := by
  have hle := figs_le l
  unfold numLen
  rw [figs_odd h, List.drop_append_of_le_length hle]
  have h46 : ¬ c.toNat = 46 := by rcases h with h | h <;> omega
  match hd : l.drop (figs l) with
  | [] => 
    cases m with
    | nil => simp
    | cons d r => simp only [List.nil_append]; rw [if_neg (fun e => h46 e.1)]
  | [d] =>
    simp only [List.cons_append, List.nil_append]
    rw [if_neg (fun e => by rw [h.fig] at e; simp at e)]
  | d :: e :: r =>
    simp only [List.cons_append]
    have : figs (e :: (r ++ c :: m)) = figs (e :: r) := figs_odd h (e :: r) m
    rw [this]
theorem isPrefixOf_odd {c : UInt8} (m l r : List UInt8) (h : c ∉ m) : m.isPrefixOf (l ++ c :: r) = m.isPrefixOf l := by
  induction m generalizing l with
  | nil => simp
  | cons d m ih =>
    have h1 : ¬ d = c := fun e => h (by simp [e])
    have h2 : c ∉ m := fun e => h (by simp [e])
    cases l with
    | nil => simp [List.isPrefixOf, h1]
    | cons e l => simp [List.isPrefixOf, ih l h2]
theorem Odd.marks {c : UInt8} (h : Odd c) : ∀ m ∈ marksL, c ∉ m := by
  have h0 : ∀ m ∈ marksL, ∀ d ∈ m, ¬ (d.toNat = 10 ∨ d.toNat = 9) := by decide +kernel
  exact fun m hm hd => h0 m hm c hd h
theorem markBest_odd {c : UInt8} (h : Odd c) (l r : List UInt8) : markBest (l ++ c :: r) = markBest l := by
  unfold markBest
  have : ∀ (L : List (List UInt8)) (b : List UInt8), (∀ m ∈ L, c ∉ m) → L.foldl (markStep (l ++ c :: r)) b = L.foldl (markStep l) b := by
    intro L
    induction L with
    | nil => intros; rfl
    | cons m L ih =>
      intro b hm
      simp only [List.foldl_cons]
      have : markStep (l ++ c :: r) b m = markStep l b m := by unfold markStep; rw [isPrefixOf_odd _ _ _ (hm m (by simp))]
      rw [this]
      exact ih _ (fun m2 h2 => hm m2 (by simp [h2]))
  exact this marksL [] h.marks

theorem markBest_len (l : List UInt8) : (markBest l).length ≤ l.length := by
  unfold markBest
  have : ∀ (L : List (List UInt8)) (b : List UInt8), b.length ≤ l.length → (L.foldl (markStep l) b).length ≤ l.length := by
    intro L
    induction L with
    | nil => intro b h; exact h
    | cons m L ih =>
      intro b h
      simp only [List.foldl_cons]
      refine ih _ ?_
      unfold markStep
      split
      · rename_i h2
        simp only [Bool.and_eq_true, List.isPrefixOf_iff_prefix] at h2
        exact h2.1.length_le
      · exact h
  exact this marksL [] (Nat.zero_le _)

end Go.Proofs.YtdochnioodedmaaDoor
