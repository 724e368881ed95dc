/- Plain laws of the scan layer: a text between quotes; each mark and each word of the language alone. -/
import Derived.Test.YtdochnioodedmaaDoorP4
namespace Go.Proofs.YtdochnioodedmaaDoor
open Go Go.RowKit

/-- a text's bytes, as they stand between quotes -/
def esc : List UInt8 → List UInt8
  | [] => []
  | c :: r => (if c.toNat = 34 ∨ c.toNat = 92 then [92, c] else [c]) ++ esc r
theorem esc_length (s : List UInt8) : (esc s).length ≤ 2 * s.length := by
  induction s with
  | nil => simp [esc]
  | cons c r ih => simp only [esc, List.length_append, List.length_cons]; split <;> simp <;> omega
theorem esc_append (s t : List UInt8) : esc (s ++ t) = esc s ++ esc t := by
  induction s with
  | nil => rfl
  | cons c r ih => simp [esc, ih]
theorem textGo_esc (s : List UInt8) : ∀ (out : List UInt8) (k : Nat), (∀ c ∈ s, c.toNat ≠ 10) → textGo (esc s ++ [34]) out k = some (out ++ s, k + (esc s).length + 1) := by
  induction s with
  | nil => intro out k _; simp [esc, textGo_quote 34 [] out k (by decide)]
  | cons c r ih =>
    intro out k h
    have hc := h c (by simp)
    have hr := ih
    by_cases h1 : c.toNat = 34 ∨ c.toNat = 92
    · have e : esc (c :: r) = 92 :: c :: esc r := by simp [esc, h1]
      rw [e, List.cons_append, List.cons_append, textGo_kept 92 c _ out k (by decide) (by omega), ih _ _ (fun d hd => h d (by simp [hd]))]
      simp; omega
    · have e : esc (c :: r) = c :: esc r := by simp [esc, h1]
      rw [e, List.cons_append, textGo_plain c _ out k hc (fun e => h1 (.inl e)) (fun e => h1 (.inr e)), ih _ _ (fun d hd => h d (by simp [hd]))]
      simp; omega

/-- the law ScanTexts, in plain words -/
theorem texts_plain {s : List UInt8} (h : ∀ c ∈ s, c.toNat ≠ 10) (hl : s.length ≤ 1000) :
    tokens (34 :: esc s ++ [34]) = .ok [{ kind := 3, at_ := 0, text := s, n := 0 }, { kind := 0, at_ := ((esc s).length + 2 : Nat), text := [], n := 0 }] := by
  have hle := esc_length s
  have hlen : (34 :: esc s ++ [34]).length = (esc s).length + 2 := by simp
  have hg : textGo ((34 :: esc s ++ [34] : List UInt8).drop 1) [] 1 = some (s, 1 + (esc s).length + 1) := by simpa using textGo_esc s [] 1 h
  have hn : nextRes false (34 :: esc s ++ [34]) = ({ kind := 3, at_ := 0, text := s, n := 0 }, ((1 + (esc s).length + 1 : Nat) : Int)) := by
    have e := textRes_some _ hg
    rw [List.cons_append] at e ⊢
    unfold nextRes
    simp only
    rw [if_neg (by decide), if_neg (by decide), if_pos (by decide), e]
  have e0 : from_ (34 :: esc s ++ [34]) 0 = 0 := by unfold from_; simp [skipN]
  have e1 : from_ (34 :: esc s ++ [34]) ((esc s).length + 2) = (esc s).length + 2 := by
    unfold from_; rw [List.drop_of_length_le (by rw [hlen]; omega)]; rfl
  have h1 := Runs.fin (l := 34 :: esc s ++ [34]) ((esc s).length + 2) (operandB 3 s) (by rw [e1, hlen]; omega)
  rw [e1] at h1
  have h2 := Runs.step (l := 34 :: esc s ++ [34]) 0 false _ (by rw [e0, hlen]; omega) (by rw [e0, List.drop_zero, hn]; simp; omega) (by
    rw [e0, List.drop_zero, hn]
    simp only [Nat.zero_add, Int.toNat_natCast]
    rw [show 1 + (esc s).length + 1 = (esc s).length + 2 by omega]
    exact h1)
  rw [e0, List.drop_zero, hn] at h2
  exact runs_tokens_few h2 (by rw [hlen]; omega) (by simp)

/-- the tokens, if it has any -/
def toksOf : TRes → List Tok
  | .ok l => l
  | .bad _ _ => []
theorem toksOf_ok {r : TRes} {l : List Tok} (h : toksOf r = l) (hl : l ≠ []) : r = .ok l := by
  cases r with
  | ok m => simp [toksOf] at h; rw [h]
  | bad e a => simp [toksOf] at h; exact absurd h hl
theorem marks_fin : ∀ m ∈ marksL, toksOf (tokens (49 :: 32 :: m)) = [⟨2, 0, [], 1000000⟩, ⟨7, 2, m, 0⟩, ⟨0, (m.length + 2 : Nat), [], 0⟩] := by decide +kernel
theorem keys_fin : ∀ m ∈ keysL, toksOf (tokens m) = [⟨6, 0, m, 0⟩, ⟨0, (m.length : Nat), [], 0⟩] := by decide +kernel
theorem names_fin : ∀ m ∈ keysL, toksOf (tokens (m ++ [120])) = [⟨5, 0, m ++ [120], 0⟩, ⟨0, (m.length + 1 : Nat), [], 0⟩] := by decide +kernel
theorem marks_plain {m : List UInt8} (h : m ∈ marksL) : tokens (49 :: 32 :: m) = .ok [⟨2, 0, [], 1000000⟩, ⟨7, 2, m, 0⟩, ⟨0, (m.length + 2 : Nat), [], 0⟩] := toksOf_ok (marks_fin m h) (by simp)
theorem keys_plain {m : List UInt8} (h : m ∈ keysL) : tokens m = .ok [⟨6, 0, m, 0⟩, ⟨0, (m.length : Nat), [], 0⟩] := toksOf_ok (keys_fin m h) (by simp)
theorem names_plain {m : List UInt8} (h : m ∈ keysL) : tokens (m ++ [120]) = .ok [⟨5, 0, m ++ [120], 0⟩, ⟨0, (m.length + 1 : Nat), [], 0⟩] := toksOf_ok (names_fin m h) (by simp)

end Go.Proofs.YtdochnioodedmaaDoor
