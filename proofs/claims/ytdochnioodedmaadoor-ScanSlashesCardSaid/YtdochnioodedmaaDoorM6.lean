/- Plain words of package regex: each part of the reader goes forward, within the text. -/
import Derived.Test.YtdochnioodedmaaDoorM5
namespace Go.Proofs.YtdochnioodedmaaDoor
open Go Go.RowKit

theorem rangeLen_len {r : List UInt8} {n : Nat} (h : rangeLen r = some n) : 1 ≤ n ∧ n ≤ r.length := by
  unfold rangeLen at h
  cases h1 : signOf r with
  | none => rw [h1] at h; cases h
  | some an =>
    obtain ⟨a, k⟩ := an
    rw [h1] at h
    have hk := signOf_len h1
    simp only at h
    split at h
    · rename_i h45
      have hlt : k < r.length := by
        rcases Nat.lt_or_ge k r.length with h2 | h2
        · exact h2
        · rw [List.drop_eq_nil_of_le h2] at h45; cases h45
      cases h2 : signOf (r.drop (k + 1)) with
      | none => rw [h2] at h; cases h
      | some bm =>
        obtain ⟨b, m⟩ := bm
        rw [h2] at h
        have hm := signOf_len h2
        rw [List.length_drop] at hm
        simp only at h
        split at h
        · cases h
        · injection h with h
          omega
    · injection h with h
      omega
theorem setGo_len : ∀ (f : Nat) (m : Bool) (r : List UInt8) (k : Nat), setGo f m r = some k → 1 ≤ k ∧ k ≤ r.length := by
  intro f
  induction f with
  | zero => intro m r k h; cases h
  | succ f ih =>
    intro m r k h
    rw [setGo_succ] at h
    split at h
    · rename_i h93
      injection h with h
      cases r with
      | nil => cases h93.2
      | cons c q => simp; omega
    · cases h1 : rangeLen r with
      | none => rw [h1] at h; cases h
      | some n =>
        rw [h1] at h
        have hn := rangeLen_len h1
        simp only at h
        cases h2 : setGo f true (r.drop n) with
        | none => rw [h2] at h; cases h
        | some j =>
          rw [h2] at h
          have hj := ih _ _ _ h2
          rw [List.length_drop] at hj
          simp only [Option.map_some, Option.some.injEq] at h
          omega
theorem classLen_len {s : List UInt8} {m : Nat} (h : classLen s = some m) : 1 ≤ m ∧ m ≤ s.length := by
  unfold classLen at h
  split at h
  · cases h
  · obtain ⟨st, hst⟩ : ∃ st : Nat, (if (s.drop 1).head? = some 94 then 2 else 1 : Nat) = st := ⟨_, rfl⟩
    rw [hst] at h
    have hst1 : 1 ≤ st := by subst hst; split <;> omega
    cases h2 : setGo (s.length + 1) false (s.drop st) with
    | none => rw [h2] at h; cases h
    | some j =>
      rw [h2] at h
      have hj := setGo_len _ _ _ _ h2
      rw [List.length_drop] at hj
      simp only [Option.map_some, Option.some.injEq] at h
      omega
theorem atomP_fwd {grp : Nat → Nat → PRes} {l : List UInt8} {a n : Nat} (ha : a < l.length) (hn : n ≤ 2000) (hg : Fwd l (a + 1) (grp a n)) : Fwd l (a + 1) (atomP grp l a n) := by
  unfold atomP
  split
  · trivial
  · split
    · exact hg
    · split
      · exact putP_fwd (by omega) hn
      · split
        · cases h : classLen (l.drop a) with
          | none => trivial
          | some m =>
            have hm := classLen_len h
            rw [List.length_drop] at hm
            exact (putP_fwd (by omega) hn).mono (by omega)
        · split
          · trivial
          · cases h : signOf (l.drop a) with
            | none => trivial
            | some bm =>
              obtain ⟨b, m⟩ := bm
              have hm := signOf_len h
              rw [List.length_drop] at hm
              exact (putP_fwd (by omega) hn).mono (by omega)

end Go.Proofs.YtdochnioodedmaaDoor
