/- Plain words of package regex: the whole reader goes forward, within the text. -/
import Derived.Test.YtdochnioodedmaaDoorM6
namespace Go.Proofs.YtdochnioodedmaaDoor
open Go Go.RowKit

theorem bind_fwd {l : List UInt8} {a : Nat} {r : PRes} {f : Nat → Nat → PRes} (h : Fwd l a r) (hf : ∀ a2 n2, a ≤ a2 → a2 ≤ l.length → 1 ≤ n2 → n2 ≤ 2000 → Fwd l a (f a2 n2)) : Fwd l a (r.bind f) := by
  cases r with
  | ok a2 n2 => exact hf a2 n2 h.1 h.2.1 h.2.2.1 h.2.2.2
  | bad e => trivial
theorem head_lt {l : List UInt8} {a : Nat} {c : UInt8} (h : (l.drop a).head? = some c) : a < l.length := by
  rcases Nat.lt_or_ge a l.length with h1 | h1
  · exact h1
  · rw [List.drop_eq_nil_of_le h1] at h; cases h
theorem postsP_fwd {l : List UInt8} : ∀ (f a n : Nat), a ≤ l.length → 1 ≤ n → n ≤ 2000 → Fwd l a (postsP l f a n) := by
  intro f
  induction f with
  | zero => intro a n ha h1 h2; exact ⟨Nat.le_refl _, ha, h1, h2⟩
  | succ f ih =>
    intro a n ha h1 h2
    unfold postsP
    split
    · exact ⟨Nat.le_refl _, ha, h1, h2⟩
    · rename_i c hc
      have hlt := head_lt hc
      split
      · exact bind_fwd ((putP_fwd (by omega) h2).mono (by omega)) fun a2 n2 h3 h4 h5 h6 => (ih a2 n2 h4 h5 h6).mono h3
      · exact ⟨Nat.le_refl _, ha, h1, h2⟩
theorem pieceP_fwd {grp : Nat → Nat → PRes} {l : List UInt8} {a n : Nat} (ha : a < l.length) (hn : n ≤ 2000) (hg : Fwd l (a + 1) (grp a n)) : Fwd l (a + 1) (pieceP grp l a n) :=
  bind_fwd (atomP_fwd ha hn hg) fun a2 n2 h3 h4 h5 h6 => (postsP_fwd _ a2 n2 h4 h5 h6).mono h3
theorem catGo_fwd {grp : Nat → Nat → PRes} {l : List UInt8} (hg : ∀ a n, a < l.length → n ≤ 2000 → Fwd l (a + 1) (grp a n)) : ∀ (f : Nat) (first : Bool) (a n : Nat), a ≤ l.length → n ≤ 2000 → (first = false → 1 ≤ n) → Fwd l a (catGo grp l f first a n) := by
  intro f
  induction f with
  | zero => intro first a n ha hn hf; trivial
  | succ f ih =>
    intro first a n ha hn hf
    unfold catGo
    split
    · split
      · exact putP_fwd ha hn
      · rename_i h1
        exact ⟨Nat.le_refl _, ha, hf (by simpa using h1), hn⟩
    · rename_i hne
      have hlt : a < l.length := by
        rcases Nat.lt_or_ge a l.length with h1 | h1
        · exact h1
        · exact absurd (.inl (by rw [List.drop_eq_nil_of_le h1]; rfl)) hne
      refine bind_fwd ((pieceP_fwd hlt hn (hg a n hlt hn)).mono (by omega)) fun a2 n2 h3 h4 h5 h6 => ?_
      split
      · exact (ih false a2 n2 h4 h6 (fun _ => h5)).mono h3
      · exact bind_fwd ((putP_fwd h4 h6).mono h3) fun a3 n3 k3 k4 k5 k6 => (ih false a3 n3 k4 k6 (fun _ => k5)).mono k3
theorem catP_fwd {grp : Nat → Nat → PRes} {l : List UInt8} (hg : ∀ a n, a < l.length → n ≤ 2000 → Fwd l (a + 1) (grp a n)) (a n : Nat) (ha : a ≤ l.length) (hn : n ≤ 2000) : Fwd l a (catP grp l a n) := catGo_fwd hg _ true a n ha hn (fun e => by cases e)
theorem altGo_fwd {grp : Nat → Nat → PRes} {l : List UInt8} (hg : ∀ a n, a < l.length → n ≤ 2000 → Fwd l (a + 1) (grp a n)) : ∀ (f a n : Nat), a ≤ l.length → 1 ≤ n → n ≤ 2000 → Fwd l a (altGo grp l f a n) := by
  intro f
  induction f with
  | zero => intro a n ha h1 hn; trivial
  | succ f ih =>
    intro a n ha h1 hn
    unfold altGo
    split
    · rename_i hc
      have hlt := head_lt hc
      refine bind_fwd (bind_fwd ((catP_fwd hg (a + 1) n hlt hn).mono (by omega)) fun a2 n2 h3 h4 h5 h6 => (putP_fwd h4 h6).mono h3) fun a2 n2 h3 h4 h5 h6 => (ih a2 n2 h4 h5 h6).mono h3
    · exact ⟨Nat.le_refl _, ha, h1, hn⟩
theorem allP_fwd {grp : Nat → Nat → PRes} {l : List UInt8} (hg : ∀ a n, a < l.length → n ≤ 2000 → Fwd l (a + 1) (grp a n)) (a n : Nat) (ha : a ≤ l.length) (hn : n ≤ 2000) : Fwd l a (allP grp l a n) :=
  bind_fwd (catP_fwd hg a n ha hn) fun a2 n2 h3 h4 h5 h6 => (altGo_fwd hg _ a2 n2 h4 h5 h6).mono h3
theorem groupP_fwd {l : List UInt8} : ∀ (d a n : Nat), a < l.length → n ≤ 2000 → Fwd l (a + 1) (groupP l d a n) := by
  intro d
  induction d with
  | zero => intro a n ha hn; trivial
  | succ d ih =>
    intro a n ha hn
    unfold groupP
    refine bind_fwd (allP_fwd ih (a + 1) n ha hn) fun a2 n2 h3 h4 h5 h6 => ?_
    split
    · rename_i hc
      have hlt := head_lt hc
      exact ⟨by omega, hlt, h5, h6⟩
    · trivial

end Go.Proofs.YtdochnioodedmaaDoor
