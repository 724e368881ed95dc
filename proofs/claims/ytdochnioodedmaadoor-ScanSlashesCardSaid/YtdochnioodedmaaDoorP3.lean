/- Plain laws of the scan layer: where the tokens stand. -/
import Derived.Test.YtdochnioodedmaaDoorP2
namespace Go.Proofs.YtdochnioodedmaaDoor
open Go Go.RowKit

/-- each token begins behind the one ahead, within the text; the last one alone is the end -/
def Places (n : Nat) (L : List Tok) : Prop :=
  0 < L.length ∧ ∀ (k : Nat) (t : Tok), L[k]? = some t → 0 ≤ t.at_ ∧ t.at_ ≤ (n : Int) ∧ (t.kind = 0 ↔ k + 1 = L.length) ∧ ∀ u : Tok, 0 < k → L[k - 1]? = some u → u.at_ < t.at_

theorem nextRes_next {op : Bool} {l : List UInt8} {a : Nat} (h : from_ l a < l.length) (h1 : 0 < (nextRes op (l.drop (from_ l a))).2) :
    from_ l a < from_ l a + (nextRes op (l.drop (from_ l a))).2.toNat ∧ from_ l a + (nextRes op (l.drop (from_ l a))).2.toNat ≤ l.length := by
  obtain ⟨_, h2⟩ := nextRes_pos h1
  rw [List.length_drop] at h2
  omega

theorem places_go (l : List UInt8) : ∀ (f a : Nat) (op : Bool) (acc L : List Tok), a ≤ l.length →
    (∀ (k : Nat) (t : Tok), acc[k]? = some t → 0 ≤ t.at_ ∧ t.at_ < (a : Int) ∧ t.kind ≠ 0 ∧ ∀ u : Tok, 0 < k → acc[k - 1]? = some u → u.at_ < t.at_) → tokGo l f a op acc = .ok L → Places l.length L := by
  intro f
  induction f with
  | zero => intro a op acc L _ _ h; cases h
  | succ f ih =>
    intro a op acc L ha hacc h
    obtain ⟨hf1, hf2⟩ := from_le ha
    by_cases hlt : from_ l a < l.length
    · by_cases h0 : (nextRes op (l.drop (from_ l a))).2 < 0
      · rw [tokGo_over hlt h0] at h; cases h
      · by_cases hz : (nextRes op (l.drop (from_ l a))).2 = 0
        · rw [tokGo_none hlt hz] at h; cases h
        · have hp : 0 < (nextRes op (l.drop (from_ l a))).2 := by omega
          by_cases hm : 2000 ≤ acc.length
          · rw [tokGo_many hlt hp hm] at h; cases h
          · rw [tokGo_more hlt hp hm] at h
            obtain ⟨n1, n2⟩ := nextRes_next hlt hp
            refine ih _ _ _ _ n2 ?_ h
            intro k t hk
            rcases Nat.lt_trichotomy k acc.length with hk1 | hk1 | hk1
            · rw [List.getElem?_append_left hk1] at hk
              obtain ⟨b1, b2, b3, b4⟩ := hacc k t hk
              refine ⟨b1, by omega, b3, fun u hu hk2 => b4 u hu ?_⟩
              rwa [List.getElem?_append_left (by omega)] at hk2
            · subst hk1
              rw [List.getElem?_append_right (Nat.le_refl _), Nat.sub_self] at hk
              simp only [List.getElem?_cons_zero, Option.some.injEq] at hk
              subst hk
              refine ⟨by simp only; omega, by simp only; omega, (nextRes_pos hp).1, fun u hu hk2 => ?_⟩
              rw [List.getElem?_append_left (by omega)] at hk2
              have := (hacc _ u hk2).2.1
              simp only; omega
            · rw [List.getElem?_eq_none (by simp; omega)] at hk; cases hk
    · by_cases hm : 2000 ≤ acc.length
      · rw [tokGo_endmany hlt hm] at h; cases h
      · rw [tokGo_end hlt hm] at h
        injection h with h
        subst h
        refine ⟨by simp, fun k t hk => ?_⟩
        rcases Nat.lt_trichotomy k acc.length with hk1 | hk1 | hk1
        · rw [List.getElem?_append_left hk1] at hk
          obtain ⟨b1, b2, b3, b4⟩ := hacc k t hk
          refine ⟨b1, by omega, ⟨fun e => absurd e b3, fun e => by simp at e; omega⟩, fun u hu hk2 => b4 u hu ?_⟩
          rwa [List.getElem?_append_left (by omega)] at hk2
        · subst hk1
          rw [List.getElem?_append_right (Nat.le_refl _), Nat.sub_self] at hk
          simp only [List.getElem?_cons_zero, Option.some.injEq] at hk
          subst hk
          refine ⟨by simp only; omega, by simp only; omega, by simp, fun u hu hk2 => ?_⟩
          rw [List.getElem?_append_left (by omega)] at hk2
          have := (hacc _ u hk2).2.1
          simp only; omega
        · rw [List.getElem?_eq_none (by simp; omega)] at hk; cases hk

theorem bad_go (l : List UInt8) : ∀ (f a : Nat) (op : Bool) (acc : List Tok) (er at_ : Nat), a ≤ l.length → l.length - a < f → tokGo l f a op acc = .bad er at_ → (er = 3 ∨ er = 6 ∨ er = 9) ∧ at_ ≤ l.length := by
  intro f
  induction f with
  | zero => intro a op acc er at_ _ h _; omega
  | succ f ih =>
    intro a op acc er at_ ha hf h
    obtain ⟨hf1, hf2⟩ := from_le ha
    by_cases hlt : from_ l a < l.length
    · by_cases h0 : (nextRes op (l.drop (from_ l a))).2 < 0
      · rw [tokGo_over hlt h0] at h; injection h with h1 h2; omega
      · by_cases hz : (nextRes op (l.drop (from_ l a))).2 = 0
        · rw [tokGo_none hlt hz] at h; injection h with h1 h2; omega
        · have hp : 0 < (nextRes op (l.drop (from_ l a))).2 := by omega
          by_cases hm : 2000 ≤ acc.length
          · rw [tokGo_many hlt hp hm] at h; injection h with h1 h2; omega
          · rw [tokGo_more hlt hp hm] at h
            obtain ⟨n1, n2⟩ := nextRes_next hlt hp
            exact ih _ _ _ _ _ n2 (by omega) h
    · by_cases hm : 2000 ≤ acc.length
      · rw [tokGo_endmany hlt hm] at h; injection h with h1 h2; omega
      · rw [tokGo_end hlt hm] at h; cases h

theorem places_ok {l : List UInt8} {L : List Tok} (h : tokens l = .ok L) : Places l.length L := by
  unfold tokens at h
  split at h
  · cases h
  · exact places_go l _ 0 false [] L (Nat.zero_le _) (fun k t hk => by simp at hk) h
theorem places_bad {l : List UInt8} {er at_ : Nat} (h : tokens l = .bad er at_) : (er = 3 ∨ er = 6 ∨ er = 9) ∧ at_ ≤ l.length := by
  unfold tokens at h
  split at h
  · injection h with h1 h2; omega
  · exact bad_go l _ 0 false [] er at_ (Nat.zero_le _) (by omega) h

end Go.Proofs.YtdochnioodedmaaDoor
