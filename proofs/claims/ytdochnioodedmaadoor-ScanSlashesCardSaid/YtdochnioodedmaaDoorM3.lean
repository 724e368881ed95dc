/- Plain words of package class and package regex: what a sign is, how long a set of bytes is, whether a text is a regular expression, as functions of the text. -/
import Derived.Test.YtdochnioodedmaaDoorM1
import Derived.Lib.IndexLaws
namespace Go.Proofs.YtdochnioodedmaaDoor
open Go Go.RowKit

theorem idx_in {L : List UInt8} {c : UInt8} (h : c ∈ L) : ∃ i : Nat, i < L.length ∧ Lib.indexByte L c = i := by
  induction L with
  | nil => cases h
  | cons b l ih =>
    by_cases hb : b = c
    · exact ⟨0, by simp, by simp [Lib.indexByte, hb]⟩
    · obtain ⟨i, hi, he⟩ := ih ((List.mem_cons.1 h).resolve_left (fun e => hb e.symm))
      refine ⟨i + 1, by simpa using hi, ?_⟩
      have h1 : ((i : Int) == -1) = false := by rw [beq_eq_false_iff_ne]; omega
      simp [Lib.indexByte, hb, he, h1]
theorem idx_out {L : List UInt8} {c : UInt8} (h : c ∉ L) : Lib.indexByte L c = -1 := by
  induction L with
  | nil => rfl
  | cons b l ih =>
    have hb : ¬ b = c := fun e => h (by simp [e])
    have h2 := ih (fun e => h (by simp [e]))
    simp [Lib.indexByte, hb, h2]

abbrev signBad : List UInt8 := [10, 93, 91, 94, 45]
abbrev signKept : List UInt8 := [92, 93, 91, 94, 45, 47, 46, 42, 43, 63, 40, 41, 124, 123, 125, 36]
/-- class.Sign: the byte, and how long its text is -/
def signOf : List UInt8 → Option (UInt8 × Nat)
  | [] => none
  | c :: r =>
    if c.toNat ≠ 92 then if c ∈ signBad then none else some (c, 1)
    else match r with
      | [] => none
      | d :: q =>
        if d ∈ signKept then some (d, 2)
        else if d.toNat ≠ 120 then none
        else match q with
          | x :: y :: _ => if 0 ≤ hexDig x ∧ 0 ≤ hexDig y then some (hexByte x y, 4) else none
          | _ => none
def signVal : Option (UInt8 × Nat) → Value
  | none => .tuple #[.int .u8 0, .int .i64 0, .int .i64 2]
  | some (b, n) => .tuple #[.int .u8 b.toNat, .int .i64 n, .int .i64 0]
theorem signOf_len : ∀ {s : List UInt8} {b : UInt8} {n : Nat}, signOf s = some (b, n) → 1 ≤ n ∧ n ≤ s.length := by
  intro s b n h
  unfold signOf at h
  split at h
  · cases h
  · split at h
    · split at h <;> simp_all
    · split at h
      · cases h
      · split at h
        · simp only [Option.some.injEq, Prod.mk.injEq] at h
          simp; omega
        · split at h
          · cases h
          · split at h
            · split at h
              · simp only [Option.some.injEq, Prod.mk.injEq] at h
                simp; omega
              · cases h
            · cases h

theorem signOf_bad {c : UInt8} (r : List UInt8) (h : ¬ c.toNat = 92) (hk : c ∈ signBad) : signOf (c :: r) = none := by
  simp only [signOf]; rw [if_pos h, if_pos hk]
theorem signOf_one {c : UInt8} (r : List UInt8) (h : ¬ c.toNat = 92) (hk : c ∉ signBad) : signOf (c :: r) = some (c, 1) := by
  simp only [signOf]; rw [if_pos h, if_neg hk]
theorem signOf_short {c : UInt8} (h : c.toNat = 92) : signOf [c] = none := by
  simp only [signOf]; rw [if_neg (fun e => e h)]
theorem signOf_kept {c d : UInt8} (r : List UInt8) (h : c.toNat = 92) (hk : d ∈ signKept) : signOf (c :: d :: r) = some (d, 2) := by
  unfold signOf; simp only; rw [if_neg (fun e => e h), if_pos hk]
theorem signOf_nox {c d : UInt8} (r : List UInt8) (h : c.toNat = 92) (hk : d ∉ signKept) (hx : ¬ d.toNat = 120) : signOf (c :: d :: r) = none := by
  unfold signOf; simp only; rw [if_neg (fun e => e h), if_neg hk, if_pos hx]
theorem signOf_hex {c d x y : UInt8} (r : List UInt8) (h : c.toNat = 92) (hk : d ∉ signKept) (hx : d.toNat = 120) (h2 : 0 ≤ hexDig x) (h3 : 0 ≤ hexDig y) : signOf (c :: d :: x :: y :: r) = some (hexByte x y, 4) := by
  unfold signOf; simp only; rw [if_neg (fun e => e h), if_neg hk, if_neg (fun e => e hx), if_pos ⟨h2, h3⟩]
theorem signOf_nohex {c d x y : UInt8} (r : List UInt8) (h : c.toNat = 92) (hk : d ∉ signKept) (hx : d.toNat = 120) (h2 : ¬ (0 ≤ hexDig x ∧ 0 ≤ hexDig y)) : signOf (c :: d :: x :: y :: r) = none := by
  unfold signOf; simp only; rw [if_neg (fun e => e h), if_neg hk, if_neg (fun e => e hx), if_neg h2]
theorem signOf_cut {c d : UInt8} (q : List UInt8) (h : c.toNat = 92) (hk : d ∉ signKept) (hx : d.toNat = 120) (hl : q.length < 2) : signOf (c :: d :: q) = none := by
  unfold signOf; simp only; rw [if_neg (fun e => e h), if_neg hk, if_neg (fun e => e hx)]
  match q, hl with
  | [], _ => rfl
  | [_], _ => rfl

end Go.Proofs.YtdochnioodedmaaDoor
