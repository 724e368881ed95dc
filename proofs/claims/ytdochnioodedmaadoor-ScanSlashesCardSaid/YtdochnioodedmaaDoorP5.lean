/- Plain laws of the scan layer: two programs with an end of line between; a program with a slash behind it. -/
import Derived.Test.YtdochnioodedmaaDoorP4
namespace Go.Proofs.YtdochnioodedmaaDoor
open Go Go.RowKit

/-- the token of an end of line -/
def lineTok (k : Nat) : Tok := { kind := 1, at_ := k, text := [], n := 0 }

theorem runs_join {s : List UInt8} (t : List UInt8) {B : List Tok} (hB : Runs t 0 false B) {a : Nat} {op : Bool} {A : List Tok} (hA : Runs s a op A) :
    a ≤ s.length → Runs (s ++ 10 :: t) a op (A.dropLast ++ lineTok s.length :: B.map (shiftTok (s.length + 1))) := by
  induction hA with
  | fin a op h =>
    intro ha
    obtain ⟨hf1, hf2⟩ := from_le ha
    have e : from_ (s ++ 10 :: t) a = s.length := by rw [from_line (by decide) ha]; omega
    have hd : (s ++ 10 :: t).drop s.length = 10 :: t := by simp
    have hn : nextRes op (10 :: t) = ({ kind := 1, at_ := 0, text := [], n := 0 }, 1) := by unfold nextRes; simp
    have hs := runs_shift (s ++ [10]) hB
    rw [List.append_assoc, List.singleton_append, List.length_append, List.length_singleton, Nat.add_zero] at hs
    have := Runs.step (l := s ++ 10 :: t) a op (B.map (shiftTok (s.length + 1))) (by rw [e]; simp) (by rw [e, hd, hn]; simp) (by
      rw [e, hd, hn]; exact hs)
    rw [e, hd, hn] at this
    exact this
  | step a op R h hp hr ih =>
    intro ha
    obtain ⟨n1, n2⟩ := nextRes_next h hp
    have e : from_ (s ++ 10 :: t) a = from_ s a := from_line (by decide) ha
    have hd : nextRes op ((s ++ 10 :: t).drop (from_ s a)) = nextRes op (s.drop (from_ s a)) := by
      rw [List.drop_append_of_le_length (by omega)]
      exact nextRes_odd (.inl (by decide)) _ hp
    have := Runs.step (l := s ++ 10 :: t) a op _ (by rw [e]; simp; omega) (by rw [e, hd]; exact hp) (by rw [e, hd]; exact ih n2)
    rw [e, hd] at this
    have hR := hr.pos
    obtain ⟨x, R2, rfl⟩ : ∃ x R2, R = x :: R2 := by cases R with | nil => simp at hR | cons x R2 => exact ⟨x, R2, rfl⟩
    simpa using this

/-- the law ScanJoins, in plain words -/
theorem joins_plain {s t : List UInt8} {A B : List Tok} (hA : tokens s = .ok A) (hB : tokens t = .ok B) (hl : s.length + t.length ≤ 1500) :
    tokens (s ++ 10 :: t) = .ok (A.dropLast ++ lineTok s.length :: B.map (shiftTok (s.length + 1))) ∨ ∃ at_, tokens (s ++ 10 :: t) = .bad 6 at_ :=
  runs_tokens (runs_join t (tokens_runs hB) (tokens_runs hA) (Nat.zero_le _)) (by simp; omega)

theorem Runs.at_ {l : List UInt8} {a b : Nat} {op : Bool} {R : List Tok} (h : Runs l a op R) (e : from_ l b = from_ l a) : Runs l b op R := by
  cases h with
  | fin _ _ h =>
    have := Runs.fin (l := l) b op (by rw [e]; exact h)
    rw [e] at this
    exact this
  | step _ _ R h hp hr =>
    have := Runs.step (l := l) b op R (by rw [e]; exact h) (by rw [e]; exact hp) (by rw [e]; exact hr)
    rw [e] at this
    exact this

/-- what stands behind: a tab, a slash, a letter, a slash -/
abbrev slashU : List UInt8 := [9, 47, 97, 47]
/-- its tokens -/
def slashTail (op : Bool) (k : Nat) : List Tok :=
  if op then [{ kind := 7, at_ := (k + 1 : Nat), text := [47], n := 0 }, { kind := 5, at_ := (k + 2 : Nat), text := [97], n := 0 }, { kind := 7, at_ := (k + 3 : Nat), text := [47], n := 0 }, { kind := 0, at_ := (k + 4 : Nat), text := [], n := 0 }]
  else [{ kind := 4, at_ := (k + 1 : Nat), text := [97], n := 0 }, { kind := 0, at_ := (k + 4 : Nat), text := [], n := 0 }]
/-- whether what is ahead of the end is an operand's end -/
def opLast (op : Bool) : List Tok → Bool
  | [] => op
  | [_] => op
  | [t, _] => operandB t.kind t.text
  | _ :: t :: u :: r => opLast op (t :: u :: r)

theorem run_u_true : Runs slashU 0 true (slashTail true 0) := by
  have h1 := Runs.fin (l := slashU) 4 true (by decide)
  have h2 := Runs.step (l := slashU) 3 true _ (by decide) (by decide +kernel) (show Runs slashU _ _ _ from by
    have e : from_ slashU 3 + (nextRes true (slashU.drop (from_ slashU 3))).2.toNat = 4 := by decide +kernel
    rw [e]
    exact Runs.fin 4 _ (by decide))
  have h3 := Runs.step (l := slashU) 2 false _ (by decide) (by decide +kernel) (show Runs slashU _ _ _ from by
    have e : from_ slashU 2 + (nextRes false (slashU.drop (from_ slashU 2))).2.toNat = 3 := by decide +kernel
    have e2 : operandB (nextRes false (slashU.drop (from_ slashU 2))).1.kind (nextRes false (slashU.drop (from_ slashU 2))).1.text = true := by decide +kernel
    rw [e, e2]
    exact h2)
  have h4 := Runs.step (l := slashU) 0 true _ (by decide) (by decide +kernel) (show Runs slashU _ _ _ from by
    have e : from_ slashU 0 + (nextRes true (slashU.drop (from_ slashU 0))).2.toNat = 2 := by decide +kernel
    have e2 : operandB (nextRes true (slashU.drop (from_ slashU 0))).1.kind (nextRes true (slashU.drop (from_ slashU 0))).1.text = false := by decide +kernel
    rw [e, e2]
    exact h3)
  exact h4
theorem run_u_false : Runs slashU 0 false (slashTail false 0) := by
  have h4 := Runs.step (l := slashU) 0 false _ (by decide) (by decide +kernel) (show Runs slashU _ _ _ from by
    have e : from_ slashU 0 + (nextRes false (slashU.drop (from_ slashU 0))).2.toNat = 4 := by decide +kernel
    rw [e]
    exact Runs.fin 4 _ (by decide))
  exact h4

theorem opLast_cons (op : Bool) (t : Tok) {R : List Tok} (h : 0 < R.length) : opLast op (t :: R) = opLast (operandB t.kind t.text) R := by
  induction R generalizing t op with
  | nil => simp at h
  | cons u r ih =>
    cases r with
    | nil => rfl
    | cons v q =>
      show opLast op (u :: v :: q) = opLast _ (u :: v :: q)
      rw [ih op u (by simp), ih (operandB t.kind t.text) u (by simp)]

theorem from_through {l m : List UInt8} {a : Nat} (ha : a ≤ l.length) (h : ¬ from_ l a < l.length) (h35 : ∀ c ∈ l.drop a, c.toNat ≠ 35) : from_ (l ++ m) a = l.length + skipN false m := by
  obtain ⟨_, hf2⟩ := from_le ha
  unfold from_ at h hf2 ⊢
  rw [List.drop_append_of_le_length ha, skipN_through _ _ (by rw [List.length_drop]; omega) h35, List.length_drop]
  omega

theorem runs_slash {s : List UInt8} {a : Nat} {op : Bool} {A : List Tok} (hA : Runs s a op A) :
    a ≤ s.length → (A.length = 1 → ∀ c ∈ s.drop a, c.toNat ≠ 35) → (∀ t : Tok, A[A.length - 2]? = some t → 2 ≤ A.length → ∀ (i : Nat) (c : UInt8), t.at_ ≤ (i : Int) → s[i]? = some c → c.toNat ≠ 35) →
    Runs (s ++ slashU) a op (A.dropLast ++ slashTail (opLast op A) s.length) := by
  induction hA with
  | fin a op h =>
    intro ha h1 _
    have e : from_ (s ++ slashU) a = s.length + 1 := by rw [from_through ha h (h1 rfl)]; rfl
    have hs : Runs (s ++ slashU) (s.length + 0) op ((slashTail op 0).map (shiftTok s.length)) := runs_shift s (by cases op; exact run_u_false; exact run_u_true)
    have hm : (slashTail op 0).map (shiftTok s.length) = slashTail op s.length := by
      cases op <;> simp [slashTail, shiftTok] <;> omega
    rw [hm, Nat.add_zero] at hs
    show Runs (s ++ slashU) a op (slashTail op s.length)
    have e2 : from_ (s ++ slashU) s.length = s.length + 1 := by
      have := from_shift s slashU 0
      rw [Nat.add_zero] at this
      rw [this]; rfl
    exact hs.at_ (by rw [e, e2])
  | step a op R h hp hr ih =>
    intro ha h1 h2
    obtain ⟨n1, n2⟩ := nextRes_next h hp
    have e : from_ (s ++ slashU) a = from_ s a := from_stop ha h
    have hd : nextRes op ((s ++ slashU).drop (from_ s a)) = nextRes op (s.drop (from_ s a)) := by
      rw [List.drop_append_of_le_length (by omega)]
      exact nextRes_odd (.inr (by decide)) _ hp
    have hR := hr.pos
    have hih := ih n2 (fun hl c hc => by
      obtain ⟨j, hj, rfl⟩ := List.getElem_of_mem hc
      rw [List.length_drop] at hj
      rw [List.getElem_drop]
      exact h2 { (nextRes op (s.drop (from_ s a))).1 with at_ := (from_ s a : Nat) } (by simp [hl]) (by simp; omega) (from_ s a + (nextRes op (s.drop (from_ s a))).2.toNat + j) _ (by simp only; omega) (List.getElem?_eq_getElem (by omega))) (fun t ht hl i c hi hc => by
      refine h2 t ?_ (by simp; omega) i c hi hc
      rw [List.length_cons, show R.length + 1 - 2 = (R.length - 2) + 1 by omega, List.getElem?_cons_succ]
      exact ht)
    have := Runs.step (l := s ++ slashU) a op _ (by rw [e]; simp; omega) (by rw [e, hd]; exact hp) (by rw [e, hd]; exact hih)
    rw [e, hd] at this
    rw [opLast_cons op _ hR]
    obtain ⟨x, R2, rfl⟩ : ∃ x R2, R = x :: R2 := by cases R with | nil => simp at hR | cons x R2 => exact ⟨x, R2, rfl⟩
    simpa using this

theorem opLast_get : ∀ (A : List Tok) (op : Bool) (t : Tok), 2 ≤ A.length → A[A.length - 2]? = some t → opLast op A = operandB t.kind t.text
  | [], _, _, h, _ => by simp at h
  | [_], _, _, h, _ => by simp at h
  | [u, _], _, t, _, h => by simp at h; subst h; rfl
  | u :: v :: x :: r, op, t, _, h => by
    rw [show (u :: v :: x :: r).length - 2 = ((v :: x :: r).length - 2) + 1 by simp, List.getElem?_cons_succ] at h
    exact opLast_get (v :: x :: r) op t (by simp) h

/-- the law ScanSlashes, in plain words -/
theorem slashes_plain {s : List UInt8} {A : List Tok} {last : Tok} (hA : tokens s = .ok A) (h2 : 2 ≤ A.length) (hlast : A[A.length - 2]? = some last) (hl : s.length ≤ 300)
    (h35 : ∀ (i : Nat) (c : UInt8), last.at_ ≤ (i : Int) → s[i]? = some c → c.toNat ≠ 35) :
    tokens (s ++ slashU) = .ok (A.dropLast ++ slashTail (operandB last.kind last.text) s.length) ∨ ∃ at_, tokens (s ++ slashU) = .bad 6 at_ := by
  have h := runs_slash (tokens_runs hA) (Nat.zero_le _) (fun h => by omega) (fun t ht _ i c hi hc => by
    rw [hlast] at ht
    injection ht with ht
    subst ht
    exact h35 i c hi hc)
  rw [opLast_get A false last h2 hlast] at h
  exact runs_tokens h (by simp; omega)

end Go.Proofs.YtdochnioodedmaaDoor
