/- The plain words of the scan layer: what its functions compute, as functions on lists of bytes; no program in sight. -/
import Derived.Below
namespace Go.Proofs.YtdochnioodedmaaDoor
set_option linter.unusedVariables false

/-- a list of bytes as a string's bytes -/
def str (l : List UInt8) : ByteArray := ⟨l.toArray⟩
theorem str_toList (s : ByteArray) : str s.data.toList = s := by cases s; simp [str]
theorem toList_str (l : List UInt8) : (str l).data.toList = l := by simp [str]
theorem size_str (l : List UInt8) : (str l).size = l.length := rfl
theorem size_toList (s : ByteArray) : s.data.toList.length = s.size := rfl
theorem getElem_toList (s : ByteArray) (k : Nat) (h : k < s.size) : s.data.toList[k]'h = s[k] := rfl
theorem drop_cons (s : ByteArray) (k : Nat) (h : k < s.size) : s.data.toList.drop k = s[k] :: s.data.toList.drop (k + 1) :=
  List.drop_eq_getElem_cons (l := s.data.toList) (i := k) h
theorem drop_end (s : ByteArray) (k : Nat) (h : s.size ≤ k) : s.data.toList.drop k = [] :=
  List.drop_eq_nil_of_le (by rw [size_toList]; exact h)

/-- a fact kept from the walk -/
theorem hid {p : Prop} (h : p) : Go.RowKit.Hid p := h
theorem beqT {a b : Int} (h : a = b) : (a == b) = true := by simp [h]
theorem beqF {a b : Int} (h : ¬ a = b) : (a == b) = false := by simp [h]
theorem bneT {a b : Int} (h : ¬ a = b) : (a != b) = true := by simp [h]
theorem bneF {a b : Int} (h : a = b) : (a != b) = false := by simp [h]
theorem ret_int {k : IntKind} {a b : Int} (h : a = b) : Ending.returned (.int k a) = .returned (.int k b) := by rw [h]
theorem ret_bool {a b : Bool} (h : a = b) : Ending.returned (.bool a) = .returned (.bool b) := by rw [h]

theorem bcell {B : Nat} {W w1 : World} (hb : Go.RowKit.Below B W w1) : (∀ b o, b < B → w1.cell? ⟨b, o, none⟩ = W.cell? ⟨b, o, none⟩) ∧ (∀ b o, b < B → w1.frozen? ⟨b, o, none⟩ = W.frozen? ⟨b, o, none⟩) :=
  ⟨fun b o h => hb.cell (p := ⟨b, o, none⟩) h, fun b o h => hb.frozen (p := ⟨b, o, none⟩) h⟩
/-- what a call does beyond a world's blocks, seen from a smaller number -/
theorem below_trans {B : Nat} {a b c : World} (h : Go.RowKit.Below B a b) (k : Go.RowKit.Below b.heap.size b c) (hB : B ≤ b.heap.size) : Go.RowKit.Below B a c := h.trans (k.mono hB)

/-- a block of the call's own, behind a contract and one block more -/
theorem own_alloc {b : Nat} {W : World} (h : b < W.heap.size) (o : Obj) : (∀ j, (W.alloc o).cell? ⟨b, j, none⟩ = W.cell? ⟨b, j, none⟩) ∧ (∀ j, (W.alloc o).frozen? ⟨b, j, none⟩ = W.frozen? ⟨b, j, none⟩) :=
  ⟨fun j => ((Go.RowKit.Below.refl W.heap.size W).alloc (Nat.le_refl _) o).cell (p := ⟨b, j, none⟩) h, fun j => ((Go.RowKit.Below.refl W.heap.size W).alloc (Nat.le_refl _) o).frozen (p := ⟨b, j, none⟩) h⟩

/-- scan.isFigure -/
def isFig (c : UInt8) : Bool := decide (48 ≤ c.toNat ∧ c.toNat ≤ 57)
/-- hex.Digit -/
def hexDig (c : UInt8) : Int := if 48 ≤ c.toNat ∧ c.toNat ≤ 57 then (c.toNat : Int) - 48 else if 97 ≤ c.toNat ∧ c.toNat ≤ 102 then (c.toNat : Int) - 87 else if 65 ≤ c.toNat ∧ c.toNat ≤ 70 then (c.toNat : Int) - 55 else -1
theorem hexDig_lo (c : UInt8) : -1 ≤ hexDig c := by unfold hexDig; split <;> (try split) <;> (try split) <;> omega
theorem hexDig_hi (c : UInt8) : hexDig c ≤ 15 := by unfold hexDig; split <;> (try split) <;> (try split) <;> omega

/-- scan.skip: how many bytes are skipped; in a remark or not -/
def skipN : Bool → List UInt8 → Nat
  | _, [] => 0
  | false, c :: r => if c.toNat = 32 ∨ c.toNat = 9 then skipN false r + 1 else if c.toNat = 35 then skipN true r + 1 else 0
  | true, c :: r => if c.toNat = 10 then 0 else skipN true r + 1
theorem skipN_le (b : Bool) (l : List UInt8) : skipN b l ≤ l.length := by
  induction l generalizing b with
  | nil => simp [skipN]
  | cons c r ih =>
    have h1 := ih false
    have h2 := ih true
    cases b <;> simp only [skipN, List.length_cons] <;> repeat' split
    all_goals omega

/-- a token -/
structure Tok where
  kind : Int
  at_ : Int
  text : List UInt8
  n : Int
deriving DecidableEq
def tokVal (t : Tok) : Value := .agg #[.int .i64 t.kind, .int .i64 t.at_, .string (str t.text), .int .i64 t.n]
/-- scan.Operand -/
def operandB (kind : Int) (text : List UInt8) : Bool :=
  decide (kind = 2 ∨ kind = 3 ∨ kind = 4 ∨ kind = 5) || (decide (kind = 7) && (decide (text = [41]) || decide (text = [93])))

/-- the language's words; its marks -/
def keysL : List (List UInt8) := [[66, 69, 71, 73, 78], [69, 78, 68], [112, 114, 105, 110, 116], [105, 102], [101, 108, 115, 101], [119, 104, 105, 108, 101], [102, 111, 114], [105, 110], [98, 114, 101, 97, 107], [99, 111, 110, 116, 105, 110, 117, 101], [110, 101, 120, 116], [101, 120, 105, 116], [100, 101, 108, 101, 116, 101], [108, 101, 110, 103, 116, 104], [115, 117, 98, 115, 116, 114], [105, 110, 100, 101, 120], [116, 111, 117, 112, 112, 101, 114], [116, 111, 108, 111, 119, 101, 114], [115, 117, 98], [103, 115, 117, 98]]
def marksL : List (List UInt8) := [[123], [125], [40], [41], [91], [93], [44], [63], [58], [126], [33, 126], [33], [61, 61], [33, 61], [60, 61], [62, 61], [60], [62], [38, 38], [124, 124], [61], [43, 61], [45, 61], [42, 61], [47, 61], [37, 61], [43], [45], [42], [47], [37], [36]]
/-- texts as cells -/
def strs (ls : List (List UInt8)) : Array Value := (ls.map fun l => Value.string (str l)).toArray
theorem strs_size (ls : List (List UInt8)) : (strs ls).size = ls.length := by simp [strs]
theorem strs_get (ls : List (List UInt8)) (j : Nat) (h : j < ls.length) : (strs ls)[j]? = some (Value.string (str (ls.getD j []))) := by
  simp [strs, List.getD, h]

/-- hex.IsName -/
def wordB (c : UInt8) : Bool := decide (c.toNat = 95 ∨ 48 ≤ c.toNat ∧ c.toNat ≤ 57 ∨ 65 ≤ c.toNat ∧ c.toNat ≤ 90 ∨ 97 ≤ c.toNat ∧ c.toNat ≤ 122)
def isNameB : List UInt8 → Bool
  | [] => false
  | c :: r => !isFig c && wordB c && r.all wordB

/-- scan.word: the token of the word that a text begins with; how long it is -/
def wordLen (l : List UInt8) : Nat := (l.takeWhile wordB).length
def wordTok (l : List UInt8) : Tok := { kind := if l.take (wordLen l) ∈ keysL then 6 else 5, at_ := 0, text := l.take (wordLen l), n := 0 }
theorem wordLen_le (l : List UInt8) : wordLen l ≤ l.length := List.Sublist.length_le (List.takeWhile_sublist _)
theorem isNameB_take (l : List UInt8) (k : Nat) (c : UInt8) (r : List UInt8) (hl : l = c :: r) (hf : isFig c = false) (hk : 1 ≤ k) : isNameB (l.take k) = (l.take k).all wordB := by
  subst hl
  obtain ⟨j, rfl⟩ : ∃ j, k = j + 1 := ⟨k - 1, by omega⟩
  rw [List.take_succ_cons, isNameB, hf, List.all_cons]; rfl
theorem wordLen_ge (l : List UInt8) (k : Nat) (hk : k ≤ l.length) (h : (l.take k).all wordB = true) : k ≤ wordLen l := by
  unfold wordLen
  induction l generalizing k with
  | nil => simp at hk; omega
  | cons c r ih =>
    cases k with
    | zero => omega
    | succ k =>
      rw [List.take_succ_cons, List.all_cons, Bool.and_eq_true] at h
      rw [List.takeWhile_cons, if_pos h.1]
      have := ih k (by simpa using hk) h.2
      simp only [List.length_cons]; omega
theorem wordLen_lt (l : List UInt8) (k : Nat) (hk : k < l.length) (h : wordB l[k] = false) : wordLen l ≤ k := by
  unfold wordLen
  induction l generalizing k with
  | nil => simp at hk
  | cons c r ih =>
    cases k with
    | zero => simp only [List.getElem_cons_zero] at h; rw [List.takeWhile_cons, if_neg (by simp [h])]; simp
    | succ k =>
      rw [List.takeWhile_cons]
      split
      · have := ih k (by simpa using hk) (by simpa using h)
        simp only [List.length_cons]; omega
      · simp

/-- scan.mark: the longest mark that a text begins with -/
def markStep (l best m : List UInt8) : List UInt8 := if m.isPrefixOf l && decide (best.length < m.length) then m else best
def markBest (l : List UInt8) : List UInt8 := marksL.foldl (markStep l) []
def markTok (l : List UInt8) : Tok := { kind := 7, at_ := 0, text := markBest l, n := 0 }

/-- scan.text: from a place behind the first quote: what has been read so far, the place; none: no text -/
def hexByte (a b : UInt8) : UInt8 := (hexDig a * 16 + hexDig b).toNat.toUInt8
def textGo : List UInt8 → List UInt8 → Nat → Option (List UInt8 × Nat)
  | [], _, _ => none
  | c :: r, out, k =>
    if c.toNat = 10 then none
    else if c.toNat = 34 then some (out, k + 1)
    else if c.toNat ≠ 92 then textGo r (out ++ [c]) (k + 1)
    else match r with
      | [] => none
      | d :: r2 =>
        if d.toNat = 34 ∨ d.toNat = 92 ∨ d.toNat = 47 then textGo r2 (out ++ [d]) (k + 2)
        else match r2 with
          | e :: f :: r4 => if d.toNat = 120 ∧ 0 ≤ hexDig e ∧ 0 ≤ hexDig f ∧ (hexByte e f).toNat ≠ 10 then textGo r4 (out ++ [hexByte e f]) (k + 4) else none
          | _ => none
theorem textGo_end (c : UInt8) (r out : List UInt8) (k : Nat) (h : c.toNat = 10) : textGo (c :: r) out k = none := by
  rw [textGo.eq_def]; simp only; rw [if_pos h]
theorem textGo_quote (c : UInt8) (r out : List UInt8) (k : Nat) (h : c.toNat = 34) : textGo (c :: r) out k = some (out, k + 1) := by
  rw [textGo.eq_def]; simp only; rw [if_neg (by omega), if_pos h]
theorem textGo_plain (c : UInt8) (r out : List UInt8) (k : Nat) (h1 : ¬ c.toNat = 10) (h2 : ¬ c.toNat = 34) (h3 : ¬ c.toNat = 92) : textGo (c :: r) out k = textGo r (out ++ [c]) (k + 1) := by
  rw [textGo.eq_def]; simp only; rw [if_neg h1, if_neg h2, if_pos h3]
theorem textGo_kept (c d : UInt8) (r out : List UInt8) (k : Nat) (h3 : c.toNat = 92) (hd : d.toNat = 34 ∨ d.toNat = 92 ∨ d.toNat = 47) : textGo (c :: d :: r) out k = textGo r (out ++ [d]) (k + 2) := by
  rw [textGo.eq_def]; simp only; rw [if_neg (by omega), if_neg (by omega), if_neg (by omega), if_pos hd]
theorem textGo_hex (c d e f : UInt8) (r out : List UInt8) (k : Nat) (h3 : c.toNat = 92) (hd : d.toNat = 120) (h4 : 0 ≤ hexDig e) (h5 : 0 ≤ hexDig f) (h6 : (hexByte e f).toNat ≠ 10) : textGo (c :: d :: e :: f :: r) out k = textGo r (out ++ [hexByte e f]) (k + 4) := by
  rw [textGo.eq_def]; simp only; rw [if_neg (by omega), if_neg (by omega), if_neg (by omega), if_neg (by omega), if_pos ⟨hd, h4, h5, h6⟩]
theorem textGo_hex_bad (c d e f : UInt8) (r out : List UInt8) (k : Nat) (h3 : c.toNat = 92) (hk : ¬ (d.toNat = 34 ∨ d.toNat = 92 ∨ d.toNat = 47)) (hd : ¬ (d.toNat = 120 ∧ 0 ≤ hexDig e ∧ 0 ≤ hexDig f ∧ (hexByte e f).toNat ≠ 10)) : textGo (c :: d :: e :: f :: r) out k = none := by
  rw [textGo.eq_def]; simp only; rw [if_neg (by omega), if_neg (by omega), if_neg (by omega), if_neg hk, if_neg hd]
theorem textGo_short (c : UInt8) (r out : List UInt8) (k : Nat) (h3 : c.toNat = 92) (hk : ∀ d, r[0]? = some d → ¬ (d.toNat = 34 ∨ d.toNat = 92 ∨ d.toNat = 47)) (hr : r.length < 3) : textGo (c :: r) out k = none := by
  rw [textGo.eq_def]; simp only; rw [if_neg (by omega), if_neg (by omega), if_neg (by omega)]
  match r, hr with
  | [], _ => rfl
  | [d], _ => simp only; rw [if_neg (hk d rfl)]
  | [d, e], _ => simp only; rw [if_neg (hk d rfl)]
def textRes (l : List UInt8) : Tok × Nat := match textGo (l.drop 1) [] 1 with
  | some (t, n) => ({ kind := 3, at_ := 0, text := t, n := 0 }, n)
  | none => ({ kind := 0, at_ := 0, text := [], n := 0 }, 0)
theorem textRes_none (l : List UInt8) (h : textGo (l.drop 1) [] 1 = none) : textRes l = ({ kind := 0, at_ := 0, text := [], n := 0 }, 0) := by unfold textRes; rw [h]
theorem textRes_some (l : List UInt8) {t : List UInt8} {n : Nat} (h : textGo (l.drop 1) [] 1 = some (t, n)) : textRes l = ({ kind := 3, at_ := 0, text := t, n := 0 }, n) := by unfold textRes; rw [h]
def byteVals (l : List UInt8) : List Value := l.map fun c => .int .u8 c.toNat
theorem byteVals_append (l m : List UInt8) : byteVals (l ++ m) = byteVals l ++ byteVals m := by simp [byteVals]
theorem byteVals_length (l : List UInt8) : (byteVals l).length = l.length := by simp [byteVals]

/-- how many figures a text begins with; a numeral's length; its place of the point and its end, as dec.span has them -/
def figs (l : List UInt8) : Nat := (l.takeWhile isFig).length
def spanEnd (l : List UInt8) : Nat := match l.drop (figs l) with
  | c :: r => if c.toNat = 46 then figs l + 1 + figs r else figs l
  | [] => figs l
theorem figs_le (l : List UInt8) : figs l ≤ l.length := List.Sublist.length_le (List.takeWhile_sublist _)
theorem figs_ge (l : List UInt8) (k : Nat) (hk : k ≤ l.length) (h : (l.take k).all isFig = true) : k ≤ figs l := by
  unfold figs
  induction l generalizing k with
  | nil => simp at hk; omega
  | cons c r ih =>
    cases k with
    | zero => omega
    | succ k =>
      rw [List.take_succ_cons, List.all_cons, Bool.and_eq_true] at h
      rw [List.takeWhile_cons, if_pos h.1]
      have := ih k (by simpa using hk) h.2
      simp only [List.length_cons]; omega
theorem figs_lt (l : List UInt8) (k : Nat) (hk : k < l.length) (h : isFig l[k] = false) : figs l ≤ k := by
  unfold figs
  induction l generalizing k with
  | nil => simp at hk
  | cons c r ih =>
    cases k with
    | zero => simp only [List.getElem_cons_zero] at h; rw [List.takeWhile_cons, if_neg (by simp [h])]; simp
    | succ k =>
      rw [List.takeWhile_cons]
      split
      · have := ih k (by simpa using hk) (by simpa using h)
        simp only [List.length_cons]; omega
      · simp
/-- a number's figures, read -/
def decNat (l : List UInt8) : Nat := l.foldl (fun a c => a * 10 + (c.toNat - 48)) 0
theorem decNat_snoc (l : List UInt8) (c : UInt8) : decNat (l ++ [c]) = decNat l * 10 + (c.toNat - 48) := by simp [decNat]

/-- dec.Read: a numeral's figures, six of them behind the point; its value -/
def numDigits (l : List UInt8) : List UInt8 := l.take (figs l) ++ ((if figs l < spanEnd l then (l.drop (figs l + 1)).take (spanEnd l - (figs l + 1)) else []) ++ [48, 48, 48, 48, 48, 48]).take 6
def numVal (l : List UInt8) : Nat := decNat (numDigits l)
theorem decNat_mono (l m : List UInt8) : decNat l ≤ decNat (l ++ m) := by
  induction m generalizing l with
  | nil => simp
  | cons c m ih =>
    have h := ih (l ++ [c])
    rw [List.append_assoc, List.singleton_append] at h
    rw [decNat_snoc] at h
    omega
theorem decNat_take (l : List UInt8) (k : Nat) : decNat (l.take k) ≤ decNat l := by
  have h := decNat_mono (l.take k) (l.drop k)
  rwa [List.take_append_drop] at h
theorem spanEnd_bounds (l : List UInt8) : figs l ≤ spanEnd l ∧ spanEnd l ≤ l.length := by
  have h0 := figs_le l
  unfold spanEnd
  split
  · rename_i c r h
    have h1 := figs_le r
    have h2 := congrArg List.length h
    rw [List.length_drop, List.length_cons] at h2
    split <;> omega
  · omega

theorem figs_all (l : List UInt8) : (l.take (figs l)).all isFig = true := by
  unfold figs
  induction l with
  | nil => rfl
  | cons c r ih =>
    rw [List.takeWhile_cons]
    split
    · rename_i h
      rw [List.length_cons, List.take_succ_cons, List.all_cons, h, ih]; rfl
    · rfl
theorem numDigits_all (l : List UInt8) : (numDigits l).all isFig = true := by
  unfold numDigits
  rw [List.all_append, figs_all, Bool.true_and]
  have h : ((if figs l < spanEnd l then (l.drop (figs l + 1)).take (spanEnd l - (figs l + 1)) else []) ++ [48, 48, 48, 48, 48, 48]).all isFig = true := by
    rw [List.all_append]
    have h2 : ([48, 48, 48, 48, 48, 48] : List UInt8).all isFig = true := by decide
    rw [h2, Bool.and_true]
    split
    · rename_i hlt
      unfold spanEnd at hlt ⊢
      split at hlt
      · rename_i c r hd
        split at hlt
        · rename_i h46
          have e : l.drop (figs l + 1) = r := by
            have := congrArg (List.drop 1) hd
            rw [List.drop_drop] at this
            rw [this]; rfl
          rw [if_pos h46, e, show figs l + 1 + figs r - (figs l + 1) = figs r by omega]
          exact figs_all r
        · omega
      · omega
    · rfl
  rw [List.all_eq_true] at h ⊢
  intro x hx
  exact h x (List.mem_of_mem_take hx)

/-- scan.number: how long a numeral is; its token -/
def numLen (l : List UInt8) : Nat := match l.drop (figs l) with
  | c :: d :: r => if c.toNat = 46 ∧ isFig d = true then figs l + 1 + figs (d :: r) else figs l
  | _ => figs l
def numRes (l : List UInt8) : Tok × Int :=
  if numVal (l.take (numLen l)) ≤ 9223372036854775807 then ({ kind := 2, at_ := 0, text := [], n := (numVal (l.take (numLen l)) : Nat) }, (numLen l : Nat)) else ({ kind := 0, at_ := 0, text := [], n := 0 }, -1)
theorem numLen_le (l : List UInt8) : numLen l ≤ l.length := by
  have h0 := figs_le l
  unfold numLen
  split
  · rename_i c d r h
    have h1 := figs_le (d :: r)
    have h2 := congrArg List.length h
    rw [List.length_drop, List.length_cons] at h2
    split <;> omega
  · exact h0
theorem numLen_ge (l : List UInt8) : figs l ≤ numLen l := by
  unfold numLen
  split
  · split <;> omega
  · omega

end Go.Proofs.YtdochnioodedmaaDoor
