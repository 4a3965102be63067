/- Amounts, plainly. -/
import Derived.Test.YthmajioeldhngaaQnuSQu
import Derived.Test.YthmajioeldhngaaQntPQu
namespace Go.VI
set_option linter.unusedVariables false
set_option linter.unusedSimpArgs false

theorem digsF_split (l : List UInt8) : ∀ a : Nat, digsF a l = a * 10 ^ l.length + digs l := by
  induction l with
  | nil => intro a; show a = a * 10 ^ 0 + 0; omega
  | cons b l ih =>
    intro a
    have e : digs (b :: l) = digsF (10 * 0 + (b.toNat - 48)) l := rfl
    rw [digsF_cons, e, ih, ih, List.length_cons, Nat.pow_succ, Nat.add_mul, Nat.add_mul, Nat.mul_assoc 10, Nat.mul_left_comm 10, Nat.mul_comm 10]
    omega
theorem digs_cons (b : UInt8) (l : List UInt8) : digs (b :: l) = (b.toNat - 48) * 10 ^ l.length + digs l := by
  have e : digs (b :: l) = digsF (10 * 0 + (b.toNat - 48)) l := rfl
  rw [e, digsF_split]; simp
theorem digs_append (a b : List UInt8) : digs (a ++ b) = digs a * 10 ^ b.length + digs b := by
  have e : digs (a ++ b) = digsF (digs a) b := by
    unfold digs digsF
    rw [List.foldl_append]
  rw [e, digsF_split]
/-- A unit's worth in thousandths; 0: there is none. -/
def unitL (l : List UInt8) : Nat :=
  if l = [] then 1000 else if l = [109] then 1 else if l = [75, 105] then 1024000 else if l = [77, 105] then 1048576000 else if l = [71, 105] then 1073741824000 else if l = [84, 105] then 1099511627776000
  else if l = [107] then 1000000 else if l = [77] then 1000000000 else if l = [71] then 1000000000000 else if l = [84] then 1000000000000000 else 0
theorem unitL_le (l : List UInt8) : unitL l ≤ 1099511627776000 := by
  unfold unitL
  repeat' split
  all_goals omega
/-- A text's digits, what stands behind its point, as thousandths, and the rest. -/
def cutL (l : List UInt8) : Option (List UInt8 × Nat × List UInt8) :=
  if hdN l = 0 then none
  else if (l.drop (hdN l)).head? = some 46 then
    (if hdN (l.drop (hdN l + 1)) < 1 ∨ 3 < hdN (l.drop (hdN l + 1)) then none
     else some (l.take (hdN l), digs (((l.drop (hdN l + 1)).take (hdN (l.drop (hdN l + 1))) ++ [48, 48]).take 3), l.drop (hdN l + 1 + hdN (l.drop (hdN l + 1)))))
  else some (l.take (hdN l), 0, l.drop (hdN l))
def amtC (each : Nat) : Option (List UInt8 × Nat × List UInt8) → Int × Int
  | none => (0, 8)
  | some (w, p, r) => if unitL r = 0 then (0, 9) else if (digs w * 1000 + p) * unitL r % each = 0 then
      (if (digs w * 1000 + p) * unitL r / each ≤ 1125899906842624 then (((digs w * 1000 + p) * unitL r / each : Nat), 0) else (0, 10)) else (0, 8)
def amtL (each : Nat) (l : List UInt8) : Int × Int := amtC each (cutL l)

theorem hdN_app : ∀ {w r : List UInt8}, digAll w = true → (∀ b, r.head? = some b → isD b = false) → hdN (w ++ r) = w.length
  | [], [], _, _ => rfl
  | [], b :: r, _, h => by
    rw [List.nil_append, hdN_cons, h b rfl]; rfl
  | b :: w, r, hw, h => by
    have e : digAll (b :: w) = (isD b && digAll w) := by unfold digAll isD; rw [List.all_cons]
    rw [e, Bool.and_eq_true] at hw
    rw [List.cons_append, hdN_cons, if_pos hw.1, hdN_app hw.2 h, List.length_cons]
theorem digAll_take : ∀ l : List UInt8, digAll (l.take (hdN l)) = true
  | [] => rfl
  | b :: l => by
    rw [hdN_cons]
    cases c : isD b
    · rfl
    · have e : ∀ w, digAll (b :: w) = (isD b && digAll w) := fun w => by unfold digAll isD; rw [List.all_cons]
      rw [if_pos rfl, List.take_succ_cons, e, c, digAll_take l]; rfl
theorem digAll_dec (n : Nat) : digAll (dec n) = true := digAll_iff.2 (dec_dig n)
theorem cutL_plain {w r : List UInt8} (hw : digAll w = true) (hn : w ≠ []) (h : ∀ b, r.head? = some b → isD b = false) (h' : r.head? ≠ some 46) : cutL (w ++ r) = some (w, 0, r) := by
  have hp : w.length ≠ 0 := fun e => hn (List.eq_nil_of_length_eq_zero e)
  unfold cutL
  rw [hdN_app hw h, if_neg hp, List.drop_left, if_neg h', List.take_left]
theorem cutL_point {w p r : List UInt8} (hw : digAll w = true) (hn : w ≠ []) (hp : digAll p = true) (h1 : 1 ≤ p.length) (h3 : p.length ≤ 3) (h : ∀ b, r.head? = some b → isD b = false) :
    cutL (w ++ 46 :: (p ++ r)) = some (w, digs ((p ++ [48, 48]).take 3), r) := by
  have hl : w.length ≠ 0 := fun e => hn (List.eq_nil_of_length_eq_zero e)
  have e1 : hdN (w ++ 46 :: (p ++ r)) = w.length := hdN_app hw fun b hb => by
    simp only [List.head?_cons, Option.some.injEq] at hb
    rw [← hb]; rfl
  have e2 : (w ++ 46 :: (p ++ r)).drop (w.length + 1) = p ++ r := by
    rw [← List.drop_drop, List.drop_left]; rfl
  have e3 : hdN (p ++ r) = p.length := hdN_app hp h
  unfold cutL
  rw [e1, if_neg hl, List.drop_left, if_pos (show (46 :: (p ++ r)).head? = some 46 from rfl), e2, e3, if_neg (by omega), List.take_left, List.take_left, ← List.drop_drop, e2, List.drop_left]
theorem cutL_zero {l : List UInt8} (h : hdN l ≠ 0) : cutL (48 :: l) = (cutL l).map fun x => (48 :: x.1, x.2) := by
  have e : hdN (48 :: l) = hdN l + 1 := by rw [hdN_cons]; rfl
  have e2 : ∀ n, (48 :: l).drop (n + 1) = l.drop n := fun n => rfl
  have e3 : hdN l + 1 + 1 = (hdN l + 1) + 1 := rfl
  unfold cutL
  rw [e, if_neg (by omega), if_neg h, e2, e2, List.take_succ_cons]
  rw [show hdN l + 1 + 1 + hdN (List.drop (hdN l + 1) l) = (hdN l + 1 + hdN (List.drop (hdN l + 1) l)) + 1 by omega, e2]
  by_cases c : (List.drop (hdN l) l).head? = some 46
  · rw [if_pos c, if_pos c]
    split
    · rfl
    · rfl
  · rw [if_neg c, if_neg c]; rfl
theorem digs_zero (w : List UInt8) : digs (48 :: w) = digs w := by
  rw [digs_cons]; simp
theorem amtL_zero (each : Nat) {l : List UInt8} (h : hdN l ≠ 0) : amtL each (48 :: l) = amtL each l := by
  unfold amtL
  rw [cutL_zero h]
  cases e : cutL l with
  | none => rfl
  | some x =>
    obtain ⟨w, p, r⟩ := x
    show amtC each (some (48 :: w, p, r)) = _
    unfold amtC
    dsimp only
    rw [digs_zero]
theorem qnum_zero (most : Nat) {l : List UInt8} (h : l ≠ []) : qnum most (48 :: l) = qnum most l := by
  unfold qnum
  rw [if_neg (by simp), if_neg h, digs_zero]
  have e : digAll (48 :: l) = digAll l := by unfold digAll; rw [List.all_cons]; rfl
  rw [e]
end Go.VI
namespace Go.Proofs.Ythmajioeldhngaa.Qu
end Go.Proofs.Ythmajioeldhngaa.Qu
