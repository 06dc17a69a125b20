/- A verified evaluator of conditions, part 21: sums and pieces of strings. Conditions: none; over any program. -/
import Derived.Test.YtphgaomacnkfoaaDoorEvT
namespace Go.Ev
open Go

/-- A string of these bytes. -/
abbrev bs (l : List UInt8) : ByteArray := ⟨l.toArray⟩
theorem bs_add (a b : List UInt8) : bs a ++ bs b = bs (a ++ b) := by
  have h : (bs a ++ bs b).data = (bs (a ++ b)).data := by rw [ByteArray.data_append]; simp
  cases h' : bs a ++ bs b with
  | mk d => rw [h'] at h; exact congrArg ByteArray.mk h
theorem bs_size (a : List UInt8) : (bs a).size = a.length := by show a.toArray.size = _; simp
theorem bs_extract (a : List UInt8) (i j : Nat) : (bs a).extract i j = bs ((a.take j).drop i) := by
  have h : ((bs a).extract i j).data = (bs ((a.take j).drop i)).data := by
    rw [ByteArray.data_extract]
    apply Array.ext'
    simp only [bs, Array.toList_extract, List.extract_eq_take_drop]
    rw [List.drop_take]
  cases h' : (bs a).extract i j with
  | mk d => rw [h'] at h; exact congrArg ByteArray.mk h
theorem bs_inj {a b : List UInt8} (h : bs a = bs b) : a = b := by
  injection h with h
  simpa using h
theorem bs_beq (a b : List UInt8) : (bs a == bs b) = decide (a = b) := by
  rw [Bool.eq_iff_iff, Go.MapKept.bytes_beq, decide_eq_true_iff]
  exact ⟨bs_inj, fun e => by rw [e]⟩

section
variable {P : Program} {X : Tab} {N : Nat}
theorem UGenReq.strAdd {o : Oper} {ρ : Operand → Value} {t yt : Nat} {x y : Operand} {a b : ByteArray} {K : Value → Prop} (ho : o.op = .binOp .add t x y yt) (hx : ρ x = .string a) (hy : ρ y = .string b)
    (hsz : a.size + b.size ≤ 1000000000000) (h : K (.string (a ++ b))) : UGenReq P o ρ K := by
  have hex : execOp ρ o = (do pure (.value (← (do eqGuard .add t x y (.string a) (.string b); binOp .add t (.string a) (.string b) : Sem Value)))) := by simp only [execOp, ho, hx, hy]
  have hg : eqGuard .add t x y (.string a) (.string b) = pure () := by simp [eqGuard]
  refine ⟨UOk.of_run _ hex (fun w => ?_) h⟩
  rw [hg]
  simp [binOp, Op.stringOp]
  omega
theorem UGenReq.strB {o : Oper} {ρ : Operand → Value} {t yt : Nat} {x y : Operand} {sa sb : ByteArray} (a b : List UInt8) {K : Value → Prop} (ho : o.op = .binOp .add t x y yt) (hx : ρ x = .string sa) (hy : ρ y = .string sb)
    (ha : sa = bs a) (hb : sb = bs b) (hsz : a.length + b.length ≤ 1000000000000) (h : K (.string (bs (a ++ b)))) : UGenReq P o ρ K := by
  subst ha hb
  refine UGenReq.strAdd ho hx hy (by rw [bs_size, bs_size]; exact hsz) ?_
  rw [bs_add]; exact h
end
end Go.Ev
