/- A verified evaluator of conditions, part 19: bytes as strings. Conditions: none; over any program. -/
import Derived.Test.YtphgaomacnkfoaaDoorEvR
import Derived.Laws.IdiomStrings
import Derived.Laws.Strings
namespace Go.Ev
open Go

/-- A string of these bytes. -/
def strOf (l : List Int) : ByteArray := ⟨(l.map fun z => UInt8.ofNat z.toNat).toArray⟩
theorem strOf_inj {a b : List Int} (ha : ∀ z ∈ a, 0 ≤ z ∧ z ≤ 255) (hb : ∀ z ∈ b, 0 ≤ z ∧ z ≤ 255) (h : strOf a = strOf b) : a = b := by
  have h1 : a.map (fun z => UInt8.ofNat z.toNat) = b.map (fun z => UInt8.ofNat z.toNat) := by
    have := congrArg (fun s : ByteArray => s.data.toList) h
    simpa [strOf] using this
  have back : ∀ l : List Int, (∀ z ∈ l, 0 ≤ z ∧ z ≤ 255) → (l.map (fun z => UInt8.ofNat z.toNat)).map (fun u => (u.toNat : Int)) = l := by
    intro l
    induction l with
    | nil => intro _; rfl
    | cons x l ih =>
      intro hl
      have hx := hl x (by simp)
      simp only [List.map_cons]
      rw [ih fun z hz => hl z (by simp [hz])]
      congr 1
      have : x.toNat < 256 := by omega
      rw [UInt8.toNat_ofNat_of_lt' this]
      omega
  rw [← back a ha, ← back b hb, h1]
theorem strOf_beq {a b : List Int} (ha : ∀ z ∈ a, 0 ≤ z ∧ z ≤ 255) (hb : ∀ z ∈ b, 0 ≤ z ∧ z ≤ 255) : (strOf a == strOf b) = decide (a = b) := by
  rw [Bool.eq_iff_iff, Go.MapKept.bytes_beq, decide_eq_true_iff]
  exact ⟨strOf_inj ha hb, fun h => by rw [h]⟩

section
variable {P : Program} {X : Tab} {N : Nat} {m0 m : Mem} {S : List Nat} {w0 w : World} {L : Own}

theorem RunReq.bytesStr (hX : TabsOk P X) {src dst e : Nat} {ts td te : TI} (ht : look X.T src = some (some ts)) (hd : ts.d = .slice e) (hte : look X.T e = some (some te)) (hk : te.d = .int .u8) (htd : look X.T dst = some (some td)) (hds : td.d = .str)
    {v : Value} {l : List Int} {K : Value → World → Prop} (hv : SlI m .u8 v l) (hb : ∀ z ∈ l, 0 ≤ z ∧ z ≤ 255) (hL : Loc m0 S w0 m L w) (h : K (.string (strOf l)) w) : RunReq P (convert src dst v) w K := by
  have hv' := hv
  obtain ⟨A, n, c, rfl, hn, -⟩ := hv
  have hs := td_slice (hX.t _ _ ht) hd
  have he := td_int (hX.t _ _ hte) hk
  have hdd := td_str (hX.t _ _ htd) hds
  have hcell := hv'.cell.2
  refine ⟨_, _, ?_, h⟩
  cases A with
  | none =>
    have : l = [] := by
      cases l with
      | nil => rfl
      | cons x l => obtain ⟨a, e, _⟩ := hcell 0 x rfl; cases e
    subst this
    rw [run_convert_bytes_string w src dst e none n c hs he hdd]
    simp [Conv.bytesToString]
    rfl
  | some a =>
    have hl : n = (l.map fun z => UInt8.ofNat z.toNat).length := by rw [hn]; simp
    rw [hl]
    refine run_convert_bytes_back (P := P) w src dst e a c (l.map fun z => UInt8.ofNat z.toNat) hs he hdd ?_
    intro j hj
    have hjl : j < l.length := by simpa using hj
    obtain ⟨a', e', hc⟩ := hcell j _ (List.getElem?_eq_getElem hjl)
    cases e'
    have hz := hb _ (List.getElem_mem hjl)
    rw [hL.cell hc, List.getElem_map]
    have : (l[j]).toNat < 256 := by omega
    rw [UInt8.toNat_ofNat_of_lt' this]
    congr 2
    omega

theorem toList_beq (a b : ByteArray) : (a.toList == b.toList) = (a == b) := by
  rw [Bool.eq_iff_iff, beq_iff_eq, Go.MapKept.bytes_beq, ByteArray.toList_eq, ByteArray.toList_eq]
  constructor
  · intro h
    obtain ⟨a⟩ := a
    obtain ⟨b⟩ := b
    exact congrArg ByteArray.mk (Array.ext' h)
  · intro h; rw [h]
theorem UGenReq.strEq {o : Oper} {ρ : Operand → Value} {t yt : Nat} {x y : Operand} {a b : ByteArray} {K : Value → Prop} (ho : o.op = .binOp .eql t x y yt) (hx : ρ x = .string a) (hy : ρ y = .string b)
    (h : K (.bool (a == b))) : UGenReq P o ρ K := by
  have hex : execOp ρ o = (do pure (.value (← (do eqGuard .eql t x y (.string a) (.string b); binOp .eql t (.string a) (.string b) : Sem Value)))) := by simp only [execOp, ho, hx, hy]
  have hg : eqGuard .eql t x y (.string a) (.string b) = pure () := by simp [eqGuard]
  refine ⟨UOk.of_run _ hex (fun w => ?_) h⟩
  rw [hg]
  simp [binOp, Op.stringOp, toList_beq]
theorem UGenReq.strNe {o : Oper} {ρ : Operand → Value} {t yt : Nat} {x y : Operand} {a b : ByteArray} {K : Value → Prop} (ho : o.op = .binOp .neq t x y yt) (hx : ρ x = .string a) (hy : ρ y = .string b)
    (h : K (.bool (!(a == b)))) : UGenReq P o ρ K := by
  have hex : execOp ρ o = (do pure (.value (← (do eqGuard .neq t x y (.string a) (.string b); binOp .neq t (.string a) (.string b) : Sem Value)))) := by simp only [execOp, ho, hx, hy]
  have hg : eqGuard .neq t x y (.string a) (.string b) = pure () := by simp [eqGuard]
  refine ⟨UOk.of_run _ hex (fun w => ?_) h⟩
  rw [hg]
  simp [binOp, Op.stringOp, toList_beq]
end
end Go.Ev
