/- Sets of bytes, put together, by the program and by the document. Conditions: none. -/
import Derived.Test.YtemdkfohlppckaaGreatDoorPrSet

namespace Go.Proofs.YtemdkfohlppckaaGreatDoor.lx
open Go Go.Ev Go.Proofs
open Go.Proofs.YtemdkfohlppckaaGreatDoor.tabs (hasR selR wrap_nat ofInt_nat Has_fn)

/-- A set, by its numbers. -/
def upd (f : Nat → Nat) (q x : Nat) : Nat → Nat := fun i => if i = q then x else f i
def putF (f : Nat → Nat) (b : Nat) : Nat → Nat := upd f (b / 64) (f (b / 64) ||| 2 ^ (b % 64))
def zeroF : Nat → Nat := fun _ => 0
def unF (f g : Nat → Nat) : Nat → Nat := fun q => f q ||| g q
def notF (f : Nat → Nat) : Nat → Nat := fun q => 18446744073709551615 - f q
def setC (f : Nat → Nat) : List Value := [.int .u64 (f 0 : Nat), .int .u64 (f 1 : Nat), .int .u64 (f 2 : Nat), .int .u64 (f 3 : Nat)]
def InF (f : Nat → Nat) : Prop := ∀ q, f q ≤ 18446744073709551615
theorem setC_get (f : Nat → Nat) {q : Nat} (h : q < 4) : (setC f)[q]? = some (.int .u64 (f q : Nat)) := by
  have : q = 0 ∨ q = 1 ∨ q = 2 ∨ q = 3 := by omega
  rcases this with rfl | rfl | rfl | rfl <;> rfl
theorem setC_set (f : Nat → Nat) {q : Nat} (h : q < 4) (x : Nat) : spliceL (setC f) q [.int .u64 (x : Nat)] = setC (upd f q x) := by
  have : q = 0 ∨ q = 1 ∨ q = 2 ∨ q = 3 := by omega
  rcases this with rfl | rfl | rfl | rfl <;> rfl
theorem setC_ext {f g : Nat → Nat} (h : ∀ q, q < 4 → f q = g q) : setC f = setC g := by
  unfold setC; rw [h 0 (by omega), h 1 (by omega), h 2 (by omega), h 3 (by omega)]
theorem or_lt {a b : Nat} (ha : a ≤ 18446744073709551615) (hb : b ≤ 18446744073709551615) : a ||| b ≤ 18446744073709551615 := by
  have := Nat.or_lt_two_pow (n := 64) (x := a) (y := b) (by omega) (by omega)
  omega
theorem pow_lt (b : Nat) : 2 ^ (b % 64) ≤ 18446744073709551615 := by
  have : 2 ^ (b % 64) ≤ 2 ^ 63 := Nat.pow_le_pow_right (by omega) (by omega)
  omega
theorem inF_put {f : Nat → Nat} (h : InF f) (b : Nat) : InF (putF f b) := by
  intro q
  unfold putF upd
  split
  · exact or_lt (h _) (pow_lt b)
  · exact h q
theorem inF_zero : InF zeroF := fun _ => by unfold zeroF; omega
theorem inF_un {f g : Nat → Nat} (hf : InF f) (hg : InF g) : InF (unF f g) := fun q => or_lt (hf q) (hg q)
theorem inF_not (f : Nat → Nat) : InF (notF f) := fun q => by unfold notF; omega
theorem or_u64 {a b : Nat} (ha : a ≤ 18446744073709551615) (hb : b ≤ 18446744073709551615) : bitsOf .or .u64 (a : Int) (b : Int) = ((a ||| b : Nat) : Int) := by
  have h : (BitVec.ofInt 64 (a : Int) ||| BitVec.ofInt 64 (b : Int)).toNat = a ||| b := by
    rw [ofInt_nat, ofInt_nat, BitVec.toNat_or, BitVec.toNat_ofNat, BitVec.toNat_ofNat, Nat.mod_eq_of_lt (by omega), Nat.mod_eq_of_lt (by omega)]
  show IntKind.wrap .u64 ((BitVec.ofInt 64 (a : Int) ||| BitVec.ofInt 64 (b : Int)).toNat : Int) = _
  rw [h]
  have := or_lt ha hb
  exact wrap_nat (by decide) (by show _ ≤ (18446744073709551615 : Int); omega)
theorem shl_u64 (k : Nat) (h : k < 64) : IntKind.wrap .u64 ((1 : Int) * 2 ^ (min (Int.toNat ((k : Nat) : Int)) (IntKind.bits .u64))) = ((2 ^ k : Nat) : Int) := by
  have e : min (Int.toNat ((k : Nat) : Int)) (IntKind.bits .u64) = k := by show min (Int.toNat ((k : Nat) : Int)) 64 = k; omega
  rw [e, Int.one_mul, show ((2 : Int) ^ k) = ((2 ^ k : Nat) : Int) by norm_cast]
  have := pow_lt k
  rw [Nat.mod_eq_of_lt h] at this
  exact wrap_nat (by decide) (by show _ ≤ (18446744073709551615 : Int); omega)
theorem un_fold (f : Nat → Nat) : ∀ (l : List Nat) (g : Nat → Nat), unF f (l.foldl putF g) = l.foldl putF (unF f g)
  | [], g => rfl
  | b :: l, g => by
    rw [List.foldl_cons, List.foldl_cons, un_fold f l]
    congr 1
    funext q
    unfold unF putF upd
    split
    · rename_i h; subst h; rw [Nat.or_assoc]
    · rfl
theorem un_zero (f : Nat → Nat) : unF f zeroF = f := by funext q; unfold unF zeroF; simp

theorem QLdReq.ownAt {P : Program} {X : Tab} {m0 m : Mem} {S : List Nat} {w0 : World} (hX : TabsOk P X) {t : Nat} {ti : TI} {L : Ev.Own} (ht : Ev.look X.T t = some (some ti)) (hd : ti.d.isAgg = false) (i : Nat) {b o j : Nat} {cs : List Value} {te : TypeId} {fz : Nat × Nat} {v : Value} {K : Value → Prop}
    (hi : Ev.look L i = some (b, .cells (toArr cs) te fz)) (hv : cs[o + j]? = some v) (h : K v) : QLdReq P t (fun w => Ev.Loc m0 S w0 m L w) ((⟨b, o, none⟩ : Addr).add j) K := by
  rw [addr_add]
  exact QLdReq.own1 hX ht hd i hi (by rw [look_eq]; exact hv) h

theorem Of_fn (m : Mem) (g b : Nat) (hb : b < 256) (fz : Nat × Nat) : Ev.Fn Tryz.prog 64 [.slice (some ⟨g, 0, none⟩) 1 1] m [(g, .cells (toArr [.int .u8 b]) 5 fz)] fun m' L' u => m' = m ∧ L' = [] ∧ u = .agg (toArr (setC (putF zeroF b))) := by
  have hp := pow_lt b
  have hps := shl_u64 (b % 64) (by omega)
  have hx4 : b / 64 < 4 := by omega
  refine Fn.enter (N := 23) hX Tryz.func64 rfl rfl (by show _ ≤ _; simp) (fun w0 hL => ?_)
  conv => whnf
  generalize keys [(g, Obj.cells (toArr [Value.int .u8 b]) 5 fz)] = S0 at hL ⊢
  refine NewReq.mk hL ?_
  clear hL
  intro b2 w hL
  conv => whnf
  refine NewReq.mk hL ?_
  clear hL
  intro b3 w hL
  conv => whnf
  conv => whnf
  repeat ((first | refine zT ?_ | refine zF ?_ | refine zL hX hL ?_ | refine zB hX hL ?_ | (refine zS hX hL ?_; clear hL; intro w hL) | refine zI ?_ | refine zG hX ?_ | refine zO ?_); conv => whnf)
  replace hL : Ev.Loc m S0 w0 m [(b3, .cells (toArr (setC zeroF)) 33 (0, 0)), (b2, .cells (toArr (setC zeroF)) 33 (0, 0)), (g, Obj.cells (toArr [Value.int .u8 b]) 5 fz)] w := hL
  refine LoopReq.inv hX (fun j : Nat => [(8, .int .i64 j)]) [2, 3, 6, 7]
    (fun j w => j ≤ 1 ∧ Ev.Loc m S0 w0 m [(b3, .cells (toArr (setC (if j = 0 then zeroF else putF zeroF b))) 33 (0, 0)), (b2, .cells (toArr (setC zeroF)) 33 (0, 0)), (g, Obj.cells (toArr [Value.int .u8 b]) 5 fz)] w) (fun j => 1 - j) 0
    ⟨by omega, hL⟩ ⟨rfl, trivial⟩ ?_
  clear hL
  rintro j w f ⟨hj, hL⟩
  conv => whnf
  repeat ((first | refine zT ?_ | refine zF ?_ | refine zL hX hL ?_ | refine zB hX hL ?_ | (refine zS hX hL ?_; clear hL; intro w hL) | refine zI ?_ | refine zG hX ?_ | refine zO ?_); conv => whnf)
  refine BrReq.dec (fun hlt => ?_) (fun hlt => ?_)
  · obtain rfl : j = 0 := by omega
    rw [if_pos rfl] at hL
    conv => whnf
    repeat ((first | refine Idx2Req.mk 0 _ rfl (by omega) rfl ?_ | refine zT ?_ | refine zF ?_ | refine zL hX hL ?_ | refine zB hX hL ?_ | (refine zS hX hL ?_; clear hL; intro w hL) | refine zI ?_ | refine zG hX ?_ | refine zO ?_); conv => whnf)
    refine DivReq.mk (n := ((b / 64 : Nat) : Int)) (by decide) (by rw [show ((64 : Int)) = ((64 : Nat) : Int) from rfl, tdiv_nat]; exact wrap_nat (by decide) (by show _ ≤ (255 : Int); omega)) ?_
    conv => whnf
    repeat ((first | refine IdxReq.mk (b / 64) rfl (by omega) ?_ | (refine LdReq.ownAt hX rfl rfl 0 hL rfl (v := .int .u64 (zeroF (b / 64) : Nat)) (by rw [scale_eq, Nat.zero_add, Nat.mul_one]; exact setC_get _ hx4) ?_) | refine RemReq.nat (k := 64) rfl (by omega) ?_ | refine ShlReq.mk (n := ((2 ^ (b % 64) : Nat) : Int)) (by omega) hps ?_ | refine BitReq.mk (or_u64 (inF_zero _) hp) ?_ | refine zT ?_ | refine zF ?_ | refine zL hX hL ?_ | refine zB hX hL ?_ | (refine zS hX hL ?_; clear hL; intro w hL) | refine zI ?_ | refine zG hX ?_ | refine zO ?_); conv => whnf)
    refine StReq.ownAt hX rfl 0 hL rfl rfl (by rw [scale_eq, Nat.zero_add, Nat.mul_one]; show b / 64 + 1 ≤ 4; omega) rfl ?_; clear hL; intro w hL
    replace hL : Ev.Loc m S0 w0 m ((b3, .cells (toArr (spliceL (setC zeroF) (0 + scale (b / 64) 1) [.int .u64 (zeroF (b / 64) ||| 2 ^ (b % 64) : Nat)])) 33 (0, 0)) :: [(b2, .cells (toArr (setC zeroF)) 33 (0, 0)), (g, Obj.cells (toArr [Value.int .u8 b]) 5 fz)]) w := hL
    rw [scale_eq, Nat.zero_add, Nat.mul_one, setC_set _ hx4] at hL
    conv => whnf
    repeat ((first | refine zT ?_ | refine zF ?_ | refine zL hX hL ?_ | refine zB hX hL ?_ | (refine zS hX hL ?_; clear hL; intro w hL) | refine zI ?_ | refine zG hX ?_ | refine zO ?_); conv => whnf)
    refine ⟨1, ⟨by omega, hL⟩, by first | omega | (simp only; omega) | (simp only [List.length_cons, List.length_append]; omega), ?_, ?_⟩
    · repeat (first | exact trivial | (refine And.intro (by (conv => lhs; whnf) <;> (conv => rhs; whnf) <;> (first | rfl)) ?_))
    · repeat (first | exact trivial | (refine And.intro (by (conv => lhs; whnf) <;> (conv => rhs; whnf) <;> (first | rfl)) ?_))
  · obtain rfl : j = 1 := by omega
    rw [if_neg (by decide)] at hL
    conv => whnf
    repeat ((first | refine zT ?_ | refine zF ?_ | refine zL hX hL ?_ | refine zB hX hL ?_ | (refine zS hX hL ?_; clear hL; intro w hL) | refine zI ?_ | refine zG hX ?_ | refine zO ?_); conv => whnf)
    exact RetReq.mk (hL.sublist (List.nil_sublist _)) ⟨rfl, rfl, rfl⟩

theorem Not_fn (m : Mem) (f : Nat → Nat) (hf : InF f) : FnV Tryz.prog 67 [.agg (toArr (setC f))] m (.agg (toArr (setC (notF f)))) := by
  refine Fn.enter (N := 15) hX Tryz.func67 rfl rfl (by show _ ≤ _; simp) (fun w0 hL => ?_)
  conv => whnf
  refine NewReq.mk hL ?_
  clear hL
  intro b1 w hL
  conv => whnf
  refine NewReq.mk hL ?_
  clear hL
  intro b2 w hL
  conv => whnf
  replace hL : Ev.Loc m [] w0 m [(b2, .cells (toArr (setC zeroF)) 33 (0, 0)), (b1, .cells (toArr (setC f)) 33 (0, 0))] w := hL
  conv => whnf
  repeat ((first | refine zT ?_ | refine zF ?_ | refine zL hX hL ?_ | refine zB hX hL ?_ | (refine zS hX hL ?_; clear hL; intro w hL) | refine zI ?_ | refine zG hX ?_ | refine zO ?_); conv => whnf)
  refine LoopReq.inv hX (fun j : Nat => [(4, .int .i64 j)]) [1, 2]
    (fun j w => j ≤ 4 ∧ Ev.Loc m [] w0 m [(b2, .cells (toArr (setC zeroF)) 33 (0, 0)), (b1, .cells (toArr (setC (fun q => if q < j then notF f q else f q))) 33 (0, 0))] w) (fun j => 4 - j) 0
    ⟨by omega, hL⟩ ⟨rfl, trivial⟩ ?_
  clear hL
  rintro j w e ⟨hj, hL⟩
  conv => whnf
  repeat ((first | refine zT ?_ | refine zF ?_ | refine zL hX hL ?_ | refine zB hX hL ?_ | (refine zS hX hL ?_; clear hL; intro w hL) | refine zI ?_ | refine zG hX ?_ | refine zO ?_); conv => whnf)
  refine BrReq.dec (fun hlt => ?_) (fun hlt => ?_)
  · have hj4 : j < 4 := by omega
    have hfj := hf j
    have hx : bitsOf .xor .u64 18446744073709551615 ((f j : Nat) : Int) = ((notF f j : Nat) : Int) := by
      have h : (BitVec.ofInt 64 ((18446744073709551615 : Nat) : Int) ^^^ BitVec.ofInt 64 ((f j : Nat) : Int)).toNat = notF f j := by
        have e1 : BitVec.ofInt 64 ((18446744073709551615 : Nat) : Int) = BitVec.allOnes 64 := by decide
        rw [e1, BitVec.allOnes_xor, BitVec.toNat_not, ofInt_nat, BitVec.toNat_ofNat, Nat.mod_eq_of_lt (by omega)]
        rfl
      show IntKind.wrap .u64 ((BitVec.ofInt 64 ((18446744073709551615 : Nat) : Int) ^^^ BitVec.ofInt 64 ((f j : Nat) : Int)).toNat : Int) = _
      rw [h]
      have := inF_not f j
      exact wrap_nat (by decide) (by show _ ≤ (18446744073709551615 : Int); omega)
    have hg : (setC (fun q => if q < j then notF f q else f q))[j]? = some (.int .u64 (f j : Nat)) := by rw [setC_get _ hj4]; simp
    conv => whnf
    repeat ((first | refine IdxReq.mk j rfl (by omega) ?_ | (refine LdReq.ownAt hX rfl rfl 1 hL rfl (v := .int .u64 (f j : Nat)) (by rw [scale_eq, Nat.zero_add, Nat.mul_one]; exact hg) ?_) | refine BitReq.mk hx ?_ | refine zT ?_ | refine zF ?_ | refine zL hX hL ?_ | refine zB hX hL ?_ | (refine zS hX hL ?_; clear hL; intro w hL) | refine zI ?_ | refine zG hX ?_ | refine zO ?_); conv => whnf)
    refine StReq.ownAt hX rfl 1 hL rfl rfl (by rw [scale_eq, Nat.zero_add, Nat.mul_one]; show j + 1 ≤ 4; omega) rfl ?_; clear hL; intro w hL
    replace hL : Ev.Loc m [] w0 m [(b2, .cells (toArr (setC zeroF)) 33 (0, 0)), (b1, .cells (toArr (spliceL (setC (fun q => if q < j then notF f q else f q)) (0 + scale j 1) [.int .u64 (notF f j : Nat)])) 33 (0, 0))] w := hL
    rw [scale_eq, Nat.zero_add, Nat.mul_one, setC_set _ hj4] at hL
    have eu : upd (fun q => if q < j then notF f q else f q) j (notF f j) = fun q => if q < j + 1 then notF f q else f q := by
      funext q; unfold upd
      by_cases h1 : q = j
      · subst h1; rw [if_pos rfl, if_pos (by omega)]
      · rw [if_neg h1]
        show (if q < j then notF f q else f q) = _
        by_cases h2 : q < j
        · rw [if_pos h2, if_pos (by omega)]
        · rw [if_neg h2, if_neg (by omega)]
    rw [eu] at hL
    conv => whnf
    repeat ((first | refine zT ?_ | refine zF ?_ | refine zL hX hL ?_ | refine zB hX hL ?_ | (refine zS hX hL ?_; clear hL; intro w hL) | refine zI ?_ | refine zG hX ?_ | refine zO ?_); conv => whnf)
    refine ⟨j + 1, ⟨by omega, hL⟩, by first | omega | (simp only; omega) | (simp only [List.length_cons, List.length_append]; omega), ?_, ?_⟩
    · repeat (first | exact trivial | (refine And.intro (by (conv => lhs; whnf) <;> (conv => rhs; whnf) <;> (first | rfl)) ?_))
    · repeat (first | exact trivial | (refine And.intro (by (conv => lhs; whnf) <;> (conv => rhs; whnf) <;> (first | rfl)) ?_))
  · obtain rfl : j = 4 := by omega
    rw [setC_ext (g := notF f) (fun q hq => if_pos hq)] at hL
    conv => whnf
    repeat ((first | refine zT ?_ | refine zF ?_ | refine zL hX hL ?_ | refine zB hX hL ?_ | (refine zS hX hL ?_; clear hL; intro w hL) | refine zI ?_ | refine zG hX ?_ | refine zO ?_); conv => whnf)
    exact RetReq.mk (hL.sublist (List.nil_sublist _)) ⟨rfl, rfl⟩

theorem Union_fn (m : Mem) (f g : Nat → Nat) (hf : InF f) (hg : InF g) : FnV Tryz.prog 82 [.agg (toArr (setC f)), .agg (toArr (setC g))] m (.agg (toArr (setC (unF f g)))) := by
  refine Fn.enter (N := 19) hX Tryz.func82 rfl rfl (by show _ ≤ _; simp) (fun w0 hL => ?_)
  conv => whnf
  refine NewReq.mk hL ?_
  clear hL
  intro b2 w hL
  conv => whnf
  refine NewReq.mk hL ?_
  clear hL
  intro b3 w hL
  conv => whnf
  refine NewReq.mk hL ?_
  clear hL
  intro b4 w hL
  conv => whnf
  replace hL : Ev.Loc m [] w0 m [(b4, .cells (toArr (setC zeroF)) 33 (0, 0)), (b3, .cells (toArr (setC g)) 33 (0, 0)), (b2, .cells (toArr (setC f)) 33 (0, 0))] w := hL
  conv => whnf
  repeat ((first | refine zT ?_ | refine zF ?_ | refine zL hX hL ?_ | refine zB hX hL ?_ | (refine zS hX hL ?_; clear hL; intro w hL) | refine zI ?_ | refine zG hX ?_ | refine zO ?_); conv => whnf)
  refine LoopReq.inv hX (fun j : Nat => [(6, .int .i64 j)]) [2, 3, 4]
    (fun j w => j ≤ 4 ∧ Ev.Loc m [] w0 m [(b4, .cells (toArr (setC zeroF)) 33 (0, 0)), (b3, .cells (toArr (setC g)) 33 (0, 0)), (b2, .cells (toArr (setC (fun q => if q < j then unF f g q else f q))) 33 (0, 0))] w) (fun j => 4 - j) 0
    ⟨by omega, hL⟩ ⟨rfl, trivial⟩ ?_
  clear hL
  rintro j w e ⟨hj, hL⟩
  conv => whnf
  repeat ((first | refine zT ?_ | refine zF ?_ | refine zL hX hL ?_ | refine zB hX hL ?_ | (refine zS hX hL ?_; clear hL; intro w hL) | refine zI ?_ | refine zG hX ?_ | refine zO ?_); conv => whnf)
  refine BrReq.dec (fun hlt => ?_) (fun hlt => ?_)
  · have hj4 : j < 4 := by omega
    have h1 : (setC (fun q => if q < j then unF f g q else f q))[j]? = some (.int .u64 (f j : Nat)) := by rw [setC_get _ hj4]; simp
    have h2 : (setC g)[j]? = some (.int .u64 (g j : Nat)) := setC_get _ hj4
    conv => whnf
    repeat ((first | refine zT ?_ | refine zF ?_ | refine zL hX hL ?_ | refine zB hX hL ?_ | (refine zS hX hL ?_; clear hL; intro w hL) | refine zI ?_ | refine zG hX ?_ | refine zO ?_); conv => whnf)
    refine DrawReq.plan hX (.fst 0 (.fst 1 (.fst 3 (.fst 4 (.fst 5 (.alt 2 (.fst 6 (.fst 7 (.alt 8 (.done) (.stop)))) (.stop))))))) [(b3, .cells (toArr (setC g)) 33 (0, 0))] (by kernel_rfl) (by kernel_rfl) hL (fun h => h.one 1 rfl) ?_
    clear hL
    intro w hL
    conv => whnf
    repeat ((first | refine IdxReq.mk j rfl (by omega) ?_ | (refine LdReq.ownAt hX rfl rfl 2 hL rfl (v := .int .u64 (f j : Nat)) (by rw [scale_eq, Nat.zero_add, Nat.mul_one]; exact h1) ?_) | (refine QLdReq.ownAt hX rfl rfl 0 rfl (v := .int .u64 (g j : Nat)) (by rw [scale_eq, Nat.zero_add, Nat.mul_one]; exact h2) ?_) | refine SReq.mk (hL.one 1 rfl) ?_ | refine BitReq.mk (or_u64 (hf _) (hg _)) ?_ | refine zQ hX ?_ | refine zR hX ?_ | refine zA ?_ | refine zT ?_ | refine zF ?_ | refine zL hX hL ?_ | refine zB hX hL ?_ | (refine zS hX hL ?_; clear hL; intro w hL) | refine zI ?_ | refine zG hX ?_ | refine zO ?_); conv => whnf)
    refine StReq.ownAt hX rfl 2 hL rfl rfl (by rw [scale_eq, Nat.zero_add, Nat.mul_one]; show j + 1 ≤ 4; omega) rfl ?_; clear hL; intro w hL
    replace hL : Ev.Loc m [] w0 m [(b4, .cells (toArr (setC zeroF)) 33 (0, 0)), (b3, .cells (toArr (setC g)) 33 (0, 0)), (b2, .cells (toArr (spliceL (setC (fun q => if q < j then unF f g q else f q)) (0 + scale j 1) [.int .u64 (f j ||| g j : Nat)])) 33 (0, 0))] w := hL
    rw [scale_eq, Nat.zero_add, Nat.mul_one, setC_set _ hj4] at hL
    have eu : upd (fun q => if q < j then unF f g q else f q) j (f j ||| g j) = fun q => if q < j + 1 then unF f g q else f q := by
      funext q; unfold upd
      by_cases h1 : q = j
      · subst h1; rw [if_pos rfl, if_pos (by omega)]; rfl
      · rw [if_neg h1]
        show (if q < j then unF f g q else f q) = _
        by_cases h2 : q < j
        · rw [if_pos h2, if_pos (by omega)]
        · rw [if_neg h2, if_neg (by omega)]
    rw [eu] at hL
    conv => whnf
    repeat ((first | refine SReq.mk (hL.one 1 rfl) ?_ | refine zQ hX ?_ | refine zR hX ?_ | refine zA ?_ | refine zT ?_ | refine zF ?_ | refine zL hX hL ?_ | refine zB hX hL ?_ | (refine zS hX hL ?_; clear hL; intro w hL) | refine zI ?_ | refine zG hX ?_ | refine zO ?_); conv => whnf)
    refine ⟨j + 1, ⟨by omega, hL⟩, by first | omega | (simp only; omega) | (simp only [List.length_cons, List.length_append]; omega), ?_, ?_⟩
    · repeat (first | exact trivial | (refine And.intro (by (conv => lhs; whnf) <;> (conv => rhs; whnf) <;> (first | rfl)) ?_))
    · repeat (first | exact trivial | (refine And.intro (by (conv => lhs; whnf) <;> (conv => rhs; whnf) <;> (first | rfl)) ?_))
  · obtain rfl : j = 4 := by omega
    rw [setC_ext (f := fun q => if q < 4 then unF f g q else f q) (g := unF f g) (fun q hq => if_pos hq)] at hL
    conv => whnf
    repeat ((first | refine zT ?_ | refine zF ?_ | refine zL hX hL ?_ | refine zB hX hL ?_ | (refine zS hX hL ?_; clear hL; intro w hL) | refine zI ?_ | refine zG hX ?_ | refine zO ?_); conv => whnf)
    exact RetReq.mk (hL.sublist (List.nil_sublist _)) ⟨rfl, rfl⟩

/-- The bytes from one to another one. -/
def byR (lo hi : Nat) : List Nat := List.range' lo (hi + 1 - lo)
def rangeF (lo hi : Nat) : Nat → Nat := (byR lo hi).foldl putF zeroF
theorem inF_fold : ∀ (l : List Nat) {f : Nat → Nat}, InF f → InF (l.foldl putF f)
  | [], _, h => h
  | b :: l, _, h => inF_fold l (inF_put h b)
theorem byR_succ (lo k : Nat) : List.range' lo (k + 1) = List.range' lo k ++ [lo + k] := by rw [List.range'_concat]; simp

theorem Range_fn (m : Mem) (lo hi : Nat) (h1 : lo < 256) (h2 : hi < 256) : FnV Tryz.prog 83 [.int .u8 lo, .int .u8 hi] m (.agg (toArr (setC (rangeF lo hi)))) := by
  refine Fn.enter (N := 25) hX Tryz.func83 rfl rfl (by show _ ≤ _; simp) (fun w0 hL => ?_)
  conv => whnf
  refine NewReq.mk hL ?_
  clear hL
  intro b4 w hL
  conv => whnf
  refine NewReq.mk hL ?_
  clear hL
  intro b5 w hL
  conv => whnf
  replace hL : Ev.Loc m [] w0 m [(b5, .cells (toArr (setC zeroF)) 33 (0, 0)), (b4, .cells (toArr (setC zeroF)) 33 (0, 0))] w := hL
  conv => whnf
  repeat ((first | refine zT ?_ | refine zF ?_ | refine zL hX hL ?_ | refine zB hX hL ?_ | (refine zS hX hL ?_; clear hL; intro w hL) | refine zI ?_ | refine zG hX ?_ | refine zO ?_); conv => whnf)
  refine LoopReq.inv hX (fun j : Nat => [(6, .int .i64 (lo + j : Nat))]) [1, 4, 5]
    (fun j w => (j ≤ hi + 1 - lo) ∧ Ev.Loc m [] w0 m [(b5, .cells (toArr (setC ((List.range' lo j).foldl putF zeroF))) 33 (0, 0)), (b4, .cells (toArr (setC zeroF)) 33 (0, 0))] w) (fun j => hi + 1 - lo - j) 0
    ⟨by omega, hL⟩ ⟨rfl, trivial⟩ ?_
  clear hL
  rintro j w e ⟨hj, hL⟩
  conv => whnf
  repeat ((first | refine zT ?_ | refine zF ?_ | refine zL hX hL ?_ | refine zB hX hL ?_ | (refine zS hX hL ?_; clear hL; intro w hL) | refine zI ?_ | refine zG hX ?_ | refine zO ?_); conv => whnf)
  refine BrReq.dec (fun hlt => ?_) (fun hlt => ?_)
  · have hb : lo + j < 256 := by omega
    generalize hS : (List.range' lo j).foldl putF zeroF = f at hL
    have hf : InF f := by rw [← hS]; exact inF_fold _ inF_zero
    have hp := pow_lt (lo + j)
    have hps := shl_u64 ((lo + j) % 64) (by omega)
    have hx4 : (lo + j) / 64 < 4 := by omega
    conv => whnf
    repeat ((first | refine zT ?_ | refine zF ?_ | refine zL hX hL ?_ | refine zB hX hL ?_ | (refine zS hX hL ?_; clear hL; intro w hL) | refine zI ?_ | refine zG hX ?_ | refine zO ?_); conv => whnf)
    refine DrawReq.plan hX (.fst 0 (.fst 1 (.fst 2 (.fst 4 (.fst 5 (.fst 6 (.alt 3 (.fst 7 (.fst 8 (.alt 9 (.done) (.stop)))) (.stop)))))))) [] (by kernel_rfl) (by kernel_rfl) hL (fun h => h.sublist (List.nil_sublist _)) ?_
    clear hL
    intro w hL
    conv => whnf
    repeat ((first | refine DivReq.i64 (k := 64) rfl (by omega) (by omega) ?_ | refine RemReq.nat (k := 64) rfl (by omega) ?_ | refine IdxReq.mk ((lo + j) / 64) rfl (by omega) ?_ | (refine LdReq.ownAt hX rfl rfl 0 hL rfl (v := .int .u64 (f ((lo + j) / 64) : Nat)) (by rw [scale_eq, Nat.zero_add, Nat.mul_one]; exact setC_get _ hx4) ?_) | refine SReq.mk (hL.sublist (List.nil_sublist _)) ?_ | refine ShlReq.mk (n := ((2 ^ ((lo + j) % 64) : Nat) : Int)) (by omega) hps ?_ | refine BitReq.mk (or_u64 (hf _) hp) ?_ | refine zQ hX ?_ | refine zR hX ?_ | refine zA ?_ | refine zT ?_ | refine zF ?_ | refine zL hX hL ?_ | refine zB hX hL ?_ | (refine zS hX hL ?_; clear hL; intro w hL) | refine zI ?_ | refine zG hX ?_ | refine zO ?_); conv => whnf)
    refine StReq.ownAt hX rfl 0 hL rfl rfl (by rw [scale_eq, Nat.zero_add, Nat.mul_one]; show (lo + j) / 64 + 1 ≤ 4; omega) rfl ?_; clear hL; intro w hL
    replace hL : Ev.Loc m [] w0 m ((b5, .cells (toArr (spliceL (setC f) (0 + scale ((lo + j) / 64) 1) [.int .u64 (f ((lo + j) / 64) ||| 2 ^ ((lo + j) % 64) : Nat)])) 33 (0, 0)) :: [(b4, .cells (toArr (setC zeroF)) 33 (0, 0))]) w := hL
    rw [scale_eq, Nat.zero_add, Nat.mul_one, setC_set _ hx4] at hL
    replace hL : Ev.Loc m [] w0 m ((b5, .cells (toArr (setC (putF f (lo + j)))) 33 (0, 0)) :: [(b4, .cells (toArr (setC zeroF)) 33 (0, 0))]) w := hL
    rw [← hS, show putF ((List.range' lo j).foldl putF zeroF) (lo + j) = (List.range' lo (j + 1)).foldl putF zeroF by rw [byR_succ, List.foldl_append]; rfl] at hL
    conv => whnf
    repeat ((first | refine SReq.mk (hL.sublist (List.nil_sublist _)) ?_ | refine zQ hX ?_ | refine zR hX ?_ | refine zA ?_ | refine zT ?_ | refine zF ?_ | refine zL hX hL ?_ | refine zB hX hL ?_ | (refine zS hX hL ?_; clear hL; intro w hL) | refine zI ?_ | refine zG hX ?_ | refine zO ?_); conv => whnf)
    refine ⟨j + 1, ⟨by omega, hL⟩, by first | omega | (simp only; omega) | (simp only [List.length_cons, List.length_append]; omega), ?_, ?_⟩
    · repeat (first | exact trivial | (refine And.intro (by (conv => lhs; whnf) <;> (conv => rhs; whnf) <;> (first | rfl)) ?_))
    · repeat (first | exact trivial | (refine And.intro (by (conv => lhs; whnf) <;> (conv => rhs; whnf) <;> (first | rfl)) ?_))
  · have ej : j = hi + 1 - lo := by omega
    subst ej
    conv => whnf
    repeat ((first | refine zT ?_ | refine zF ?_ | refine zL hX hL ?_ | refine zB hX hL ?_ | (refine zS hX hL ?_; clear hL; intro w hL) | refine zI ?_ | refine zG hX ?_ | refine zO ?_); conv => whnf)
    exact RetReq.mk (hL.sublist (List.nil_sublist _)) ⟨rfl, rfl⟩

theorem or_has {n k : Nat} (h : n / 2 ^ k % 2 = 1) : n ||| 2 ^ k = n := by
  apply Nat.eq_of_testBit_eq
  intro i
  rw [Nat.testBit_or, Nat.testBit_two_pow]
  by_cases e : k = i
  · subst e; rw [Nat.testBit_eq_decide_div_mod_eq]; simp [h]
  · simp [e]
theorem add_hasn {n k : Nat} (hn : n ≤ 18446744073709551615) (hk : 2 ^ k ≤ 18446744073709551615) (h : ¬ n / 2 ^ k % 2 = 1) : n + 2 ^ k = n ||| 2 ^ k := by
  have h0 : n &&& 2 ^ k = 0 := by
    apply Nat.eq_of_testBit_eq
    intro i
    rw [Nat.testBit_and, Nat.testBit_two_pow, Nat.zero_testBit]
    by_cases e : k = i
    · subst e; rw [Nat.testBit_eq_decide_div_mod_eq]; simp [h]
    · simp [e]
  have h1 : BitVec.ofNat 65 n &&& BitVec.ofNat 65 (2 ^ k) = 0#65 := by
    apply BitVec.eq_of_toNat_eq
    rw [BitVec.toNat_and, BitVec.toNat_ofNat, BitVec.toNat_ofNat, Nat.mod_eq_of_lt (by omega), Nat.mod_eq_of_lt (by omega), h0]; rfl
  have h2 := BitVec.add_eq_or_of_and_eq_zero _ _ h1
  have h3 := congrArg BitVec.toNat h2
  rw [BitVec.toNat_add, BitVec.toNat_or, BitVec.toNat_ofNat, BitVec.toNat_ofNat, Nat.mod_eq_of_lt (a := n) (by omega), Nat.mod_eq_of_lt (a := 2 ^ k) (by omega), Nat.mod_eq_of_lt (by omega)] at h3
  exact h3

theorem Put_fn (m : Mem) (f : Nat → Nat) (hf : InF f) (b : Nat) (hb : b < 256) : FnV Tryz.prog 59 [.agg (toArr (setC f)), .int .i64 b] m (.agg (toArr (setC (putF f b)))) := by
  have g : ∀ q, (0 : Int) ≤ (f q : Nat) ∧ ((f q : Nat) : Int) ≤ 18446744073709551615 := fun q => by have := hf q; omega
  have hh := Has_fn m (f 0 : Nat) (f 1 : Nat) (f 2 : Nat) (f 3 : Nat) (g 0) (g 1) (g 2) (g 3) b hb
  have hx4 : b / 64 < 4 := by omega
  have hp := pow_lt b
  have e : hasR (f 0 : Nat) (f 1 : Nat) (f 2 : Nat) (f 3 : Nat) b = decide (f (b / 64) / 2 ^ (b % 64) % 2 = 1) := by
    unfold hasR
    have : selR (f 0 : Nat) (f 1 : Nat) (f 2 : Nat) (f 3 : Nat) (b / 64) = (f (b / 64) : Nat) := by
      have : b / 64 = 0 ∨ b / 64 = 1 ∨ b / 64 = 2 ∨ b / 64 = 3 := by omega
      rcases this with h | h | h | h <;> rw [h] <;> rfl
    rw [this, Int.toNat_natCast]
  rw [e] at hh
  refine Fn.enter (N := 27) hX Tryz.func59 rfl rfl (by show _ ≤ _; simp) (fun w0 hL => ?_)
  conv => whnf
  refine NewReq.mk hL ?_
  clear hL
  intro b2 w hL
  conv => whnf
  refine NewReq.mk hL ?_
  clear hL
  intro b4 w hL
  conv => whnf
  replace hL : Ev.Loc m [] w0 m [(b4, .cells (toArr (setC zeroF)) 33 (0, 0)), (b2, .cells (toArr (setC f)) 33 (0, 0))] w := hL
  conv => whnf
  repeat ((first | refine zT ?_ | refine zF ?_ | refine zL hX hL ?_ | refine zB hX hL ?_ | (refine zS hX hL ?_; clear hL; intro w hL) | refine zI ?_ | refine zG hX ?_ | refine zO ?_); conv => whnf)
  refine CallReq.val hh hL ?_
  clear hL
  intro w hL
  conv => whnf
  repeat ((first | refine zT ?_ | refine zF ?_ | refine zL hX hL ?_ | refine zB hX hL ?_ | (refine zS hX hL ?_; clear hL; intro w hL) | refine zI ?_ | refine zG hX ?_ | refine zO ?_); conv => whnf)
  refine BrReq.dec (fun h1 => ?_) (fun h1 => ?_)
  · conv => whnf
    repeat ((first | refine zT ?_ | refine zF ?_ | refine zL hX hL ?_ | refine zB hX hL ?_ | (refine zS hX hL ?_; clear hL; intro w hL) | refine zI ?_ | refine zG hX ?_ | refine zO ?_); conv => whnf)
    refine RetReq.mk (hL.sublist (List.nil_sublist _)) ⟨rfl, ?_⟩
    rw [setC_ext (f := putF f b) (g := f) (fun q _ => by unfold putF upd; split; · rename_i h; rw [or_has h1, h]
                                                         · rfl)]
    rfl
  · conv => whnf
    repeat ((first | refine RemReq.nat (k := 64) rfl (by omega) ?_ | refine zT ?_ | refine zF ?_ | refine zL hX hL ?_ | refine zB hX hL ?_ | (refine zS hX hL ?_; clear hL; intro w hL) | refine zI ?_ | refine zG hX ?_ | refine zO ?_); conv => whnf)
    refine LoopReq.inv hX (fun j : Nat => [(5, .int .u64 (2 ^ j : Nat)), (12, .int .i64 j)]) [1, 2, 4, 11]
      (fun j w => j ≤ b % 64 ∧ Ev.Loc m [] w0 m [(b4, .cells (toArr (setC zeroF)) 33 (0, 0)), (b2, .cells (toArr (setC f)) 33 (0, 0))] w) (fun j => b % 64 - j) 0
      ⟨by omega, hL⟩ ⟨rfl, rfl, trivial⟩ ?_
    clear hL
    rintro j w e2 ⟨hj, hL⟩
    conv => whnf
    repeat ((first | refine zT ?_ | refine zF ?_ | refine zL hX hL ?_ | refine zB hX hL ?_ | (refine zS hX hL ?_; clear hL; intro w hL) | refine zI ?_ | refine zG hX ?_ | refine zO ?_); conv => whnf)
    refine BrReq.dec (fun hlt => ?_) (fun hlt => ?_)
    · have hpj : 2 ^ (j + 1) ≤ 18446744073709551615 := by
        have : 2 ^ (j + 1) ≤ 2 ^ 63 := Nat.pow_le_pow_right (by omega) (by omega)
        omega
      have hpe : 2 ^ (j + 1) = 2 ^ j * 2 := Nat.pow_succ 2 j
      conv => whnf
      repeat ((first | refine ArReq.u64 (by omega) (by omega) ?_ | refine zT ?_ | refine zF ?_ | refine zL hX hL ?_ | refine zB hX hL ?_ | (refine zS hX hL ?_; clear hL; intro w hL) | refine zI ?_ | refine zG hX ?_ | refine zO ?_); conv => whnf)
      refine ⟨j + 1, ⟨by omega, hL⟩, by first | omega | (simp only; omega) | (simp only [List.length_cons, List.length_append]; omega), ?_, ?_⟩
      · repeat (first | exact trivial | (refine And.intro (by (conv => lhs; whnf) <;> (conv => rhs; whnf) <;> (first | rfl | (exact congrArg (Value.int .u64) (by omega)))) ?_))
      · repeat (first | exact trivial | (refine And.intro (by (conv => lhs; whnf) <;> (conv => rhs; whnf) <;> (first | rfl | (exact congrArg (Value.int .u64) (by omega)))) ?_))
    · have ej : j = b % 64 := by omega
      subst ej
      have hadd := add_hasn (hf _) hp h1
      have hol := or_lt (hf (b / 64)) hp
      conv => whnf
      repeat ((first | refine DivReq.i64 (k := 64) rfl (by omega) (by omega) ?_ | refine IdxReq.mk (b / 64) rfl (by omega) ?_ | (refine LdReq.ownAt hX rfl rfl 1 hL rfl (v := .int .u64 (f (b / 64) : Nat)) (by rw [scale_eq, Nat.zero_add, Nat.mul_one]; exact setC_get _ hx4) ?_) | refine ArReq.u64 (by omega) (by omega) ?_ | refine zT ?_ | refine zF ?_ | refine zL hX hL ?_ | refine zB hX hL ?_ | (refine zS hX hL ?_; clear hL; intro w hL) | refine zI ?_ | refine zG hX ?_ | refine zO ?_); conv => whnf)
      refine StReq.ownAt hX rfl 1 hL rfl rfl (by rw [scale_eq, Nat.zero_add, Nat.mul_one]; show b / 64 + 1 ≤ 4; omega) rfl ?_; clear hL; intro w hL
      replace hL : Ev.Loc m [] w0 m [(b4, .cells (toArr (setC zeroF)) 33 (0, 0)), (b2, .cells (toArr (spliceL (setC f) (0 + scale (b / 64) 1) [.int .u64 ((f (b / 64) : Nat) + (2 ^ (b % 64) : Nat))])) 33 (0, 0))] w := hL
      rw [show ((f (b / 64) : Nat) : Int) + ((2 ^ (b % 64) : Nat) : Int) = ((f (b / 64) ||| 2 ^ (b % 64) : Nat) : Int) by rw [← hadd]; omega, scale_eq, Nat.zero_add, Nat.mul_one, setC_set _ hx4] at hL
      conv => whnf
      repeat ((first | refine zT ?_ | refine zF ?_ | refine zL hX hL ?_ | refine zB hX hL ?_ | (refine zS hX hL ?_; clear hL; intro w hL) | refine zI ?_ | refine zG hX ?_ | refine zO ?_); conv => whnf)
      exact RetReq.mk (hL.sublist (List.nil_sublist _)) ⟨rfl, rfl⟩
end Go.Proofs.YtemdkfohlppckaaGreatDoor.lx
