/- Sets of bytes: Union, Inter. Conditions: none. -/
import Derived.Test.YtpdiljdklllmjaaGreatArSpec
import Derived.Test.YtpdiljdklllmjaaGreatEv

namespace Go.Proofs.YtpdiljdklllmjaaGreat.ar
open Go Go.Ev Go.Proofs

theorem ofInt_nat {n : Nat} (a : Nat) : BitVec.ofInt n (a : Int) = BitVec.ofNat n a := by
  apply BitVec.eq_of_toNat_eq
  rw [BitVec.toNat_ofInt, BitVec.toNat_ofNat]
  omega
/-- A set, by its numbers. -/
structure S4 where
  x0 : Int
  x1 : Int
  x2 : Int
  x3 : Int
  deriving DecidableEq
def S4.get (s : S4) (q : Nat) : Int := if q = 0 then s.x0 else if q = 1 then s.x1 else if q = 2 then s.x2 else s.x3
structure InS (s : S4) : Prop where
  h0 : u64 s.x0
  h1 : u64 s.x1
  h2 : u64 s.x2
  h3 : u64 s.x3
def stC (s : S4) : List Value := [.int .u64 s.x0, .int .u64 s.x1, .int .u64 s.x2, .int .u64 s.x3]
def z4 : S4 := ⟨0, 0, 0, 0⟩
def orI (a b : Int) : Int := ((a.toNat ||| b.toNat : Nat) : Int)
def andI (a b : Int) : Int := ((a.toNat &&& b.toNat : Nat) : Int)
def un4 (s t : S4) : S4 := ⟨orI s.x0 t.x0, orI s.x1 t.x1, orI s.x2 t.x2, orI s.x3 t.x3⟩
def in4 (s t : S4) : S4 := ⟨andI s.x0 t.x0, andI s.x1 t.x1, andI s.x2 t.x2, andI s.x3 t.x3⟩
theorem inS_get {s : S4} (h : InS s) (q : Nat) : u64 (s.get q) := by
  unfold S4.get
  split
  · exact h.h0
  split
  · exact h.h1
  split
  · exact h.h2
  · exact h.h3
theorem stC_get (s : S4) {q : Nat} (h : q < 4) : (stC s)[q]? = some (.int .u64 (s.get q)) := by
  have : q = 0 ∨ q = 1 ∨ q = 2 ∨ q = 3 := by omega
  rcases this with rfl | rfl | rfl | rfl <;> rfl
def upd4 (s : S4) (q : Nat) (x : Int) : S4 := if q = 0 then { s with x0 := x } else if q = 1 then { s with x1 := x } else if q = 2 then { s with x2 := x } else { s with x3 := x }
theorem stC_set (s : S4) {q : Nat} (h : q < 4) (x : Int) : spliceL (stC s) q [.int .u64 x] = stC (upd4 s q x) := by
  have : q = 0 ∨ q = 1 ∨ q = 2 ∨ q = 3 := by omega
  rcases this with rfl | rfl | rfl | rfl <;> rfl
theorem u64_or {a b : Int} (ha : u64 a) (hb : u64 b) : u64 (orI a b) := by
  unfold u64 orI at *
  have := Nat.or_lt_two_pow (n := 64) (x := a.toNat) (y := b.toNat) (by omega) (by omega)
  omega
theorem u64_and {a b : Int} (ha : u64 a) (hb : u64 b) : u64 (andI a b) := by
  unfold u64 andI at *
  have : a.toNat &&& b.toNat ≤ a.toNat := Nat.and_le_left
  omega
theorem inS_un {s t : S4} (h : InS s) (k : InS t) : InS (un4 s t) := ⟨u64_or h.h0 k.h0, u64_or h.h1 k.h1, u64_or h.h2 k.h2, u64_or h.h3 k.h3⟩
theorem inS_in {s t : S4} (h : InS s) (k : InS t) : InS (in4 s t) := ⟨u64_and h.h0 k.h0, u64_and h.h1 k.h1, u64_and h.h2 k.h2, u64_and h.h3 k.h3⟩
theorem inS_z : InS z4 := by constructor <;> (unfold z4 u64; simp)
theorem or_u64 {a b : Int} (ha : u64 a) (hb : u64 b) : bitsOf .or .u64 a b = orI a b := by
  have hr := u64_or ha hb
  unfold u64 at ha hb hr
  obtain ⟨a, rfl⟩ : ∃ n : Nat, a = n := ⟨a.toNat, by omega⟩
  obtain ⟨b, rfl⟩ : ∃ n : Nat, b = n := ⟨b.toNat, by omega⟩
  have h : (BitVec.ofInt 64 (a : Int) ||| BitVec.ofInt 64 (b : Int)).toNat = a ||| b := by
    rw [ofInt_nat, ofInt_nat, BitVec.toNat_or, BitVec.toNat_ofNat, BitVec.toNat_ofNat, Nat.mod_eq_of_lt (by omega), Nat.mod_eq_of_lt (by omega)]
  show IntKind.wrap .u64 ((BitVec.ofInt 64 (a : Int) ||| BitVec.ofInt 64 (b : Int)).toNat : Int) = _
  rw [h]
  unfold orI at hr ⊢
  simp only [Int.toNat_natCast] at hr ⊢
  exact wrap_keep _ (by show (0 : Int) ≤ _; omega) (by show _ ≤ (18446744073709551615 : Int); omega)
theorem and_u64 {a b : Int} (ha : u64 a) (hb : u64 b) : bitsOf .and .u64 a b = andI a b := by
  have hr := u64_and ha hb
  unfold u64 at ha hb hr
  obtain ⟨a, rfl⟩ : ∃ n : Nat, a = n := ⟨a.toNat, by omega⟩
  obtain ⟨b, rfl⟩ : ∃ n : Nat, b = n := ⟨b.toNat, by omega⟩
  have h : (BitVec.ofInt 64 (a : Int) &&& BitVec.ofInt 64 (b : Int)).toNat = a &&& b := by
    rw [ofInt_nat, ofInt_nat, BitVec.toNat_and, BitVec.toNat_ofNat, BitVec.toNat_ofNat, Nat.mod_eq_of_lt (by omega), Nat.mod_eq_of_lt (by omega)]
  show IntKind.wrap .u64 ((BitVec.ofInt 64 (a : Int) &&& BitVec.ofInt 64 (b : Int)).toNat : Int) = _
  rw [h]
  unfold andI at hr ⊢
  simp only [Int.toNat_natCast] at hr ⊢
  exact wrap_keep _ (by show (0 : Int) ≤ _; omega) (by show _ ≤ (18446744073709551615 : Int); omega)
/-- The first ones of a set that is put together. -/
def upto (j : Nat) (r s : S4) : S4 := ⟨if 0 < j then r.x0 else s.x0, if 1 < j then r.x1 else s.x1, if 2 < j then r.x2 else s.x2, if 3 < j then r.x3 else s.x3⟩
theorem upto_get {j : Nat} (h : j < 4) (r s : S4) : (upto j r s).get j = s.get j := by
  have : j = 0 ∨ j = 1 ∨ j = 2 ∨ j = 3 := by omega
  rcases this with rfl | rfl | rfl | rfl <;> rfl
theorem upto_succ {j : Nat} (h : j < 4) (r s : S4) : upd4 (upto j r s) j (r.get j) = upto (j + 1) r s := by
  have : j = 0 ∨ j = 1 ∨ j = 2 ∨ j = 3 := by omega
  rcases this with rfl | rfl | rfl | rfl <;> rfl
theorem get_un (s t : S4) (j : Nat) : (un4 s t).get j = orI (s.get j) (t.get j) := by
  unfold S4.get un4; split; rfl; split; rfl; split <;> rfl
theorem get_in (s t : S4) (j : Nat) : (in4 s t).get j = andI (s.get j) (t.get j) := by
  unfold S4.get in4; split; rfl; split; rfl; split <;> rfl
theorem QLdReq.ownAt' {P : Program} {X : Tab} {m0 m : Mem} {S : List Nat} {w0 : World} (hX : TabsOk P X) {t : Nat} {ti : TI} {L : Ev.Own} (ht : Ev.look X.T t = some (some ti)) (hd : ti.d.isAgg = false) (i : Nat) {b o j : Nat} {cs : List Value} {te : TypeId} {fz : Nat × Nat} {v : Value} {K : Value → Prop}
    (hi : Ev.look L i = some (b, .cells (toArr cs) te fz)) (hv : cs[o + j]? = some v) (h : K v) : QLdReq P t (fun w => Ev.Loc m0 S w0 m L w) ((⟨b, o, none⟩ : Addr).add j) K := by
  rw [addr_add]
  exact QLdReq.own1 hX ht hd i hi (by rw [look_eq]; exact hv) h
theorem Union_fn (m : Mem) (s t : S4) (hs : InS s) (ht : InS t) : FnV Tryz.prog 66 [.agg (toArr (stC s)), .agg (toArr (stC t))] m (.agg (toArr (stC (un4 s t)))) := by
  refine Fn.enter (N := 19) hX Tryz.func66 rfl rfl (by show _ ≤ _; simp) (fun w0 hL => ?_)
  conv => whnf
  refine NewReq.mk hL ?_
  clear hL
  intro b2 w hL
  conv => whnf
  refine NewReq.mk hL ?_
  clear hL
  intro b3 w hL
  conv => whnf
  refine NewReq.mk hL ?_
  clear hL
  intro b4 w hL
  conv => whnf
  replace hL : Ev.Loc m [] w0 m [(b4, .cells (toArr (stC z4)) 24 (0, 0)), (b3, .cells (toArr (stC t)) 24 (0, 0)), (b2, .cells (toArr (stC s)) 24 (0, 0))] w := hL
  conv => whnf
  repeat ((first | refine zT ?_ | refine zF ?_ | refine zL hX hL ?_ | refine zB hX hL ?_ | (refine zS hX hL ?_; clear hL; intro w hL) | refine zI ?_ | refine zG hX ?_ | refine zO ?_); conv => whnf)
  refine LoopReq.inv hX (fun j : Nat => [(6, .int .i64 j)]) [2, 3, 4]
    (fun j w => j ≤ 4 ∧ Ev.Loc m [] w0 m [(b4, .cells (toArr (stC z4)) 24 (0, 0)), (b3, .cells (toArr (stC t)) 24 (0, 0)), (b2, .cells (toArr (stC (upto j (un4 s t) s))) 24 (0, 0))] w) (fun j => 4 - j) 0
    ⟨by omega, hL⟩ ⟨rfl, trivial⟩ ?_
  clear hL
  rintro j w e ⟨hj, hL⟩
  conv => whnf
  repeat ((first | refine zT ?_ | refine zF ?_ | refine zL hX hL ?_ | refine zB hX hL ?_ | (refine zS hX hL ?_; clear hL; intro w hL) | refine zI ?_ | refine zG hX ?_ | refine zO ?_); conv => whnf)
  refine BrReq.dec (fun hlt => ?_) (fun hlt => ?_)
  · have hj4 : j < 4 := by omega
    have h1 : (stC (upto j (un4 s t) s))[j]? = some (.int .u64 (s.get j)) := by rw [stC_get _ hj4, upto_get hj4]
    have h2 : (stC t)[j]? = some (.int .u64 (t.get j)) := stC_get _ hj4
    conv => whnf
    repeat ((first | refine zT ?_ | refine zF ?_ | refine zL hX hL ?_ | refine zB hX hL ?_ | (refine zS hX hL ?_; clear hL; intro w hL) | refine zI ?_ | refine zG hX ?_ | refine zO ?_); conv => whnf)
    refine DrawReq.plan hX (.fst 0 (.fst 1 (.fst 3 (.fst 4 (.fst 5 (.alt 2 (.fst 6 (.fst 7 (.alt 8 (.done) (.stop)))) (.stop))))))) [(b3, .cells (toArr (stC t)) 24 (0, 0))] (by kernel_rfl) (by kernel_rfl) hL (fun h => h.one 1 rfl) ?_
    clear hL
    intro w hL
    conv => whnf
    repeat ((first | refine IdxReq.mk j rfl (by omega) ?_ | (refine LdReq.ownAt hX rfl rfl 2 hL rfl (v := .int .u64 (s.get j)) (by rw [scale_eq, Nat.zero_add, Nat.mul_one]; exact h1) ?_) | (refine QLdReq.ownAt' hX rfl rfl 0 rfl (v := .int .u64 (t.get j)) (by rw [scale_eq, Nat.zero_add, Nat.mul_one]; exact h2) ?_) | refine SReq.mk (hL.one 1 rfl) ?_ | refine BitReq.mk (or_u64 (inS_get hs _) (inS_get ht _)) ?_ | refine zQ hX ?_ | refine zR hX ?_ | refine zA ?_ | refine zT ?_ | refine zF ?_ | refine zL hX hL ?_ | refine zB hX hL ?_ | (refine zS hX hL ?_; clear hL; intro w hL) | refine zI ?_ | refine zG hX ?_ | refine zO ?_); conv => whnf)
    refine StReq.ownAt hX rfl 2 hL rfl rfl (by rw [scale_eq, Nat.zero_add, Nat.mul_one]; show j + 1 ≤ 4; omega) rfl ?_; clear hL; intro w hL
    replace hL : Ev.Loc m [] w0 m [(b4, .cells (toArr (stC z4)) 24 (0, 0)), (b3, .cells (toArr (stC t)) 24 (0, 0)), (b2, .cells (toArr (spliceL (stC (upto j (un4 s t) s)) (0 + scale j 1) [.int .u64 (orI (s.get j) (t.get j))])) 24 (0, 0))] w := hL
    rw [scale_eq, Nat.zero_add, Nat.mul_one, stC_set _ hj4, ← get_un, upto_succ hj4] at hL
    conv => whnf
    repeat ((first | refine SReq.mk (hL.one 1 rfl) ?_ | refine zQ hX ?_ | refine zR hX ?_ | refine zA ?_ | refine zT ?_ | refine zF ?_ | refine zL hX hL ?_ | refine zB hX hL ?_ | (refine zS hX hL ?_; clear hL; intro w hL) | refine zI ?_ | refine zG hX ?_ | refine zO ?_); conv => whnf)
    refine ⟨j + 1, ⟨by omega, hL⟩, by first | omega | (simp only; omega), ?_, ?_⟩
    · repeat (first | exact trivial | (refine And.intro (by (conv => lhs; whnf) <;> (conv => rhs; whnf) <;> (first | rfl)) ?_))
    · repeat (first | exact trivial | (refine And.intro (by (conv => lhs; whnf) <;> (conv => rhs; whnf) <;> (first | rfl)) ?_))
  · obtain rfl : j = 4 := by omega
    conv => whnf
    repeat ((first | refine zT ?_ | refine zF ?_ | refine zL hX hL ?_ | refine zB hX hL ?_ | (refine zS hX hL ?_; clear hL; intro w hL) | refine zI ?_ | refine zG hX ?_ | refine zO ?_); conv => whnf)
    exact RetReq.mk (hL.sublist (List.nil_sublist _)) ⟨rfl, rfl⟩
theorem Inter_fn (m : Mem) (s t : S4) (hs : InS s) (ht : InS t) : FnV Tryz.prog 68 [.agg (toArr (stC s)), .agg (toArr (stC t))] m (.agg (toArr (stC (in4 s t)))) := by
  refine Fn.enter (N := 19) hX Tryz.func68 rfl rfl (by show _ ≤ _; simp) (fun w0 hL => ?_)
  conv => whnf
  refine NewReq.mk hL ?_
  clear hL
  intro b2 w hL
  conv => whnf
  refine NewReq.mk hL ?_
  clear hL
  intro b3 w hL
  conv => whnf
  refine NewReq.mk hL ?_
  clear hL
  intro b4 w hL
  conv => whnf
  replace hL : Ev.Loc m [] w0 m [(b4, .cells (toArr (stC z4)) 24 (0, 0)), (b3, .cells (toArr (stC t)) 24 (0, 0)), (b2, .cells (toArr (stC s)) 24 (0, 0))] w := hL
  conv => whnf
  repeat ((first | refine zT ?_ | refine zF ?_ | refine zL hX hL ?_ | refine zB hX hL ?_ | (refine zS hX hL ?_; clear hL; intro w hL) | refine zI ?_ | refine zG hX ?_ | refine zO ?_); conv => whnf)
  refine LoopReq.inv hX (fun j : Nat => [(6, .int .i64 j)]) [2, 3, 4]
    (fun j w => j ≤ 4 ∧ Ev.Loc m [] w0 m [(b4, .cells (toArr (stC z4)) 24 (0, 0)), (b3, .cells (toArr (stC t)) 24 (0, 0)), (b2, .cells (toArr (stC (upto j (in4 s t) s))) 24 (0, 0))] w) (fun j => 4 - j) 0
    ⟨by omega, hL⟩ ⟨rfl, trivial⟩ ?_
  clear hL
  rintro j w e ⟨hj, hL⟩
  conv => whnf
  repeat ((first | refine zT ?_ | refine zF ?_ | refine zL hX hL ?_ | refine zB hX hL ?_ | (refine zS hX hL ?_; clear hL; intro w hL) | refine zI ?_ | refine zG hX ?_ | refine zO ?_); conv => whnf)
  refine BrReq.dec (fun hlt => ?_) (fun hlt => ?_)
  · have hj4 : j < 4 := by omega
    have h1 : (stC (upto j (in4 s t) s))[j]? = some (.int .u64 (s.get j)) := by rw [stC_get _ hj4, upto_get hj4]
    have h2 : (stC t)[j]? = some (.int .u64 (t.get j)) := stC_get _ hj4
    conv => whnf
    repeat ((first | refine zT ?_ | refine zF ?_ | refine zL hX hL ?_ | refine zB hX hL ?_ | (refine zS hX hL ?_; clear hL; intro w hL) | refine zI ?_ | refine zG hX ?_ | refine zO ?_); conv => whnf)
    refine DrawReq.plan hX (.fst 0 (.fst 1 (.fst 3 (.fst 4 (.fst 5 (.alt 2 (.fst 6 (.fst 7 (.alt 8 (.done) (.stop)))) (.stop))))))) [(b3, .cells (toArr (stC t)) 24 (0, 0))] (by kernel_rfl) (by kernel_rfl) hL (fun h => h.one 1 rfl) ?_
    clear hL
    intro w hL
    conv => whnf
    repeat ((first | refine IdxReq.mk j rfl (by omega) ?_ | (refine LdReq.ownAt hX rfl rfl 2 hL rfl (v := .int .u64 (s.get j)) (by rw [scale_eq, Nat.zero_add, Nat.mul_one]; exact h1) ?_) | (refine QLdReq.ownAt' hX rfl rfl 0 rfl (v := .int .u64 (t.get j)) (by rw [scale_eq, Nat.zero_add, Nat.mul_one]; exact h2) ?_) | refine SReq.mk (hL.one 1 rfl) ?_ | refine BitReq.mk (and_u64 (inS_get hs _) (inS_get ht _)) ?_ | refine zQ hX ?_ | refine zR hX ?_ | refine zA ?_ | refine zT ?_ | refine zF ?_ | refine zL hX hL ?_ | refine zB hX hL ?_ | (refine zS hX hL ?_; clear hL; intro w hL) | refine zI ?_ | refine zG hX ?_ | refine zO ?_); conv => whnf)
    refine StReq.ownAt hX rfl 2 hL rfl rfl (by rw [scale_eq, Nat.zero_add, Nat.mul_one]; show j + 1 ≤ 4; omega) rfl ?_; clear hL; intro w hL
    replace hL : Ev.Loc m [] w0 m [(b4, .cells (toArr (stC z4)) 24 (0, 0)), (b3, .cells (toArr (stC t)) 24 (0, 0)), (b2, .cells (toArr (spliceL (stC (upto j (in4 s t) s)) (0 + scale j 1) [.int .u64 (andI (s.get j) (t.get j))])) 24 (0, 0))] w := hL
    rw [scale_eq, Nat.zero_add, Nat.mul_one, stC_set _ hj4, ← get_in, upto_succ hj4] at hL
    conv => whnf
    repeat ((first | refine SReq.mk (hL.one 1 rfl) ?_ | refine zQ hX ?_ | refine zR hX ?_ | refine zA ?_ | refine zT ?_ | refine zF ?_ | refine zL hX hL ?_ | refine zB hX hL ?_ | (refine zS hX hL ?_; clear hL; intro w hL) | refine zI ?_ | refine zG hX ?_ | refine zO ?_); conv => whnf)
    refine ⟨j + 1, ⟨by omega, hL⟩, by first | omega | (simp only; omega), ?_, ?_⟩
    · repeat (first | exact trivial | (refine And.intro (by (conv => lhs; whnf) <;> (conv => rhs; whnf) <;> (first | rfl)) ?_))
    · repeat (first | exact trivial | (refine And.intro (by (conv => lhs; whnf) <;> (conv => rhs; whnf) <;> (first | rfl)) ?_))
  · obtain rfl : j = 4 := by omega
    conv => whnf
    repeat ((first | refine zT ?_ | refine zF ?_ | refine zL hX hL ?_ | refine zB hX hL ?_ | (refine zS hX hL ?_; clear hL; intro w hL) | refine zI ?_ | refine zG hX ?_ | refine zO ?_); conv => whnf)
    exact RetReq.mk (hL.sublist (List.nil_sublist _)) ⟨rfl, rfl⟩
end Go.Proofs.YtpdiljdklllmjaaGreat.ar
