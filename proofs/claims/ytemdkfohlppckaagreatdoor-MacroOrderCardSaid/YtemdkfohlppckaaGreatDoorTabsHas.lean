/- Is a byte in a set, as the document has it. Conditions: none. -/
import Derived.Test.YtemdkfohlppckaaGreatDoorEv
import Derived.Test.YtemdkfohlppckaaGreatDoorTab

namespace Go.Proofs.YtemdkfohlppckaaGreatDoor.tabs
open Go Go.Ev Go.Proofs

theorem tdiv_nat (a k : Nat) : (a : Int).tdiv (k : Int) = ((a / k : Nat) : Int) := by
  rw [Int.tdiv_eq_ediv_of_nonneg (by omega)]; rfl
theorem tmod_nat (a k : Nat) : (a : Int).tmod (k : Int) = ((a % k : Nat) : Int) := by
  rw [Int.tmod_eq_emod_of_nonneg (by omega)]; rfl
theorem DivReq.i64 {a k : Nat} {b : Int} {K : Int → Prop} (hb : b = (k : Int)) (hk : 0 < k) (ha : a ≤ 9223372036854775807) (h : K ((a / k : Nat) : Int)) : DivReq .i64 a b K := by
  subst hb
  have := Nat.div_le_self a k
  exact DivReq.mk (by omega) (by rw [tdiv_nat]; generalize a / k = q at this; exact wrap_keep .i64 (by show -9223372036854775808 ≤ _; omega) (by show _ ≤ (9223372036854775807 : Int); omega)) h
theorem DivReq.u64 {a k : Nat} {b : Int} {K : Int → Prop} (hb : b = (k : Int)) (hk : 0 < k) (ha : a ≤ 18446744073709551615) (h : K ((a / k : Nat) : Int)) : DivReq .u64 a b K := by
  subst hb
  have := Nat.div_le_self a k
  exact DivReq.mk (by omega) (by rw [tdiv_nat]; generalize a / k = q at this; exact wrap_keep .u64 (by show 0 ≤ _; omega) (by show _ ≤ (18446744073709551615 : Int); omega)) h
theorem RemReq.nat {a k : Nat} {b : Int} {K : Int → Prop} (hb : b = (k : Int)) (hk : 0 < k) (h : K ((a % k : Nat) : Int)) : RemReq a b K := by
  subst hb
  exact RemReq.mk (by omega) (tmod_nat a k) h

def selR (s0 s1 s2 s3 : Int) (q : Nat) : Int := if q = 0 then s0 else if q = 1 then s1 else if q = 2 then s2 else s3
def hasR (s0 s1 s2 s3 : Int) (b : Nat) : Bool := decide ((selR s0 s1 s2 s3 (b / 64)).toNat / 2 ^ (b % 64) % 2 = 1)

theorem Has_fn (m : Mem) (s0 s1 s2 s3 : Int) (h0 : 0 ≤ s0 ∧ s0 ≤ 18446744073709551615) (h1 : 0 ≤ s1 ∧ s1 ≤ 18446744073709551615) (h2 : 0 ≤ s2 ∧ s2 ≤ 18446744073709551615) (h3 : 0 ≤ s3 ∧ s3 ≤ 18446744073709551615) (b : Nat) (hb : b < 256) :
    FnV Tryz.prog 75 [.agg (toArr [.int .u64 s0, .int .u64 s1, .int .u64 s2, .int .u64 s3]), .int .i64 b] m (.bool (hasR s0 s1 s2 s3 b)) := by
  obtain ⟨x, hx, hxm⟩ : ∃ x : Nat, selR s0 s1 s2 s3 (b / 64) = x ∧ x ≤ 18446744073709551615 := by
    refine ⟨(selR s0 s1 s2 s3 (b / 64)).toNat, ?_, ?_⟩ <;> unfold selR <;> split <;> (try split) <;> (try split) <;> omega
  have hsel : Ev.look [Value.int .u64 s0, .int .u64 s1, .int .u64 s2, .int .u64 s3] (b / 64) = some (.int .u64 x) := by
    rw [← hx]
    have : b / 64 = 0 ∨ b / 64 = 1 ∨ b / 64 = 2 ∨ b / 64 = 3 := by omega
    rcases this with e | e | e | e <;> rw [e] <;> rfl
  refine Fn.enter (N := 20) hX Tryz.func75 rfl rfl (by show _ ≤ _; simp) (fun w0 hL => ?_)
  conv => whnf
  refine NewReq.mk hL ?_
  clear hL
  intro b2 w hL
  conv => whnf
  conv => whnf
  repeat ((first | refine zT ?_ | refine zF ?_ | refine zL hX hL ?_ | refine zB hX hL ?_ | (refine zS hX hL ?_; clear hL; intro w hL) | refine zI ?_ | refine zG hX ?_ | refine zO ?_); conv => whnf)
  refine DivReq.i64 (k := 64) rfl (by omega) (by omega) ?_
  conv => whnf
  repeat ((first | refine IdxReq.mk (b / 64) rfl (by omega) ?_ | (refine LdReq.ownAt hX rfl rfl 0 hL rfl (v := .int .u64 x) (by rw [← look_eq, scale_eq, Nat.zero_add, Nat.mul_one]; exact hsel) ?_) | refine zT ?_ | refine zF ?_ | refine zL hX hL ?_ | refine zB hX hL ?_ | (refine zS hX hL ?_; clear hL; intro w hL) | refine zI ?_ | refine zG hX ?_ | refine zO ?_); conv => whnf)
  refine RemReq.nat (k := 64) rfl (by omega) ?_
  conv => whnf
  repeat ((first | refine zT ?_ | refine zF ?_ | refine zL hX hL ?_ | refine zB hX hL ?_ | (refine zS hX hL ?_; clear hL; intro w hL) | refine zI ?_ | refine zG hX ?_ | refine zO ?_); conv => whnf)
  refine LoopReq.inv hX (fun j : Nat => [(5, .int .u64 (x / 2 ^ j : Nat)), (12, .int .i64 j)]) [11]
    (fun j w => j ≤ b % 64 ∧ Ev.Loc m [] w0 m [] w) (fun j => b % 64 - j) 0
    ⟨by omega, hL.drop⟩ ⟨by simp; rfl, rfl, trivial⟩ ?_
  clear hL
  rintro j w f ⟨hj, hL⟩
  have hle : x / 2 ^ j ≤ x := Nat.div_le_self _ _
  conv => whnf
  repeat ((first | refine zT ?_ | refine zF ?_ | refine zL hX hL ?_ | refine zB hX hL ?_ | (refine zS hX hL ?_; clear hL; intro w hL) | refine zI ?_ | refine zG hX ?_ | refine zO ?_); conv => whnf)
  refine BrReq.dec (fun hlt => ?_) (fun hlt => ?_)
  · conv => whnf
    repeat ((first | refine zT ?_ | refine zF ?_ | refine zL hX hL ?_ | refine zB hX hL ?_ | (refine zS hX hL ?_; clear hL; intro w hL) | refine zI ?_ | refine zG hX ?_ | refine zO ?_); conv => whnf)
    refine DivReq.u64 (k := 2) rfl (by omega) (by omega) ?_
    have e : x / 2 ^ j / 2 = x / 2 ^ (j + 1) := by rw [Nat.div_div_eq_div_mul, Nat.pow_succ]
    rw [e]
    conv => whnf
    repeat ((first | refine zT ?_ | refine zF ?_ | refine zL hX hL ?_ | refine zB hX hL ?_ | (refine zS hX hL ?_; clear hL; intro w hL) | refine zI ?_ | refine zG hX ?_ | refine zO ?_); conv => whnf)
    refine ⟨j + 1, ⟨by omega, hL⟩, by first | omega | (simp only; omega) | (simp only [List.length_cons, List.length_append]; omega), ?_, ?_⟩
    · repeat (first | exact trivial | (refine And.intro (by (conv => lhs; whnf) <;> (conv => rhs; whnf) <;> (first | rfl)) ?_))
    · repeat (first | exact trivial | (refine And.intro (by (conv => lhs; whnf) <;> (conv => rhs; whnf) <;> (first | rfl)) ?_))
  · conv => whnf
    repeat ((first | refine zT ?_ | refine zF ?_ | refine zL hX hL ?_ | refine zB hX hL ?_ | (refine zS hX hL ?_; clear hL; intro w hL) | refine zI ?_ | refine zG hX ?_ | refine zO ?_); conv => whnf)
    refine RemReq.nat (k := 2) rfl (by omega) ?_
    have ej : j = b % 64 := by omega
    subst ej
    conv => whnf
    repeat ((first | refine zT ?_ | refine zF ?_ | refine zL hX hL ?_ | refine zB hX hL ?_ | (refine zS hX hL ?_; clear hL; intro w hL) | refine zI ?_ | refine zG hX ?_ | refine zO ?_); conv => whnf)
    refine RetReq.bool hL ?_
    unfold hasR
    rw [hx]
    exact decide_eq_decide.2 (by rw [Int.toNat_natCast]; omega)
end Go.Proofs.YtemdkfohlppckaaGreatDoor.tabs
