/- norm: put, None, Empty, All. Conditions: none. -/
import Derived.Test.YtpdiljdklllmjaaGreatArMade

namespace Go.Proofs.YtpdiljdklllmjaaGreat.ar
open Go Go.Ev Go.Proofs

/-- A node's number; -1: there is none. -/
def putI (ns : List Nd) (x : Nd) : Int := if (putN ns x).2.2 = 0 then ((putN ns x).2.1 : Nat) else -1
def PutQ (ab : Nat) (ns : List Nd) (i : Int) (m : Mem) : Mem → Own → Value → Prop := fun m' L' u => m' = m ∧ u = .int .i64 i ∧ Ar ab ns L'
theorem put_fn (m : Mem) (ab : Nat) (ns : List Nd) (L : Own) (hA : Ar ab ns L) (hO : OkA ns) (x : Nd) (hx : InN x) :
    Ev.Fn Tryz.prog 62 [.pointer (some ⟨ab, 0, none⟩), .agg (toArr (ndC x))] m L (PutQ ab (putN ns x).1 (putI ns x) m) := by
  refine Fn.enter (N := 16) hX Tryz.func62 rfl rfl (by show _ ≤ _; simp) (fun w0 hL => ?_)
  conv => whnf
  generalize keys L = S0 at hL ⊢
  refine NewReq.mk hL ?_
  clear hL
  intro b3 w hL
  conv => whnf
  conv => whnf
  repeat ((first | refine zT ?_ | refine zF ?_ | refine zL hX hL ?_ | refine zB hX hL ?_ | (refine zS hX hL ?_; clear hL; intro w hL) | refine zI ?_ | refine zG hX ?_ | refine zO ?_); conv => whnf)
  refine CallReq.mk (L1 := L) (L2 := [_]) (Put_fn m ab ns L hA hO x hx) (hL.back (L1 := [_])) ?_
  clear hL
  rintro u m2 L2 w hL - ⟨rfl, rfl, hA2⟩
  unfold putI
  generalize putN ns x = r at hA2 ⊢
  have hL := hL.back (L2 := [_])
  by_cases he : r.2.2 = 0
  · rw [if_pos he]
    conv => whnf
    repeat ((first | refine BrReq.no (fun h => h he) ?_ | refine zT ?_ | refine zF ?_ | refine zL hX hL ?_ | refine zB hX hL ?_ | (refine zS hX hL ?_; clear hL; intro w hL) | refine zI ?_ | refine zG hX ?_ | refine zO ?_); conv => whnf)
    exact RetReq.mk hL.drop ⟨rfl, rfl, hA2⟩
  · rw [if_neg he]
    conv => whnf
    repeat ((first | refine BrReq.yes he ?_ | refine zT ?_ | refine zF ?_ | refine zL hX hL ?_ | refine zB hX hL ?_ | (refine zS hX hL ?_; clear hL; intro w hL) | refine zI ?_ | refine zG hX ?_ | refine zO ?_); conv => whnf)
    exact RetReq.mk hL.drop ⟨rfl, rfl, hA2⟩
def ndK (k : Int) : Nd := ⟨k, 0, 0, 0, 0, 0, 0, false⟩
theorem inN_k {k : Int} (h : 0 ≤ k ∧ k ≤ 8) : InN (ndK k) := ⟨by unfold i64 ndK; simp only; omega, by simp [u64, ndK], by simp [u64, ndK], by simp [u64, ndK], by simp [u64, ndK], by simp [i64, ndK], by simp [i64, ndK]⟩
theorem inN_a {k a : Int} (h : 0 ≤ k ∧ k ≤ 8) (ha : i64 a) : InN ⟨k, 0, 0, 0, 0, a, 0, false⟩ := ⟨by unfold i64; simp only; omega, by simp [u64], by simp [u64], by simp [u64], by simp [u64], ha, by simp [i64]⟩
theorem None_fn (m : Mem) (ab : Nat) (ns : List Nd) (L : Own) (hA : Ar ab ns L) (hO : OkA ns) :
    Ev.Fn Tryz.prog 50 [.pointer (some ⟨ab, 0, none⟩)] m L (PutQ ab (putN ns (ndK 0)).1 (putI ns (ndK 0)) m) := by
  refine Fn.enter (N := 6) hX Tryz.func50 rfl rfl (by show _ ≤ _; simp) (fun w0 hL => ?_)
  conv => whnf
  generalize keys L = S0 at hL ⊢
  conv => whnf
  repeat ((first | refine zT ?_ | refine zF ?_ | refine zL hX hL ?_ | refine zB hX hL ?_ | (refine zS hX hL ?_; clear hL; intro w hL) | refine zI ?_ | refine zG hX ?_ | refine zO ?_); conv => whnf)
  refine CallReq.mk (L1 := L) (L2 := []) (put_fn m ab ns L hA hO (ndK 0) (inN_k (by omega))) (by rw [List.append_nil]; exact hL) ?_
  clear hL
  rintro u m2 L2 w hL - ⟨rfl, rfl, hA2⟩
  rw [List.append_nil] at hL
  conv => whnf
  repeat ((first | refine zT ?_ | refine zF ?_ | refine zL hX hL ?_ | refine zB hX hL ?_ | (refine zS hX hL ?_; clear hL; intro w hL) | refine zI ?_ | refine zG hX ?_ | refine zO ?_); conv => whnf)
  exact RetReq.mk hL ⟨rfl, rfl, hA2⟩
theorem Empty_fn (m : Mem) (ab : Nat) (ns : List Nd) (L : Own) (hA : Ar ab ns L) (hO : OkA ns) :
    Ev.Fn Tryz.prog 51 [.pointer (some ⟨ab, 0, none⟩)] m L (PutQ ab (putN ns (ndK 1)).1 (putI ns (ndK 1)) m) := by
  refine Fn.enter (N := 6) hX Tryz.func51 rfl rfl (by show _ ≤ _; simp) (fun w0 hL => ?_)
  conv => whnf
  generalize keys L = S0 at hL ⊢
  conv => whnf
  repeat ((first | refine zT ?_ | refine zF ?_ | refine zL hX hL ?_ | refine zB hX hL ?_ | (refine zS hX hL ?_; clear hL; intro w hL) | refine zI ?_ | refine zG hX ?_ | refine zO ?_); conv => whnf)
  refine CallReq.mk (L1 := L) (L2 := []) (put_fn m ab ns L hA hO (ndK 1) (inN_k (by omega))) (by rw [List.append_nil]; exact hL) ?_
  clear hL
  rintro u m2 L2 w hL - ⟨rfl, rfl, hA2⟩
  rw [List.append_nil] at hL
  conv => whnf
  repeat ((first | refine zT ?_ | refine zF ?_ | refine zL hX hL ?_ | refine zB hX hL ?_ | (refine zS hX hL ?_; clear hL; intro w hL) | refine zI ?_ | refine zG hX ?_ | refine zO ?_); conv => whnf)
  exact RetReq.mk hL ⟨rfl, rfl, hA2⟩
def allX (ns : List Nd) : Nd := ⟨6, 0, 0, 0, 0, putI ns (ndK 0), 0, false⟩
theorem putN_le (ns : List Nd) (x : Nd) (h : ns.length ≤ 20000) : (putN ns x).2.1 ≤ 20000 := by
  unfold putN
  split
  · simp
  split
  · have := List.idxOf_le_length (a := x) (l := ns); simp only; omega
  split
  · simp
  · simp only; omega
theorem putI_i64 (ns : List Nd) (x : Nd) (h : ns.length ≤ 20000) : i64 (putI ns x) := by
  have := putN_le ns x h
  unfold putI i64
  split <;> omega
theorem All_fn (m : Mem) (ab : Nat) (ns : List Nd) (L : Own) (hA : Ar ab ns L) (hO : OkA ns) :
    Ev.Fn Tryz.prog 65 [.pointer (some ⟨ab, 0, none⟩)] m L (PutQ ab (putN (putN ns (ndK 0)).1 (allX ns)).1 (putI (putN ns (ndK 0)).1 (allX ns)) m) := by
  refine Fn.enter (N := 8) hX Tryz.func65 rfl rfl (by show _ ≤ _; simp) (fun w0 hL => ?_)
  conv => whnf
  generalize keys L = S0 at hL ⊢
  conv => whnf
  repeat ((first | refine zT ?_ | refine zF ?_ | refine zL hX hL ?_ | refine zB hX hL ?_ | (refine zS hX hL ?_; clear hL; intro w hL) | refine zI ?_ | refine zG hX ?_ | refine zO ?_); conv => whnf)
  refine CallReq.mk (L1 := L) (L2 := []) (None_fn m ab ns L hA hO) (by rw [List.append_nil]; exact hL) ?_
  clear hL
  rintro u m2 L2 w hL - ⟨rfl, rfl, hA2⟩
  rw [List.append_nil] at hL
  conv => whnf
  repeat ((first | refine zT ?_ | refine zF ?_ | refine zL hX hL ?_ | refine zB hX hL ?_ | (refine zS hX hL ?_; clear hL; intro w hL) | refine zI ?_ | refine zG hX ?_ | refine zO ?_); conv => whnf)
  refine CallReq.mk (L1 := L2) (L2 := []) (put_fn m2 ab _ L2 hA2 (okA_put hO (inN_k (by omega))) (allX ns) (inN_a (by omega) (putI_i64 ns _ hO.len))) (by rw [List.append_nil]; exact hL) ?_
  clear hL
  rintro u m3 L3 w hL - ⟨rfl, rfl, hA3⟩
  rw [List.append_nil] at hL
  conv => whnf
  repeat ((first | refine zT ?_ | refine zF ?_ | refine zL hX hL ?_ | refine zB hX hL ?_ | (refine zS hX hL ?_; clear hL; intro w hL) | refine zI ?_ | refine zG hX ?_ | refine zO ?_); conv => whnf)
  exact RetReq.mk hL ⟨rfl, rfl, hA3⟩
end Go.Proofs.YtpdiljdklllmjaaGreat.ar
