/- norm: awake. Conditions: none. -/
import Derived.Test.YtblpobeokfkggaaNoList

namespace Go.Proofs.Ytblpobeokfkggaa.ar
open Go Go.Ev Go.Proofs

def grC : List Value := [.int .i64 4, .func (.func 14) #[] #[], .func (.func 16) #[] #[], .func (.func 45) #[] #[]]
theorem bytes_fn (m : Mem) (ab : Nat) (ns : List Nd) (L : Own) (hA : Ar ab ns L) (z : Int) (x : Nd) (hx : nodeN ns z = (x, true)) (hk : x.k ≠ 2) (v : Value) (hv : SlI m .i64 v [z]) :
    Ev.Fn Try.prog 59 [.agg (toArr grC), .pointer (some ⟨ab, 0, none⟩), v] m L fun m' L' u => m' = m ∧ ∃ Lo, L' = Lo ++ L ∧ OwnS 3 1 u (ints .i64 [z]) Lo := by
  have hnode := Node_fn m ab ns L hA z
  rw [hx] at hnode
  simp only at hnode
  obtain ⟨A, n, c, rfl, hn, -⟩ := id hv
  obtain ⟨a0, rfl, hc0⟩ := hv.cell.2 0 z rfl
  have hn1 : n = 1 := by simpa using hn
  refine Fn.enter (N := 54) hX Try.func59 rfl rfl (by show _ ≤ _; simp) (fun w0 hL => ?_)
  conv => whnf
  generalize keys L = S0 at hL ⊢
  refine NewReq.mk hL ?_
  clear hL
  intro b3 w hL
  conv => whnf
  refine NewReq.mk hL ?_
  clear hL
  intro b8 w hL
  conv => whnf
  replace hL : Ev.Loc m S0 w0 m ((b8, .cells (toArr [.int .u64 0, .int .u64 0, .int .u64 0, .int .u64 0]) 44 (0, 0)) :: (b3, .cells (toArr grC) 85 (0, 0)) :: L) w := hL
  conv => whnf
  repeat ((first | refine zT ?_ | refine zF ?_ | refine zL hX hL ?_ | refine zB hX hL ?_ | (refine zS hX hL ?_; clear hL; intro w hL) | refine zI ?_ | refine zG hX ?_ | refine zO ?_); conv => whnf)
  refine LoopReq.inv hX (fun s : Nat × Option Addr × Nat × Nat => [(7, .slice s.2.1 s.2.2.1 s.2.2.2), (9, .bool false), (16, .int .i64 s.1)]) [1, 3, 8, 14, 15]
    (fun s w => s.1 ≤ 1 ∧ ∃ Lo, OwnS 3 1 (.slice s.2.1 s.2.2.1 s.2.2.2) (ints .i64 (if s.1 = 0 then [] else [z])) Lo ∧ Ev.Loc m S0 w0 m ((b8, .cells (toArr [.int .u64 0, .int .u64 0, .int .u64 0, .int .u64 0]) 44 (0, 0)) :: (b3, .cells (toArr grC) 85 (0, 0)) :: (Lo ++ L)) w) (fun s => 1 - s.1) (0, none, 0, 0)
    ⟨by simp, [], OwnS.nil _ _, hL⟩ ⟨rfl, rfl, rfl, trivial⟩ ?_
  clear hL
  rintro ⟨j, A1, n1, c1⟩ w f ⟨hj, Lo, ho, hL⟩
  simp only at hj ho
  have h2 : j = 0 ∨ j = 1 := by omega
  rcases h2 with rfl | rfl
  · rw [if_pos rfl] at ho
    conv => whnf
    repeat ((first | (refine BrReq.yes (by simp only; omega) ?_) | refine Idx2Req.mk 0 a0 rfl (by omega) rfl ?_ | refine LdReq.one hX rfl rfl hL hc0 ?_ | refine zT ?_ | refine zF ?_ | refine zL hX hL ?_ | refine zB hX hL ?_ | (refine zS hX hL ?_; clear hL; intro w hL) | refine zI ?_ | refine zG hX ?_ | refine zO ?_); conv => whnf)
    refine CallReq.li (L1 := L) hnode (Loc.back (L1 := (b8, .cells (toArr [.int .u64 0, .int .u64 0, .int .u64 0, .int .u64 0]) 44 (0, 0)) :: (b3, .cells (toArr grC) 85 (0, 0)) :: Lo) hL) ?_
    clear hL
    intro w hL
    have hL := Loc.back (L1 := L) hL
    conv => whnf
    repeat ((first | refine zT ?_ | refine zF ?_ | refine zL hX hL ?_ | refine zB hX hL ?_ | (refine zS hX hL ?_; clear hL; intro w hL) | refine zI ?_ | refine zG hX ?_ | refine zO ?_); conv => whnf)
    refine NewReq.mk hL ?_
    clear hL
    intro b12 w hL
    conv => whnf
    replace hL : Ev.Loc m S0 w0 m ((b12, .cells (toArr (ndC nd0)) 66 (0, 0)) :: (b8, .cells (toArr [.int .u64 0, .int .u64 0, .int .u64 0, .int .u64 0]) 44 (0, 0)) :: (b3, .cells (toArr grC) 85 (0, 0)) :: (Lo ++ L)) w := hL
    conv => whnf
    repeat ((first | refine BrReq.yes hk ?_ | refine zT ?_ | refine zF ?_ | refine zL hX hL ?_ | refine zB hX hL ?_ | (refine zS hX hL ?_; clear hL; intro w hL) | refine zI ?_ | refine zG hX ?_ | refine zO ?_); conv => whnf)
    refine NewReq.mk hL ?_
    clear hL
    intro g2 w hL
    conv => whnf
    replace hL : Ev.Loc m S0 w0 m ((g2, .cells (toArr [.int .i64 z]) 3 (0, 0)) :: (b12, .cells (toArr (ndC x)) 66 (0, 0)) :: (b8, .cells (toArr [.int .u64 0, .int .u64 0, .int .u64 0, .int .u64 0]) 44 (0, 0)) :: (b3, .cells (toArr grC) 85 (0, 0)) :: (Lo ++ L)) w := hL
    conv => whnf
    repeat ((first | refine zT ?_ | refine zF ?_ | refine zL hX hL ?_ | refine zB hX hL ?_ | (refine zS hX hL ?_; clear hL; intro w hL) | refine zI ?_ | refine zG hX ?_ | refine zO ?_); conv => whnf)
    refine RunReq.push hX 40 3 rfl rfl rfl rfl rfl ho (L2 := L ++ [_, _, _]) (by rw [← List.append_assoc]; exact hL.perm (List.Perm.cons _ (List.perm_append_comm (l₁ := [_, _, _]) (l₂ := Lo ++ L)))) rfl rfl (by simp [ints]) rfl ?_
    clear hL
    intro A2 n2 c2 L2 w hn2 ho2 hL
    rw [← List.append_assoc] at hL
    have hL := Loc.back (L1 := L2 ++ L) (L2 := [_, _, _]) hL
    conv => whnf
    repeat ((first | refine zT ?_ | refine zF ?_ | refine zL hX hL ?_ | refine zB hX hL ?_ | (refine zS hX hL ?_; clear hL; intro w hL) | refine zI ?_ | refine zG hX ?_ | refine zO ?_); conv => whnf)
    refine ⟨(1, A2, n2, c2), ⟨by omega, L2, ho2, hL.drop⟩, by first | omega | (simp only; omega), ?_, ?_⟩
    · repeat (first | exact trivial | (refine And.intro (by (conv => lhs; whnf) <;> (conv => rhs; whnf) <;> (first | rfl)) ?_))
    · repeat (first | exact trivial | (refine And.intro (by (conv => lhs; whnf) <;> (conv => rhs; whnf) <;> (first | rfl)) ?_))
  · rw [if_neg (by omega)] at ho
    conv => whnf
    repeat ((first | (refine BrReq.no (by simp only; omega) ?_) | refine zT ?_ | refine zF ?_ | refine zL hX hL ?_ | refine zB hX hL ?_ | (refine zS hX hL ?_; clear hL; intro w hL) | refine zI ?_ | refine zG hX ?_ | refine zO ?_); conv => whnf)
    exact RetReq.mk hL.drop.drop ⟨rfl, Lo, rfl, ho⟩

def ns1 : List Nd := [ndK 1]
def ns2 : List Nd := [ndK 1, ndK 0]
def ns3 : List Nd := [ndK 1, ndK 0, ⟨6, 0, 0, 0, 0, 1, 0, false⟩]
theorem okA1 : OkA ns1 := okA_put okA_nil (x := ndK 1) (inN_k (by omega))
theorem okA2 : OkA ns2 := okA_put okA1 (x := ndK 0) (inN_k (by omega))
theorem okA3 : OkA ns3 := okA_put okA2 (x := ⟨6, 0, 0, 0, 0, 1, 0, false⟩) (inN_a (by omega) (by simp [i64]))
set_option maxHeartbeats 2000000 in
theorem gput_fn (m : Mem) (ab : Nat) (L : Own) (hA : Ar ab ns1 L) (v : Value) (hv : SlI m .i64 v [0, 0]) :
    Ev.Fn Try.prog 46 [.agg (toArr grC), .pointer (some ⟨ab, 0, none⟩), v] m L fun _ L' u => u = .int .i64 0 ∧ Ar ab ns3 L' := by
  obtain ⟨A, n, c, rfl, -⟩ := id hv
  have hnone := None_fn m ab ns1 L hA okA1
  rw [show putN ns1 (ndK 0) = (ns2, 1, 0) by decide, show putI ns1 (ndK 0) = 1 by decide] at hnone
  refine Fn.enter (N := 70) hX Try.func46 rfl rfl (by show _ ≤ _; simp) (fun w0 hL => ?_)
  conv => whnf
  generalize keys L = S0 at hL ⊢
  refine NewReq.mk hL ?_
  clear hL
  intro b3 w hL
  conv => whnf
  replace hL : Ev.Loc m S0 w0 m ((b3, .cells (toArr grC) 85 (0, 0)) :: L) w := hL
  conv => whnf
  repeat ((first | refine zT ?_ | refine zF ?_ | refine zL hX hL ?_ | refine zB hX hL ?_ | (refine zS hX hL ?_; clear hL; intro w hL) | refine zI ?_ | refine zG hX ?_ | refine zO ?_); conv => whnf)
  refine CallReq.li (L1 := L) (there2_fn m ab ns1 L hA _ [0, 0] hv) (hL.back (L1 := [_])) ?_
  clear hL
  intro w hL
  have hL := hL.back (L2 := [_])
  rw [show ([0, 0].all fun id : Int => decide (0 ≤ id ∧ id < ns1.length)) = true by decide]
  conv => whnf
  repeat ((first | refine zT ?_ | refine zF ?_ | refine zL hX hL ?_ | refine zB hX hL ?_ | (refine zS hX hL ?_; clear hL; intro w hL) | refine zI ?_ | refine zG hX ?_ | refine zO ?_); conv => whnf)
  have hall := fun L (hA : Ar ab ns2 L) => All_fn m ab ns2 L hA okA2
  rw [show putN (putN ns2 (ndK 0)).1 (allX ns2) = (ns3, 2, 0) by decide, show putI (putN ns2 (ndK 0)).1 (allX ns2) = 2 by decide] at hall
  refine DrawReq.plan hX (.fst 0 (.fst 1 (.fst 2 (.fst 4 (.fst 5 (.fst 6 (.alt 3 (.alt 7 (.alt 8 (.alt 9 (.fst 10 (.done)) (.stop)) (.stop)) (.alt 8 (.alt 7 (.alt 9 (.fst 10 (.done)) (.stop)) (.stop)) (.stop))) (.alt 8 (.alt 3 (.alt 7 (.alt 9 (.fst 10 (.done)) (.stop)) (.stop)) (.stop)) (.stop))))))))) [(b3, .cells (toArr grC) 85 (0, 0))] (by kernel_rfl) (by kernel_rfl) hL (fun h => h.one 0 rfl) ?_
  clear hL
  intro w hL
  conv => whnf
  repeat ((first | refine zQ hX ?_ | refine zR hX ?_ | refine zA ?_ | refine zT ?_ | refine zF ?_ | refine zL hX hL ?_ | refine zB hX hL ?_ | (refine zS hX hL ?_; clear hL; intro w hL) | refine zI ?_ | refine zG hX ?_ | refine zO ?_); conv => whnf)
  refine alt2 ?_ ?_
  · conv => whnf
    repeat ((first | refine zQ hX ?_ | refine zR hX ?_ | refine zA ?_ | refine zT ?_ | refine zF ?_ | refine zL hX hL ?_ | refine zB hX hL ?_ | (refine zS hX hL ?_; clear hL; intro w hL) | refine zI ?_ | refine zG hX ?_ | refine zO ?_); conv => whnf)
    refine CallReq.mk (L1 := L) (L2 := [(b3, .cells (toArr grC) 85 (0, 0))]) hnone (Loc.back (L1 := [(b3, .cells (toArr grC) 85 (0, 0))]) hL) ?_
    clear hL
    rintro u mx L3 w hL - ⟨hmx, rfl, hA2⟩
    rw [hmx] at hL
    clear hmx mx
    have hL := Loc.back (L1 := L3) (L2 := [(b3, .cells (toArr grC) 85 (0, 0))]) hL
    refine SReq.mk (hL.one 0 rfl) ?_
    conv => whnf
    repeat ((first | refine zQ hX ?_ | refine zR hX ?_ | refine zA ?_ | refine zT ?_ | refine zF ?_ | refine zL hX hL ?_ | refine zB hX hL ?_ | (refine zS hX hL ?_; clear hL; intro w hL) | refine zI ?_ | refine zG hX ?_ | refine zO ?_); conv => whnf)
    refine alt2 ?_ ?_
    · conv => whnf
      repeat ((first | refine zQ hX ?_ | refine zR hX ?_ | refine zA ?_ | refine zT ?_ | refine zF ?_ | refine zL hX hL ?_ | refine zB hX hL ?_ | (refine zS hX hL ?_; clear hL; intro w hL) | refine zI ?_ | refine zG hX ?_ | refine zO ?_); conv => whnf)
      refine CallReq.mk (L1 := L3) (L2 := [(b3, .cells (toArr grC) 85 (0, 0))]) (hall L3 hA2) (Loc.back (L1 := [(b3, .cells (toArr grC) 85 (0, 0))]) hL) ?_
      clear hL
      rintro u mx L4 w hL - ⟨hmx, rfl, hA3⟩
      rw [hmx] at hL
      clear hmx mx
      have hL := Loc.back (L1 := L4) (L2 := [(b3, .cells (toArr grC) 85 (0, 0))]) hL
      refine SReq.mk (hL.one 0 rfl) ?_
      conv => whnf
      repeat ((first | refine zQ hX ?_ | refine zR hX ?_ | refine zA ?_ | refine zT ?_ | refine zF ?_ | refine zL hX hL ?_ | refine zB hX hL ?_ | (refine zS hX hL ?_; clear hL; intro w hL) | refine zI ?_ | refine zG hX ?_ | refine zO ?_); conv => whnf)
      refine NewReq.mk hL ?_
      clear hL
      intro b7 w hL
      conv => whnf
      refine SReq.mk (hL.one 1 rfl) ?_
      conv => whnf
      repeat ((first | refine zQ hX ?_ | refine zR hX ?_ | refine zA ?_ | refine zT ?_ | refine zF ?_ | refine zL hX hL ?_ | refine zB hX hL ?_ | (refine zS hX hL ?_; clear hL; intro w hL) | refine zI ?_ | refine zG hX ?_ | refine zO ?_); conv => whnf)
      replace hL : Ev.Loc m S0 w0 m ((b7, .cells (toArr [.int .i64 1]) 3 (0, 0)) :: (b3, .cells (toArr grC) 85 (0, 0)) :: L4) w := hL
      refine SReq.mk (hL.one 1 rfl) ?_
      conv => whnf
      repeat ((first | refine zQ hX ?_ | refine zR hX ?_ | refine zA ?_ | refine zT ?_ | refine zF ?_ | refine zL hX hL ?_ | refine zB hX hL ?_ | (refine zS hX hL ?_; clear hL; intro w hL) | refine zI ?_ | refine zG hX ?_ | refine zO ?_); conv => whnf)
      refine DrawReq.plan hX (.fst 0 (.fst 1 (.fst 2 (.fst 3 (.fst 4 (.fst 5 (.alt 6 (.alt 7 (.fst 8 (.done)) (.stop)) (.stop)))))))) [(b3, .cells (toArr grC) 85 (0, 0))] (by kernel_rfl) (by kernel_rfl) hL (fun h => h.one 1 rfl) ?_
      clear hL
      intro w hL
      conv => whnf
      repeat ((first | refine zQ hX ?_ | refine zR hX ?_ | refine zA ?_ | refine zT ?_ | refine zF ?_ | refine zL hX hL ?_ | refine zB hX hL ?_ | (refine zS hX hL ?_; clear hL; intro w hL) | refine zI ?_ | refine zG hX ?_ | refine zO ?_); conv => whnf)
      refine CallReq.mk (L1 := L4) (L2 := [_, _]) (members_fn m ab ns3 L4 hA3 (ndK 1) (by decide) 4 (by decide) _ hv) (Loc.back (L1 := [_, _]) hL) ?_
      clear hL
      rintro u mx Lx w hL - ⟨hmx, Lo, rfl, ho⟩
      rw [hmx] at hL
      clear hmx mx
      have hL := Loc.back (L1 := Lo ++ L4) (L2 := [_, _]) hL
      have hS := hL.one 1 rfl
      have hL := Loc.back (L1 := [_, _]) hL
      rw [List.append_assoc] at hL
      obtain ⟨A1, n1, c1, rfl, hn1⟩ := ho.slice
      obtain ⟨m1, hL1, hm1, hs1⟩ := OwnS.freeze ho hL
      clear hL ho
      have hL := Loc.back (L1 := L4) (L2 := [_, _]) hL1
      clear hL1
      refine SReq.mk hS ?_
      conv => whnf
      repeat ((first | refine zQ hX ?_ | refine zR hX ?_ | refine zA ?_ | refine zT ?_ | refine zF ?_ | refine zL hX hL ?_ | refine zB hX hL ?_ | (refine zS hX hL ?_; clear hL; intro w hL) | refine zI ?_ | refine zG hX ?_ | refine zO ?_); conv => whnf)
      refine CallReq.mk (L1 := L4) (L2 := [_, _]) (bytes_fn m1 ab ns3 L4 hA3 0 (ndK 1) (by decide) (by decide) _ hs1) (Loc.back (L1 := [_, _]) hL) ?_
      clear hL
      rintro u mx Lx w hL - ⟨hmx, Lo2, rfl, ho2⟩
      rw [hmx] at hL
      clear hmx mx
      have hL := Loc.back (L1 := Lo2 ++ L4) (L2 := [_, _]) hL
      have hS := (hL.one 1 rfl).weaken hm1 (Mem.Le.refl _)
      have hL := Loc.back (L1 := [_, _]) hL
      rw [List.append_assoc] at hL
      obtain ⟨A2, n2, c2, rfl, hn2⟩ := ho2.slice
      obtain rfl : n2 = 1 := by simpa [ints] using hn2.symm
      obtain ⟨m2, hL2, hm2, hs2⟩ := OwnS.freeze ho2 hL
      clear hL ho2
      have hL := Loc.back (L1 := L4) (L2 := [_, _]) hL2
      clear hL2
      replace hL : Ev.Loc m S0 w0 m2 ((b7, .cells (toArr [.int .i64 1]) 3 (0, 0)) :: (b3, .cells (toArr grC) 85 (0, 0)) :: L4) w := hL
      refine SReq.mk hS ?_
      conv => whnf
      repeat ((first | refine zQ hX ?_ | refine zR hX ?_ | refine zA ?_ | refine zT ?_ | refine zF ?_ | refine zL hX hL ?_ | refine zB hX hL ?_ | (refine zS hX hL ?_; clear hL; intro w hL) | refine zI ?_ | refine zG hX ?_ | refine zO ?_); conv => whnf)
      refine CallReq.val (contains_fn m2 _ [0] 2 hs2) hL ?_
      clear hL
      intro w hL
      rw [show decide ((2 : Int) ∈ ([0] : List Int)) = false by decide]
      conv => whnf
      repeat ((first | refine zT ?_ | refine zF ?_ | refine zL hX hL ?_ | refine zB hX hL ?_ | (refine zS hX hL ?_; clear hL; intro w hL) | refine zI ?_ | refine zG hX ?_ | refine zO ?_); conv => whnf)
      refine CallReq.li (L1 := [(b7, .cells (toArr [.int .i64 1]) 3 (0, 0))]) (delete_fn m2 b7 1 _ [0] hs2 (by decide)) hL ?_
      clear hL
      intro w hL
      conv => whnf
      repeat ((first | refine zT ?_ | refine zF ?_ | refine zL hX hL ?_ | refine zB hX hL ?_ | (refine zS hX hL ?_; clear hL; intro w hL) | refine zI ?_ | refine zG hX ?_ | refine zO ?_); conv => whnf)
      refine CallReq.val (sort_fn m2 A2 1 c2 (by omega)) hL ?_
      clear hL
      intro w hL
      conv => whnf
      repeat ((first | refine zT ?_ | refine zF ?_ | refine zL hX hL ?_ | refine zB hX hL ?_ | (refine zS hX hL ?_; clear hL; intro w hL) | refine zI ?_ | refine zG hX ?_ | refine zO ?_); conv => whnf)
      refine CallReq.val (compact_fn m2 A2 1 c2 (by omega)) hL ?_
      clear hL
      intro w hL
      obtain ⟨a0, ea0, hc0⟩ := hs2.cell.2 0 0 rfl
      conv => whnf
      repeat ((first | refine Idx2Req.mk 0 a0 rfl (by omega) ea0 ?_ | refine LdReq.one hX rfl rfl hL hc0 ?_ | refine zT ?_ | refine zF ?_ | refine zL hX hL ?_ | refine zB hX hL ?_ | (refine zS hX hL ?_; clear hL; intro w hL) | refine zI ?_ | refine zG hX ?_ | refine zO ?_); conv => whnf)
      refine LoopReq.inv hX (fun _ : Nat => [(9, .int .i64 0), (10, .int .i64 (-1))]) [1, 2, 3]
        (fun _ w => Ev.Loc m S0 w0 m2 ((b7, .cells (toArr [.int .i64 1]) 3 (0, 0)) :: (b3, .cells (toArr grC) 85 (0, 0)) :: L4) w) (fun j => j) 0
        hL ⟨rfl, rfl, trivial⟩ ?_
      clear hL
      rintro j w g hL
      conv => whnf
      repeat ((first | refine zT ?_ | refine zF ?_ | refine zL hX hL ?_ | refine zB hX hL ?_ | (refine zS hX hL ?_; clear hL; intro w hL) | refine zI ?_ | refine zG hX ?_ | refine zO ?_); conv => whnf)
      exact RetReq.mk hL.drop.drop ⟨rfl, hA3⟩
    · conv => whnf
      repeat ((first | refine zQ hX ?_ | refine zR hX ?_ | refine zA ?_ | refine zT ?_ | refine zF ?_ | refine zL hX hL ?_ | refine zB hX hL ?_ | (refine zS hX hL ?_; clear hL; intro w hL) | refine zI ?_ | refine zG hX ?_ | refine zO ?_); conv => whnf)
      refine NewReq.mk hL ?_
      clear hL
      intro b7 w hL
      conv => whnf
      refine SReq.mk (hL.one 1 rfl) ?_
      conv => whnf
      repeat ((first | refine zQ hX ?_ | refine zR hX ?_ | refine zA ?_ | refine zT ?_ | refine zF ?_ | refine zL hX hL ?_ | refine zB hX hL ?_ | (refine zS hX hL ?_; clear hL; intro w hL) | refine zI ?_ | refine zG hX ?_ | refine zO ?_); conv => whnf)
      refine CallReq.mk (L1 := L3) (L2 := [(b7, .cells (toArr [.int .i64 0]) 3 (0, 0)), (b3, .cells (toArr grC) 85 (0, 0))]) (hall L3 hA2) (Loc.back (L1 := [(b7, .cells (toArr [.int .i64 0]) 3 (0, 0)), (b3, .cells (toArr grC) 85 (0, 0))]) hL) ?_
      clear hL
      rintro u mx L4 w hL - ⟨hmx, rfl, hA3⟩
      rw [hmx] at hL
      clear hmx mx
      have hL := Loc.back (L1 := L4) (L2 := [(b7, .cells (toArr [.int .i64 0]) 3 (0, 0)), (b3, .cells (toArr grC) 85 (0, 0))]) hL
      refine SReq.mk (hL.one 1 rfl) ?_
      conv => whnf
      repeat ((first | refine zQ hX ?_ | refine zR hX ?_ | refine zA ?_ | refine zT ?_ | refine zF ?_ | refine zL hX hL ?_ | refine zB hX hL ?_ | (refine zS hX hL ?_; clear hL; intro w hL) | refine zI ?_ | refine zG hX ?_ | refine zO ?_); conv => whnf)
      replace hL : Ev.Loc m S0 w0 m ((b7, .cells (toArr [.int .i64 1]) 3 (0, 0)) :: (b3, .cells (toArr grC) 85 (0, 0)) :: L4) w := hL
      refine SReq.mk (hL.one 1 rfl) ?_
      conv => whnf
      repeat ((first | refine zQ hX ?_ | refine zR hX ?_ | refine zA ?_ | refine zT ?_ | refine zF ?_ | refine zL hX hL ?_ | refine zB hX hL ?_ | (refine zS hX hL ?_; clear hL; intro w hL) | refine zI ?_ | refine zG hX ?_ | refine zO ?_); conv => whnf)
      refine DrawReq.plan hX (.fst 0 (.fst 1 (.fst 2 (.fst 3 (.fst 4 (.fst 5 (.alt 6 (.alt 7 (.fst 8 (.done)) (.stop)) (.stop)))))))) [(b3, .cells (toArr grC) 85 (0, 0))] (by kernel_rfl) (by kernel_rfl) hL (fun h => h.one 1 rfl) ?_
      clear hL
      intro w hL
      conv => whnf
      repeat ((first | refine zQ hX ?_ | refine zR hX ?_ | refine zA ?_ | refine zT ?_ | refine zF ?_ | refine zL hX hL ?_ | refine zB hX hL ?_ | (refine zS hX hL ?_; clear hL; intro w hL) | refine zI ?_ | refine zG hX ?_ | refine zO ?_); conv => whnf)
      refine CallReq.mk (L1 := L4) (L2 := [_, _]) (members_fn m ab ns3 L4 hA3 (ndK 1) (by decide) 4 (by decide) _ hv) (Loc.back (L1 := [_, _]) hL) ?_
      clear hL
      rintro u mx Lx w hL - ⟨hmx, Lo, rfl, ho⟩
      rw [hmx] at hL
      clear hmx mx
      have hL := Loc.back (L1 := Lo ++ L4) (L2 := [_, _]) hL
      have hS := hL.one 1 rfl
      have hL := Loc.back (L1 := [_, _]) hL
      rw [List.append_assoc] at hL
      obtain ⟨A1, n1, c1, rfl, hn1⟩ := ho.slice
      obtain ⟨m1, hL1, hm1, hs1⟩ := OwnS.freeze ho hL
      clear hL ho
      have hL := Loc.back (L1 := L4) (L2 := [_, _]) hL1
      clear hL1
      refine SReq.mk hS ?_
      conv => whnf
      repeat ((first | refine zQ hX ?_ | refine zR hX ?_ | refine zA ?_ | refine zT ?_ | refine zF ?_ | refine zL hX hL ?_ | refine zB hX hL ?_ | (refine zS hX hL ?_; clear hL; intro w hL) | refine zI ?_ | refine zG hX ?_ | refine zO ?_); conv => whnf)
      refine CallReq.mk (L1 := L4) (L2 := [_, _]) (bytes_fn m1 ab ns3 L4 hA3 0 (ndK 1) (by decide) (by decide) _ hs1) (Loc.back (L1 := [_, _]) hL) ?_
      clear hL
      rintro u mx Lx w hL - ⟨hmx, Lo2, rfl, ho2⟩
      rw [hmx] at hL
      clear hmx mx
      have hL := Loc.back (L1 := Lo2 ++ L4) (L2 := [_, _]) hL
      have hS := (hL.one 1 rfl).weaken hm1 (Mem.Le.refl _)
      have hL := Loc.back (L1 := [_, _]) hL
      rw [List.append_assoc] at hL
      obtain ⟨A2, n2, c2, rfl, hn2⟩ := ho2.slice
      obtain rfl : n2 = 1 := by simpa [ints] using hn2.symm
      obtain ⟨m2, hL2, hm2, hs2⟩ := OwnS.freeze ho2 hL
      clear hL ho2
      have hL := Loc.back (L1 := L4) (L2 := [_, _]) hL2
      clear hL2
      replace hL : Ev.Loc m S0 w0 m2 ((b7, .cells (toArr [.int .i64 1]) 3 (0, 0)) :: (b3, .cells (toArr grC) 85 (0, 0)) :: L4) w := hL
      refine SReq.mk hS ?_
      conv => whnf
      repeat ((first | refine zQ hX ?_ | refine zR hX ?_ | refine zA ?_ | refine zT ?_ | refine zF ?_ | refine zL hX hL ?_ | refine zB hX hL ?_ | (refine zS hX hL ?_; clear hL; intro w hL) | refine zI ?_ | refine zG hX ?_ | refine zO ?_); conv => whnf)
      refine CallReq.val (contains_fn m2 _ [0] 2 hs2) hL ?_
      clear hL
      intro w hL
      rw [show decide ((2 : Int) ∈ ([0] : List Int)) = false by decide]
      conv => whnf
      repeat ((first | refine zT ?_ | refine zF ?_ | refine zL hX hL ?_ | refine zB hX hL ?_ | (refine zS hX hL ?_; clear hL; intro w hL) | refine zI ?_ | refine zG hX ?_ | refine zO ?_); conv => whnf)
      refine CallReq.li (L1 := [(b7, .cells (toArr [.int .i64 1]) 3 (0, 0))]) (delete_fn m2 b7 1 _ [0] hs2 (by decide)) hL ?_
      clear hL
      intro w hL
      conv => whnf
      repeat ((first | refine zT ?_ | refine zF ?_ | refine zL hX hL ?_ | refine zB hX hL ?_ | (refine zS hX hL ?_; clear hL; intro w hL) | refine zI ?_ | refine zG hX ?_ | refine zO ?_); conv => whnf)
      refine CallReq.val (sort_fn m2 A2 1 c2 (by omega)) hL ?_
      clear hL
      intro w hL
      conv => whnf
      repeat ((first | refine zT ?_ | refine zF ?_ | refine zL hX hL ?_ | refine zB hX hL ?_ | (refine zS hX hL ?_; clear hL; intro w hL) | refine zI ?_ | refine zG hX ?_ | refine zO ?_); conv => whnf)
      refine CallReq.val (compact_fn m2 A2 1 c2 (by omega)) hL ?_
      clear hL
      intro w hL
      obtain ⟨a0, ea0, hc0⟩ := hs2.cell.2 0 0 rfl
      conv => whnf
      repeat ((first | refine Idx2Req.mk 0 a0 rfl (by omega) ea0 ?_ | refine LdReq.one hX rfl rfl hL hc0 ?_ | refine zT ?_ | refine zF ?_ | refine zL hX hL ?_ | refine zB hX hL ?_ | (refine zS hX hL ?_; clear hL; intro w hL) | refine zI ?_ | refine zG hX ?_ | refine zO ?_); conv => whnf)
      refine LoopReq.inv hX (fun _ : Nat => [(9, .int .i64 0), (10, .int .i64 (-1))]) [1, 2, 3]
        (fun _ w => Ev.Loc m S0 w0 m2 ((b7, .cells (toArr [.int .i64 1]) 3 (0, 0)) :: (b3, .cells (toArr grC) 85 (0, 0)) :: L4) w) (fun j => j) 0
        hL ⟨rfl, rfl, trivial⟩ ?_
      clear hL
      rintro j w g hL
      conv => whnf
      repeat ((first | refine zT ?_ | refine zF ?_ | refine zL hX hL ?_ | refine zB hX hL ?_ | (refine zS hX hL ?_; clear hL; intro w hL) | refine zI ?_ | refine zG hX ?_ | refine zO ?_); conv => whnf)
      exact RetReq.mk hL.drop.drop ⟨rfl, hA3⟩
  · conv => whnf
    repeat ((first | refine zQ hX ?_ | refine zR hX ?_ | refine zA ?_ | refine zT ?_ | refine zF ?_ | refine zL hX hL ?_ | refine zB hX hL ?_ | (refine zS hX hL ?_; clear hL; intro w hL) | refine zI ?_ | refine zG hX ?_ | refine zO ?_); conv => whnf)
    refine NewReq.mk hL ?_
    clear hL
    intro b7 w hL
    conv => whnf
    refine SReq.mk (hL.one 1 rfl) ?_
    conv => whnf
    repeat ((first | refine zQ hX ?_ | refine zR hX ?_ | refine zA ?_ | refine zT ?_ | refine zF ?_ | refine zL hX hL ?_ | refine zB hX hL ?_ | (refine zS hX hL ?_; clear hL; intro w hL) | refine zI ?_ | refine zG hX ?_ | refine zO ?_); conv => whnf)
    refine CallReq.mk (L1 := L) (L2 := [(b7, .cells (toArr [.int .i64 0]) 3 (0, 0)), (b3, .cells (toArr grC) 85 (0, 0))]) hnone (Loc.back (L1 := [(b7, .cells (toArr [.int .i64 0]) 3 (0, 0)), (b3, .cells (toArr grC) 85 (0, 0))]) hL) ?_
    clear hL
    rintro u mx L3 w hL - ⟨hmx, rfl, hA2⟩
    rw [hmx] at hL
    clear hmx mx
    have hL := Loc.back (L1 := L3) (L2 := [(b7, .cells (toArr [.int .i64 0]) 3 (0, 0)), (b3, .cells (toArr grC) 85 (0, 0))]) hL
    refine SReq.mk (hL.one 1 rfl) ?_
    conv => whnf
    repeat ((first | refine zQ hX ?_ | refine zR hX ?_ | refine zA ?_ | refine zT ?_ | refine zF ?_ | refine zL hX hL ?_ | refine zB hX hL ?_ | (refine zS hX hL ?_; clear hL; intro w hL) | refine zI ?_ | refine zG hX ?_ | refine zO ?_); conv => whnf)
    refine CallReq.mk (L1 := L3) (L2 := [(b7, .cells (toArr [.int .i64 0]) 3 (0, 0)), (b3, .cells (toArr grC) 85 (0, 0))]) (hall L3 hA2) (Loc.back (L1 := [(b7, .cells (toArr [.int .i64 0]) 3 (0, 0)), (b3, .cells (toArr grC) 85 (0, 0))]) hL) ?_
    clear hL
    rintro u mx L4 w hL - ⟨hmx, rfl, hA3⟩
    rw [hmx] at hL
    clear hmx mx
    have hL := Loc.back (L1 := L4) (L2 := [(b7, .cells (toArr [.int .i64 0]) 3 (0, 0)), (b3, .cells (toArr grC) 85 (0, 0))]) hL
    refine SReq.mk (hL.one 1 rfl) ?_
    conv => whnf
    repeat ((first | refine zQ hX ?_ | refine zR hX ?_ | refine zA ?_ | refine zT ?_ | refine zF ?_ | refine zL hX hL ?_ | refine zB hX hL ?_ | (refine zS hX hL ?_; clear hL; intro w hL) | refine zI ?_ | refine zG hX ?_ | refine zO ?_); conv => whnf)
    replace hL : Ev.Loc m S0 w0 m ((b7, .cells (toArr [.int .i64 1]) 3 (0, 0)) :: (b3, .cells (toArr grC) 85 (0, 0)) :: L4) w := hL
    refine SReq.mk (hL.one 1 rfl) ?_
    conv => whnf
    repeat ((first | refine zQ hX ?_ | refine zR hX ?_ | refine zA ?_ | refine zT ?_ | refine zF ?_ | refine zL hX hL ?_ | refine zB hX hL ?_ | (refine zS hX hL ?_; clear hL; intro w hL) | refine zI ?_ | refine zG hX ?_ | refine zO ?_); conv => whnf)
    refine DrawReq.plan hX (.fst 0 (.fst 1 (.fst 2 (.fst 3 (.fst 4 (.fst 5 (.alt 6 (.alt 7 (.fst 8 (.done)) (.stop)) (.stop)))))))) [(b3, .cells (toArr grC) 85 (0, 0))] (by kernel_rfl) (by kernel_rfl) hL (fun h => h.one 1 rfl) ?_
    clear hL
    intro w hL
    conv => whnf
    repeat ((first | refine zQ hX ?_ | refine zR hX ?_ | refine zA ?_ | refine zT ?_ | refine zF ?_ | refine zL hX hL ?_ | refine zB hX hL ?_ | (refine zS hX hL ?_; clear hL; intro w hL) | refine zI ?_ | refine zG hX ?_ | refine zO ?_); conv => whnf)
    refine CallReq.mk (L1 := L4) (L2 := [_, _]) (members_fn m ab ns3 L4 hA3 (ndK 1) (by decide) 4 (by decide) _ hv) (Loc.back (L1 := [_, _]) hL) ?_
    clear hL
    rintro u mx Lx w hL - ⟨hmx, Lo, rfl, ho⟩
    rw [hmx] at hL
    clear hmx mx
    have hL := Loc.back (L1 := Lo ++ L4) (L2 := [_, _]) hL
    have hS := hL.one 1 rfl
    have hL := Loc.back (L1 := [_, _]) hL
    rw [List.append_assoc] at hL
    obtain ⟨A1, n1, c1, rfl, hn1⟩ := ho.slice
    obtain ⟨m1, hL1, hm1, hs1⟩ := OwnS.freeze ho hL
    clear hL ho
    have hL := Loc.back (L1 := L4) (L2 := [_, _]) hL1
    clear hL1
    refine SReq.mk hS ?_
    conv => whnf
    repeat ((first | refine zQ hX ?_ | refine zR hX ?_ | refine zA ?_ | refine zT ?_ | refine zF ?_ | refine zL hX hL ?_ | refine zB hX hL ?_ | (refine zS hX hL ?_; clear hL; intro w hL) | refine zI ?_ | refine zG hX ?_ | refine zO ?_); conv => whnf)
    refine CallReq.mk (L1 := L4) (L2 := [_, _]) (bytes_fn m1 ab ns3 L4 hA3 0 (ndK 1) (by decide) (by decide) _ hs1) (Loc.back (L1 := [_, _]) hL) ?_
    clear hL
    rintro u mx Lx w hL - ⟨hmx, Lo2, rfl, ho2⟩
    rw [hmx] at hL
    clear hmx mx
    have hL := Loc.back (L1 := Lo2 ++ L4) (L2 := [_, _]) hL
    have hS := (hL.one 1 rfl).weaken hm1 (Mem.Le.refl _)
    have hL := Loc.back (L1 := [_, _]) hL
    rw [List.append_assoc] at hL
    obtain ⟨A2, n2, c2, rfl, hn2⟩ := ho2.slice
    obtain rfl : n2 = 1 := by simpa [ints] using hn2.symm
    obtain ⟨m2, hL2, hm2, hs2⟩ := OwnS.freeze ho2 hL
    clear hL ho2
    have hL := Loc.back (L1 := L4) (L2 := [_, _]) hL2
    clear hL2
    replace hL : Ev.Loc m S0 w0 m2 ((b7, .cells (toArr [.int .i64 1]) 3 (0, 0)) :: (b3, .cells (toArr grC) 85 (0, 0)) :: L4) w := hL
    refine SReq.mk hS ?_
    conv => whnf
    repeat ((first | refine zQ hX ?_ | refine zR hX ?_ | refine zA ?_ | refine zT ?_ | refine zF ?_ | refine zL hX hL ?_ | refine zB hX hL ?_ | (refine zS hX hL ?_; clear hL; intro w hL) | refine zI ?_ | refine zG hX ?_ | refine zO ?_); conv => whnf)
    refine CallReq.val (contains_fn m2 _ [0] 2 hs2) hL ?_
    clear hL
    intro w hL
    rw [show decide ((2 : Int) ∈ ([0] : List Int)) = false by decide]
    conv => whnf
    repeat ((first | refine zT ?_ | refine zF ?_ | refine zL hX hL ?_ | refine zB hX hL ?_ | (refine zS hX hL ?_; clear hL; intro w hL) | refine zI ?_ | refine zG hX ?_ | refine zO ?_); conv => whnf)
    refine CallReq.li (L1 := [(b7, .cells (toArr [.int .i64 1]) 3 (0, 0))]) (delete_fn m2 b7 1 _ [0] hs2 (by decide)) hL ?_
    clear hL
    intro w hL
    conv => whnf
    repeat ((first | refine zT ?_ | refine zF ?_ | refine zL hX hL ?_ | refine zB hX hL ?_ | (refine zS hX hL ?_; clear hL; intro w hL) | refine zI ?_ | refine zG hX ?_ | refine zO ?_); conv => whnf)
    refine CallReq.val (sort_fn m2 A2 1 c2 (by omega)) hL ?_
    clear hL
    intro w hL
    conv => whnf
    repeat ((first | refine zT ?_ | refine zF ?_ | refine zL hX hL ?_ | refine zB hX hL ?_ | (refine zS hX hL ?_; clear hL; intro w hL) | refine zI ?_ | refine zG hX ?_ | refine zO ?_); conv => whnf)
    refine CallReq.val (compact_fn m2 A2 1 c2 (by omega)) hL ?_
    clear hL
    intro w hL
    obtain ⟨a0, ea0, hc0⟩ := hs2.cell.2 0 0 rfl
    conv => whnf
    repeat ((first | refine Idx2Req.mk 0 a0 rfl (by omega) ea0 ?_ | refine LdReq.one hX rfl rfl hL hc0 ?_ | refine zT ?_ | refine zF ?_ | refine zL hX hL ?_ | refine zB hX hL ?_ | (refine zS hX hL ?_; clear hL; intro w hL) | refine zI ?_ | refine zG hX ?_ | refine zO ?_); conv => whnf)
    refine LoopReq.inv hX (fun _ : Nat => [(9, .int .i64 0), (10, .int .i64 (-1))]) [1, 2, 3]
      (fun _ w => Ev.Loc m S0 w0 m2 ((b7, .cells (toArr [.int .i64 1]) 3 (0, 0)) :: (b3, .cells (toArr grC) 85 (0, 0)) :: L4) w) (fun j => j) 0
      hL ⟨rfl, rfl, trivial⟩ ?_
    clear hL
    rintro j w g hL
    conv => whnf
    repeat ((first | refine zT ?_ | refine zF ?_ | refine zL hX hL ?_ | refine zB hX hL ?_ | (refine zS hX hL ?_; clear hL; intro w hL) | refine zI ?_ | refine zG hX ?_ | refine zO ?_); conv => whnf)
    exact RetReq.mk hL.drop.drop ⟨rfl, hA3⟩

theorem Or_fn (m : Mem) (ab : Nat) (L : Own) (hA : Ar ab ns1 L) (v : Value) (hv : SlI m .i64 v [0, 0]) :
    Ev.Fn Try.prog 19 [.pointer (some ⟨ab, 0, none⟩), v] m L fun _ L' u => u = .int .i64 0 ∧ Ar ab ns3 L' := by
  obtain ⟨A, n, c, rfl, -⟩ := id hv
  refine Fn.enter (N := 9) hX Try.func19 rfl rfl (by show _ ≤ _; simp) (fun w0 hL => ?_)
  conv => whnf
  generalize keys L = S0 at hL ⊢
  conv => whnf
  repeat ((first | refine zT ?_ | refine zF ?_ | refine zL hX hL ?_ | refine zB hX hL ?_ | (refine zS hX hL ?_; clear hL; intro w hL) | refine zI ?_ | refine zG hX ?_ | refine zO ?_); conv => whnf)
  refine CallReq.mk (L1 := L) (L2 := []) (gput_fn m ab L hA _ hv) (by rw [List.append_nil]; exact hL) ?_
  clear hL
  rintro u m2 L2 w hL - ⟨rfl, hA3⟩
  rw [List.append_nil] at hL
  conv => whnf
  repeat ((first | refine zT ?_ | refine zF ?_ | refine zL hX hL ?_ | refine zB hX hL ?_ | (refine zS hX hL ?_; clear hL; intro w hL) | refine zI ?_ | refine zG hX ?_ | refine zO ?_); conv => whnf)
  exact RetReq.mk hL ⟨rfl, hA3⟩
theorem awake_fn (m : Mem) : FnV Try.prog 6 [] m (.bool true) := by
  refine Fn.enter (N := 22) hX Try.func6 rfl rfl (by show _ ≤ _; simp) (fun w0 hL => ?_)
  conv => whnf
  conv => whnf
  repeat ((first | refine zT ?_ | refine zF ?_ | refine zL hX hL ?_ | refine zB hX hL ?_ | (refine zS hX hL ?_; clear hL; intro w hL) | refine zI ?_ | refine zG hX ?_ | refine zO ?_); conv => whnf)
  refine CallReq.mk (L1 := []) (L2 := []) (New_fn m) hL ?_
  clear hL
  rintro u mx L1 w hL - ⟨hmx, ab, rfl, hA⟩
  rw [hmx, List.append_nil] at hL
  clear hmx mx
  conv => whnf
  repeat ((first | refine zT ?_ | refine zF ?_ | refine zL hX hL ?_ | refine zB hX hL ?_ | (refine zS hX hL ?_; clear hL; intro w hL) | refine zI ?_ | refine zG hX ?_ | refine zO ?_); conv => whnf)
  have hem := Empty_fn m ab [] L1 hA okA_nil
  rw [show putN [] (ndK 1) = (ns1, 0, 0) by decide, show putI [] (ndK 1) = 0 by decide] at hem
  refine CallReq.mk (L1 := L1) (L2 := []) hem (by rw [List.append_nil]; exact hL) ?_
  clear hL
  rintro u mx L2 w hL - ⟨hmx, rfl, hA1⟩
  rw [hmx, List.append_nil] at hL
  clear hmx mx
  conv => whnf
  repeat ((first | refine zT ?_ | refine zF ?_ | refine zL hX hL ?_ | refine zB hX hL ?_ | (refine zS hX hL ?_; clear hL; intro w hL) | refine zI ?_ | refine zG hX ?_ | refine zO ?_); conv => whnf)
  have hnu := Null_fn m ab 0 ns1 L2 hA1 okA1 (by omega) 0
  rw [if_pos (by decide), show nulN 0 ns1 (0 : Int).toNat = true by decide] at hnu
  refine CallReq.lm (L1 := L2) (L2 := []) hnu (by rw [List.append_nil]; exact hL) ?_
  clear hL
  intro m1 w hm1 hL
  rw [List.append_nil] at hL
  conv => whnf
  repeat ((first | refine zT ?_ | refine zF ?_ | refine zL hX hL ?_ | refine zB hX hL ?_ | (refine zS hX hL ?_; clear hL; intro w hL) | refine zI ?_ | refine zG hX ?_ | refine zO ?_); conv => whnf)
  refine NewReq.mk hL ?_
  clear hL
  intro g w hL
  conv => whnf
  replace hL : Ev.Loc m [] w0 m1 ([(g, .cells (toArr (ints .i64 [0, 0])) 3 (0, 0))] ++ L2) w := hL
  obtain ⟨m2, hL2, hm2, hs⟩ := OwnS.freeze (te := 3) (k := .i64) (l := [0, 0]) (OwnS.full (n := 2) (by decide) rfl) hL
  clear hL
  have hL := hL2
  clear hL2
  conv => whnf
  repeat ((first | refine zT ?_ | refine zF ?_ | refine zL hX hL ?_ | refine zB hX hL ?_ | (refine zS hX hL ?_; clear hL; intro w hL) | refine zI ?_ | refine zG hX ?_ | refine zO ?_); conv => whnf)
  refine CallReq.mk (L1 := L2) (L2 := []) (Or_fn m2 ab L2 hA1 _ hs) (by rw [List.append_nil]; exact hL) ?_
  clear hL
  rintro u m3 L3 w hL - ⟨rfl, -⟩
  rw [List.append_nil] at hL
  conv => whnf
  repeat ((first | refine zT ?_ | refine zF ?_ | refine zL hX hL ?_ | refine zB hX hL ?_ | (refine zS hX hL ?_; clear hL; intro w hL) | refine zI ?_ | refine zG hX ?_ | refine zO ?_); conv => whnf)
  exact RetReq.bool (hL.sublist (List.nil_sublist _)) rfl
end Go.Proofs.Ytblpobeokfkggaa.ar
