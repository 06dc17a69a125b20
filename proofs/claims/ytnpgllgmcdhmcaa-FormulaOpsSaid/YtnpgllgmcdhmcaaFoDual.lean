/- Formulas: Dual, walked. Conditions: none. -/
import Derived.Test.YtnpgllgmcdhmcaaFoOps
import Derived.Test.YtnpgllgmcdhmcaaFoAwake

namespace Go.Proofs.Ytnpgllgmcdhmcaa.fo
open Go Go.Ev Go.Proofs

set_option maxHeartbeats 2000000 in
theorem Dual_fn (m : Mem) (v : Value) (f : Fml) (A : Prt) (hA : A.length ≤ 9) (h1 : FmV m v f) (hf : Sm A f) :
    Fn0 Try.prog 11 [v] m fun m' u => ∃ v r, u = .tuple (toArr [v, .int .i64 0]) ∧ FmV m' v r ∧ Dl A f r := by
  have hmx : maxLen = 9223372036854775807 := rfl
  have k1 := Formed_fn m v f h1
  rw [dec_t hf.formed] at k1
  have h1' := h1
  obtain ⟨A1, n1, c1, rfl, hn1, hc1, hm1x, -⟩ := id h1
  subst hn1
  have l1 := hf.len hA
  refine Fn.enter (N := 46) hX Try.func11 rfl rfl (by show _ ≤ _; simp) (fun w0 hL => ?_)
  conv => whnf
  conv => whnf
  repeat ((first | refine zT ?_ | refine zF ?_ | refine zL hX hL ?_ | refine zB hX hL ?_ | (refine zS hX hL ?_; clear hL; intro w hL) | refine zI ?_ | refine zG hX ?_ | refine zO ?_); conv => whnf)
  refine CallReq.val k1 hL ?_
  clear hL
  intro w hL
  conv => whnf
  repeat ((first | refine zT ?_ | refine zF ?_ | refine zL hX hL ?_ | refine zB hX hL ?_ | (refine zS hX hL ?_; clear hL; intro w hL) | refine zI ?_ | refine zG hX ?_ | refine zO ?_); conv => whnf)
  refine CallReq.pure (true_fn m) hL ?_
  clear hL
  rintro u m1 w hL hle1 ht
  obtain ⟨At, nt, ct, rfl, -⟩ := id ht
  conv => whnf
  repeat ((first | refine zT ?_ | refine zF ?_ | refine zL hX hL ?_ | refine zB hX hL ?_ | (refine zS hX hL ?_; clear hL; intro w hL) | refine zI ?_ | refine zG hX ?_ | refine zO ?_); conv => whnf)
  refine LoopReq.inv hX (fun s : Nat × Option Addr × Nat × Nat => [(4, .slice s.2.1 s.2.2.1 s.2.2.2), (18, .int .i64 s.1)]) [16, 17]
    (fun s w => s.1 ≤ f.length ∧ ∃ m1 r, Mem.Le m m1 ∧ FmV m1 (.slice s.2.1 s.2.2.1 s.2.2.2) r ∧ Dl A (f.take s.1) r ∧ Ev.Loc m [] w0 m1 [] w) (fun s => f.length - s.1) (0, At, nt, ct)
    ⟨Nat.zero_le _, m1, [[]], hle1, ht, Dl.start A, hL⟩ ⟨rfl, rfl, trivial⟩ ?_
  clear hL ht hle1
  rintro ⟨j, B, bn, bc⟩ w e ⟨hj, m1, r, hm1, hr, hdl, hL⟩
  simp only at hj hr hdl
  have hrS : Sm A r := ⟨hdl.formed, hdl.in_⟩
  have hrl := hrS.len hA
  conv => whnf
  repeat ((first | refine zT ?_ | refine zF ?_ | refine zL hX hL ?_ | refine zB hX hL ?_ | (refine zS hX hL ?_; clear hL; intro w hL) | refine zI ?_ | refine zG hX ?_ | refine zO ?_); conv => whnf)
  refine BrReq.dec (fun hlt => ?_) (fun hlt => ?_)
  rotate_left
  · have ej : j = f.length := by simp only at hlt; omega
    subst ej
    rw [List.take_length] at hdl
    conv => whnf
    repeat ((first | refine zT ?_ | refine zF ?_ | refine zL hX hL ?_ | refine zB hX hL ?_ | (refine zS hX hL ?_; clear hL; intro w hL) | refine zI ?_ | refine zG hX ?_ | refine zO ?_); conv => whnf)
    exact RetReq.mk hL ⟨rfl, _, r, rfl, hr, hdl⟩
  have hj1 : j < f.length := by simp only at hlt; omega
  have hjm := List.getElem_mem hj1
  have hpl := hf.part hA hjm
  have hpr := hf.formed.rises _ hjm
  have hpi := hf.in_ _ hjm
  have htk : f.take (j + 1) = f.take j ++ [f[j]] := take_succ' hj1
  obtain ⟨a, A5, n5, c5, ea, hcell, hpq⟩ := (h1'.le hm1).at_ hj1
  generalize f[j] = p at hpl hpr hpi htk hpq
  have hpn := hpq.len
  have he2 := hpq.cell.2
  conv => whnf
  repeat ((first | (refine Idx2Req.mk j a rfl (by simp only at hlt; omega) ea ?_) | refine LdReq.one hX rfl rfl hL hcell ?_ | refine zT ?_ | refine zF ?_ | refine zL hX hL ?_ | refine zB hX hL ?_ | (refine zS hX hL ?_; clear hL; intro w hL) | refine zI ?_ | refine zG hX ?_ | refine zO ?_); conv => whnf)
  refine LoopReq.inv hX (fun s : Nat × Option Addr × Nat × Nat => [(7, .slice s.2.1 s.2.2.1 s.2.2.2), (24, .int .i64 s.1)]) [4, 16, 17, 18, 22, 23]
    (fun s w => s.1 ≤ p.length ∧ ∃ m2 us L1, Mem.Le m1 m2 ∧ OwnS 34 1 (.slice s.2.1 s.2.2.1 s.2.2.2) us L1 ∧ HdF m2 us (ones (p.take s.1)) ∧ Ev.Loc m [] w0 m2 L1 w) (fun s => p.length - s.1) (0, none, 0, 0)
    ⟨Nat.zero_le _, m1, [], [], Mem.Le.refl _, OwnS.nil _ _, HdF.nil _, hL⟩ ⟨rfl, rfl, trivial⟩ ?_
  clear hL
  rintro ⟨i, A2, n2, c2⟩ w e2 ⟨hi, m2, us, L1, hm12, ho, hH, hL⟩
  simp only at hi ho hH
  conv => whnf
  repeat ((first | refine zT ?_ | refine zF ?_ | refine zL hX hL ?_ | refine zB hX hL ?_ | (refine zS hX hL ?_; clear hL; intro w hL) | refine zI ?_ | refine zG hX ?_ | refine zO ?_); conv => whnf)
  refine BrReq.dec (fun hlt2 => ?_) (fun hlt2 => ?_)
  · have hi1 : i < p.length := by simp only at hlt2; omega
    obtain ⟨a3, e3, hx3⟩ := he2 i _ (List.getElem?_eq_getElem hi1)
    have hlen := lenF hH
    rw [show (ones (p.take i)).length = i by unfold ones; rw [List.length_map, List.length_take]; omega] at hlen
    conv => whnf
    repeat ((first | (refine Idx2Req.mk i a3 rfl (by simp only at hlt2; omega) e3 ?_) | (refine LdReq.one hX rfl rfl hL (by rw [scale_eq, Nat.mul_one]; exact mcell_le hm12 hx3) ?_) | refine zT ?_ | refine zF ?_ | refine zL hX hL ?_ | refine zB hX hL ?_ | (refine zS hX hL ?_; clear hL; intro w hL) | refine zI ?_ | refine zG hX ?_ | refine zO ?_); conv => whnf)
    refine NewReq.mk hL ?_
    clear hL
    intro b30 w hL
    conv => whnf
    replace hL : Ev.Loc m [] w0 m2 ([(b30, .cells (toArr [.int .i64 p[i]]) 3 (0, 0))] ++ L1) w := hL
    obtain ⟨m3, hL3, hm23, hs3⟩ := OwnS.freeze (k := .i64) (l := [p[i]]) (OwnS.full (n := 1) (by decide) rfl) hL
    clear hL
    have hL := hL3
    clear hL3
    conv => whnf
    repeat ((first | refine zT ?_ | refine zF ?_ | refine zL hX hL ?_ | refine zB hX hL ?_ | (refine zS hX hL ?_; clear hL; intro w hL) | refine zI ?_ | refine zG hX ?_ | refine zO ?_); conv => whnf)
    refine NewReq.mk hL ?_
    clear hL
    intro b31 w hL
    conv => whnf
    replace hL : Ev.Loc m [] w0 m3 ((b31, .cells (toArr [.slice (some ⟨b30, 0, none⟩) 1 1]) 34 (0, 0)) :: (L1 ++ [])) w := by rw [List.append_nil]; exact hL
    conv => whnf
    repeat ((first | refine zT ?_ | refine zF ?_ | refine zL hX hL ?_ | refine zB hX hL ?_ | (refine zS hX hL ?_; clear hL; intro w hL) | refine zI ?_ | refine zG hX ?_ | refine zO ?_); conv => whnf)
    refine RunReq.push hX 23 34 rfl rfl rfl rfl rfl ho (L2 := []) hL rfl rfl (by show _ + 1 ≤ _; omega) rfl ?_
    clear hL
    intro A4 n4 c4 L4 w hn4 ho4 hL
    rw [List.append_nil] at hL
    have hH2 := (hH.le hm23).app (hd_one hs3)
    rw [show ones (p.take i) ++ [[p[i]]] = ones (p.take (i + 1)) by rw [take_succ' hi1]; unfold ones; rw [List.map_append]; rfl] at hH2
    conv => whnf
    repeat ((first | refine zT ?_ | refine zF ?_ | refine zL hX hL ?_ | refine zB hX hL ?_ | (refine zS hX hL ?_; clear hL; intro w hL) | refine zI ?_ | refine zG hX ?_ | refine zO ?_); conv => whnf)
    refine ⟨(i + 1, A4, n4, c4), ⟨by simp only; omega, m3, _, L4, hm12.trans hm23, ho4, hH2, hL⟩, by first | omega | (simp only; omega) | (simp only [List.length_cons, List.length_append]; omega), ?_, ?_⟩
    · repeat (first | exact trivial | (refine And.intro (by (conv => lhs; whnf) <;> (conv => rhs; whnf) <;> (first | rfl)) ?_))
    · repeat (first | exact trivial | (refine And.intro (by (conv => lhs; whnf) <;> (conv => rhs; whnf) <;> (first | rfl)) ?_))
  · have ej : i = p.length := by simp only at hlt2; omega
    subst ej
    rw [List.take_length] at hH
    rw [← List.append_nil L1] at hL
    obtain ⟨m3, hL3, hm23, hfo⟩ := hd_freeze ho hH hL
    clear hL
    have hL := hL3
    clear hL3
    conv => whnf
    repeat ((first | refine zT ?_ | refine zF ?_ | refine zL hX hL ?_ | refine zB hX hL ?_ | (refine zS hX hL ?_; clear hL; intro w hL) | refine zI ?_ | refine zG hX ?_ | refine zO ?_); conv => whnf)
    refine CallReq.pure (And_fn m3 _ _ r (ones p) A hA (hr.le (hm12.trans hm23)) hfo hrS ⟨ones_formed hpr, ones_in hpi⟩) hL ?_
    clear hL
    rintro u m4 w hL hm34 ⟨v4, r4, rfl, hr4, hcan⟩
    obtain ⟨A6, n6, c6, rfl, -⟩ := id hr4
    have hdl' := hdl.step hpi hcan
    rw [← htk] at hdl'
    conv => whnf
    repeat ((first | refine zT ?_ | refine zF ?_ | refine zL hX hL ?_ | refine zB hX hL ?_ | (refine zS hX hL ?_; clear hL; intro w hL) | refine zI ?_ | refine zG hX ?_ | refine zO ?_); conv => whnf)
    refine ⟨(j + 1, A6, n6, c6), ⟨by simp only; omega, m4, r4, hm1.trans (hm12.trans (hm23.trans hm34)), hr4, hdl', hL⟩, by first | omega | (simp only; omega) | (simp only [List.length_cons, List.length_append]; omega), ?_, ?_⟩
    · repeat (first | exact trivial | (refine And.intro (by (conv => lhs; whnf) <;> (conv => rhs; whnf) <;> (first | rfl)) ?_))
    · repeat (first | exact trivial | (refine And.intro (by (conv => lhs; whnf) <;> (conv => rhs; whnf) <;> (first | rfl)) ?_))
end Go.Proofs.Ytnpgllgmcdhmcaa.fo
