/- Formulas: True, False, Holds of nothing; awake, walked. Conditions: none. -/
import Derived.Test.YtnpgllgmcdhmcaaFoConcat

namespace Go.Proofs.Ytnpgllgmcdhmcaa.fo
open Go Go.Ev Go.Proofs

theorem true_fn (m : Mem) : Fn0 Try.prog 17 [] m fun m' u => FmV m' u [[]] := by
  refine Fn.enter (N := 3) hX Try.func17 rfl rfl (by show _ ≤ _; simp) (fun w0 hL => ?_)
  conv => whnf
  conv => whnf
  repeat ((first | refine zT ?_ | refine zF ?_ | refine zL hX hL ?_ | refine zB hX hL ?_ | (refine zS hX hL ?_; clear hL; intro w hL) | refine zI ?_ | refine zG hX ?_ | refine zO ?_); conv => whnf)
  refine NewReq.mk hL ?_
  clear hL
  intro b1 w hL
  conv => whnf
  refine NewReq.mk hL ?_
  clear hL
  intro b2 w hL
  conv => whnf
  replace hL : Ev.Loc m [] w0 m ([(b2, .cells (toArr [.slice (some ⟨b1, 0, none⟩) 0 0]) 34 (0, 0))] ++ [(b1, .cells (toArr []) 3 (0, 0))]) w := hL
  have hs : SlI m .i64 (.slice (some ⟨b1, 0, none⟩) 0 0) [] := ⟨_, _, _, rfl, rfl, Nat.le_refl _, Nat.zero_le _, fun i x hx => by cases hx⟩
  obtain ⟨m1, hL1, hle1, hf1⟩ := fm_freeze (f := [[]]) (OwnS.full (n := 1) (by decide) rfl) hL rfl (by
    intro i p hp
    cases i with
    | zero => cases hp; exact ⟨_, rfl, hs⟩
    | succ i => cases hp)
  conv => whnf
  repeat ((first | refine zT ?_ | refine zF ?_ | refine zL hX hL ?_ | refine zB hX hL ?_ | (refine zS hX hL ?_; clear hL; intro w hL) | refine zI ?_ | refine zG hX ?_ | refine zO ?_); conv => whnf)
  exact RetReq.mk (hL1.sublist (List.nil_sublist _)) ⟨rfl, hf1⟩
theorem atom_fn (m : Mem) : Fn0 Try.prog 18 [.int .i64 3] m fun _ u => ∃ A c, u = .slice A 1 c := by
  refine Fn.enter (N := 8) hX Try.func18 rfl rfl (by show _ ≤ _; simp) (fun w0 hL => ?_)
  conv => whnf
  conv => whnf
  repeat ((first | refine zT ?_ | refine zF ?_ | refine zL hX hL ?_ | refine zB hX hL ?_ | (refine zS hX hL ?_; clear hL; intro w hL) | refine zI ?_ | refine zG hX ?_ | refine zO ?_); conv => whnf)
  refine NewReq.mk hL ?_
  clear hL
  intro b1 w hL
  conv => whnf
  refine NewReq.mk hL ?_
  clear hL
  intro b2 w hL
  conv => whnf
  conv => whnf
  repeat ((first | refine zT ?_ | refine zF ?_ | refine zL hX hL ?_ | refine zB hX hL ?_ | (refine zS hX hL ?_; clear hL; intro w hL) | refine zI ?_ | refine zG hX ?_ | refine zO ?_); conv => whnf)
  exact RetReq.mk (hL.sublist (List.nil_sublist _)) ⟨rfl, _, _, rfl⟩
theorem false_fn (m : Mem) : FnV Try.prog 19 [] m (.slice none 0 0) := by
  refine Fn.enter (N := 1) hX Try.func19 rfl rfl (by show _ ≤ _; simp) (fun w0 hL => ?_)
  conv => whnf
  conv => whnf
  repeat ((first | refine zT ?_ | refine zF ?_ | refine zL hX hL ?_ | refine zB hX hL ?_ | (refine zS hX hL ?_; clear hL; intro w hL) | refine zI ?_ | refine zG hX ?_ | refine zO ?_); conv => whnf)
  exact RetReq.mk hL ⟨rfl, rfl⟩
theorem index0_fn (m : Mem) (A : Option Addr) (c : Nat) (b : Option Addr) : FnV Try.prog 49 [.slice A 0 c, .func (.func 38) #[] #[.pointer b]] m (.int .i64 (-1)) := by
  refine Fn.enter (N := 19) hX Try.func49 rfl rfl (by show _ ≤ _; simp) (fun w0 hL => ?_)
  conv => whnf
  conv => whnf
  repeat ((first | refine zT ?_ | refine zF ?_ | refine zL hX hL ?_ | refine zB hX hL ?_ | (refine zS hX hL ?_; clear hL; intro w hL) | refine zI ?_ | refine zG hX ?_ | refine zO ?_); conv => whnf)
  refine LoopReq.inv hX (fun j : Nat => [(8, .int .i64 j)]) [0, 1, 7]
    (fun j w => j = 0 ∧ Ev.Loc m [] w0 m [] w) (fun j => 0 - j) 0 ⟨rfl, hL⟩ ⟨rfl, trivial⟩ ?_
  clear hL
  rintro j w g ⟨rfl, hL⟩
  conv => whnf
  repeat ((first | refine zT ?_ | refine zF ?_ | refine zL hX hL ?_ | refine zB hX hL ?_ | (refine zS hX hL ?_; clear hL; intro w hL) | refine zI ?_ | refine zG hX ?_ | refine zO ?_); conv => whnf)
  exact RetReq.int hL rfl
theorem cont0_fn (m : Mem) (A : Option Addr) (c : Nat) (b : Option Addr) : FnV Try.prog 37 [.slice A 0 c, .func (.func 38) #[] #[.pointer b]] m (.bool false) := by
  refine Fn.enter (N := 9) hX Try.func37 rfl rfl (by show _ ≤ _; simp) (fun w0 hL => ?_)
  conv => whnf
  conv => whnf
  repeat ((first | refine zT ?_ | refine zF ?_ | refine zL hX hL ?_ | refine zB hX hL ?_ | (refine zS hX hL ?_; clear hL; intro w hL) | refine zI ?_ | refine zG hX ?_ | refine zO ?_); conv => whnf)
  refine CallReq.val (index0_fn m _ _ _) hL ?_
  clear hL
  intro w hL
  conv => whnf
  repeat ((first | refine zT ?_ | refine zF ?_ | refine zL hX hL ?_ | refine zB hX hL ?_ | (refine zS hX hL ?_; clear hL; intro w hL) | refine zI ?_ | refine zG hX ?_ | refine zO ?_); conv => whnf)
  exact RetReq.bool hL rfl
theorem holds1_fn (m : Mem) (A : Option Addr) (c : Nat) (b : Option Addr) : FnV Try.prog 36 [.slice A 0 c, .pointer b] m (.bool true) := by
  refine Fn.enter (N := 8) hX Try.func36 rfl rfl (by show _ ≤ _; simp) (fun w0 hL => ?_)
  conv => whnf
  conv => whnf
  repeat ((first | refine zT ?_ | refine zF ?_ | refine zL hX hL ?_ | refine zB hX hL ?_ | (refine zS hX hL ?_; clear hL; intro w hL) | refine zI ?_ | refine zG hX ?_ | refine zO ?_); conv => whnf)
  refine CallReq.val (cont0_fn m _ _ _) hL ?_
  clear hL
  intro w hL
  conv => whnf
  repeat ((first | refine zT ?_ | refine zF ?_ | refine zL hX hL ?_ | refine zB hX hL ?_ | (refine zS hX hL ?_; clear hL; intro w hL) | refine zI ?_ | refine zG hX ?_ | refine zO ?_); conv => whnf)
  exact RetReq.bool hL rfl
theorem indexH_fn (m : Mem) (v : Value) (b : Bool) (a : Option Addr) (h : FmV m v (if b then [[]] else [])) : Fn0 Try.prog 43 [v, .func (.func 36) #[] #[.pointer a]] m fun _ u => u = .int .i64 (if b then 0 else -1) := by
  have h' := h
  obtain ⟨A, n, c, rfl, hn, hc, hm, -⟩ := h
  refine Fn.enter (N := 19) hX Try.func43 rfl rfl (by show _ ≤ _; simp) (fun w0 hL => ?_)
  conv => whnf
  conv => whnf
  repeat ((first | refine zT ?_ | refine zF ?_ | refine zL hX hL ?_ | refine zB hX hL ?_ | (refine zS hX hL ?_; clear hL; intro w hL) | refine zI ?_ | refine zG hX ?_ | refine zO ?_); conv => whnf)
  refine LoopReq.inv hX (fun j : Nat => [(8, .int .i64 j)]) [0, 1, 7]
    (fun j w => j = 0 ∧ Ev.Loc m [] w0 m [] w) (fun j => 0 - j) 0 ⟨rfl, hL⟩ ⟨rfl, trivial⟩ ?_
  clear hL
  rintro j w g ⟨rfl, hL⟩
  cases b with
  | false =>
    have hn0 : n = 0 := hn
    subst hn0
    conv => whnf
    repeat ((first | refine zT ?_ | refine zF ?_ | refine zL hX hL ?_ | refine zB hX hL ?_ | (refine zS hX hL ?_; clear hL; intro w hL) | refine zI ?_ | refine zG hX ?_ | refine zO ?_); conv => whnf)
    exact RetReq.mk hL ⟨rfl, rfl⟩
  | true =>
    have hn0 : n = 1 := hn
    subst hn0
    obtain ⟨a1, A3, n3, c3, rfl, hx1, hp1⟩ := h'.at_ (i := 0) (by simp)
    have hn3 : n3 = 0 := hp1.len.1
    subst hn3
    conv => whnf
    repeat ((first | refine Idx2Req.mk 0 a1 rfl (by omega) rfl ?_ | refine LdReq.one hX rfl rfl hL hx1 ?_ | refine zT ?_ | refine zF ?_ | refine zL hX hL ?_ | refine zB hX hL ?_ | (refine zS hX hL ?_; clear hL; intro w hL) | refine zI ?_ | refine zG hX ?_ | refine zO ?_); conv => whnf)
    refine CallReq.val (holds1_fn m _ _ _) hL ?_
    clear hL
    intro w hL
    conv => whnf
    repeat ((first | refine zT ?_ | refine zF ?_ | refine zL hX hL ?_ | refine zB hX hL ?_ | (refine zS hX hL ?_; clear hL; intro w hL) | refine zI ?_ | refine zG hX ?_ | refine zO ?_); conv => whnf)
    exact RetReq.mk hL ⟨rfl, rfl⟩
theorem contH_fn (m : Mem) (v : Value) (b : Bool) (a : Option Addr) (h : FmV m v (if b then [[]] else [])) : FnV Try.prog 24 [v, .func (.func 36) #[] #[.pointer a]] m (.bool b) := by
  have h' := h
  obtain ⟨A, n, c, rfl, hn, hc, hm, -⟩ := h
  refine Fn.enter (N := 9) hX Try.func24 rfl rfl (by show _ ≤ _; simp) (fun w0 hL => ?_)
  conv => whnf
  conv => whnf
  repeat ((first | refine zT ?_ | refine zF ?_ | refine zL hX hL ?_ | refine zB hX hL ?_ | (refine zS hX hL ?_; clear hL; intro w hL) | refine zI ?_ | refine zG hX ?_ | refine zO ?_); conv => whnf)
  refine CallReq.pure (indexH_fn m _ b a h') hL ?_
  clear hL
  rintro u m' w hL hle rfl
  replace hL := hL.weaken hle (Mem.Le.refl _)
  cases b
  · conv => whnf
    repeat ((first | refine zT ?_ | refine zF ?_ | refine zL hX hL ?_ | refine zB hX hL ?_ | (refine zS hX hL ?_; clear hL; intro w hL) | refine zI ?_ | refine zG hX ?_ | refine zO ?_); conv => whnf)
    exact RetReq.bool hL rfl
  · conv => whnf
    repeat ((first | refine zT ?_ | refine zF ?_ | refine zL hX hL ?_ | refine zB hX hL ?_ | (refine zS hX hL ?_; clear hL; intro w hL) | refine zI ?_ | refine zG hX ?_ | refine zO ?_); conv => whnf)
    exact RetReq.bool hL rfl
theorem holds_fn (m : Mem) (v : Value) (b : Bool) (h : FmV m v (if b then [[]] else [])) : FnV Try.prog 16 [v, .slice none 0 0] m (.bool b) := by
  have h' := h
  obtain ⟨A, n, c, rfl, hn, hc, hm, -⟩ := h
  refine Fn.enter (N := 8) hX Try.func16 rfl rfl (by show _ ≤ _; simp) (fun w0 hL => ?_)
  conv => whnf
  refine NewReq.mk hL ?_
  clear hL
  intro b3 w hL
  conv => whnf
  conv => whnf
  repeat ((first | refine zT ?_ | refine zF ?_ | refine zL hX hL ?_ | refine zB hX hL ?_ | (refine zS hX hL ?_; clear hL; intro w hL) | refine zI ?_ | refine zG hX ?_ | refine zO ?_); conv => whnf)
  refine CallReq.val (contH_fn m _ b _ h') hL ?_
  clear hL
  intro w hL
  conv => whnf
  repeat ((first | refine zT ?_ | refine zF ?_ | refine zL hX hL ?_ | refine zB hX hL ?_ | (refine zS hX hL ?_; clear hL; intro w hL) | refine zI ?_ | refine zG hX ?_ | refine zO ?_); conv => whnf)
  exact RetReq.bool (hL.sublist (List.nil_sublist _)) rfl
theorem awake_fn (m : Mem) : FnV Try.prog 5 [] m (.bool true) := by
  refine Fn.enter (N := 13) hX Try.func5 rfl rfl (by show _ ≤ _; simp) (fun w0 hL => ?_)
  conv => whnf
  conv => whnf
  repeat ((first | refine zT ?_ | refine zF ?_ | refine zL hX hL ?_ | refine zB hX hL ?_ | (refine zS hX hL ?_; clear hL; intro w hL) | refine zI ?_ | refine zG hX ?_ | refine zO ?_); conv => whnf)
  refine CallReq.pure (true_fn m) hL ?_
  clear hL
  rintro u m1 w hL hle1 hf
  have hf' := hf
  obtain ⟨A, n, c, rfl, hn, -⟩ := hf
  conv => whnf
  repeat ((first | refine zT ?_ | refine zF ?_ | refine zL hX hL ?_ | refine zB hX hL ?_ | (refine zS hX hL ?_; clear hL; intro w hL) | refine zI ?_ | refine zG hX ?_ | refine zO ?_); conv => whnf)
  refine CallReq.val (holds_fn m1 _ true hf') hL ?_
  clear hL
  intro w hL
  conv => whnf
  repeat ((first | refine zT ?_ | refine zF ?_ | refine zL hX hL ?_ | refine zB hX hL ?_ | (refine zS hX hL ?_; clear hL; intro w hL) | refine zI ?_ | refine zG hX ?_ | refine zO ?_); conv => whnf)
  refine CallReq.pure (atom_fn m1) hL ?_
  clear hL
  rintro u m2 w hL hle2 ⟨A, c, rfl⟩
  conv => whnf
  repeat ((first | refine zT ?_ | refine zF ?_ | refine zL hX hL ?_ | refine zB hX hL ?_ | (refine zS hX hL ?_; clear hL; intro w hL) | refine zI ?_ | refine zG hX ?_ | refine zO ?_); conv => whnf)
  refine CallReq.val (false_fn m2) hL ?_
  clear hL
  intro w hL
  conv => whnf
  repeat ((first | refine zT ?_ | refine zF ?_ | refine zL hX hL ?_ | refine zB hX hL ?_ | (refine zS hX hL ?_; clear hL; intro w hL) | refine zI ?_ | refine zG hX ?_ | refine zO ?_); conv => whnf)
  refine CallReq.val (holds_fn m2 _ false (Sl.nil _ _ _)) hL ?_
  clear hL
  intro w hL
  conv => whnf
  repeat ((first | refine zT ?_ | refine zF ?_ | refine zL hX hL ?_ | refine zB hX hL ?_ | (refine zS hX hL ?_; clear hL; intro w hL) | refine zI ?_ | refine zG hX ?_ | refine zO ?_); conv => whnf)
  exact RetReq.bool (hL.weaken (hle1.trans hle2) (Mem.Le.refl _)) rfl
end Go.Proofs.Ytnpgllgmcdhmcaa.fo
