/- An arena's nodes, in plain Lean, and how an arena lies. Conditions: none. -/
import Derived.Test.YtpdiljdklllmjaaGreatMp
import Derived.Test.YtpdiljdklllmjaaGreatTab

namespace Go.Proofs.YtpdiljdklllmjaaGreat.ar
open Go Go.Ev Go.Proofs

structure Nd where
  k : Int
  s0 : Int
  s1 : Int
  s2 : Int
  s3 : Int
  a : Int
  b : Int
  neg : Bool
  deriving DecidableEq
def ndC (x : Nd) : List Value := [.int .i64 x.k, .int .u64 x.s0, .int .u64 x.s1, .int .u64 x.s2, .int .u64 x.s3, .int .i64 x.a, .int .i64 x.b, .bool x.neg]
def nd0 : Nd := ⟨0, 0, 0, 0, 0, 0, 0, false⟩
theorem ndC_inj {x y : Nd} (h : ndC x = ndC y) : x = y := by
  cases x; cases y; simp [ndC] at h; simp [h]
theorem ndC_len (x : Nd) : (ndC x).length = 8 := rfl
def i64 (z : Int) : Prop := -9223372036854775808 ≤ z ∧ z ≤ 9223372036854775807
def u64 (z : Int) : Prop := 0 ≤ z ∧ z ≤ 18446744073709551615
structure InN (x : Nd) : Prop where
  k : i64 x.k
  s0 : u64 x.s0
  s1 : u64 x.s1
  s2 : u64 x.s2
  s3 : u64 x.s3
  a : i64 x.a
  b : i64 x.b
/-- May a node be put behind so many? -/
def rightN (x : Nd) (n : Nat) : Bool :=
  if x.k = 0 ∨ x.k = 1 then decide (⟨x.k, 0, 0, 0, 0, 0, 0, false⟩ = x)
  else if x.k = 2 then decide (⟨x.k, x.s0, x.s1, x.s2, x.s3, 0, 0, false⟩ = x)
  else if x.k = 3 ∨ x.k = 4 ∨ x.k = 5 then decide ((0 ≤ x.a ∧ x.a < n) ∧ (0 ≤ x.b ∧ x.b < n)) && decide (⟨x.k, 0, 0, 0, 0, x.a, x.b, false⟩ = x)
  else if x.k = 6 ∨ x.k = 7 then decide (0 ≤ x.a ∧ x.a < n) && decide (⟨x.k, 0, 0, 0, 0, x.a, 0, false⟩ = x)
  else if x.k = 8 then decide (0 ≤ x.a ∧ x.a < 4) && decide (⟨x.k, 0, 0, 0, 0, x.a, 0, x.neg⟩ = x)
  else false
/-- What is known: each node's number. -/
def ndW : List Nd → Nat → List (Value × Value)
  | [], _ => []
  | x :: l, i => (.agg (toArr (ndC x)), .int .i64 i) :: ndW l (i + 1)
def arO (sl : Value) (mb : Nat) : Obj := .cells (toArr [sl, .map (some mb)]) 58 (0, 0)

theorem there_fn (m : Mem) (b2 ab mb n c : Nat) (A : Option Addr) (id : Int) :
    FnL Tryz.prog 85 [.int .i64 id, .pointer (some ⟨b2, 0, none⟩)] m [(b2, .cells (toArr [.pointer (some ⟨ab, 0, none⟩)]) 38 (0, 0)), (ab, arO (.slice A n c) mb)] (.bool (decide (0 ≤ id ∧ id < n))) := by
  refine Fn.enter (N := 15) hX Tryz.func85 rfl rfl (by show _ ≤ _; simp) (fun w0 hL => ?_)
  conv => whnf
  generalize keys [(b2, Obj.cells (toArr [.pointer (some ⟨ab, 0, none⟩)]) 38 (0, 0)), (ab, arO (.slice A n c) mb)] = S0 at hL ⊢
  conv => whnf
  repeat ((first | refine zT ?_ | refine zF ?_ | refine zL hX hL ?_ | refine zB hX hL ?_ | (refine zS hX hL ?_; clear hL; intro w hL) | refine zI ?_ | refine zG hX ?_ | refine zO ?_); conv => whnf)
  by_cases h0 : 0 ≤ id
  · conv => whnf
    repeat ((first | refine BrReq.yes (by omega) ?_ | refine zT ?_ | refine zF ?_ | refine zL hX hL ?_ | refine zB hX hL ?_ | (refine zS hX hL ?_; clear hL; intro w hL) | refine zI ?_ | refine zG hX ?_ | refine zO ?_); conv => whnf)
    exact RetReq.mk hL ⟨rfl, rfl, congrArg Value.bool (decide_eq_decide.2 (by omega))⟩
  · conv => whnf
    repeat ((first | refine BrReq.no (by omega) ?_ | refine zT ?_ | refine zF ?_ | refine zL hX hL ?_ | refine zB hX hL ?_ | (refine zS hX hL ?_; clear hL; intro w hL) | refine zI ?_ | refine zG hX ?_ | refine zO ?_); conv => whnf)
    exact RetReq.mk hL ⟨rfl, rfl, congrArg Value.bool (decide_eq_false (by omega)).symm⟩

theorem eq_nd (x y : Nd) : eqB X 9 61 (ndC x) (ndC y) = some (decide (x = y)) := by
  obtain ⟨k, s0, s1, s2, s3, a, b, neg⟩ := x
  obtain ⟨k', s0', s1', s2', s3', a', b', neg'⟩ := y
  conv => lhs; whnf
  refine congrArg some ?_
  rw [Bool.eq_iff_iff]
  simp only [Bool.and_eq_true, decide_eq_true_eq, Bool.and_true, beq_iff_eq, Nd.mk.injEq]
  constructor
  · rintro ⟨h1, ⟨h2, h3, h4, h5⟩, h6, h7, h8⟩; exact ⟨h1, h2, h3, h4, h5, h6, h7, h8⟩
  · rintro ⟨h1, h2, h3, h4, h5, h6, h7, h8⟩; exact ⟨h1, ⟨h2, h3, h4, h5⟩, h6, h7, h8⟩

set_option maxHeartbeats 2000000 in
theorem right_fn (m : Mem) (ab mb n c : Nat) (A : Option Addr) (x : Nd) :
    FnL Tryz.prog 79 [.pointer (some ⟨ab, 0, none⟩), .agg (toArr (ndC x))] m [(ab, arO (.slice A n c) mb)] (.bool (rightN x n)) := by
  obtain ⟨k, s0, s1, s2, s3, a, b, neg⟩ := x
  refine Fn.enter (N := 80) hX Tryz.func79 rfl rfl (by show _ ≤ _; simp) (fun w0 hL => ?_)
  conv => whnf
  generalize keys [(ab, arO (.slice A n c) mb)] = S0 at hL ⊢
  refine NewReq.mk hL ?_
  clear hL
  intro b2 w hL
  conv => whnf
  refine NewReq.mk hL ?_
  clear hL
  intro b3 w hL
  conv => whnf
  conv => whnf
  repeat ((first | refine zT ?_ | refine zF ?_ | refine zL hX hL ?_ | refine zB hX hL ?_ | (refine zS hX hL ?_; clear hL; intro w hL) | refine zI ?_ | refine zG hX ?_ | refine zO ?_); conv => whnf)
  refine NewReq.mk hL ?_
  clear hL
  intro b6 w hL
  conv => whnf
  conv => whnf
  repeat ((first | refine zT ?_ | refine zF ?_ | refine zL hX hL ?_ | refine zB hX hL ?_ | (refine zS hX hL ?_; clear hL; intro w hL) | refine zI ?_ | refine zG hX ?_ | refine zO ?_); conv => whnf)
  have hL := Loc.back (L1 := [_, _]) (L2 := [_, _]) hL
  by_cases k0 : k = 0
  · subst k0
    replace hL : Ev.Loc m S0 w0 m [(b2, .cells (toArr [.pointer (some ⟨ab, 0, none⟩)]) 38 (0, 0)), (ab, arO (.slice A n c) mb), (b6, .cells (toArr (ndC ⟨0, s0, s1, s2, s3, a, b, neg⟩)) 61 (0, 0)), (b3, .cells (toArr (ndC ⟨0, s0, s1, s2, s3, a, b, neg⟩)) 61 (0, 0))] w := hL
    conv => whnf
    repeat ((first | refine UGenReq.eqA hX (xs := ndC ⟨0, 0, 0, 0, 0, 0, 0, false⟩) (ys := ndC ⟨0, s0, s1, s2, s3, a, b, neg⟩) rfl rfl rfl Tryz.eqGuardType61 rfl rfl (eq_nd _ _) ?_ | refine zT ?_ | refine zF ?_ | refine zL hX hL ?_ | refine zB hX hL ?_ | (refine zS hX hL ?_; clear hL; intro w hL) | refine zI ?_ | refine zG hX ?_ | refine zO ?_); conv => whnf)
    refine RetReq.mk (hL.sublist (.cons _ (.cons_cons _ (List.nil_sublist _)))) ⟨rfl, rfl, congrArg Value.bool ?_⟩
    rfl
  by_cases k1 : k = 1
  · subst k1
    replace hL : Ev.Loc m S0 w0 m [(b2, .cells (toArr [.pointer (some ⟨ab, 0, none⟩)]) 38 (0, 0)), (ab, arO (.slice A n c) mb), (b6, .cells (toArr (ndC ⟨1, s0, s1, s2, s3, a, b, neg⟩)) 61 (0, 0)), (b3, .cells (toArr (ndC ⟨1, s0, s1, s2, s3, a, b, neg⟩)) 61 (0, 0))] w := hL
    conv => whnf
    repeat ((first | refine UGenReq.eqA hX (xs := ndC ⟨1, 0, 0, 0, 0, 0, 0, false⟩) (ys := ndC ⟨1, s0, s1, s2, s3, a, b, neg⟩) rfl rfl rfl Tryz.eqGuardType61 rfl rfl (eq_nd _ _) ?_ | refine zT ?_ | refine zF ?_ | refine zL hX hL ?_ | refine zB hX hL ?_ | (refine zS hX hL ?_; clear hL; intro w hL) | refine zI ?_ | refine zG hX ?_ | refine zO ?_); conv => whnf)
    refine RetReq.mk (hL.sublist (.cons _ (.cons_cons _ (List.nil_sublist _)))) ⟨rfl, rfl, congrArg Value.bool ?_⟩
    rfl
  by_cases k2 : k = 2
  · subst k2
    replace hL : Ev.Loc m S0 w0 m [(b2, .cells (toArr [.pointer (some ⟨ab, 0, none⟩)]) 38 (0, 0)), (ab, arO (.slice A n c) mb), (b6, .cells (toArr (ndC ⟨2, s0, s1, s2, s3, a, b, neg⟩)) 61 (0, 0)), (b3, .cells (toArr (ndC ⟨2, s0, s1, s2, s3, a, b, neg⟩)) 61 (0, 0))] w := hL
    conv => whnf
    repeat ((first | refine UGenReq.eqA hX (xs := ndC ⟨2, s0, s1, s2, s3, 0, 0, false⟩) (ys := ndC ⟨2, s0, s1, s2, s3, a, b, neg⟩) rfl rfl rfl Tryz.eqGuardType61 rfl rfl (eq_nd _ _) ?_ | refine zT ?_ | refine zF ?_ | refine zL hX hL ?_ | refine zB hX hL ?_ | (refine zS hX hL ?_; clear hL; intro w hL) | refine zI ?_ | refine zG hX ?_ | refine zO ?_); conv => whnf)
    refine RetReq.mk (hL.sublist (.cons _ (.cons_cons _ (List.nil_sublist _)))) ⟨rfl, rfl, congrArg Value.bool ?_⟩
    rfl
  by_cases k3 : k = 3
  · subst k3
    replace hL : Ev.Loc m S0 w0 m [(b2, .cells (toArr [.pointer (some ⟨ab, 0, none⟩)]) 38 (0, 0)), (ab, arO (.slice A n c) mb), (b6, .cells (toArr (ndC ⟨3, s0, s1, s2, s3, a, b, neg⟩)) 61 (0, 0)), (b3, .cells (toArr (ndC ⟨3, s0, s1, s2, s3, a, b, neg⟩)) 61 (0, 0))] w := hL
    conv => whnf
    repeat ((first | refine zT ?_ | refine zF ?_ | refine zL hX hL ?_ | refine zB hX hL ?_ | (refine zS hX hL ?_; clear hL; intro w hL) | refine zI ?_ | refine zG hX ?_ | refine zO ?_); conv => whnf)
    replace hL : Ev.Loc m S0 w0 m ([(b2, .cells (toArr [.pointer (some ⟨ab, 0, none⟩)]) 38 (0, 0)), (ab, arO (.slice A n c) mb)] ++ [(b6, .cells (toArr (ndC ⟨3, 0, 0, 0, 0, a, b, false⟩)) 61 (0, 0)), (b3, .cells (toArr (ndC ⟨3, s0, s1, s2, s3, a, b, neg⟩)) 61 (0, 0))]) w := hL
    refine CallReq.li (there_fn m b2 ab mb n c A a) hL ?_
    clear hL
    intro w hL
    replace hL : Ev.Loc m S0 w0 m [(b2, .cells (toArr [.pointer (some ⟨ab, 0, none⟩)]) 38 (0, 0)), (ab, arO (.slice A n c) mb), (b6, .cells (toArr (ndC ⟨3, 0, 0, 0, 0, a, b, false⟩)) 61 (0, 0)), (b3, .cells (toArr (ndC ⟨3, s0, s1, s2, s3, a, b, neg⟩)) 61 (0, 0))] w := hL
    by_cases ha : 0 ≤ a ∧ a < n
    · rw [decide_eq_true ha]
      conv => whnf
      repeat ((first | refine zT ?_ | refine zF ?_ | refine zL hX hL ?_ | refine zB hX hL ?_ | (refine zS hX hL ?_; clear hL; intro w hL) | refine zI ?_ | refine zG hX ?_ | refine zO ?_); conv => whnf)
      replace hL : Ev.Loc m S0 w0 m ([(b2, .cells (toArr [.pointer (some ⟨ab, 0, none⟩)]) 38 (0, 0)), (ab, arO (.slice A n c) mb)] ++ [(b6, .cells (toArr (ndC ⟨3, 0, 0, 0, 0, a, b, false⟩)) 61 (0, 0)), (b3, .cells (toArr (ndC ⟨3, s0, s1, s2, s3, a, b, neg⟩)) 61 (0, 0))]) w := hL
      refine CallReq.li (there_fn m b2 ab mb n c A b) hL ?_
      clear hL
      intro w hL
      replace hL : Ev.Loc m S0 w0 m [(b2, .cells (toArr [.pointer (some ⟨ab, 0, none⟩)]) 38 (0, 0)), (ab, arO (.slice A n c) mb), (b6, .cells (toArr (ndC ⟨3, 0, 0, 0, 0, a, b, false⟩)) 61 (0, 0)), (b3, .cells (toArr (ndC ⟨3, s0, s1, s2, s3, a, b, neg⟩)) 61 (0, 0))] w := hL
      by_cases hb : 0 ≤ b ∧ b < n
      · rw [decide_eq_true hb]
        conv => whnf
        repeat ((first | refine UGenReq.eqA hX (xs := ndC ⟨3, 0, 0, 0, 0, a, b, false⟩) (ys := ndC ⟨3, s0, s1, s2, s3, a, b, neg⟩) rfl rfl rfl Tryz.eqGuardType61 rfl rfl (eq_nd _ _) ?_ | refine zT ?_ | refine zF ?_ | refine zL hX hL ?_ | refine zB hX hL ?_ | (refine zS hX hL ?_; clear hL; intro w hL) | refine zI ?_ | refine zG hX ?_ | refine zO ?_); conv => whnf)
        refine RetReq.mk (hL.sublist (.cons _ (.cons_cons _ (List.nil_sublist _)))) ⟨rfl, rfl, congrArg Value.bool ?_⟩
        show _ = (decide ((0 ≤ a ∧ a < n) ∧ (0 ≤ b ∧ b < n)) && _)
        rw [decide_eq_true (show (0 ≤ a ∧ a < n) ∧ (0 ≤ b ∧ b < n) from ⟨ha, hb⟩)]; rfl
      · rw [decide_eq_false hb]
        conv => whnf
        repeat ((first | refine zT ?_ | refine zF ?_ | refine zL hX hL ?_ | refine zB hX hL ?_ | (refine zS hX hL ?_; clear hL; intro w hL) | refine zI ?_ | refine zG hX ?_ | refine zO ?_); conv => whnf)
        refine RetReq.mk (hL.sublist (.cons _ (.cons_cons _ (List.nil_sublist _)))) ⟨rfl, rfl, congrArg Value.bool ?_⟩
        show _ = (decide ((0 ≤ a ∧ a < n) ∧ (0 ≤ b ∧ b < n)) && _)
        rw [decide_eq_false (fun h : (0 ≤ a ∧ a < n) ∧ (0 ≤ b ∧ b < n) => hb h.2)]; rfl
    · rw [decide_eq_false ha]
      conv => whnf
      repeat ((first | refine zT ?_ | refine zF ?_ | refine zL hX hL ?_ | refine zB hX hL ?_ | (refine zS hX hL ?_; clear hL; intro w hL) | refine zI ?_ | refine zG hX ?_ | refine zO ?_); conv => whnf)
      refine RetReq.mk (hL.sublist (.cons _ (.cons_cons _ (List.nil_sublist _)))) ⟨rfl, rfl, congrArg Value.bool ?_⟩
      show _ = (decide ((0 ≤ a ∧ a < n) ∧ (0 ≤ b ∧ b < n)) && _)
      rw [decide_eq_false (fun h : (0 ≤ a ∧ a < n) ∧ (0 ≤ b ∧ b < n) => ha h.1)]; rfl
  by_cases k4 : k = 4
  · subst k4
    replace hL : Ev.Loc m S0 w0 m [(b2, .cells (toArr [.pointer (some ⟨ab, 0, none⟩)]) 38 (0, 0)), (ab, arO (.slice A n c) mb), (b6, .cells (toArr (ndC ⟨4, s0, s1, s2, s3, a, b, neg⟩)) 61 (0, 0)), (b3, .cells (toArr (ndC ⟨4, s0, s1, s2, s3, a, b, neg⟩)) 61 (0, 0))] w := hL
    conv => whnf
    repeat ((first | refine zT ?_ | refine zF ?_ | refine zL hX hL ?_ | refine zB hX hL ?_ | (refine zS hX hL ?_; clear hL; intro w hL) | refine zI ?_ | refine zG hX ?_ | refine zO ?_); conv => whnf)
    replace hL : Ev.Loc m S0 w0 m ([(b2, .cells (toArr [.pointer (some ⟨ab, 0, none⟩)]) 38 (0, 0)), (ab, arO (.slice A n c) mb)] ++ [(b6, .cells (toArr (ndC ⟨4, 0, 0, 0, 0, a, b, false⟩)) 61 (0, 0)), (b3, .cells (toArr (ndC ⟨4, s0, s1, s2, s3, a, b, neg⟩)) 61 (0, 0))]) w := hL
    refine CallReq.li (there_fn m b2 ab mb n c A a) hL ?_
    clear hL
    intro w hL
    replace hL : Ev.Loc m S0 w0 m [(b2, .cells (toArr [.pointer (some ⟨ab, 0, none⟩)]) 38 (0, 0)), (ab, arO (.slice A n c) mb), (b6, .cells (toArr (ndC ⟨4, 0, 0, 0, 0, a, b, false⟩)) 61 (0, 0)), (b3, .cells (toArr (ndC ⟨4, s0, s1, s2, s3, a, b, neg⟩)) 61 (0, 0))] w := hL
    by_cases ha : 0 ≤ a ∧ a < n
    · rw [decide_eq_true ha]
      conv => whnf
      repeat ((first | refine zT ?_ | refine zF ?_ | refine zL hX hL ?_ | refine zB hX hL ?_ | (refine zS hX hL ?_; clear hL; intro w hL) | refine zI ?_ | refine zG hX ?_ | refine zO ?_); conv => whnf)
      replace hL : Ev.Loc m S0 w0 m ([(b2, .cells (toArr [.pointer (some ⟨ab, 0, none⟩)]) 38 (0, 0)), (ab, arO (.slice A n c) mb)] ++ [(b6, .cells (toArr (ndC ⟨4, 0, 0, 0, 0, a, b, false⟩)) 61 (0, 0)), (b3, .cells (toArr (ndC ⟨4, s0, s1, s2, s3, a, b, neg⟩)) 61 (0, 0))]) w := hL
      refine CallReq.li (there_fn m b2 ab mb n c A b) hL ?_
      clear hL
      intro w hL
      replace hL : Ev.Loc m S0 w0 m [(b2, .cells (toArr [.pointer (some ⟨ab, 0, none⟩)]) 38 (0, 0)), (ab, arO (.slice A n c) mb), (b6, .cells (toArr (ndC ⟨4, 0, 0, 0, 0, a, b, false⟩)) 61 (0, 0)), (b3, .cells (toArr (ndC ⟨4, s0, s1, s2, s3, a, b, neg⟩)) 61 (0, 0))] w := hL
      by_cases hb : 0 ≤ b ∧ b < n
      · rw [decide_eq_true hb]
        conv => whnf
        repeat ((first | refine UGenReq.eqA hX (xs := ndC ⟨4, 0, 0, 0, 0, a, b, false⟩) (ys := ndC ⟨4, s0, s1, s2, s3, a, b, neg⟩) rfl rfl rfl Tryz.eqGuardType61 rfl rfl (eq_nd _ _) ?_ | refine zT ?_ | refine zF ?_ | refine zL hX hL ?_ | refine zB hX hL ?_ | (refine zS hX hL ?_; clear hL; intro w hL) | refine zI ?_ | refine zG hX ?_ | refine zO ?_); conv => whnf)
        refine RetReq.mk (hL.sublist (.cons _ (.cons_cons _ (List.nil_sublist _)))) ⟨rfl, rfl, congrArg Value.bool ?_⟩
        show _ = (decide ((0 ≤ a ∧ a < n) ∧ (0 ≤ b ∧ b < n)) && _)
        rw [decide_eq_true (show (0 ≤ a ∧ a < n) ∧ (0 ≤ b ∧ b < n) from ⟨ha, hb⟩)]; rfl
      · rw [decide_eq_false hb]
        conv => whnf
        repeat ((first | refine zT ?_ | refine zF ?_ | refine zL hX hL ?_ | refine zB hX hL ?_ | (refine zS hX hL ?_; clear hL; intro w hL) | refine zI ?_ | refine zG hX ?_ | refine zO ?_); conv => whnf)
        refine RetReq.mk (hL.sublist (.cons _ (.cons_cons _ (List.nil_sublist _)))) ⟨rfl, rfl, congrArg Value.bool ?_⟩
        show _ = (decide ((0 ≤ a ∧ a < n) ∧ (0 ≤ b ∧ b < n)) && _)
        rw [decide_eq_false (fun h : (0 ≤ a ∧ a < n) ∧ (0 ≤ b ∧ b < n) => hb h.2)]; rfl
    · rw [decide_eq_false ha]
      conv => whnf
      repeat ((first | refine zT ?_ | refine zF ?_ | refine zL hX hL ?_ | refine zB hX hL ?_ | (refine zS hX hL ?_; clear hL; intro w hL) | refine zI ?_ | refine zG hX ?_ | refine zO ?_); conv => whnf)
      refine RetReq.mk (hL.sublist (.cons _ (.cons_cons _ (List.nil_sublist _)))) ⟨rfl, rfl, congrArg Value.bool ?_⟩
      show _ = (decide ((0 ≤ a ∧ a < n) ∧ (0 ≤ b ∧ b < n)) && _)
      rw [decide_eq_false (fun h : (0 ≤ a ∧ a < n) ∧ (0 ≤ b ∧ b < n) => ha h.1)]; rfl
  by_cases k5 : k = 5
  · subst k5
    replace hL : Ev.Loc m S0 w0 m [(b2, .cells (toArr [.pointer (some ⟨ab, 0, none⟩)]) 38 (0, 0)), (ab, arO (.slice A n c) mb), (b6, .cells (toArr (ndC ⟨5, s0, s1, s2, s3, a, b, neg⟩)) 61 (0, 0)), (b3, .cells (toArr (ndC ⟨5, s0, s1, s2, s3, a, b, neg⟩)) 61 (0, 0))] w := hL
    conv => whnf
    repeat ((first | refine zT ?_ | refine zF ?_ | refine zL hX hL ?_ | refine zB hX hL ?_ | (refine zS hX hL ?_; clear hL; intro w hL) | refine zI ?_ | refine zG hX ?_ | refine zO ?_); conv => whnf)
    replace hL : Ev.Loc m S0 w0 m ([(b2, .cells (toArr [.pointer (some ⟨ab, 0, none⟩)]) 38 (0, 0)), (ab, arO (.slice A n c) mb)] ++ [(b6, .cells (toArr (ndC ⟨5, 0, 0, 0, 0, a, b, false⟩)) 61 (0, 0)), (b3, .cells (toArr (ndC ⟨5, s0, s1, s2, s3, a, b, neg⟩)) 61 (0, 0))]) w := hL
    refine CallReq.li (there_fn m b2 ab mb n c A a) hL ?_
    clear hL
    intro w hL
    replace hL : Ev.Loc m S0 w0 m [(b2, .cells (toArr [.pointer (some ⟨ab, 0, none⟩)]) 38 (0, 0)), (ab, arO (.slice A n c) mb), (b6, .cells (toArr (ndC ⟨5, 0, 0, 0, 0, a, b, false⟩)) 61 (0, 0)), (b3, .cells (toArr (ndC ⟨5, s0, s1, s2, s3, a, b, neg⟩)) 61 (0, 0))] w := hL
    by_cases ha : 0 ≤ a ∧ a < n
    · rw [decide_eq_true ha]
      conv => whnf
      repeat ((first | refine zT ?_ | refine zF ?_ | refine zL hX hL ?_ | refine zB hX hL ?_ | (refine zS hX hL ?_; clear hL; intro w hL) | refine zI ?_ | refine zG hX ?_ | refine zO ?_); conv => whnf)
      replace hL : Ev.Loc m S0 w0 m ([(b2, .cells (toArr [.pointer (some ⟨ab, 0, none⟩)]) 38 (0, 0)), (ab, arO (.slice A n c) mb)] ++ [(b6, .cells (toArr (ndC ⟨5, 0, 0, 0, 0, a, b, false⟩)) 61 (0, 0)), (b3, .cells (toArr (ndC ⟨5, s0, s1, s2, s3, a, b, neg⟩)) 61 (0, 0))]) w := hL
      refine CallReq.li (there_fn m b2 ab mb n c A b) hL ?_
      clear hL
      intro w hL
      replace hL : Ev.Loc m S0 w0 m [(b2, .cells (toArr [.pointer (some ⟨ab, 0, none⟩)]) 38 (0, 0)), (ab, arO (.slice A n c) mb), (b6, .cells (toArr (ndC ⟨5, 0, 0, 0, 0, a, b, false⟩)) 61 (0, 0)), (b3, .cells (toArr (ndC ⟨5, s0, s1, s2, s3, a, b, neg⟩)) 61 (0, 0))] w := hL
      by_cases hb : 0 ≤ b ∧ b < n
      · rw [decide_eq_true hb]
        conv => whnf
        repeat ((first | refine UGenReq.eqA hX (xs := ndC ⟨5, 0, 0, 0, 0, a, b, false⟩) (ys := ndC ⟨5, s0, s1, s2, s3, a, b, neg⟩) rfl rfl rfl Tryz.eqGuardType61 rfl rfl (eq_nd _ _) ?_ | refine zT ?_ | refine zF ?_ | refine zL hX hL ?_ | refine zB hX hL ?_ | (refine zS hX hL ?_; clear hL; intro w hL) | refine zI ?_ | refine zG hX ?_ | refine zO ?_); conv => whnf)
        refine RetReq.mk (hL.sublist (.cons _ (.cons_cons _ (List.nil_sublist _)))) ⟨rfl, rfl, congrArg Value.bool ?_⟩
        show _ = (decide ((0 ≤ a ∧ a < n) ∧ (0 ≤ b ∧ b < n)) && _)
        rw [decide_eq_true (show (0 ≤ a ∧ a < n) ∧ (0 ≤ b ∧ b < n) from ⟨ha, hb⟩)]; rfl
      · rw [decide_eq_false hb]
        conv => whnf
        repeat ((first | refine zT ?_ | refine zF ?_ | refine zL hX hL ?_ | refine zB hX hL ?_ | (refine zS hX hL ?_; clear hL; intro w hL) | refine zI ?_ | refine zG hX ?_ | refine zO ?_); conv => whnf)
        refine RetReq.mk (hL.sublist (.cons _ (.cons_cons _ (List.nil_sublist _)))) ⟨rfl, rfl, congrArg Value.bool ?_⟩
        show _ = (decide ((0 ≤ a ∧ a < n) ∧ (0 ≤ b ∧ b < n)) && _)
        rw [decide_eq_false (fun h : (0 ≤ a ∧ a < n) ∧ (0 ≤ b ∧ b < n) => hb h.2)]; rfl
    · rw [decide_eq_false ha]
      conv => whnf
      repeat ((first | refine zT ?_ | refine zF ?_ | refine zL hX hL ?_ | refine zB hX hL ?_ | (refine zS hX hL ?_; clear hL; intro w hL) | refine zI ?_ | refine zG hX ?_ | refine zO ?_); conv => whnf)
      refine RetReq.mk (hL.sublist (.cons _ (.cons_cons _ (List.nil_sublist _)))) ⟨rfl, rfl, congrArg Value.bool ?_⟩
      show _ = (decide ((0 ≤ a ∧ a < n) ∧ (0 ≤ b ∧ b < n)) && _)
      rw [decide_eq_false (fun h : (0 ≤ a ∧ a < n) ∧ (0 ≤ b ∧ b < n) => ha h.1)]; rfl
  by_cases k6 : k = 6
  · subst k6
    replace hL : Ev.Loc m S0 w0 m [(b2, .cells (toArr [.pointer (some ⟨ab, 0, none⟩)]) 38 (0, 0)), (ab, arO (.slice A n c) mb), (b6, .cells (toArr (ndC ⟨6, s0, s1, s2, s3, a, b, neg⟩)) 61 (0, 0)), (b3, .cells (toArr (ndC ⟨6, s0, s1, s2, s3, a, b, neg⟩)) 61 (0, 0))] w := hL
    conv => whnf
    repeat ((first | refine zT ?_ | refine zF ?_ | refine zL hX hL ?_ | refine zB hX hL ?_ | (refine zS hX hL ?_; clear hL; intro w hL) | refine zI ?_ | refine zG hX ?_ | refine zO ?_); conv => whnf)
    replace hL : Ev.Loc m S0 w0 m ([(b2, .cells (toArr [.pointer (some ⟨ab, 0, none⟩)]) 38 (0, 0)), (ab, arO (.slice A n c) mb)] ++ [(b6, .cells (toArr (ndC ⟨6, 0, 0, 0, 0, a, 0, false⟩)) 61 (0, 0)), (b3, .cells (toArr (ndC ⟨6, s0, s1, s2, s3, a, b, neg⟩)) 61 (0, 0))]) w := hL
    refine CallReq.li (there_fn m b2 ab mb n c A a) hL ?_
    clear hL
    intro w hL
    replace hL : Ev.Loc m S0 w0 m [(b2, .cells (toArr [.pointer (some ⟨ab, 0, none⟩)]) 38 (0, 0)), (ab, arO (.slice A n c) mb), (b6, .cells (toArr (ndC ⟨6, 0, 0, 0, 0, a, 0, false⟩)) 61 (0, 0)), (b3, .cells (toArr (ndC ⟨6, s0, s1, s2, s3, a, b, neg⟩)) 61 (0, 0))] w := hL
    by_cases ha : 0 ≤ a ∧ a < n
    · rw [decide_eq_true ha]
      conv => whnf
      repeat ((first | refine UGenReq.eqA hX (xs := ndC ⟨6, 0, 0, 0, 0, a, 0, false⟩) (ys := ndC ⟨6, s0, s1, s2, s3, a, b, neg⟩) rfl rfl rfl Tryz.eqGuardType61 rfl rfl (eq_nd _ _) ?_ | refine zT ?_ | refine zF ?_ | refine zL hX hL ?_ | refine zB hX hL ?_ | (refine zS hX hL ?_; clear hL; intro w hL) | refine zI ?_ | refine zG hX ?_ | refine zO ?_); conv => whnf)
      refine RetReq.mk (hL.sublist (.cons _ (.cons_cons _ (List.nil_sublist _)))) ⟨rfl, rfl, congrArg Value.bool ?_⟩
      show _ = (decide (0 ≤ a ∧ a < n) && _)
      rw [decide_eq_true ha]; rfl
    · rw [decide_eq_false ha]
      conv => whnf
      repeat ((first | refine zT ?_ | refine zF ?_ | refine zL hX hL ?_ | refine zB hX hL ?_ | (refine zS hX hL ?_; clear hL; intro w hL) | refine zI ?_ | refine zG hX ?_ | refine zO ?_); conv => whnf)
      refine RetReq.mk (hL.sublist (.cons _ (.cons_cons _ (List.nil_sublist _)))) ⟨rfl, rfl, congrArg Value.bool ?_⟩
      show _ = (decide (0 ≤ a ∧ a < n) && _)
      rw [decide_eq_false ha]; rfl
  by_cases k7 : k = 7
  · subst k7
    replace hL : Ev.Loc m S0 w0 m [(b2, .cells (toArr [.pointer (some ⟨ab, 0, none⟩)]) 38 (0, 0)), (ab, arO (.slice A n c) mb), (b6, .cells (toArr (ndC ⟨7, s0, s1, s2, s3, a, b, neg⟩)) 61 (0, 0)), (b3, .cells (toArr (ndC ⟨7, s0, s1, s2, s3, a, b, neg⟩)) 61 (0, 0))] w := hL
    conv => whnf
    repeat ((first | refine zT ?_ | refine zF ?_ | refine zL hX hL ?_ | refine zB hX hL ?_ | (refine zS hX hL ?_; clear hL; intro w hL) | refine zI ?_ | refine zG hX ?_ | refine zO ?_); conv => whnf)
    replace hL : Ev.Loc m S0 w0 m ([(b2, .cells (toArr [.pointer (some ⟨ab, 0, none⟩)]) 38 (0, 0)), (ab, arO (.slice A n c) mb)] ++ [(b6, .cells (toArr (ndC ⟨7, 0, 0, 0, 0, a, 0, false⟩)) 61 (0, 0)), (b3, .cells (toArr (ndC ⟨7, s0, s1, s2, s3, a, b, neg⟩)) 61 (0, 0))]) w := hL
    refine CallReq.li (there_fn m b2 ab mb n c A a) hL ?_
    clear hL
    intro w hL
    replace hL : Ev.Loc m S0 w0 m [(b2, .cells (toArr [.pointer (some ⟨ab, 0, none⟩)]) 38 (0, 0)), (ab, arO (.slice A n c) mb), (b6, .cells (toArr (ndC ⟨7, 0, 0, 0, 0, a, 0, false⟩)) 61 (0, 0)), (b3, .cells (toArr (ndC ⟨7, s0, s1, s2, s3, a, b, neg⟩)) 61 (0, 0))] w := hL
    by_cases ha : 0 ≤ a ∧ a < n
    · rw [decide_eq_true ha]
      conv => whnf
      repeat ((first | refine UGenReq.eqA hX (xs := ndC ⟨7, 0, 0, 0, 0, a, 0, false⟩) (ys := ndC ⟨7, s0, s1, s2, s3, a, b, neg⟩) rfl rfl rfl Tryz.eqGuardType61 rfl rfl (eq_nd _ _) ?_ | refine zT ?_ | refine zF ?_ | refine zL hX hL ?_ | refine zB hX hL ?_ | (refine zS hX hL ?_; clear hL; intro w hL) | refine zI ?_ | refine zG hX ?_ | refine zO ?_); conv => whnf)
      refine RetReq.mk (hL.sublist (.cons _ (.cons_cons _ (List.nil_sublist _)))) ⟨rfl, rfl, congrArg Value.bool ?_⟩
      show _ = (decide (0 ≤ a ∧ a < n) && _)
      rw [decide_eq_true ha]; rfl
    · rw [decide_eq_false ha]
      conv => whnf
      repeat ((first | refine zT ?_ | refine zF ?_ | refine zL hX hL ?_ | refine zB hX hL ?_ | (refine zS hX hL ?_; clear hL; intro w hL) | refine zI ?_ | refine zG hX ?_ | refine zO ?_); conv => whnf)
      refine RetReq.mk (hL.sublist (.cons _ (.cons_cons _ (List.nil_sublist _)))) ⟨rfl, rfl, congrArg Value.bool ?_⟩
      show _ = (decide (0 ≤ a ∧ a < n) && _)
      rw [decide_eq_false ha]; rfl
  by_cases k8 : k = 8
  · subst k8
    replace hL : Ev.Loc m S0 w0 m [(b2, .cells (toArr [.pointer (some ⟨ab, 0, none⟩)]) 38 (0, 0)), (ab, arO (.slice A n c) mb), (b6, .cells (toArr (ndC ⟨8, s0, s1, s2, s3, a, b, neg⟩)) 61 (0, 0)), (b3, .cells (toArr (ndC ⟨8, s0, s1, s2, s3, a, b, neg⟩)) 61 (0, 0))] w := hL
    conv => whnf
    repeat ((first | refine zT ?_ | refine zF ?_ | refine zL hX hL ?_ | refine zB hX hL ?_ | (refine zS hX hL ?_; clear hL; intro w hL) | refine zI ?_ | refine zG hX ?_ | refine zO ?_); conv => whnf)
    by_cases ha : 0 ≤ a
    · by_cases ha4 : a < 4
      · conv => whnf
        repeat ((first | (refine BrReq.no (by simp only; omega) ?_) | refine zT ?_ | refine zF ?_ | refine zL hX hL ?_ | refine zB hX hL ?_ | (refine zS hX hL ?_; clear hL; intro w hL) | refine zI ?_ | refine zG hX ?_ | refine zO ?_); conv => whnf)
        conv => whnf
        repeat ((first | refine UGenReq.eqA hX (xs := ndC ⟨8, 0, 0, 0, 0, a, 0, neg⟩) (ys := ndC ⟨8, s0, s1, s2, s3, a, b, neg⟩) rfl rfl rfl Tryz.eqGuardType61 rfl rfl (eq_nd _ _) ?_ | refine zT ?_ | refine zF ?_ | refine zL hX hL ?_ | refine zB hX hL ?_ | (refine zS hX hL ?_; clear hL; intro w hL) | refine zI ?_ | refine zG hX ?_ | refine zO ?_); conv => whnf)
        refine RetReq.mk (hL.sublist (.cons _ (.cons_cons _ (List.nil_sublist _)))) ⟨rfl, rfl, congrArg Value.bool ?_⟩
        show _ = (decide (0 ≤ a ∧ a < 4) && _)
        rw [decide_eq_true (show 0 ≤ a ∧ a < 4 from ⟨ha, ha4⟩)]; rfl
      · conv => whnf
        repeat ((first | (refine BrReq.no (by simp only; omega) ?_) | refine zT ?_ | refine zF ?_ | refine zL hX hL ?_ | refine zB hX hL ?_ | (refine zS hX hL ?_; clear hL; intro w hL) | refine zI ?_ | refine zG hX ?_ | refine zO ?_); conv => whnf)
        refine BrReq.yes (by simp only; omega) ?_
        conv => whnf
        repeat ((first | refine zT ?_ | refine zF ?_ | refine zL hX hL ?_ | refine zB hX hL ?_ | (refine zS hX hL ?_; clear hL; intro w hL) | refine zI ?_ | refine zG hX ?_ | refine zO ?_); conv => whnf)
        refine RetReq.mk (hL.sublist (.cons _ (.cons_cons _ (List.nil_sublist _)))) ⟨rfl, rfl, congrArg Value.bool ?_⟩
        show _ = (decide (0 ≤ a ∧ a < 4) && _)
        rw [decide_eq_false (fun h : 0 ≤ a ∧ a < 4 => ha4 h.2)]; rfl
    · conv => whnf
      repeat ((first | (refine BrReq.yes (by simp only; omega) ?_) | refine zT ?_ | refine zF ?_ | refine zL hX hL ?_ | refine zB hX hL ?_ | (refine zS hX hL ?_; clear hL; intro w hL) | refine zI ?_ | refine zG hX ?_ | refine zO ?_); conv => whnf)
      refine RetReq.mk (hL.sublist (.cons _ (.cons_cons _ (List.nil_sublist _)))) ⟨rfl, rfl, congrArg Value.bool ?_⟩
      show _ = (decide (0 ≤ a ∧ a < 4) && _)
      rw [decide_eq_false (fun h : 0 ≤ a ∧ a < 4 => ha h.1)]; rfl
  replace hL : Ev.Loc m S0 w0 m [(b2, .cells (toArr [.pointer (some ⟨ab, 0, none⟩)]) 38 (0, 0)), (ab, arO (.slice A n c) mb), (b6, .cells (toArr (ndC ⟨k, s0, s1, s2, s3, a, b, neg⟩)) 61 (0, 0)), (b3, .cells (toArr (ndC ⟨k, s0, s1, s2, s3, a, b, neg⟩)) 61 (0, 0))] w := hL
  conv => whnf
  repeat ((first | refine BrReq.no (by omega) ?_ | refine zT ?_ | refine zF ?_ | refine zL hX hL ?_ | refine zB hX hL ?_ | (refine zS hX hL ?_; clear hL; intro w hL) | refine zI ?_ | refine zG hX ?_ | refine zO ?_); conv => whnf)
  refine RetReq.mk (hL.sublist (.cons _ (.cons_cons _ (List.nil_sublist _)))) ⟨rfl, rfl, congrArg Value.bool ?_⟩
  unfold rightN
  rw [if_neg (show ¬ (k = 0 ∨ k = 1) by omega), if_neg (show ¬ k = 2 from k2), if_neg (show ¬ (k = 3 ∨ k = 4 ∨ k = 5) by omega), if_neg (show ¬ (k = 6 ∨ k = 7) by omega), if_neg (show ¬ k = 8 from k8)]
end Go.Proofs.YtpdiljdklllmjaaGreat.ar
