/- A parser's smaller steps. Conditions: none. -/
import Derived.Test.YtemdkfohlppckaaGreatDoorPaSpec
import Derived.Test.YtemdkfohlppckaaGreatDoorLxScan

namespace Go.Proofs.YtemdkfohlppckaaGreatDoor.pa
open Go Go.Ev Go.Proofs Go.Proofs.YtemdkfohlppckaaGreatDoor.lx Go.Proofs.YtemdkfohlppckaaGreatDoor.tree

def poO (sl : Value) (fin : Nat) (dv : Value) (s : PS) : Obj := .cells (toArr [sl, .int .i64 fin, dv, .int .i64 s.deep, .int .i64 s.at_, .int .i64 s.e]) 61 (0, 0)
/-- A definition: a name, and what it stands for. -/
def isDef (m : Mem) (cs : List Value) (d : List UInt8 × Re) : Prop := ∃ cs', cs = .string (bs d.1) :: cs' ∧ RepRe m cs' d.2

theorem kind_fn (m : Mem) (b : Nat) (sl dv : Value) (fin : Nat) (s : PS) (h : Sl m 9 isW sl s.l) : FnS 21 [.pointer (some ⟨b, 0, none⟩)] m b (poO sl fin dv s) (poO sl fin dv s) (.int .i64 (kindP s)) := by
  obtain ⟨l, dp, at_, e⟩ := s
  have h' := h
  obtain ⟨A, n, c, rfl, hn, hc, hm, -⟩ := h
  simp only at hn h'
  unfold kindP
  refine Fn.enter (N := 23) hX Tryz.func21 rfl rfl (by show _ ≤ _; simp) (fun w0 hL => ?_)
  conv => whnf
  generalize keys [(b, poO (.slice A n c) fin dv ⟨l, dp, at_, e⟩)] = S0 at hL ⊢
  replace hL : Ev.Loc m S0 w0 m [(b, .cells (toArr [.slice A n c, .int .i64 fin, dv, .int .i64 dp, .int .i64 at_, .int .i64 e]) 61 (0, 0))] w0 := hL
  by_cases he : e = 0
  · rw [if_neg (by simp [he])]
    cases l with
    | nil =>
      simp only [List.length_nil] at hn
      conv => whnf
      repeat ((first | refine BrReq.no (by omega) ?_ | refine BrReq.yes (by omega) ?_ | refine zT ?_ | refine zF ?_ | refine zL hX hL ?_ | refine zB hX hL ?_ | (refine zS hX hL ?_; clear hL; intro w hL) | refine zI ?_ | refine zG hX ?_ | refine zO ?_); conv => whnf)
      exact RetReq.mk hL ⟨rfl, rfl, rfl⟩
    | cons x l =>
      simp only [List.length_cons] at hn
      obtain ⟨a, cs, rfl, hl9, hcl, rfl⟩ := h'.elem 0 x rfl
      conv => whnf
      repeat ((first | refine BrReq.no (by omega) ?_ | refine BrReq.yes (by omega) ?_ | refine Idx2Req.mk 0 a rfl (by omega) rfl ?_ | refine LdReq.one hX rfl rfl hL (hcl 0 _ rfl) ?_ | refine zT ?_ | refine zF ?_ | refine zL hX hL ?_ | refine zB hX hL ?_ | (refine zS hX hL ?_; clear hL; intro w hL) | refine zI ?_ | refine zG hX ?_ | refine zO ?_); conv => whnf)
      exact RetReq.mk hL ⟨rfl, rfl, rfl⟩
  · rw [if_pos he]
    conv => whnf
    repeat ((first | refine BrReq.yes (by omega) ?_ | refine zT ?_ | refine zF ?_ | refine zL hX hL ?_ | refine zB hX hL ?_ | (refine zS hX hL ?_; clear hL; intro w hL) | refine zI ?_ | refine zG hX ?_ | refine zO ?_); conv => whnf)
    exact RetReq.mk hL ⟨rfl, rfl, rfl⟩

theorem here_fn (m : Mem) (b : Nat) (sl dv : Value) (fin : Nat) (s : PS) (h : Sl m 9 isW sl s.l) : FnS 23 [.pointer (some ⟨b, 0, none⟩)] m b (poO sl fin dv s) (poO sl fin dv s) (.int .i64 (hereP fin s : Nat)) := by
  obtain ⟨l, dp, at_, e⟩ := s
  have h' := h
  obtain ⟨A, n, c, rfl, hn, hc, hm, -⟩ := h
  simp only at hn h'
  unfold hereP
  refine Fn.enter (N := 20) hX Tryz.func23 rfl rfl (by show _ ≤ _; simp) (fun w0 hL => ?_)
  conv => whnf
  generalize keys [(b, poO (.slice A n c) fin dv ⟨l, dp, at_, e⟩)] = S0 at hL ⊢
  replace hL : Ev.Loc m S0 w0 m [(b, .cells (toArr [.slice A n c, .int .i64 fin, dv, .int .i64 dp, .int .i64 at_, .int .i64 e]) 61 (0, 0))] w0 := hL
  cases l with
  | nil =>
    simp only [List.length_nil] at hn
    conv => whnf
    repeat ((first | refine BrReq.yes (by omega) ?_ | refine zT ?_ | refine zF ?_ | refine zL hX hL ?_ | refine zB hX hL ?_ | (refine zS hX hL ?_; clear hL; intro w hL) | refine zI ?_ | refine zG hX ?_ | refine zO ?_); conv => whnf)
    exact RetReq.mk hL ⟨rfl, rfl, rfl⟩
  | cons x l =>
    simp only [List.length_cons] at hn
    obtain ⟨a, cs, rfl, hl9, hcl, rfl⟩ := h'.elem 0 x rfl
    conv => whnf
    repeat ((first | refine BrReq.no (by omega) ?_ | refine Idx2Req.mk 0 a rfl (by omega) rfl ?_ | refine LdReq.one hX rfl rfl hL (hcl 1 _ rfl) ?_ | refine zT ?_ | refine zF ?_ | refine zL hX hL ?_ | refine zB hX hL ?_ | (refine zS hX hL ?_; clear hL; intro w hL) | refine zI ?_ | refine zG hX ?_ | refine zO ?_); conv => whnf)
    exact RetReq.mk hL ⟨rfl, rfl, rfl⟩

theorem next_fn (m : Mem) (b : Nat) (sl dv : Value) (fin : Nat) (s : PS) (h : Sl m 9 isW sl s.l) (hne : s.l ≠ []) : Ev.Fn Tryz.prog 42 [.pointer (some ⟨b, 0, none⟩)] m [(b, poO sl fin dv s)] fun m' L' u =>
    m' = m ∧ ∃ sl', Sl m 9 isW sl' (nextP s).l ∧ L' = [(b, poO sl' fin dv (nextP s))] ∧ u = .agg (toArr (wC (headW s).1 (headW s).2)) := by
  obtain ⟨l, dp, at_, e⟩ := s
  have h' := h
  obtain ⟨A, n, c, rfl, hn, hc, hm, -⟩ := h
  have hmx : maxLen = 9223372036854775807 := rfl
  cases l with
  | nil => exact absurd rfl hne
  | cons x l =>
    simp only at hn h'
    obtain ⟨a, cs, ea, hl9, hcl, r⟩ := h'.elem 0 x rfl
    unfold isW at r
    subst r
    simp only [List.length_cons] at hn
    have hsub := h'.sub (lo := 1) (hi := n) (by omega) (Nat.le_refl _)
    rw [hn, show l.length + 1 = (x :: l).length from rfl, List.take_length] at hsub
    rw [show (x :: l).length = n by simp [hn]] at hsub
    refine Fn.enter (N := 19) hX Tryz.func42 rfl rfl (by show _ ≤ _; simp) (fun w0 hL => ?_)
    conv => whnf
    generalize keys [(b, poO (.slice A n c) fin dv ⟨x :: l, dp, at_, e⟩)] = S0 at hL ⊢
    refine NewReq.mk hL ?_
    clear hL
    intro b2 w hL
    conv => whnf
    replace hL : Ev.Loc m S0 w0 m [(b2, .cells (toArr (wC 0 (wK 0))) 57 (0, 0)), (b, .cells (toArr [.slice A n c, .int .i64 fin, dv, .int .i64 dp, .int .i64 at_, .int .i64 e]) 61 (0, 0))] w := hL
    conv => whnf
    repeat ((first | refine Idx2Req.mk 0 a rfl (by omega) ea ?_ | refine LdReq.agg hX rfl rfl hL rfl hcl ?_ | refine zT ?_ | refine zF ?_ | refine zL hX hL ?_ | refine zB hX hL ?_ | (refine zS hX hL ?_; clear hL; intro w hL) | refine zI ?_ | refine zG hX ?_ | refine zO ?_); conv => whnf)
    refine NewReq.mk hL ?_
    clear hL
    intro b3 w hL
    conv => whnf
    replace hL : Ev.Loc m S0 w0 m [(b3, .cells (toArr (wC 0 (wK 0))) 57 (0, 0)), (b2, .cells (toArr (wC 0 (wK 0))) 57 (0, 0)), (b, .cells (toArr [.slice A n c, .int .i64 fin, dv, .int .i64 dp, .int .i64 at_, .int .i64 e]) 61 (0, 0))] w := hL
    conv => whnf
    repeat ((first | refine SlReq.mk 1 n rfl rfl (by omega) (by omega) ?_ | refine zT ?_ | refine zF ?_ | refine zL hX hL ?_ | refine zB hX hL ?_ | (refine zS hX hL ?_; clear hL; intro w hL) | refine zI ?_ | refine zG hX ?_ | refine zO ?_); conv => whnf)
    exact RetReq.mk hL.drop.drop ⟨rfl, _, hsub, rfl, rfl⟩

theorem fail_fn (m : Mem) (b : Nat) (sl dv : Value) (fin : Nat) (s : PS) (e at_ : Int) : FnS 22 [.pointer (some ⟨b, 0, none⟩), .int .i64 e, .int .i64 at_] m b (poO sl fin dv s) (poO sl fin dv (failP e at_ s)) (.tuple (toArr [])) := by
  obtain ⟨l, dp, at1, e1⟩ := s
  unfold failP
  refine Fn.enter (N := 19) hX Tryz.func22 rfl rfl (by show _ ≤ _; simp) (fun w0 hL => ?_)
  conv => whnf
  generalize keys [(b, poO sl fin dv ⟨l, dp, at1, e1⟩)] = S0 at hL ⊢
  replace hL : Ev.Loc m S0 w0 m [(b, .cells (toArr [sl, .int .i64 fin, dv, .int .i64 dp, .int .i64 at1, .int .i64 e1]) 61 (0, 0))] w0 := hL
  by_cases he : e1 = 0
  · rw [if_pos he]
    conv => whnf
    repeat ((first | refine BrReq.yes (by omega) ?_ | refine zT ?_ | refine zF ?_ | refine zL hX hL ?_ | refine zB hX hL ?_ | (refine zS hX hL ?_; clear hL; intro w hL) | refine zI ?_ | refine zG hX ?_ | refine zO ?_); conv => whnf)
    exact RetReq.mk hL ⟨rfl, rfl, rfl⟩
  · rw [if_neg he]
    conv => whnf
    repeat ((first | refine BrReq.no (by omega) ?_ | refine zT ?_ | refine zF ?_ | refine zL hX hL ?_ | refine zB hX hL ?_ | (refine zS hX hL ?_; clear hL; intro w hL) | refine zI ?_ | refine zG hX ?_ | refine zO ?_); conv => whnf)
    exact RetReq.mk hL ⟨rfl, rfl, rfl⟩

theorem enter_fn (m : Mem) (b : Nat) (sl dv : Value) (fin : Nat) (s : PS) (at_ : Int) (hd : s.deep ≤ 1000000000) : FnS 93 [.pointer (some ⟨b, 0, none⟩), .int .i64 at_] m b (poO sl fin dv s) (poO sl fin dv (enterP at_ s)) (.tuple (toArr [])) := by
  obtain ⟨l, dp, at1, e1⟩ := s
  simp only at hd
  unfold enterP
  refine Fn.enter (N := 19) hX Tryz.func93 rfl rfl (by show _ ≤ _; simp) (fun w0 hL => ?_)
  conv => whnf
  generalize keys [(b, poO sl fin dv ⟨l, dp, at1, e1⟩)] = S0 at hL ⊢
  replace hL : Ev.Loc m S0 w0 m [(b, .cells (toArr [sl, .int .i64 fin, dv, .int .i64 dp, .int .i64 at1, .int .i64 e1]) 61 (0, 0))] w0 := hL
  by_cases h40 : 40 < dp + 1
  · rw [if_pos h40]
    conv => whnf
    repeat ((first | refine BrReq.yes (by omega) ?_ | refine zT ?_ | refine zF ?_ | refine zL hX hL ?_ | refine zB hX hL ?_ | (refine zS hX hL ?_; clear hL; intro w hL) | refine zI ?_ | refine zG hX ?_ | refine zO ?_); conv => whnf)
    replace hL : Ev.Loc m S0 w0 m [(b, poO sl fin dv ⟨l, dp + 1, at1, e1⟩)] w := hL
    refine CallReq.sc (fail_fn m b sl dv fin ⟨l, dp + 1, at1, e1⟩ 8 at_) hL ?_
    clear hL
    intro w hL
    conv => whnf
    repeat ((first | refine zT ?_ | refine zF ?_ | refine zL hX hL ?_ | refine zB hX hL ?_ | (refine zS hX hL ?_; clear hL; intro w hL) | refine zI ?_ | refine zG hX ?_ | refine zO ?_); conv => whnf)
    exact RetReq.mk hL ⟨rfl, rfl, rfl⟩
  · rw [if_neg h40]
    conv => whnf
    repeat ((first | refine BrReq.no (by omega) ?_ | refine zT ?_ | refine zF ?_ | refine zL hX hL ?_ | refine zB hX hL ?_ | (refine zS hX hL ?_; clear hL; intro w hL) | refine zI ?_ | refine zG hX ?_ | refine zO ?_); conv => whnf)
    exact RetReq.mk hL ⟨rfl, rfl, rfl⟩

theorem joined_fn (m : Mem) (k : Int) (hk : inI k) (v : Value) (l : List Re) (h : Sl m 9 (RepRe m) v l) : Fn0 Tryz.prog 43 [.int .i64 k, v] m fun m' u => m' = m ∧ ∃ cs, u = .agg (toArr cs) ∧ RepRe m cs (joinR k l) := by
  have h' := h
  obtain ⟨A, n, c, rfl, hn, hc, hm, -⟩ := h
  have hmx : maxLen = 9223372036854775807 := rfl
  have hr0 : inI k ∧ inU 0 ∧ inU 0 ∧ inU 0 ∧ inU 0 ∧ inI 0 ∧ inI 0 := ⟨hk, by simp [inU], by simp [inU], by simp [inU], by simp [inU], by simp [inI], by simp [inI]⟩
  refine Fn.enter (N := 14) hX Tryz.func43 rfl rfl (by show _ ≤ _; simp) (fun w0 hL => ?_)
  conv => whnf
  refine NewReq.mk hL ?_
  clear hL
  intro b4 w hL
  conv => whnf
  replace hL : Ev.Loc m [] w0 m [(b4, .cells (toArr (reC 0 0 0 0 0 (.slice none 0 0) 0 0 false)) 36 (0, 0))] w := hL
  match l, hn, h' with
  | [r], hn, h' =>
    obtain ⟨a, cs', rfl, hl9, hcl, hr⟩ := h'.elem 0 r rfl
    obtain ⟨k1, u0, u1, u2, u3, A1, n1, c1, lo1, hi1, neg1, rfl⟩ := hr.form
    simp only [List.length_cons, List.length_nil] at hn
    conv => whnf
    repeat ((first | refine BrReq.yes (by omega) ?_ | refine Idx2Req.mk 0 a rfl (by omega) rfl ?_ | refine LdReq.agg hX rfl rfl hL hl9 hcl ?_ | refine zT ?_ | refine zF ?_ | refine zL hX hL ?_ | refine zB hX hL ?_ | (refine zS hX hL ?_; clear hL; intro w hL) | refine zI ?_ | refine zG hX ?_ | refine zO ?_); conv => whnf)
    exact RetReq.mk hL.drop ⟨rfl, rfl, _, rfl, hr⟩
  | [], hn, h' =>
    simp only [List.length_cons, List.length_nil] at hn
    conv => whnf
    repeat ((first | refine BrReq.no (by omega) ?_ | refine zT ?_ | refine zF ?_ | refine zL hX hL ?_ | refine zB hX hL ?_ | (refine zS hX hL ?_; clear hL; intro w hL) | refine zI ?_ | refine zG hX ?_ | refine zO ?_); conv => whnf)
    exact RetReq.mk hL.drop ⟨rfl, rfl, reC k 0 0 0 0 (.slice A n c) 0 0 false, rfl, RepRe.shut h' hr0⟩
  | x :: y :: l, hn, h' =>
    simp only [List.length_cons, List.length_nil] at hn
    conv => whnf
    repeat ((first | refine BrReq.no (by omega) ?_ | refine zT ?_ | refine zF ?_ | refine zL hX hL ?_ | refine zB hX hL ?_ | (refine zS hX hL ?_; clear hL; intro w hL) | refine zI ?_ | refine zG hX ?_ | refine zO ?_); conv => whnf)
    exact RetReq.mk hL.drop ⟨rfl, rfl, reC k 0 0 0 0 (.slice A n c) 0 0 false, rfl, RepRe.shut h' hr0⟩

theorem named_fn (m : Mem) (b : Nat) (sl dv : Value) (fin : Nat) (s : PS) (defs : List (List UInt8 × Re)) (hd : Sl m 10 (isDef m) dv defs) (at_ : Nat) (x : W) :
    Ev.Fn Tryz.prog 106 [.pointer (some ⟨b, 0, none⟩), .agg (toArr (wC at_ x))] m [(b, poO sl fin dv s)] fun m' L' u => m' = m ∧ ∃ cs r s', u = .agg (toArr cs) ∧ RepRe m cs r ∧ L' = [(b, poO sl fin dv s')] ∧
      (match findD x.name defs with | some r0 => r = r0 ∧ s' = s | none => r = leafR 0 ∧ s' = failP 5 at_ s) := by
  have hd' := hd
  obtain ⟨A, n, c, rfl, hn, hc, hm, -⟩ := hd
  have hmx : maxLen = 9223372036854775807 := rfl
  refine Fn.enter (N := 29) hX Tryz.func106 rfl rfl (by show _ ≤ _; simp) (fun w0 hL => ?_)
  conv => whnf
  generalize keys [(b, poO sl fin (.slice A n c) s)] = S0 at hL ⊢
  refine NewReq.mk hL ?_
  clear hL
  intro b3 w hL
  conv => whnf
  refine NewReq.mk hL ?_
  clear hL
  intro b4 w hL
  conv => whnf
  replace hL : Ev.Loc m S0 w0 m ((b, poO sl fin (.slice A n c) s) :: [(b4, .cells (toArr (reC 0 0 0 0 0 (.slice none 0 0) 0 0 false)) 36 (0, 0)), (b3, .cells (toArr (wC at_ x)) 57 (0, 0))]) w := hL.perm (List.perm_append_comm (l₁ := [_, _]) (l₂ := [_]))
  conv => whnf
  repeat ((first | refine zT ?_ | refine zF ?_ | refine zL hX hL ?_ | refine zB hX hL ?_ | (refine zS hX hL ?_; clear hL; intro w hL) | refine zI ?_ | refine zG hX ?_ | refine zO ?_); conv => whnf)
  refine LoopReq.inv hX (fun j : Nat => [(12, .int .i64 j)]) [0, 3, 4, 10, 11]
    (fun j w => (j ≤ n ∧ findD x.name (defs.drop j) = findD x.name defs) ∧ Ev.Loc m S0 w0 m [(b, poO sl fin (.slice A n c) s), (b4, .cells (toArr (reC 0 0 0 0 0 (.slice none 0 0) 0 0 false)) 36 (0, 0)), (b3, .cells (toArr (wC at_ x)) 57 (0, 0))] w) (fun j => n - j) 0
    ⟨⟨by omega, rfl⟩, hL⟩ ⟨rfl, trivial⟩ ?_
  clear hL
  rintro j w e ⟨⟨hj, hf⟩, hL⟩
  conv => whnf
  repeat ((first | refine zT ?_ | refine zF ?_ | refine zL hX hL ?_ | refine zB hX hL ?_ | (refine zS hX hL ?_; clear hL; intro w hL) | refine zI ?_ | refine zG hX ?_ | refine zO ?_); conv => whnf)
  refine BrReq.dec (fun hlt => ?_) (fun hlt => ?_)
  · have hj1 : j < defs.length := by omega
    obtain ⟨a, cs', ea, hl10, hcl, cs2, rfl, hr⟩ := hd'.elem j _ (List.getElem?_eq_getElem hj1)
    have hdr : defs.drop j = defs[j] :: defs.drop (j + 1) := List.drop_eq_getElem_cons hj1
    rw [hdr, findD] at hf
    generalize defs[j] = d at *
    obtain ⟨k1, u0, u1, u2, u3, A1, n1, c1, lo1, hi1, neg1, rfl⟩ := hr.form
    conv => whnf
    repeat ((first | refine Idx2Req.mk j a rfl (by omega) ea ?_ | refine LdReq.agg hX rfl rfl hL rfl hcl ?_ | refine zT ?_ | refine zF ?_ | refine zL hX hL ?_ | refine zB hX hL ?_ | (refine zS hX hL ?_; clear hL; intro w hL) | refine zI ?_ | refine zG hX ?_ | refine zO ?_); conv => whnf)
    refine NewReq.mk hL ?_
    clear hL
    intro b6 w hL
    conv => whnf
    conv => whnf
    repeat ((first | refine UGenReq.strEq rfl rfl rfl ?_ | refine zT ?_ | refine zF ?_ | refine zL hX hL ?_ | refine zB hX hL ?_ | (refine zS hX hL ?_; clear hL; intro w hL) | refine zI ?_ | refine zG hX ?_ | refine zO ?_); conv => whnf)
    rw [bs_beq]
    by_cases hnm : d.1 = x.name
    · rw [if_pos hnm] at hf
      rw [decide_eq_true hnm, ← hf]
      conv => whnf
      repeat ((first | refine zT ?_ | refine zF ?_ | refine zL hX hL ?_ | refine zB hX hL ?_ | (refine zS hX hL ?_; clear hL; intro w hL) | refine zI ?_ | refine zG hX ?_ | refine zO ?_); conv => whnf)
      exact RetReq.mk (hL.one 1 rfl) ⟨rfl, reC k1 u0 u1 u2 u3 (.slice A1 n1 c1) lo1 hi1 neg1, d.2, s, rfl, hr, rfl, rfl, rfl⟩
    · rw [if_neg hnm] at hf
      rw [decide_eq_false hnm]
      conv => whnf
      repeat ((first | refine zT ?_ | refine zF ?_ | refine zL hX hL ?_ | refine zB hX hL ?_ | (refine zS hX hL ?_; clear hL; intro w hL) | refine zI ?_ | refine zG hX ?_ | refine zO ?_); conv => whnf)
      refine ⟨j + 1, ⟨⟨by omega, hf⟩, hL.drop⟩, by first | omega | (simp only; omega) | (simp only [List.length_cons, List.length_append]; omega), ?_, ?_⟩
      · repeat (first | exact trivial | (refine And.intro (by (conv => lhs; whnf) <;> (conv => rhs; whnf) <;> (first | rfl)) ?_))
      · repeat (first | exact trivial | (refine And.intro (by (conv => lhs; whnf) <;> (conv => rhs; whnf) <;> (first | rfl)) ?_))
  · have ej : j = defs.length := by omega
    rw [ej, List.drop_length, findD] at hf
    rw [← hf]
    conv => whnf
    repeat ((first | refine zT ?_ | refine zF ?_ | refine zL hX hL ?_ | refine zB hX hL ?_ | (refine zS hX hL ?_; clear hL; intro w hL) | refine zI ?_ | refine zG hX ?_ | refine zO ?_); conv => whnf)
    refine CallReq.sc (fail_fn m b sl (.slice A n c) fin s 5 at_) hL ?_
    clear hL
    intro w hL
    conv => whnf
    repeat ((first | refine zT ?_ | refine zF ?_ | refine zL hX hL ?_ | refine zB hX hL ?_ | (refine zS hX hL ?_; clear hL; intro w hL) | refine zI ?_ | refine zG hX ?_ | refine zO ?_); conv => whnf)
    exact RetReq.mk (hL.one 0 rfl) ⟨rfl, reC 0 0 0 0 0 (.slice none 0 0) 0 0 false, leafR 0, failP 5 at_ s, rfl, leaf_rep m 0 (by simp [inI]), rfl, rfl, rfl⟩
end Go.Proofs.YtemdkfohlppckaaGreatDoor.pa
