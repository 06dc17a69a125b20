/- The document's words: its smaller steps. Conditions: none. -/
import Derived.Test.YtemdkfohlppckaaGreatDoorLxWords

namespace Go.Proofs.YtemdkfohlppckaaGreatDoor.lx
open Go Go.Ev Go.Proofs

theorem Alpha_fn (m : Mem) (n : Nat) (h : n < 256) : FnV Tryz.prog 35 [.int .u8 n] m (.bool (isL n)) := by
  refine Fn.enter (N := 17) hX Tryz.func35 rfl rfl (by show _ ≤ _; simp) (fun w0 hL => ?_)
  conv => whnf
  conv => whnf
  repeat' (first | ((first | refine zT ?_ | refine zF ?_ | refine zL hX hL ?_ | refine zB hX hL ?_ | (refine zS hX hL ?_; clear hL; intro w hL) | refine zI ?_ | refine zG hX ?_ | refine zO ?_); conv => whnf) | (refine BrReq.dec (fun _ => ?_) (fun _ => ?_) <;> (conv => whnf)) | (refine BrReq.not ?_; refine BrReq.dec (fun _ => ?_) (fun _ => ?_) <;> (conv => whnf)) | (refine BrReq.bool (fun _ => ?_) (fun _ => ?_) <;> (conv => whnf)))
  all_goals (refine RetReq.bool hL ?_; unfold isL; first | exact decide_eq_decide.2 (by omega) | exact (decide_eq_true (by omega)).symm | exact (decide_eq_false (by omega)).symm)
theorem value_fn (m : Mem) (n : Nat) (h : n < 256) : FnV Tryz.prog 76 [.int .u8 n] m (.int .i64 (hexN n)) := by
  unfold hexN
  refine Fn.enter (N := 35) hX Tryz.func76 rfl rfl (by show _ ≤ _; simp) (fun w0 hL => ?_)
  conv => whnf
  conv => whnf
  repeat' (first | ((first | refine zT ?_ | refine zF ?_ | refine zL hX hL ?_ | refine zB hX hL ?_ | (refine zS hX hL ?_; clear hL; intro w hL) | refine zI ?_ | refine zG hX ?_ | refine zO ?_); conv => whnf) | (refine BrReq.dec (fun _ => ?_) (fun _ => ?_) <;> (conv => whnf)) | (refine BrReq.not ?_; refine BrReq.dec (fun _ => ?_) (fun _ => ?_) <;> (conv => whnf)) | (refine BrReq.bool (fun _ => ?_) (fun _ => ?_) <;> (conv => whnf)))
  all_goals (refine RetReq.int hL ?_; first | (rw [if_pos (by omega)]; try omega) | (rw [if_neg (by omega), if_pos (by omega)]; try omega) | (rw [if_neg (by omega), if_neg (by omega), if_pos (by omega)]; try omega) | (rw [if_neg (by omega), if_neg (by omega), if_neg (by omega)]; try omega))
theorem in_fn (m : Mem) (l : List UInt8) (c : UInt8) (hl : l.length ≤ 1000000) : FnV Tryz.prog 36 [.string (bs l), .int .u8 c.toNat] m (.bool (decide (c ∈ l))) := by
  have hsz := bs_size l
  have hc := c.toNat_lt
  refine Fn.enter (N := 17) hX Tryz.func36 rfl rfl (by show _ ≤ _; simp) (fun w0 hL => ?_)
  conv => whnf
  conv => whnf
  repeat ((first | refine zT ?_ | refine zF ?_ | refine zL hX hL ?_ | refine zB hX hL ?_ | (refine zS hX hL ?_; clear hL; intro w hL) | refine zI ?_ | refine zG hX ?_ | refine zO ?_); conv => whnf)
  refine LoopReq.inv hX (fun j : Nat => [(8, .int .i64 j)]) [0, 1, 7]
    (fun j w => (j ≤ l.length ∧ c ∉ l.take j) ∧ Ev.Loc m [] w0 m [] w) (fun j => l.length - j) 0
    ⟨⟨by omega, by simp⟩, hL⟩ ⟨rfl, trivial⟩ ?_
  clear hL
  rintro j w e ⟨⟨hj, hno⟩, hL⟩
  conv => whnf
  repeat ((first | refine zT ?_ | refine zF ?_ | refine zL hX hL ?_ | refine zB hX hL ?_ | (refine zS hX hL ?_; clear hL; intro w hL) | refine zI ?_ | refine zG hX ?_ | refine zO ?_); conv => whnf)
  refine BrReq.dec (fun hlt => ?_) (fun hlt => ?_)
  · have hj1 : j < l.length := by omega
    have hg : (bs l).data[j]? = some l[j] := by rw [bs_get, List.getElem?_eq_getElem hj1]
    conv => whnf
    repeat ((first | refine StrIdxReq.mk j _ rfl hg ?_ | refine zT ?_ | refine zF ?_ | refine zL hX hL ?_ | refine zB hX hL ?_ | (refine zS hX hL ?_; clear hL; intro w hL) | refine zI ?_ | refine zG hX ?_ | refine zO ?_); conv => whnf)
    refine BrReq.dec (fun he => ?_) (fun he => ?_)
    · have e : l[j] = c := UInt8.toNat_inj.1 (by omega)
      conv => whnf
      repeat ((first | refine zT ?_ | refine zF ?_ | refine zL hX hL ?_ | refine zB hX hL ?_ | (refine zS hX hL ?_; clear hL; intro w hL) | refine zI ?_ | refine zG hX ?_ | refine zO ?_); conv => whnf)
      exact RetReq.bool hL (decide_eq_true (by rw [← e]; exact List.getElem_mem hj1)).symm
    · have hne : ¬ c = l[j] := fun e => he (by rw [e])
      conv => whnf
      repeat ((first | refine zT ?_ | refine zF ?_ | refine zL hX hL ?_ | refine zB hX hL ?_ | (refine zS hX hL ?_; clear hL; intro w hL) | refine zI ?_ | refine zG hX ?_ | refine zO ?_); conv => whnf)
      refine ⟨j + 1, ⟨⟨by omega, by rw [List.take_succ_eq_append_getElem hj1, List.mem_append, List.mem_singleton]; exact fun h => h.elim hno hne⟩, hL⟩, by first | omega | (simp only; omega) | (simp only [List.length_cons, List.length_append]; omega), ?_, ?_⟩
      · repeat (first | exact trivial | (refine And.intro (by (conv => lhs; whnf) <;> (conv => rhs; whnf) <;> (first | rfl)) ?_))
      · repeat (first | exact trivial | (refine And.intro (by (conv => lhs; whnf) <;> (conv => rhs; whnf) <;> (first | rfl)) ?_))
  · have ej : j = l.length := by omega
    subst ej
    rw [List.take_length] at hno
    conv => whnf
    repeat ((first | refine zT ?_ | refine zF ?_ | refine zL hX hL ?_ | refine zB hX hL ?_ | (refine zS hX hL ?_; clear hL; intro w hL) | refine zI ?_ | refine zG hX ?_ | refine zO ?_); conv => whnf)
    exact RetReq.bool hL (decide_eq_false hno).symm
theorem signs_fn (m : Mem) (n : Nat) (h : n < 256) : FnV Tryz.prog 58 [.int .u8 n] m (.int .i64 (signT n)) := by
  unfold signT
  refine Fn.enter (N := 24) hX Tryz.func58 rfl rfl (by show _ ≤ _; simp) (fun w0 hL => ?_)
  conv => whnf
  conv => whnf
  repeat' (first | ((first | refine zT ?_ | refine zF ?_ | refine zL hX hL ?_ | refine zB hX hL ?_ | (refine zS hX hL ?_; clear hL; intro w hL) | refine zI ?_ | refine zG hX ?_ | refine zO ?_); conv => whnf) | (refine BrReq.dec (fun _ => ?_) (fun _ => ?_) <;> (conv => whnf)) | (refine BrReq.not ?_; refine BrReq.dec (fun _ => ?_) (fun _ => ?_) <;> (conv => whnf)) | (refine BrReq.bool (fun _ => ?_) (fun _ => ?_) <;> (conv => whnf)))
  all_goals (refine RetReq.int hL ?_; repeat (first | rw [if_pos (by omega)] | rw [if_neg (by omega)]))

set_option maxHeartbeats 4000000 in
theorem char_fn (m : Mem) (s own : List UInt8) (i : Nat) (hi : i ≤ 1000000) (hl : s.length ≤ 1000000) (ho : own.length ≤ 100) :
    FnV Tryz.prog 60 [.string (bs s), .int .i64 i, .string (bs own)] m (.tuple (toArr [.int .u8 (charT own (s.drop i)).1, .int .i64 (charT own (s.drop i)).2])) := by
  have hsz := bs_size s
  have hdl : (s.drop i).length = s.length - i := List.length_drop
  have hget : ∀ k, (bs s).data[i + k]? = (s.drop i)[k]? := fun k => by rw [bs_get, List.getElem?_drop]
  generalize s.drop i = r at *
  cases r with
  | nil =>
    simp only [List.length_nil] at hdl
    refine Fn.enter (N := 87) hX Tryz.func60 rfl rfl (by show _ ≤ _; simp) (fun w0 hL => ?_)
    conv => whnf
    conv => whnf
    repeat ((first | refine BrReq.yes (by omega) ?_ | refine zT ?_ | refine zF ?_ | refine zL hX hL ?_ | refine zB hX hL ?_ | (refine zS hX hL ?_; clear hL; intro w hL) | refine zI ?_ | refine zG hX ?_ | refine zO ?_); conv => whnf)
    exact RetReq.mk hL ⟨rfl, rfl⟩
  | cons c r =>
    have hc := c.toNat_lt
    have h0 : (bs s).data[i]? = some c := hget 0
    simp only [List.length_cons] at hdl
    by_cases k92 : c.toNat = 92
    · cases r with
      | nil =>
        have hE : charT own [c] = (0, 0) := by simp only [charT]; rw [if_pos k92]; rfl
        rw [hE]
        simp only [List.length_nil] at hdl
        refine Fn.enter (N := 87) hX Tryz.func60 rfl rfl (by show _ ≤ _; simp) (fun w0 hL => ?_)
        conv => whnf
        conv => whnf
        repeat ((first | refine BrReq.yes (by omega) ?_ | refine BrReq.no (by omega) ?_ | refine StrIdxReq.mk i c rfl h0 ?_ | refine zT ?_ | refine zF ?_ | refine zL hX hL ?_ | refine zB hX hL ?_ | (refine zS hX hL ?_; clear hL; intro w hL) | refine zI ?_ | refine zG hX ?_ | refine zO ?_); conv => whnf)
        exact RetReq.mk hL ⟨rfl, rfl⟩
      | cons d r =>
        have hd := d.toNat_lt
        have h1 : (bs s).data[i + 1]? = some d := hget 1
        simp only [List.length_cons] at hdl
        have hE : charT own (c :: d :: r) = if (escT (d :: r)).2 = 0 then (0, 0) else ((escT (d :: r)).1, (escT (d :: r)).2 + 1) := by simp only [charT]; rw [if_pos k92]
        by_cases k1 : d.toNat = 110
        · rw [show charT own (c :: d :: r) = (10, 2) by rw [hE, show escT (d :: r) = (10, 1) by simp [escT, k1]]; rfl]
          refine Fn.enter (N := 87) hX Tryz.func60 rfl rfl (by show _ ≤ _; simp) (fun w0 hL => ?_)
          conv => whnf
          conv => whnf
          repeat ((first | refine BrReq.yes (by omega) ?_ | refine BrReq.no (by omega) ?_ | refine StrIdxReq.mk i c rfl h0 ?_ | refine StrIdxReq.mk (i + 1) d rfl h1 ?_ | refine zT ?_ | refine zF ?_ | refine zL hX hL ?_ | refine zB hX hL ?_ | (refine zS hX hL ?_; clear hL; intro w hL) | refine zI ?_ | refine zG hX ?_ | refine zO ?_); conv => whnf)
          exact RetReq.mk hL ⟨rfl, rfl⟩
        by_cases k2 : d.toNat = 116
        · rw [show charT own (c :: d :: r) = (9, 2) by rw [hE, show escT (d :: r) = (9, 1) by simp [escT, k2]]; rfl]
          refine Fn.enter (N := 87) hX Tryz.func60 rfl rfl (by show _ ≤ _; simp) (fun w0 hL => ?_)
          conv => whnf
          conv => whnf
          repeat ((first | refine BrReq.yes (by omega) ?_ | refine BrReq.no (by omega) ?_ | refine StrIdxReq.mk i c rfl h0 ?_ | refine StrIdxReq.mk (i + 1) d rfl h1 ?_ | refine zT ?_ | refine zF ?_ | refine zL hX hL ?_ | refine zB hX hL ?_ | (refine zS hX hL ?_; clear hL; intro w hL) | refine zI ?_ | refine zG hX ?_ | refine zO ?_); conv => whnf)
          exact RetReq.mk hL ⟨rfl, rfl⟩
        by_cases k3 : d.toNat = 114
        · rw [show charT own (c :: d :: r) = (13, 2) by rw [hE, show escT (d :: r) = (13, 1) by simp [escT, k3]]; rfl]
          refine Fn.enter (N := 87) hX Tryz.func60 rfl rfl (by show _ ≤ _; simp) (fun w0 hL => ?_)
          conv => whnf
          conv => whnf
          repeat ((first | refine BrReq.yes (by omega) ?_ | refine BrReq.no (by omega) ?_ | refine StrIdxReq.mk i c rfl h0 ?_ | refine StrIdxReq.mk (i + 1) d rfl h1 ?_ | refine zT ?_ | refine zF ?_ | refine zL hX hL ?_ | refine zB hX hL ?_ | (refine zS hX hL ?_; clear hL; intro w hL) | refine zI ?_ | refine zG hX ?_ | refine zO ?_); conv => whnf)
          exact RetReq.mk hL ⟨rfl, rfl⟩
        by_cases k4 : d.toNat = 115
        · rw [show charT own (c :: d :: r) = (32, 2) by rw [hE, show escT (d :: r) = (32, 1) by simp [escT, k4]]; rfl]
          refine Fn.enter (N := 87) hX Tryz.func60 rfl rfl (by show _ ≤ _; simp) (fun w0 hL => ?_)
          conv => whnf
          conv => whnf
          repeat ((first | refine BrReq.yes (by omega) ?_ | refine BrReq.no (by omega) ?_ | refine StrIdxReq.mk i c rfl h0 ?_ | refine StrIdxReq.mk (i + 1) d rfl h1 ?_ | refine zT ?_ | refine zF ?_ | refine zL hX hL ?_ | refine zB hX hL ?_ | (refine zS hX hL ?_; clear hL; intro w hL) | refine zI ?_ | refine zG hX ?_ | refine zO ?_); conv => whnf)
          exact RetReq.mk hL ⟨rfl, rfl⟩
        by_cases k5 : d.toNat = 120
        · match r, hdl with
          | [], hdl =>
            rw [show charT own [c, d] = (0, 0) by rw [hE, show escT [d] = (0, 0) by simp [escT, k5]]; rfl]
            simp only [List.length_nil] at hdl
            refine Fn.enter (N := 87) hX Tryz.func60 rfl rfl (by show _ ≤ _; simp) (fun w0 hL => ?_)
            conv => whnf
            conv => whnf
            repeat ((first | refine BrReq.yes (by omega) ?_ | refine BrReq.no (by omega) ?_ | refine StrIdxReq.mk i c rfl h0 ?_ | refine StrIdxReq.mk (i + 1) d rfl h1 ?_ | refine zT ?_ | refine zF ?_ | refine zL hX hL ?_ | refine zB hX hL ?_ | (refine zS hX hL ?_; clear hL; intro w hL) | refine zI ?_ | refine zG hX ?_ | refine zO ?_); conv => whnf)
            exact RetReq.mk hL ⟨rfl, rfl⟩
          | [a], hdl =>
            rw [show charT own [c, d, a] = (0, 0) by rw [hE, show escT [d, a] = (0, 0) by simp [escT, k5]]; rfl]
            simp only [List.length_cons, List.length_nil] at hdl
            refine Fn.enter (N := 87) hX Tryz.func60 rfl rfl (by show _ ≤ _; simp) (fun w0 hL => ?_)
            conv => whnf
            conv => whnf
            repeat ((first | refine BrReq.yes (by omega) ?_ | refine BrReq.no (by omega) ?_ | refine StrIdxReq.mk i c rfl h0 ?_ | refine StrIdxReq.mk (i + 1) d rfl h1 ?_ | refine zT ?_ | refine zF ?_ | refine zL hX hL ?_ | refine zB hX hL ?_ | (refine zS hX hL ?_; clear hL; intro w hL) | refine zI ?_ | refine zG hX ?_ | refine zO ?_); conv => whnf)
            exact RetReq.mk hL ⟨rfl, rfl⟩
          | a :: b :: x, hdl =>
            have h2 : (bs s).data[i + 2]? = some a := hget 2
            have h3 : (bs s).data[i + 3]? = some b := hget 3
            have ha := a.toNat_lt
            have hb := b.toNat_lt
            have g1 := hexN_le a.toNat
            have g2 := hexN_le b.toNat
            have f1 := value_fn m a.toNat ha
            have f2 := value_fn m b.toNat hb
            simp only [List.length_cons] at hdl
            refine Fn.enter (N := 87) hX Tryz.func60 rfl rfl (by show _ ≤ _; simp) (fun w0 hL => ?_)
            conv => whnf
            conv => whnf
            repeat ((first | refine BrReq.yes (by omega) ?_ | refine BrReq.no (by omega) ?_ | refine StrIdxReq.mk i c rfl h0 ?_ | refine StrIdxReq.mk (i + 1) d rfl h1 ?_ | refine StrIdxReq.mk (i + 2) a rfl h2 ?_ | refine zT ?_ | refine zF ?_ | refine zL hX hL ?_ | refine zB hX hL ?_ | (refine zS hX hL ?_; clear hL; intro w hL) | refine zI ?_ | refine zG hX ?_ | refine zO ?_); conv => whnf)
            refine CallReq.val f1 hL ?_
            clear hL
            intro w hL
            by_cases n1 : hexN a.toNat < 0
            · have e0 : charT own (c :: d :: a :: b :: x) = (0, 0) := by rw [hE, show escT (d :: a :: b :: x) = (0, 0) by simp [escT, k5, n1]]; rfl
              rw [e0]
              conv => whnf
              repeat ((first | refine BrReq.no (by omega) ?_ | refine zT ?_ | refine zF ?_ | refine zL hX hL ?_ | refine zB hX hL ?_ | (refine zS hX hL ?_; clear hL; intro w hL) | refine zI ?_ | refine zG hX ?_ | refine zO ?_); conv => whnf)
              exact RetReq.mk hL ⟨rfl, rfl⟩
            conv => whnf
            repeat ((first | refine BrReq.yes (by omega) ?_ | refine StrIdxReq.mk (i + 3) b rfl h3 ?_ | refine zT ?_ | refine zF ?_ | refine zL hX hL ?_ | refine zB hX hL ?_ | (refine zS hX hL ?_; clear hL; intro w hL) | refine zI ?_ | refine zG hX ?_ | refine zO ?_); conv => whnf)
            refine CallReq.val f2 hL ?_
            clear hL
            intro w hL
            by_cases n2 : hexN b.toNat < 0
            · have e0 : charT own (c :: d :: a :: b :: x) = (0, 0) := by rw [hE, show escT (d :: a :: b :: x) = (0, 0) by simp [escT, k5, n2]]; rfl
              rw [e0]
              conv => whnf
              repeat ((first | refine BrReq.no (by omega) ?_ | refine zT ?_ | refine zF ?_ | refine zL hX hL ?_ | refine zB hX hL ?_ | (refine zS hX hL ?_; clear hL; intro w hL) | refine zI ?_ | refine zG hX ?_ | refine zO ?_); conv => whnf)
              exact RetReq.mk hL ⟨rfl, rfl⟩
            obtain ⟨p, hp⟩ : ∃ p : Nat, hexN a.toNat = p := ⟨(hexN a.toNat).toNat, by omega⟩
            obtain ⟨q, hq⟩ : ∃ q : Nat, hexN b.toNat = q := ⟨(hexN b.toNat).toNat, by omega⟩
            have hE2 : escT (d :: a :: b :: x) = (16 * p + q, 3) := by
              have e1 : ¬ (hexN a.toNat < 0 ∨ hexN b.toNat < 0) := by omega
              simp only [escT]
              rw [if_neg k1, if_neg k2, if_neg k3, if_neg k4, if_pos k5, if_neg e1, hp, hq]
              congr 1
            have e0 : charT own (c :: d :: a :: b :: x) = (16 * p + q, 4) := by rw [hE, hE2]; rfl
            rw [e0]
            rw [hp] at f1 g1 n1
            rw [hq] at f2 g2 n2
            conv => whnf
            repeat ((first | refine BrReq.yes (by omega) ?_ | refine zT ?_ | refine zF ?_ | refine zL hX hL ?_ | refine zB hX hL ?_ | (refine zS hX hL ?_; clear hL; intro w hL) | refine zI ?_ | refine zG hX ?_ | refine zO ?_); conv => whnf)
            refine DrawReq.plan hX (.fst 0 (.fst 1 (.fst 2 (.fst 3 (.fst 6 (.fst 7 (.fst 8 (.fst 9 (.alt 4 (.fst 5 (.alt 10 (.fst 11 (.fst 12 (.fst 13 (.fst 14 (.done))))) (.stop))) (.stop)))))))))) [] (by kernel_rfl) (by kernel_rfl) hL id ?_
            clear hL
            intro w hL
            conv => whnf
            repeat ((first | refine StrIdxReq.mk (i + 2) a rfl h2 ?_ | refine StrIdxReq.mk (i + 3) b rfl h3 ?_ | refine zQ hX ?_ | refine zR hX ?_ | refine zA ?_ | refine zT ?_ | refine zF ?_ | refine zL hX hL ?_ | refine zB hX hL ?_ | (refine zS hX hL ?_; clear hL; intro w hL) | refine zI ?_ | refine zG hX ?_ | refine zO ?_); conv => whnf)
            refine CallReq.val f1 hL ?_
            clear hL
            intro w hL
            conv => whnf
            repeat ((first | refine SReq.mk hL ?_ | refine zQ hX ?_ | refine zR hX ?_ | refine zA ?_ | refine zT ?_ | refine zF ?_ | refine zL hX hL ?_ | refine zB hX hL ?_ | (refine zS hX hL ?_; clear hL; intro w hL) | refine zI ?_ | refine zG hX ?_ | refine zO ?_); conv => whnf)
            refine CallReq.val f2 hL ?_
            clear hL
            intro w hL
            conv => whnf
            repeat ((first | refine SReq.mk hL ?_ | refine ArReq.u8 (by omega) (by omega) ?_ | refine zQ hX ?_ | refine zR hX ?_ | refine zA ?_ | refine zT ?_ | refine zF ?_ | refine zL hX hL ?_ | refine zB hX hL ?_ | (refine zS hX hL ?_; clear hL; intro w hL) | refine zI ?_ | refine zG hX ?_ | refine zO ?_); conv => whnf)
            refine RetReq.mk hL ⟨rfl, ?_⟩
            exact congrArg (fun z : Int => Value.tuple (toArr [.int .u8 z, .int .i64 4])) (by omega)
        have hal := Alpha_fn m d.toNat hd
        have hE2 : escT (d :: r) = if isL d.toNat = true ∨ isD d.toNat = true then (0, 0) else (d.toNat, 1) := by simp only [escT]; rw [if_neg k1, if_neg k2, if_neg k3, if_neg k4, if_neg k5]
        refine Fn.enter (N := 87) hX Tryz.func60 rfl rfl (by show _ ≤ _; simp) (fun w0 hL => ?_)
        conv => whnf
        conv => whnf
        repeat ((first | refine BrReq.yes (by omega) ?_ | refine BrReq.no (by omega) ?_ | refine StrIdxReq.mk i c rfl h0 ?_ | refine StrIdxReq.mk (i + 1) d rfl h1 ?_ | refine zT ?_ | refine zF ?_ | refine zL hX hL ?_ | refine zB hX hL ?_ | (refine zS hX hL ?_; clear hL; intro w hL) | refine zI ?_ | refine zG hX ?_ | refine zO ?_); conv => whnf)
        refine CallReq.val hal hL ?_
        clear hL
        intro w hL
        cases hl1 : isL d.toNat with
        | true =>
          rw [show charT own (c :: d :: r) = (0, 0) by rw [hE, show escT (d :: r) = (0, 0) from hE2.trans (if_pos (.inl hl1))]; rfl]
          conv => whnf
          repeat ((first | refine zT ?_ | refine zF ?_ | refine zL hX hL ?_ | refine zB hX hL ?_ | (refine zS hX hL ?_; clear hL; intro w hL) | refine zI ?_ | refine zG hX ?_ | refine zO ?_); conv => whnf)
          exact RetReq.mk hL ⟨rfl, rfl⟩
        | false =>
          by_cases hd1 : isD d.toNat = true
          · rw [show charT own (c :: d :: r) = (0, 0) by rw [hE, show escT (d :: r) = (0, 0) from hE2.trans (if_pos (.inr hd1))]; rfl]
            have hd2 := (isD_iff _).1 hd1
            conv => whnf
            repeat ((first | refine BrReq.yes (by omega) ?_ | refine zT ?_ | refine zF ?_ | refine zL hX hL ?_ | refine zB hX hL ?_ | (refine zS hX hL ?_; clear hL; intro w hL) | refine zI ?_ | refine zG hX ?_ | refine zO ?_); conv => whnf)
            exact RetReq.mk hL ⟨rfl, rfl⟩
          · rw [show charT own (c :: d :: r) = (d.toNat, 2) by rw [hE, show escT (d :: r) = (d.toNat, 1) from hE2.trans (if_neg (by rw [hl1]; simp [hd1]))]; rfl]
            have hd2 : ¬ (48 ≤ d.toNat ∧ d.toNat ≤ 57) := fun h => hd1 ((isD_iff _).2 h)
            by_cases h48 : 48 ≤ d.toNat
            · conv => whnf
              repeat ((first | refine BrReq.yes (by omega) ?_ | refine BrReq.no (by omega) ?_ | refine zT ?_ | refine zF ?_ | refine zL hX hL ?_ | refine zB hX hL ?_ | (refine zS hX hL ?_; clear hL; intro w hL) | refine zI ?_ | refine zG hX ?_ | refine zO ?_); conv => whnf)
              exact RetReq.mk hL ⟨rfl, rfl⟩
            · conv => whnf
              repeat ((first | refine BrReq.yes (by omega) ?_ | refine BrReq.no (by omega) ?_ | refine zT ?_ | refine zF ?_ | refine zL hX hL ?_ | refine zB hX hL ?_ | (refine zS hX hL ?_; clear hL; intro w hL) | refine zI ?_ | refine zG hX ?_ | refine zO ?_); conv => whnf)
              exact RetReq.mk hL ⟨rfl, rfl⟩
    · have hin := in_fn m own c (by omega)
      refine Fn.enter (N := 87) hX Tryz.func60 rfl rfl (by show _ ≤ _; simp) (fun w0 hL => ?_)
      conv => whnf
      conv => whnf
      repeat ((first | refine BrReq.yes (by omega) ?_ | refine BrReq.no (by omega) ?_ | refine StrIdxReq.mk i c rfl h0 ?_ | refine zT ?_ | refine zF ?_ | refine zL hX hL ?_ | refine zB hX hL ?_ | (refine zS hX hL ?_; clear hL; intro w hL) | refine zI ?_ | refine zG hX ?_ | refine zO ?_); conv => whnf)
      refine CallReq.val hin hL ?_
      clear hL
      intro w hL
      by_cases hm : c ∈ own
      · rw [decide_eq_true hm, show charT own (c :: r) = (0, 0) by simp only [charT]; rw [if_neg k92, if_pos hm]]
        conv => whnf
        repeat ((first | refine zT ?_ | refine zF ?_ | refine zL hX hL ?_ | refine zB hX hL ?_ | (refine zS hX hL ?_; clear hL; intro w hL) | refine zI ?_ | refine zG hX ?_ | refine zO ?_); conv => whnf)
        exact RetReq.mk hL ⟨rfl, rfl⟩
      · rw [decide_eq_false hm, show charT own (c :: r) = (c.toNat, 1) by simp only [charT]; rw [if_neg k92, if_neg hm]]
        conv => whnf
        repeat ((first | refine zT ?_ | refine zF ?_ | refine zL hX hL ?_ | refine zB hX hL ?_ | (refine zS hX hL ?_; clear hL; intro w hL) | refine zI ?_ | refine zG hX ?_ | refine zO ?_); conv => whnf)
        exact RetReq.mk hL ⟨rfl, rfl⟩
end Go.Proofs.YtemdkfohlppckaaGreatDoor.lx
