/- All words of a text, as the document reads them. Conditions: none. -/
import Derived.Test.YtemdkfohlppckaaGreatDoorLxRefE
import Derived.Test.YtemdkfohlppckaaGreatDoorLxPlain

namespace Go.Proofs.YtemdkfohlppckaaGreatDoor.lx
open Go Go.Ev Go.Proofs

theorem refWords_fn (m : Mem) (s : List UInt8) (hl : s.length ≤ 1000000) : Fn0 Tryz.prog 17 [.string (bs s)] m fun m' v => ∃ sl, v = .tuple (toArr [sl, .int .i64 (outT s).2.1, .int .i64 (outT s).2.2]) ∧ Sl m' 9 isW sl (outT s).1 := by
  have hsz := bs_size s
  unfold outT
  refine Fn.enter (N := 41) hX Tryz.func17 rfl rfl (by show _ ≤ _; simp) (fun w0 hL => ?_)
  conv => whnf
  conv => whnf
  repeat ((first | refine zT ?_ | refine zF ?_ | refine zL hX hL ?_ | refine zB hX hL ?_ | (refine zS hX hL ?_; clear hL; intro w hL) | refine zI ?_ | refine zG hX ?_ | refine zO ?_); conv => whnf)
  refine BrReq.dec (fun h1 => ?_) (fun h1 => ?_)
  · rw [if_pos (by omega)]
    conv => whnf
    repeat ((first | refine zT ?_ | refine zF ?_ | refine zL hX hL ?_ | refine zB hX hL ?_ | (refine zS hX hL ?_; clear hL; intro w hL) | refine zI ?_ | refine zG hX ?_ | refine zO ?_); conv => whnf)
    exact RetReq.mk hL ⟨rfl, .slice none 0 0, rfl, sl_nil⟩
  rw [if_neg (by omega)]
  conv => whnf
  repeat ((first | refine zT ?_ | refine zF ?_ | refine zL hX hL ?_ | refine zB hX hL ?_ | (refine zS hX hL ?_; clear hL; intro w hL) | refine zI ?_ | refine zG hX ?_ | refine zO ?_); conv => whnf)
  replace hL : Ev.Loc m [] w0 m ([] ++ []) w0 := hL
  refine LoopReq.inv hX (fun t : Nat × Option Addr × Nat × Nat => [(5, .slice t.2.1 t.2.2.1 t.2.2.2), (6, .int .i64 (t.1 : Nat))]) [0]
    (fun t w => t.1 ≤ s.length ∧ ∃ out Lx, OwnS 57 9 (.slice t.2.1 t.2.2.1 t.2.2.2) (List.flatten (rowsW out)) Lx ∧ List.length out ≤ t.1 ∧ (∃ k, (s.drop t.1).length < k ∧ goT k (s.drop t.1) t.1 out = wordsT s) ∧ Ev.Loc m [] w0 m (Lx ++ []) w) (fun t => s.length - t.1) (0, none, 0, 0)
    ⟨by simp, [], [], OwnS.nil _ _, by simp, ⟨s.length + 1, by simp, rfl⟩, hL⟩ ⟨rfl, rfl, trivial⟩ ?_
  clear hL
  rintro ⟨i, A0, n0, c0⟩ w e ⟨hi, out, Lx, ho, hlen, ⟨k, hk, hgo⟩, hL⟩
  simp only at hi ho hlen hk hgo
  cases k with
  | zero => omega
  | succ k =>
  conv => whnf
  repeat ((first | refine zT ?_ | refine zF ?_ | refine zL hX hL ?_ | refine zB hX hL ?_ | (refine zS hX hL ?_; clear hL; intro w hL) | refine zI ?_ | refine zG hX ?_ | refine zO ?_); conv => whnf)
  refine BrReq.dec (fun hlt => ?_) (fun hlt => ?_)
  · have hi1 : i < s.length := by omega
    have hgc : (bs s).data[i]? = some s[i] := by rw [bs_get, List.getElem?_eq_getElem hi1]
    have hdr : s.drop i = s[i] :: s.drop (i + 1) := List.drop_eq_getElem_cons hi1
    have hword := refWord_fn m s i hi1 hl
    rw [hdr] at hgo hk hword
    have hstl := stepT_len (s[i] :: s.drop (i + 1))
    rw [← hdr, List.length_drop, hdr] at hstl
    generalize s[i] = c at *
    conv => whnf
    repeat ((first | refine StrIdxReq.mk i c rfl hgc ?_ | refine zT ?_ | refine zF ?_ | refine zL hX hL ?_ | refine zB hX hL ?_ | (refine zS hX hL ?_; clear hL; intro w hL) | refine zI ?_ | refine zG hX ?_ | refine zO ?_); conv => whnf)
    refine CallReq.val (in_fn m [32, 10, 9, 13] c (by decide)) hL ?_
    clear hL
    intro w hL
    simp only [goT] at hgo
    by_cases hb : c ∈ ([32, 10, 9, 13] : List UInt8)
    · rw [if_pos (show blankT c = true from decide_eq_true hb)] at hgo
      rw [decide_eq_true hb]
      conv => whnf
      repeat ((first | refine zT ?_ | refine zF ?_ | refine zL hX hL ?_ | refine zB hX hL ?_ | (refine zS hX hL ?_; clear hL; intro w hL) | refine zI ?_ | refine zG hX ?_ | refine zO ?_); conv => whnf)
      refine ⟨(i + 1, A0, n0, c0), ⟨by simp only; omega, out, Lx, ho, by simp only; omega, ⟨k, by simp only [List.length_cons, List.length_drop] at hk ⊢; omega, hgo⟩, hL⟩, by first | omega | (simp only; omega) | (simp only [List.length_cons, List.length_append]; omega), ?_, ?_⟩
      · repeat (first | exact trivial | (refine And.intro (by (conv => lhs; whnf) <;> (conv => rhs; whnf) <;> (first | rfl)) ?_))
      · repeat (first | exact trivial | (refine And.intro (by (conv => lhs; whnf) <;> (conv => rhs; whnf) <;> (first | rfl)) ?_))
    · rw [if_neg (show ¬ blankT c = true from by unfold blankT; simp [hb])] at hgo
      rw [decide_eq_false hb]
      conv => whnf
      repeat ((first | refine zT ?_ | refine zF ?_ | refine zL hX hL ?_ | refine zB hX hL ?_ | (refine zS hX hL ?_; clear hL; intro w hL) | refine zI ?_ | refine zG hX ?_ | refine zO ?_); conv => whnf)
      refine CallReq.pure hword hL ?_
      clear hL
      rintro u m1 w hL - ⟨rfl, x, n, rfl, h1, h2⟩
      conv => whnf
      repeat ((first | refine zT ?_ | refine zF ?_ | refine zL hX hL ?_ | refine zB hX hL ?_ | (refine zS hX hL ?_; clear hL; intro w hL) | refine zI ?_ | refine zG hX ?_ | refine zO ?_); conv => whnf)
      refine NewReq.mk hL ?_
      clear hL
      intro b7 w hL
      conv => whnf
      rw [← h1] at hgo hstl
      by_cases hn0 : n = 0
      · rw [if_pos hn0] at hgo
        rw [← hgo]
        conv => whnf
        repeat ((first | refine BrReq.yes (by omega) ?_ | refine zT ?_ | refine zF ?_ | refine zL hX hL ?_ | refine zB hX hL ?_ | (refine zS hX hL ?_; clear hL; intro w hL) | refine zI ?_ | refine zG hX ?_ | refine zO ?_); conv => whnf)
        refine RetReq.mk (hL.sublist (List.nil_sublist _)) ⟨rfl, .slice none 0 0, rfl, sl_nil⟩
      · rw [if_neg hn0, ← h2 hn0] at hgo
        have e1 : (c :: s.drop (i + 1)).drop n = s.drop (i + n) := by rw [← hdr, List.drop_drop]
        rw [e1] at hgo
        conv => whnf
        repeat ((first | refine BrReq.no (by omega) ?_ | refine zT ?_ | refine zF ?_ | refine zL hX hL ?_ | refine zB hX hL ?_ | (refine zS hX hL ?_; clear hL; intro w hL) | refine zI ?_ | refine zG hX ?_ | refine zO ?_); conv => whnf)
        replace hL : Ev.Loc m1 [] w0 m1 ((b7, .cells (toArr (wC i x)) 57 (0, 0)) :: (Lx ++ [])) w := hL
        conv => whnf
        repeat ((first | refine zT ?_ | refine zF ?_ | refine zL hX hL ?_ | refine zB hX hL ?_ | (refine zS hX hL ?_; clear hL; intro w hL) | refine zI ?_ | refine zG hX ?_ | refine zO ?_); conv => whnf)
        refine NewReq.mk hL ?_
        clear hL
        intro g w hL
        conv => whnf
        replace hL : Ev.Loc m1 [] w0 m1 ((g, .cells (toArr (wC i x)) 57 (0, 0)) :: ([(b7, .cells (toArr (wC i x)) 57 (0, 0))] ++ (Lx ++ []))) w := hL
        conv => whnf
        repeat ((first | refine zT ?_ | refine zF ?_ | refine zL hX hL ?_ | refine zB hX hL ?_ | (refine zS hX hL ?_; clear hL; intro w hL) | refine zI ?_ | refine zG hX ?_ | refine zO ?_); conv => whnf)
        refine RunReq.push hX 53 57 rfl rfl rfl rfl rfl ho (L2 := [_]) (hL.perm (List.Perm.cons _ (by rw [List.append_nil]; exact List.perm_append_comm))) rfl rfl (by rw [rowsW_len]; show _ + 9 ≤ _; omega) rfl ?_
        clear hL
        intro A3 n3 c3 L3 w hn3 ho3 hL
        rw [← rowsW_snoc out (i, x)] at ho3
        replace hL : Ev.Loc m1 [] w0 m1 (L3 ++ []) w := hL.sublist (List.Sublist.append_left (List.nil_sublist _) _)
        conv => whnf
        repeat ((first | refine zT ?_ | refine zF ?_ | refine zL hX hL ?_ | refine zB hX hL ?_ | (refine zS hX hL ?_; clear hL; intro w hL) | refine zI ?_ | refine zG hX ?_ | refine zO ?_); conv => whnf)
        refine ⟨(i + n, A3, n3, c3), ⟨by simp only; omega, out ++ [(i, x)], L3, ho3, by simp only [List.length_append, List.length_singleton]; omega, ⟨k, by simp only [List.length_cons, List.length_drop] at hk ⊢; omega, hgo⟩, hL⟩, by first | omega | (simp only; omega) | (simp only [List.length_cons, List.length_append]; omega), ?_, ?_⟩
        · repeat (first | exact trivial | (refine And.intro (by (conv => lhs; whnf) <;> (conv => rhs; whnf) <;> (first | rfl)) ?_))
        · repeat (first | exact trivial | (refine And.intro (by (conv => lhs; whnf) <;> (conv => rhs; whnf) <;> (first | rfl)) ?_))
  · have ei : i = s.length := by omega
    rw [ei, List.drop_length, goT] at hgo
    rw [← hgo]
    obtain ⟨m2, A', c', ev, hL2, hm2, hsl, -⟩ := OwnS.freezeRows (size := 9) (R := isW) (l := out) (L2 := []) (by omega) ho hL (rowsW_nine out) (by simp [rowsW]) (fun i x hx => ⟨wC x.1 x.2, by simp [rowsW, hx], rfl⟩)
    clear hL
    have hL := hL2
    conv => whnf
    repeat ((first | refine zT ?_ | refine zF ?_ | refine zL hX hL ?_ | refine zB hX hL ?_ | (refine zS hX hL ?_; clear hL; intro w hL) | refine zI ?_ | refine zG hX ?_ | refine zO ?_); conv => whnf)
    exact RetReq.mk hL ⟨rfl, _, rfl, hsl⟩
end Go.Proofs.YtemdkfohlppckaaGreatDoor.lx
