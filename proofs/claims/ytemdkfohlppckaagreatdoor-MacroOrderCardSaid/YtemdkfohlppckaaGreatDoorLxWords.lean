/- All words of a text, as the program reads them. Conditions: the laid variables are what they are. -/
import Derived.Test.YtemdkfohlppckaaGreatDoorLxWord

namespace Go.Proofs.YtemdkfohlppckaaGreatDoor.lx
open Go Go.Ev Go.Proofs

def rowsW (l : List (Nat × W)) : List (List Value) := l.map fun x => wC x.1 x.2
theorem rowsW_nine (l : List (Nat × W)) : ∀ r ∈ rowsW l, r.length = 9 := by
  intro r hr
  obtain ⟨x, _, rfl⟩ := List.mem_map.1 hr
  rfl
theorem rowsW_snoc (l : List (Nat × W)) (x : Nat × W) : (rowsW (l ++ [x])).flatten = (rowsW l).flatten ++ wC x.1 x.2 := by simp [rowsW]
theorem rowsW_len (l : List (Nat × W)) : (rowsW l).flatten.length = l.length * 9 := by
  rw [flat_len _ (rowsW_nine l)]; simp [rowsW]
theorem sl_nil {m : Mem} {size : Nat} {α : Type} {R : List Value → α → Prop} : Sl m size R (.slice none 0 0) [] := ⟨none, 0, 0, rfl, rfl, Nat.le_refl _, Nat.zero_le _, fun i x h => by cases h⟩

theorem Words_fn (m : Mem) (hQ : LibMem m) (s : List UInt8) (hl : s.length ≤ 1000000) : Fn0 Tryz.prog 19 [.string (bs s)] m fun m' v => ∃ sl, v = .tuple (toArr [sl, .int .i64 (outT s).2.1, .int .i64 (outT s).2.2]) ∧ Sl m' 9 isW sl (outT s).1 := by
  have hsz := bs_size s
  unfold outT
  refine Fn.enter (N := 57) hX Tryz.func19 rfl rfl (by show _ ≤ _; simp) (fun w0 hL => ?_)
  conv => whnf
  conv => whnf
  repeat ((first | refine zT ?_ | refine zF ?_ | refine zL hX hL ?_ | refine zB hX hL ?_ | (refine zS hX hL ?_; clear hL; intro w hL) | refine zI ?_ | refine zG hX ?_ | refine zO ?_); conv => whnf)
  refine BrReq.dec (fun h1 => ?_) (fun h1 => ?_)
  · rw [if_pos (by omega)]
    conv => whnf
    repeat ((first | refine zT ?_ | refine zF ?_ | refine zL hX hL ?_ | refine zB hX hL ?_ | (refine zS hX hL ?_; clear hL; intro w hL) | refine zI ?_ | refine zG hX ?_ | refine zO ?_); conv => whnf)
    exact RetReq.mk hL ⟨rfl, .slice none 0 0, rfl, sl_nil⟩
  rw [if_neg (by omega)]
  conv => whnf
  repeat ((first | refine zT ?_ | refine zF ?_ | refine zL hX hL ?_ | refine zB hX hL ?_ | (refine zS hX hL ?_; clear hL; intro w hL) | refine zI ?_ | refine zG hX ?_ | refine zO ?_); conv => whnf)
  refine NewReq.mk hL ?_
  clear hL
  intro b6 w hL
  conv => whnf
  replace hL : Ev.Loc m [] w0 m ((b6, scO s 0) :: []) w := hL
  conv => whnf
  repeat ((first | refine zT ?_ | refine zF ?_ | refine zL hX hL ?_ | refine zB hX hL ?_ | (refine zS hX hL ?_; clear hL; intro w hL) | refine zI ?_ | refine zG hX ?_ | refine zO ?_); conv => whnf)
  refine LoopReq.inv hX (fun t : Nat × Option Addr × Nat × Nat => [(5, .slice t.2.1 t.2.2.1 t.2.2.2)]) [0, 6]
    (fun t w => t.1 ≤ s.length ∧ ∃ out Lx, OwnS 57 9 (.slice t.2.1 t.2.2.1 t.2.2.2) (List.flatten (rowsW out)) Lx ∧ List.length out ≤ t.1 ∧ (∃ k, (s.drop t.1).length < k ∧ goT k (s.drop t.1) t.1 out = wordsT s) ∧ Ev.Loc m [] w0 m ((b6, scO s t.1) :: Lx) w) (fun t => s.length - t.1) (0, none, 0, 0)
    ⟨by simp, [], [], OwnS.nil _ _, by simp, ⟨s.length + 1, by simp, rfl⟩, hL⟩ ⟨rfl, trivial⟩ ?_
  clear hL
  rintro ⟨i, A0, n0, c0⟩ w e ⟨hi, out, Lx, ho, hlen, ⟨k, hk, hgo⟩, hL⟩
  simp only at hi ho hlen hk hgo
  replace hL : Ev.Loc m [] w0 m ((b6, .cells (toArr [.string (bs s), .int .i64 i]) 83 (0, 0)) :: Lx) w := hL
  cases k with
  | zero => omega
  | succ k =>
  conv => whnf
  repeat ((first | refine zT ?_ | refine zF ?_ | refine zL hX hL ?_ | refine zB hX hL ?_ | (refine zS hX hL ?_; clear hL; intro w hL) | refine zI ?_ | refine zG hX ?_ | refine zO ?_); conv => whnf)
  refine BrReq.dec (fun hlt => ?_) (fun hlt => ?_)
  · have hi1 : i < s.length := by omega
    have hgc : (bs s).data[i]? = some s[i] := by rw [bs_get, List.getElem?_eq_getElem hi1]
    have hdr : s.drop i = s[i] :: s.drop (i + 1) := List.drop_eq_getElem_cons hi1
    have hdl : (s.drop (i + 1)).length = s.length - (i + 1) := List.length_drop
    have hdl0 : (s.drop i).length = s.length - i := List.length_drop
    have hword := word_fn m hQ b6 s i hi1 hl
    rw [hdr] at hgo hk hword
    generalize s[i] = c at *
    have hix := ix_in [32, 10, 9, 13] c
    conv => whnf
    repeat ((first | refine StrIdxReq.mk i c rfl hgc ?_ | refine zT ?_ | refine zF ?_ | refine zL hX hL ?_ | refine zB hX hL ?_ | (refine zS hX hL ?_; clear hL; intro w hL) | refine zI ?_ | refine zG hX ?_ | refine zO ?_); conv => whnf)
    refine CallReq.val (indexByte_fn m [32, 10, 9, 13] c) hL ?_
    clear hL
    intro w hL
    simp only [goT] at hgo
    by_cases hb : c ∈ ([32, 10, 9, 13] : List UInt8)
    · rw [if_pos (show blankT c = true from decide_eq_true hb)] at hgo
      conv => whnf
      repeat ((first | refine BrReq.yes (hix.1.2 hb) ?_ | refine zT ?_ | refine zF ?_ | refine zL hX hL ?_ | refine zB hX hL ?_ | (refine zS hX hL ?_; clear hL; intro w hL) | refine zI ?_ | refine zG hX ?_ | refine zO ?_); conv => whnf)
      replace hL : Ev.Loc m [] w0 m ((b6, scO s (i + 1)) :: Lx) w := hL
      refine ⟨(i + 1, A0, n0, c0), ⟨by simp only; omega, out, Lx, ho, by simp only; omega, ⟨k, by simp only [List.length_cons, List.length_drop] at hk ⊢; omega, hgo⟩, hL⟩, by first | omega | (simp only; omega) | (simp only [List.length_cons, List.length_append]; omega), ?_, ?_⟩
      · repeat (first | exact trivial | (refine And.intro (by (conv => lhs; whnf) <;> (conv => rhs; whnf) <;> (first | rfl)) ?_))
      · repeat (first | exact trivial | (refine And.intro (by (conv => lhs; whnf) <;> (conv => rhs; whnf) <;> (first | rfl)) ?_))
    · rw [if_neg (show ¬ blankT c = true from by unfold blankT; simp [hb])] at hgo
      conv => whnf
      repeat ((first | refine BrReq.no (fun h => hb (hix.1.1 h)) ?_ | refine zT ?_ | refine zF ?_ | refine zL hX hL ?_ | refine zB hX hL ?_ | (refine zS hX hL ?_; clear hL; intro w hL) | refine zI ?_ | refine zG hX ?_ | refine zO ?_); conv => whnf)
      replace hL : Ev.Loc m [] w0 m ([(b6, scO s i)] ++ Lx) w := hL
      refine CallReq.mk hword hL ?_
      clear hL
      rintro u m1 L' w hL - ⟨rfl, x, ok, j, hj, rfl, rfl, h1, h2⟩
      replace hL : Ev.Loc m1 [] w0 m1 ((b6, scO s j) :: Lx) w := hL
      conv => whnf
      repeat ((first | refine zT ?_ | refine zF ?_ | refine zL hX hL ?_ | refine zB hX hL ?_ | (refine zS hX hL ?_; clear hL; intro w hL) | refine zI ?_ | refine zG hX ?_ | refine zO ?_); conv => whnf)
      refine NewReq.mk hL ?_
      clear hL
      intro b8 w hL
      conv => whnf
      conv => whnf
      repeat ((first | refine zT ?_ | refine zF ?_ | refine zL hX hL ?_ | refine zB hX hL ?_ | (refine zS hX hL ?_; clear hL; intro w hL) | refine zI ?_ | refine zG hX ?_ | refine zO ?_); conv => whnf)
      cases ok with
      | false =>
        rw [if_pos (h2 rfl)] at hgo
        rw [← hgo]
        conv => whnf
        repeat ((first | refine zT ?_ | refine zF ?_ | refine zL hX hL ?_ | refine zB hX hL ?_ | (refine zS hX hL ?_; clear hL; intro w hL) | refine zI ?_ | refine zG hX ?_ | refine zO ?_); conv => whnf)
        refine RetReq.mk (hL.sublist (List.nil_sublist _)) ⟨rfl, .slice none 0 0, rfl, sl_nil⟩
      | true =>
        obtain ⟨g1, g2⟩ := h1 rfl
        rw [g2, if_neg (by simp only; omega)] at hgo
        simp only at hgo
        have e1 : (c :: s.drop (i + 1)).drop (j - i) = s.drop j := by rw [← hdr, List.drop_drop]; congr 1; omega
        have e2 : i + (j - i) = j := by omega
        rw [e1, e2] at hgo
        replace hL : Ev.Loc m1 [] w0 m1 ((b8, .cells (toArr (wC 0 x)) 57 (0, 0)) :: (b6, scO s j) :: Lx) w := hL
        conv => whnf
        repeat ((first | refine zT ?_ | refine zF ?_ | refine zL hX hL ?_ | refine zB hX hL ?_ | (refine zS hX hL ?_; clear hL; intro w hL) | refine zI ?_ | refine zG hX ?_ | refine zO ?_); conv => whnf)
        refine NewReq.mk hL ?_
        clear hL
        intro g w hL
        conv => whnf
        replace hL : Ev.Loc m1 [] w0 m1 ((g, .cells (toArr (wC i x)) 57 (0, 0)) :: ([(b8, .cells (toArr (wC i x)) 57 (0, 0)), (b6, scO s j)] ++ Lx)) w := hL
        conv => whnf
        repeat ((first | refine zT ?_ | refine zF ?_ | refine zL hX hL ?_ | refine zB hX hL ?_ | (refine zS hX hL ?_; clear hL; intro w hL) | refine zI ?_ | refine zG hX ?_ | refine zO ?_); conv => whnf)
        refine RunReq.push hX 53 57 rfl rfl rfl rfl rfl ho (L2 := [_, _]) (hL.perm (List.Perm.cons _ List.perm_append_comm)) rfl rfl (by rw [rowsW_len]; show _ + 9 ≤ _; omega) rfl ?_
        clear hL
        intro A3 n3 c3 L3 w hn3 ho3 hL
        rw [← rowsW_snoc out (i, x)] at ho3
        have hL := hL.back
        replace hL : Ev.Loc m1 [] w0 m1 ((b6, scO s j) :: L3) w := hL.drop
        conv => whnf
        repeat ((first | refine zT ?_ | refine zF ?_ | refine zL hX hL ?_ | refine zB hX hL ?_ | (refine zS hX hL ?_; clear hL; intro w hL) | refine zI ?_ | refine zG hX ?_ | refine zO ?_); conv => whnf)
        refine ⟨(j, A3, n3, c3), ⟨hj, out ++ [(i, x)], L3, ho3, by simp only [List.length_append, List.length_singleton]; omega, ⟨k, by simp only [List.length_cons, List.length_drop] at hk ⊢; omega, hgo⟩, hL⟩, by first | omega | (simp only; omega) | (simp only [List.length_cons, List.length_append]; omega), ?_, ?_⟩
        · repeat (first | exact trivial | (refine And.intro (by (conv => lhs; whnf) <;> (conv => rhs; whnf) <;> (first | rfl)) ?_))
        · repeat (first | exact trivial | (refine And.intro (by (conv => lhs; whnf) <;> (conv => rhs; whnf) <;> (first | rfl)) ?_))
  · have ei : i = s.length := by omega
    rw [ei, List.drop_length, goT] at hgo
    rw [← hgo]
    obtain ⟨m2, A', c', ev, hL2, hm2, hsl, -⟩ := OwnS.freezeRows (size := 9) (R := isW) (l := out) (L2 := [_]) (by omega) ho (hL.perm (List.perm_append_comm (l₁ := [_]) (l₂ := Lx))) (rowsW_nine out) (by simp [rowsW]) (fun i x hx => ⟨wC x.1 x.2, by simp [rowsW, hx], rfl⟩)
    clear hL
    have hL := hL2
    conv => whnf
    repeat ((first | refine zT ?_ | refine zF ?_ | refine zL hX hL ?_ | refine zB hX hL ?_ | (refine zS hX hL ?_; clear hL; intro w hL) | refine zI ?_ | refine zG hX ?_ | refine zO ?_); conv => whnf)
    exact RetReq.mk hL.drop ⟨rfl, _, rfl, hsl⟩
end Go.Proofs.YtemdkfohlppckaaGreatDoor.lx
