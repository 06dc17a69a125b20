/- norm: Or of one node with itself. Conditions: none. -/
import Derived.Test.YtpdiljdklllmjaaGreatNoPut
import Derived.Test.YtpdiljdklllmjaaGreatNoNull

namespace Go.Proofs.YtpdiljdklllmjaaGreat.ar
open Go Go.Ev Go.Proofs

theorem clone_fn (m : Mem) (v : Value) (l : List Int) (hl : SlI m .i64 v l) (h0 : l ≠ []) (hb : l.length ≤ 1000000) :
    Ev.Fn Tryz.prog 80 [v] m [] fun m' L' u => m' = m ∧ OwnS 3 1 u (ints .i64 l) L' := by
  obtain ⟨A, n, c, rfl, hn, hc, hm, -⟩ := id hl
  have hcell := hl.cell.2
  have hmx : maxLen = 9223372036854775807 := rfl
  obtain ⟨z, l', rfl⟩ : ∃ z l', l = z :: l' := by cases l with | nil => exact absurd rfl h0 | cons z l' => exact ⟨z, l', rfl⟩
  obtain ⟨a, rfl, -⟩ := hcell 0 z rfl
  refine Fn.enter (N := 8) hX Tryz.func80 rfl rfl (by show _ ≤ _; simp) (fun w0 hL => ?_)
  conv => whnf
  conv => whnf
  repeat ((first | refine zT ?_ | refine zF ?_ | refine zL hX hL ?_ | refine zB hX hL ?_ | (refine zS hX hL ?_; clear hL; intro w hL) | refine zI ?_ | refine zG hX ?_ | refine zO ?_); conv => whnf)
  refine NewReq.mk hL ?_
  clear hL
  intro g w hL
  conv => whnf
  replace hL : Ev.Loc m [] w0 m ([(g, .cells (toArr []) 3 (0, 0))] ++ []) w := hL
  refine RunReq.append hX 79 3 rfl rfl rfl rfl rfl (OwnS.full (n := 0) (by omega) rfl) hL (news := ints .i64 (z :: l')) (by simp [ints, hn]) (fun j u hj => ?_) (fun u hu => ?_) (by simp [ints]; simp at hb; omega) rfl ?_
  · simp only [ints, List.getElem?_map] at hj
    cases hz : (z :: l')[j]? with
    | none => rw [hz] at hj; cases hj
    | some y =>
      rw [hz] at hj
      cases hj
      obtain ⟨a', e, hc'⟩ := hcell j y hz
      exact ⟨a', e, hL.cell hc'⟩
  · simp only [ints, List.mem_map] at hu
    obtain ⟨y, -, rfl⟩ := hu
    rfl
  clear hL
  intro A2 n2 c2 L2 w hn2 ho hL
  rw [List.append_nil] at hL
  conv => whnf
  repeat ((first | refine zT ?_ | refine zF ?_ | refine zL hX hL ?_ | refine zB hX hL ?_ | (refine zS hX hL ?_; clear hL; intro w hL) | refine zI ?_ | refine zG hX ?_ | refine zO ?_); conv => whnf)
  exact RetReq.mk hL ⟨rfl, ho⟩

/-- members: of one node, twice. -/
theorem members_fn (m : Mem) (ab : Nat) (ns : List Nd) (L : Own) (hA : Ar ab ns L) (x : Nd) (hx : nodeN ns 0 = (x, true)) (kd : Int) (hk : x.k ≠ kd) (v : Value) (hv : SlI m .i64 v [0, 0]) :
    Ev.Fn Tryz.prog 73 [.pointer (some ⟨ab, 0, none⟩), .int .i64 kd, v] m L fun m' L' u => m' = m ∧ ∃ Lo, L' = Lo ++ L ∧ OwnS 3 1 u (ints .i64 [0]) Lo := by
  have hnode := Node_fn m ab ns L hA 0
  rw [hx] at hnode
  simp only at hnode
  obtain ⟨A, n, c, rfl, -⟩ := id hv
  refine Fn.enter (N := 59) hX Tryz.func73 rfl rfl (by show _ ≤ _; simp) (fun w0 hL => ?_)
  conv => whnf
  generalize keys L = S0 at hL ⊢
  conv => whnf
  repeat ((first | refine zT ?_ | refine zF ?_ | refine zL hX hL ?_ | refine zB hX hL ?_ | (refine zS hX hL ?_; clear hL; intro w hL) | refine zI ?_ | refine zG hX ?_ | refine zO ?_); conv => whnf)
  refine RunReq.makeMapW hL ?_
  clear hL
  intro kb w hL
  conv => whnf
  repeat ((first | refine zT ?_ | refine zF ?_ | refine zL hX hL ?_ | refine zB hX hL ?_ | (refine zS hX hL ?_; clear hL; intro w hL) | refine zI ?_ | refine zG hX ?_ | refine zO ?_); conv => whnf)
  refine CallReq.mk (L1 := []) (L2 := (kb, mapW []) :: L) (clone_fn m _ [0, 0] hv (by simp) (by simp)) hL ?_
  clear hL
  rintro u m1 Lt w hL - ⟨rfl, ht⟩
  obtain ⟨nt, hnt, ⟨-, hn0, -⟩ | ⟨gt, ct, cur, rfl, rfl, ht1, ht2, ht3, ht4⟩⟩ := ht
  · rw [hn0] at hnt; simp [ints] at hnt
  obtain rfl : nt = 2 := by simpa [ints] using hnt.symm
  conv => whnf
  repeat ((first | refine zT ?_ | refine zF ?_ | refine zL hX hL ?_ | refine zB hX hL ?_ | (refine zS hX hL ?_; clear hL; intro w hL) | refine zI ?_ | refine zG hX ?_ | refine zO ?_); conv => whnf)
  have hct : ¬ ct = 0 := by omega
  have hcur : ∀ j, j < 2 → cur[j]? = some (.int .i64 0) := fun j hj => by
    have : (cur.take (2 * 1))[j]? = (ints .i64 [0, 0])[j]? := by rw [ht4]
    rw [List.getElem?_take_of_lt (by omega)] at this
    rw [this]
    have : j = 0 ∨ j = 1 := by omega
    rcases this with rfl | rfl <;> rfl
  have hid : IsK Tryz.prog 3 (.int .i64 0) := isK_int 0 (by unfold i64; omega)
  refine LoopReq.inv hX (fun s : Nat × Option Addr × Nat × Nat => [(7, .slice s.2.1 s.2.2.1 s.2.2.2), (9, .slice (some ⟨gt, 0, none⟩) s.1 ct)]) [0, 1, 8]
    (fun s w => s.1 ≤ 2 ∧ ∃ Lo ml, OwnS 3 1 (.slice s.2.1 s.2.2.1 s.2.2.2) (ints .i64 (if s.1 = 2 then [] else [0])) Lo ∧ (s.1 = 2 ∧ ml = [] ∨ s.1 < 2 ∧ ml = [((.int .i64 0, .bool true) : Value × Value)]) ∧ Ev.Loc m1 S0 w0 m1 ((gt, .cells (toArr cur) 3 (0, 0)) :: (kb, mapW ml) :: (Lo ++ L)) w) (fun s => s.1) (2, none, 0, 0)
    ⟨by simp, [], [], OwnS.nil _ _, .inl ⟨rfl, rfl⟩, hL⟩ ⟨rfl, rfl, trivial⟩ ?_
  clear hL
  rintro ⟨t, A1, n1, c1⟩ w f ⟨ht, Lo, ml, ho, hml, hL⟩
  simp only at ht ho hml
  have hks : ∀ y ∈ ml, IsK Tryz.prog 3 y.1 := fun y hy => by
    rcases hml with ⟨-, rfl⟩ | ⟨-, rfl⟩
    · simp at hy
    · rw [List.mem_singleton.1 hy]; exact hid
  have h3 : t = 2 ∨ t = 1 ∨ t = 0 := by omega
  rcases h3 with rfl | rfl | rfl
  · obtain rfl : ml = [] := by rcases hml with h | h; exact h.2; exact absurd h.1 (by omega)
    rw [if_pos rfl] at ho
    conv => whnf
    repeat ((first | (refine Idx2Req.mk 1 _ rfl (by simp only; omega) rfl ?_) | refine LdReq.ownAt hX rfl rfl 0 hL rfl (v := .int .i64 0) (hcur 1 (by omega)) ?_ | refine SlReq.mk 0 1 rfl rfl (by omega) (by omega) ?_ | refine zT ?_ | refine zF ?_ | refine zL hX hL ?_ | refine zB hX hL ?_ | (refine zS hX hL ?_; clear hL; intro w hL) | refine zI ?_ | refine zG hX ?_ | refine zO ?_); conv => whnf)
    refine CallReq.li (L1 := L) hnode (Loc.back (L1 := (gt, .cells (toArr cur) 3 (0, 0)) :: (kb, mapW []) :: Lo) hL) ?_
    clear hL
    intro w hL
    have hL := Loc.back (L1 := L) hL
    conv => whnf
    repeat ((first | refine zT ?_ | refine zF ?_ | refine zL hX hL ?_ | refine zB hX hL ?_ | (refine zS hX hL ?_; clear hL; intro w hL) | refine zI ?_ | refine zG hX ?_ | refine zO ?_); conv => whnf)
    refine NewReq.mk hL ?_
    clear hL
    intro b11 w hL
    conv => whnf
    replace hL : Ev.Loc m1 S0 w0 m1 ((b11, .cells (toArr (ndC nd0)) 61 (0, 0)) :: (gt, .cells (toArr cur) 3 (0, 0)) :: (kb, mapW []) :: (Lo ++ L)) w := hL
    conv => whnf
    repeat ((first | refine zT ?_ | refine zF ?_ | refine zL hX hL ?_ | refine zB hX hL ?_ | (refine zS hX hL ?_; clear hL; intro w hL) | refine zI ?_ | refine zG hX ?_ | refine zO ?_); conv => whnf)
    refine RunReq.lookW hX rfl rfl key_int (z := .bool false) (by kernel_rfl) hL (.t (.t .h)) hid hks (fun hno => ?_) (fun v hv => ?_)
    rotate_left
    · simp at hv
    · conv => whnf
      repeat ((first | refine BrReq.no hk ?_ | refine zT ?_ | refine zF ?_ | refine zL hX hL ?_ | refine zB hX hL ?_ | (refine zS hX hL ?_; clear hL; intro w hL) | refine zI ?_ | refine zG hX ?_ | refine zO ?_); conv => whnf)
      refine NewReq.mk hL ?_
      clear hL
      intro g2 w hL
      conv => whnf
      replace hL : Ev.Loc m1 S0 w0 m1 ((g2, .cells (toArr [.int .i64 0]) 3 (0, 0)) :: (b11, .cells (toArr (ndC x)) 61 (0, 0)) :: (gt, .cells (toArr cur) 3 (0, 0)) :: (kb, mapW []) :: (Lo ++ L)) w := hL
      conv => whnf
      repeat ((first | refine zT ?_ | refine zF ?_ | refine zL hX hL ?_ | refine zB hX hL ?_ | (refine zS hX hL ?_; clear hL; intro w hL) | refine zI ?_ | refine zG hX ?_ | refine zO ?_); conv => whnf)
      refine RunReq.push hX 79 3 rfl rfl rfl rfl rfl ho (L2 := L ++ [_, _, _]) (by rw [← List.append_assoc]; exact hL.perm (List.Perm.cons _ (List.perm_append_comm (l₁ := [_, _, _]) (l₂ := Lo ++ L)))) rfl rfl (by simp [ints]) rfl ?_
      clear hL
      intro A2 n2 c2 L2 w hn2 ho2 hL
      rw [← List.append_assoc] at hL
      have hL := Loc.back (L1 := L2 ++ L) (L2 := [_, _, _]) hL
      replace hL : Ev.Loc m1 S0 w0 m1 ((b11, .cells (toArr (ndC x)) 61 (0, 0)) :: (gt, .cells (toArr cur) 3 (0, 0)) :: (kb, mapW []) :: (L2 ++ L)) w := hL
      conv => whnf
      repeat ((first | refine zT ?_ | refine zF ?_ | refine zL hX hL ?_ | refine zB hX hL ?_ | (refine zS hX hL ?_; clear hL; intro w hL) | refine zI ?_ | refine zG hX ?_ | refine zO ?_); conv => whnf)
      refine RunUReq.updW hX rfl rfl key_int (k := .int .i64 0) (v := .bool true) 2 hL rfl hid (by simp) (fun _ w hL => ?_) (fun q u hq w hL => ?_)
      · replace hL : Ev.Loc m1 S0 w0 m1 ((b11, .cells (toArr (ndC x)) 61 (0, 0)) :: (gt, .cells (toArr cur) 3 (0, 0)) :: (kb, mapW [((.int .i64 0, .bool true) : Value × Value)]) :: (L2 ++ L)) w := hL
        conv => whnf
        repeat ((first | refine zT ?_ | refine zF ?_ | refine zL hX hL ?_ | refine zB hX hL ?_ | (refine zS hX hL ?_; clear hL; intro w hL) | refine zI ?_ | refine zG hX ?_ | refine zO ?_); conv => whnf)
        refine ⟨(1, A2, n2, c2), ⟨by omega, L2, _, ho2, .inr ⟨by omega, rfl⟩, hL.drop⟩, by first | omega | (simp only; omega), ?_, ?_⟩
        · repeat (first | exact trivial | (refine And.intro (by (conv => lhs; whnf) <;> (conv => rhs; whnf) <;> (first | rfl | (rw [if_neg hct]; rfl))) ?_))
        · repeat (first | exact trivial | (refine And.intro (by (conv => lhs; whnf) <;> (conv => rhs; whnf) <;> (first | rfl | (rw [if_neg hct]; rfl))) ?_))
      · simp at hq
  · obtain rfl : ml = [(.int .i64 0, .bool true)] := by rcases hml with h | h; exact absurd h.1 (by omega); exact h.2
    rw [if_neg (by omega)] at ho
    conv => whnf
    repeat ((first | (refine Idx2Req.mk 0 _ rfl (by simp only; omega) rfl ?_) | refine LdReq.ownAt hX rfl rfl 0 hL rfl (v := .int .i64 0) (hcur 0 (by omega)) ?_ | refine SlReq.mk 0 0 rfl rfl (by omega) (by omega) ?_ | refine zT ?_ | refine zF ?_ | refine zL hX hL ?_ | refine zB hX hL ?_ | (refine zS hX hL ?_; clear hL; intro w hL) | refine zI ?_ | refine zG hX ?_ | refine zO ?_); conv => whnf)
    refine CallReq.li (L1 := L) hnode (Loc.back (L1 := (gt, .cells (toArr cur) 3 (0, 0)) :: (kb, mapW [((.int .i64 0, .bool true) : Value × Value)]) :: Lo) hL) ?_
    clear hL
    intro w hL
    have hL := Loc.back (L1 := L) hL
    conv => whnf
    repeat ((first | refine zT ?_ | refine zF ?_ | refine zL hX hL ?_ | refine zB hX hL ?_ | (refine zS hX hL ?_; clear hL; intro w hL) | refine zI ?_ | refine zG hX ?_ | refine zO ?_); conv => whnf)
    refine NewReq.mk hL ?_
    clear hL
    intro b11 w hL
    conv => whnf
    replace hL : Ev.Loc m1 S0 w0 m1 ((b11, .cells (toArr (ndC nd0)) 61 (0, 0)) :: (gt, .cells (toArr cur) 3 (0, 0)) :: (kb, mapW [((.int .i64 0, .bool true) : Value × Value)]) :: (Lo ++ L)) w := hL
    conv => whnf
    repeat ((first | refine zT ?_ | refine zF ?_ | refine zL hX hL ?_ | refine zB hX hL ?_ | (refine zS hX hL ?_; clear hL; intro w hL) | refine zI ?_ | refine zG hX ?_ | refine zO ?_); conv => whnf)
    refine RunReq.lookW hX rfl rfl key_int (z := .bool false) (by kernel_rfl) hL (.t (.t .h)) hid hks (fun hno => ?_) (fun v hv => ?_)
    · exact absurd rfl (hno (.int .i64 0, .bool true) (by simp))
    · obtain rfl : v = .bool true := congrArg Prod.snd (List.mem_singleton.1 hv)
      conv => whnf
      repeat ((first | refine zT ?_ | refine zF ?_ | refine zL hX hL ?_ | refine zB hX hL ?_ | (refine zS hX hL ?_; clear hL; intro w hL) | refine zI ?_ | refine zG hX ?_ | refine zO ?_); conv => whnf)
      refine RunUReq.updW hX rfl rfl key_int (k := .int .i64 0) (v := .bool true) 2 hL rfl hid hks (fun hno _ _ => absurd rfl (hno (.int .i64 0, .bool true) (by simp))) (fun q u hq w hL => ?_)
      obtain rfl : q = 0 := by
        have := (List.getElem?_eq_some_iff.1 hq).1
        simp at this; omega
      replace hL : Ev.Loc m1 S0 w0 m1 ((b11, .cells (toArr (ndC x)) 61 (0, 0)) :: (gt, .cells (toArr cur) 3 (0, 0)) :: (kb, mapW [((.int .i64 0, .bool true) : Value × Value)]) :: (Lo ++ L)) w := hL
      conv => whnf
      repeat ((first | refine zT ?_ | refine zF ?_ | refine zL hX hL ?_ | refine zB hX hL ?_ | (refine zS hX hL ?_; clear hL; intro w hL) | refine zI ?_ | refine zG hX ?_ | refine zO ?_); conv => whnf)
      refine ⟨(0, A1, n1, c1), ⟨by omega, Lo, _, ho, .inr ⟨by omega, rfl⟩, hL.drop⟩, by first | omega | (simp only; omega), ?_, ?_⟩
      · repeat (first | exact trivial | (refine And.intro (by (conv => lhs; whnf) <;> (conv => rhs; whnf) <;> (first | rfl | (rw [if_neg hct]; rfl))) ?_))
      · repeat (first | exact trivial | (refine And.intro (by (conv => lhs; whnf) <;> (conv => rhs; whnf) <;> (first | rfl | (rw [if_neg hct]; rfl))) ?_))
  · rw [if_neg (by omega)] at ho
    conv => whnf
    repeat ((first | refine zT ?_ | refine zF ?_ | refine zL hX hL ?_ | refine zB hX hL ?_ | (refine zS hX hL ?_; clear hL; intro w hL) | refine zI ?_ | refine zG hX ?_ | refine zO ?_); conv => whnf)
    exact RetReq.mk hL.drop.drop ⟨rfl, Lo, rfl, ho⟩
end Go.Proofs.YtpdiljdklllmjaaGreat.ar
