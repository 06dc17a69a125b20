/- Macros: reaches, cycles, next, walked. Conditions: none. -/
import Derived.Test.YtemdkfohlppckaaGreatDoorMaLean

namespace Go.Proofs.YtemdkfohlppckaaGreatDoor.ma
open Go Go.Ev Go.Proofs Go.Proofs.YtemdkfohlppckaaGreatDoor.lx Go.Proofs.YtemdkfohlppckaaGreatDoor.tree Go.Proofs.YtemdkfohlppckaaGreatDoor.pa

theorem cloneI_fn (m : Mem) (v : Value) (l : List Int) (hl : SlI m .i64 v l) (hb : l.length ≤ 1000000) :
    Ev.Fn Tryz.prog 53 [v] m [] fun m' L' u => m' = m ∧ OwnS 3 1 u (ints .i64 l) L' := by
  obtain ⟨A, n, c, rfl, hn, hc, hm, -⟩ := id hl
  have hsrc := fun {w0 w : World} {S : List Nat} {L : Ev.Own} (hL : Ev.Loc m S w0 m L w) => hl.src hL
  cases A with
  | none =>
    have hl0 := hl.none_nil
    subst hl0
    refine Fn.enter (N := 8) hX Tryz.func53 rfl rfl (by show _ ≤ _; simp) (fun w0 hL => ?_)
    conv => whnf
    conv => whnf
    repeat ((first | refine zT ?_ | refine zF ?_ | refine zL hX hL ?_ | refine zB hX hL ?_ | (refine zS hX hL ?_; clear hL; intro w hL) | refine zI ?_ | refine zG hX ?_ | refine zO ?_); conv => whnf)
    exact RetReq.mk hL ⟨rfl, OwnS.nil _ _⟩
  | some a =>
    refine Fn.enter (N := 8) hX Tryz.func53 rfl rfl (by show _ ≤ _; simp) (fun w0 hL => ?_)
    conv => whnf
    conv => whnf
    repeat ((first | refine zT ?_ | refine zF ?_ | refine zL hX hL ?_ | refine zB hX hL ?_ | (refine zS hX hL ?_; clear hL; intro w hL) | refine zI ?_ | refine zG hX ?_ | refine zO ?_); conv => whnf)
    refine NewReq.mk hL ?_
    clear hL
    intro g w hL
    conv => whnf
    replace hL : Ev.Loc m [] w0 m ([(g, .cells (toArr []) 3 (0, 0))] ++ []) w := hL
    refine RunReq.append hX 71 3 rfl rfl rfl rfl rfl (OwnS.full (n := 0) (by omega) rfl) hL (hl.src hL).1 (hl.src hL).2 (ints_one _ _) (by simp only [ints, List.length_map, List.length_nil]; omega) rfl ?_
    clear hL
    intro A2 n2 c2 L2 w hn2 ho hL
    rw [List.append_nil] at hL
    conv => whnf
    repeat ((first | refine zT ?_ | refine zF ?_ | refine zL hX hL ?_ | refine zB hX hL ?_ | (refine zS hX hL ?_; clear hL; intro w hL) | refine zI ?_ | refine zG hX ?_ | refine zO ?_); conv => whnf)
    exact RetReq.mk hL ⟨rfl, ho⟩

theorem onI_mem {l : Ms} {i : Nat} : onI l (wrM l i) = (onM l i).map fun k : Nat => (k : Int) := rfl
theorem onI_on_len {l : Ms} {i : Nat} (h : (onM l i).length ≤ 10000) : (onI l (wrM l i)).length ≤ 10000 := by rw [onI_mem, List.length_map]; exact h
/-- A list of numbers, as cells. -/
def intN (t : List Nat) : List Value := ints .i64 (t.map fun k : Nat => (k : Int))
theorem intN_cons (k : Nat) (t : List Nat) : intN (k :: t) = .int .i64 k :: intN t := rfl
theorem intN_app (a b : List Nat) : intN (a ++ b) = intN a ++ intN b := by unfold intN; rw [List.map_append, ints_append]
theorem intN_len (a : List Nat) : (intN a).length = a.length := by simp [intN, ints]

set_option maxHeartbeats 2000000 in
theorem reaches_fn (m : Mem) (b : Nat) (l : Ms) (lv dv fv : Value) (e : E3) (hl : Sl m 3 (isLn m l) lv (List.range l.length)) (hn : l.length ≤ 1000) (hon : ∀ k, k < l.length → (onM l k).length ≤ 10000) (i : Nat) (hi : i < l.length) :
    Ev.Fn Tryz.prog 33 [.pointer (some ⟨b, 0, none⟩), .int .i64 i] m [(b, exO lv dv fv e)] fun m' L' u => m' = m ∧ ∃ g seen, u = .slice (some ⟨g, 0, none⟩) l.length l.length ∧ L' = [(b, exO lv dv fv e), (g, .cells (toArr (cellsB l.length seen)) 4 (0, 0))] ∧ ∀ k, seen k = true ↔ Way l i k := by
  have hmx : maxLen = 9223372036854775807 := rfl
  obtain ⟨A, n, c, rfl, hnl, hc, hm, -⟩ := id hl
  rw [List.length_range] at hnl
  subst hnl
  have row : ∀ k, k < l.length → ∃ a sA sn sc, A = some a ∧ mcell m ((a.add (scale k 3)).add 2) = some (.slice sA sn sc) ∧ SlI m .i64 (.slice sA sn sc) (onI l (wrM l k)) := fun k hk => by
    obtain ⟨a, cs, ea, -, hcl, s, rfl, hs⟩ := hl.elem k k (List.getElem?_range hk)
    obtain ⟨sA, sn, sc, rfl, -⟩ := id hs
    exact ⟨a, sA, sn, sc, ea, hcl 2 _ rfl, hs⟩
  refine Fn.enter (N := 50) hX Tryz.func33 rfl rfl (by show _ ≤ _; simp) (fun w0 hL => ?_)
  conv => whnf
  generalize keys _ = S0 at hL ⊢
  conv => whnf
  repeat ((first | refine zT ?_ | refine zF ?_ | refine zL hX hL ?_ | refine zB hX hL ?_ | (refine zS hX hL ?_; clear hL; intro w hL) | refine zI ?_ | refine zG hX ?_ | refine zO ?_); conv => whnf)
  refine RunReq.make hX rfl rfl rfl rfl l.length l.length rfl rfl (Nat.le_refl _) (by omega) rfl hL ?_
  clear hL
  intro g w hL
  replace hL : Ev.Loc m S0 w0 m [(g, .cells (toArr (cellsB l.length fun _ => false)) 4 (0, 0)), (b, exO (.slice A l.length c) dv fv e)] w := by rw [← cellsB_zero]; exact hL
  obtain ⟨a, sA, sn, sc, ea, hcell, hs⟩ := row i hi
  conv => whnf
  repeat ((first | refine Idx2Req.mk i a rfl (by omega) ea ?_ | refine LdReq.one hX rfl rfl hL hcell ?_ | refine zT ?_ | refine zF ?_ | refine zL hX hL ?_ | refine zB hX hL ?_ | (refine zS hX hL ?_; clear hL; intro w hL) | refine zI ?_ | refine zG hX ?_ | refine zO ?_); conv => whnf)
  refine CallReq.mk (L1 := []) (cloneI_fn m _ _ hs (by have := onI_on_len (hon i hi); omega)) hL ?_
  clear hL
  rintro v mx L1 w hL - ⟨hmx2, ho⟩
  rw [hmx2] at hL
  clear hmx2 mx
  replace ho : OwnO 3 v (intN (onM l i)) L1 := ho.toO
  obtain ⟨A0, c0, ev0, hle0, hmx0⟩ := ho.slice
  rw [intN_len] at ev0 hle0
  subst ev0
  have hL := hL.back
  have hleft0 := leftS_le (l := l) (seen := fun _ => false) hon
  conv => whnf
  repeat ((first | refine zT ?_ | refine zF ?_ | refine zL hX hL ?_ | refine zB hX hL ?_ | (refine zS hX hL ?_; clear hL; intro w hL) | refine zI ?_ | refine zG hX ?_ | refine zO ?_); conv => whnf)
  refine LoopReq.inv hX (fun s : Sn × List Nat × Option Addr × Nat => [(6, .slice s.2.2.1 s.2.1.length s.2.2.2)]) [0, 5]
    (fun s w => (Todo l i s.1 s.2.1 ∧ leftS l s.1 + s.2.1.length ≤ l.length * 10000 + 10000) ∧ ∃ Lt, OwnO 3 (.slice s.2.2.1 s.2.1.length s.2.2.2) (intN s.2.1) Lt ∧ Ev.Loc m S0 w0 m ((g, .cells (toArr (cellsB l.length s.1)) 4 (0, 0)) :: (b, exO (.slice A l.length c) dv fv e) :: Lt) w)
    (fun s => leftS l s.1 + s.2.1.length) (fun _ => false, onM l i, A0, c0)
    ⟨⟨Todo.start l i, by have := hon i hi; simp only; omega⟩, L1, ho, hL⟩ ⟨rfl, trivial⟩ ?_
  clear hL ho
  rintro ⟨seen, todo, At, ct⟩ w f ⟨⟨hT, hbd⟩, Lt, ho, hL⟩
  simp only at hT hbd ho hL
  conv => whnf
  repeat ((first | refine zT ?_ | refine zF ?_ | refine zL hX hL ?_ | refine zB hX hL ?_ | (refine zS hX hL ?_; clear hL; intro w hL) | refine zI ?_ | refine zG hX ?_ | refine zO ?_); conv => whnf)
  refine BrReq.dec (fun hgt => ?_) (fun hgt => ?_)
  · obtain ⟨k, todo', rfl⟩ : ∃ k todo', todo = k :: todo' := by
      cases todo with
      | nil => simp at hgt
      | cons k t => exact ⟨k, t, rfl⟩
    have hkl : k < l.length := way_lt (hT.ways k (by simp))
    rw [intN_cons] at ho
    obtain ⟨a0, rfl, hc0, hO', hn', hcc, hcm⟩ := OwnO.cell (L2 := [_, _]) ho (Loc.back (L1 := [_, _]) hL)
    rw [intN_len] at hO'
    have hct : todo'.length + 1 ≤ ct := by simp only [List.length_cons] at hcc; omega
    obtain ⟨ak, kA, kn, kc, eak, hck, hsk⟩ := row k hkl
    have hlk : onI l (wrM l k) = (onM l k).map fun k : Nat => (k : Int) := rfl
    have hgo : ∀ r : Sn, (cellsB l.length r)[0 + scale k 1]? = some (.bool (r k)) := fun r => by rw [scale_eq, Nat.mul_one, Nat.zero_add]; exact cellsB_get hkl
    have hst : ∀ k, k < l.length → ∀ r : Sn, 0 + scale k 1 + 1 ≤ (cellsB l.length r).length := fun k hk r => by rw [cellsB_len, scale_eq]; omega
    cases hse : seen k with
    | true =>
      have hT' := hT.skip hse
      have hbd' : leftS l seen + todo'.length + 1 ≤ l.length * 10000 + 10000 := by simpa [Nat.add_assoc] using hbd
      conv => whnf
      repeat ((first | refine Idx2Req.mk 0 a0 rfl (by simp) rfl ?_ | refine LdReq.at_ hX rfl rfl hc0 ?_ | refine SlReq.mk 1 (todo'.length + 1) rfl rfl (by omega) hct ?_ | refine Idx2Req.mk k _ rfl (by omega) rfl ?_ | refine LdReq.ownAt hX rfl rfl 0 hL rfl (v := .bool true) ((hgo seen).trans (by rw [hse])) ?_ | refine zT ?_ | refine zF ?_ | refine zL hX hL ?_ | refine zB hX hL ?_ | (refine zS hX hL ?_; clear hL; intro w hL) | refine zI ?_ | refine zG hX ?_ | refine zO ?_); conv => whnf)
      refine ⟨(seen, todo', (if ct = 1 then some a0 else some (a0.add 1)), ct - 1), ⟨⟨hT', by simp only; omega⟩, Lt, hO', hL⟩, by first | omega | (simp only; omega) | (simp only [List.length_cons, List.length_append]; omega), ?_, ?_⟩
      · repeat (first | exact trivial | (refine And.intro (by (conv => lhs; whnf) <;> (conv => rhs; whnf) <;> (first | rfl)) ?_))
      · repeat (first | exact trivial | (refine And.intro (by (conv => lhs; whnf) <;> (conv => rhs; whnf) <;> (first | rfl)) ?_))
    | false =>
      have hT' := hT.take
      have hlf := leftS_take hkl hse
      have hbd' : leftS l seen + todo'.length + 1 ≤ l.length * 10000 + 10000 := by simpa [Nat.add_assoc] using hbd
      conv => whnf
      repeat ((first | refine Idx2Req.mk 0 a0 rfl (by simp) rfl ?_ | refine LdReq.at_ hX rfl rfl hc0 ?_ | refine SlReq.mk 1 (todo'.length + 1) rfl rfl (by omega) hct ?_ | refine Idx2Req.mk k _ rfl (by omega) rfl ?_ | refine LdReq.ownAt hX rfl rfl 0 hL rfl (v := .bool false) ((hgo seen).trans (by rw [hse])) ?_ | refine zT ?_ | refine zF ?_ | refine zL hX hL ?_ | refine zB hX hL ?_ | (refine zS hX hL ?_; clear hL; intro w hL) | refine zI ?_ | refine zG hX ?_ | refine zO ?_); conv => whnf)
      refine StReq.ownAt hX rfl 0 hL rfl (v := .bool true) rfl (hst k hkl seen) rfl ?_
      clear hL
      intro w hL
      replace hL : Ev.Loc m S0 w0 m (([(g, .cells (toArr (cellsB l.length (setS seen k true))) 4 (0, 0)), (b, exO (.slice A l.length c) dv fv e)]) ++ Lt) w := by
        rw [← cellsB_set]
        have e0 : 0 + scale k 1 = k := by rw [scale_eq]; omega
        rw [e0] at hL
        exact hL
      conv => whnf
      repeat ((first | refine Idx2Req.mk k ak rfl (by omega) eak ?_ | refine LdReq.one hX rfl rfl hL hck ?_ | refine zT ?_ | refine zF ?_ | refine zL hX hL ?_ | refine zB hX hL ?_ | (refine zS hX hL ?_; clear hL; intro w hL) | refine zI ?_ | refine zG hX ?_ | refine zO ?_); conv => whnf)
      refine RunReq.appendO hX 71 3 rfl rfl rfl rfl rfl rfl hO' hL.back (by have := (hsk.src hL).1; omega) (hsk.src hL).2 (ints_one _ _) (by rw [intN_len, hlk, ← intN, intN_len]; omega) ?_
      clear hL
      intro A2 n2 c2 L2 w hn2 ho2 hL
      have hL := hL.back
      rw [hlk, ← intN] at ho2 hn2
      rw [intN_len, intN_len, ← List.length_append] at hn2
      rw [← intN_app] at ho2
      subst hn2
      refine ⟨(setS seen k true, todo' ++ onM l k, A2, c2), ⟨⟨hT', by simp only [List.length_append]; omega⟩, L2, ho2, hL⟩, by first | omega | (simp only; omega) | (simp only [List.length_cons, List.length_append]; omega), ?_, ?_⟩
      · repeat (first | exact trivial | (refine And.intro (by (conv => lhs; whnf) <;> (conv => rhs; whnf) <;> (first | rfl | ((simp only [List.length_append]; omega)))) ?_))
      · repeat (first | exact trivial | (refine And.intro (by (conv => lhs; whnf) <;> (conv => rhs; whnf) <;> (first | rfl | ((simp only [List.length_append]; omega)))) ?_))
  · have : todo = [] := List.eq_nil_of_length_eq_zero (by simp only at hgt; omega)
    subst this
    conv => whnf
    repeat ((first | refine zT ?_ | refine zF ?_ | refine zL hX hL ?_ | refine zB hX hL ?_ | (refine zS hX hL ?_; clear hL; intro w hL) | refine zI ?_ | refine zG hX ?_ | refine zO ?_); conv => whnf)
    exact RetReq.mk ((hL.sublist (.cons_cons _ (.cons_cons _ (List.nil_sublist _)))).perm (List.Perm.swap _ _ _)) ⟨rfl, g, seen, rfl, rfl, hT.done⟩

/-! ### cycles -/
theorem chk3_nz (c : Nat → Bool) (i : Nat) : Nz (chk3 c i) := by
  unfold chk3
  split
  · exact Nz.mk (by decide)
  · exact Nz.no
theorem cycles_fn (m : Mem) (b : Nat) (l : Ms) (lv dv fv : Value) (e0 : E3) (hz : Nz e0) (hl : Sl m 3 (isLn m l) lv (List.range l.length)) (hn : l.length ≤ 1000) (hon : ∀ k, k < l.length → (onM l k).length ≤ 10000) (c : Nat → Bool) (hc : ∀ i, i < l.length → (c i = true ↔ Way l i i)) :
    FnS 14 [.pointer (some ⟨b, 0, none⟩)] m b (exO lv dv fv e0) (exO lv dv fv (orE e0 (allE (chk3 c) l.length))) (.tuple (toArr [])) := by
  have hmx : maxLen = 9223372036854775807 := rfl
  have hl' := hl
  obtain ⟨A, n, cc, rfl, hnl, hcc, hm, -⟩ := id hl
  rw [List.length_range] at hnl
  subst hnl
  refine Fn.enter (N := 21) hX Tryz.func14 rfl rfl (by show _ ≤ _; simp) (fun w0 hL => ?_)
  conv => whnf
  generalize keys _ = S0 at hL ⊢
  conv => whnf
  repeat ((first | refine zT ?_ | refine zF ?_ | refine zL hX hL ?_ | refine zB hX hL ?_ | (refine zS hX hL ?_; clear hL; intro w hL) | refine zI ?_ | refine zG hX ?_ | refine zO ?_); conv => whnf)
  refine LoopReq.inv hX (fun j : Nat => [(8, .int .i64 j)]) [0, 7]
    (fun i w => i ≤ l.length ∧ Ev.Loc m S0 w0 m [(b, exO (.slice A l.length cc) dv fv (orE e0 (allE (chk3 c) i)))] w) (fun i => l.length - i) 0
    ⟨Nat.zero_le _, by rw [show (allE (chk3 c) 0) = noE from rfl, orE_noE hz]; exact hL⟩ ⟨rfl, trivial⟩ ?_
  clear hL
  rintro i w f ⟨hi, hL⟩
  conv => whnf
  repeat ((first | refine zT ?_ | refine zF ?_ | refine zL hX hL ?_ | refine zB hX hL ?_ | (refine zS hX hL ?_; clear hL; intro w hL) | refine zI ?_ | refine zG hX ?_ | refine zO ?_); conv => whnf)
  refine BrReq.dec (fun hlt => ?_) (fun hlt => ?_)
  · have hi1 : i < l.length := by omega
    have hall : orE e0 (allE (chk3 c) (i + 1)) = orE (orE e0 (allE (chk3 c) i)) (chk3 c i) := by rw [allE, orE_assoc]
    have hei : Nz (orE e0 (allE (chk3 c) i)) := hz.or (allE_no (fun k => chk3_nz c k) i)
    conv => whnf
    repeat ((first | refine zT ?_ | refine zF ?_ | refine zL hX hL ?_ | refine zB hX hL ?_ | (refine zS hX hL ?_; clear hL; intro w hL) | refine zI ?_ | refine zG hX ?_ | refine zO ?_); conv => whnf)
    refine CallReq.mk (L1 := [_]) (L2 := []) (reaches_fn m b l _ dv fv _ hl' hn hon i hi1) hL ?_
    clear hL
    rintro u mx L1 w hL - ⟨hmx2, g, seen, rfl, rfl, hs⟩
    rw [hmx2] at hL
    clear hmx2 mx
    rw [List.append_nil] at hL
    have hgo : (cellsB l.length seen)[0 + scale i 1]? = some (.bool (seen i)) := by rw [scale_eq, Nat.mul_one, Nat.zero_add]; exact cellsB_get hi1
    cases hci : c i with
    | true =>
      have hse : seen i = true := (hs i).2 ((hc i hi1).1 hci)
      rw [hse] at hgo
      have hck : chk3 c i = ((i : Int), 0, 7) := by unfold chk3; rw [if_pos hci]
      conv => whnf
      repeat ((first | refine Idx2Req.mk i _ rfl (by omega) rfl ?_ | refine LdReq.ownAt hX rfl rfl 1 hL rfl (v := .bool true) hgo ?_ | refine zT ?_ | refine zF ?_ | refine zL hX hL ?_ | refine zB hX hL ?_ | (refine zS hX hL ?_; clear hL; intro w hL) | refine zI ?_ | refine zG hX ?_ | refine zO ?_); conv => whnf)
      refine CallReq.sc (xfail_fn m b _ dv fv _ i 0 7) hL ?_
      clear hL
      intro w hL
      rw [← hck, ← hall] at hL
      conv => whnf
      repeat ((first | refine zT ?_ | refine zF ?_ | refine zL hX hL ?_ | refine zB hX hL ?_ | (refine zS hX hL ?_; clear hL; intro w hL) | refine zI ?_ | refine zG hX ?_ | refine zO ?_); conv => whnf)
      refine ⟨i + 1, ⟨by omega, hL.one 0 rfl⟩, by first | omega | (simp only; omega) | (simp only [List.length_cons, List.length_append]; omega), ?_, ?_⟩
      · repeat (first | exact trivial | (refine And.intro (by (conv => lhs; whnf) <;> (conv => rhs; whnf) <;> (first | rfl)) ?_))
      · repeat (first | exact trivial | (refine And.intro (by (conv => lhs; whnf) <;> (conv => rhs; whnf) <;> (first | rfl)) ?_))
    | false =>
      have hse : seen i = false := by
        cases h : seen i with
        | false => rfl
        | true => rw [(hc i hi1).2 ((hs i).1 h)] at hci; cases hci
      rw [hse] at hgo
      have hck : chk3 c i = noE := by unfold chk3; rw [hci]; rfl
      conv => whnf
      repeat ((first | refine Idx2Req.mk i _ rfl (by omega) rfl ?_ | refine LdReq.ownAt hX rfl rfl 1 hL rfl (v := .bool false) hgo ?_ | refine zT ?_ | refine zF ?_ | refine zL hX hL ?_ | refine zB hX hL ?_ | (refine zS hX hL ?_; clear hL; intro w hL) | refine zI ?_ | refine zG hX ?_ | refine zO ?_); conv => whnf)
      rw [hck, orE_noE hei] at hall
      rw [← hall] at hL
      refine ⟨i + 1, ⟨by omega, hL.one 0 rfl⟩, by first | omega | (simp only; omega) | (simp only [List.length_cons, List.length_append]; omega), ?_, ?_⟩
      · repeat (first | exact trivial | (refine And.intro (by (conv => lhs; whnf) <;> (conv => rhs; whnf) <;> (first | rfl)) ?_))
      · repeat (first | exact trivial | (refine And.intro (by (conv => lhs; whnf) <;> (conv => rhs; whnf) <;> (first | rfl)) ?_))
  · have ei : i = l.length := by omega
    subst ei
    conv => whnf
    repeat ((first | refine zT ?_ | refine zF ?_ | refine zL hX hL ?_ | refine zB hX hL ?_ | (refine zS hX hL ?_; clear hL; intro w hL) | refine zI ?_ | refine zG hX ?_ | refine zO ?_); conv => whnf)
    exact RetReq.mk hL ⟨rfl, rfl, rfl⟩

/-! ### next -/
def okNext (l : Ms) (done : Sn) (i : Nat) : Bool := !done i && !((onM l i).any fun k => !done k)
def nextI (l : Ms) (done : Sn) : Int := idxG (okNext l done) (List.range l.length)
theorem indexD_fn (m : Mem) (v : Value) (rs : List Int) (f : Int → Bool)(b0 : Nat) (hs : SlI m .i64 v rs) (hf : ∀ p ∈ rs, FnV Tryz.prog 55 ([.int .i64 p] ++ [.pointer (some ⟨b0, 0, none⟩)]) m (.bool (f p))) :
    FnV Tryz.prog 73 [v, .func (.func 55) #[] #[.pointer (some ⟨b0, 0, none⟩)]] m (.int .i64 (idxG f rs)) := by
  have hs' := hs
  obtain ⟨A, n, c, rfl, hn, hc, hm, -⟩ := hs
  have he := hs'.cell.2
  have hmx : maxLen = 9223372036854775807 := rfl
  refine Fn.enter (N := 19) hX Tryz.func73 rfl rfl (by show _ ≤ _; simp) (fun w0 hL => ?_)
  conv => whnf
  conv => whnf
  repeat ((first | refine zT ?_ | refine zF ?_ | refine zL hX hL ?_ | refine zB hX hL ?_ | (refine zS hX hL ?_; clear hL; intro w hL) | refine zI ?_ | refine zG hX ?_ | refine zO ?_); conv => whnf)
  refine LoopReq.inv hX (fun j : Nat => [(8, .int .i64 j)]) [0, 1, 7]
    (fun j w => (j ≤ n ∧ ∀ (i : Nat) (x : Int), i < j → rs[i]? = some x → f x = false) ∧ Ev.Loc m [] w0 m [] w) (fun j => n - j) 0
    ⟨⟨by omega, fun i x h => absurd h (by omega)⟩, hL⟩ ⟨rfl, trivial⟩ ?_
  clear hL
  rintro j w g ⟨⟨hj, hdone⟩, hL⟩
  conv => whnf
  repeat ((first | refine zT ?_ | refine zF ?_ | refine zL hX hL ?_ | refine zB hX hL ?_ | (refine zS hX hL ?_; clear hL; intro w hL) | refine zI ?_ | refine zG hX ?_ | refine zO ?_); conv => whnf)
  refine BrReq.dec (fun hlt => ?_) (fun hlt => ?_)
  · have hlt' : j < rs.length := by omega
    obtain ⟨a, rfl, hcell⟩ := he j _ (List.getElem?_eq_getElem hlt')
    conv => whnf
    repeat ((first | refine Idx2Req.mk j a rfl (by omega) rfl ?_ | (refine LdReq.one hX rfl rfl hL (by rw [scale_eq, Nat.mul_one]; exact hcell) ?_) | refine zT ?_ | refine zF ?_ | refine zL hX hL ?_ | refine zB hX hL ?_ | (refine zS hX hL ?_; clear hL; intro w hL) | refine zI ?_ | refine zG hX ?_ | refine zO ?_); conv => whnf)
    refine CallReq.val (hf _ (List.getElem_mem hlt')) hL ?_
    clear hL
    intro w hL
    conv => whnf
    repeat ((first | refine zT ?_ | refine zF ?_ | refine zL hX hL ?_ | refine zB hX hL ?_ | (refine zS hX hL ?_; clear hL; intro w hL) | refine zI ?_ | refine zG hX ?_ | refine zO ?_); conv => whnf)
    refine BrReq.bool (fun hb => ?_) (fun hb => ?_)
    · have e := idxG_at (f := f) rs j _ (List.getElem?_eq_getElem hlt') hb fun q y h1 h2 => hdone q y h1 h2
      conv => whnf
      repeat ((first | refine zT ?_ | refine zF ?_ | refine zL hX hL ?_ | refine zB hX hL ?_ | (refine zS hX hL ?_; clear hL; intro w hL) | refine zI ?_ | refine zG hX ?_ | refine zO ?_); conv => whnf)
      exact RetReq.int hL e.symm
    · have hd : ∀ (i : Nat) (x : Int), i < j + 1 → rs[i]? = some x → f x = false := by
        intro i x hi hx
        by_cases e : i = j
        · subst e
          rw [List.getElem?_eq_getElem hlt'] at hx
          cases hx; exact hb
        · exact hdone i x (by omega) hx
      conv => whnf
      repeat ((first | refine zT ?_ | refine zF ?_ | refine zL hX hL ?_ | refine zB hX hL ?_ | (refine zS hX hL ?_; clear hL; intro w hL) | refine zI ?_ | refine zG hX ?_ | refine zO ?_); conv => whnf)
      refine ⟨j + 1, ⟨⟨by omega, hd⟩, hL⟩, by first | omega | (simp only; omega) | (simp only [List.length_cons, List.length_append]; omega), ?_, ?_⟩
      · repeat (first | exact trivial | (refine And.intro (by (conv => lhs; whnf) <;> (conv => rhs; whnf) <;> (first | rfl)) ?_))
      · repeat (first | exact trivial | (refine And.intro (by (conv => lhs; whnf) <;> (conv => rhs; whnf) <;> (first | rfl)) ?_))
  · conv => whnf
    repeat ((first | refine zT ?_ | refine zF ?_ | refine zL hX hL ?_ | refine zB hX hL ?_ | (refine zS hX hL ?_; clear hL; intro w hL) | refine zI ?_ | refine zG hX ?_ | refine zO ?_); conv => whnf)
    have e : idxG f rs = -1 := idxG_none rs fun x hx => by
      obtain ⟨i, hi, rfl⟩ := List.getElem_of_mem hx
      exact hdone i _ (by omega) (List.getElem?_eq_getElem hi)
    exact RetReq.int hL e.symm
theorem containsD_fn (m : Mem) (v : Value) (rs : List Int) (f : Int → Bool) (b0 : Nat) (hs : SlI m .i64 v rs) (hf : ∀ p ∈ rs, FnV Tryz.prog 55 ([.int .i64 p] ++ [.pointer (some ⟨b0, 0, none⟩)]) m (.bool (f p))) :
    FnV Tryz.prog 54 [v, .func (.func 55) #[] #[.pointer (some ⟨b0, 0, none⟩)]] m (.bool (rs.any f)) := by
  have hs' := hs
  obtain ⟨A, n, c, rfl, -⟩ := hs
  refine Fn.enter (N := 9) hX Tryz.func54 rfl rfl (by show _ ≤ _; simp) (fun w0 hL => ?_)
  conv => whnf
  conv => whnf
  repeat ((first | refine zT ?_ | refine zF ?_ | refine zL hX hL ?_ | refine zB hX hL ?_ | (refine zS hX hL ?_; clear hL; intro w hL) | refine zI ?_ | refine zG hX ?_ | refine zO ?_); conv => whnf)
  refine CallReq.val (indexD_fn m _ rs f b0 hs' hf) hL ?_
  clear hL
  intro w hL
  conv => whnf
  repeat ((first | refine zT ?_ | refine zF ?_ | refine zL hX hL ?_ | refine zB hX hL ?_ | (refine zS hX hL ?_; clear hL; intro w hL) | refine zI ?_ | refine zG hX ?_ | refine zO ?_); conv => whnf)
  refine RetReq.bool hL ?_
  rw [Bool.eq_iff_iff, decide_eq_true_iff]
  exact idxG_neg rs
theorem undone_fn (m : Mem) (b0 b gd n c k : Nat) (r : Bool) (h0 : mcell m ⟨b0, 0, none⟩ = some (.pointer (some ⟨b, 0, none⟩))) (h1 : mcell m ⟨b, 1, none⟩ = some (.slice (some ⟨gd, 0, none⟩) n c)) (hk : k < n) (h2 : mcell m ⟨gd, k, none⟩ = some (.bool r)) :
    FnV Tryz.prog 55 ([.int .i64 k] ++ [.pointer (some ⟨b0, 0, none⟩)]) m (.bool (!r)) := by
  refine Fn.enter (N := 12) hX Tryz.func55 rfl rfl (by show _ ≤ _; simp) (fun w0 hL => ?_)
  conv => whnf
  conv => whnf
  repeat ((first | refine LdReq.one hX rfl rfl hL h0 ?_ | refine LdReq.one hX rfl rfl hL h1 ?_ | refine Idx2Req.mk k _ rfl (by omega) rfl ?_ | (refine LdReq.one hX rfl rfl hL (by rw [scale_eq, Nat.mul_one, addr_add, Nat.zero_add]; exact h2) ?_) | refine zT ?_ | refine zF ?_ | refine zL hX hL ?_ | refine zB hX hL ?_ | (refine zS hX hL ?_; clear hL; intro w hL) | refine zI ?_ | refine zG hX ?_ | refine zO ?_); conv => whnf)
  exact RetReq.mk hL ⟨rfl, rfl⟩
theorem any_on (l : Ms) (done : Sn) (i : Nat) : ((onI l (wrM l i)).any fun z => !done z.toNat) = (onM l i).any fun k => !done k := by
  rw [onI_mem, List.any_map]; rfl
theorem next_fn (m : Mem) (b gd : Nat) (l : Ms) (lv fv : Value) (e : E3) (done : Sn) (hl : Sl m 3 (isLn m l) lv (List.range l.length)) (hn : l.length ≤ 1000) :
    FnL 34 [.pointer (some ⟨b, 0, none⟩)] m [(b, exO lv (.slice (some ⟨gd, 0, none⟩) l.length l.length) fv e), (gd, .cells (toArr (cellsB l.length done)) 4 (0, 0))] (.int .i64 (nextI l done)) := by
  have hmx : maxLen = 9223372036854775807 := rfl
  obtain ⟨A, n, c, rfl, hnl, hc, hm, -⟩ := id hl
  rw [List.length_range] at hnl
  subst hnl
  refine Fn.enter (N := 32) hX Tryz.func34 rfl rfl (by show _ ≤ _; simp) (fun w0 hL => ?_)
  conv => whnf
  generalize keys _ = S0 at hL ⊢
  refine NewReq.mk hL ?_
  clear hL
  intro b1 w hL
  conv => whnf
  replace hL : Ev.Loc m S0 w0 m [(b1, .cells (toArr [.pointer (some ⟨b, 0, none⟩)]) 45 (0, 0)), (b, exO (.slice A l.length c) (.slice (some ⟨gd, 0, none⟩) l.length l.length) fv e), (gd, .cells (toArr (cellsB l.length done)) 4 (0, 0))] w := hL
  conv => whnf
  repeat ((first | refine zT ?_ | refine zF ?_ | refine zL hX hL ?_ | refine zB hX hL ?_ | (refine zS hX hL ?_; clear hL; intro w hL) | refine zI ?_ | refine zG hX ?_ | refine zO ?_); conv => whnf)
  refine LoopReq.inv hX (fun j : Nat => [(10, .int .i64 j)]) [1, 8, 9]
    (fun j w => (j ≤ l.length ∧ ∀ i, i < j → okNext l done i = false) ∧ Ev.Loc m S0 w0 m [(b1, .cells (toArr [.pointer (some ⟨b, 0, none⟩)]) 45 (0, 0)), (b, exO (.slice A l.length c) (.slice (some ⟨gd, 0, none⟩) l.length l.length) fv e), (gd, .cells (toArr (cellsB l.length done)) 4 (0, 0))] w) (fun j => l.length - j) 0
    ⟨⟨Nat.zero_le _, fun i h => by omega⟩, hL⟩ ⟨rfl, trivial⟩ ?_
  clear hL
  rintro j w f ⟨⟨hj, hno⟩, hL⟩
  conv => whnf
  repeat ((first | refine zT ?_ | refine zF ?_ | refine zL hX hL ?_ | refine zB hX hL ?_ | (refine zS hX hL ?_; clear hL; intro w hL) | refine zI ?_ | refine zG hX ?_ | refine zO ?_); conv => whnf)
  refine BrReq.dec (fun hlt => ?_) (fun hlt => ?_)
  · have hj1 : j < l.length := by omega
    obtain ⟨a, cs, ea, -, hcl, s, rfl, hs⟩ := hl.elem j j (List.getElem?_range hj1)
    obtain ⟨sA, sn, sc, rfl, -⟩ := id hs
    have hgo : (cellsB l.length done)[0 + scale j 1]? = some (.bool (done j)) := by rw [scale_eq, Nat.mul_one, Nat.zero_add]; exact cellsB_get hj1
    conv => whnf
    repeat ((first | refine Idx2Req.mk j a rfl (by omega) ea ?_ | refine LdReq.agg hX rfl rfl hL rfl hcl ?_ | refine zT ?_ | refine zF ?_ | refine zL hX hL ?_ | refine zB hX hL ?_ | (refine zS hX hL ?_; clear hL; intro w hL) | refine zI ?_ | refine zG hX ?_ | refine zO ?_); conv => whnf)
    refine NewReq.mk hL ?_
    clear hL
    intro b4 w hL
    conv => whnf
    replace hL : Ev.Loc m S0 w0 m [(b4, .cells (toArr [.string (bs []), .string (bs []), .slice none 0 0]) 73 (0, 0)), (b1, .cells (toArr [.pointer (some ⟨b, 0, none⟩)]) 45 (0, 0)), (b, exO (.slice A l.length c) (.slice (some ⟨gd, 0, none⟩) l.length l.length) fv e), (gd, .cells (toArr (cellsB l.length done)) 4 (0, 0))] w := hL
    have hstep : okNext l done j = false → ∀ i, i < j + 1 → okNext l done i = false := fun h i hi => by
      by_cases e : i = j
      · subst e; exact h
      · exact hno i (by omega)
    cases hdj : done j with
    | true =>
      rw [hdj] at hgo
      have hf : okNext l done j = false := by unfold okNext; rw [hdj]; rfl
      conv => whnf
      repeat ((first | refine Idx2Req.mk j _ rfl (by omega) rfl ?_ | refine LdReq.ownAt hX rfl rfl 3 hL rfl (v := .bool true) hgo ?_ | refine zT ?_ | refine zF ?_ | refine zL hX hL ?_ | refine zB hX hL ?_ | (refine zS hX hL ?_; clear hL; intro w hL) | refine zI ?_ | refine zG hX ?_ | refine zO ?_); conv => whnf)
      refine ⟨j + 1, ⟨⟨by omega, hstep hf⟩, hL.drop⟩, by first | omega | (simp only; omega) | (simp only [List.length_cons, List.length_append]; omega), ?_, ?_⟩
      · repeat (first | exact trivial | (refine And.intro (by (conv => lhs; whnf) <;> (conv => rhs; whnf) <;> (first | rfl)) ?_))
      · repeat (first | exact trivial | (refine And.intro (by (conv => lhs; whnf) <;> (conv => rhs; whnf) <;> (first | rfl)) ?_))
    | false =>
      rw [hdj] at hgo
      conv => whnf
      repeat ((first | refine Idx2Req.mk j _ rfl (by omega) rfl ?_ | refine LdReq.ownAt hX rfl rfl 3 hL rfl (v := .bool false) hgo ?_ | refine zT ?_ | refine zF ?_ | refine zL hX hL ?_ | refine zB hX hL ?_ | (refine zS hX hL ?_; clear hL; intro w hL) | refine zI ?_ | refine zG hX ?_ | refine zO ?_); conv => whnf)
      have f1 := hL.freeze
      have f2 := f1.freeze
      have f3 := f2.freeze
      have f4 := f3.freeze
      have g0 := mcell_le (f2.le_add.trans f3.le_add) (mcell_add (m := m.add b4 _) (b := b1) (i := 0) (te := 45) (fz := (0, 0)) (cs := [.pointer (some ⟨b, 0, none⟩)]) rfl)
      have g1 := mcell_le f3.le_add (mcell_add (m := (m.add b4 _).add b1 _) (b := b) (i := 1) (te := 49) (fz := (0, 0)) (cs := [.slice A l.length c, .slice (some ⟨gd, 0, none⟩) l.length l.length, fv, .int .i64 e.1, .int .i64 e.2.1, .int .i64 e.2.2]) rfl)
      have hany := containsD_fn _ _ _ (fun z => !done z.toNat) b1 (hs.le' (hL.le_add.trans (f1.le_add.trans (f2.le_add.trans f3.le_add)))) fun p hp => by
        rw [onI_mem] at hp
        obtain ⟨k, hk, rfl⟩ := List.mem_map.1 hp
        exact undone_fn _ b1 b gd l.length l.length k (done k) g0 g1 (onM_lt hk) (mcell_add (cellsB_get (onM_lt hk)))
      rw [any_on] at hany
      refine CallReq.lend hany f4.sub hL ?_
      clear hL f1 f2 f3 f4 g0 g1
      intro w hL
      cases hav : ((onM l j).any fun k => !done k) with
      | true =>
        have hf : okNext l done j = false := by unfold okNext; rw [hdj, hav]; rfl
        conv => whnf
        repeat ((first | refine zT ?_ | refine zF ?_ | refine zL hX hL ?_ | refine zB hX hL ?_ | (refine zS hX hL ?_; clear hL; intro w hL) | refine zI ?_ | refine zG hX ?_ | refine zO ?_); conv => whnf)
        refine ⟨j + 1, ⟨⟨by omega, hstep hf⟩, hL.drop⟩, by first | omega | (simp only; omega) | (simp only [List.length_cons, List.length_append]; omega), ?_, ?_⟩
        · repeat (first | exact trivial | (refine And.intro (by (conv => lhs; whnf) <;> (conv => rhs; whnf) <;> (first | rfl)) ?_))
        · repeat (first | exact trivial | (refine And.intro (by (conv => lhs; whnf) <;> (conv => rhs; whnf) <;> (first | rfl)) ?_))
      | false =>
        have hf : okNext l done j = true := by unfold okNext; rw [hdj, hav]; rfl
        have e : nextI l done = j := idxG_at _ j j (List.getElem?_range hj1) hf fun q y hq hy => by
          rw [List.getElem?_range (by omega)] at hy
          cases hy; exact hno q hq
        conv => whnf
        repeat ((first | refine zT ?_ | refine zF ?_ | refine zL hX hL ?_ | refine zB hX hL ?_ | (refine zS hX hL ?_; clear hL; intro w hL) | refine zI ?_ | refine zG hX ?_ | refine zO ?_); conv => whnf)
        rw [e]
        exact RetReq.mk hL.drop.drop ⟨rfl, rfl, rfl⟩
  · have e : nextI l done = -1 := idxG_none _ fun x hx => hno x (by have := List.mem_range.1 hx; omega)
    conv => whnf
    repeat ((first | refine zT ?_ | refine zF ?_ | refine zL hX hL ?_ | refine zB hX hL ?_ | (refine zS hX hL ?_; clear hL; intro w hL) | refine zI ?_ | refine zG hX ?_ | refine zO ?_); conv => whnf)
    rw [e]
    exact RetReq.mk hL.drop ⟨rfl, rfl, rfl⟩
end Go.Proofs.YtemdkfohlppckaaGreatDoor.ma
