/- Formulas: the document's Op, walked. Conditions: none. -/
import Derived.Test.YtnpgllgmcdhmcaaFoOp

namespace Go.Proofs.Ytnpgllgmcdhmcaa.fo
open Go Go.Ev Go.Proofs

abbrev Sn := Nat → Bool
def setS (r : Sn) (b : Nat) (v : Bool) : Sn := fun k => if k = b then v else r k
/-- As cells. -/
def cellsB (n : Nat) (r : Sn) : List Value := (List.range n).map fun k => Value.bool (r k)
theorem cellsB_len (n : Nat) (r : Sn) : (cellsB n r).length = n := by simp [cellsB]
theorem cellsB_get {n k : Nat} {r : Sn} (h : k < n) : (cellsB n r)[k]? = some (.bool (r k)) := by
  unfold cellsB; rw [List.getElem?_map, List.getElem?_range h]; rfl
theorem cellsB_set (n : Nat) (r : Sn) (b : Nat) (v : Bool) : (cellsB n r).set b (.bool v) = cellsB n (setS r b v) := by
  refine List.ext_getElem? fun k => ?_
  by_cases hk : k < n
  · have e1 := cellsB_get (r := r) hk
    have e2 := cellsB_get (r := setS r b v) hk
    rw [List.getElem?_set, e1, e2]
    unfold setS
    by_cases e : b = k
    · rw [if_pos e, if_pos (by rw [cellsB_len]; omega), if_pos e.symm]
    · rw [if_neg e, if_neg (fun h => e h.symm)]
  · rw [List.getElem?_eq_none (by rw [List.length_set, cellsB_len]; omega), List.getElem?_eq_none (by rw [cellsB_len]; omega)]
theorem cellsB_zero (n : Nat) : zerosL n [.bool false] = cellsB n (fun _ => false) := by
  rw [zeros_rows]
  unfold cellsB
  refine List.ext_getElem? fun k => ?_
  rw [List.getElem?_map]
  rw [show (List.replicate n [Value.bool false]).flatten = List.replicate n (Value.bool false) by
    induction n with
    | zero => rfl
    | succ n ih => rw [List.replicate_succ, List.flatten_cons, ih, List.replicate_succ]; rfl]
  rw [List.getElem?_replicate]
  split
  · rename_i h; rw [List.getElem?_range h]; rfl
  · rename_i h; rw [List.getElem?_eq_none (by simp; omega)]; rfl


theorem cellsN {n : Nat} {r r' : Sn} (h : ∀ k, k < n → r k = r' k) : cellsB n r = cellsB n r' := by
  unfold cellsB
  exact List.map_congr_left fun k hk => by rw [h k (List.mem_range.1 hk)]
theorem one_fs {m0 m : Mem} {S : List Nat} {w0 w : World} {b : Nat} {v1 : Value} {f : Fml} {L : Ev.Own} (h1 : FmV m v1 f) (hL : Ev.Loc m0 S w0 m ((b, .cells (toArr [v1]) 22 (0, 0)) :: L) w) :
    ∃ m', Ev.Loc m0 S w0 m' L w ∧ Mem.Le m m' ∧ FsV m' (.slice (some ⟨b, 0, none⟩) 1 1) [f] := by
  obtain ⟨m1, hL1, hm1, hfs⟩ := freeze1 (l := [f]) (R := fun u x => FmV m u x) (L2 := L) (OwnS.full (te := 22) (g := b) (n := 1) (cur := [v1]) (by decide) rfl) hL rfl (by
    intro i x hx
    match i, hx with
    | 0, hx => cases hx; exact ⟨_, rfl, h1⟩
    | i + 1, hx => cases hx)
  exact ⟨m1, hL1, hm1, Sl.le hfs (Mem.Le.refl _) fun _ _ _ ⟨u, e, h⟩ => ⟨u, e, h.le hm1⟩⟩
theorem two_fs {m0 m : Mem} {S : List Nat} {w0 w : World} {b : Nat} {v1 v2 : Value} {f g : Fml} {L : Ev.Own} (h1 : FmV m v1 f) (h2 : FmV m v2 g) (hL : Ev.Loc m0 S w0 m ((b, .cells (toArr [v1, v2]) 22 (0, 0)) :: L) w) :
    ∃ m', Ev.Loc m0 S w0 m' L w ∧ Mem.Le m m' ∧ FsV m' (.slice (some ⟨b, 0, none⟩) 2 2) [f, g] := by
  obtain ⟨m1, hL1, hm1, hfs⟩ := freeze1 (l := [f, g]) (R := fun u x => FmV m u x) (L2 := L) (OwnS.full (te := 22) (g := b) (n := 2) (cur := [v1, v2]) (by decide) rfl) hL rfl (by
    intro i x hx
    match i, hx with
    | 0, hx => cases hx; exact ⟨_, rfl, h1⟩
    | 1, hx => cases hx; exact ⟨_, rfl, h2⟩
    | i + 2, hx => cases hx)
  exact ⟨m1, hL1, hm1, Sl.le hfs (Mem.Le.refl _) fun _ _ _ ⟨u, e, h⟩ => ⟨u, e, h.le hm1⟩⟩
theorem bl_freeze {m0 m : Mem} {S : List Nat} {w0 w : World} {b N : Nat} {H : Nat → Bool} {L : Ev.Own} (hL : Ev.Loc m0 S w0 m ((b, .cells (toArr (cellsB N H)) 4 (0, 0)) :: L) w) :
    ∃ m', Ev.Loc m0 S w0 m' L w ∧ Mem.Le m m' ∧ BlV m' (.slice (some ⟨b, 0, none⟩) N N) N H := by
  refine ⟨_, hL.freeze, hL.le_add, _, _, rfl, fun i hi => ⟨_, rfl, ?_⟩⟩
  rw [addr_add, scale_eq, Nat.zero_add, Nat.mul_one]
  exact mcell_add (cellsB_get hi)
theorem few_all {A : Prt} {f : Fml} (hA : A.length ≤ 9) (s : Sm A f) : f.length ≤ 1000 ∧ ∀ p ∈ f, p.length ≤ 1000 :=
  ⟨by have := s.len hA; omega, fun p hp => by have := s.part hA hp; omega⟩
theorem at_in {f : Fml} {l : Prt} {fs : List Fml} (h : AtP l fs.flatten.flatten) (hf : f ∈ fs) : In l f := fun p hp n hn => (h.mem n).2 (List.mem_flatten.2 ⟨p, List.mem_flatten.2 ⟨f, hf, hp⟩, hn⟩)
theorem at_len {A0 l : Prt} {fs : List Fml} (h : AtP l fs.flatten.flatten) (hi : ∀ f ∈ fs, In A0 f) : l.length ≤ A0.length := h.len fun z hz => by
  obtain ⟨p, hp, hz⟩ := List.mem_flatten.1 hz
  obtain ⟨f, hf, hp⟩ := List.mem_flatten.1 hp
  exact hi f hf p hp z hz
theorem at_rises {l : Prt} {fs : List Fml} (h : AtP l fs.flatten.flatten) (hi : ∀ f ∈ fs, FormedP f) : Rises l := ⟨fun z hz => by
  obtain ⟨p, hp, hz⟩ := List.mem_flatten.1 ((h.mem z).1 hz)
  obtain ⟨f, hf, hp⟩ := List.mem_flatten.1 hp
  exact ((hi f hf).rises p hp).1 z hz, h.lt⟩
theorem orB {p q : Prop} : (dec p || dec q) = true ↔ p ∨ q := by rw [Bool.or_eq_true, dec_iff, dec_iff]
theorem andB {p q : Prop} : (dec p && dec q) = true ↔ p ∧ q := by rw [Bool.and_eq_true, dec_iff, dec_iff]
theorem notB {p : Prop} : (!dec p) = true ↔ ¬ p := by
  rw [Bool.not_eq_true', ← Bool.not_eq_true, dec_iff]


set_option maxHeartbeats 4000000 in
set_option maxRecDepth 20000 in
theorem op0_fn (m : Mem) (v1 v2 : Value) (f g : Fml) (A0 : Prt) (hA0 : A0.length ≤ 9) (h1 : FmV m v1 f) (h2 : FmV m v2 g) (s1 : Sm A0 f) (s2 : Sm A0 g) :
    Fn0 Try.prog 13 [v1, v2, .int .i64 0] m fun m' u => ∃ r, FmV m' u r ∧ FormedP r ∧ ∀ S, holdsP r S ↔ holdsP f S ∨ holdsP g S := by
  have hmx : maxLen = 9223372036854775807 := rfl
  obtain ⟨A1, n1, c1, rfl, -⟩ := id h1
  obtain ⟨A2, n2, c2, rfl, -⟩ := id h2
  have q1 := few_all hA0 s1
  have q2 := few_all hA0 s2
  refine Fn.enter (N := 77) hX Try.func13 rfl rfl (by show _ ≤ _; simp) (fun w0 hL => ?_)
  conv => whnf
  conv => whnf
  repeat ((first | refine zT ?_ | refine zF ?_ | refine zL hX hL ?_ | refine zB hX hL ?_ | (refine zS hX hL ?_; clear hL; intro w hL) | refine zI ?_ | refine zG hX ?_ | refine zO ?_); conv => whnf)
  refine NewReq.mk hL ?_
  clear hL
  intro b14 w hL
  conv => whnf
  obtain ⟨ma, hLa, hma, hfs⟩ := two_fs h1 h2 (show Ev.Loc m [] w0 m ((b14, .cells (toArr [.slice A1 n1 c1, .slice A2 n2 c2]) 22 (0, 0)) :: []) w from hL)
  clear hL
  have hL := hLa
  clear hLa
  conv => whnf
  repeat ((first | refine zT ?_ | refine zF ?_ | refine zL hX hL ?_ | refine zB hX hL ?_ | (refine zS hX hL ?_; clear hL; intro w hL) | refine zI ?_ | refine zG hX ?_ | refine zO ?_); conv => whnf)
  refine CallReq.pure (atoms_fn ma _ _ hfs (by simp) (fun x hx => by
    rcases List.mem_cons.1 hx with rfl | hx
    · exact q1
    · rw [List.mem_singleton.1 hx]; exact q2)) hL ?_
  clear hL
  rintro u mb w hL hmb ⟨A, hAv, hAt⟩
  replace h1 := h1.le (hma.trans hmb)
  replace h2 := h2.le (hma.trans hmb)
  obtain ⟨Aa, na, ca, rfl, hna, -⟩ := id hAv
  clear hma hmb hfs
  conv => whnf
  repeat ((first | refine zT ?_ | refine zF ?_ | refine zL hX hL ?_ | refine zB hX hL ?_ | (refine zS hX hL ?_; clear hL; intro w hL) | refine zI ?_ | refine zG hX ?_ | refine zO ?_); conv => whnf)
  have hal := at_len hAt (A0 := A0) (fun x hx => by
    rcases List.mem_cons.1 hx with rfl | hx
    · exact s1.in_
    · rw [List.mem_singleton.1 hx]; exact s2.in_)
  have har := at_rises hAt (fun x hx => by
    rcases List.mem_cons.1 hx with rfl | hx
    · exact s1.formed
    · rw [List.mem_singleton.1 hx]; exact s2.formed)
  have i1 : In A f := at_in hAt (by simp)
  have i2 : In A g := at_in hAt (by simp)
  have hA9 : A.length ≤ 9 := by omega
  have h512 : 2 ^ A.length ≤ 512 := by rw [show 512 = 2 ^ 9 from rfl]; exact Nat.pow_le_pow_right (by decide) hA9
  obtain ⟨H, hH⟩ : ∃ H : Nat → Bool, ∀ b, H b = (dec (holdsP f (chosenP A b)) || dec (holdsP g (chosenP A b))) := ⟨_, fun _ => rfl⟩
  have hlaw : ∀ r, MkI A H r (2 ^ A.length) → FormedP r ∧ ∀ S, holdsP r S ↔ holdsP f S ∨ holdsP g S := by
    intro r hmk
    have e : H = fun b => (dec (holdsP f (chosenP A b)) || dec (holdsP g (chosenP A b))) := funext hH
    rw [e] at hmk
    exact make_law (P := fun S => holdsP f S ∨ holdsP g S) har (fun S S' h k => k.imp (holds_mono h) (holds_mono h)) (fun b _ => orB) (fun S k => k.imp (holds_mask i1) (holds_mask i2)) hmk
  subst hna
  clear hAt s1 s2 q1 q2 hal
  generalize hN : 2 ^ A.length = N at h512 hlaw
  conv => whnf
  repeat ((first | (refine ArReq.keep (k := .u64) (by show (0 : Int) ≤ _; omega) (by show _ ≤ (18446744073709551615 : Int); omega) ?_) | (refine ShlReq.mk (n := (N : Int)) (by omega) (by rw [← hN]; exact shl_b (by omega)) ?_) | refine zT ?_ | refine zF ?_ | refine zL hX hL ?_ | refine zB hX hL ?_ | (refine zS hX hL ?_; clear hL; intro w hL) | refine zI ?_ | refine zG hX ?_ | refine zO ?_); conv => whnf)
  refine RunReq.make hX rfl rfl rfl rfl N N rfl rfl (Nat.le_refl _) (by omega) rfl hL ?_
  clear hL
  intro gb w hL
  replace hL : Ev.Loc m [] w0 mb [(gb, .cells (toArr (cellsB N fun q => if q < 0 then H q else false)) 4 (0, 0))] w := by
    rw [cellsN (r' := fun _ => false) (fun k _ => by simp), ← cellsB_zero]; exact hL
  have hst : ∀ k, k < N → ∀ r : Sn, 0 + scale k 1 + 1 ≤ (cellsB N r).length := fun k hk r => by rw [cellsB_len, scale_eq]; omega
  have hset : ∀ k, k < N → cellsB N (fun q => if q < k + 1 then H q else false) = spliceL (cellsB N fun q => if q < k then H q else false) (0 + scale k 1) [.bool (H k)] := fun k hk => by
    rw [show spliceL (cellsB N fun q => if q < k then H q else false) (0 + scale k 1) [.bool (H k)] = (cellsB N fun q => if q < k then H q else false).set (0 + scale k 1) (.bool (H k)) from rfl, scale_eq, Nat.mul_one, Nat.zero_add, cellsB_set]
    refine cellsN fun q hq => ?_
    unfold setS
    by_cases e : q = k
    · subst e; rw [if_pos rfl, if_pos (by omega)]
    · rw [if_neg e]
      show _ = (if q < k then H q else false)
      by_cases h : q < k
      · rw [if_pos h, if_pos (by omega)]
      · rw [if_neg h, if_neg (by omega)]
  conv => whnf
  repeat ((first | refine zT ?_ | refine zF ?_ | refine zL hX hL ?_ | refine zB hX hL ?_ | (refine zS hX hL ?_; clear hL; intro w hL) | refine zI ?_ | refine zG hX ?_ | refine zO ?_); conv => whnf)
  refine LoopReq.inv hX (fun k : Nat => [(28, .int .i64 k)]) [0, 1, 2, 7, 8, 9, 27]
    (fun k w => k ≤ N ∧ ∃ mm, Mem.Le mb mm ∧ Ev.Loc m [] w0 mm [(gb, .cells (toArr (cellsB N fun q => if q < k then H q else false)) 4 (0, 0))] w) (fun k => N - k) 0
    ⟨Nat.zero_le _, mb, Mem.Le.refl _, hL⟩ ⟨rfl, trivial⟩ ?_
  clear hL
  rintro k w e ⟨hk, mm, hmm, hL⟩
  conv => whnf
  repeat ((first | refine zT ?_ | refine zF ?_ | refine zL hX hL ?_ | refine zB hX hL ?_ | (refine zS hX hL ?_; clear hL; intro w hL) | refine zI ?_ | refine zG hX ?_ | refine zO ?_); conv => whnf)
  refine BrReq.dec (fun hlt => ?_) (fun hlt => ?_)
  rotate_left
  · have ek : k = N := by omega
    subst ek
    rw [cellsN (r' := H) (fun q hq => by rw [if_pos hq])] at hL
    obtain ⟨mc, hLc, hmc, hbl⟩ := bl_freeze hL
    conv => whnf
    repeat ((first | refine zT ?_ | refine zF ?_ | refine zL hX hL ?_ | refine zB hX hL ?_ | (refine zS hX hL ?_; clear hL; intro w hL) | refine zI ?_ | refine zG hX ?_ | refine zO ?_); conv => whnf)
    refine CallReq.pure (make_fn mc _ _ A H (hAv.le' (hmm.trans hmc)) (by rw [hN]; exact hbl) hA9 har.2) hLc ?_
    clear hL hLc
    rintro u md w hL hmd ⟨r, hr, hmk⟩
    obtain ⟨l1, l2⟩ := hlaw r (by rw [← hN]; exact hmk)
    obtain ⟨Ar, nr, cr, rfl, -⟩ := id hr
    conv => whnf
    repeat ((first | refine zT ?_ | refine zF ?_ | refine zL hX hL ?_ | refine zB hX hL ?_ | (refine zS hX hL ?_; clear hL; intro w hL) | refine zI ?_ | refine zG hX ?_ | refine zO ?_); conv => whnf)
    exact RetReq.mk hL ⟨rfl, r, hr, l1, l2⟩
  have hk1 : k < N := by omega
  have hHk := hH k
  conv => whnf
  repeat ((first | refine zT ?_ | refine zF ?_ | refine zL hX hL ?_ | refine zB hX hL ?_ | (refine zS hX hL ?_; clear hL; intro w hL) | refine zI ?_ | refine zG hX ?_ | refine zO ?_); conv => whnf)
  refine CallReq.pure (chosen_fn mm _ A k (hAv.le' hmm) hA9 (by omega)) hL ?_
  clear hL
  rintro u m2 w hL hm2 hp
  replace hmm := hmm.trans hm2
  clear hm2
  obtain ⟨Ap, np, cp, rfl, -⟩ := id hp
  conv => whnf
  repeat ((first | refine zT ?_ | refine zF ?_ | refine zL hX hL ?_ | refine zB hX hL ?_ | (refine zS hX hL ?_; clear hL; intro w hL) | refine zI ?_ | refine zG hX ?_ | refine zO ?_); conv => whnf)
  refine CallReq.val (refHolds_fn m2 _ _ f _ (h1.le hmm) hp) hL ?_
  clear hL
  intro w hL
  conv => whnf
  repeat ((first | refine zT ?_ | refine zF ?_ | refine zL hX hL ?_ | refine zB hX hL ?_ | (refine zS hX hL ?_; clear hL; intro w hL) | refine zI ?_ | refine zG hX ?_ | refine zO ?_); conv => whnf)
  generalize dec (holdsP f (chosenP A k)) = x at hHk ⊢
  refine BrReq.bool (fun hx => ?_) (fun hx => ?_)
  · subst hx
    rw [Bool.true_or] at hHk
    conv => whnf
    repeat ((first | refine Idx2Req.mk k _ rfl (by omega) rfl ?_ | refine zT ?_ | refine zF ?_ | refine zL hX hL ?_ | refine zB hX hL ?_ | (refine zS hX hL ?_; clear hL; intro w hL) | refine zI ?_ | refine zG hX ?_ | refine zO ?_); conv => whnf)
    refine StReq.ownAt hX rfl 0 hL rfl (v := .bool true) rfl (hst k hk1 _) rfl ?_
    clear hL
    intro w hL
    replace hL : Ev.Loc m [] w0 m2 [(gb, .cells (toArr (spliceL (cellsB N fun q => if q < k then H q else false) (0 + scale k 1) [.bool (H k)])) 4 (0, 0))] w := by rw [hHk]; exact hL
    rw [← hset k hk1] at hL
    conv => whnf
    repeat ((first | refine zT ?_ | refine zF ?_ | refine zL hX hL ?_ | refine zB hX hL ?_ | (refine zS hX hL ?_; clear hL; intro w hL) | refine zI ?_ | refine zG hX ?_ | refine zO ?_); conv => whnf)
    refine ⟨k + 1, ⟨by omega, m2, hmm, hL⟩, by first | omega | (simp only; omega) | (simp only [List.length_cons, List.length_append]; omega), ?_, ?_⟩
    · repeat (first | exact trivial | (refine And.intro (by (conv => lhs; whnf) <;> (conv => rhs; whnf) <;> (first | rfl)) ?_))
    · repeat (first | exact trivial | (refine And.intro (by (conv => lhs; whnf) <;> (conv => rhs; whnf) <;> (first | rfl)) ?_))
  · subst hx
    rw [Bool.false_or] at hHk
    conv => whnf
    repeat ((first | refine zT ?_ | refine zF ?_ | refine zL hX hL ?_ | refine zB hX hL ?_ | (refine zS hX hL ?_; clear hL; intro w hL) | refine zI ?_ | refine zG hX ?_ | refine zO ?_); conv => whnf)
    refine CallReq.val (refHolds_fn m2 _ _ g _ (h2.le hmm) hp) hL ?_
    clear hL
    intro w hL
    conv => whnf
    repeat ((first | refine Idx2Req.mk k _ rfl (by omega) rfl ?_ | refine zT ?_ | refine zF ?_ | refine zL hX hL ?_ | refine zB hX hL ?_ | (refine zS hX hL ?_; clear hL; intro w hL) | refine zI ?_ | refine zG hX ?_ | refine zO ?_); conv => whnf)
    refine StReq.ownAt hX rfl 0 hL rfl (v := .bool (dec (holdsP g (chosenP A k)))) rfl (hst k hk1 _) rfl ?_
    clear hL
    intro w hL
    replace hL : Ev.Loc m [] w0 m2 [(gb, .cells (toArr (spliceL (cellsB N fun q => if q < k then H q else false) (0 + scale k 1) [.bool (H k)])) 4 (0, 0))] w := by rw [hHk]; exact hL
    rw [← hset k hk1] at hL
    conv => whnf
    repeat ((first | refine zT ?_ | refine zF ?_ | refine zL hX hL ?_ | refine zB hX hL ?_ | (refine zS hX hL ?_; clear hL; intro w hL) | refine zI ?_ | refine zG hX ?_ | refine zO ?_); conv => whnf)
    refine ⟨k + 1, ⟨by omega, m2, hmm, hL⟩, by first | omega | (simp only; omega) | (simp only [List.length_cons, List.length_append]; omega), ?_, ?_⟩
    · repeat (first | exact trivial | (refine And.intro (by (conv => lhs; whnf) <;> (conv => rhs; whnf) <;> (first | rfl)) ?_))
    · repeat (first | exact trivial | (refine And.intro (by (conv => lhs; whnf) <;> (conv => rhs; whnf) <;> (first | rfl)) ?_))

set_option maxHeartbeats 4000000 in
set_option maxRecDepth 20000 in
theorem op1_fn (m : Mem) (v1 v2 : Value) (f g : Fml) (A0 : Prt) (hA0 : A0.length ≤ 9) (h1 : FmV m v1 f) (h2 : FmV m v2 g) (s1 : Sm A0 f) (s2 : Sm A0 g) :
    Fn0 Try.prog 13 [v1, v2, .int .i64 1] m fun m' u => ∃ r, FmV m' u r ∧ FormedP r ∧ ∀ S, holdsP r S ↔ holdsP f S ∧ holdsP g S := by
  have hmx : maxLen = 9223372036854775807 := rfl
  obtain ⟨A1, n1, c1, rfl, -⟩ := id h1
  obtain ⟨A2, n2, c2, rfl, -⟩ := id h2
  have q1 := few_all hA0 s1
  have q2 := few_all hA0 s2
  refine Fn.enter (N := 77) hX Try.func13 rfl rfl (by show _ ≤ _; simp) (fun w0 hL => ?_)
  conv => whnf
  conv => whnf
  repeat ((first | refine zT ?_ | refine zF ?_ | refine zL hX hL ?_ | refine zB hX hL ?_ | (refine zS hX hL ?_; clear hL; intro w hL) | refine zI ?_ | refine zG hX ?_ | refine zO ?_); conv => whnf)
  refine NewReq.mk hL ?_
  clear hL
  intro b14 w hL
  conv => whnf
  obtain ⟨ma, hLa, hma, hfs⟩ := two_fs h1 h2 (show Ev.Loc m [] w0 m ((b14, .cells (toArr [.slice A1 n1 c1, .slice A2 n2 c2]) 22 (0, 0)) :: []) w from hL)
  clear hL
  have hL := hLa
  clear hLa
  conv => whnf
  repeat ((first | refine zT ?_ | refine zF ?_ | refine zL hX hL ?_ | refine zB hX hL ?_ | (refine zS hX hL ?_; clear hL; intro w hL) | refine zI ?_ | refine zG hX ?_ | refine zO ?_); conv => whnf)
  refine CallReq.pure (atoms_fn ma _ _ hfs (by simp) (fun x hx => by
    rcases List.mem_cons.1 hx with rfl | hx
    · exact q1
    · rw [List.mem_singleton.1 hx]; exact q2)) hL ?_
  clear hL
  rintro u mb w hL hmb ⟨A, hAv, hAt⟩
  replace h1 := h1.le (hma.trans hmb)
  replace h2 := h2.le (hma.trans hmb)
  obtain ⟨Aa, na, ca, rfl, hna, -⟩ := id hAv
  clear hma hmb hfs
  conv => whnf
  repeat ((first | refine zT ?_ | refine zF ?_ | refine zL hX hL ?_ | refine zB hX hL ?_ | (refine zS hX hL ?_; clear hL; intro w hL) | refine zI ?_ | refine zG hX ?_ | refine zO ?_); conv => whnf)
  have hal := at_len hAt (A0 := A0) (fun x hx => by
    rcases List.mem_cons.1 hx with rfl | hx
    · exact s1.in_
    · rw [List.mem_singleton.1 hx]; exact s2.in_)
  have har := at_rises hAt (fun x hx => by
    rcases List.mem_cons.1 hx with rfl | hx
    · exact s1.formed
    · rw [List.mem_singleton.1 hx]; exact s2.formed)
  have i1 : In A f := at_in hAt (by simp)
  have i2 : In A g := at_in hAt (by simp)
  have hA9 : A.length ≤ 9 := by omega
  have h512 : 2 ^ A.length ≤ 512 := by rw [show 512 = 2 ^ 9 from rfl]; exact Nat.pow_le_pow_right (by decide) hA9
  obtain ⟨H, hH⟩ : ∃ H : Nat → Bool, ∀ b, H b = (dec (holdsP f (chosenP A b)) && dec (holdsP g (chosenP A b))) := ⟨_, fun _ => rfl⟩
  have hlaw : ∀ r, MkI A H r (2 ^ A.length) → FormedP r ∧ ∀ S, holdsP r S ↔ holdsP f S ∧ holdsP g S := by
    intro r hmk
    have e : H = fun b => (dec (holdsP f (chosenP A b)) && dec (holdsP g (chosenP A b))) := funext hH
    rw [e] at hmk
    exact make_law (P := fun S => holdsP f S ∧ holdsP g S) har (fun S S' h k => ⟨holds_mono h k.1, holds_mono h k.2⟩) (fun b _ => andB) (fun S k => ⟨holds_mask i1 k.1, holds_mask i2 k.2⟩) hmk
  subst hna
  clear hAt s1 s2 q1 q2 hal
  generalize hN : 2 ^ A.length = N at h512 hlaw
  conv => whnf
  repeat ((first | (refine ArReq.keep (k := .u64) (by show (0 : Int) ≤ _; omega) (by show _ ≤ (18446744073709551615 : Int); omega) ?_) | (refine ShlReq.mk (n := (N : Int)) (by omega) (by rw [← hN]; exact shl_b (by omega)) ?_) | refine zT ?_ | refine zF ?_ | refine zL hX hL ?_ | refine zB hX hL ?_ | (refine zS hX hL ?_; clear hL; intro w hL) | refine zI ?_ | refine zG hX ?_ | refine zO ?_); conv => whnf)
  refine RunReq.make hX rfl rfl rfl rfl N N rfl rfl (Nat.le_refl _) (by omega) rfl hL ?_
  clear hL
  intro gb w hL
  replace hL : Ev.Loc m [] w0 mb [(gb, .cells (toArr (cellsB N fun q => if q < 0 then H q else false)) 4 (0, 0))] w := by
    rw [cellsN (r' := fun _ => false) (fun k _ => by simp), ← cellsB_zero]; exact hL
  have hst : ∀ k, k < N → ∀ r : Sn, 0 + scale k 1 + 1 ≤ (cellsB N r).length := fun k hk r => by rw [cellsB_len, scale_eq]; omega
  have hset : ∀ k, k < N → cellsB N (fun q => if q < k + 1 then H q else false) = spliceL (cellsB N fun q => if q < k then H q else false) (0 + scale k 1) [.bool (H k)] := fun k hk => by
    rw [show spliceL (cellsB N fun q => if q < k then H q else false) (0 + scale k 1) [.bool (H k)] = (cellsB N fun q => if q < k then H q else false).set (0 + scale k 1) (.bool (H k)) from rfl, scale_eq, Nat.mul_one, Nat.zero_add, cellsB_set]
    refine cellsN fun q hq => ?_
    unfold setS
    by_cases e : q = k
    · subst e; rw [if_pos rfl, if_pos (by omega)]
    · rw [if_neg e]
      show _ = (if q < k then H q else false)
      by_cases h : q < k
      · rw [if_pos h, if_pos (by omega)]
      · rw [if_neg h, if_neg (by omega)]
  conv => whnf
  repeat ((first | refine zT ?_ | refine zF ?_ | refine zL hX hL ?_ | refine zB hX hL ?_ | (refine zS hX hL ?_; clear hL; intro w hL) | refine zI ?_ | refine zG hX ?_ | refine zO ?_); conv => whnf)
  refine LoopReq.inv hX (fun k : Nat => [(28, .int .i64 k)]) [0, 1, 2, 7, 8, 9, 27]
    (fun k w => k ≤ N ∧ ∃ mm, Mem.Le mb mm ∧ Ev.Loc m [] w0 mm [(gb, .cells (toArr (cellsB N fun q => if q < k then H q else false)) 4 (0, 0))] w) (fun k => N - k) 0
    ⟨Nat.zero_le _, mb, Mem.Le.refl _, hL⟩ ⟨rfl, trivial⟩ ?_
  clear hL
  rintro k w e ⟨hk, mm, hmm, hL⟩
  conv => whnf
  repeat ((first | refine zT ?_ | refine zF ?_ | refine zL hX hL ?_ | refine zB hX hL ?_ | (refine zS hX hL ?_; clear hL; intro w hL) | refine zI ?_ | refine zG hX ?_ | refine zO ?_); conv => whnf)
  refine BrReq.dec (fun hlt => ?_) (fun hlt => ?_)
  rotate_left
  · have ek : k = N := by omega
    subst ek
    rw [cellsN (r' := H) (fun q hq => by rw [if_pos hq])] at hL
    obtain ⟨mc, hLc, hmc, hbl⟩ := bl_freeze hL
    conv => whnf
    repeat ((first | refine zT ?_ | refine zF ?_ | refine zL hX hL ?_ | refine zB hX hL ?_ | (refine zS hX hL ?_; clear hL; intro w hL) | refine zI ?_ | refine zG hX ?_ | refine zO ?_); conv => whnf)
    refine CallReq.pure (make_fn mc _ _ A H (hAv.le' (hmm.trans hmc)) (by rw [hN]; exact hbl) hA9 har.2) hLc ?_
    clear hL hLc
    rintro u md w hL hmd ⟨r, hr, hmk⟩
    obtain ⟨l1, l2⟩ := hlaw r (by rw [← hN]; exact hmk)
    obtain ⟨Ar, nr, cr, rfl, -⟩ := id hr
    conv => whnf
    repeat ((first | refine zT ?_ | refine zF ?_ | refine zL hX hL ?_ | refine zB hX hL ?_ | (refine zS hX hL ?_; clear hL; intro w hL) | refine zI ?_ | refine zG hX ?_ | refine zO ?_); conv => whnf)
    exact RetReq.mk hL ⟨rfl, r, hr, l1, l2⟩
  have hk1 : k < N := by omega
  have hHk := hH k
  conv => whnf
  repeat ((first | refine zT ?_ | refine zF ?_ | refine zL hX hL ?_ | refine zB hX hL ?_ | (refine zS hX hL ?_; clear hL; intro w hL) | refine zI ?_ | refine zG hX ?_ | refine zO ?_); conv => whnf)
  refine CallReq.pure (chosen_fn mm _ A k (hAv.le' hmm) hA9 (by omega)) hL ?_
  clear hL
  rintro u m2 w hL hm2 hp
  replace hmm := hmm.trans hm2
  clear hm2
  obtain ⟨Ap, np, cp, rfl, -⟩ := id hp
  conv => whnf
  repeat ((first | refine zT ?_ | refine zF ?_ | refine zL hX hL ?_ | refine zB hX hL ?_ | (refine zS hX hL ?_; clear hL; intro w hL) | refine zI ?_ | refine zG hX ?_ | refine zO ?_); conv => whnf)
  refine CallReq.val (refHolds_fn m2 _ _ f _ (h1.le hmm) hp) hL ?_
  clear hL
  intro w hL
  conv => whnf
  repeat ((first | refine zT ?_ | refine zF ?_ | refine zL hX hL ?_ | refine zB hX hL ?_ | (refine zS hX hL ?_; clear hL; intro w hL) | refine zI ?_ | refine zG hX ?_ | refine zO ?_); conv => whnf)
  generalize dec (holdsP f (chosenP A k)) = x at hHk ⊢
  refine BrReq.bool (fun hx => ?_) (fun hx => ?_)
  · subst hx
    rw [Bool.true_and] at hHk
    conv => whnf
    repeat ((first | refine zT ?_ | refine zF ?_ | refine zL hX hL ?_ | refine zB hX hL ?_ | (refine zS hX hL ?_; clear hL; intro w hL) | refine zI ?_ | refine zG hX ?_ | refine zO ?_); conv => whnf)
    refine CallReq.val (refHolds_fn m2 _ _ g _ (h2.le hmm) hp) hL ?_
    clear hL
    intro w hL
    conv => whnf
    repeat ((first | refine Idx2Req.mk k _ rfl (by omega) rfl ?_ | refine zT ?_ | refine zF ?_ | refine zL hX hL ?_ | refine zB hX hL ?_ | (refine zS hX hL ?_; clear hL; intro w hL) | refine zI ?_ | refine zG hX ?_ | refine zO ?_); conv => whnf)
    refine StReq.ownAt hX rfl 0 hL rfl (v := .bool (dec (holdsP g (chosenP A k)))) rfl (hst k hk1 _) rfl ?_
    clear hL
    intro w hL
    replace hL : Ev.Loc m [] w0 m2 [(gb, .cells (toArr (spliceL (cellsB N fun q => if q < k then H q else false) (0 + scale k 1) [.bool (H k)])) 4 (0, 0))] w := by rw [hHk]; exact hL
    rw [← hset k hk1] at hL
    conv => whnf
    repeat ((first | refine zT ?_ | refine zF ?_ | refine zL hX hL ?_ | refine zB hX hL ?_ | (refine zS hX hL ?_; clear hL; intro w hL) | refine zI ?_ | refine zG hX ?_ | refine zO ?_); conv => whnf)
    refine ⟨k + 1, ⟨by omega, m2, hmm, hL⟩, by first | omega | (simp only; omega) | (simp only [List.length_cons, List.length_append]; omega), ?_, ?_⟩
    · repeat (first | exact trivial | (refine And.intro (by (conv => lhs; whnf) <;> (conv => rhs; whnf) <;> (first | rfl)) ?_))
    · repeat (first | exact trivial | (refine And.intro (by (conv => lhs; whnf) <;> (conv => rhs; whnf) <;> (first | rfl)) ?_))
  · subst hx
    rw [Bool.false_and] at hHk
    conv => whnf
    repeat ((first | refine Idx2Req.mk k _ rfl (by omega) rfl ?_ | refine zT ?_ | refine zF ?_ | refine zL hX hL ?_ | refine zB hX hL ?_ | (refine zS hX hL ?_; clear hL; intro w hL) | refine zI ?_ | refine zG hX ?_ | refine zO ?_); conv => whnf)
    refine StReq.ownAt hX rfl 0 hL rfl (v := .bool false) rfl (hst k hk1 _) rfl ?_
    clear hL
    intro w hL
    replace hL : Ev.Loc m [] w0 m2 [(gb, .cells (toArr (spliceL (cellsB N fun q => if q < k then H q else false) (0 + scale k 1) [.bool (H k)])) 4 (0, 0))] w := by rw [hHk]; exact hL
    rw [← hset k hk1] at hL
    conv => whnf
    repeat ((first | refine zT ?_ | refine zF ?_ | refine zL hX hL ?_ | refine zB hX hL ?_ | (refine zS hX hL ?_; clear hL; intro w hL) | refine zI ?_ | refine zG hX ?_ | refine zO ?_); conv => whnf)
    refine ⟨k + 1, ⟨by omega, m2, hmm, hL⟩, by first | omega | (simp only; omega) | (simp only [List.length_cons, List.length_append]; omega), ?_, ?_⟩
    · repeat (first | exact trivial | (refine And.intro (by (conv => lhs; whnf) <;> (conv => rhs; whnf) <;> (first | rfl)) ?_))
    · repeat (first | exact trivial | (refine And.intro (by (conv => lhs; whnf) <;> (conv => rhs; whnf) <;> (first | rfl)) ?_))

set_option maxHeartbeats 4000000 in
set_option maxRecDepth 20000 in
theorem op2_fn (m : Mem) (v1 v2 : Value) (f g : Fml) (A0 : Prt) (hA0 : A0.length ≤ 9) (h1 : FmV m v1 f) (h2 : FmV m v2 g) (s1 : Sm A0 f) (s2 : Sm A0 g) :
    Fn0 Try.prog 13 [v1, v2, .int .i64 2] m fun m' u => ∃ r, FmV m' u r ∧ FormedP r ∧ ∀ S, holdsP r S ↔ metP f S := by
  have hmx : maxLen = 9223372036854775807 := rfl
  obtain ⟨A1, n1, c1, rfl, -⟩ := id h1
  obtain ⟨A2, n2, c2, rfl, -⟩ := id h2
  have q1 := few_all hA0 s1
  have q2 := few_all hA0 s2
  refine Fn.enter (N := 77) hX Try.func13 rfl rfl (by show _ ≤ _; simp) (fun w0 hL => ?_)
  conv => whnf
  conv => whnf
  repeat ((first | refine zT ?_ | refine zF ?_ | refine zL hX hL ?_ | refine zB hX hL ?_ | (refine zS hX hL ?_; clear hL; intro w hL) | refine zI ?_ | refine zG hX ?_ | refine zO ?_); conv => whnf)
  refine NewReq.mk hL ?_
  clear hL
  intro b14 w hL
  conv => whnf
  obtain ⟨ma, hLa, hma, hfs⟩ := two_fs h1 h2 (show Ev.Loc m [] w0 m ((b14, .cells (toArr [.slice A1 n1 c1, .slice A2 n2 c2]) 22 (0, 0)) :: []) w from hL)
  clear hL
  have hL := hLa
  clear hLa
  conv => whnf
  repeat ((first | refine zT ?_ | refine zF ?_ | refine zL hX hL ?_ | refine zB hX hL ?_ | (refine zS hX hL ?_; clear hL; intro w hL) | refine zI ?_ | refine zG hX ?_ | refine zO ?_); conv => whnf)
  refine CallReq.pure (atoms_fn ma _ _ hfs (by simp) (fun x hx => by
    rcases List.mem_cons.1 hx with rfl | hx
    · exact q1
    · rw [List.mem_singleton.1 hx]; exact q2)) hL ?_
  clear hL
  rintro u mb0 w hL hmb ⟨Ax, hAvx, hAtx⟩
  replace h1 := h1.le (hma.trans hmb)
  replace h2 := h2.le (hma.trans hmb)
  obtain ⟨Aax, nax, cax, rfl, hnax, -⟩ := id hAvx
  clear hma hmb hfs
  conv => whnf
  repeat ((first | refine zT ?_ | refine zF ?_ | refine zL hX hL ?_ | refine zB hX hL ?_ | (refine zS hX hL ?_; clear hL; intro w hL) | refine zI ?_ | refine zG hX ?_ | refine zO ?_); conv => whnf)
  refine NewReq.mk hL ?_
  clear hL
  intro b19 w hL
  conv => whnf
  obtain ⟨mc, hLc, hmc, hfs⟩ := one_fs h1 (show Ev.Loc m [] w0 mb0 ((b19, .cells (toArr [.slice A1 n1 c1]) 22 (0, 0)) :: []) w from hL)
  clear hL
  have hL := hLc
  clear hLc
  conv => whnf
  repeat ((first | refine zT ?_ | refine zF ?_ | refine zL hX hL ?_ | refine zB hX hL ?_ | (refine zS hX hL ?_; clear hL; intro w hL) | refine zI ?_ | refine zG hX ?_ | refine zO ?_); conv => whnf)
  refine CallReq.pure (atoms_fn mc _ _ hfs (by simp) (fun x hx => by
    rw [List.mem_singleton.1 hx]; exact q1)) hL ?_
  clear hL
  rintro u mb w hL hmd ⟨A, hAv, hAt⟩
  replace h1 := h1.le (hmc.trans hmd)
  replace h2 := h2.le (hmc.trans hmd)
  obtain ⟨Aa, na, ca, rfl, hna, -⟩ := id hAv
  clear hmc hmd hfs
  have hal := at_len hAt (A0 := A0) (fun x hx => by rw [List.mem_singleton.1 hx]; exact s1.in_)
  have har := at_rises hAt (fun x hx => by rw [List.mem_singleton.1 hx]; exact s1.formed)
  have i1 : In A f := at_in hAt (List.mem_singleton.2 rfl)
  have hA9 : A.length ≤ 9 := by omega
  have h512 : 2 ^ A.length ≤ 512 := by rw [show 512 = 2 ^ 9 from rfl]; exact Nat.pow_le_pow_right (by decide) hA9
  obtain ⟨H, hH⟩ : ∃ H : Nat → Bool, ∀ b, H b = (!dec (holdsP f (chosenP A (2 ^ A.length - 1 - b)))) := ⟨_, fun _ => rfl⟩
  have hlaw : ∀ r, MkI A H r (2 ^ A.length) → FormedP r ∧ ∀ S, holdsP r S ↔ metP f S := by
    intro r hmk
    have e : H = fun b => (!dec (holdsP f (chosenP A (2 ^ A.length - 1 - b)))) := funext hH
    rw [e] at hmk
    exact make_law (P := metP f) har (fun S S' h k => met_mono h k) (fun b hb => notB.trans (met_comp har.2 i1 hb)) (fun S k => met_mask i1 k) hmk
  subst hna
  clear hAt s1 s2 q1 q2 hal
  generalize hN : 2 ^ A.length = N at h512 hlaw
  conv => whnf
  repeat ((first | (refine ArReq.keep (k := .u64) (by show (0 : Int) ≤ _; omega) (by show _ ≤ (18446744073709551615 : Int); omega) ?_) | (refine ShlReq.mk (n := (N : Int)) (by omega) (by rw [← hN]; exact shl_b (by omega)) ?_) | refine zT ?_ | refine zF ?_ | refine zL hX hL ?_ | refine zB hX hL ?_ | (refine zS hX hL ?_; clear hL; intro w hL) | refine zI ?_ | refine zG hX ?_ | refine zO ?_); conv => whnf)
  refine RunReq.make hX rfl rfl rfl rfl N N rfl rfl (Nat.le_refl _) (by omega) rfl hL ?_
  clear hL
  intro gb w hL
  replace hL : Ev.Loc m [] w0 mb [(gb, .cells (toArr (cellsB N fun q => if q < 0 then H q else false)) 4 (0, 0))] w := by
    rw [cellsN (r' := fun _ => false) (fun k _ => by simp), ← cellsB_zero]; exact hL
  have hst : ∀ k, k < N → ∀ r : Sn, 0 + scale k 1 + 1 ≤ (cellsB N r).length := fun k hk r => by rw [cellsB_len, scale_eq]; omega
  have hset : ∀ k, k < N → cellsB N (fun q => if q < k + 1 then H q else false) = spliceL (cellsB N fun q => if q < k then H q else false) (0 + scale k 1) [.bool (H k)] := fun k hk => by
    rw [show spliceL (cellsB N fun q => if q < k then H q else false) (0 + scale k 1) [.bool (H k)] = (cellsB N fun q => if q < k then H q else false).set (0 + scale k 1) (.bool (H k)) from rfl, scale_eq, Nat.mul_one, Nat.zero_add, cellsB_set]
    refine cellsN fun q hq => ?_
    unfold setS
    by_cases e : q = k
    · subst e; rw [if_pos rfl, if_pos (by omega)]
    · rw [if_neg e]
      show _ = (if q < k then H q else false)
      by_cases h : q < k
      · rw [if_pos h, if_pos (by omega)]
      · rw [if_neg h, if_neg (by omega)]
  conv => whnf
  repeat ((first | refine zT ?_ | refine zF ?_ | refine zL hX hL ?_ | refine zB hX hL ?_ | (refine zS hX hL ?_; clear hL; intro w hL) | refine zI ?_ | refine zG hX ?_ | refine zO ?_); conv => whnf)
  refine LoopReq.inv hX (fun k : Nat => [(28, .int .i64 k)]) [0, 1, 2, 7, 8, 9, 27]
    (fun k w => k ≤ N ∧ ∃ mm, Mem.Le mb mm ∧ Ev.Loc m [] w0 mm [(gb, .cells (toArr (cellsB N fun q => if q < k then H q else false)) 4 (0, 0))] w) (fun k => N - k) 0
    ⟨Nat.zero_le _, mb, Mem.Le.refl _, hL⟩ ⟨rfl, trivial⟩ ?_
  clear hL
  rintro k w e ⟨hk, mm, hmm, hL⟩
  conv => whnf
  repeat ((first | refine zT ?_ | refine zF ?_ | refine zL hX hL ?_ | refine zB hX hL ?_ | (refine zS hX hL ?_; clear hL; intro w hL) | refine zI ?_ | refine zG hX ?_ | refine zO ?_); conv => whnf)
  refine BrReq.dec (fun hlt => ?_) (fun hlt => ?_)
  rotate_left
  · have ek : k = N := by omega
    subst ek
    rw [cellsN (r' := H) (fun q hq => by rw [if_pos hq])] at hL
    obtain ⟨mc, hLc, hmc, hbl⟩ := bl_freeze hL
    conv => whnf
    repeat ((first | refine zT ?_ | refine zF ?_ | refine zL hX hL ?_ | refine zB hX hL ?_ | (refine zS hX hL ?_; clear hL; intro w hL) | refine zI ?_ | refine zG hX ?_ | refine zO ?_); conv => whnf)
    refine CallReq.pure (make_fn mc _ _ A H (hAv.le' (hmm.trans hmc)) (by rw [hN]; exact hbl) hA9 har.2) hLc ?_
    clear hL hLc
    rintro u md w hL hmd ⟨r, hr, hmk⟩
    obtain ⟨l1, l2⟩ := hlaw r (by rw [← hN]; exact hmk)
    obtain ⟨Ar, nr, cr, rfl, -⟩ := id hr
    conv => whnf
    repeat ((first | refine zT ?_ | refine zF ?_ | refine zL hX hL ?_ | refine zB hX hL ?_ | (refine zS hX hL ?_; clear hL; intro w hL) | refine zI ?_ | refine zG hX ?_ | refine zO ?_); conv => whnf)
    exact RetReq.mk hL ⟨rfl, r, hr, l1, l2⟩
  have hk1 : k < N := by omega
  have hHk := hH k
  conv => whnf
  repeat ((first | refine zT ?_ | refine zF ?_ | refine zL hX hL ?_ | refine zB hX hL ?_ | (refine zS hX hL ?_; clear hL; intro w hL) | refine zI ?_ | refine zG hX ?_ | refine zO ?_); conv => whnf)
  refine CallReq.pure (chosen_fn mm _ A k (hAv.le' hmm) hA9 (by omega)) hL ?_
  clear hL
  rintro u m2 w hL hm2 hp
  replace hmm := hmm.trans hm2
  clear hm2
  obtain ⟨Ap, np, cp, rfl, -⟩ := id hp
  conv => whnf
  repeat ((first | refine zT ?_ | refine zF ?_ | refine zL hX hL ?_ | refine zB hX hL ?_ | (refine zS hX hL ?_; clear hL; intro w hL) | refine zI ?_ | refine zG hX ?_ | refine zO ?_); conv => whnf)
  have hcx : ((N : Int) - 1 - (k : Int)) = ((N - 1 - k : Nat) : Int) := by omega
  rw [hcx]
  refine CallReq.pure (chosen_fn m2 _ A (N - 1 - k) (hAv.le' hmm) hA9 (by omega)) hL ?_
  clear hL
  rintro u m3 w hL hm3 hp3
  obtain ⟨Ap3, np3, cp3, rfl, -⟩ := id hp3
  conv => whnf
  repeat ((first | refine zT ?_ | refine zF ?_ | refine zL hX hL ?_ | refine zB hX hL ?_ | (refine zS hX hL ?_; clear hL; intro w hL) | refine zI ?_ | refine zG hX ?_ | refine zO ?_); conv => whnf)
  refine CallReq.val (refHolds_fn m3 _ _ f _ (h1.le (hmm.trans hm3)) hp3) hL ?_
  clear hL
  intro w hL
  rw [hN] at hHk
  conv => whnf
  repeat ((first | refine Idx2Req.mk k _ rfl (by omega) rfl ?_ | refine zT ?_ | refine zF ?_ | refine zL hX hL ?_ | refine zB hX hL ?_ | (refine zS hX hL ?_; clear hL; intro w hL) | refine zI ?_ | refine zG hX ?_ | refine zO ?_); conv => whnf)
  refine StReq.ownAt hX rfl 0 hL rfl (v := .bool (!dec (holdsP f (chosenP A (N - 1 - k))))) rfl (hst k hk1 _) rfl ?_
  clear hL
  intro w hL
  replace hL : Ev.Loc m [] w0 m3 [(gb, .cells (toArr (spliceL (cellsB N fun q => if q < k then H q else false) (0 + scale k 1) [.bool (H k)])) 4 (0, 0))] w := by rw [hHk]; exact hL
  rw [← hset k hk1] at hL
  conv => whnf
  repeat ((first | refine zT ?_ | refine zF ?_ | refine zL hX hL ?_ | refine zB hX hL ?_ | (refine zS hX hL ?_; clear hL; intro w hL) | refine zI ?_ | refine zG hX ?_ | refine zO ?_); conv => whnf)
  refine ⟨k + 1, ⟨by omega, m3, hmm.trans hm3, hL⟩, by first | omega | (simp only; omega) | (simp only [List.length_cons, List.length_append]; omega), ?_, ?_⟩
  · repeat (first | exact trivial | (refine And.intro (by (conv => lhs; whnf) <;> (conv => rhs; whnf) <;> (first | rfl)) ?_))
  · repeat (first | exact trivial | (refine And.intro (by (conv => lhs; whnf) <;> (conv => rhs; whnf) <;> (first | rfl)) ?_))
end Go.Proofs.Ytnpgllgmcdhmcaa.fo
