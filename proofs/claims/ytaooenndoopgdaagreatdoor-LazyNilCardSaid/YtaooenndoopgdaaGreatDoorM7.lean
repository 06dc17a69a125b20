/- LazyNil, proved: a nil machine has nothing. Conditions: none beyond the row its own.: part 7 of 12 of the proof. Conditions: none. -/
import Derived.Test.YtaooenndoopgdaaGreatDoorM6
import Derived.Test.YtaooenndoopgdaaGreatDoorM4
namespace Go.Proofs.YtaooenndoopgdaaGreatDoor.looks
open Go Go.Ev Go.Proofs Go.Proofs.YtaooenndoopgdaaGreatDoor.tree
def makeR (l : List Re) : Int × List Re := if l.any (fun r => !formedR r) = true then (1, []) else if 4 < (looksL l []).length then (10, []) else (0, looksL l [])
theorem make1_fn (m : Mem) (p : Re) (cs : List Value) (h : RepRe m cs p) : FnV Tryz.prog 65 ([.agg (toArr cs)] ++ []) m (.bool (!formedR p)) := by
  obtain ⟨k1, u0, u1, u2, u3, A1, n1, c1, lo1, hi1, neg1, rfl⟩ := h.form
  refine Fn.enter (N := 6) hX Tryz.func65 rfl rfl (by show _ ≤ _; simp) (fun w0 hL => ?_)
  conv => whnf
  refine NewReq.mk hL ?_
  clear hL
  intro b1 w hL
  conv => whnf
  refine go ?_; try (clear hL; intro w hL)
  refine CallReq.val (Formed_fn m p _ h) hL ?_
  clear hL
  intro w hL
  refine go ?_; try (clear hL; intro w hL)
  exact RetReq.bool hL.drop rfl
theorem formed_deep {r : Re} (h : formedR r = true) : deepR 40 r ≤ 40 := by
  unfold formedR at h
  simp only [Bool.and_eq_true, decide_eq_true_eq] at h
  exact h.1.1
set_option maxHeartbeats 1000000 in
theorem Make_fn (m : Mem) (v : Value) (l : List Re) (hs : Sl m 9 (RepRe m) v l) (hsm : ∀ r ∈ l, Small r) (hnb : nodesL l ≤ 1000000) :
    Fn0 Tryz.prog 40 [v] m fun m' u => ∃ A n c, u = .tuple (toArr [.agg (toArr [.slice A n c]), .int .i64 (makeR l).1]) ∧ Sl m' 9 (RepRe m') (.slice A n c) (makeR l).2 := by
  have hs' := hs
  obtain ⟨A, n, c, rfl, hn, hc, hm, -⟩ := hs
  have he := hs'.elem
  have hmx : maxLen = 9223372036854775807 := rfl
  refine Fn.enter (N := 25) hX Tryz.func40 rfl rfl (by show _ ≤ _; simp) (fun w0 hL => ?_)
  conv => whnf
  refine NewReq.mk hL ?_
  clear hL
  intro b2 w hL
  conv => whnf
  refine go ?_; try (clear hL; intro w hL)
  refine CallReq.val (containsMake_fn m _ l (fun r => !formedR r) hs' fun p _ cs h => make1_fn m p cs h) hL ?_
  clear hL
  intro w hL
  refine go ?_; try (clear hL; intro w hL)
  refine BrReq.bool (fun hu => ?_) (fun hu => ?_)
  · have e : makeR l = (1, []) := by unfold makeR; rw [if_pos hu]
    refine go ?_; try (clear hL; intro w hL)
    exact RetReq.mk hL.drop ⟨rfl, none, 0, 0, by rw [e]; rfl, by rw [e]; exact ⟨none, 0, 0, rfl, rfl, Nat.le_refl 0, Nat.zero_le _, fun i x hx => by simp at hx⟩⟩
  have hform : ∀ r ∈ l, formedR r = true := by
    intro r hr
    have := List.any_eq_false.1 hu r hr
    simpa using this
  refine go ?_; try (clear hL; intro w hL)
  refine NewReq.mk hL ?_
  clear hL
  intro b4 w hL
  conv => whnf
  refine go ?_; try (clear hL; intro w hL)
  refine LoopReq.inv hX (fun j : Nat => [(12, .int .i64 j)]) [2, 4, 10, 11]
    (fun j w => j ≤ n ∧ ∃ m1 L1, Mem.Le m m1 ∧ PlanOwn m1 b4 (looksL (l.take j) []) L1 ∧ Ev.Loc m [] w0 m1 ((b2, .cells (toArr [.slice none 0 0]) 44 (0, 0)) :: L1) w) (fun j => n - j) 0
    ⟨by omega, m, _, Mem.Le.refl m, ⟨none, 0, 0, [], [], rfl, OwnS.nil _ _, fun r hr => by simp at hr, rfl, rfl, fun i x hx => by simp [looksL] at hx⟩, hL.perm (List.Perm.swap _ _ _)⟩ ⟨rfl, trivial⟩ ?_
  clear hL
  rintro j w f ⟨hj, m1, L1, hm1, hp, hL⟩
  refine go ?_; try (clear hL; intro w hL)
  refine BrReq.dec (fun hlt => ?_) (fun hlt => ?_)
  · have hlt' : j < l.length := by omega
    obtain ⟨a, cs', rfl, hl9, hcells, hrep⟩ := he j _ (List.getElem?_eq_getElem hlt')
    obtain ⟨k1, u0, u1, u2, u3, A1, n1, c1, lo1, hi1, neg1, rfl⟩ := hrep.form
    have hmem := List.getElem_mem hlt'
    have hln := looksL_len (l.take j) []
    have hnt := nodesL_take l j hlt'
    have hnl := nodesL_take_le l (j + 1)
    have htk := looksL_take l j hlt' []
    have hdj := looksL_deep (l.take j) [] (fun p hp => formed_deep (hform p (List.mem_of_mem_take hp))) (fun x hx => by simp at hx)
    simp only [List.length_nil, Nat.zero_add] at hln
    conv => whnf
    repeat ((first | refine Idx2Req.mk j a rfl (by omega) rfl ?_ | refine LdReq.agg hX rfl rfl hL hl9 (hcells.le hm1) ?_ | (refine go1 ?_; try (clear hL; intro w hL))); conv => whnf)
    refine NewReq.mk hL ?_
    clear hL
    intro b6 w hL
    conv => whnf
    refine go ?_; try (clear hL; intro w hL)
    refine CallReq.mk (L1 := L1) (gather_fn _ m1 _ b4 _ L1 (hrep.le hm1) (hsm _ hmem) (formed_deep (hform _ hmem)) hdj (by omega) hp) (Ev.Loc.back (L1 := [_, _]) hL) ?_
    clear hL
    rintro v m2 L2 w hL hm2 ⟨rfl, hp2⟩
    rw [← htk] at hp2
    replace hL := hL.back
    have hL : Ev.Loc m [] w0 m2 (_ :: _ :: L2) w := hL
    refine go ?_; try (clear hL; intro w hL)
    refine ⟨j + 1, ⟨by omega, m2, L2, hm1.trans hm2, hp2, hL.drop⟩, by first | omega | (simp only; omega) | (simp only [List.length_cons, List.length_append]; omega), ?_, ?_⟩
    · repeat (first | exact trivial | (refine And.intro (by (conv => lhs; whnf) <;> (conv => rhs; whnf) <;> (first | rfl)) ?_))
    · repeat (first | exact trivial | (refine And.intro (by (conv => lhs; whnf) <;> (conv => rhs; whnf) <;> (first | rfl)) ?_))
  have hjn : j = l.length := by omega
  rw [hjn, List.take_length] at hp
  obtain ⟨A0, n0, c0, rows, Lx, rfl, hown, hrows, hrl, hn0, hrl2⟩ := hp
  refine go ?_; try (clear hL; intro w hL)
  refine BrReq.dec (fun h4 => ?_) (fun h4 => ?_)
  · have e : makeR l = (10, []) := by unfold makeR; rw [if_neg (by rw [hu]; simp), if_pos (by omega)]
    refine go ?_; try (clear hL; intro w hL)
    exact RetReq.mk (hL.sublist (List.nil_sublist _)) ⟨rfl, none, 0, 0, by rw [e]; rfl, by rw [e]; exact ⟨none, 0, 0, rfl, rfl, Nat.le_refl 0, Nat.zero_le _, fun i x hx => by simp at hx⟩⟩
  · have e : makeR l = (0, looksL l []) := by unfold makeR; rw [if_neg (by rw [hu]; simp), if_neg (by omega)]
    refine go ?_; try (clear hL; intro w hL)
    have hL : Ev.Loc m [] w0 m1 (_ :: _ :: Lx) w := hL
    obtain ⟨m2, A', c', ev, hL, hle, hsl, -⟩ := OwnS.freezeRows (size := 9) (l := looksL l []) (L2 := [_, _]) (by omega) hown (Ev.Loc.back (L1 := [_, _]) hL) hrows (by omega) hrl2
    cases ev
    exact RetReq.mk hL.drop.drop ⟨rfl, A0, _, c0, by rw [e]; rfl, by rw [e]; exact hsl.le (Mem.Le.refl m2) fun cs x _ hx => hx.le hle⟩
end Go.Proofs.YtaooenndoopgdaaGreatDoor.looks
namespace Go.Proofs.YtaooenndoopgdaaGreatDoor.lz
open Go Go.Ev Go.Proofs Go.Proofs.YtaooenndoopgdaaGreatDoor.tree
set_option maxHeartbeats 1000000 in
theorem patterns_fn (m : Mem) (cs : List Value) (s : Sp) (hs : spV m cs s) (h40 : s.rules.length ≤ 40) : Fn0 Tryz.prog 41 [.agg (toArr cs)] m fun m' u => ∃ A n c, u = .slice A n c ∧ Sl m' 9 (RepRe m') u (s.rules.map fun x => x.re) := by
  obtain ⟨A, n, c, A', n', c', rfl, h1, h2⟩ := hs
  obtain ⟨hn', hc', hm'⟩ := h2.lens
  have hmx : maxLen = 9223372036854775807 := rfl
  refine Fn.enter (N := 20) hX Tryz.func41 rfl rfl (by show _ ≤ _; simp) (fun w0 hL => ?_)
  conv => whnf
  refine NewReq.mk hL ?_
  clear hL
  intro b1 w hL
  conv => whnf
  refine go ?_; try (clear hL; intro w hL)
  replace hL := hL.drop
  replace hL : Ev.Loc m [] w0 m [] w := hL
  refine LoopReq.inv hX (fun s : Nat × Option Addr × Nat × Nat => [(3, .slice s.2.1 s.2.2.1 s.2.2.2), (9, .int .i64 s.1)]) [7, 8]
    (fun q w => q.1 ≤ n' ∧ ∃ rows Lo, (OwnS 52 9 (.slice q.2.1 q.2.2.1 q.2.2.2) rows.flatten Lo ∧ (∀ r ∈ rows, r.length = 9) ∧ rows.length = q.1 ∧ ∀ (i : Nat) (x : Rl), (s.rules.take q.1)[i]? = some x → ∃ cs, rows[i]? = some cs ∧ RepRe m cs x.re) ∧
      Ev.Loc m [] w0 m (Lo ++ []) w) (fun q => n' - q.1) (0, none, 0, 0)
    ⟨by simp, [], [], ⟨OwnS.nil _ _, by simp, rfl, by simp⟩, hL⟩ ⟨rfl, rfl, trivial⟩ ?_
  clear hL
  rintro ⟨j, A2, n2, c2⟩ w f ⟨hj, rows, Lo, ⟨ho, hr9, hrl, hrep⟩, hL⟩
  dsimp only at hj ho hrl hrep
  refine go ?_; try (clear hL; intro w hL)
  refine BrReq.dec (fun hlt => ?_) (fun hlt => ?_)
  · have hjl : j < s.rules.length := by simp only at hlt; omega
    obtain ⟨a, cs', rfl, hl12, hcells, hru⟩ := h2.elem j _ (List.getElem?_eq_getElem hjl)
    have htk := List.take_succ_eq_append_getElem hjl
    generalize s.rules[j] = x at hru htk
    obtain ⟨A3, n3, c3, k, s0, s1, s2, s3, A4, n4, c4, lo, hi, neg, rfl, -, hre⟩ := hru
    conv => whnf
    repeat ((first | (refine Idx2Req.mk j a rfl (by simp only at hlt ⊢; omega) rfl ?_) | refine LdReq.agg hX rfl rfl hL hl12 hcells ?_ | (refine go1 ?_; try (clear hL; intro w hL))); conv => whnf)
    refine NewReq.mk hL ?_
    clear hL
    intro b5 w hL
    conv => whnf
    refine go ?_; try (clear hL; intro w hL)
    refine NewReq.mk hL ?_
    clear hL
    intro b6 w hL
    conv => whnf
    replace hL : Ev.Loc m [] w0 m ((b6, .cells (toArr (reC k s0 s1 s2 s3 (.slice A4 n4 c4) lo hi neg)) 52 (0, 0)) :: (Lo ++ [])) w := hL.sublist (.cons_cons _ (.cons _ (List.Sublist.refl _)))
    have hfl := flat_len rows hr9
    refine RunReq.push hX 42 52 rfl rfl rfl rfl rfl ho (L2 := []) hL rfl rfl (by rw [hfl]; show _ + 9 ≤ _; omega) rfl ?_
    clear hL
    intro A5 n5 c5 Lo5 w hn5 ho5 hL
    rw [show rows.flatten ++ reC k s0 s1 s2 s3 (.slice A4 n4 c4) lo hi neg = (rows ++ [reC k s0 s1 s2 s3 (.slice A4 n4 c4) lo hi neg]).flatten by simp] at ho5
    have hr95 : ∀ r ∈ rows ++ [reC k s0 s1 s2 s3 (.slice A4 n4 c4) lo hi neg], r.length = 9 := all_snoc rfl hr9 rfl
    have hrl5 : (rows ++ [reC k s0 s1 s2 s3 (.slice A4 n4 c4) lo hi neg]).length = j + 1 := by rw [List.length_append, hrl]; rfl
    have hrep5 : ∀ (i : Nat) (y : Rl), (s.rules.take (j + 1))[i]? = some y → ∃ cs, (rows ++ [reC k s0 s1 s2 s3 (.slice A4 n4 c4) lo hi neg])[i]? = some cs ∧ RepRe m cs y.re := fun i y hy => by
      rw [htk] at hy
      by_cases hi : i < (s.rules.take j).length
      · rw [List.getElem?_append_left hi] at hy
        obtain ⟨cs, e1, e2⟩ := hrep i y hy
        exact ⟨cs, by rw [List.getElem?_append_left (by rw [List.length_take] at hi; omega)]; exact e1, e2⟩
      · have hil := (List.getElem?_eq_some_iff.1 hy).1
        rw [List.length_append, List.length_take] at hil
        rw [List.length_take] at hi
        simp only [List.length_cons, List.length_nil] at hil
        have e : i = j := by omega
        subst e
        rw [List.getElem?_append_right (by rw [List.length_take]; omega), List.length_take, show i - min i s.rules.length = 0 by omega] at hy
        cases hy
        exact ⟨_, by rw [List.getElem?_append_right (by omega), show i - rows.length = 0 by omega]; rfl, hre⟩
    generalize rows ++ [reC k s0 s1 s2 s3 (.slice A4 n4 c4) lo hi neg] = rows5 at ho5 hr95 hrl5 hrep5
    refine go ?_; try (clear hL; intro w hL)
    refine ⟨(j + 1, A5, n5, c5), ⟨by simp only at hlt ⊢; omega, rows5, Lo5, ⟨ho5, hr95, hrl5, hrep5⟩, hL⟩, by first | omega | (simp only; omega) | (simp only [List.length_cons, List.length_append]; omega), ?_, ?_⟩
    · repeat (first | exact trivial | (refine And.intro (by (conv => lhs; whnf) <;> (conv => rhs; whnf) <;> (first | rfl)) ?_))
    · repeat (first | exact trivial | (refine And.intro (by (conv => lhs; whnf) <;> (conv => rhs; whnf) <;> (first | rfl)) ?_))
  · have hjn : j = s.rules.length := by simp only at hlt; omega
    rw [hjn, List.take_length] at hrep
    have hmr : ∀ (i : Nat) (y : Re), (s.rules.map fun x => x.re)[i]? = some y → ∃ cs, rows[i]? = some cs ∧ RepRe m cs y := fun i y hy => by
      rw [List.getElem?_map] at hy
      cases hx : s.rules[i]? with
      | none => rw [hx] at hy; cases hy
      | some x => rw [hx] at hy; cases hy; exact hrep i x hx
    obtain ⟨m2, A5, c5, e5, hL, hm2, hsl, -⟩ := OwnS.freezeRows (R := RepRe m) (L2 := []) (by omega) ho hL hr9 (by rw [List.length_map]; omega) hmr
    cases e5
    refine go ?_; try (clear hL; intro w hL)
    exact RetReq.mk hL ⟨rfl, _, _, _, rfl, hsl.le (Mem.Le.refl m2) fun cs x _ hx => hx.le hm2⟩
end Go.Proofs.YtaooenndoopgdaaGreatDoor.lz
namespace Go.Proofs.YtaooenndoopgdaaGreatDoor.ar
open Go Go.Ev Go.Proofs
theorem erase_len {l : List Int} {z : Int} : l.length ≤ (l.erase z).length + 1 := by
  rw [List.length_erase]; split <;> omega
theorem nodup_le : ∀ (N : Nat) (l : List Int), l.Nodup → (∀ z ∈ l, 0 ≤ z ∧ z < N) → l.length ≤ N
  | 0, l, _, h => by
    cases l with
    | nil => simp
    | cons a l => have := h a (by simp); omega
  | N + 1, l, hn, h => by
    have := nodup_le N (l.erase N) (hn.erase _) fun z hz => by
      have h1 := h z (List.mem_of_mem_erase hz)
      have h2 : z ≠ N := fun e => by
        rw [e] at hz
        exact (hn.mem_erase_iff.1 hz).1 rfl
      omega
    have := erase_len (l := l) (z := N)
    omega
theorem memF_some {ns : List Nd} (hO : OkA ns) {kd : Int} (hkd : kd = 4 ∨ kd = 5) : ∀ (k : Nat) (st out seen : List Int), (∀ z ∈ st, okId ns z) → (∀ z ∈ seen, okId ns z) → seen.Nodup → st.length + 2 * (ns.length - seen.length) < k → ∃ res, memF ns kd k st out seen = some res := by
  intro k
  induction k with
  | zero => intro st out seen _ _ _ h; omega
  | succ k ih =>
    intro st out seen hst hseen hnd hlt
    cases st with
    | nil => exact ⟨out, rfl⟩
    | cons id st =>
      have hid := hst id (by simp)
      have hst' : ∀ z ∈ st, okId ns z := fun z hz => hst z (by simp [hz])
      rw [memF]
      simp only [List.length_cons] at hlt
      split
      · exact ih _ _ _ hst' hseen hnd (by omega)
      · rename_i hns
        have hs2 : ∀ z ∈ seen ++ [id], okId ns z := fun z hz => (List.mem_append.1 hz).elim (hseen z) fun h => (List.mem_singleton.1 h) ▸ hid
        have hnd2 : (seen ++ [id]).Nodup := by
          rw [List.nodup_append]
          exact ⟨hnd, by simp, fun a ha b hb e => hns (by rw [List.mem_singleton.1 hb] at e; exact e ▸ ha)⟩
        have hle := nodup_le ns.length _ hnd2 (fun z hz => hs2 z hz)
        rw [List.length_append] at hle
        simp only [List.length_singleton] at hle
        split
        · rename_i hk
          have hpt := okId_parts hO hid (by omega)
          refine ih _ _ _ (fun z hz => (List.mem_cons.1 hz).elim (fun h => h ▸ hpt.2) fun h => (List.mem_cons.1 h).elim (fun h => h ▸ hpt.1) fun h => hst' z h) hs2 hnd2 ?_
          simp only [List.length_cons, List.length_append, List.length_nil]; omega
        · exact ih _ _ _ hst' hs2 hnd2 (by simp only [List.length_append, List.length_singleton]; omega)
def memN (ns : List Nd) (kd : Int) (l : List Int) : List Int := (memF ns kd (l.length + 2 * ns.length + 1) l.reverse [] []).getD []
theorem memN_eq {ns : List Nd} (hO : OkA ns) {kd : Int} (hkd : kd = 4 ∨ kd = 5) {l : List Int} (hl : ∀ z ∈ l, okId ns z) : memF ns kd (l.length + 2 * ns.length + 1) l.reverse [] [] = some (memN ns kd l) := by
  obtain ⟨res, h⟩ := memF_some hO hkd (l.length + 2 * ns.length + 1) l.reverse [] [] (by simpa using hl) (by simp) (by simp) (by simp only [List.length_reverse, List.length_nil]; omega)
  unfold memN
  rw [h]; rfl
theorem memF_ok {ns : List Nd} (hO : OkA ns) {kd : Int} (hkd : kd = 4 ∨ kd = 5) : ∀ (k : Nat) (st out seen res : List Int), (∀ z ∈ st, okId ns z) → (∀ z ∈ out, okId ns z) → memF ns kd k st out seen = some res → ∀ z ∈ res, okId ns z := by
  intro k
  induction k with
  | zero => intro st out seen res _ _ h; cases h
  | succ k ih =>
    intro st out seen res hst hout h
    cases st with
    | nil => rw [memF] at h; cases h; exact hout
    | cons id st =>
      have hid := hst id (by simp)
      have hst' : ∀ z ∈ st, okId ns z := fun z hz => hst z (by simp [hz])
      rw [memF] at h
      split at h
      · exact ih _ _ _ _ hst' hout h
      split at h
      · have hpt := okId_parts hO hid (by omega)
        exact ih _ _ _ _ (fun z hz => (List.mem_cons.1 hz).elim (fun h => h ▸ hpt.2) fun h => (List.mem_cons.1 h).elim (fun h => h ▸ hpt.1) fun h => hst' z h) hout h
      · exact ih _ _ _ _ hst' (fun z hz => (List.mem_append.1 hz).elim (hout z) fun h => (List.mem_singleton.1 h) ▸ hid) h
theorem memN_ok {ns : List Nd} (hO : OkA ns) {kd : Int} (hkd : kd = 4 ∨ kd = 5) {l : List Int} (hl : ∀ z ∈ l, okId ns z) : ∀ z ∈ memN ns kd l, okId ns z :=
  memF_ok hO hkd _ _ _ _ _ (by simpa using hl) (by simp) (memN_eq hO hkd hl)
theorem memF_len {ns : List Nd} {kd : Int} : ∀ (k : Nat) (st out seen res : List Int), memF ns kd k st out seen = some res → res.length ≤ out.length + k := by
  intro k
  induction k with
  | zero => intro st out seen res h; cases h
  | succ k ih =>
    intro st out seen res h
    cases st with
    | nil => rw [memF] at h; cases h; omega
    | cons id st =>
      rw [memF] at h
      split at h
      · have := ih _ _ _ _ h; omega
      split at h
      · have := ih _ _ _ _ h; omega
      · have := ih _ _ _ _ h; simp only [List.length_append, List.length_singleton] at this; omega
theorem memN_len {ns : List Nd} (hO : OkA ns) {kd : Int} (hkd : kd = 4 ∨ kd = 5) {l : List Int} (hl : ∀ z ∈ l, okId ns z) : (memN ns kd l).length ≤ l.length + 2 * ns.length + 1 := by
  have := memF_len _ _ _ _ _ (memN_eq hO hkd hl)
  simpa using this
def ndP (kd a b : Int) : Nd := ⟨kd, 0, 0, 0, 0, a, b, false⟩
def kdG : Bool → Int | true => 5 | false => 4
def nothingN : Bool → List Nd → List Nd × Int | true => allN | false => noneN
def winsN : Bool → List Nd → List Nd × Int | true => noneN | false => allN
def chainN (kd : Int) : List Nd → List Int → Int → List Nd × Int
  | ns, [], out => (ns, out)
  | ns, z :: rest, out => chainN kd (pN ns (ndP kd z out)).1 rest (pN ns (ndP kd z out)).2
def chainR (kd : Int) (ns : List Nd) (no : Int) : List Int → List Nd × Int
  | [] => (ns, no)
  | z :: rest => chainN kd ns rest z
def restN (g : Bool) (ns : List Nd) (l : List Int) (no wi : Int) : List Nd × Int :=
  if wi ∈ l then (ns, wi) else chainR (kdG g) ns no (Lib.compact (sortI (dropI no l))).reverse
def thereN (ns : List Nd) (l : List Int) : Bool := l.all fun id => decide (0 ≤ id ∧ id < ns.length)
def gputN (g : Bool) (ns : List Nd) (l : List Int) : List Nd × Int :=
  if thereN ns l = false then (ns, -1) else
  restN g (gbytesN g (winsN g (nothingN g ns).1).1 (memN (winsN g (nothingN g ns).1).1 (kdG g) l)).1 (gbytesN g (winsN g (nothingN g ns).1).1 (memN (winsN g (nothingN g ns).1).1 (kdG g) l)).2 (nothingN g ns).2 (winsN g (nothingN g ns).1).2
theorem kdG_or (g : Bool) : kdG g = 4 ∨ kdG g = 5 := by cases g; exact .inl rfl; exact .inr rfl
theorem okA_nothing {ns : List Nd} (h : OkA ns) (g : Bool) : OkA (nothingN g ns).1 := by cases g; exact okA_none h; exact okA_all h
theorem okA_wins {ns : List Nd} (h : OkA ns) (g : Bool) : OkA (winsN g ns).1 := by cases g; exact okA_all h; exact okA_none h
theorem inN_P {kd a b : Int} (h : 0 ≤ kd ∧ kd ≤ 8) (ha : i64 a) (hb : i64 b) : InN (ndP kd a b) := ⟨by unfold i64 ndP; simp only; omega, by simp [u64, ndP], by simp [u64, ndP], by simp [u64, ndP], by simp [u64, ndP], ha, hb⟩
theorem pN_i64 {ns : List Nd} (h : OkA ns) (x : Nd) : i64 (pN ns x).2 := putI_i64 ns x h.len
theorem bytesN_i64 {ns : List Nd} (h : OkA ns) (s : S4) : i64 (bytesN ns s).2 := by unfold bytesN; split; exact pN_i64 h _; exact pN_i64 h _
theorem nothing_i64 {ns : List Nd} (h : OkA ns) (g : Bool) : i64 (nothingN g ns).2 := by cases g; exact pN_i64 h _; exact pN_i64 (okA_none h) _
theorem wins_i64 {ns : List Nd} (h : OkA ns) (g : Bool) : i64 (winsN g ns).2 := by cases g; exact pN_i64 (okA_none h) _; exact pN_i64 h _
theorem putN_pre (ns : List Nd) (x : Nd) : ns <+: (putN ns x).1 := by
  unfold putN
  split
  · exact List.prefix_refl _
  split
  · exact List.prefix_refl _
  split
  · exact List.prefix_refl _
  · exact List.prefix_append _ _
theorem pN_pre (ns : List Nd) (x : Nd) : ns <+: (pN ns x).1 := putN_pre ns x
theorem none_pre (ns : List Nd) : ns <+: (noneN ns).1 := pN_pre _ _
theorem all_pre (ns : List Nd) : ns <+: (allN ns).1 := (pN_pre _ _).trans (pN_pre _ _)
theorem nothing_pre (g : Bool) (ns : List Nd) : ns <+: (nothingN g ns).1 := by cases g; exact none_pre ns; exact all_pre ns
theorem wins_pre (g : Bool) (ns : List Nd) : ns <+: (winsN g ns).1 := by cases g; exact all_pre ns; exact none_pre ns
theorem bytesN_pre (ns : List Nd) (s : S4) : ns <+: (bytesN ns s).1 := by unfold bytesN; split; exact pN_pre _ _; exact pN_pre _ _
theorem okId_pre {ns ns' : List Nd} (h : ns <+: ns') {z : Int} (hz : okId ns z) : okId ns' z := by
  have := h.length_le
  unfold okId at *; omega
theorem split_mem (g : Bool) (ns : List Nd) (l : List Int) : ∀ z ∈ (splitN g ns l).1, z ∈ l := by
  unfold splitN
  suffices h : ∀ (p : List Int × Option S4), ∀ z ∈ (l.foldl (stepS g ns) p).1, z ∈ p.1 ∨ z ∈ l by
    intro z hz
    exact (h ([], none) z hz).elim (fun h => absurd h (by simp)) id
  induction l with
  | nil => intro p z h; exact .inl h
  | cons a l ih =>
    intro p z hz
    have h := ih (stepS g ns p a) z hz
    rcases h with h | h
    · unfold stepS at h
      split at h
      · rcases List.mem_append.1 h with h | h
        · exact .inl h
        · exact .inr (by rw [List.mem_singleton.1 h]; simp)
      · split at h <;> exact .inl h
    · exact .inr (by simp [h])
theorem gbytes_i64 {ns : List Nd} (hO : OkA ns) (g : Bool) {l : List Int} (hl : ∀ z ∈ l, okId ns z) : ∀ z ∈ (gbytesN g ns l).2, i64 z := by
  unfold gbytesN
  have hs := split_mem g ns l
  split
  · intro z hz; exact okId_i64 hO.len (hl z (hs z hz))
  · intro z hz
    rcases List.mem_append.1 hz with h | h
    · exact okId_i64 hO.len (hl z (hs z h))
    · rw [List.mem_singleton.1 h]; exact bytesN_i64 hO _
theorem gbytes_len (g : Bool) (ns : List Nd) (l : List Int) : (gbytesN g ns l).2.length ≤ l.length + 1 := by
  have := splitN_len g ns l l.length
  rw [List.take_length] at this
  unfold gbytesN
  split
  · simp only; omega
  · simp only [List.length_append, List.length_singleton]; omega
theorem compact_mem {l : List Int} {z : Int} (h : z ∈ Lib.compact l) : z ∈ l := by
  unfold Lib.compact Lib.compactUpTo at h
  obtain ⟨j, hj, rfl⟩ := List.mem_map.1 h
  have hj := List.mem_range.1 (List.mem_filter.1 hj).1
  simp [getElem!_pos, hj]
theorem compact_len (l : List Int) : (Lib.compact l).length ≤ l.length := by
  unfold Lib.compact Lib.compactUpTo
  rw [List.length_map]
  have := List.length_filter_le (Lib.keeps l.toArray) (List.range l.length)
  rwa [List.length_range] at this
theorem csd_mem {no : Int} {l : List Int} {z : Int} (h : z ∈ Lib.compact (sortI (dropI no l))) : z ∈ l := by
  have h := compact_mem h
  unfold sortI at h
  rw [List.mem_mergeSort] at h
  exact (List.mem_filter.1 h).1
theorem csd_len (no : Int) (l : List Int) : (Lib.compact (sortI (dropI no l))).length ≤ l.length := by
  have h1 := compact_len (sortI (dropI no l))
  have h2 : (sortI (dropI no l)).length = (dropI no l).length := by unfold sortI; rw [List.length_mergeSort]
  have := dropI_len no l
  omega
theorem okA_chain {kd : Int} (h : 0 ≤ kd ∧ kd ≤ 8) : ∀ (l : List Int) (ns : List Nd) (out : Int), OkA ns → (∀ z ∈ l, i64 z) → i64 out → OkA (chainN kd ns l out).1
  | [], _, _, h, _, _ => h
  | z :: l, ns, out, hO, hl, ho => okA_chain h l _ _ (okA_p hO (inN_P h (hl z (by simp)) ho)) (fun y hy => hl y (by simp [hy])) (pN_i64 hO _)
theorem okA_chainR {kd : Int} (h : 0 ≤ kd ∧ kd ≤ 8) {ns : List Nd} (hO : OkA ns) (no : Int) (l : List Int) (hl : ∀ z ∈ l, i64 z) : OkA (chainR kd ns no l).1 := by
  cases l with
  | nil => exact hO
  | cons z l => exact okA_chain h l ns z hO (fun y hy => hl y (by simp [hy])) (hl z (by simp))
theorem there_ok {ns : List Nd} {l : List Int} (h : ¬ thereN ns l = false) : ∀ z ∈ l, okId ns z := by
  have h : thereN ns l = true := by cases hh : thereN ns l; exact absurd hh h; rfl
  unfold thereN at h
  rw [List.all_eq_true] at h
  exact fun z hz => of_decide_eq_true (p := 0 ≤ z ∧ z < ns.length) (h z hz)
theorem kdG_le (g : Bool) : 0 ≤ kdG g ∧ kdG g ≤ 8 := by cases g <;> decide
theorem okA_gput {ns : List Nd} (hO : OkA ns) (g : Bool) (l : List Int) : OkA (gputN g ns l).1 := by
  unfold gputN
  split
  · exact hO
  · rename_i ht
    have ht := there_ok ht
    have h2 := okA_wins (okA_nothing hO g) g
    have hpre := (nothing_pre g ns).trans (wins_pre g (nothingN g ns).1)
    generalize (winsN g (nothingN g ns).1).1 = ns2 at h2 hpre
    have hm := memN_ok h2 (kdG_or g) fun z hz => okId_pre hpre (ht z hz)
    have h3 := okA_gbytes h2 g (memN ns2 (kdG g) l)
    have hi := gbytes_i64 h2 g hm
    unfold restN
    split
    · exact h3
    · exact okA_chainR (kdG_le g) h3 _ _ fun z hz => hi z (csd_mem (List.mem_reverse.1 hz))
set_option maxHeartbeats 4000000 in
theorem gputO_fn (m : Mem) (ab : Nat) (ns : List Nd) (L : Own) (hA : Ar ab ns L) (hO : OkA ns) (v : Value) (l : List Int) (hv : SlI m .i64 v l) (hlb : l.length ≤ 20000) :
    Ev.Fn Tryz.prog 178 [.agg (toArr grO), .pointer (some ⟨ab, 0, none⟩), v] m L fun _ L' u => u = .int .i64 (gputN false ns l).2 ∧ Ar ab (gputN false ns l).1 L' := by
  obtain ⟨A, n, c, rfl, -⟩ := id hv
  have hmx : maxLen = 9223372036854775807 := rfl
  refine Fn.enter (N := 70) hX Tryz.func178 rfl rfl (by show _ ≤ _; simp) (fun w0 hL => ?_)
  conv => whnf
  generalize keys L = S0 at hL ⊢
  refine NewReq.mk hL ?_
  clear hL
  intro b3 w hL
  conv => whnf
  replace hL : Ev.Loc m S0 w0 m ((b3, .cells (toArr grO) 248 (0, 0)) :: L) w := hL
  refine go ?_; try (clear hL; intro w hL)
  refine CallReq.li (L1 := L) (there2_fn m ab ns L hA _ l hv) (hL.back (L1 := [_])) ?_
  clear hL
  intro w hL
  have hL := hL.back (L2 := [_])
  unfold gputN
  have eth : (l.all fun id => decide (0 ≤ id ∧ id < ns.length)) = thereN ns l := rfl
  rw [eth]
  cases hth : thereN ns l with
  | false =>
    rw [if_pos rfl]
    refine go ?_; try (clear hL; intro w hL)
    exact RetReq.mk hL.drop ⟨rfl, hA⟩
  | true =>
  rw [if_neg (by decide)]
  refine go ?_; try (clear hL; intro w hL)
  have hid1 := there_ok (show ¬ thereN ns l = false by rw [hth]; decide)
  have hpre := (nothing_pre false ns).trans (wins_pre false (nothingN false ns).1)
  have hO1 := okA_nothing hO false
  have hO2 := okA_wins hO1 false
  have hno : ∀ L, Ar ab ns L → Ev.Fn Tryz.prog 141 [.pointer (some ⟨ab, 0, none⟩)] m L (PutQ ab (nothingN false ns).1 (nothingN false ns).2 m) := fun L hA => None_fn m ab ns L hA hO
  have hwi : ∀ L, Ar ab (nothingN false ns).1 L → Ev.Fn Tryz.prog 177 [.pointer (some ⟨ab, 0, none⟩)] m L (PutQ ab (winsN false (nothingN false ns).1).1 (winsN false (nothingN false ns).1).2 m) := fun L hA => All_fn m ab _ L hA hO1
  have hnoi := nothing_i64 hO false
  have hwii := wins_i64 hO1 false
  generalize hn1 : (nothingN false ns).1 = ns1 at hno hwi hO1 hO2 hpre hwii ⊢
  generalize hno2 : (nothingN false ns).2 = no at hno hnoi ⊢
  generalize hns2 : (winsN false ns1).1 = ns2 at hwi hO2 hpre ⊢
  generalize hwi2 : (winsN false ns1).2 = wi at hwi hwii ⊢
  have hid : ∀ z ∈ l, okId ns2 z := fun z hz => okId_pre hpre (hid1 z hz)
  have hlen2 := hO2.len
  have hmem := memN_eq hO2 (kdG_or false) hid
  have hmok := memN_ok hO2 (kdG_or false) hid
  have hmlen := memN_len hO2 (kdG_or false) hid
  have hbi := gbytes_i64 hO2 false hmok
  have hbl := gbytes_len false ns2 (memN ns2 (kdG false) l)
  have hO3 := okA_gbytes hO2 false (memN ns2 (kdG false) l)
  have hgb := fun m1 L4 hA4 v1 hs1 => gbytesO_fn m1 ab ns2 L4 hA4 hO2 v1 (memN ns2 (kdG false) l) hs1 (by omega)
  generalize hres : memN ns2 (kdG false) l = res at hmem hmok hmlen hbi hbl hO3 hgb ⊢
  generalize hns3 : (gbytesN false ns2 res).1 = ns3 at hO3 hgb ⊢
  generalize hl3 : (gbytesN false ns2 res).2 = l3 at hbi hbl hgb ⊢
  refine DrawReq.cut (fun b7 : Nat => [(7, .pointer (some ⟨b7, 0, none⟩)), (8, .int .i64 wi)]) [1, 2, 3] (fun b7 w => ∃ L4, Ar ab ns2 L4 ∧ Ev.Loc m S0 w0 m ((b7, .cells (toArr [.int .i64 no]) 3 (0, 0)) :: (b3, .cells (toArr grO) 248 (0, 0)) :: L4) w) ?_ ?_
  rotate_left
  · clear hL
    rintro b7 w f ⟨L4, hA3, hL⟩
    conv => whnf
    refine DrawReq.plan hX (.fst 0 (.fst 1 (.fst 2 (.fst 3 (.fst 4 (.fst 5 (.alt 6 (.alt 7 (.fst 8 (.done)) (.stop)) (.stop)))))))) [(b3, .cells (toArr grO) 248 (0, 0))] (by kernel_rfl) (by kernel_rfl) hL (fun h => h.one 1 rfl) ?_
    clear hL
    intro w hL
    refine goq ?_; try (clear hL; intro w hL)
    refine CallReq.mk (L1 := L4) (L2 := [_, _]) (membersG_fn m ab ns2 L4 hA3 hO2 (kdG false) (kdG_or false) _ l hv hid hlb _ (by omega) res hmem) (Loc.back (L1 := [_, _]) hL) ?_
    clear hL
    rintro u mx Lx w hL - ⟨hmx, Lo, rfl, ho⟩
    rw [hmx] at hL
    clear hmx mx
    have hL := Loc.back (L1 := Lo ++ L4) (L2 := [_, _]) hL
    have hS := hL.one 1 rfl
    have hL := Loc.back (L1 := [_, _]) hL
    rw [List.append_assoc] at hL
    obtain ⟨A1, n1, c1, rfl, hn1⟩ := ho.slice
    obtain ⟨m1, hL1, hm1, hs1⟩ := OwnS.freeze ho hL
    clear hL ho
    have hL := Loc.back (L1 := L4) (L2 := [_, _]) hL1
    clear hL1
    refine SReq.mk hS ?_
    refine goq ?_; try (clear hL; intro w hL)
    refine CallReq.mk (L1 := L4) (L2 := [_, _]) (hgb m1 L4 hA3 _ hs1) (Loc.back (L1 := [_, _]) hL) ?_
    clear hL
    rintro u mx Lx w hL - ⟨hmx, La, Lo2, rfl, hA4, ho2⟩
    rw [hmx] at hL
    clear hmx mx
    have hL := Loc.back (L1 := Lo2 ++ La) (L2 := [_, _]) hL
    have hS := (hL.one 1 rfl).weaken hm1 (Mem.Le.refl _)
    have hL := Loc.back (L1 := [_, _]) hL
    rw [List.append_assoc] at hL
    obtain ⟨A2, n2, c2, rfl, -⟩ := ho2.slice
    refine SReq.mk hS ?_
    refine goq ?_; try (clear hL; intro w hL)
    refine CallReq.li (L1 := Lo2) (containsO_fn m1 A2 n2 c2 l3 Lo2 ho2 wi) hL ?_
    clear hL
    intro w hL
    have hL := Loc.back (L1 := Lo2) hL
    rw [List.append_assoc] at hL
    have hL := Loc.back (L1 := La) hL
    replace hL : Ev.Loc m S0 w0 m1 ((b7, .cells (toArr [.int .i64 no]) 3 (0, 0)) :: (b3, .cells (toArr grO) 248 (0, 0)) :: (Lo2 ++ La)) w := hL
    unfold restN
    by_cases hc : wi ∈ l3
    · rw [decide_eq_true hc, if_pos hc]
      refine go ?_; try (clear hL; intro w hL)
      exact RetReq.mk (hL.drop.drop.sublist (List.sublist_append_right _ _)) ⟨rfl, hA4⟩
    rw [decide_eq_false hc, if_neg hc]
    refine go ?_; try (clear hL; intro w hL)
    refine CallReq.mk (L1 := (b7, .cells (toArr [.int .i64 no]) 3 (0, 0)) :: Lo2) (L2 := La ++ [_]) (deleteG_fn m1 b7 no A2 n2 c2 l3 Lo2 ho2) (by
      have h := hL.perm (List.Perm.cons _ (List.perm_append_comm (l₁ := [_]) (l₂ := Lo2 ++ La)))
      rw [List.append_assoc] at h; exact h) ?_
    clear hL
    rintro u mx Lx w hL - ⟨hmx, Lo3, rfl, ho3⟩
    rw [hmx] at hL
    clear hmx mx
    obtain ⟨A3, n3, c3, rfl, -⟩ := ho3.slice
    have hdl := dropI_len no l3
    refine go ?_; try (clear hL; intro w hL)
    refine CallReq.mk (L1 := Lo3) (L2 := La ++ [_, _]) (sortG_fn m1 A3 n3 c3 _ Lo3 ho3 (by omega)) (by
      have h : Ev.Loc m S0 w0 m1 ([(b7, .cells (toArr [.int .i64 no]) 3 (0, 0))] ++ (Lo3 ++ (La ++ [(b3, .cells (toArr grO) 248 (0, 0))]))) w := hL
      have h := Loc.back h
      rw [List.append_assoc, List.append_assoc] at h; exact h) ?_
    clear hL
    rintro u mx Lo4 w hL - ⟨hmx, rfl, ho4⟩
    rw [hmx] at hL
    clear hmx mx
    refine go ?_; try (clear hL; intro w hL)
    refine CallReq.mk (L1 := Lo4) (L2 := La ++ [_, _]) (compactG_fn m1 A3 n3 c3 _ Lo4 ho4 (by unfold sortI; rw [List.length_mergeSort]; omega)) hL ?_
    clear hL
    rintro u mx Lo5 w hL - ⟨hmx, ho5⟩
    rw [hmx] at hL
    clear hmx mx
    obtain ⟨A5, n5, c5, rfl, -⟩ := ho5.slice
    have hxi : ∀ z ∈ Lib.compact (sortI (dropI no l3)), i64 z := fun z hz => hbi z (csd_mem hz)
    have hxl := csd_len no l3
    generalize Lib.compact (sortI (dropI no l3)) = xs at ho5 hxi hxl ⊢
    obtain ⟨hn5, hnc5, hm5, hget⟩ := owns_get ho5
    have hL := Loc.back (L1 := Lo5) hL
    rw [List.append_assoc] at hL
    have hL := Loc.back (L1 := La) hL
    replace hL : Ev.Loc m S0 w0 m1 ((b3, .cells (toArr grO) 248 (0, 0)) :: (b7, .cells (toArr [.int .i64 no]) 3 (0, 0)) :: (Lo5 ++ La)) w := hL
    by_cases hx0 : xs = []
    · subst hx0
      obtain rfl : n5 = 0 := hn5
      refine go ?_; try (clear hL; intro w hL)
      exact RetReq.mk (hL.drop.drop.sublist (List.sublist_append_right _ _)) ⟨rfl, hA4⟩
    obtain ⟨g5, cur, rfl, rfl, hcl, hct, hcg⟩ := hget hx0
    have hx1 : 0 < xs.length := by cases xs; exact absurd rfl hx0; simp
    have hlast := List.getElem?_eq_getElem (l := xs) (i := xs.length - 1) (by omega)
    have hcx := hcg _ _ hlast
    have hrev : xs.reverse = xs[xs.length - 1] :: (xs.take (xs.length - 1)).reverse := by
      conv => lhs; rw [← List.take_length (l := xs), show xs.length = xs.length - 1 + 1 by omega, List.take_succ_eq_append_getElem (by omega), List.reverse_append]
      rfl
    rw [hrev]
    have hxo := hxi _ (List.getElem_mem (l := xs) (n := xs.length - 1) (by omega))
    generalize xs[xs.length - 1] = x0 at hlast hcx hrev hxo ⊢
    have hc0 : ¬ c5 = 0 := by omega
    replace hL : Ev.Loc m S0 w0 m1 ((b3, .cells (toArr grO) 248 (0, 0)) :: (b7, .cells (toArr [.int .i64 no]) 3 (0, 0)) :: (g5, .cells (toArr cur) 3 (0, 0)) :: La) w := hL
    conv => whnf
    repeat ((first | refine BrReq.no (by omega) ?_ | refine Idx2Req.mk (xs.length - 1) _ (by omega) (by omega) rfl ?_ | (refine LdReq.ownC hX rfl rfl hL (.t (.t .h)) (by rw [scale_eq, Nat.zero_add, Nat.mul_one]; exact hcx) ?_) | (refine go1 ?_; try (clear hL; intro w hL))); conv => whnf)
    have hL := (hL.sublist (.cons_cons _ (.cons _ (List.Sublist.refl _))))
    generalize hR : chainR (kdG false) ns3 no (x0 :: (xs.take (xs.length - 1)).reverse) = R
    replace hR : chainN (kdG false) ns3 (xs.take (xs.length - 1)).reverse x0 = R := hR
    refine LoopReq.inv hX (fun s : Nat × Int × Int => [(9, .int .i64 s.2.1), (10, .int .i64 s.2.2)]) [1, 2, 3]
      (fun s w => (s.1 ≤ xs.length - 1 ∧ i64 s.2.1 ∧ s.2.2 = (s.1 : Int) - 1) ∧ ∃ ns' La, (Ar ab ns' La ∧ OkA ns' ∧ chainN (kdG false) ns' (xs.take s.1).reverse s.2.1 = R) ∧ Ev.Loc m S0 w0 m1 ((b3, .cells (toArr grO) 248 (0, 0)) :: (g5, .cells (toArr cur) 3 (0, 0)) :: La) w) (fun s => s.1) (xs.length - 1, x0, (n5 : Int) - 2)
      ⟨⟨Nat.le_refl _, hxo, by simp only; omega⟩, ns3, La, ⟨hA4, hO3, hR⟩, hL⟩ ⟨rfl, rfl, trivial⟩ ?_
    clear hL hR hA4 hO3 hlast hcx hrev hxo hn1 hno2 hns2 hwi2 hns3
    rintro ⟨k, out, i⟩ w f ⟨⟨hk, hoi, hi⟩, ns', La, ⟨hA4, hO3, hR⟩, hL⟩
    simp only at hk hoi hR hi
    refine go ?_; try (clear hL; intro w hL)
    cases k with
    | zero =>
      refine BrReq.no (by simp only; omega) ?_
      refine go ?_; try (clear hL; intro w hL)
      have hR : (ns', out) = R := hR
      subst hR
      exact RetReq.mk hL.drop.drop ⟨rfl, hA4⟩
    | succ k =>
      have hkl : k < xs.length := by omega
      have hkx := List.getElem?_eq_getElem hkl
      have hck := hcg _ _ hkx
      have hxk := hxi _ (List.getElem_mem hkl)
      rw [List.take_succ_eq_append_getElem hkl, List.reverse_append] at hR
      generalize xs[k] = x at hkx hck hxk hR
      replace hR : chainN (kdG false) (pN ns' (ndP (kdG false) x out)).1 (xs.take k).reverse (pN ns' (ndP (kdG false) x out)).2 = R := hR
      refine BrReq.yes (by simp only; omega) ?_
      refine go ?_; try (clear hL; intro w hL)
      refine DrawReq.plan hX (.fst 0 (.fst 1 (.fst 2 (.fst 3 (.fst 4 (.fst 5 (.fst 6 (.fst 7 (.fst 8 (.alt 9 (.fst 10 (.done)) (.stop))))))))))) [(b3, .cells (toArr grO) 248 (0, 0)), (g5, .cells (toArr cur) 3 (0, 0))] (by kernel_rfl) (by kernel_rfl) hL (fun h => h.sublist (.cons_cons _ (.cons_cons _ (List.nil_sublist _)))) ?_
      clear hL
      intro w hL
      conv => whnf
      repeat ((first | (refine Idx2Req.mk k _ (by simp only; omega) (by omega) rfl ?_) | (refine QLdReq.ownC hX rfl rfl (.t .h) (by rw [scale_eq, Nat.zero_add, Nat.mul_one]; exact hck) ?_) | (refine goq1 ?_; try (clear hL; intro w hL))); conv => whnf)
      refine CallReq.mk (L1 := La) (L2 := [_, _]) (put_fn m1 ab ns' La hA4 hO3 (ndP (kdG false) x out) (inN_P (kdG_le false) hxk hoi)) (Loc.back (L1 := [_, _]) hL) ?_
      clear hL
      rintro u mx Lx w hL - ⟨hmx, rfl, hA5⟩
      rw [hmx] at hL
      clear hmx mx
      have hL := Loc.back (L1 := Lx) (L2 := [_, _]) hL
      refine SReq.mk (hL.sublist (.cons_cons _ (.cons_cons _ (List.nil_sublist _)))) ?_
      conv => whnf
      repeat ((first | (refine ArReq.i64 (by simp only; omega) (by simp only; omega) ?_) | (refine goq1 ?_; try (clear hL; intro w hL))); conv => whnf)
      refine ⟨(k, (pN ns' (ndP (kdG false) x out)).2, i - 1), ⟨⟨by simp only; omega, pN_i64 hO3 _, by simp only; omega⟩, _, Lx, ⟨hA5, okA_p hO3 (inN_P (kdG_le false) hxk hoi), hR⟩, hL⟩, by first | omega | (simp only; omega) | (simp only [List.length_cons, List.length_append]; omega), ?_, ?_⟩
      · repeat (first | exact trivial | (refine And.intro (by (conv => lhs; whnf) <;> (conv => rhs; whnf) <;> (first | rfl)) ?_))
      · repeat (first | exact trivial | (refine And.intro (by (conv => lhs; whnf) <;> (conv => rhs; whnf) <;> (first | rfl)) ?_))
  · refine DrawReq.plan hX (.fst 0 (.fst 1 (.fst 2 (.fst 4 (.fst 5 (.fst 6 (.alt 3 (.alt 7 (.alt 8 (.alt 9 (.fst 10 (.done)) (.stop)) (.stop)) (.alt 8 (.alt 7 (.alt 9 (.fst 10 (.done)) (.stop)) (.stop)) (.stop))) (.alt 8 (.alt 3 (.alt 7 (.alt 9 (.fst 10 (.done)) (.stop)) (.stop)) (.stop)) (.stop))))))))) [(b3, .cells (toArr grO) 248 (0, 0))] (by kernel_rfl) (by kernel_rfl) hL (fun h => h.one 0 rfl) ?_
    clear hL
    intro w hL
    refine goq ?_; try (clear hL; intro w hL)
    refine alt2 ?_ ?_
    · refine goq ?_; try (clear hL; intro w hL)
      refine CallReq.mk (L1 := L) (L2 := [(b3, .cells (toArr grO) 248 (0, 0))]) (hno L hA) (Loc.back (L1 := [(b3, .cells (toArr grO) 248 (0, 0))]) hL) ?_
      clear hL
      rintro u mx L3 w hL - ⟨hmx, rfl, hA2⟩
      rw [hmx] at hL
      clear hmx mx
      have hL := Loc.back (L1 := L3) (L2 := [(b3, .cells (toArr grO) 248 (0, 0))]) hL
      refine SReq.mk (hL.one 0 rfl) ?_
      refine goq ?_; try (clear hL; intro w hL)
      refine alt2 ?_ ?_
      · refine goq ?_; try (clear hL; intro w hL)
        refine CallReq.mk (L1 := L3) (L2 := [(b3, .cells (toArr grO) 248 (0, 0))]) (hwi L3 hA2) (Loc.back (L1 := [(b3, .cells (toArr grO) 248 (0, 0))]) hL) ?_
        clear hL
        rintro u mx L4 w hL - ⟨hmx, rfl, hA3⟩
        rw [hmx] at hL
        clear hmx mx
        have hL := Loc.back (L1 := L4) (L2 := [(b3, .cells (toArr grO) 248 (0, 0))]) hL
        refine SReq.mk (hL.one 0 rfl) ?_
        refine goq ?_; try (clear hL; intro w hL)
        refine NewReq.mk hL ?_
        clear hL
        intro b7 w hL
        conv => whnf
        refine SReq.mk (hL.one 1 rfl) ?_
        refine goq ?_; try (clear hL; intro w hL)
        replace hL : Ev.Loc m S0 w0 m ((b7, .cells (toArr [.int .i64 no]) 3 (0, 0)) :: (b3, .cells (toArr grO) 248 (0, 0)) :: L4) w := hL
        refine SReq.mk (hL.one 1 rfl) ?_
        refine goq ?_; try (clear hL; intro w hL)
        refine ⟨b7, ⟨L4, hA3, hL⟩, ?_, ?_⟩
        · repeat (first | exact trivial | (refine And.intro (by (conv => lhs; whnf) <;> (conv => rhs; whnf) <;> (first | rfl)) ?_))
        · repeat (first | exact trivial | (refine And.intro (by (conv => lhs; whnf) <;> (conv => rhs; whnf) <;> (first | rfl)) ?_))
      · refine goq ?_; try (clear hL; intro w hL)
        refine NewReq.mk hL ?_
        clear hL
        intro b7 w hL
        conv => whnf
        refine SReq.mk (hL.one 1 rfl) ?_
        refine goq ?_; try (clear hL; intro w hL)
        refine CallReq.mk (L1 := L3) (L2 := [(b7, .cells (toArr [.int .i64 0]) 3 (0, 0)), (b3, .cells (toArr grO) 248 (0, 0))]) (hwi L3 hA2) (Loc.back (L1 := [(b7, .cells (toArr [.int .i64 0]) 3 (0, 0)), (b3, .cells (toArr grO) 248 (0, 0))]) hL) ?_
        clear hL
        rintro u mx L4 w hL - ⟨hmx, rfl, hA3⟩
        rw [hmx] at hL
        clear hmx mx
        have hL := Loc.back (L1 := L4) (L2 := [(b7, .cells (toArr [.int .i64 0]) 3 (0, 0)), (b3, .cells (toArr grO) 248 (0, 0))]) hL
        refine SReq.mk (hL.one 1 rfl) ?_
        refine goq ?_; try (clear hL; intro w hL)
        replace hL : Ev.Loc m S0 w0 m ((b7, .cells (toArr [.int .i64 no]) 3 (0, 0)) :: (b3, .cells (toArr grO) 248 (0, 0)) :: L4) w := hL
        refine SReq.mk (hL.one 1 rfl) ?_
        refine goq ?_; try (clear hL; intro w hL)
        refine ⟨b7, ⟨L4, hA3, hL⟩, ?_, ?_⟩
        · repeat (first | exact trivial | (refine And.intro (by (conv => lhs; whnf) <;> (conv => rhs; whnf) <;> (first | rfl)) ?_))
        · repeat (first | exact trivial | (refine And.intro (by (conv => lhs; whnf) <;> (conv => rhs; whnf) <;> (first | rfl)) ?_))
    · refine goq ?_; try (clear hL; intro w hL)
      refine NewReq.mk hL ?_
      clear hL
      intro b7 w hL
      conv => whnf
      refine SReq.mk (hL.one 1 rfl) ?_
      refine goq ?_; try (clear hL; intro w hL)
      refine CallReq.mk (L1 := L) (L2 := [(b7, .cells (toArr [.int .i64 0]) 3 (0, 0)), (b3, .cells (toArr grO) 248 (0, 0))]) (hno L hA) (Loc.back (L1 := [(b7, .cells (toArr [.int .i64 0]) 3 (0, 0)), (b3, .cells (toArr grO) 248 (0, 0))]) hL) ?_
      clear hL
      rintro u mx L3 w hL - ⟨hmx, rfl, hA2⟩
      rw [hmx] at hL
      clear hmx mx
      have hL := Loc.back (L1 := L3) (L2 := [(b7, .cells (toArr [.int .i64 0]) 3 (0, 0)), (b3, .cells (toArr grO) 248 (0, 0))]) hL
      refine SReq.mk (hL.one 1 rfl) ?_
      refine goq ?_; try (clear hL; intro w hL)
      refine CallReq.mk (L1 := L3) (L2 := [(b7, .cells (toArr [.int .i64 0]) 3 (0, 0)), (b3, .cells (toArr grO) 248 (0, 0))]) (hwi L3 hA2) (Loc.back (L1 := [(b7, .cells (toArr [.int .i64 0]) 3 (0, 0)), (b3, .cells (toArr grO) 248 (0, 0))]) hL) ?_
      clear hL
      rintro u mx L4 w hL - ⟨hmx, rfl, hA3⟩
      rw [hmx] at hL
      clear hmx mx
      have hL := Loc.back (L1 := L4) (L2 := [(b7, .cells (toArr [.int .i64 0]) 3 (0, 0)), (b3, .cells (toArr grO) 248 (0, 0))]) hL
      refine SReq.mk (hL.one 1 rfl) ?_
      refine goq ?_; try (clear hL; intro w hL)
      replace hL : Ev.Loc m S0 w0 m ((b7, .cells (toArr [.int .i64 no]) 3 (0, 0)) :: (b3, .cells (toArr grO) 248 (0, 0)) :: L4) w := hL
      refine SReq.mk (hL.one 1 rfl) ?_
      refine goq ?_; try (clear hL; intro w hL)
      refine ⟨b7, ⟨L4, hA3, hL⟩, ?_, ?_⟩
      · repeat (first | exact trivial | (refine And.intro (by (conv => lhs; whnf) <;> (conv => rhs; whnf) <;> (first | rfl)) ?_))
      · repeat (first | exact trivial | (refine And.intro (by (conv => lhs; whnf) <;> (conv => rhs; whnf) <;> (first | rfl)) ?_))
set_option maxHeartbeats 4000000 in
theorem gputA_fn (m : Mem) (ab : Nat) (ns : List Nd) (L : Own) (hA : Ar ab ns L) (hO : OkA ns) (v : Value) (l : List Int) (hv : SlI m .i64 v l) (hlb : l.length ≤ 20000) :
    Ev.Fn Tryz.prog 178 [.agg (toArr grA), .pointer (some ⟨ab, 0, none⟩), v] m L fun _ L' u => u = .int .i64 (gputN true ns l).2 ∧ Ar ab (gputN true ns l).1 L' := by
  obtain ⟨A, n, c, rfl, -⟩ := id hv
  have hmx : maxLen = 9223372036854775807 := rfl
  refine Fn.enter (N := 70) hX Tryz.func178 rfl rfl (by show _ ≤ _; simp) (fun w0 hL => ?_)
  conv => whnf
  generalize keys L = S0 at hL ⊢
  refine NewReq.mk hL ?_
  clear hL
  intro b3 w hL
  conv => whnf
  replace hL : Ev.Loc m S0 w0 m ((b3, .cells (toArr grA) 248 (0, 0)) :: L) w := hL
  refine go ?_; try (clear hL; intro w hL)
  refine CallReq.li (L1 := L) (there2_fn m ab ns L hA _ l hv) (hL.back (L1 := [_])) ?_
  clear hL
  intro w hL
  have hL := hL.back (L2 := [_])
  unfold gputN
  have eth : (l.all fun id => decide (0 ≤ id ∧ id < ns.length)) = thereN ns l := rfl
  rw [eth]
  cases hth : thereN ns l with
  | false =>
    rw [if_pos rfl]
    refine go ?_; try (clear hL; intro w hL)
    exact RetReq.mk hL.drop ⟨rfl, hA⟩
  | true =>
  rw [if_neg (by decide)]
  refine go ?_; try (clear hL; intro w hL)
  have hid1 := there_ok (show ¬ thereN ns l = false by rw [hth]; decide)
  have hpre := (nothing_pre true ns).trans (wins_pre true (nothingN true ns).1)
  have hO1 := okA_nothing hO true
  have hO2 := okA_wins hO1 true
  have hno : ∀ L, Ar ab ns L → Ev.Fn Tryz.prog 177 [.pointer (some ⟨ab, 0, none⟩)] m L (PutQ ab (nothingN true ns).1 (nothingN true ns).2 m) := fun L hA => All_fn m ab ns L hA hO
  have hwi : ∀ L, Ar ab (nothingN true ns).1 L → Ev.Fn Tryz.prog 141 [.pointer (some ⟨ab, 0, none⟩)] m L (PutQ ab (winsN true (nothingN true ns).1).1 (winsN true (nothingN true ns).1).2 m) := fun L hA => None_fn m ab _ L hA hO1
  have hnoi := nothing_i64 hO true
  have hwii := wins_i64 hO1 true
  generalize hn1 : (nothingN true ns).1 = ns1 at hno hwi hO1 hO2 hpre hwii ⊢
  generalize hno2 : (nothingN true ns).2 = no at hno hnoi ⊢
  generalize hns2 : (winsN true ns1).1 = ns2 at hwi hO2 hpre ⊢
  generalize hwi2 : (winsN true ns1).2 = wi at hwi hwii ⊢
  have hid : ∀ z ∈ l, okId ns2 z := fun z hz => okId_pre hpre (hid1 z hz)
  have hlen2 := hO2.len
  have hmem := memN_eq hO2 (kdG_or true) hid
  have hmok := memN_ok hO2 (kdG_or true) hid
  have hmlen := memN_len hO2 (kdG_or true) hid
  have hbi := gbytes_i64 hO2 true hmok
  have hbl := gbytes_len true ns2 (memN ns2 (kdG true) l)
  have hO3 := okA_gbytes hO2 true (memN ns2 (kdG true) l)
  have hgb := fun m1 L4 hA4 v1 hs1 => gbytesA_fn m1 ab ns2 L4 hA4 hO2 v1 (memN ns2 (kdG true) l) hs1 (by omega)
  generalize hres : memN ns2 (kdG true) l = res at hmem hmok hmlen hbi hbl hO3 hgb ⊢
  generalize hns3 : (gbytesN true ns2 res).1 = ns3 at hO3 hgb ⊢
  generalize hl3 : (gbytesN true ns2 res).2 = l3 at hbi hbl hgb ⊢
  refine DrawReq.cut (fun b7 : Nat => [(7, .pointer (some ⟨b7, 0, none⟩)), (8, .int .i64 wi)]) [1, 2, 3] (fun b7 w => ∃ L4, Ar ab ns2 L4 ∧ Ev.Loc m S0 w0 m ((b7, .cells (toArr [.int .i64 no]) 3 (0, 0)) :: (b3, .cells (toArr grA) 248 (0, 0)) :: L4) w) ?_ ?_
  rotate_left
  · clear hL
    rintro b7 w f ⟨L4, hA3, hL⟩
    conv => whnf
    refine DrawReq.plan hX (.fst 0 (.fst 1 (.fst 2 (.fst 3 (.fst 4 (.fst 5 (.alt 6 (.alt 7 (.fst 8 (.done)) (.stop)) (.stop)))))))) [(b3, .cells (toArr grA) 248 (0, 0))] (by kernel_rfl) (by kernel_rfl) hL (fun h => h.one 1 rfl) ?_
    clear hL
    intro w hL
    refine goq ?_; try (clear hL; intro w hL)
    refine CallReq.mk (L1 := L4) (L2 := [_, _]) (membersG_fn m ab ns2 L4 hA3 hO2 (kdG true) (kdG_or true) _ l hv hid hlb _ (by omega) res hmem) (Loc.back (L1 := [_, _]) hL) ?_
    clear hL
    rintro u mx Lx w hL - ⟨hmx, Lo, rfl, ho⟩
    rw [hmx] at hL
    clear hmx mx
    have hL := Loc.back (L1 := Lo ++ L4) (L2 := [_, _]) hL
    have hS := hL.one 1 rfl
    have hL := Loc.back (L1 := [_, _]) hL
    rw [List.append_assoc] at hL
    obtain ⟨A1, n1, c1, rfl, hn1⟩ := ho.slice
    obtain ⟨m1, hL1, hm1, hs1⟩ := OwnS.freeze ho hL
    clear hL ho
    have hL := Loc.back (L1 := L4) (L2 := [_, _]) hL1
    clear hL1
    refine SReq.mk hS ?_
    refine goq ?_; try (clear hL; intro w hL)
    refine CallReq.mk (L1 := L4) (L2 := [_, _]) (hgb m1 L4 hA3 _ hs1) (Loc.back (L1 := [_, _]) hL) ?_
    clear hL
    rintro u mx Lx w hL - ⟨hmx, La, Lo2, rfl, hA4, ho2⟩
    rw [hmx] at hL
    clear hmx mx
    have hL := Loc.back (L1 := Lo2 ++ La) (L2 := [_, _]) hL
    have hS := (hL.one 1 rfl).weaken hm1 (Mem.Le.refl _)
    have hL := Loc.back (L1 := [_, _]) hL
    rw [List.append_assoc] at hL
    obtain ⟨A2, n2, c2, rfl, -⟩ := ho2.slice
    refine SReq.mk hS ?_
    refine goq ?_; try (clear hL; intro w hL)
    refine CallReq.li (L1 := Lo2) (containsO_fn m1 A2 n2 c2 l3 Lo2 ho2 wi) hL ?_
    clear hL
    intro w hL
    have hL := Loc.back (L1 := Lo2) hL
    rw [List.append_assoc] at hL
    have hL := Loc.back (L1 := La) hL
    replace hL : Ev.Loc m S0 w0 m1 ((b7, .cells (toArr [.int .i64 no]) 3 (0, 0)) :: (b3, .cells (toArr grA) 248 (0, 0)) :: (Lo2 ++ La)) w := hL
    unfold restN
    by_cases hc : wi ∈ l3
    · rw [decide_eq_true hc, if_pos hc]
      refine go ?_; try (clear hL; intro w hL)
      exact RetReq.mk (hL.drop.drop.sublist (List.sublist_append_right _ _)) ⟨rfl, hA4⟩
    rw [decide_eq_false hc, if_neg hc]
    refine go ?_; try (clear hL; intro w hL)
    refine CallReq.mk (L1 := (b7, .cells (toArr [.int .i64 no]) 3 (0, 0)) :: Lo2) (L2 := La ++ [_]) (deleteG_fn m1 b7 no A2 n2 c2 l3 Lo2 ho2) (by
      have h := hL.perm (List.Perm.cons _ (List.perm_append_comm (l₁ := [_]) (l₂ := Lo2 ++ La)))
      rw [List.append_assoc] at h; exact h) ?_
    clear hL
    rintro u mx Lx w hL - ⟨hmx, Lo3, rfl, ho3⟩
    rw [hmx] at hL
    clear hmx mx
    obtain ⟨A3, n3, c3, rfl, -⟩ := ho3.slice
    have hdl := dropI_len no l3
    refine go ?_; try (clear hL; intro w hL)
    refine CallReq.mk (L1 := Lo3) (L2 := La ++ [_, _]) (sortG_fn m1 A3 n3 c3 _ Lo3 ho3 (by omega)) (by
      have h : Ev.Loc m S0 w0 m1 ([(b7, .cells (toArr [.int .i64 no]) 3 (0, 0))] ++ (Lo3 ++ (La ++ [(b3, .cells (toArr grA) 248 (0, 0))]))) w := hL
      have h := Loc.back h
      rw [List.append_assoc, List.append_assoc] at h; exact h) ?_
    clear hL
    rintro u mx Lo4 w hL - ⟨hmx, rfl, ho4⟩
    rw [hmx] at hL
    clear hmx mx
    refine go ?_; try (clear hL; intro w hL)
    refine CallReq.mk (L1 := Lo4) (L2 := La ++ [_, _]) (compactG_fn m1 A3 n3 c3 _ Lo4 ho4 (by unfold sortI; rw [List.length_mergeSort]; omega)) hL ?_
    clear hL
    rintro u mx Lo5 w hL - ⟨hmx, ho5⟩
    rw [hmx] at hL
    clear hmx mx
    obtain ⟨A5, n5, c5, rfl, -⟩ := ho5.slice
    have hxi : ∀ z ∈ Lib.compact (sortI (dropI no l3)), i64 z := fun z hz => hbi z (csd_mem hz)
    have hxl := csd_len no l3
    generalize Lib.compact (sortI (dropI no l3)) = xs at ho5 hxi hxl ⊢
    obtain ⟨hn5, hnc5, hm5, hget⟩ := owns_get ho5
    have hL := Loc.back (L1 := Lo5) hL
    rw [List.append_assoc] at hL
    have hL := Loc.back (L1 := La) hL
    replace hL : Ev.Loc m S0 w0 m1 ((b3, .cells (toArr grA) 248 (0, 0)) :: (b7, .cells (toArr [.int .i64 no]) 3 (0, 0)) :: (Lo5 ++ La)) w := hL
    by_cases hx0 : xs = []
    · subst hx0
      obtain rfl : n5 = 0 := hn5
      refine go ?_; try (clear hL; intro w hL)
      exact RetReq.mk (hL.drop.drop.sublist (List.sublist_append_right _ _)) ⟨rfl, hA4⟩
    obtain ⟨g5, cur, rfl, rfl, hcl, hct, hcg⟩ := hget hx0
    have hx1 : 0 < xs.length := by cases xs; exact absurd rfl hx0; simp
    have hlast := List.getElem?_eq_getElem (l := xs) (i := xs.length - 1) (by omega)
    have hcx := hcg _ _ hlast
    have hrev : xs.reverse = xs[xs.length - 1] :: (xs.take (xs.length - 1)).reverse := by
      conv => lhs; rw [← List.take_length (l := xs), show xs.length = xs.length - 1 + 1 by omega, List.take_succ_eq_append_getElem (by omega), List.reverse_append]
      rfl
    rw [hrev]
    have hxo := hxi _ (List.getElem_mem (l := xs) (n := xs.length - 1) (by omega))
    generalize xs[xs.length - 1] = x0 at hlast hcx hrev hxo ⊢
    have hc0 : ¬ c5 = 0 := by omega
    replace hL : Ev.Loc m S0 w0 m1 ((b3, .cells (toArr grA) 248 (0, 0)) :: (b7, .cells (toArr [.int .i64 no]) 3 (0, 0)) :: (g5, .cells (toArr cur) 3 (0, 0)) :: La) w := hL
    conv => whnf
    repeat ((first | refine BrReq.no (by omega) ?_ | refine Idx2Req.mk (xs.length - 1) _ (by omega) (by omega) rfl ?_ | (refine LdReq.ownC hX rfl rfl hL (.t (.t .h)) (by rw [scale_eq, Nat.zero_add, Nat.mul_one]; exact hcx) ?_) | (refine go1 ?_; try (clear hL; intro w hL))); conv => whnf)
    have hL := (hL.sublist (.cons_cons _ (.cons _ (List.Sublist.refl _))))
    generalize hR : chainR (kdG true) ns3 no (x0 :: (xs.take (xs.length - 1)).reverse) = R
    replace hR : chainN (kdG true) ns3 (xs.take (xs.length - 1)).reverse x0 = R := hR
    refine LoopReq.inv hX (fun s : Nat × Int × Int => [(9, .int .i64 s.2.1), (10, .int .i64 s.2.2)]) [1, 2, 3]
      (fun s w => (s.1 ≤ xs.length - 1 ∧ i64 s.2.1 ∧ s.2.2 = (s.1 : Int) - 1) ∧ ∃ ns' La, (Ar ab ns' La ∧ OkA ns' ∧ chainN (kdG true) ns' (xs.take s.1).reverse s.2.1 = R) ∧ Ev.Loc m S0 w0 m1 ((b3, .cells (toArr grA) 248 (0, 0)) :: (g5, .cells (toArr cur) 3 (0, 0)) :: La) w) (fun s => s.1) (xs.length - 1, x0, (n5 : Int) - 2)
      ⟨⟨Nat.le_refl _, hxo, by simp only; omega⟩, ns3, La, ⟨hA4, hO3, hR⟩, hL⟩ ⟨rfl, rfl, trivial⟩ ?_
    clear hL hR hA4 hO3 hlast hcx hrev hxo hn1 hno2 hns2 hwi2 hns3
    rintro ⟨k, out, i⟩ w f ⟨⟨hk, hoi, hi⟩, ns', La, ⟨hA4, hO3, hR⟩, hL⟩
    simp only at hk hoi hR hi
    refine go ?_; try (clear hL; intro w hL)
    cases k with
    | zero =>
      refine BrReq.no (by simp only; omega) ?_
      refine go ?_; try (clear hL; intro w hL)
      have hR : (ns', out) = R := hR
      subst hR
      exact RetReq.mk hL.drop.drop ⟨rfl, hA4⟩
    | succ k =>
      have hkl : k < xs.length := by omega
      have hkx := List.getElem?_eq_getElem hkl
      have hck := hcg _ _ hkx
      have hxk := hxi _ (List.getElem_mem hkl)
      rw [List.take_succ_eq_append_getElem hkl, List.reverse_append] at hR
      generalize xs[k] = x at hkx hck hxk hR
      replace hR : chainN (kdG true) (pN ns' (ndP (kdG true) x out)).1 (xs.take k).reverse (pN ns' (ndP (kdG true) x out)).2 = R := hR
      refine BrReq.yes (by simp only; omega) ?_
      refine go ?_; try (clear hL; intro w hL)
      refine DrawReq.plan hX (.fst 0 (.fst 1 (.fst 2 (.fst 3 (.fst 4 (.fst 5 (.fst 6 (.fst 7 (.fst 8 (.alt 9 (.fst 10 (.done)) (.stop))))))))))) [(b3, .cells (toArr grA) 248 (0, 0)), (g5, .cells (toArr cur) 3 (0, 0))] (by kernel_rfl) (by kernel_rfl) hL (fun h => h.sublist (.cons_cons _ (.cons_cons _ (List.nil_sublist _)))) ?_
      clear hL
      intro w hL
      conv => whnf
      repeat ((first | (refine Idx2Req.mk k _ (by simp only; omega) (by omega) rfl ?_) | (refine QLdReq.ownC hX rfl rfl (.t .h) (by rw [scale_eq, Nat.zero_add, Nat.mul_one]; exact hck) ?_) | (refine goq1 ?_; try (clear hL; intro w hL))); conv => whnf)
      refine CallReq.mk (L1 := La) (L2 := [_, _]) (put_fn m1 ab ns' La hA4 hO3 (ndP (kdG true) x out) (inN_P (kdG_le true) hxk hoi)) (Loc.back (L1 := [_, _]) hL) ?_
      clear hL
      rintro u mx Lx w hL - ⟨hmx, rfl, hA5⟩
      rw [hmx] at hL
      clear hmx mx
      have hL := Loc.back (L1 := Lx) (L2 := [_, _]) hL
      refine SReq.mk (hL.sublist (.cons_cons _ (.cons_cons _ (List.nil_sublist _)))) ?_
      conv => whnf
      repeat ((first | (refine ArReq.i64 (by simp only; omega) (by simp only; omega) ?_) | (refine goq1 ?_; try (clear hL; intro w hL))); conv => whnf)
      refine ⟨(k, (pN ns' (ndP (kdG true) x out)).2, i - 1), ⟨⟨by simp only; omega, pN_i64 hO3 _, by simp only; omega⟩, _, Lx, ⟨hA5, okA_p hO3 (inN_P (kdG_le true) hxk hoi), hR⟩, hL⟩, by first | omega | (simp only; omega) | (simp only [List.length_cons, List.length_append]; omega), ?_, ?_⟩
      · repeat (first | exact trivial | (refine And.intro (by (conv => lhs; whnf) <;> (conv => rhs; whnf) <;> (first | rfl)) ?_))
      · repeat (first | exact trivial | (refine And.intro (by (conv => lhs; whnf) <;> (conv => rhs; whnf) <;> (first | rfl)) ?_))
  · refine DrawReq.plan hX (.fst 0 (.fst 1 (.fst 2 (.fst 4 (.fst 5 (.fst 6 (.alt 3 (.alt 7 (.alt 8 (.alt 9 (.fst 10 (.done)) (.stop)) (.stop)) (.alt 8 (.alt 7 (.alt 9 (.fst 10 (.done)) (.stop)) (.stop)) (.stop))) (.alt 8 (.alt 3 (.alt 7 (.alt 9 (.fst 10 (.done)) (.stop)) (.stop)) (.stop)) (.stop))))))))) [(b3, .cells (toArr grA) 248 (0, 0))] (by kernel_rfl) (by kernel_rfl) hL (fun h => h.one 0 rfl) ?_
    clear hL
    intro w hL
    refine goq ?_; try (clear hL; intro w hL)
    refine alt2 ?_ ?_
    · refine goq ?_; try (clear hL; intro w hL)
      refine CallReq.mk (L1 := L) (L2 := [(b3, .cells (toArr grA) 248 (0, 0))]) (hno L hA) (Loc.back (L1 := [(b3, .cells (toArr grA) 248 (0, 0))]) hL) ?_
      clear hL
      rintro u mx L3 w hL - ⟨hmx, rfl, hA2⟩
      rw [hmx] at hL
      clear hmx mx
      have hL := Loc.back (L1 := L3) (L2 := [(b3, .cells (toArr grA) 248 (0, 0))]) hL
      refine SReq.mk (hL.one 0 rfl) ?_
      refine goq ?_; try (clear hL; intro w hL)
      refine alt2 ?_ ?_
      · refine goq ?_; try (clear hL; intro w hL)
        refine CallReq.mk (L1 := L3) (L2 := [(b3, .cells (toArr grA) 248 (0, 0))]) (hwi L3 hA2) (Loc.back (L1 := [(b3, .cells (toArr grA) 248 (0, 0))]) hL) ?_
        clear hL
        rintro u mx L4 w hL - ⟨hmx, rfl, hA3⟩
        rw [hmx] at hL
        clear hmx mx
        have hL := Loc.back (L1 := L4) (L2 := [(b3, .cells (toArr grA) 248 (0, 0))]) hL
        refine SReq.mk (hL.one 0 rfl) ?_
        refine goq ?_; try (clear hL; intro w hL)
        refine NewReq.mk hL ?_
        clear hL
        intro b7 w hL
        conv => whnf
        refine SReq.mk (hL.one 1 rfl) ?_
        refine goq ?_; try (clear hL; intro w hL)
        replace hL : Ev.Loc m S0 w0 m ((b7, .cells (toArr [.int .i64 no]) 3 (0, 0)) :: (b3, .cells (toArr grA) 248 (0, 0)) :: L4) w := hL
        refine SReq.mk (hL.one 1 rfl) ?_
        refine goq ?_; try (clear hL; intro w hL)
        refine ⟨b7, ⟨L4, hA3, hL⟩, ?_, ?_⟩
        · repeat (first | exact trivial | (refine And.intro (by (conv => lhs; whnf) <;> (conv => rhs; whnf) <;> (first | rfl)) ?_))
        · repeat (first | exact trivial | (refine And.intro (by (conv => lhs; whnf) <;> (conv => rhs; whnf) <;> (first | rfl)) ?_))
      · refine goq ?_; try (clear hL; intro w hL)
        refine NewReq.mk hL ?_
        clear hL
        intro b7 w hL
        conv => whnf
        refine SReq.mk (hL.one 1 rfl) ?_
        refine goq ?_; try (clear hL; intro w hL)
        refine CallReq.mk (L1 := L3) (L2 := [(b7, .cells (toArr [.int .i64 0]) 3 (0, 0)), (b3, .cells (toArr grA) 248 (0, 0))]) (hwi L3 hA2) (Loc.back (L1 := [(b7, .cells (toArr [.int .i64 0]) 3 (0, 0)), (b3, .cells (toArr grA) 248 (0, 0))]) hL) ?_
        clear hL
        rintro u mx L4 w hL - ⟨hmx, rfl, hA3⟩
        rw [hmx] at hL
        clear hmx mx
        have hL := Loc.back (L1 := L4) (L2 := [(b7, .cells (toArr [.int .i64 0]) 3 (0, 0)), (b3, .cells (toArr grA) 248 (0, 0))]) hL
        refine SReq.mk (hL.one 1 rfl) ?_
        refine goq ?_; try (clear hL; intro w hL)
        replace hL : Ev.Loc m S0 w0 m ((b7, .cells (toArr [.int .i64 no]) 3 (0, 0)) :: (b3, .cells (toArr grA) 248 (0, 0)) :: L4) w := hL
        refine SReq.mk (hL.one 1 rfl) ?_
        refine goq ?_; try (clear hL; intro w hL)
        refine ⟨b7, ⟨L4, hA3, hL⟩, ?_, ?_⟩
        · repeat (first | exact trivial | (refine And.intro (by (conv => lhs; whnf) <;> (conv => rhs; whnf) <;> (first | rfl)) ?_))
        · repeat (first | exact trivial | (refine And.intro (by (conv => lhs; whnf) <;> (conv => rhs; whnf) <;> (first | rfl)) ?_))
    · refine goq ?_; try (clear hL; intro w hL)
      refine NewReq.mk hL ?_
      clear hL
      intro b7 w hL
      conv => whnf
      refine SReq.mk (hL.one 1 rfl) ?_
      refine goq ?_; try (clear hL; intro w hL)
      refine CallReq.mk (L1 := L) (L2 := [(b7, .cells (toArr [.int .i64 0]) 3 (0, 0)), (b3, .cells (toArr grA) 248 (0, 0))]) (hno L hA) (Loc.back (L1 := [(b7, .cells (toArr [.int .i64 0]) 3 (0, 0)), (b3, .cells (toArr grA) 248 (0, 0))]) hL) ?_
      clear hL
      rintro u mx L3 w hL - ⟨hmx, rfl, hA2⟩
      rw [hmx] at hL
      clear hmx mx
      have hL := Loc.back (L1 := L3) (L2 := [(b7, .cells (toArr [.int .i64 0]) 3 (0, 0)), (b3, .cells (toArr grA) 248 (0, 0))]) hL
      refine SReq.mk (hL.one 1 rfl) ?_
      refine goq ?_; try (clear hL; intro w hL)
      refine CallReq.mk (L1 := L3) (L2 := [(b7, .cells (toArr [.int .i64 0]) 3 (0, 0)), (b3, .cells (toArr grA) 248 (0, 0))]) (hwi L3 hA2) (Loc.back (L1 := [(b7, .cells (toArr [.int .i64 0]) 3 (0, 0)), (b3, .cells (toArr grA) 248 (0, 0))]) hL) ?_
      clear hL
      rintro u mx L4 w hL - ⟨hmx, rfl, hA3⟩
      rw [hmx] at hL
      clear hmx mx
      have hL := Loc.back (L1 := L4) (L2 := [(b7, .cells (toArr [.int .i64 0]) 3 (0, 0)), (b3, .cells (toArr grA) 248 (0, 0))]) hL
      refine SReq.mk (hL.one 1 rfl) ?_
      refine goq ?_; try (clear hL; intro w hL)
      replace hL : Ev.Loc m S0 w0 m ((b7, .cells (toArr [.int .i64 no]) 3 (0, 0)) :: (b3, .cells (toArr grA) 248 (0, 0)) :: L4) w := hL
      refine SReq.mk (hL.one 1 rfl) ?_
      refine goq ?_; try (clear hL; intro w hL)
      refine ⟨b7, ⟨L4, hA3, hL⟩, ?_, ?_⟩
      · repeat (first | exact trivial | (refine And.intro (by (conv => lhs; whnf) <;> (conv => rhs; whnf) <;> (first | rfl)) ?_))
      · repeat (first | exact trivial | (refine And.intro (by (conv => lhs; whnf) <;> (conv => rhs; whnf) <;> (first | rfl)) ?_))
end Go.Proofs.YtaooenndoopgdaaGreatDoor.ar
namespace Go.Proofs.YtaooenndoopgdaaGreatDoor.ar
open Go Go.Ev Go.Proofs
def PutR (ab : Nat) (r : List Nd × Int) : Mem → Own → Value → Prop := fun _ L' u => u = .int .i64 r.2 ∧ Ar ab r.1 L'
def orN (ns : List Nd) (l : List Int) : List Nd × Int := gputN false ns l
def andN (ns : List Nd) (l : List Int) : List Nd × Int := gputN true ns l
theorem OrG_fn (m : Mem) (ab : Nat) (ns : List Nd) (L : Own) (hA : Ar ab ns L) (hO : OkA ns) (v : Value) (l : List Int) (hv : SlI m .i64 v l) (hlb : l.length ≤ 20000) :
    Ev.Fn Tryz.prog 146 [.pointer (some ⟨ab, 0, none⟩), v] m L (PutR ab (gputN false ns l)) := by
  obtain ⟨A, n, c, rfl, -⟩ := id hv
  refine Fn.enter (N := 9) hX Tryz.func146 rfl rfl (by show _ ≤ _; simp) (fun w0 hL => ?_)
  conv => whnf
  generalize keys L = S0 at hL ⊢
  refine go ?_; try (clear hL; intro w hL)
  refine CallReq.mk (L1 := L) (L2 := []) (gputO_fn m ab ns L hA hO _ l hv hlb) (by rw [List.append_nil]; exact hL) ?_
  clear hL
  rintro u m2 L2 w hL - ⟨rfl, hA3⟩
  rw [List.append_nil] at hL
  refine go ?_; try (clear hL; intro w hL)
  exact RetReq.mk hL ⟨rfl, hA3⟩
theorem AndG_fn (m : Mem) (ab : Nat) (ns : List Nd) (L : Own) (hA : Ar ab ns L) (hO : OkA ns) (v : Value) (l : List Int) (hv : SlI m .i64 v l) (hlb : l.length ≤ 20000) :
    Ev.Fn Tryz.prog 147 [.pointer (some ⟨ab, 0, none⟩), v] m L (PutR ab (gputN true ns l)) := by
  obtain ⟨A, n, c, rfl, -⟩ := id hv
  refine Fn.enter (N := 9) hX Tryz.func147 rfl rfl (by show _ ≤ _; simp) (fun w0 hL => ?_)
  conv => whnf
  generalize keys L = S0 at hL ⊢
  refine go ?_; try (clear hL; intro w hL)
  refine CallReq.mk (L1 := L) (L2 := []) (gputA_fn m ab ns L hA hO _ l hv hlb) (by rw [List.append_nil]; exact hL) ?_
  clear hL
  rintro u m2 L2 w hL - ⟨rfl, hA3⟩
  rw [List.append_nil] at hL
  refine go ?_; try (clear hL; intro w hL)
  exact RetReq.mk hL ⟨rfl, hA3⟩
def lookN (ns : List Nd) (k : Int) (neg : Bool) : List Nd × Int := pN ns ⟨8, 0, 0, 0, 0, k, 0, neg⟩
theorem Look_fn (m : Mem) (ab : Nat) (ns : List Nd) (L : Own) (hA : Ar ab ns L) (hO : OkA ns) (k : Int) (hk : i64 k) (neg : Bool) :
    Ev.Fn Tryz.prog 181 [.pointer (some ⟨ab, 0, none⟩), .int .i64 k, .bool neg] m L (PutQ ab (lookN ns k neg).1 (lookN ns k neg).2 m) := by
  refine Fn.enter (N := 12) hX Tryz.func181 rfl rfl (by show _ ≤ _; simp) (fun w0 hL => ?_)
  conv => whnf
  generalize keys L = S0 at hL ⊢
  refine go ?_; try (clear hL; intro w hL)
  refine CallReq.mk (L1 := L) (L2 := []) (put_fn m ab ns L hA hO ⟨8, 0, 0, 0, 0, k, 0, neg⟩ ⟨by simp [i64], by simp [u64], by simp [u64], by simp [u64], by simp [u64], hk, by simp [i64]⟩) (by rw [List.append_nil]; exact hL) ?_
  clear hL
  rintro u m2 L2 w hL - ⟨rfl, rfl, hA3⟩
  rw [List.append_nil] at hL
  refine go ?_; try (clear hL; intro w hL)
  exact RetReq.mk hL ⟨rfl, rfl, hA3⟩
instance (ns : List Nd) (z : Int) : Decidable (okId ns z) := inferInstanceAs (Decidable (0 ≤ z ∧ z < ns.length))
def notN (ns : List Nd) (x : Int) : List Nd × Int :=
  if okId ns x then if kindN ns x = 6 then (ns, (nodeN ns x).1.a) else pN ns (ndP 6 x 0) else (ns, -1)
def starN (ns : List Nd) (x : Int) : List Nd × Int :=
  if okId ns x then if kindN ns x = 0 ∨ kindN ns x = 1 then emptyN ns else if kindN ns x = 7 then (ns, x) else pN ns (ndP 7 x 0) else (ns, -1)
def catF : Nat → List Nd → Int → Int → List Nd × Int
  | 0, ns, _, _ => (ns, -1)
  | k + 1, ns, x, y => if okId ns x ∧ okId ns y then
      if kindN ns x = 0 ∨ kindN ns y = 0 then noneN ns
      else if kindN ns x = 1 then (ns, y) else if kindN ns y = 1 then (ns, x)
      else if kindN ns x = 3 then catF k (catF k ns (nodeN ns x).1.b y).1 (nodeN ns x).1.a (catF k ns (nodeN ns x).1.b y).2
      else pN ns (ndP 3 x y)
    else (ns, -1)
def catN (ns : List Nd) (x y : Int) : List Nd × Int := catF (x.toNat + 1) ns x y
theorem notN_ok {ns : List Nd} (h : OkA ns) {x : Int} (hx : i64 x) : OkA (notN ns x).1 := by
  unfold notN
  split
  · split
    · exact h
    · exact okA_p h (inN_P (by omega) hx (by simp [i64]))
  · exact h
theorem starN_ok {ns : List Nd} (h : OkA ns) {x : Int} (hx : i64 x) : OkA (starN ns x).1 := by
  unfold starN
  split
  · split
    · exact okA_empty h
    split
    · exact h
    · exact okA_p h (inN_P (by omega) hx (by simp [i64]))
  · exact h
theorem catF_i64 : ∀ (k : Nat) {ns : List Nd} (_ : OkA ns) {x y : Int} (_ : i64 x) (_ : i64 y), OkA (catF k ns x y).1 ∧ i64 (catF k ns x y).2
  | 0, ns, h, x, y, hx, hy => ⟨h, by simp [catF, i64]⟩
  | k + 1, ns, h, x, y, hx, hy => by
    rw [catF]
    split
    · split
      · exact ⟨okA_none h, pN_i64 h _⟩
      split
      · exact ⟨h, hy⟩
      split
      · exact ⟨h, hx⟩
      split
      · have hn := nodeN_in h x
        obtain ⟨h1, h2⟩ := catF_i64 k h hn.b hy
        exact catF_i64 k h1 hn.a h2
      · exact ⟨okA_p h (inN_P (by omega) hx hy), pN_i64 h _⟩
    · exact ⟨h, by simp [i64]⟩
theorem there_row {m0 m : Mem} {S0 : List Nat} {w0 w : World} {g : Nat} {l : List Int} {L : Own} (hL : Ev.Loc m0 S0 w0 m ((g, .cells (toArr (ints .i64 l)) 3 (0, 0)) :: L) w) (h : l.length ≤ 1000) :
    ∃ m1, Ev.Loc m0 S0 w0 m1 L w ∧ Mem.Le m m1 ∧ SlI m1 .i64 (.slice (some ⟨g, 0, none⟩) l.length l.length) l :=
  OwnS.freeze (te := 3) (k := .i64) (l := l) (OwnS.full (n := l.length) (by have : maxLen = 9223372036854775807 := rfl; omega) (by simp [ints])) (L2 := L) hL
theorem there1 (ns : List Nd) (x : Int) : thereN ns [x] = decide (okId ns x) := by
  unfold thereN; rw [Bool.eq_iff_iff, decide_eq_true_iff]; simp [okId]
theorem there2 (ns : List Nd) (x y : Int) : thereN ns [x, y] = decide (okId ns x ∧ okId ns y) := by
  unfold thereN; rw [Bool.eq_iff_iff, decide_eq_true_iff]; simp [okId]
theorem NotG_fn (m : Mem) (ab : Nat) (ns : List Nd) (L : Own) (hA : Ar ab ns L) (hO : OkA ns) (x : Int) :
    Ev.Fn Tryz.prog 148 [.pointer (some ⟨ab, 0, none⟩), .int .i64 x] m L (PutR ab (notN ns x)) := by
  have hnode := Node_fn m ab ns L hA x
  refine Fn.enter (N := 27) hX Tryz.func148 rfl rfl (by show _ ≤ _; simp) (fun w0 hL => ?_)
  conv => whnf
  generalize keys L = S0 at hL ⊢
  refine go ?_; try (clear hL; intro w hL)
  refine NewReq.mk hL ?_
  clear hL
  intro g w hL
  conv => whnf
  obtain ⟨m1, hL1, hm1, hs⟩ := there_row (l := [x]) hL (by simp)
  clear hL
  have hL := hL1
  clear hL1
  refine go ?_; try (clear hL; intro w hL)
  refine CallReq.lo (there2_fn m1 ab ns L hA _ [x] hs) hL ?_
  clear hL
  intro w hL
  rw [show ([x].all fun id => decide (0 ≤ id ∧ id < ns.length)) = decide (okId ns x) from there1 ns x]
  unfold notN
  by_cases hx : okId ns x
  rotate_left
  · rw [decide_eq_false hx, if_neg hx]
    refine go ?_; try (clear hL; intro w hL)
    exact RetReq.mk hL ⟨rfl, hA⟩
  rw [decide_eq_true hx, if_pos hx]
  have hi := okId_i64 hO.len hx
  refine go ?_; try (clear hL; intro w hL)
  have hnode := Node_fn m1 ab ns L hA x
  unfold kindN
  generalize (nodeN ns x).1 = n at hnode ⊢
  generalize (nodeN ns x).2 = ok at hnode
  refine CallReq.lo hnode hL ?_
  clear hL
  intro w hL
  refine go ?_; try (clear hL; intro w hL)
  refine NewReq.mk hL ?_
  clear hL
  intro b w hL
  conv => whnf
  refine go ?_; try (clear hL; intro w hL)
  by_cases hk : n.k = 6
  · rw [if_pos hk]
    refine BrReq.yes hk ?_
    refine go ?_; try (clear hL; intro w hL)
    exact RetReq.mk hL.drop ⟨rfl, hA⟩
  · rw [if_neg hk]
    refine BrReq.no hk ?_
    replace hL := hL.drop
    refine go ?_; try (clear hL; intro w hL)
    refine CallReq.mk (L1 := L) (L2 := []) (put_fn m1 ab ns L hA hO (ndP 6 x 0) (inN_P (by omega) hi (by simp [i64]))) (by rw [List.append_nil]; exact hL) ?_
    clear hL
    rintro u m2 L2 w hL - ⟨rfl, rfl, hA3⟩
    rw [List.append_nil] at hL
    refine go ?_; try (clear hL; intro w hL)
    exact RetReq.mk hL ⟨rfl, hA3⟩
theorem StarG_fn (m : Mem) (ab : Nat) (ns : List Nd) (L : Own) (hA : Ar ab ns L) (hO : OkA ns) (x : Int) :
    Ev.Fn Tryz.prog 180 [.pointer (some ⟨ab, 0, none⟩), .int .i64 x] m L (PutR ab (starN ns x)) := by
  refine Fn.enter (N := 25) hX Tryz.func180 rfl rfl (by show _ ≤ _; simp) (fun w0 hL => ?_)
  conv => whnf
  generalize keys L = S0 at hL ⊢
  refine go ?_; try (clear hL; intro w hL)
  refine NewReq.mk hL ?_
  clear hL
  intro g w hL
  conv => whnf
  obtain ⟨m1, hL1, hm1, hs⟩ := there_row (l := [x]) hL (by simp)
  clear hL
  have hL := hL1
  clear hL1
  refine go ?_; try (clear hL; intro w hL)
  refine CallReq.lo (there2_fn m1 ab ns L hA _ [x] hs) hL ?_
  clear hL
  intro w hL
  rw [show ([x].all fun id => decide (0 ≤ id ∧ id < ns.length)) = decide (okId ns x) from there1 ns x]
  unfold starN
  by_cases hx : okId ns x
  rotate_left
  · rw [decide_eq_false hx, if_neg hx]
    refine go ?_; try (clear hL; intro w hL)
    exact RetReq.mk hL ⟨rfl, hA⟩
  rw [decide_eq_true hx, if_pos hx]
  have hi := okId_i64 hO.len hx
  refine go ?_; try (clear hL; intro w hL)
  refine CallReq.lo (kind_fn m1 ab ns L hA x) hL ?_
  clear hL
  intro w hL
  generalize kindN ns x = k
  by_cases k0 : k = 0
  · rw [if_pos (.inl k0)]
    conv => whnf
    repeat ((first | refine BrReq.yes k0 ?_ | (refine go1 ?_; try (clear hL; intro w hL))); conv => whnf)
    refine CallReq.mk (L1 := L) (L2 := []) (Empty_fn m1 ab ns L hA hO) (by rw [List.append_nil]; exact hL) ?_
    clear hL
    rintro u m2 L2 w hL - ⟨rfl, rfl, hA3⟩
    rw [List.append_nil] at hL
    refine go ?_; try (clear hL; intro w hL)
    exact RetReq.mk hL ⟨rfl, hA3⟩
  by_cases k1 : k = 1
  · rw [if_pos (.inr k1)]
    conv => whnf
    repeat ((first | refine BrReq.no k0 ?_ | refine BrReq.yes k1 ?_ | (refine go1 ?_; try (clear hL; intro w hL))); conv => whnf)
    refine CallReq.mk (L1 := L) (L2 := []) (Empty_fn m1 ab ns L hA hO) (by rw [List.append_nil]; exact hL) ?_
    clear hL
    rintro u m2 L2 w hL - ⟨rfl, rfl, hA3⟩
    rw [List.append_nil] at hL
    refine go ?_; try (clear hL; intro w hL)
    exact RetReq.mk hL ⟨rfl, hA3⟩
  rw [if_neg (by omega)]
  by_cases k7 : k = 7
  · rw [if_pos k7]
    conv => whnf
    repeat ((first | refine BrReq.no k0 ?_ | refine BrReq.no k1 ?_ | refine BrReq.yes k7 ?_ | (refine go1 ?_; try (clear hL; intro w hL))); conv => whnf)
    exact RetReq.mk hL ⟨rfl, hA⟩
  · rw [if_neg k7]
    conv => whnf
    repeat ((first | refine BrReq.no k0 ?_ | refine BrReq.no k1 ?_ | refine BrReq.no k7 ?_ | (refine go1 ?_; try (clear hL; intro w hL))); conv => whnf)
    refine CallReq.mk (L1 := L) (L2 := []) (put_fn m1 ab ns L hA hO (ndP 7 x 0) (inN_P (by omega) hi (by simp [i64]))) (by rw [List.append_nil]; exact hL) ?_
    clear hL
    rintro u m2 L2 w hL - ⟨rfl, rfl, hA3⟩
    rw [List.append_nil] at hL
    refine go ?_; try (clear hL; intro w hL)
    exact RetReq.mk hL ⟨rfl, hA3⟩
theorem CatF_fn (ab : Nat) : ∀ (k : Nat) (m : Mem) (ns : List Nd) (L : Own) (_ : Ar ab ns L) (_ : OkA ns) (x y : Int) (_ : i64 x) (_ : i64 y) (_ : okId ns x → x.toNat < k) (_ : 0 < k),
    Ev.Fn Tryz.prog 145 [.pointer (some ⟨ab, 0, none⟩), .int .i64 x, .int .i64 y] m L (PutR ab (catF k ns x y)) := by
  intro k
  induction k with
  | zero => intro m ns L _ _ x y _ _ _ h; omega
  | succ k ih =>
  intro m ns L hA hO x y hxi hyi hxk _
  refine Fn.enter (N := 62) hX Tryz.func145 rfl rfl (by show _ ≤ _; simp) (fun w0 hL => ?_)
  conv => whnf
  generalize keys L = S0 at hL ⊢
  refine go ?_; try (clear hL; intro w hL)
  refine NewReq.mk hL ?_
  clear hL
  intro g w hL
  conv => whnf
  obtain ⟨m1, hL1, hm1, hs⟩ := there_row (l := [x, y]) hL (by simp)
  clear hL
  have hL := hL1
  clear hL1
  refine go ?_; try (clear hL; intro w hL)
  refine CallReq.lo (there2_fn m1 ab ns L hA _ [x, y] hs) hL ?_
  clear hL
  intro w hL
  rw [show ([x, y].all fun id => decide (0 ≤ id ∧ id < ns.length)) = decide (okId ns x ∧ okId ns y) from there2 ns x y]
  rw [catF]
  by_cases hx : okId ns x ∧ okId ns y
  rotate_left
  · rw [decide_eq_false hx, if_neg hx]
    refine go ?_; try (clear hL; intro w hL)
    exact RetReq.mk hL ⟨rfl, hA⟩
  rw [decide_eq_true hx, if_pos hx]
  refine go ?_; try (clear hL; intro w hL)
  have hnode := Node_fn m1 ab ns L hA x
  have hpt := fun h => okId_parts hO hx.1 (.inl h)
  have hlt : kindN ns x = 3 → (nodeN ns x).1.a < x ∧ (nodeN ns x).1.b < x := fun h => by
    obtain ⟨nx, e1, e2⟩ := nodeN_ok hx.1
    unfold kindN at h
    rw [e1] at h ⊢
    have := (right_lt (hO.right _ nx e2)).1 (.inl h)
    have := hx.1
    unfold okId at this
    simp only
    omega
  have hk1 : kindN ns x = (nodeN ns x).1.k := rfl
  have hnin := nodeN_in hO x
  rw [hk1] at hpt hlt ⊢
  clear hk1
  generalize (nodeN ns x).1 = n at hnode hpt hlt hnin ⊢
  generalize (nodeN ns x).2 = ok at hnode
  refine CallReq.lo hnode hL ?_
  clear hL
  intro w hL
  refine go ?_; try (clear hL; intro w hL)
  refine NewReq.mk hL ?_
  clear hL
  intro b w hL
  conv => whnf
  replace hL : Ev.Loc m S0 w0 m1 ((b, .cells (toArr (ndC nd0)) 146 (0, 0)) :: L) w := hL
  have hky := kind_fn m1 ab ns L hA y
  generalize kindN ns y = ky at hky ⊢
  by_cases k0 : n.k = 0
  · rw [if_pos (.inl k0)]
    conv => whnf
    repeat ((first | refine BrReq.yes k0 ?_ | (refine go1 ?_; try (clear hL; intro w hL))); conv => whnf)
    refine CallReq.mk (L1 := L) (L2 := [_]) (None_fn m1 ab ns L hA hO) (Loc.back (L1 := [_]) hL) ?_
    clear hL
    rintro u mx L2 w hL - ⟨hmx, rfl, hA3⟩
    rw [hmx] at hL
    clear hmx mx
    have hL := Loc.back (L1 := L2) (L2 := [_]) hL
    refine go ?_; try (clear hL; intro w hL)
    exact RetReq.mk hL.drop ⟨rfl, hA3⟩
  by_cases y0 : ky = 0
  · rw [if_pos (.inr y0)]
    conv => whnf
    repeat ((first | refine BrReq.no k0 ?_ | refine BrReq.yes y0 ?_ | (refine go1 ?_; try (clear hL; intro w hL))); conv => whnf)
    refine CallReq.li (L1 := L) hky (Loc.back (L1 := [_]) hL) ?_
    clear hL
    intro w hL
    have hL := Loc.back (L1 := L) (L2 := [_]) hL
    replace hL : Ev.Loc m S0 w0 m1 ((b, .cells (toArr (ndC n)) 146 (0, 0)) :: L) w := hL
    conv => whnf
    repeat ((first | refine BrReq.no k0 ?_ | refine BrReq.yes y0 ?_ | (refine go1 ?_; try (clear hL; intro w hL))); conv => whnf)
    refine CallReq.mk (L1 := L) (L2 := [_]) (None_fn m1 ab ns L hA hO) (Loc.back (L1 := [_]) hL) ?_
    clear hL
    rintro u mx L2 w hL - ⟨hmx, rfl, hA3⟩
    rw [hmx] at hL
    clear hmx mx
    have hL := Loc.back (L1 := L2) (L2 := [_]) hL
    refine go ?_; try (clear hL; intro w hL)
    exact RetReq.mk hL.drop ⟨rfl, hA3⟩
  rw [if_neg (by omega)]
  conv => whnf
  repeat ((first | refine BrReq.no k0 ?_ | refine BrReq.no y0 ?_ | (refine go1 ?_; try (clear hL; intro w hL))); conv => whnf)
  refine CallReq.li (L1 := L) hky (Loc.back (L1 := [_]) hL) ?_
  clear hL
  intro w hL
  have hL := Loc.back (L1 := L) (L2 := [_]) hL
  replace hL : Ev.Loc m S0 w0 m1 ((b, .cells (toArr (ndC n)) 146 (0, 0)) :: L) w := hL
  by_cases k1 : n.k = 1
  · rw [if_pos k1]
    conv => whnf
    repeat ((first | refine BrReq.no k0 ?_ | refine BrReq.no y0 ?_ | refine BrReq.yes k1 ?_ | (refine go1 ?_; try (clear hL; intro w hL))); conv => whnf)
    exact RetReq.mk hL.drop ⟨rfl, hA⟩
  rw [if_neg k1]
  conv => whnf
  repeat ((first | refine BrReq.no k0 ?_ | refine BrReq.no y0 ?_ | refine BrReq.no k1 ?_ | (refine go1 ?_; try (clear hL; intro w hL))); conv => whnf)
  refine CallReq.li (L1 := L) hky (Loc.back (L1 := [_]) hL) ?_
  clear hL
  intro w hL
  have hL := Loc.back (L1 := L) (L2 := [_]) hL
  replace hL : Ev.Loc m S0 w0 m1 ((b, .cells (toArr (ndC n)) 146 (0, 0)) :: L) w := hL
  by_cases y1 : ky = 1
  · rw [if_pos y1]
    conv => whnf
    repeat ((first | refine BrReq.yes y1 ?_ | (refine go1 ?_; try (clear hL; intro w hL))); conv => whnf)
    exact RetReq.mk hL.drop ⟨rfl, hA⟩
  rw [if_neg y1]
  by_cases k3 : n.k = 3
  · rw [if_pos k3]
    obtain ⟨hpa, hpb⟩ := hpt k3
    obtain ⟨hla, hlb⟩ := hlt k3
    have hxk := hxk hx.1
    have hx1 := hx.1
    unfold okId at hx1 hpa hpb
    have i1 := ih m1 ns L hA hO n.b y hnin.b hyi (fun _ => by omega) (by omega)
    have e1 := catF_i64 k hO hnin.b hyi
    have hpre2 : ∀ ns' : List Nd, okId ns' n.a → n.a.toNat < k := fun _ _ => by omega
    generalize catF k ns n.b y = r1 at i1 e1 ⊢
    conv => whnf
    repeat ((first | refine BrReq.no y1 ?_ | refine BrReq.yes k3 ?_ | (refine go1 ?_; try (clear hL; intro w hL))); conv => whnf)
    refine DrawReq.plan hX (.fst 0 (.fst 1 (.fst 2 (.fst 3 (.fst 4 (.fst 5 (.fst 6 (.alt 7 (.alt 8 (.fst 9 (.done)) (.stop)) (.stop))))))))) [(b, .cells (toArr (ndC n)) 146 (0, 0))] (by kernel_rfl) (by kernel_rfl) hL (fun h => h.one 0 rfl) ?_
    clear hL
    intro w hL
    refine goq ?_; try (clear hL; intro w hL)
    refine CallReq.mk (L1 := L) (L2 := [_]) i1 (Loc.back (L1 := [_]) hL) ?_
    clear hL
    rintro u m2 L2 w hL hm2 ⟨rfl, hA3⟩
    have hL := Loc.back (L1 := L2) (L2 := [_]) hL
    refine SReq.mk ((hL.one 0 rfl).weaken hm2 hm1) ?_
    refine goq ?_; try (clear hL; intro w hL)
    have i2 := ih m2 r1.1 L2 hA3 e1.1 n.a r1.2 hnin.a e1.2 (hpre2 _) (by omega)
    refine CallReq.mk (L1 := L2) (L2 := [_]) i2 (Loc.back (L1 := [_]) hL) ?_
    clear hL
    rintro u m3 L3 w hL hm3 ⟨rfl, hA4⟩
    have hL := Loc.back (L1 := L3) (L2 := [_]) hL
    refine SReq.mk ((hL.one 0 rfl).weaken (hm2.trans hm3) hm1) ?_
    refine goq ?_; try (clear hL; intro w hL)
    exact RetReq.mk hL.drop ⟨rfl, hA4⟩
  · rw [if_neg k3]
    conv => whnf
    repeat ((first | refine BrReq.no y1 ?_ | refine BrReq.no k3 ?_ | (refine go1 ?_; try (clear hL; intro w hL))); conv => whnf)
    refine CallReq.mk (L1 := L) (L2 := [_]) (put_fn m1 ab ns L hA hO (ndP 3 x y) (inN_P (by omega) hxi hyi)) (Loc.back (L1 := [_]) hL) ?_
    clear hL
    rintro u mx L2 w hL - ⟨hmx, rfl, hA3⟩
    rw [hmx] at hL
    clear hmx mx
    have hL := Loc.back (L1 := L2) (L2 := [_]) hL
    refine go ?_; try (clear hL; intro w hL)
    exact RetReq.mk hL.drop ⟨rfl, hA3⟩
end Go.Proofs.YtaooenndoopgdaaGreatDoor.ar
namespace Go.Proofs.YtaooenndoopgdaaGreatDoor.ar
open Go Go.Ev Go.Proofs
theorem right_mono {x : Nd} {n n' : Nat} (h : rightN x n = true) (hn : n ≤ n') : rightN x n' = true := by
  unfold rightN at *
  split at h
  · rw [if_pos (by assumption)]; exact h
  rename_i h1
  rw [if_neg h1]
  split at h
  · rw [if_pos (by assumption)]; exact h
  rename_i h2
  rw [if_neg h2]
  split at h
  · rename_i h3
    rw [if_pos h3]
    simp only [Bool.and_eq_true, decide_eq_true_eq] at h ⊢
    exact ⟨by omega, h.2⟩
  rename_i h3
  rw [if_neg h3]
  split at h
  · rename_i h4
    rw [if_pos h4]
    simp only [Bool.and_eq_true, decide_eq_true_eq] at h ⊢
    exact ⟨by omega, h.2⟩
  rename_i h4
  rw [if_neg h4]
  exact h
def At (ns : List Nd) (z : Int) (x : Nd) : Prop := 0 ≤ z ∧ ns[z.toNat]? = some x
theorem At.ok {ns : List Nd} {z : Int} {x : Nd} (h : At ns z x) : okId ns z := by
  have := (List.getElem?_eq_some_iff.1 h.2).1
  have := h.1
  unfold okId; omega
theorem At.node {ns : List Nd} {z : Int} {x : Nd} (h : At ns z x) : nodeN ns z = (x, true) := by
  obtain ⟨y, e1, e2⟩ := nodeN_ok h.ok
  rw [e1]; rw [h.2] at e2; cases e2; rfl
theorem At.kind {ns : List Nd} {z : Int} {x : Nd} (h : At ns z x) : kindN ns z = x.k := by unfold kindN; rw [h.node]
theorem okId.at {ns : List Nd} {z : Int} (h : okId ns z) : ∃ x, At ns z x ∧ nodeN ns z = (x, true) := by
  obtain ⟨x, e1, e2⟩ := nodeN_ok h
  exact ⟨x, ⟨h.1, e2⟩, e1⟩
theorem At.pre {ns ns' : List Nd} (hp : ns <+: ns') {z : Int} {x : Nd} (h : At ns z x) : At ns' z x := by
  obtain ⟨t, rfl⟩ := hp
  exact ⟨h.1, by rw [List.getElem?_append_left (List.getElem?_eq_some_iff.1 h.2).1]; exact h.2⟩
theorem node_pre {ns ns' : List Nd} (hp : ns <+: ns') {z : Int} (h : okId ns z) : nodeN ns' z = nodeN ns z := by
  obtain ⟨x, h1, h2⟩ := h.at
  rw [(h1.pre hp).node, h2]
theorem kind_pre {ns ns' : List Nd} (hp : ns <+: ns') {z : Int} (h : okId ns z) : kindN ns' z = kindN ns z := by unfold kindN; rw [node_pre hp h]
theorem At.right {ns : List Nd} (hO : OkA ns) {z : Int} {x : Nd} (h : At ns z x) : rightN x z.toNat = true := hO.right _ _ h.2
theorem pN_have {ns : List Nd} (hO : OkA ns) {z : Int} {x : Nd} (h : At ns z x) : pN ns x = (ns, z) := by
  have hl := (List.getElem?_eq_some_iff.1 h.2).1
  have hr := right_mono (h.right hO) (Nat.le_of_lt hl)
  have hm : x ∈ ns := List.mem_of_getElem? h.2
  have hi : ns.idxOf x = z.toNat := by
    rw [← (List.getElem?_eq_some_iff.1 h.2).2]
    exact hO.nodup.idxOf_getElem _ hl
  have e : putN ns x = (ns, z.toNat, 0) := by
    unfold putN
    rw [if_neg (by rw [hr]; decide), if_pos hm, hi]
  unfold pN putI
  rw [e]
  simp only [if_true]
  congr 1
  have := h.1; omega
theorem pN_new {ns : List Nd} {x : Nd} (h : rightN x ns.length = true) (hm : x ∉ ns) (hn : ns.length < 20000) : pN ns x = (ns ++ [x], (ns.length : Int)) := by
  have e : putN ns x = (ns ++ [x], ns.length, 0) := by
    unfold putN
    rw [if_neg (by rw [h]; decide), if_neg hm, if_neg (by omega)]
  unfold pN putI
  rw [e]
  rfl
theorem at_new (ns : List Nd) (x : Nd) : At (ns ++ [x]) (ns.length : Int) x := ⟨by omega, by rw [Int.toNat_natCast, List.getElem?_append_right (Nat.le_refl _), Nat.sub_self]; rfl⟩
theorem pN_spec {ns : List Nd} (hO : OkA ns) {x : Nd} (h : rightN x ns.length = true) (hn : ns.length < 20000) :
    At (pN ns x).1 (pN ns x).2 x ∧ ((pN ns x).1 = ns ∨ (pN ns x).1 = ns ++ [x] ∧ x ∉ ns) := by
  by_cases hm : x ∈ ns
  · obtain ⟨i, hi, e⟩ := List.getElem_of_mem hm
    have hat : At ns (i : Int) x := ⟨by omega, by rw [Int.toNat_natCast, List.getElem?_eq_getElem hi, e]⟩
    rw [pN_have hO hat]
    exact ⟨hat, .inl rfl⟩
  · rw [pN_new h hm hn]
    exact ⟨at_new ns x, .inr ⟨rfl, hm⟩⟩
theorem pN_any {ns : List Nd} (hO : OkA ns) (x : Nd) : (pN ns x).2 = -1 ∧ (pN ns x).1 = ns ∨ At (pN ns x).1 (pN ns x).2 x := by
  by_cases h : rightN x ns.length = true
  · by_cases hm : x ∈ ns
    · right
      obtain ⟨i, hi, e⟩ := List.getElem_of_mem hm
      have hat : At ns (i : Int) x := ⟨by omega, by rw [Int.toNat_natCast, List.getElem?_eq_getElem hi, e]⟩
      rw [pN_have hO hat]
      exact hat
    · by_cases hn : ns.length < 20000
      · right; exact (pN_spec hO h hn).1
      · left
        have e : putN ns x = (ns, 0, 4) := by
          unfold putN
          rw [if_neg (by rw [h]; decide), if_neg hm, if_pos (by omega)]
        unfold pN putI
        rw [e]
        exact ⟨rfl, rfl⟩
  · left
    have e : putN ns x = (ns, 0, 1) := by
      unfold putN
      rw [if_pos (by cases hh : rightN x ns.length; rfl; exact absurd hh h)]
    unfold pN putI
    rw [e]
    exact ⟨rfl, rfl⟩
theorem gbytes_pre (g : Bool) (ns : List Nd) (l : List Int) : ns <+: (gbytesN g ns l).1 := by
  unfold gbytesN
  split
  · exact List.prefix_refl _
  · exact bytesN_pre _ _
theorem chain_pre (kd : Int) : ∀ (l : List Int) (ns : List Nd) (out : Int), ns <+: (chainN kd ns l out).1
  | [], ns, _ => List.prefix_refl _
  | z :: l, ns, out => (pN_pre ns _).trans (chain_pre kd l _ _)
theorem chainR_pre (kd : Int) (ns : List Nd) (no : Int) (l : List Int) : ns <+: (chainR kd ns no l).1 := by
  cases l with
  | nil => exact List.prefix_refl _
  | cons z l => exact chain_pre kd l ns z
theorem rest_pre (g : Bool) (ns : List Nd) (l : List Int) (no wi : Int) : ns <+: (restN g ns l no wi).1 := by
  unfold restN
  split
  · exact List.prefix_refl _
  · exact chainR_pre _ _ _ _
theorem gput_pre (g : Bool) (ns : List Nd) (l : List Int) : ns <+: (gputN g ns l).1 := by
  unfold gputN
  split
  · exact List.prefix_refl _
  · exact (nothing_pre g ns).trans ((wins_pre g _).trans ((gbytes_pre g _ _).trans (rest_pre g _ _ _ _)))
theorem catF_pre : ∀ (k : Nat) (ns : List Nd) (x y : Int), ns <+: (catF k ns x y).1
  | 0, ns, x, y => List.prefix_refl _
  | k + 1, ns, x, y => by
    rw [catF]
    split
    · split
      · exact none_pre ns
      split
      · exact List.prefix_refl _
      split
      · exact List.prefix_refl _
      split
      · exact (catF_pre k _ _ _).trans (catF_pre k _ _ _)
      · exact pN_pre _ _
    · exact List.prefix_refl _
theorem notN_pre (ns : List Nd) (x : Int) : ns <+: (notN ns x).1 := by
  unfold notN
  split
  · split
    · exact List.prefix_refl _
    · exact pN_pre _ _
  · exact List.prefix_refl _
theorem starN_pre (ns : List Nd) (x : Int) : ns <+: (starN ns x).1 := by
  unfold starN
  split
  · split
    · exact pN_pre _ _
    split
    · exact List.prefix_refl _
    · exact pN_pre _ _
  · exact List.prefix_refl _
inductive Mb (ns : List Nd) (kd : Int) : Int → Int → Prop
  | leaf {x : Int} : kindN ns x ≠ kd → Mb ns kd x x
  | a {x z : Int} : kindN ns x = kd → Mb ns kd (nodeN ns x).1.a z → Mb ns kd x z
  | b {x z : Int} : kindN ns x = kd → Mb ns kd (nodeN ns x).1.b z → Mb ns kd x z
theorem Mb.kind {ns : List Nd} {kd x z : Int} (h : Mb ns kd x z) : kindN ns z ≠ kd := by
  induction h with
  | leaf h => exact h
  | a _ _ ih => exact ih
  | b _ _ ih => exact ih
theorem get! {l : List Int} {j : Nat} (h : j < l.length) : l.toArray[j]! = l[j] := by simp [getElem!_pos, h]
theorem compact_mem' {l : List Int} {z : Int} : z ∈ l → z ∈ Lib.compact l := by
  intro h
  have hex : ∃ j, j < l.length ∧ l.toArray[j]! = z := by
    obtain ⟨j, hj, e⟩ := List.getElem_of_mem h
    exact ⟨j, hj, by rw [get! hj, e]⟩
  obtain ⟨j, ⟨hj, e⟩, hmin⟩ : ∃ j, (j < l.length ∧ l.toArray[j]! = z) ∧ ∀ i, i < j → ¬ (i < l.length ∧ l.toArray[i]! = z) := by
    obtain ⟨j0, h0⟩ := hex
    induction j0 using Nat.strongRecOn with
    | ind j0 ih =>
      by_cases hm : ∃ i, i < j0 ∧ (i < l.length ∧ l.toArray[i]! = z)
      · obtain ⟨i, hi, h1⟩ := hm; exact ih i hi h1
      · exact ⟨j0, h0, fun i hi h1 => hm ⟨i, hi, h1⟩⟩
  unfold Lib.compact Lib.compactUpTo
  refine List.mem_map.2 ⟨j, List.mem_filter.2 ⟨List.mem_range.2 hj, ?_⟩, e⟩
  unfold Lib.keeps
  refine decide_eq_true ?_
  by_cases h0 : j = 0
  · exact .inl h0
  · right
    intro e2
    exact hmin (j - 1) (by omega) ⟨by omega, by rw [← e2, e]⟩
theorem compact_lt {l : List Int} (h : l.Pairwise (· ≤ ·)) : (Lib.compact l).Pairwise (· < ·) := by
  unfold Lib.compact Lib.compactUpTo
  rw [List.pairwise_map]
  have hp : ((List.range l.length).filter (Lib.keeps l.toArray)).Pairwise (· < ·) := List.pairwise_lt_range.filter _
  refine hp.imp_of_mem fun {a b} ha hb hab => ?_
  have ha' := List.mem_range.1 (List.mem_filter.1 ha).1
  have hb' := List.mem_range.1 (List.mem_filter.1 hb).1
  have hk := (List.mem_filter.1 hb).2
  unfold Lib.keeps at hk
  have hk := of_decide_eq_true hk
  rw [get! ha', get! hb']
  rw [List.pairwise_iff_getElem] at h
  rcases hk with h0 | hk
  · omega
  · rw [get! hb', get! (by omega : b - 1 < l.length)] at hk
    have h1 : l[b - 1] ≤ l[b] := h (b - 1) b (by omega) hb' (by omega)
    have h2 : l[a] ≤ l[b - 1] := by
      by_cases e : a = b - 1
      · subst e; exact Int.le_refl _
      · exact h a (b - 1) ha' (by omega) (by omega)
    omega
theorem sortI_le (l : List Int) : (sortI l).Pairwise (· ≤ ·) := by
  unfold sortI
  have := List.pairwise_mergeSort (le := fun x y : Int => decide (x ≤ y)) (fun a b c h1 h2 => by simp only [decide_eq_true_eq] at *; omega) (fun a b => by simp only [Bool.or_eq_true, decide_eq_true_eq]; omega) l
  exact this.imp fun h => of_decide_eq_true h
end Go.Proofs.YtaooenndoopgdaaGreatDoor.ar
namespace Go.Proofs.YtaooenndoopgdaaGreatDoor.ar
open Go Go.Ev Go.Proofs
def chF (ns : List Nd) (kd : Int) : Nat → Int → List Int
  | 0, x => [x]
  | k + 1, x => if kindN ns x = kd then (nodeN ns x).1.a :: chF ns kd k (nodeN ns x).1.b else [x]
def chN (ns : List Nd) (kd x : Int) : List Int := chF ns kd (x.toNat + 1) x
theorem parts_lt {ns : List Nd} (hO : OkA ns) {x : Int} (h : okId ns x) (hk : kindN ns x = 3 ∨ kindN ns x = 4 ∨ kindN ns x = 5) :
    (okId ns (nodeN ns x).1.a ∧ (nodeN ns x).1.a < x) ∧ (okId ns (nodeN ns x).1.b ∧ (nodeN ns x).1.b < x) := by
  obtain ⟨p, e⟩ := okId_parts hO h hk
  obtain ⟨n, e1, e2⟩ := nodeN_ok h
  unfold kindN at hk
  rw [e1] at hk p e ⊢
  have := (right_lt (hO.right _ n e2)).1 hk
  have := h.1
  simp only at *
  exact ⟨⟨p, by omega⟩, e, by omega⟩
structure Lst (ns : List Nd) (kd : Int) (l : List Int) : Prop where
  ok : ∀ z ∈ l, okId ns z
  lt : l.Pairwise (· < ·)
  kind : ∀ z ∈ l, kindN ns z ≠ kd
  none : ∀ z ∈ l, z ≠ 0
  all : ∀ z ∈ l, z ≠ 2
  one : ∀ z ∈ l, ∀ y ∈ l, kindN ns z = 2 → kindN ns y = 2 → z = y
def NmX (ns : List Nd) (x : Nd) : Prop :=
  (x.k = 2 → setOf x ≠ z4) ∧
  (x.k = 3 → (kindN ns x.a ≠ 0 ∧ kindN ns x.a ≠ 1 ∧ kindN ns x.a ≠ 3) ∧ kindN ns x.b ≠ 0 ∧ kindN ns x.b ≠ 1) ∧
  (x.k = 4 ∨ x.k = 5 → Lst ns x.k (x.a :: chN ns x.k x.b)) ∧
  (x.k = 6 → kindN ns x.a ≠ 6) ∧
  (x.k = 7 → kindN ns x.a ≠ 0 ∧ kindN ns x.a ≠ 1 ∧ kindN ns x.a ≠ 7)
structure Nm (ns : List Nd) : Prop where
  ok : OkA ns
  n0 : At ns 0 (ndK 0)
  n1 : At ns 1 (ndK 1)
  n2 : At ns 2 (ndP 6 0 0)
  nm : ∀ z x, At ns z x → NmX ns x
theorem Nm.none {ns : List Nd} (h : Nm ns) : noneN ns = (ns, 0) := pN_have h.ok h.n0
theorem Nm.all {ns : List Nd} (h : Nm ns) : allN ns = (ns, 2) := by
  have e : pN ns (ndK 0) = (ns, 0) := h.none
  have e2 : putI ns (ndK 0) = 0 := congrArg Prod.snd e
  have ea : allX ns = ndP 6 0 0 := by unfold allX ndP; rw [e2]
  unfold allN
  rw [h.none, ea]
  exact pN_have h.ok h.n2
end Go.Proofs.YtaooenndoopgdaaGreatDoor.ar
namespace Go.Proofs.YtaooenndoopgdaaGreatDoor.ar
open Go Go.Ev Go.Proofs
theorem one_lt {ns : List Nd} (hO : OkA ns) {x : Int} (h : okId ns x) (hk : kindN ns x = 6 ∨ kindN ns x = 7) : okId ns (nodeN ns x).1.a ∧ (nodeN ns x).1.a < x := by
  obtain ⟨n, e1, e2⟩ := nodeN_ok h
  unfold kindN at hk
  rw [e1] at hk ⊢
  have h1 := (right_lt (hO.right _ n e2)).2.1 hk
  have h2 := h.1
  have h3 := h.2
  simp only at *
  exact ⟨⟨by omega, by omega⟩, by omega⟩
def depF : Nat → List Nd → Int → Nat
  | 0, _, _ => 0
  | k + 1, ns, x => if kindN ns x = 3 ∨ kindN ns x = 4 ∨ kindN ns x = 5 then max (depF k ns (nodeN ns x).1.a) (depF k ns (nodeN ns x).1.b) + 1 else if kindN ns x = 6 ∨ kindN ns x = 7 then depF k ns (nodeN ns x).1.a + 1 else 0
def dep (ns : List Nd) (x : Int) : Nat := depF (x.toNat + 1) ns x
theorem depF_eq {ns : List Nd} (hO : OkA ns) : ∀ (k k' : Nat) (x : Int), okId ns x → x.toNat < k → x.toNat < k' → depF k ns x = depF k' ns x := by
  intro k
  induction k with
  | zero => intro k' x _ h; omega
  | succ k ih =>
    intro k' x hx h h'
    cases k' with
    | zero => omega
    | succ k' =>
      rw [depF, depF]
      split
      · rename_i hk
        obtain ⟨⟨p1, p2⟩, p3, p4⟩ := parts_lt hO hx hk
        have := hx.1
        have := p1.1
        have := p3.1
        rw [ih k' _ p1 (by omega) (by omega), ih k' _ p3 (by omega) (by omega)]
      · split
        · rename_i hk
          obtain ⟨p1, p2⟩ := one_lt hO hx hk
          have := hx.1
          have := p1.1
          rw [ih k' _ p1 (by omega) (by omega)]
        · rfl
theorem depF_dep {ns : List Nd} (hO : OkA ns) {k : Nat} {x : Int} (hx : okId ns x) (h : x.toNat < k) : depF k ns x = dep ns x := depF_eq hO _ _ x hx h (Nat.lt_succ_self _)
theorem dep_two {ns : List Nd} (hO : OkA ns) {x : Int} (hx : okId ns x) (hk : kindN ns x = 3 ∨ kindN ns x = 4 ∨ kindN ns x = 5) : dep ns (nodeN ns x).1.a < dep ns x ∧ dep ns (nodeN ns x).1.b < dep ns x := by
  obtain ⟨⟨p1, p2⟩, p3, p4⟩ := parts_lt hO hx hk
  have := hx.1
  have := p1.1
  have := p3.1
  have e : dep ns x = max (dep ns (nodeN ns x).1.a) (dep ns (nodeN ns x).1.b) + 1 := by
    conv => lhs; unfold dep
    rw [depF, if_pos hk, depF_dep hO p1 (by omega), depF_dep hO p3 (by omega)]
  rw [e]
  omega
theorem dep_one {ns : List Nd} (hO : OkA ns) {x : Int} (hx : okId ns x) (hk : kindN ns x = 6 ∨ kindN ns x = 7) : dep ns x = dep ns (nodeN ns x).1.a + 1 := by
  obtain ⟨p1, p2⟩ := one_lt hO hx hk
  have := hx.1
  have := p1.1
  conv => lhs; unfold dep
  rw [depF, if_neg (by omega), if_pos hk, depF_dep hO p1 (by omega)]
theorem dep_pre {ns ns' : List Nd} (hO : OkA ns) (hO' : OkA ns') (hp : ns <+: ns') : ∀ (k : Nat) (x : Int), okId ns x → depF k ns' x = depF k ns x := by
  intro k
  induction k with
  | zero => intro x _; rfl
  | succ k ih =>
    intro x hx
    rw [depF, depF, kind_pre hp hx, node_pre hp hx]
    split
    · rename_i hk
      obtain ⟨⟨p1, p2⟩, p3, p4⟩ := parts_lt hO hx hk
      rw [ih _ p1, ih _ p3]
    · split
      · rename_i hk
        rw [ih _ (one_lt hO hx hk).1]
      · rfl
theorem dep_grow {ns ns' : List Nd} (hO : OkA ns) (hO' : OkA ns') (hp : ns <+: ns') {x : Int} (hx : okId ns x) : dep ns' x = dep ns x := dep_pre hO hO' hp _ x hx
theorem dep_not {ns : List Nd} (hO : OkA ns) {x : Int} (hx : okId ns x) (hy : okId (notN ns x).1 (notN ns x).2) : dep (notN ns x).1 (notN ns x).2 ≤ dep ns x + 1 := by
  have hO' := notN_ok hO (okId_i64 hO.len hx)
  have hp := notN_pre ns x
  unfold notN at hy hO' hp ⊢
  rw [if_pos hx] at hy hO' hp ⊢
  by_cases h6 : kindN ns x = 6
  · rw [if_pos h6]
    have := dep_one hO hx (.inl h6)
    show dep ns (nodeN ns x).1.a ≤ _
    omega
  · rw [if_neg h6] at hy hO' hp ⊢
    rcases pN_any hO (ndP 6 x 0) with ⟨h1, -⟩ | hat
    · rw [h1] at hy
      have := hy.1; omega
    · have hk : kindN (pN ns (ndP 6 x 0)).1 (pN ns (ndP 6 x 0)).2 = 6 := hat.kind
      have e := dep_one hO' hy (.inl hk)
      rw [hat.node] at e
      have e2 : dep (pN ns (ndP 6 x 0)).1 x = dep ns x := dep_grow hO hO' hp hx
      show dep (pN ns (ndP 6 x 0)).1 (pN ns (ndP 6 x 0)).2 ≤ _
      have e3 : dep (pN ns (ndP 6 x 0)).1 (pN ns (ndP 6 x 0)).2 = dep (pN ns (ndP 6 x 0)).1 x + 1 := e
      omega
end Go.Proofs.YtaooenndoopgdaaGreatDoor.ar
namespace Go.Proofs.YtaooenndoopgdaaGreatDoor.ar
open Go Go.Ev Go.Proofs Go.Proofs.YtaooenndoopgdaaGreatDoor.tree
def catsN : List Nd → List Int → Int → List Nd × Int
  | ns, [], out => (ns, out)
  | ns, z :: l, out => catsN (catN ns z out).1 l (catN ns z out).2
def optN (x : Int) : Nat → List Nd → Int → List Nd × Int
  | 0, ns, out => (ns, out)
  | n + 1, ns, out => optN x n (orN (catN (emptyN ns).1 x out).1 [(emptyN ns).2, (catN (emptyN ns).1 x out).2]).1 (orN (catN (emptyN ns).1 x out).1 [(emptyN ns).2, (catN (emptyN ns).1 x out).2]).2
def repN (x : Int) : Nat → List Nd → Int → List Nd × Int
  | 0, ns, out => (ns, out)
  | n + 1, ns, out => repN x n (catN ns x out).1 (catN ns x out).2
def timesN (lo hi : Int) (ns : List Nd) (x : Int) : List Nd × Int :=
  let e := emptyN ns
  let s := if hi < 0 then starN e.1 x else e
  let o := optN x (hi - lo).toNat s.1 s.2
  repN x lo.toNat o.1 o.2
abbrev Bs := (List Nd × Int) × Int
def lookedN (ns : List Nd) (e : Int) (k : Int) (neg : Bool) : Bs := if k < 0 ∨ 4 ≤ k then (((noneN ns).1, 10), (noneN ns).2) else (((lookN ns k neg).1, e), (lookN ns k neg).2)
mutual
def bR (lk : Re → Int) : Re → List Nd → Int → Bs
  | .mk k s0 s1 s2 s3 rs lo hi neg, ns, e =>
    if k = 0 then (((noneN ns).1, e), (noneN ns).2)
    else if k = 1 then (((emptyN ns).1, e), (emptyN ns).2)
    else if k = 2 then (((bytesN ns ⟨s0, s1, s2, s3⟩).1, e), (bytesN ns ⟨s0, s1, s2, s3⟩).2)
    else if k = 3 then
      let p := bL lk rs (emptyN ns).1 e
      let c := catsN p.1.1 p.2.reverse (emptyN ns).2
      ((c.1, p.1.2), c.2)
    else if k = 4 then
      let p := bL lk rs ns e
      (((orN p.1.1 p.2).1, p.1.2), (orN p.1.1 p.2).2)
    else if k = 5 then
      let p := bL lk rs ns e
      (((andN p.1.1 p.2).1, p.1.2), (andN p.1.1 p.2).2)
    else if k = 6 then
      let p := bL lk rs ns e
      (((notN p.1.1 (p.2.headD 0)).1, p.1.2), (notN p.1.1 (p.2.headD 0)).2)
    else if k = 7 then
      let p := bL lk rs ns e
      (((timesN lo hi p.1.1 (p.2.headD 0)).1, p.1.2), (timesN lo hi p.1.1 (p.2.headD 0)).2)
    else lookedN ns e (lk (.mk k s0 s1 s2 s3 rs lo hi false)) neg
def bL (lk : Re → Int) : List Re → List Nd → Int → (List Nd × Int) × List Int
  | [], ns, e => ((ns, e), [])
  | r :: l, ns, e =>
    let p := bR lk r ns e
    let q := bL lk l p.1.1 p.1.2
    (q.1, p.2 :: q.2)
end
theorem bL_take (lk : Re → Int) : ∀ (rs : List Re) (ns : List Nd) (e : Int) (j : Nat) (h : j < rs.length), bL lk (rs.take (j + 1)) ns e =
    ((bR lk rs[j] (bL lk (rs.take j) ns e).1.1 (bL lk (rs.take j) ns e).1.2).1, (bL lk (rs.take j) ns e).2 ++ [(bR lk rs[j] (bL lk (rs.take j) ns e).1.1 (bL lk (rs.take j) ns e).1.2).2])
  | r :: l, ns, e, 0, h => by simp [bL]
  | r :: l, ns, e, j + 1, h => by
    simp only [List.take_succ_cons, bL, List.getElem_cons_succ]
    rw [bL_take lk l _ _ j (by simpa using h)]
    rfl
theorem bL_len (lk : Re → Int) : ∀ (rs : List Re) (ns : List Nd) (e : Int), (bL lk rs ns e).2.length = rs.length
  | [], ns, e => rfl
  | r :: l, ns, e => by simp only [bL, List.length_cons, bL_len lk l]
inductive InRe : Re → Prop
  | mk {k s0 s1 s2 s3 lo hi : Int} {neg : Bool} {rs : List Re} : InS ⟨s0, s1, s2, s3⟩ → (∀ p ∈ rs, InRe p) → InRe (.mk k s0 s1 s2 s3 rs lo hi neg)
theorem rep_in (r : Re) : ∀ {m : Mem} {cs : List Value}, RepRe m cs r → InRe r := by
  induction r using Re.ind with
  | h kd s0 s1 s2 s3 rs lo hi neg ih =>
    intro m cs h
    obtain ⟨A, n, c, rfl, hs, -, h0, h1, h2, h3, -⟩ := h.open
    refine .mk ⟨h0, h1, h2, h3⟩ fun p hp => ?_
    obtain ⟨i, hi, rfl⟩ := List.getElem_of_mem hp
    obtain ⟨a, cs', -, -, -, hr⟩ := hs.elem i _ (List.getElem?_eq_getElem hi)
    exact ih _ hp hr
def OkB (r : List Nd × Int) : Prop := OkA r.1 ∧ i64 r.2
theorem chain_i64 {kd : Int} : ∀ (l : List Int) (ns : List Nd) (out : Int), OkA ns → 0 ≤ kd ∧ kd ≤ 8 → (∀ z ∈ l, i64 z) → i64 out → i64 (chainN kd ns l out).2
  | [], _, _, _, _, _, h => h
  | z :: l, ns, out, hO, hk, hl, ho => chain_i64 l _ _ (okA_p hO (inN_P hk (hl z (by simp)) ho)) hk (fun y hy => hl y (by simp [hy])) (pN_i64 hO _)
theorem gput_i64 {ns : List Nd} (hO : OkA ns) (g : Bool) (l : List Int) : i64 (gputN g ns l).2 := by
  unfold gputN
  split
  · simp [i64]
  · rename_i ht
    have ht := there_ok ht
    have h2 := okA_wins (okA_nothing hO g) g
    have hpre := (nothing_pre g ns).trans (wins_pre g (nothingN g ns).1)
    have hw := wins_i64 (okA_nothing hO g) g
    have hno := nothing_i64 hO g
    generalize (winsN g (nothingN g ns).1).1 = ns2 at h2 hpre
    have hm := memN_ok h2 (kdG_or g) fun z hz => okId_pre hpre (ht z hz)
    have h3 := okA_gbytes h2 g (memN ns2 (kdG g) l)
    have hi := gbytes_i64 h2 g hm
    unfold restN
    split
    · exact hw
    · have hx : ∀ z ∈ (Lib.compact (sortI (dropI (nothingN g ns).2 (gbytesN g ns2 (memN ns2 (kdG g) l)).2))).reverse, i64 z := fun z hz => hi z (csd_mem (List.mem_reverse.1 hz))
      generalize (Lib.compact (sortI (dropI (nothingN g ns).2 (gbytesN g ns2 (memN ns2 (kdG g) l)).2))).reverse = xs at hx
      cases xs with
      | nil => exact hno
      | cons z xs => exact chain_i64 xs _ z h3 (kdG_le g) (fun y hy => hx y (by simp [hy])) (hx z (by simp))
theorem okB_or {ns : List Nd} (h : OkA ns) (g : Bool) (l : List Int) : OkB (gputN g ns l) := ⟨okA_gput h g l, gput_i64 h g l⟩
theorem okB_cat {ns : List Nd} (h : OkA ns) {x y : Int} (hx : i64 x) (hy : i64 y) : OkB (catN ns x y) := catF_i64 _ h hx hy
theorem okB_empty {ns : List Nd} (h : OkA ns) : OkB (emptyN ns) := ⟨okA_empty h, pN_i64 h _⟩
theorem okB_none {ns : List Nd} (h : OkA ns) : OkB (noneN ns) := ⟨okA_none h, pN_i64 h _⟩
theorem okB_not {ns : List Nd} (h : OkA ns) {x : Int} (hx : i64 x) : OkB (notN ns x) := by
  refine ⟨notN_ok h hx, ?_⟩
  unfold notN
  split
  · split
    · exact (nodeN_in h x).a
    · exact pN_i64 h _
  · simp [i64]
theorem okB_star {ns : List Nd} (h : OkA ns) {x : Int} (hx : i64 x) : OkB (starN ns x) := by
  refine ⟨starN_ok h hx, ?_⟩
  unfold starN
  split
  · split
    · exact pN_i64 h _
    split
    · exact hx
    · exact pN_i64 h _
  · simp [i64]
theorem okB_cats : ∀ (l : List Int) {ns : List Nd} {out : Int}, OkA ns → (∀ z ∈ l, i64 z) → i64 out → OkB (catsN ns l out)
  | [], _, _, h, _, ho => ⟨h, ho⟩
  | z :: l, ns, out, h, hl, ho => by
    have := okB_cat h (hl z (by simp)) ho
    exact okB_cats l this.1 (fun y hy => hl y (by simp [hy])) this.2
theorem okB_opt {x : Int} (hx : i64 x) : ∀ (n : Nat) {ns : List Nd} {out : Int}, OkA ns → i64 out → OkB (optN x n ns out)
  | 0, _, _, h, ho => ⟨h, ho⟩
  | n + 1, ns, out, h, ho => by
    have h1 := okB_cat (okA_empty h) hx ho
    have h2 := okB_or h1.1 false [(emptyN ns).2, (catN (emptyN ns).1 x out).2]
    exact okB_opt hx n h2.1 h2.2
theorem okB_rep {x : Int} (hx : i64 x) : ∀ (n : Nat) {ns : List Nd} {out : Int}, OkA ns → i64 out → OkB (repN x n ns out)
  | 0, _, _, h, ho => ⟨h, ho⟩
  | n + 1, ns, out, h, ho => by
    have h1 := okB_cat h hx ho
    exact okB_rep hx n h1.1 h1.2
theorem okB_times {ns : List Nd} (h : OkA ns) (lo hi : Int) {x : Int} (hx : i64 x) : OkB (timesN lo hi ns x) := by
  unfold timesN
  have h1 := okB_empty h
  have h2 : OkB (if hi < 0 then starN (emptyN ns).1 x else emptyN ns) := by
    split
    · exact okB_star h1.1 hx
    · exact h1
  have h3 := okB_opt hx (hi - lo).toNat h2.1 h2.2
  exact okB_rep hx lo.toNat h3.1 h3.2
theorem okB_looked {ns : List Nd} (h : OkA ns) (e k : Int) (neg : Bool) : OkB ((lookedN ns e k neg).1.1, (lookedN ns e k neg).2) := by
  unfold lookedN
  split
  · exact okB_none h
  · rename_i hk
    exact ⟨okA_p h ⟨by simp [i64], by simp [u64], by simp [u64], by simp [u64], by simp [u64], by unfold i64; simp only; omega, by simp [i64]⟩, pN_i64 h _⟩
mutual
theorem okB_R (lk : Re → Int) : ∀ (r : Re), InRe r → ∀ (ns : List Nd) (e : Int), OkA ns → OkB ((bR lk r ns e).1.1, (bR lk r ns e).2)
  | .mk k s0 s1 s2 s3 rs lo hi neg, hr, ns, e, h => by
    have hs : InS ⟨s0, s1, s2, s3⟩ := by cases hr; assumption
    have hp : ∀ p ∈ rs, InRe p := by cases hr; assumption
    have hL := okB_L lk rs hp
    rw [bR]
    split
    · exact okB_none h
    split
    · exact okB_empty h
    split
    · exact ⟨okA_bytes h hs, bytesN_i64 h _⟩
    split
    · have h1 := hL (emptyN ns).1 e (okA_empty h)
      exact okB_cats _ h1.1 (fun z hz => h1.2 z (List.mem_reverse.1 hz)) (pN_i64 h _)
    split
    · have h1 := hL ns e h
      exact okB_or h1.1 false _
    split
    · have h1 := hL ns e h
      exact okB_or h1.1 true _
    have hh : ∀ (l : List Int), (∀ z ∈ l, i64 z) → i64 (l.headD 0) := fun l hl => by
      cases l with
      | nil => simp [i64]
      | cons z l => exact hl z (by simp)
    split
    · have h1 := hL ns e h
      exact okB_not h1.1 (hh _ h1.2)
    split
    · have h1 := hL ns e h
      exact okB_times h1.1 lo hi (hh _ h1.2)
    · exact okB_looked h e _ neg
theorem okB_L (lk : Re → Int) : ∀ (l : List Re), (∀ p ∈ l, InRe p) → ∀ (ns : List Nd) (e : Int), OkA ns → OkA (bL lk l ns e).1.1 ∧ ∀ z ∈ (bL lk l ns e).2, i64 z
  | [], _, ns, e, h => ⟨h, by simp [bL]⟩
  | r :: l, hl, ns, e, h => by
    have h1 := okB_R lk r (hl r (by simp)) ns e h
    have h2 := okB_L lk l (fun p hp => hl p (by simp [hp])) (bR lk r ns e).1.1 (bR lk r ns e).1.2 h1.1
    rw [bL]
    refine ⟨h2.1, fun z hz => ?_⟩
    rcases List.mem_cons.1 hz with rfl | hz
    · exact h1.2
    · exact h2.2 z hz
end
end Go.Proofs.YtaooenndoopgdaaGreatDoor.ar
