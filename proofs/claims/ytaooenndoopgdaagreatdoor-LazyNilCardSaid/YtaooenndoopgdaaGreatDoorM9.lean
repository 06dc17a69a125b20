/- LazyNil, proved: a nil machine has nothing. Conditions: none beyond the row its own.: part 9 of 12 of the proof. Conditions: none. -/
import Derived.Test.YtaooenndoopgdaaGreatDoorM8
import Derived.Test.YtaooenndoopgdaaGreatDoorM7
import Derived.Test.YtaooenndoopgdaaGreatDoorM4
import Derived.Test.YtaooenndoopgdaaGreatDoorM5
namespace Go.Proofs.YtaooenndoopgdaaGreatDoor.fo
open Go Go.Ev Go.Proofs
theorem clone_fn (m : Mem) (v : Value) (l : List Int) (hl : SlI m .i64 v l) (hb : l.length ≤ 1000000) :
    Ev.Fn Tryz.prog 227 [v] m [] fun m' L' u => m' = m ∧ OwnS 3 1 u (ints .i64 l) L' := by
  obtain ⟨A, n, c, rfl, hn, hc, hm, -⟩ := id hl
  cases A with
  | none =>
    have hl0 := hl.none_nil
    subst hl0
    refine Fn.enter (N := 8) hX Tryz.func227 rfl rfl (by show _ ≤ _; simp) (fun w0 hL => ?_)
    conv => whnf
    refine go ?_; try (clear hL; intro w hL)
    exact RetReq.mk hL ⟨rfl, OwnS.nil _ _⟩
  | some a =>
    refine Fn.enter (N := 8) hX Tryz.func227 rfl rfl (by show _ ≤ _; simp) (fun w0 hL => ?_)
    conv => whnf
    refine go ?_; try (clear hL; intro w hL)
    refine NewReq.mk hL ?_
    clear hL
    intro g w hL
    conv => whnf
    replace hL : Ev.Loc m [] w0 m ([(g, .cells (toArr []) 3 (0, 0))] ++ []) w := hL
    refine RunReq.append hX 53 3 rfl rfl rfl rfl rfl (OwnS.full (n := 0) (by omega) rfl) hL (hl.src hL).1 (hl.src hL).2 (ints_one _ _) (by simp only [ints, List.length_map, List.length_nil]; omega) rfl ?_
    clear hL
    intro A2 n2 c2 L2 w hn2 ho hL
    rw [List.append_nil] at hL
    refine go ?_; try (clear hL; intro w hL)
    exact RetReq.mk hL ⟨rfl, ho⟩
theorem hd_freeze {m0 m : Mem} {S : List Nat} {w0 w : World} {v : Value} {us : List Value} {f : Fml} {L1 L2 : Ev.Own} (h : OwnS 53 1 v us L1) (hH : HdF m us f) (hL : Ev.Loc m0 S w0 m (L1 ++ L2) w) : ∃ m', Ev.Loc m0 S w0 m' L2 w ∧ Mem.Le m m' ∧ FmV m' v f :=
  fm_freeze h hL hH.1.symm hH.2
theorem hd_one {m : Mem} {u : Value} {p : Prt} (h : SlI m .i64 u p) : HdF m [u] [p] := ⟨rfl, fun i x hx => by
  cases i with
  | zero => cases hx; exact ⟨_, rfl, h⟩
  | succ i => cases hx⟩
set_option maxHeartbeats 2000000 in
theorem formed_fn (m : Mem) (u : Value) (us : List Value) (f : Fml) (L1 : Ev.Own) (ho : OwnS 53 1 u us L1) (hH : HdF m us f) (hb : f.length ≤ 100000) (hp : ∀ p ∈ f, p.length ≤ 100000) (hr : ∀ p ∈ f, Rises p) :
    Ev.Fn Tryz.prog 189 [u] m L1 fun m' L' v => L' = [] ∧ ∃ r, Canon f r ∧ FmV m' v r := by
  have hmx : maxLen = 9223372036854775807 := rfl
  obtain ⟨A, n, c, rfl, hn⟩ := ho.slice
  refine Fn.enter (N := 25) hX Tryz.func189 rfl rfl (by show _ ≤ _; simp) (fun w0 hL => ?_)
  conv => whnf
  generalize keys L1 = S0 at hL ⊢
  rw [← List.append_nil L1] at hL
  refine go ?_; try (clear hL; intro w hL)
  refine CallReq.mk (L1 := L1) (L2 := []) (sortF_fn m A n c us f L1 ho hH (by omega)) hL ?_
  clear hL
  rintro u mx L2 w hL - ⟨hmx2, rfl, us2, d, ho2, hH2, hperm, hsort⟩
  rw [hmx2] at hL
  clear hmx2 mx ho hH
  obtain ⟨m1, hL1, hm1, hfd⟩ := hd_freeze ho2 hH2 hL
  clear hL
  have hL := hL1
  clear hL1
  have hrd : ∀ p ∈ d, Rises p := fun p h => hr p (hperm.mem_iff.1 h)
  have hpd : ∀ p ∈ d, p.length ≤ 100000 := fun p h => hp p (hperm.mem_iff.1 h)
  have hdl := hperm.length_eq
  have hcan := (mini_canon hrd hsort).perm hperm
  have hfd' := hfd
  obtain ⟨A', n', c', e, hnd, hcd, hmd, -⟩ := hfd'
  injection e with e1 e2 e3
  subst e1 e2 e3
  refine go ?_; try (clear hL; intro w hL)
  refine LoopReq.inv hX (fun s : Nat × Option Addr × Nat × Nat => [(3, .slice s.2.1 s.2.2.1 s.2.2.2), (10, .int .i64 s.1)]) [8, 9]
    (fun s w => s.1 ≤ d.length ∧ ∃ m2 us L2, Mem.Le m1 m2 ∧ OwnS 53 1 (.slice s.2.1 s.2.2.1 s.2.2.2) us L2 ∧ HdF m2 us (mini (d.take s.1)) ∧ Ev.Loc m S0 w0 m2 L2 w) (fun s => d.length - s.1) (0, none, 0, 0)
    ⟨Nat.zero_le _, m1, [], [], Mem.Le.refl _, OwnS.nil _ _, HdF.nil _, hL⟩ ⟨rfl, rfl, trivial⟩ ?_
  clear hL
  rintro ⟨j, B, bn, bc⟩ w g ⟨hj, m2, us3, L3, hm12, ho3, hH3, hL⟩
  simp only at hj ho3 hH3
  refine go ?_; try (clear hL; intro w hL)
  refine BrReq.dec (fun hlt => ?_) (fun hlt => ?_)
  rotate_left
  · have ej : j = d.length := by simp only at hlt; omega
    subst ej
    rw [List.take_length] at hH3
    refine go ?_; try (clear hL; intro w hL)
    rw [← List.append_nil L3] at hL
    obtain ⟨m3, hL3, hm23, hf3⟩ := hd_freeze ho3 hH3 hL
    exact RetReq.mk hL3 ⟨rfl, _, hcan, hf3⟩
  have hj1 : j < d.length := by simp only at hlt; omega
  obtain ⟨a, A5, n5, c5, ea, hcell, hpq⟩ := (hfd.le hm12).at_ hj1
  conv => whnf
  repeat ((first | (refine Idx2Req.mk j a rfl (by simp only at hlt; omega) ea ?_) | refine LdReq.one hX rfl rfl hL hcell ?_ | (refine go1 ?_; try (clear hL; intro w hL))); conv => whnf)
  refine NewReq.mk hL ?_
  clear hL
  intro b5 w hL
  conv => whnf
  replace hL : Ev.Loc m S0 w0 m2 ((b5, .cells (toArr [.slice none 0 0]) 53 (0, 0)) :: L3) w := hL
  refine gos ?_; try (clear hL; intro w hL)
  replace hL : Ev.Loc m S0 w0 m2 ((b5, .cells (toArr [.slice A5 n5 c5]) 53 (0, 0)) :: L3) w := hL
  have hm23 := hL.le_add
  have hL := hL.freeze
  have hc5 : mcell (m2.add b5 (.cells (toArr [.slice A5 n5 c5]) 53 (0, 0))) ⟨b5, 0, none⟩ = some (.slice A5 n5 c5) := mcell_add rfl
  generalize (m2.add b5 (.cells (toArr [.slice A5 n5 c5]) 53 (0, 0))) = m3 at *
  have hL4 := hL
  rw [← List.append_nil L3] at hL4
  obtain ⟨mm, hLm, hmm, hfo⟩ := hd_freeze ho3 (hH3.le hm23) hL4
  have hcc := containsM_fn mm _ (mini (d.take j)) b5 A5 n5 c5 d[j] hfo (hpq.le' (hm23.trans hmm)) (mcell_le hmm hc5)
  clear hL4
  refine go ?_; try (clear hL; intro w hL)
  refine CallReq.lend hcc hLm.sub hL ?_
  clear hL hLm hcc hfo hmm mm
  intro w hL
  have htk : mini (d.take (j + 1)) = addM (mini (d.take j)) d[j] := by rw [take_succ' hj1, mini_snoc]
  unfold addM at htk
  have hp3 := hpq.le' hm23
  have hH4 := hH3.le hm23
  cases hany : ((mini (d.take j)).any fun q => q.isSublist d[j]) with
  | true =>
    rw [hany, if_pos rfl] at htk
    rw [← htk] at hH4
    refine go ?_; try (clear hL; intro w hL)
    refine ⟨(j + 1, B, bn, bc), ⟨by simp only; omega, m3, us3, L3, hm12.trans hm23, ho3, hH4, hL⟩, by first | omega | (simp only; omega) | (simp only [List.length_cons, List.length_append]; omega), ?_, ?_⟩
    · repeat (first | exact trivial | (refine And.intro (by (conv => lhs; whnf) <;> (conv => rhs; whnf) <;> (first | rfl)) ?_))
    · repeat (first | exact trivial | (refine And.intro (by (conv => lhs; whnf) <;> (conv => rhs; whnf) <;> (first | rfl)) ?_))
  | false =>
    rw [hany, if_neg (by decide)] at htk
    have hlen := lenF hH4
    have hml : (mini (d.take j)).length ≤ d.length := by
      have : ∀ k, k ≤ d.length → (mini (d.take k)).length ≤ k := fun k => by
        induction k with
        | zero => intro _; simp [mini]
        | succ k ih =>
          intro hk
          rw [take_succ' (by omega), mini_snoc]
          unfold addM
          have := ih (by omega)
          split
          · omega
          · rw [List.length_append, List.length_singleton]; omega
      have := this j hj; omega
    conv => whnf
    repeat ((first | refine LdReq.one hX rfl rfl hL hc5 ?_ | (refine go1 ?_; try (clear hL; intro w hL))); conv => whnf)
    refine CallReq.mk (L1 := []) (clone_fn m3 _ _ hp3 (by have := hpd _ (List.getElem_mem hj1); omega)) hL ?_
    clear hL
    rintro u mx Lx w hL - ⟨hmx2, hox⟩
    rw [hmx2] at hL
    clear hmx2 mx
    obtain ⟨m4, hL4, hm34, hs4⟩ := OwnS.freeze hox hL
    clear hL
    have hL := hL4
    clear hL4
    obtain ⟨C, cn, cc, rfl, -⟩ := id hs4
    refine go ?_; try (clear hL; intro w hL)
    refine NewReq.mk hL ?_
    clear hL
    intro b21 w hL
    conv => whnf
    replace hL : Ev.Loc m S0 w0 m4 ((b21, .cells (toArr [.slice C cn cc]) 53 (0, 0)) :: (L3 ++ [])) w := by rw [List.append_nil]; exact hL
    refine go ?_; try (clear hL; intro w hL)
    refine RunReq.push hX 88 53 rfl rfl rfl rfl rfl ho3 (L2 := []) hL rfl rfl (by show _ + 1 ≤ _; omega) rfl ?_
    clear hL
    intro A6 n6 c6 L6 w hn6 ho6 hL
    rw [List.append_nil] at hL
    have hH6 := (hH4.le hm34).app (hd_one hs4)
    rw [← htk] at hH6
    refine go ?_; try (clear hL; intro w hL)
    refine ⟨(j + 1, A6, n6, c6), ⟨by simp only; omega, m4, _, L6, hm12.trans (hm23.trans hm34), ho6, hH6, hL⟩, by first | omega | (simp only; omega) | (simp only [List.length_cons, List.length_append]; omega), ?_, ?_⟩
    · repeat (first | exact trivial | (refine And.intro (by (conv => lhs; whnf) <;> (conv => rhs; whnf) <;> (first | rfl)) ?_))
    · repeat (first | exact trivial | (refine And.intro (by (conv => lhs; whnf) <;> (conv => rhs; whnf) <;> (first | rfl)) ?_))
theorem pair_fs {m0 m : Mem} {S : List Nat} {w0 w : World} {b : Nat} {v1 v2 : Value} {f g : Fml} {L : Ev.Own} (h1 : FmV m v1 f) (h2 : FmV m v2 g) (hL : Ev.Loc m0 S w0 m ((b, .cells (toArr [v1, v2]) 88 (0, 0)) :: L) w) :
    ∃ m', Ev.Loc m0 S w0 m' L w ∧ Mem.Le m m' ∧ FsV m' (.slice (some ⟨b, 0, none⟩) 2 2) [f, g] := by
  obtain ⟨m1, hL1, hm1, hfs⟩ := freeze1 (l := [f, g]) (R := fun u x => FmV m u x) (L2 := L) (OwnS.full (te := 88) (g := b) (n := 2) (cur := [v1, v2]) (by decide) rfl) hL rfl (by
    intro i x hx
    match i, hx with
    | 0, hx => cases hx; exact ⟨_, rfl, h1⟩
    | 1, hx => cases hx; exact ⟨_, rfl, h2⟩
    | i + 2, hx => cases hx)
  exact ⟨m1, hL1, hm1, Sl.le hfs (Mem.Le.refl _) fun _ _ _ ⟨u, e, h⟩ => ⟨u, e, h.le hm1⟩⟩
theorem pair_flat (f g : Fml) : ([f, g] : List Fml).flatten = f ++ g := by simp
structure Sm (A : Prt) (f : Fml) : Prop where
  formed : FormedP f
  in_ : In A f
theorem Sm.len {A : Prt} (hA : A.length ≤ 9) {f : Fml} (h : Sm A f) : f.length ≤ 126 := anti_le hA h.formed h.in_
end Go.Proofs.YtaooenndoopgdaaGreatDoor.fo
namespace Go.Proofs.YtaooenndoopgdaaGreatDoor.fo
open Go Go.Ev Go.Proofs
theorem true_fn (m : Mem) : Fn0 Tryz.prog 117 [] m fun m' u => FmV m' u [[]] := by
  refine Fn.enter (N := 3) hX Tryz.func117 rfl rfl (by show _ ≤ _; simp) (fun w0 hL => ?_)
  conv => whnf
  refine go ?_; try (clear hL; intro w hL)
  refine NewReq.mk hL ?_
  clear hL
  intro b1 w hL
  conv => whnf
  refine NewReq.mk hL ?_
  clear hL
  intro b2 w hL
  conv => whnf
  replace hL : Ev.Loc m [] w0 m ([(b2, .cells (toArr [.slice (some ⟨b1, 0, none⟩) 0 0]) 53 (0, 0))] ++ [(b1, .cells (toArr []) 3 (0, 0))]) w := hL
  have hs : SlI m .i64 (.slice (some ⟨b1, 0, none⟩) 0 0) [] := ⟨_, _, _, rfl, rfl, Nat.le_refl _, Nat.zero_le _, fun i x hx => by cases hx⟩
  obtain ⟨m1, hL1, hle1, hf1⟩ := fm_freeze (f := [[]]) (OwnS.full (n := 1) (by decide) rfl) hL rfl (by
    intro i p hp
    cases i with
    | zero => cases hp; exact ⟨_, rfl, hs⟩
    | succ i => cases hp)
  refine go ?_; try (clear hL; intro w hL)
  exact RetReq.mk (hL1.sublist (List.nil_sublist _)) ⟨rfl, hf1⟩
theorem false_fn (m : Mem) : FnV Tryz.prog 116 [] m (.slice none 0 0) := by
  refine Fn.enter (N := 1) hX Tryz.func116 rfl rfl (by show _ ≤ _; simp) (fun w0 hL => ?_)
  conv => whnf
  refine go ?_; try (clear hL; intro w hL)
  exact RetReq.mk hL ⟨rfl, rfl⟩
end Go.Proofs.YtaooenndoopgdaaGreatDoor.fo
namespace Go.Proofs.YtaooenndoopgdaaGreatDoor.fo
open Go Go.Ev Go.Proofs
structure FB (N : Nat) (f : Fml) : Prop where
  formed : FormedP f
  len : f.length ≤ 200
  lt : ∀ p ∈ f, ∀ n ∈ p, n < N
theorem FB.nil (N : Nat) : FB N [] := ⟨FormedP.nil, Nat.zero_le _, fun p hp => by cases hp⟩
theorem FB.mono {N M : Nat} {f : Fml} (h : FB N f) (hNM : N ≤ M) : FB M f := ⟨h.formed, h.len, fun p hp n hn => by have := h.lt p hp n hn; omega⟩
theorem part_len {N : Nat} {p : Prt} (hp : Rises p) (h : ∀ n ∈ p, n < (N : Int)) : p.length ≤ N := by
  have := rises_len (A := (List.range N).map Int.ofNat) hp fun n hn => by
    refine List.mem_map.2 ⟨n.toNat, List.mem_range.2 ?_, ?_⟩
    · have := h n hn; have := hp.1 n hn; omega
    · have := hp.1 n hn; show ((n.toNat : Nat) : Int) = n; omega
  simpa using this
theorem FB.part {N : Nat} {f : Fml} (h : FB N f) {p : Prt} (hp : p ∈ f) : p.length ≤ N := part_len (h.formed.rises p hp) (h.lt p hp)
theorem fewG_fn (m : Mem) (v : Value) (f : Fml) (h : FmV m v f) (hb : f.length ≤ 100000) : FnV Tryz.prog 192 [v] m (if f.length ≤ 200 then .tuple (toArr [v, .int .i64 0]) else .tuple (toArr [.slice none 0 0, .int .i64 4])) := by
  obtain ⟨A, n, c, rfl, hn, -⟩ := id h
  subst hn
  refine Fn.enter (N := 8) hX Tryz.func192 rfl rfl (by show _ ≤ _; simp) (fun w0 hL => ?_)
  conv => whnf
  by_cases hl : f.length ≤ 200
  · rw [if_pos hl]
    conv => whnf
    repeat ((first | refine BrReq.no (by omega) ?_ | (refine go1 ?_; try (clear hL; intro w hL))); conv => whnf)
    exact RetReq.mk hL ⟨rfl, rfl⟩
  · rw [if_neg hl]
    conv => whnf
    repeat ((first | refine BrReq.yes (by omega) ?_ | (refine go1 ?_; try (clear hL; intro w hL))); conv => whnf)
    exact RetReq.mk hL ⟨rfl, rfl⟩
theorem nodup_subP : ∀ (A l : Fml), l.Nodup → (∀ x ∈ l, x ∈ A) → l.length ≤ A.length
  | [], l, _, h => by cases l with | nil => simp | cons a l => exact absurd (h a (by simp)) (by simp)
  | a :: A, l, hn, h => by
    have h1 := nodup_subP A (l.erase a) (hn.erase a) fun x hx => by
      have hne : x ≠ a := fun e => by subst e; exact hn.not_mem_erase hx
      rcases List.mem_cons.1 (h x (List.mem_of_mem_erase hx)) with e | e
      · exact absurd e hne
      · exact e
    have := List.length_erase (a := a) (l := l)
    rw [List.length_cons]
    split at this <;> omega
theorem nodup_subF {l r : Fml} (h : Canon l r) : r.length ≤ l.length :=
  nodup_subP l r (h.formed.less.imp fun h e => by subst e; exact less_irrefl _ h) h.mem
def GenP (N : Nat) (m : Mem) (u : Value) : Prop := ∃ v e r, u = .tuple (toArr [v, .int .i64 e]) ∧ FmV m v r ∧ FB N r ∧ (e = 0 ∨ e = 4)
theorem GenP.many (N : Nat) (m : Mem) : GenP N m (.tuple (toArr [.slice none 0 0, .int .i64 4])) := ⟨_, 4, [], rfl, Sl.nil _ _ _, FB.nil N, .inr rfl⟩
set_option maxHeartbeats 1000000 in
theorem OrW_fn (m : Mem) (v1 v2 : Value) (f g : Fml) (N : Nat) (hN : N ≤ 20000) (h1 : FmV m v1 f) (h2 : FmV m v2 g) (hf : FB N f) (hg : FB N g) :
    Fn0 Tryz.prog 162 [v1, v2] m fun m' u => GenP N m' u := by
  have k1 := Formed_fn m v1 f h1
  have k2 := Formed_fn m v2 g h2
  rw [dec_t hf.formed] at k1
  rw [dec_t hg.formed] at k2
  obtain ⟨A1, n1, c1, rfl, -⟩ := id h1
  obtain ⟨A2, n2, c2, rfl, -⟩ := id h2
  have l1 := hf.len
  have l2 := hg.len
  refine Fn.enter (N := 22) hX Tryz.func162 rfl rfl (by show _ ≤ _; simp) (fun w0 hL => ?_)
  conv => whnf
  refine go ?_; try (clear hL; intro w hL)
  refine CallReq.val k1 hL ?_
  clear hL
  intro w hL
  refine go ?_; try (clear hL; intro w hL)
  refine CallReq.val k2 hL ?_
  clear hL
  intro w hL
  refine go ?_; try (clear hL; intro w hL)
  refine NewReq.mk hL ?_
  clear hL
  intro b16 w hL
  conv => whnf
  obtain ⟨m1, hL1, hm1, hfs⟩ := pair_fs h1 h2 (show Ev.Loc m [] w0 m ((b16, .cells (toArr [.slice A1 n1 c1, .slice A2 n2 c2]) 88 (0, 0)) :: []) w from hL)
  clear hL
  have hL := hL1
  clear hL1
  refine go ?_; try (clear hL; intro w hL)
  refine CallReq.mk (L1 := []) (concatF_fn m1 _ _ hfs (by rw [pair_flat, List.length_append]; omega) (by simp)) hL ?_
  clear hL
  rintro u mx L1 w hL - ⟨hmx2, us, ho, hH⟩
  rw [hmx2] at hL
  clear hmx2 mx
  rw [pair_flat] at hH
  have hu := ho.slice
  obtain ⟨A3, n3, c3, rfl, -⟩ := hu
  refine go ?_; try (clear hL; intro w hL)
  refine CallReq.mk (L1 := L1) (formed_fn m1 _ us (f ++ g) L1 ho hH (by rw [List.length_append]; omega) (fun p hp => (List.mem_append.1 hp).elim (fun h => by have := hf.part h; omega) fun h => by have := hg.part h; omega) (fun p hp => (List.mem_append.1 hp).elim (hf.formed.rises p) (hg.formed.rises p))) hL ?_
  clear hL
  rintro u m2 L2 w hL hm12 ⟨rfl, r, hcan, hr⟩
  have hin : ∀ p ∈ r, ∀ n ∈ p, n < (N : Int) := fun p hp => (List.mem_append.1 (hcan.mem p hp)).elim (hf.lt p) (hg.lt p)
  have hrl : r.length ≤ 400 := by
    have := nodup_subF hcan
    rw [List.length_append] at this; omega
  have hfw := fewG_fn m2 u r hr (by omega)
  obtain ⟨A4, n4, c4, rfl, -⟩ := id hr
  by_cases hl : r.length ≤ 200
  · rw [if_pos hl] at hfw
    refine go ?_; try (clear hL; intro w hL)
    refine CallReq.val hfw hL ?_
    clear hL
    intro w hL
    refine go ?_; try (clear hL; intro w hL)
    exact RetReq.mk hL ⟨rfl, _, 0, r, rfl, hr, ⟨hcan.formed, hl, hin⟩, .inl rfl⟩
  · rw [if_neg hl] at hfw
    refine go ?_; try (clear hL; intro w hL)
    refine CallReq.val hfw hL ?_
    clear hL
    intro w hL
    refine go ?_; try (clear hL; intro w hL)
    exact RetReq.mk hL ⟨rfl, GenP.many N m2⟩
structure FBig (N : Nat) (f : Fml) : Prop where
  formed : FormedP f
  len : f.length ≤ 20000
  lt : ∀ p ∈ f, ∀ n ∈ p, n < N
theorem FB.big {N : Nat} {f : Fml} (h : FB N f) : FBig N f := ⟨h.formed, by have := h.len; omega, h.lt⟩
theorem FBig.part {N : Nat} {f : Fml} (h : FBig N f) {p : Prt} (hp : p ∈ f) : p.length ≤ N := part_len (h.formed.rises p hp) (h.lt p hp)
set_option maxHeartbeats 2000000 in
theorem AndW_fn (m : Mem) (v1 v2 : Value) (f g : Fml) (N : Nat) (hN : N ≤ 20000) (h1 : FmV m v1 f) (h2 : FmV m v2 g) (hf : FB N f) (hg : FBig N g) :
    Fn0 Tryz.prog 161 [v1, v2] m fun m' u => GenP N m' u := by
  have k1 := Formed_fn m v1 f h1
  have k2 := Formed_fn m v2 g h2
  rw [dec_t hf.formed] at k1
  rw [dec_t hg.formed] at k2
  have h1' := h1
  obtain ⟨A1, n1, c1, rfl, hn1, hc1, hm1x, -⟩ := id h1
  obtain ⟨A2, n2, c2, rfl, -⟩ := id h2
  subst hn1
  have l1 := hf.len
  have l2 := hg.len
  have hmx : maxLen = 9223372036854775807 := rfl
  refine Fn.enter (N := 38) hX Tryz.func161 rfl rfl (by show _ ≤ _; simp) (fun w0 hL => ?_)
  conv => whnf
  refine go ?_; try (clear hL; intro w hL)
  refine CallReq.val k1 hL ?_
  clear hL
  intro w hL
  refine go ?_; try (clear hL; intro w hL)
  refine CallReq.val k2 hL ?_
  clear hL
  intro w hL
  refine go ?_; try (clear hL; intro w hL)
  refine LoopReq.inv hX (fun s : Nat × Option Addr × Nat × Nat => [(6, .slice s.2.1 s.2.2.1 s.2.2.2), (19, .int .i64 s.1)]) [1, 17, 18]
    (fun s w => s.1 ≤ f.length ∧ ∃ m1 r, Mem.Le m m1 ∧ FmV m1 (.slice s.2.1 s.2.2.1 s.2.2.2) r ∧ FB N r ∧ Ev.Loc m [] w0 m1 [] w) (fun s => f.length - s.1) (0, none, 0, 0)
    ⟨Nat.zero_le _, m, [], Mem.Le.refl m, Sl.nil _ _ _, FB.nil N, hL⟩ ⟨rfl, rfl, trivial⟩ ?_
  clear hL
  rintro ⟨j, B, bn, bc⟩ w e ⟨hj, m1, r, hm1, hr, hrS, hL⟩
  simp only at hj hr
  have hrl := hrS.len
  refine go ?_; try (clear hL; intro w hL)
  refine BrReq.dec (fun hlt => ?_) (fun hlt => ?_)
  rotate_left
  · have hfw := fewG_fn m1 _ r hr (by omega)
    rw [if_pos hrl] at hfw
    refine go ?_; try (clear hL; intro w hL)
    refine CallReq.val hfw hL ?_
    clear hL
    intro w hL
    refine go ?_; try (clear hL; intro w hL)
    exact RetReq.mk hL ⟨rfl, _, 0, r, rfl, hr, hrS, .inl rfl⟩
  have hj1 : j < f.length := by simp only at hlt; omega
  have hjm := List.getElem_mem hj1
  have hpl := hf.part hjm
  obtain ⟨a, A5, n5, c5, ea, hcell, hpq⟩ := (h1'.le hm1).at_ hj1
  conv => whnf
  repeat ((first | (refine Idx2Req.mk j a rfl (by simp only at hlt; omega) ea ?_) | refine LdReq.one hX rfl rfl hL hcell ?_ | (refine go1 ?_; try (clear hL; intro w hL))); conv => whnf)
  refine CallReq.mk (L1 := []) (and_fn m1 _ _ f[j] g hpq (h2.le hm1) (fun q hq => by have := hg.part hq; omega) (by omega)) hL ?_
  clear hL
  rintro u m2 L1 w hL hm12 ⟨us, ho, hH⟩
  obtain ⟨m3, hL3, hm23, hfa⟩ := hd_freeze ho hH hL
  clear hL
  have hL := hL3
  clear hL3
  obtain ⟨A6, n6, c6, rfl, -⟩ := id hfa
  refine go ?_; try (clear hL; intro w hL)
  refine NewReq.mk hL ?_
  clear hL
  intro b27 w hL
  conv => whnf
  obtain ⟨m4, hL4, hm34, hfs⟩ := pair_fs (hr.le (hm12.trans hm23)) hfa (show Ev.Loc m [] w0 m3 ((b27, .cells (toArr [.slice B bn bc, .slice A6 n6 c6]) 88 (0, 0)) :: []) w from hL)
  clear hL
  have hL := hL4
  clear hL4
  refine go ?_; try (clear hL; intro w hL)
  refine CallReq.mk (L1 := []) (concatF_fn m4 _ _ hfs (by rw [pair_flat, List.length_append, List.length_map]; omega) (by simp)) hL ?_
  clear hL
  rintro u mx L1 w hL - ⟨hmx2, us2, ho2, hH2⟩
  rw [hmx2] at hL
  clear hmx2 mx
  rw [pair_flat] at hH2
  have hu := ho2.slice
  obtain ⟨A3, n3, c3, rfl, -⟩ := hu
  have hlt2 : ∀ p ∈ r ++ g.map (joinP f[j]), ∀ n ∈ p, n < (N : Int) := fun p hp => (List.mem_append.1 hp).elim (hrS.lt p) fun h n hn => by
    obtain ⟨q, hq, rfl⟩ := List.mem_map.1 h
    exact (join_iff.1 hn).elim (hf.lt _ hjm n) (hg.lt q hq n)
  have hri2 : ∀ p ∈ r ++ g.map (joinP f[j]), Rises p := fun p hp => (List.mem_append.1 hp).elim (hrS.formed.rises p) fun h => by
    obtain ⟨q, hq, rfl⟩ := List.mem_map.1 h
    exact join_rises (hf.formed.rises _ hjm) (hg.formed.rises q hq)
  refine go ?_; try (clear hL; intro w hL)
  refine CallReq.mk (L1 := L1) (formed_fn m4 _ us2 _ L1 ho2 hH2 (by rw [List.length_append, List.length_map]; omega) (fun p hp => by have := part_len (hri2 p hp) (hlt2 p hp); omega) hri2) hL ?_
  clear hL
  rintro u m5 L2 w hL hm45 ⟨rfl, r2, hcan2, hr2⟩
  have hin2 : ∀ p ∈ r2, ∀ n ∈ p, n < (N : Int) := fun p hp => hlt2 p (hcan2.mem p hp)
  have hrl2 : r2.length ≤ 20200 := by
    have := nodup_subF hcan2
    rw [List.length_append, List.length_map] at this; omega
  obtain ⟨A7, n7, c7, rfl, hn7, -⟩ := id hr2
  by_cases hl : r2.length ≤ 200
  · conv => whnf
    repeat ((first | refine BrReq.no (by omega) ?_ | (refine go1 ?_; try (clear hL; intro w hL))); conv => whnf)
    refine ⟨(j + 1, A7, n7, c7), ⟨by simp only; omega, m5, r2, hm1.trans (hm12.trans (hm23.trans (hm34.trans hm45))), hr2, ⟨hcan2.formed, hl, hin2⟩, hL⟩, by first | omega | (simp only; omega) | (simp only [List.length_cons, List.length_append]; omega), ?_, ?_⟩
    · repeat (first | exact trivial | (refine And.intro (by (conv => lhs; whnf) <;> (conv => rhs; whnf) <;> (first | rfl)) ?_))
    · repeat (first | exact trivial | (refine And.intro (by (conv => lhs; whnf) <;> (conv => rhs; whnf) <;> (first | rfl)) ?_))
  · conv => whnf
    repeat ((first | refine BrReq.yes (by omega) ?_ | (refine go1 ?_; try (clear hL; intro w hL))); conv => whnf)
    exact RetReq.mk hL ⟨rfl, GenP.many N m5⟩
end Go.Proofs.YtaooenndoopgdaaGreatDoor.fo
namespace Go.Proofs.YtaooenndoopgdaaGreatDoor.li
open Go Go.Ev Go.Proofs Go.Proofs.YtaooenndoopgdaaGreatDoor.ar
def stO (ab b bits : Nat) (e : Int) (ma ml : Nat) : Obj := .cells (toArr [.pointer (some ⟨ab, 0, none⟩), .int .u8 b, .int .u8 bits, .int .i64 e, .map (some ma), .map (some ml)]) 182 (0, 0)
def isF (m : Mem) (N : Nat) (y : Value × Value) : Prop := ∃ (k : Int) (f : fo.Fml), y.1 = .int .i64 k ∧ ar.i64 k ∧ fo.FmV m y.2 f ∧ fo.FB N f
theorem isF.grow {m m' : Mem} {N M : Nat} {y : Value × Value} (h : isF m N y) (hm : Mem.Le m m') (hN : N ≤ M) : isF m' M y := by
  obtain ⟨k, f, h1, h2, h3, h4⟩ := h
  exact ⟨k, f, h1, h2, h3.le hm, h4.mono hN⟩
def AllF (m : Mem) (N : Nat) (l : List (Value × Value)) : Prop := ∀ y ∈ l, isF m N y
theorem AllF.grow {m m' : Mem} {N M : Nat} {l : List (Value × Value)} (h : AllF m N l) (hm : Mem.Le m m') (hN : N ≤ M) : AllF m' M l := fun y hy => (h y hy).grow hm hN
theorem AllF.keys {m : Mem} {N : Nat} {l : List (Value × Value)} (h : AllF m N l) : ∀ x ∈ l, IsK Tryz.prog 3 x.1 := fun x hx => by
  obtain ⟨k, f, h1, h2, -⟩ := h x hx
  rw [h1]; exact isK_int _ h2
theorem AllF.app {m : Mem} {N : Nat} {l : List (Value × Value)} {y : Value × Value} (h : AllF m N l) (hy : isF m N y) : AllF m N (l ++ [y]) := fun x hx => (List.mem_append.1 hx).elim (h x) fun h => by rw [List.mem_singleton.1 h]; exact hy
theorem AllF.set {m : Mem} {N : Nat} {l : List (Value × Value)} {y : Value × Value} (h : AllF m N l) (hy : isF m N y) (q : Nat) : AllF m N (l.set q y) := fun x hx => by
  rcases List.mem_or_eq_of_mem_set hx with hx | hx
  · exact h x hx
  · rw [hx]; exact hy
def EOk (e : Int) : Prop := e = 0 ∨ e = 4
structure Stp (ab sb b bits : Nat) (m : Mem) (ns : List Nd) (e : Int) (ma ml : Nat) (la ll : List (Value × Value)) (La : Ev.Own) : Prop where
  ar : Ar ab ns La
  ok : OkA ns
  are : AllF m ns.length la
  left : AllF m ns.length ll
  err : EOk e
abbrev stL (ab sb b bits : Nat) (e : Int) (ma ml : Nat) (la ll : List (Value × Value)) (La : Ev.Own) : Ev.Own := (sb, stO ab b bits e ma ml) :: (ma, mapW la) :: (ml, mapW ll) :: La
def StQ (ab sb b bits : Nat) (ns : List Nd) (ma ml : Nat) : Mem → Ev.Own → Value → Prop := fun m' L' u => ∃ ns' e' la' ll' La' f, ns <+: ns' ∧ Stp ab sb b bits m' ns' e' ma ml la' ll' La' ∧ L' = stL ab sb b bits e' ma ml la' ll' La' ∧ fo.FmV m' u f ∧ fo.FB ns'.length f
theorem keep_fn (m : Mem) (ab sb b bits : Nat) (e e2 : Int) (ma ml : Nat) (v : Value) (f : fo.Fml) (hv : fo.FmV m v f) :
    Ev.Fn Tryz.prog 102 [.pointer (some ⟨sb, 0, none⟩), v, .int .i64 e2] m [(sb, stO ab b bits e ma ml)] fun m' L' u => m' = m ∧ u = v ∧ L' = [(sb, stO ab b bits (if e = 0 then e2 else e) ma ml)] := by
  obtain ⟨A, n, c, rfl, -⟩ := id hv
  refine Fn.enter (N := 17) hX Tryz.func102 rfl rfl (by show _ ≤ _; simp) (fun w0 hL => ?_)
  conv => whnf
  generalize keys [(sb, stO ab b bits e ma ml)] = S0 at hL ⊢
  by_cases h0 : e = 0
  · subst h0
    refine go ?_; try (clear hL; intro w hL)
    exact RetReq.mk hL ⟨rfl, rfl, rfl⟩
  · rw [if_neg h0]
    conv => whnf
    repeat ((first | refine BrReq.no (by omega) ?_ | (refine go1 ?_; try (clear hL; intro w hL))); conv => whnf)
    exact RetReq.mk hL ⟨rfl, rfl, rfl⟩
theorem keepOk {e e2 : Int} (h : EOk e) (h2 : EOk e2) : EOk (if e = 0 then e2 else e) := by split; exact h2; exact h
theorem or_fn (m : Mem) (ab sb b bits : Nat) (e : Int) (ma ml : Nat) (v1 v2 : Value) (f g : fo.Fml) (N : Nat) (hN : N ≤ 20000) (he : EOk e) (h1 : fo.FmV m v1 f) (h2 : fo.FmV m v2 g) (k1 : fo.FB N f) (k2 : fo.FB N g) :
    Ev.Fn Tryz.prog 119 [.pointer (some ⟨sb, 0, none⟩), v1, v2] m [(sb, stO ab b bits e ma ml)] fun m' L' u => ∃ e' r, EOk e' ∧ L' = [(sb, stO ab b bits e' ma ml)] ∧ fo.FmV m' u r ∧ fo.FB N r := by
  obtain ⟨A1, n1, c1, rfl, -⟩ := id h1
  obtain ⟨A2, n2, c2, rfl, -⟩ := id h2
  refine Fn.enter (N := 14) hX Tryz.func119 rfl rfl (by show _ ≤ _; simp) (fun w0 hL => ?_)
  conv => whnf
  generalize keys [(sb, stO ab b bits e ma ml)] = S0 at hL ⊢
  refine go ?_; try (clear hL; intro w hL)
  refine CallReq.pure (fo.OrW_fn m _ _ f g N hN h1 h2 k1 k2) hL ?_
  clear hL
  rintro u m2 w hL hm2 ⟨v, e2, r, rfl, hr, hb, he2⟩
  obtain ⟨A3, n3, c3, rfl, -⟩ := id hr
  refine go ?_; try (clear hL; intro w hL)
  refine CallReq.mk (L1 := [_]) (L2 := []) (keep_fn m2 ab sb b bits e e2 ma ml _ r hr) (by rw [List.append_nil]; exact hL) ?_
  clear hL
  rintro u m3 L3 w hL - ⟨rfl, rfl, rfl⟩
  rw [List.append_nil] at hL
  refine go ?_; try (clear hL; intro w hL)
  exact RetReq.mk hL ⟨_, r, keepOk he he2, rfl, hr, hb⟩
theorem and_fn (m : Mem) (ab sb b bits : Nat) (e : Int) (ma ml : Nat) (v1 v2 : Value) (f g : fo.Fml) (N : Nat) (hN : N ≤ 20000) (he : EOk e) (h1 : fo.FmV m v1 f) (h2 : fo.FmV m v2 g) (k1 : fo.FB N f) (k2 : fo.FB N g) :
    Ev.Fn Tryz.prog 118 [.pointer (some ⟨sb, 0, none⟩), v1, v2] m [(sb, stO ab b bits e ma ml)] fun m' L' u => ∃ e' r, EOk e' ∧ L' = [(sb, stO ab b bits e' ma ml)] ∧ fo.FmV m' u r ∧ fo.FB N r := by
  obtain ⟨A1, n1, c1, rfl, -⟩ := id h1
  obtain ⟨A2, n2, c2, rfl, -⟩ := id h2
  refine Fn.enter (N := 14) hX Tryz.func118 rfl rfl (by show _ ≤ _; simp) (fun w0 hL => ?_)
  conv => whnf
  generalize keys [(sb, stO ab b bits e ma ml)] = S0 at hL ⊢
  refine go ?_; try (clear hL; intro w hL)
  refine CallReq.pure (fo.AndW_fn m _ _ f g N hN h1 h2 k1 k2.big) hL ?_
  clear hL
  rintro u m2 w hL hm2 ⟨v, e2, r, rfl, hr, hb, he2⟩
  obtain ⟨A3, n3, c3, rfl, -⟩ := id hr
  refine go ?_; try (clear hL; intro w hL)
  refine CallReq.mk (L1 := [_]) (L2 := []) (keep_fn m2 ab sb b bits e e2 ma ml _ r hr) (by rw [List.append_nil]; exact hL) ?_
  clear hL
  rintro u m3 L3 w hL - ⟨rfl, rfl, rfl⟩
  rw [List.append_nil] at hL
  refine go ?_; try (clear hL; intro w hL)
  exact RetReq.mk hL ⟨_, r, keepOk he he2, rfl, hr, hb⟩
theorem atomG_fn (m : Mem) (k : Int) (h0 : 0 ≤ k) : Fn0 Tryz.prog 153 [.int .i64 k] m fun m' u => fo.FmV m' u [[k]] := by
  refine Fn.enter (N := 8) hX Tryz.func153 rfl rfl (by show _ ≤ _; simp) (fun w0 hL => ?_)
  conv => whnf
  conv => whnf
  repeat ((first | refine BrReq.no (by omega) ?_ | (refine go1 ?_; try (clear hL; intro w hL))); conv => whnf)
  refine NewReq.mk hL ?_
  clear hL
  intro b1 w hL
  conv => whnf
  replace hL : Ev.Loc m [] w0 m ([(b1, .cells (toArr [.int .i64 k]) 3 (0, 0))] ++ []) w := hL
  obtain ⟨m1, hL1, hm1, hs⟩ := OwnS.freeze (k := .i64) (l := [k]) (OwnS.full (n := 1) (by decide) rfl) hL
  clear hL
  have hL := hL1
  clear hL1
  refine go ?_; try (clear hL; intro w hL)
  refine NewReq.mk hL ?_
  clear hL
  intro b2 w hL
  conv => whnf
  replace hL : Ev.Loc m [] w0 m1 ([(b2, .cells (toArr [.slice (some ⟨b1, 0, none⟩) 1 1]) 53 (0, 0))] ++ []) w := hL
  obtain ⟨m2, hL2, hm2, hf⟩ := fo.hd_freeze (OwnS.full (n := 1) (by decide) rfl) (fo.hd_one hs) hL
  refine go ?_; try (clear hL; intro w hL)
  exact RetReq.mk hL2 ⟨rfl, hf⟩
theorem atom_FB {N : Nat} {k : Int} (h0 : 0 ≤ k) (h : k < N) : fo.FB N [[k]] :=
  ⟨⟨fun p hp => by rw [List.mem_singleton.1 hp]; exact ⟨fun n hn => by rw [List.mem_singleton.1 hn]; exact h0, List.pairwise_singleton _ _⟩, List.pairwise_singleton _ _, List.pairwise_singleton _ _⟩, by simp, fun p hp n hn => by
    rw [List.mem_singleton.1 hp] at hn
    rw [List.mem_singleton.1 hn]; exact h⟩
theorem true_FB (N : Nat) : fo.FB N [[]] := ⟨(fo.Dl.start []).formed, by simp, fun p hp n hn => by rw [List.mem_singleton.1 hp] at hn; cases hn⟩
end Go.Proofs.YtaooenndoopgdaaGreatDoor.li
namespace Go.Proofs.YtaooenndoopgdaaGreatDoor.li
open Go Go.Ev Go.Proofs Go.Proofs.YtaooenndoopgdaaGreatDoor.ar
variable {ab sb b bits : Nat} {m : Mem} {ns : List Nd} {e : Int} {ma ml : Nat} {la ll : List (Value × Value)} {La : Ev.Own}
theorem Stp.grow {m' : Mem} (h : Stp ab sb b bits m ns e ma ml la ll La) (hm : Mem.Le m m') : Stp ab sb b bits m' ns e ma ml la ll La :=
  ⟨h.ar, h.ok, h.are.grow hm (Nat.le_refl _), h.left.grow hm (Nat.le_refl _), h.err⟩
theorem Stp.arena {ns' : List Nd} {La' : Ev.Own} (h : Stp ab sb b bits m ns e ma ml la ll La) (hp : ns <+: ns') (hO : OkA ns') (hA : Ar ab ns' La') : Stp ab sb b bits m ns' e ma ml la ll La' :=
  ⟨hA, hO, h.are.grow (Mem.Le.refl _) hp.length_le, h.left.grow (Mem.Le.refl _) hp.length_le, h.err⟩
theorem Stp.errs {e' : Int} (h : Stp ab sb b bits m ns e ma ml la ll La) (he : EOk e') : Stp ab sb b bits m ns e' ma ml la ll La := ⟨h.ar, h.ok, h.are, h.left, he⟩
def OfC (ab sb b bits : Nat) (ma ml : Nat) (k : Nat) : Prop := ∀ (m : Mem) (ns : List Nd) (e : Int) (la ll : List (Value × Value)) (La : Ev.Own) (id : Int), Stp ab sb b bits m ns e ma ml la ll La → ar.i64 id → (okId ns id → dep ns id < k) →
  Ev.Fn Tryz.prog 72 [.pointer (some ⟨sb, 0, none⟩), .int .i64 id] m (stL ab sb b bits e ma ml la ll La) (StQ ab sb b bits ns ma ml)
def TS (m : Mem) (S : List Nat) (w0 : World) (bn sb ab b bits ma ml : Nat) (x : Nd) (w : World) : Prop := ∃ e, Ev.Loc m S w0 m [(bn, .cells (toArr (ndC x)) 146 (0, 0)), (sb, stO ab b bits e ma ml)] w
theorem TS.gab {m : Mem} {S : List Nat} {w0 : World} {bn sb ab b bits ma ml : Nat} {x : Nd} (w : World) (h : TS m S w0 bn sb ab b bits ma ml x w) : w.cell? ⟨sb, 0, none⟩ = some (.pointer (some ⟨ab, 0, none⟩)) := by
  obtain ⟨e, h⟩ := h
  rw [h.ownCell (b := sb) (List.mem_cons_of_mem _ List.mem_cons_self)]; rfl
theorem TS.ga {m : Mem} {S : List Nat} {w0 : World} {bn sb ab b bits ma ml : Nat} {x : Nd} (w : World) (h : TS m S w0 bn sb ab b bits ma ml x w) : w.cell? ((⟨bn, 0, none⟩ : Addr).add 5) = some (.int .i64 x.a) := by
  obtain ⟨e, h⟩ := h
  rw [addr_add, h.ownCell (b := bn) List.mem_cons_self]; rfl
theorem TS.gb {m : Mem} {S : List Nat} {w0 : World} {bn sb ab b bits ma ml : Nat} {x : Nd} (w : World) (h : TS m S w0 bn sb ab b bits ma ml x w) : w.cell? ((⟨bn, 0, none⟩ : Addr).add 6) = some (.int .i64 x.b) := by
  obtain ⟨e, h⟩ := h
  rw [addr_add, h.ownCell (b := bn) List.mem_cons_self]; rfl
theorem TS.of {m m' : Mem} {S : List Nat} {w0 : World} {bn sb ab b bits ma ml : Nat} {x : Nd} {e : Int} {L : Ev.Own} {w : World} (h : Ev.Loc m S w0 m' ((bn, .cells (toArr (ndC x)) 146 (0, 0)) :: (sb, stO ab b bits e ma ml) :: L) w) (hm : Mem.Le m m') : TS m S w0 bn sb ab b bits ma ml x w :=
  ⟨e, (h.sublist (.cons_cons _ (.cons_cons _ (List.nil_sublist _)))).weaken hm (Mem.Le.refl _)⟩
set_option maxHeartbeats 4000000 in
theorem not_fn {k : Nat} (ih : OfC ab sb b bits ma ml k) (hS : Stp ab sb b bits m ns e ma ml la ll La) (i0 inner : Int) (hid : okId ns i0) (hk6 : kindN ns i0 = 6) (hin : (nodeN ns i0).1.a = inner) (hd : dep ns i0 ≤ k) :
    Ev.Fn Tryz.prog 152 [.pointer (some ⟨sb, 0, none⟩), .int .i64 i0, .int .i64 inner] m (stL ab sb b bits e ma ml la ll La) (StQ ab sb b bits ns ma ml) := by
  have hlen := hS.ok.len
  have hd1 := dep_one hS.ok hid (.inl hk6)
  obtain ⟨hi1, hi2⟩ := one_lt hS.ok hid (.inl hk6)
  rw [hin] at hd1 hi1 hi2
  obtain ⟨x, hx1, hx2⟩ := nodeN_ok hi1
  have hnode := Node_fn m ab ns La hS.ar inner
  rw [hx1] at hnode
  simp only at hnode
  have hkx : kindN ns inner = x.k := by unfold kindN; rw [hx1]
  have h2 := dep_two hS.ok hi1
  rw [hkx, hx1] at h2
  have hpt := parts_lt hS.ok hi1
  rw [hkx, hx1] at hpt
  have h0 := hid.1
  refine Fn.enter (N := 69) hX Tryz.func152 rfl rfl (by show _ ≤ _; simp) (fun w0 hL => ?_)
  conv => whnf
  generalize keys (stL ab sb b bits e ma ml la ll La) = S0 at hL ⊢
  refine go ?_; try (clear hL; intro w hL)
  refine CallReq.li (L1 := La) hnode (Loc.back (L1 := [_, _, _]) hL) ?_
  clear hL
  intro w hL
  have hL := Loc.back (L1 := La) (L2 := [_, _, _]) hL
  refine go ?_; try (clear hL; intro w hL)
  refine NewReq.mk hL ?_
  clear hL
  intro bn w hL
  conv => whnf
  obtain ⟨xk, s0, s1, s2, s3, a, b', neg⟩ := x
  simp only at h2 hpt hkx
  by_cases k0 : xk = 0
  · subst k0
    refine go ?_; try (clear hL; intro w hL)
    refine CallReq.pure (fo.true_fn m) hL ?_
    clear hL
    rintro u m1 w hL hm1 hf
    obtain ⟨A1, n1, c1, rfl, -⟩ := id hf
    refine go ?_; try (clear hL; intro w hL)
    exact RetReq.mk hL.drop ⟨ns, e, la, ll, La, [[]], List.prefix_refl _, hS.grow hm1, rfl, hf, true_FB _⟩
  by_cases k4 : xk = 4
  · subst k4
    have hk := h2 (by omega)
    have hp := hpt (by omega)
    refine go ?_; try (clear hL; intro w hL)
    refine DrawReq.planS hX (.fst 0 (.fst 1 (.fst 2 (.fst 3 (.fst 4 (.fst 5 (.fst 6 (.fst 7 (.fst 10 (.fst 11 (.fst 12 (.fst 13 (.fst 14 (.fst 15 (.fst 16 (.alt 8 (.alt 9 (.alt 17 (.alt 18 (.alt 19 (.fst 20 (.done)) (.stop)) (.stop)) (.stop)) (.stop)) (.stop))))))))))))))))) (TS m S0 w0 bn sb ab b bits ma ml ⟨4, s0, s1, s2, s3, a, b', neg⟩) (by kernel_rfl) (by kernel_rfl) hL (fun w h => TS.of h (Mem.Le.refl _)) ?_
    clear hL
    intro w hL
    conv => whnf
    repeat ((first | refine QLdReq.told hX rfl rfl TS.gab ?_ | refine QLdReq.told hX rfl rfl TS.ga ?_ | refine QLdReq.told hX rfl rfl TS.gb ?_ | (refine goq1 ?_; try (clear hL; intro w hL))); conv => whnf)
    have hO1 := notN_ok hS.ok (okId_i64 hlen hp.1.1)
    have hp1 := notN_pre ns a
    have hd1' := fun hy => dep_not hS.ok hp.1.1 hy
    refine CallReq.mk (L1 := _) (L2 := [_, _, _, _]) (NotG_fn _ ab _ _ hS.ar hS.ok _) (Loc.back (L1 := [_, _, _, _]) hL) ?_
    clear hL
    rintro u m1 L1 w hL hm1 ⟨rfl, hA1⟩
    have hL := Loc.back (L2 := [_, _, _, _]) hL
    have hS1 := (hS.grow hm1).arena hp1 hO1 hA1
    refine SReq.mk (TS.of hL hm1) ?_
    refine goq ?_; try (clear hL; intro w hL)
    have hi64 := (okB_not hS.ok (okId_i64 hlen hp.1.1)).2
    refine CallReq.mk (L1 := stL ab sb b bits _ ma ml _ _ _) (L2 := [_]) (ih _ _ _ _ _ _ _ hS1 hi64 (fun hy => Nat.lt_of_le_of_lt (hd1' hy) (by omega))) (Loc.back (L1 := [_]) hL) ?_
    clear hL
    rintro u m2 L2 w hL hm2 ⟨ns2, e2, la2, ll2, La2, f2, hp2, hS2, rfl, hf2, hb2⟩
    obtain ⟨A2, n2, c2, rfl, -⟩ := id hf2
    have hL := Loc.back (L1 := stL ab sb b bits e2 ma ml la2 ll2 La2) (L2 := [_]) hL
    refine SReq.mk (TS.of hL (hm1.trans hm2)) ?_
    refine goq ?_; try (clear hL; intro w hL)
    have hq2 := hp1.trans hp2
    have hbk := okId_pre hq2 hp.2.1
    have hO3 := notN_ok hS2.ok (okId_i64 hS2.ok.len hbk)
    have hp3 := notN_pre ns2 b'
    have hd3 := fun hy => dep_not hS2.ok hbk hy
    rw [dep_grow hS.ok hS2.ok hq2 hp.2.1] at hd3
    have hi3 := (okB_not hS2.ok (okId_i64 hS2.ok.len hbk)).2
    refine CallReq.mk (L1 := _) (L2 := [_, _, _, _]) (NotG_fn _ ab _ _ hS2.ar hS2.ok _) (Loc.back (L1 := [_, _, _, _]) hL) ?_
    clear hL
    rintro u m3 L3 w hL hm3 ⟨rfl, hA3⟩
    have hL := Loc.back (L2 := [_, _, _, _]) hL
    have hS3 := (hS2.grow hm3).arena hp3 hO3 hA3
    refine SReq.mk (TS.of hL (hm1.trans (hm2.trans hm3))) ?_
    refine goq ?_; try (clear hL; intro w hL)
    refine CallReq.mk (L1 := stL ab sb b bits _ ma ml _ _ _) (L2 := [_]) (ih _ _ _ _ _ _ _ hS3 hi3 (fun hy => Nat.lt_of_le_of_lt (hd3 hy) (by omega))) (Loc.back (L1 := [_]) hL) ?_
    clear hL
    rintro u m4 L4 w hL hm4 ⟨ns4, e4, la4, ll4, La4, f4, hp4, hS4, rfl, hf4, hb4⟩
    obtain ⟨A4, n4, c4, rfl, -⟩ := id hf4
    have hL := Loc.back (L1 := stL ab sb b bits e4 ma ml la4 ll4 La4) (L2 := [_]) hL
    refine SReq.mk (TS.of hL (hm1.trans (hm2.trans (hm3.trans hm4)))) ?_
    refine goq ?_; try (clear hL; intro w hL)
    refine CallReq.mk (L1 := [_]) (L2 := _ :: (ma, mapW _) :: (ml, mapW _) :: _) (and_fn _ ab sb b bits e4 ma ml _ _ f2 f4 ns4.length hS4.ok.len hS4.err (hf2.le (hm3.trans hm4)) hf4 (hb2.mono (hp3.trans hp4).length_le) hb4) (hL.perm (List.Perm.swap _ _ _)) ?_
    clear hL
    rintro u m5 L5 w hL hm5 ⟨e5, r5, he5, rfl, hr5, hb5⟩
    obtain ⟨A5, n5, c5, rfl, -⟩ := id hr5
    have hL := hL.perm (List.Perm.swap _ _ _)
    refine SReq.mk (TS.of hL (hm1.trans (hm2.trans (hm3.trans (hm4.trans hm5))))) ?_
    refine goq ?_; try (clear hL; intro w hL)
    exact RetReq.mk hL.drop ⟨ns4, e5, la4, ll4, La4, r5, hq2.trans (hp3.trans hp4), (hS4.grow hm5).errs he5, rfl, hr5, hb5⟩
  by_cases k5 : xk = 5
  · subst k5
    have hk := h2 (by omega)
    have hp := hpt (by omega)
    refine go ?_; try (clear hL; intro w hL)
    refine DrawReq.planS hX (.fst 0 (.fst 1 (.fst 2 (.fst 3 (.fst 4 (.fst 5 (.fst 6 (.fst 7 (.fst 10 (.fst 11 (.fst 12 (.fst 13 (.fst 14 (.fst 15 (.fst 16 (.alt 8 (.alt 9 (.alt 17 (.alt 18 (.alt 19 (.fst 20 (.done)) (.stop)) (.stop)) (.stop)) (.stop)) (.stop))))))))))))))))) (TS m S0 w0 bn sb ab b bits ma ml ⟨5, s0, s1, s2, s3, a, b', neg⟩) (by kernel_rfl) (by kernel_rfl) hL (fun w h => TS.of h (Mem.Le.refl _)) ?_
    clear hL
    intro w hL
    conv => whnf
    repeat ((first | refine QLdReq.told hX rfl rfl TS.gab ?_ | refine QLdReq.told hX rfl rfl TS.ga ?_ | refine QLdReq.told hX rfl rfl TS.gb ?_ | (refine goq1 ?_; try (clear hL; intro w hL))); conv => whnf)
    have hO1 := notN_ok hS.ok (okId_i64 hlen hp.1.1)
    have hp1 := notN_pre ns a
    have hd1' := fun hy => dep_not hS.ok hp.1.1 hy
    refine CallReq.mk (L1 := _) (L2 := [_, _, _, _]) (NotG_fn _ ab _ _ hS.ar hS.ok _) (Loc.back (L1 := [_, _, _, _]) hL) ?_
    clear hL
    rintro u m1 L1 w hL hm1 ⟨rfl, hA1⟩
    have hL := Loc.back (L2 := [_, _, _, _]) hL
    have hS1 := (hS.grow hm1).arena hp1 hO1 hA1
    refine SReq.mk (TS.of hL hm1) ?_
    refine goq ?_; try (clear hL; intro w hL)
    have hi64 := (okB_not hS.ok (okId_i64 hlen hp.1.1)).2
    refine CallReq.mk (L1 := stL ab sb b bits _ ma ml _ _ _) (L2 := [_]) (ih _ _ _ _ _ _ _ hS1 hi64 (fun hy => Nat.lt_of_le_of_lt (hd1' hy) (by omega))) (Loc.back (L1 := [_]) hL) ?_
    clear hL
    rintro u m2 L2 w hL hm2 ⟨ns2, e2, la2, ll2, La2, f2, hp2, hS2, rfl, hf2, hb2⟩
    obtain ⟨A2, n2, c2, rfl, -⟩ := id hf2
    have hL := Loc.back (L1 := stL ab sb b bits e2 ma ml la2 ll2 La2) (L2 := [_]) hL
    refine SReq.mk (TS.of hL (hm1.trans hm2)) ?_
    refine goq ?_; try (clear hL; intro w hL)
    have hq2 := hp1.trans hp2
    have hbk := okId_pre hq2 hp.2.1
    have hO3 := notN_ok hS2.ok (okId_i64 hS2.ok.len hbk)
    have hp3 := notN_pre ns2 b'
    have hd3 := fun hy => dep_not hS2.ok hbk hy
    rw [dep_grow hS.ok hS2.ok hq2 hp.2.1] at hd3
    have hi3 := (okB_not hS2.ok (okId_i64 hS2.ok.len hbk)).2
    refine CallReq.mk (L1 := _) (L2 := [_, _, _, _]) (NotG_fn _ ab _ _ hS2.ar hS2.ok _) (Loc.back (L1 := [_, _, _, _]) hL) ?_
    clear hL
    rintro u m3 L3 w hL hm3 ⟨rfl, hA3⟩
    have hL := Loc.back (L2 := [_, _, _, _]) hL
    have hS3 := (hS2.grow hm3).arena hp3 hO3 hA3
    refine SReq.mk (TS.of hL (hm1.trans (hm2.trans hm3))) ?_
    refine goq ?_; try (clear hL; intro w hL)
    refine CallReq.mk (L1 := stL ab sb b bits _ ma ml _ _ _) (L2 := [_]) (ih _ _ _ _ _ _ _ hS3 hi3 (fun hy => Nat.lt_of_le_of_lt (hd3 hy) (by omega))) (Loc.back (L1 := [_]) hL) ?_
    clear hL
    rintro u m4 L4 w hL hm4 ⟨ns4, e4, la4, ll4, La4, f4, hp4, hS4, rfl, hf4, hb4⟩
    obtain ⟨A4, n4, c4, rfl, -⟩ := id hf4
    have hL := Loc.back (L1 := stL ab sb b bits e4 ma ml la4 ll4 La4) (L2 := [_]) hL
    refine SReq.mk (TS.of hL (hm1.trans (hm2.trans (hm3.trans hm4)))) ?_
    refine goq ?_; try (clear hL; intro w hL)
    refine CallReq.mk (L1 := [_]) (L2 := _ :: (ma, mapW _) :: (ml, mapW _) :: _) (or_fn _ ab sb b bits e4 ma ml _ _ f2 f4 ns4.length hS4.ok.len hS4.err (hf2.le (hm3.trans hm4)) hf4 (hb2.mono (hp3.trans hp4).length_le) hb4) (hL.perm (List.Perm.swap _ _ _)) ?_
    clear hL
    rintro u m5 L5 w hL hm5 ⟨e5, r5, he5, rfl, hr5, hb5⟩
    obtain ⟨A5, n5, c5, rfl, -⟩ := id hr5
    have hL := hL.perm (List.Perm.swap _ _ _)
    refine SReq.mk (TS.of hL (hm1.trans (hm2.trans (hm3.trans (hm4.trans hm5))))) ?_
    refine goq ?_; try (clear hL; intro w hL)
    exact RetReq.mk hL.drop ⟨ns4, e5, la4, ll4, La4, r5, hq2.trans (hp3.trans hp4), (hS4.grow hm5).errs he5, rfl, hr5, hb5⟩
  conv => whnf
  repeat ((first | refine BrReq.no (by omega) ?_ | (refine go1 ?_; try (clear hL; intro w hL))); conv => whnf)
  refine CallReq.pure (atomG_fn m i0 h0) hL ?_
  clear hL
  rintro u m1 w hL hm1 hf
  obtain ⟨A1, n1, c1, rfl, -⟩ := id hf
  refine go ?_; try (clear hL; intro w hL)
  exact RetReq.mk hL.drop ⟨ns, e, la, ll, La, [[i0]], List.prefix_refl _, hS.grow hm1, rfl, hf, atom_FB h0 hid.2⟩
set_option maxHeartbeats 4000000 in
theorem make_fn {k : Nat} (ih : OfC ab sb b bits ma ml k) (hS : Stp ab sb b bits m ns e ma ml la ll La) (i0 : Int) (x : Nd) (hid : okId ns i0) (hx : nodeN ns i0 = (x, true)) (hd : dep ns i0 ≤ k) :
    Ev.Fn Tryz.prog 103 [.pointer (some ⟨sb, 0, none⟩), .int .i64 i0, .agg (toArr (ndC x))] m (stL ab sb b bits e ma ml la ll La) (StQ ab sb b bits ns ma ml) := by
  have hlen := hS.ok.len
  have hkx : kindN ns i0 = x.k := by unfold kindN; rw [hx]
  have h2 := dep_two hS.ok hid
  rw [hkx, hx] at h2
  have hpt := parts_lt hS.ok hid
  rw [hkx, hx] at hpt
  have h0 := hid.1
  refine Fn.enter (N := 45) hX Tryz.func103 rfl rfl (by show _ ≤ _; simp) (fun w0 hL => ?_)
  conv => whnf
  generalize keys (stL ab sb b bits e ma ml la ll La) = S0 at hL ⊢
  refine NewReq.mk hL ?_
  clear hL
  intro bn w hL
  conv => whnf
  obtain ⟨xk, s0, s1, s2, s3, a, b', neg⟩ := x
  simp only at h2 hpt hkx
  by_cases k0 : xk = 0
  · subst k0
    refine go ?_; try (clear hL; intro w hL)
    refine CallReq.val (fo.false_fn m) hL ?_
    clear hL
    intro w hL
    refine go ?_; try (clear hL; intro w hL)
    exact RetReq.mk hL.drop ⟨ns, e, la, ll, La, [], List.prefix_refl _, hS, rfl, Sl.nil _ _ _, fo.FB.nil _⟩
  by_cases k4 : xk = 4
  · subst k4
    have hk := h2 (by omega)
    have hp := hpt (by omega)
    refine go ?_; try (clear hL; intro w hL)
    refine DrawReq.planS hX (.fst 0 (.fst 1 (.fst 2 (.fst 3 (.fst 5 (.fst 6 (.fst 7 (.alt 4 (.alt 8 (.alt 9 (.fst 10 (.done)) (.stop)) (.stop)) (.stop))))))))) (TS m S0 w0 bn sb ab b bits ma ml ⟨4, s0, s1, s2, s3, a, b', neg⟩) (by kernel_rfl) (by kernel_rfl) hL (fun w h => TS.of h (Mem.Le.refl _)) ?_
    clear hL
    intro w hL
    conv => whnf
    repeat ((first | refine QLdReq.told hX rfl rfl TS.gab ?_ | refine QLdReq.told hX rfl rfl TS.ga ?_ | refine QLdReq.told hX rfl rfl TS.gb ?_ | (refine goq1 ?_; try (clear hL; intro w hL))); conv => whnf)
    refine CallReq.mk (L1 := stL ab sb b bits _ ma ml _ _ _) (L2 := [_]) (ih _ _ _ _ _ _ _ hS (okId_i64 hlen hp.1.1) (fun _ => Nat.lt_of_lt_of_le hk.1 hd)) (Loc.back (L1 := [_]) hL) ?_
    clear hL
    rintro u m2 L2 w hL hm2 ⟨ns2, e2, la2, ll2, La2, f2, hp2, hS2, rfl, hf2, hb2⟩
    obtain ⟨A2, n2, c2, rfl, -⟩ := id hf2
    have hL := Loc.back (L1 := stL ab sb b bits e2 ma ml la2 ll2 La2) (L2 := [_]) hL
    refine SReq.mk (TS.of hL hm2) ?_
    refine goq ?_; try (clear hL; intro w hL)
    have hbk := okId_pre hp2 hp.2.1
    have hdb := dep_grow hS.ok hS2.ok hp2 hp.2.1
    refine CallReq.mk (L1 := stL ab sb b bits _ ma ml _ _ _) (L2 := [_]) (ih _ _ _ _ _ _ _ hS2 (okId_i64 hS2.ok.len hbk) (fun _ => by rw [hdb]; exact Nat.lt_of_lt_of_le hk.2 hd)) (Loc.back (L1 := [_]) hL) ?_
    clear hL
    rintro u m4 L4 w hL hm4 ⟨ns4, e4, la4, ll4, La4, f4, hp4, hS4, rfl, hf4, hb4⟩
    obtain ⟨A4, n4, c4, rfl, -⟩ := id hf4
    have hL := Loc.back (L1 := stL ab sb b bits e4 ma ml la4 ll4 La4) (L2 := [_]) hL
    refine SReq.mk (TS.of hL (hm2.trans hm4)) ?_
    refine goq ?_; try (clear hL; intro w hL)
    refine CallReq.mk (L1 := [_]) (L2 := _ :: (ma, mapW _) :: (ml, mapW _) :: _) (or_fn _ ab sb b bits e4 ma ml _ _ f2 f4 ns4.length hS4.ok.len hS4.err (hf2.le hm4) hf4 (hb2.mono hp4.length_le) hb4) (hL.perm (List.Perm.swap _ _ _)) ?_
    clear hL
    rintro u m5 L5 w hL hm5 ⟨e5, r5, he5, rfl, hr5, hb5⟩
    obtain ⟨A5, n5, c5, rfl, -⟩ := id hr5
    have hL := hL.perm (List.Perm.swap _ _ _)
    refine SReq.mk (TS.of hL (hm2.trans (hm4.trans hm5))) ?_
    refine goq ?_; try (clear hL; intro w hL)
    exact RetReq.mk hL.drop ⟨ns4, e5, la4, ll4, La4, r5, hp2.trans hp4, (hS4.grow hm5).errs he5, rfl, hr5, hb5⟩
  by_cases k5 : xk = 5
  · subst k5
    have hk := h2 (by omega)
    have hp := hpt (by omega)
    refine go ?_; try (clear hL; intro w hL)
    refine DrawReq.planS hX (.fst 0 (.fst 1 (.fst 2 (.fst 3 (.fst 5 (.fst 6 (.fst 7 (.alt 4 (.alt 8 (.alt 9 (.fst 10 (.done)) (.stop)) (.stop)) (.stop))))))))) (TS m S0 w0 bn sb ab b bits ma ml ⟨5, s0, s1, s2, s3, a, b', neg⟩) (by kernel_rfl) (by kernel_rfl) hL (fun w h => TS.of h (Mem.Le.refl _)) ?_
    clear hL
    intro w hL
    conv => whnf
    repeat ((first | refine QLdReq.told hX rfl rfl TS.gab ?_ | refine QLdReq.told hX rfl rfl TS.ga ?_ | refine QLdReq.told hX rfl rfl TS.gb ?_ | (refine goq1 ?_; try (clear hL; intro w hL))); conv => whnf)
    refine CallReq.mk (L1 := stL ab sb b bits _ ma ml _ _ _) (L2 := [_]) (ih _ _ _ _ _ _ _ hS (okId_i64 hlen hp.1.1) (fun _ => Nat.lt_of_lt_of_le hk.1 hd)) (Loc.back (L1 := [_]) hL) ?_
    clear hL
    rintro u m2 L2 w hL hm2 ⟨ns2, e2, la2, ll2, La2, f2, hp2, hS2, rfl, hf2, hb2⟩
    obtain ⟨A2, n2, c2, rfl, -⟩ := id hf2
    have hL := Loc.back (L1 := stL ab sb b bits e2 ma ml la2 ll2 La2) (L2 := [_]) hL
    refine SReq.mk (TS.of hL hm2) ?_
    refine goq ?_; try (clear hL; intro w hL)
    have hbk := okId_pre hp2 hp.2.1
    have hdb := dep_grow hS.ok hS2.ok hp2 hp.2.1
    refine CallReq.mk (L1 := stL ab sb b bits _ ma ml _ _ _) (L2 := [_]) (ih _ _ _ _ _ _ _ hS2 (okId_i64 hS2.ok.len hbk) (fun _ => by rw [hdb]; exact Nat.lt_of_lt_of_le hk.2 hd)) (Loc.back (L1 := [_]) hL) ?_
    clear hL
    rintro u m4 L4 w hL hm4 ⟨ns4, e4, la4, ll4, La4, f4, hp4, hS4, rfl, hf4, hb4⟩
    obtain ⟨A4, n4, c4, rfl, -⟩ := id hf4
    have hL := Loc.back (L1 := stL ab sb b bits e4 ma ml la4 ll4 La4) (L2 := [_]) hL
    refine SReq.mk (TS.of hL (hm2.trans hm4)) ?_
    refine goq ?_; try (clear hL; intro w hL)
    refine CallReq.mk (L1 := [_]) (L2 := _ :: (ma, mapW _) :: (ml, mapW _) :: _) (and_fn _ ab sb b bits e4 ma ml _ _ f2 f4 ns4.length hS4.ok.len hS4.err (hf2.le hm4) hf4 (hb2.mono hp4.length_le) hb4) (hL.perm (List.Perm.swap _ _ _)) ?_
    clear hL
    rintro u m5 L5 w hL hm5 ⟨e5, r5, he5, rfl, hr5, hb5⟩
    obtain ⟨A5, n5, c5, rfl, -⟩ := id hr5
    have hL := hL.perm (List.Perm.swap _ _ _)
    refine SReq.mk (TS.of hL (hm2.trans (hm4.trans hm5))) ?_
    refine goq ?_; try (clear hL; intro w hL)
    exact RetReq.mk hL.drop ⟨ns4, e5, la4, ll4, La4, r5, hp2.trans hp4, (hS4.grow hm5).errs he5, rfl, hr5, hb5⟩
  by_cases k6 : xk = 6
  · subst k6
    refine go ?_; try (clear hL; intro w hL)
    refine CallReq.mk (L1 := stL ab sb b bits _ ma ml _ _ _) (L2 := [_]) (not_fn ih hS i0 a hid hkx (by rw [hx]) hd) (Loc.back (L1 := [_]) hL) ?_
    clear hL
    rintro u m2 L2 w hL hm2 ⟨ns2, e2, la2, ll2, La2, f2, hp2, hS2, rfl, hf2, hb2⟩
    obtain ⟨A2, n2, c2, rfl, -⟩ := id hf2
    have hL := Loc.back (L1 := stL ab sb b bits e2 ma ml la2 ll2 La2) (L2 := [_]) hL
    refine go ?_; try (clear hL; intro w hL)
    exact RetReq.mk hL.drop ⟨ns2, e2, la2, ll2, La2, f2, hp2, hS2, rfl, hf2, hb2⟩
  conv => whnf
  repeat ((first | refine BrReq.no (by omega) ?_ | (refine go1 ?_; try (clear hL; intro w hL))); conv => whnf)
  refine CallReq.pure (atomG_fn m i0 h0) hL ?_
  clear hL
  rintro u m1 w hL hm1 hf
  obtain ⟨A1, n1, c1, rfl, -⟩ := id hf
  refine go ?_; try (clear hL; intro w hL)
  exact RetReq.mk hL.drop ⟨ns, e, la, ll, La, [[i0]], List.prefix_refl _, hS.grow hm1, rfl, hf, atom_FB h0 hid.2⟩
set_option maxHeartbeats 4000000 in
theorem of_fn (ab sb b bits ma ml : Nat) : ∀ k, OfC ab sb b bits ma ml k := by
  intro k
  induction k with
  | zero =>
    intro m ns e la ll La i0 hS hi hd
    have hno : ¬ okId ns i0 := fun h => absurd (hd h) (Nat.not_lt_zero _)
    have hnode := Node_fn m ab ns La hS.ar i0
    rw [show nodeN ns i0 = (nd0, false) by unfold nodeN; exact if_neg hno] at hnode
    refine Fn.enter (N := 51) hX Tryz.func72 rfl rfl (by show _ ≤ _; simp) (fun w0 hL => ?_)
    conv => whnf
    generalize keys (stL ab sb b bits e ma ml la ll La) = S0 at hL ⊢
    refine go ?_; try (clear hL; intro w hL)
    refine CallReq.li (L1 := La) hnode (Loc.back (L1 := [_, _, _]) hL) ?_
    clear hL
    intro w hL
    have hL := Loc.back (L1 := La) (L2 := [_, _, _]) hL
    refine go ?_; try (clear hL; intro w hL)
    refine NewReq.mk hL ?_
    clear hL
    intro bn w hL
    conv => whnf
    refine go ?_; try (clear hL; intro w hL)
    refine CallReq.mk (L1 := [_]) (L2 := _ :: (ma, mapW _) :: (ml, mapW _) :: _) (keep_fn m ab sb b bits e 4 ma ml (.slice none 0 0) [] (Sl.nil _ _ _)) (hL.perm (List.Perm.swap _ _ _)) ?_
    clear hL
    rintro u m5 L5 w hL - ⟨rfl, rfl, rfl⟩
    have hL := hL.perm (List.Perm.swap _ _ _)
    refine go ?_; try (clear hL; intro w hL)
    exact RetReq.mk hL.drop ⟨ns, _, la, ll, La, [], List.prefix_refl _, hS.errs (keepOk hS.err (.inr rfl)), rfl, Sl.nil _ _ _, fo.FB.nil _⟩
  | succ k ih =>
    intro m ns e la ll La i0 hS hi hd
    by_cases hid : okId ns i0
    rotate_left
    · have hnode := Node_fn m ab ns La hS.ar i0
      rw [show nodeN ns i0 = (nd0, false) by unfold nodeN; exact if_neg hid] at hnode
      refine Fn.enter (N := 51) hX Tryz.func72 rfl rfl (by show _ ≤ _; simp) (fun w0 hL => ?_)
      conv => whnf
      generalize keys (stL ab sb b bits e ma ml la ll La) = S0 at hL ⊢
      refine go ?_; try (clear hL; intro w hL)
      refine CallReq.li (L1 := La) hnode (Loc.back (L1 := [_, _, _]) hL) ?_
      clear hL
      intro w hL
      have hL := Loc.back (L1 := La) (L2 := [_, _, _]) hL
      refine go ?_; try (clear hL; intro w hL)
      refine NewReq.mk hL ?_
      clear hL
      intro bn w hL
      conv => whnf
      refine go ?_; try (clear hL; intro w hL)
      refine CallReq.mk (L1 := [_]) (L2 := _ :: (ma, mapW _) :: (ml, mapW _) :: _) (keep_fn m ab sb b bits e 4 ma ml (.slice none 0 0) [] (Sl.nil _ _ _)) (hL.perm (List.Perm.swap _ _ _)) ?_
      clear hL
      rintro u m5 L5 w hL - ⟨rfl, rfl, rfl⟩
      have hL := hL.perm (List.Perm.swap _ _ _)
      refine go ?_; try (clear hL; intro w hL)
      exact RetReq.mk hL.drop ⟨ns, _, la, ll, La, [], List.prefix_refl _, hS.errs (keepOk hS.err (.inr rfl)), rfl, Sl.nil _ _ _, fo.FB.nil _⟩
    obtain ⟨x, hx1, hx2⟩ := nodeN_ok hid
    have hnode := Node_fn m ab ns La hS.ar i0
    rw [hx1] at hnode
    simp only at hnode
    have hks := hS.are.keys
    have hmk := fun hd => make_fn (m := m) ih hS i0 x hid hx1 hd
    refine Fn.enter (N := 51) hX Tryz.func72 rfl rfl (by show _ ≤ _; simp) (fun w0 hL => ?_)
    conv => whnf
    generalize keys (stL ab sb b bits e ma ml la ll La) = S0 at hL ⊢
    refine go ?_; try (clear hL; intro w hL)
    refine CallReq.li (L1 := La) hnode (Loc.back (L1 := [_, _, _]) hL) ?_
    clear hL
    intro w hL
    have hL := Loc.back (L1 := La) (L2 := [_, _, _]) hL
    refine go ?_; try (clear hL; intro w hL)
    refine NewReq.mk hL ?_
    clear hL
    intro bn w hL
    conv => whnf
    refine go ?_; try (clear hL; intro w hL)
    refine RunReq.lookW hX rfl rfl key_int (z := .slice none 0 0) (by kernel_rfl) hL (.t (.t .h)) (isK_int _ hi) hks (fun hno => ?_) (fun v hv => ?_)
    rotate_left
    · obtain ⟨kk, f, -, -, hf, hb⟩ := hS.are _ hv
      obtain ⟨A1, n1, c1, rfl, -⟩ := id hf
      refine go ?_; try (clear hL; intro w hL)
      exact RetReq.mk hL.drop ⟨ns, e, la, ll, La, f, List.prefix_refl _, hS, rfl, hf, hb⟩
    by_cases h0 : e = 0
    rotate_left
    · conv => whnf
      repeat ((first | refine BrReq.no (by omega) ?_ | (refine go1 ?_; try (clear hL; intro w hL))); conv => whnf)
      exact RetReq.mk hL.drop ⟨ns, e, la, ll, La, [], List.prefix_refl _, hS, rfl, Sl.nil _ _ _, fo.FB.nil _⟩
    subst h0
    refine go ?_; try (clear hL; intro w hL)
    refine CallReq.mk (L1 := stL ab sb b bits _ ma ml _ _ _) (L2 := [_]) (hmk (by have := hd hid; omega)) (Loc.back (L1 := [_]) hL) ?_
    clear hL
    rintro u m2 L2 w hL hm2 ⟨ns2, e2, la2, ll2, La2, f2, hp2, hS2, rfl, hf2, hb2⟩
    obtain ⟨A2, n2, c2, rfl, -⟩ := id hf2
    have hL := Loc.back (L1 := stL ab sb b bits e2 ma ml la2 ll2 La2) (L2 := [_]) hL
    have hnew : isF m2 ns2.length (.int .i64 i0, .slice A2 n2 c2) := ⟨i0, f2, rfl, hi, hf2, hb2⟩
    refine go ?_; try (clear hL; intro w hL)
    refine RunUReq.updW hX rfl rfl key_int (k := .int .i64 i0) (v := .slice A2 n2 c2) 2 hL rfl (isK_int _ hi) hS2.are.keys (fun _ w hL => ?_) (fun q u hq w hL => ?_)
    · refine go ?_; try (clear hL; intro w hL)
      exact RetReq.mk hL.drop ⟨ns2, e2, _, ll2, La2, f2, hp2, ⟨hS2.ar, hS2.ok, hS2.are.app hnew, hS2.left, hS2.err⟩, rfl, hf2, hb2⟩
    · refine go ?_; try (clear hL; intro w hL)
      exact RetReq.mk hL.drop ⟨ns2, e2, _, ll2, La2, f2, hp2, ⟨hS2.ar, hS2.ok, hS2.are.set hnew q, hS2.left, hS2.err⟩, rfl, hf2, hb2⟩
end Go.Proofs.YtaooenndoopgdaaGreatDoor.li
namespace Go.Proofs.YtaooenndoopgdaaGreatDoor.li
open Go Go.Ev Go.Proofs Go.Proofs.YtaooenndoopgdaaGreatDoor.ar
theorem p1 {m0 m : Mem} {S : List Nat} {w0 w : World} {x y : Nat × Obj} {L : Ev.Own} (h : Ev.Loc m0 S w0 m ([x] ++ (y :: L)) w) : Ev.Loc m0 S w0 m ([y] ++ ([x] ++ L)) w := h.perm (List.Perm.swap _ _ _)
theorem p2 {m0 m : Mem} {S : List Nat} {w0 w : World} {x z y : Nat × Obj} {L : Ev.Own} (h : Ev.Loc m0 S w0 m ([x, z] ++ (y :: L)) w) : Ev.Loc m0 S w0 m ([y] ++ ([x, z] ++ L)) w := h.perm ((List.Perm.cons _ (List.Perm.swap _ _ _)).trans (List.Perm.swap _ _ _))
theorem q1 {m0 m : Mem} {S : List Nat} {w0 w : World} {x y : Nat × Obj} {L : Ev.Own} (h : Ev.Loc m0 S w0 m ([y] ++ ([x] ++ L)) w) : Ev.Loc m0 S w0 m ([x] ++ (y :: L)) w := h.perm (List.Perm.swap _ _ _)
theorem q2 {m0 m : Mem} {S : List Nat} {w0 w : World} {x z y : Nat × Obj} {L : Ev.Own} (h : Ev.Loc m0 S w0 m ([y] ++ ([x, z] ++ L)) w) : Ev.Loc m0 S w0 m ([x, z] ++ (y :: L)) w := h.perm ((List.Perm.swap _ _ _).trans (List.Perm.cons _ (List.Perm.swap _ _ _)))
end Go.Proofs.YtaooenndoopgdaaGreatDoor.li
namespace Go.Proofs.YtaooenndoopgdaaGreatDoor.li
open Go Go.Ev Go.Proofs Go.Proofs.YtaooenndoopgdaaGreatDoor.ar
def TG (m : Mem) (S : List Nat) (w0 : World) (Ls : Ev.Own) (sb ab b bits ma ml : Nat) (w : World) : Prop := ∃ e, Ev.Loc m S w0 m (Ls ++ [(sb, stO ab b bits e ma ml)]) w
theorem TG.own {m : Mem} {S : List Nat} {w0 : World} {Ls : Ev.Own} {sb ab b bits ma ml bk i te : Nat} {fz : Nat × Nat} {cs : List Value} {v : Value} (hx : (bk, .cells (toArr cs) te fz) ∈ Ls) (hv : cs[i]? = some v) (w : World) (h : TG m S w0 Ls sb ab b bits ma ml w) : w.cell? ((⟨bk, 0, none⟩ : Addr).add i) = some v := by
  obtain ⟨e, h⟩ := h
  rw [addr_add, Nat.zero_add, h.ownCell (List.mem_append_left _ hx)]
  simpa [toArr] using hv
end Go.Proofs.YtaooenndoopgdaaGreatDoor.li
namespace Go.Proofs.YtaooenndoopgdaaGreatDoor.li
open Go Go.Ev Go.Proofs Go.Proofs.YtaooenndoopgdaaGreatDoor.ar
theorem TG.set {m : Mem} {S : List Nat} {w0 : World} {Ls : Ev.Own} {sb ab b bits ma ml bk te : Nat} {fz : Nat × Nat} {cs vs : List Value} (hx : (bk, .cells (toArr cs) te fz) ∈ Ls) (hv : ∀ (j : Nat) (v : Value), vs[j]? = some v → cs[1 + j]? = some v) (w : World) (h : TG m S w0 Ls sb ab b bits ma ml w) (j : Nat) (v : Value) (hj : vs[j]? = some v) : w.cell? (((⟨bk, 0, none⟩ : Addr).add 1).add j) = some v := by
  have := TG.own (i := 1 + j) hx (hv j v hj) w h
  rw [addr_add] at this
  rw [addr_add, addr_add, Nat.add_assoc]; exact this
end Go.Proofs.YtaooenndoopgdaaGreatDoor.li
namespace Go.Proofs.YtaooenndoopgdaaGreatDoor.li
open Go Go.Ev Go.Proofs Go.Proofs.YtaooenndoopgdaaGreatDoor.ar
theorem h11_fn (m : Mem) (b3 : Nat) (v : Value) (l : List Int) (hl : SlI m .i64 v l) (z : Int) :
    FnL Tryz.prog 136 [.int .i64 z, .pointer (some ⟨b3, 0, none⟩)] m [(b3, .cells (toArr [v]) 53 (0, 0))] (.bool (!decide (z ∈ l))) := by
  have hc := contains_fn m v l z hl
  obtain ⟨A, n, c, rfl, -⟩ := id hl
  refine Fn.enter (N := 8) hX Tryz.func136 rfl rfl (by show _ ≤ _; simp) (fun w0 hL => ?_)
  conv => whnf
  generalize keys [(b3, Obj.cells (toArr [.slice A n c]) 53 (0, 0))] = S0 at hL ⊢
  refine go ?_; try (clear hL; intro w hL)
  refine CallReq.val hc hL ?_
  clear hL
  intro w hL
  refine go ?_; try (clear hL; intro w hL)
  exact RetReq.mk hL ⟨rfl, rfl, rfl⟩
theorem h1ix_fn (m : Mem) (b3 : Nat) (v pv : Value) (l p : List Int) (hl : SlI m .i64 v l) (hp : SlI m .i64 pv p) :
    Ev.Fn Tryz.prog 128 [pv, .func (.func 136) #[] #[.pointer (some ⟨b3, 0, none⟩)]] m [(b3, .cells (toArr [v]) 53 (0, 0))]
      fun m' L' u => m' = m ∧ L' = [(b3, .cells (toArr [v]) 53 (0, 0))] ∧ ∃ z, u = .int .i64 z ∧ (0 ≤ z ↔ ¬ fo.subP p l) := by
  obtain ⟨A, n, c, rfl, -⟩ := id hl
  obtain ⟨A1, n1, c1, rfl, hn1, hc1, hm1, -⟩ := id hp
  have hcell := hp.cell.2
  have hmx : maxLen = 9223372036854775807 := rfl
  subst hn1
  refine Fn.enter (N := 19) hX Tryz.func128 rfl rfl (by show _ ≤ _; simp) (fun w0 hL => ?_)
  conv => whnf
  generalize keys [(b3, Obj.cells (toArr [.slice A n c]) 53 (0, 0))] = S0 at hL ⊢
  refine go ?_; try (clear hL; intro w hL)
  refine LoopReq.inv hX (fun j : Nat => [(8, .int .i64 j)]) [0, 1, 7]
    (fun j w => (j ≤ p.length ∧ ∀ x ∈ p.take j, x ∈ l) ∧ Ev.Loc m S0 w0 m [(b3, .cells (toArr [.slice A n c]) 53 (0, 0))] w) (fun j => p.length - j) 0
    ⟨⟨Nat.zero_le _, by simp⟩, hL⟩ ⟨rfl, trivial⟩ ?_
  clear hL
  rintro j w g ⟨⟨hj, hdone⟩, hL⟩
  refine go ?_; try (clear hL; intro w hL)
  refine BrReq.dec (fun hlt => ?_) (fun hlt => ?_)
  · have hj1 : j < p.length := by omega
    obtain ⟨a, ea, hc'⟩ := hcell j _ (List.getElem?_eq_getElem hj1)
    conv => whnf
    repeat ((first | refine Idx2Req.mk j a rfl (by omega) ea ?_ | (refine LdReq.one hX rfl rfl hL (by rw [scale_eq, Nat.mul_one]; exact hc') ?_) | (refine go1 ?_; try (clear hL; intro w hL))); conv => whnf)
    refine CallReq.lo (h11_fn m b3 _ l hl p[j]) hL ?_
    clear hL
    intro w hL
    by_cases hx : p[j] ∈ l
    · rw [decide_eq_true hx]
      have hd : ∀ x ∈ p.take (j + 1), x ∈ l := fun x hx2 => by
        rw [fo.take_succ' hj1] at hx2
        rcases List.mem_append.1 hx2 with h | h
        · exact hdone x h
        · rw [List.mem_singleton.1 h]; exact hx
      refine go ?_; try (clear hL; intro w hL)
      refine ⟨j + 1, ⟨⟨by omega, hd⟩, hL⟩, by first | omega | (simp only; omega) | (simp only [List.length_cons, List.length_append]; omega), ?_, ?_⟩
      · repeat (first | exact trivial | (refine And.intro (by (conv => lhs; whnf) <;> (conv => rhs; whnf) <;> (first | rfl)) ?_))
      · repeat (first | exact trivial | (refine And.intro (by (conv => lhs; whnf) <;> (conv => rhs; whnf) <;> (first | rfl)) ?_))
    · rw [decide_eq_false hx]
      refine go ?_; try (clear hL; intro w hL)
      exact RetReq.mk hL ⟨rfl, rfl, _, rfl, ⟨fun _ hs => hx (hs _ (List.getElem_mem hj1)), fun _ => by omega⟩⟩
  · have ej : j = p.length := by omega
    rw [ej, List.take_length] at hdone
    refine go ?_; try (clear hL; intro w hL)
    exact RetReq.mk hL ⟨rfl, rfl, _, rfl, ⟨fun h => by omega, fun h => absurd hdone h⟩⟩
theorem h1ct_fn (m : Mem) (b3 : Nat) (v pv : Value) (l p : List Int) (hl : SlI m .i64 v l) (hp : SlI m .i64 pv p) :
    FnL Tryz.prog 114 [pv, .func (.func 136) #[] #[.pointer (some ⟨b3, 0, none⟩)]] m [(b3, .cells (toArr [v]) 53 (0, 0))] (.bool (!fo.dec (fo.subP p l))) := by
  have hix := h1ix_fn m b3 v pv l p hl hp
  obtain ⟨A, n, c, rfl, -⟩ := id hl
  obtain ⟨A1, n1, c1, rfl, -⟩ := id hp
  refine Fn.enter (N := 9) hX Tryz.func114 rfl rfl (by show _ ≤ _; simp) (fun w0 hL => ?_)
  conv => whnf
  generalize keys [(b3, Obj.cells (toArr [.slice A n c]) 53 (0, 0))] = S0 at hL ⊢
  refine go ?_; try (clear hL; intro w hL)
  refine CallReq.mk (L1 := [_]) (L2 := []) hix (by rw [List.append_nil]; exact hL) ?_
  clear hL
  rintro u mx Lx w hL - ⟨hmx, rfl, z, rfl, hz⟩
  rw [hmx] at hL
  clear hmx mx
  rw [List.append_nil] at hL
  refine go ?_; try (clear hL; intro w hL)
  have e : decide (0 ≤ z) = !fo.dec (fo.subP p l) := by
    by_cases hs : fo.subP p l
    · rw [fo.dec_t hs, decide_eq_false (fun h => hz.1 h hs)]; rfl
    · rw [fo.dec_f hs, decide_eq_true (hz.2 hs)]; rfl
  exact RetReq.mk hL ⟨rfl, rfl, congrArg Value.bool e⟩
theorem h1_fn (m : Mem) (b3 : Nat) (v pv : Value) (l p : List Int) (hl : SlI m .i64 v l) (hp : SlI m .i64 pv p) :
    FnL Tryz.prog 135 [pv, .pointer (some ⟨b3, 0, none⟩)] m [(b3, .cells (toArr [v]) 53 (0, 0))] (.bool (fo.dec (fo.subP p l))) := by
  have hct := h1ct_fn m b3 v pv l p hl hp
  obtain ⟨A, n, c, rfl, -⟩ := id hl
  obtain ⟨A1, n1, c1, rfl, -⟩ := id hp
  refine Fn.enter (N := 8) hX Tryz.func135 rfl rfl (by show _ ≤ _; simp) (fun w0 hL => ?_)
  conv => whnf
  generalize keys [(b3, Obj.cells (toArr [.slice A n c]) 53 (0, 0))] = S0 at hL ⊢
  refine go ?_; try (clear hL; intro w hL)
  refine CallReq.lo hct hL ?_
  clear hL
  intro w hL
  refine go ?_; try (clear hL; intro w hL)
  exact RetReq.mk hL ⟨rfl, rfl, congrArg Value.bool (Bool.not_not _)⟩
theorem hix_fn (m : Mem) (b3 : Nat) (v fv : Value) (l : List Int) (f : fo.Fml) (hfl : f.length ≤ 200) (hl : SlI m .i64 v l) (hf : fo.FmV m fv f) :
    Ev.Fn Tryz.prog 173 [fv, .func (.func 135) #[] #[.pointer (some ⟨b3, 0, none⟩)]] m [(b3, .cells (toArr [v]) 53 (0, 0))]
      fun m' L' u => m' = m ∧ L' = [(b3, .cells (toArr [v]) 53 (0, 0))] ∧ ∃ z, u = .int .i64 z ∧ (0 ≤ z ↔ fo.holdsP f l) := by
  have hh := fun pv p hp => h1_fn m b3 v pv l p hl hp
  obtain ⟨A, n, c, rfl, -⟩ := id hl
  obtain ⟨A1, n1, c1, rfl, hn1, -⟩ := id hf
  have hmx : maxLen = 9223372036854775807 := rfl
  subst hn1
  refine Fn.enter (N := 19) hX Tryz.func173 rfl rfl (by show _ ≤ _; simp) (fun w0 hL => ?_)
  conv => whnf
  generalize keys [(b3, Obj.cells (toArr [.slice A n c]) 53 (0, 0))] = S0 at hL ⊢
  refine go ?_; try (clear hL; intro w hL)
  refine LoopReq.inv hX (fun j : Nat => [(8, .int .i64 j)]) [0, 1, 7]
    (fun j w => (j ≤ f.length ∧ ∀ x ∈ f.take j, ¬ fo.subP x l) ∧ Ev.Loc m S0 w0 m [(b3, .cells (toArr [.slice A n c]) 53 (0, 0))] w) (fun j => f.length - j) 0
    ⟨⟨Nat.zero_le _, by simp⟩, hL⟩ ⟨rfl, trivial⟩ ?_
  clear hL
  rintro j w g ⟨⟨hj, hdone⟩, hL⟩
  refine go ?_; try (clear hL; intro w hL)
  refine BrReq.dec (fun hlt => ?_) (fun hlt => ?_)
  · have hj1 : j < f.length := by omega
    obtain ⟨a5, A5, n5, c5, ea, hcell, hpq⟩ := hf.at_ hj1
    conv => whnf
    repeat ((first | refine Idx2Req.mk j a5 rfl (by omega) ea ?_ | refine LdReq.one hX rfl rfl hL hcell ?_ | (refine go1 ?_; try (clear hL; intro w hL))); conv => whnf)
    refine CallReq.lo (hh _ f[j] hpq) hL ?_
    clear hL
    intro w hL
    by_cases hx : fo.subP f[j] l
    · rw [fo.dec_t hx]
      refine go ?_; try (clear hL; intro w hL)
      exact RetReq.mk hL ⟨rfl, rfl, _, rfl, ⟨fun _ => ⟨_, List.getElem_mem hj1, hx⟩, fun _ => by omega⟩⟩
    · rw [fo.dec_f hx]
      have hd : ∀ x ∈ f.take (j + 1), ¬ fo.subP x l := fun x hx2 => by
        rw [fo.take_succ' hj1] at hx2
        rcases List.mem_append.1 hx2 with h | h
        · exact hdone x h
        · rw [List.mem_singleton.1 h]; exact hx
      refine go ?_; try (clear hL; intro w hL)
      refine ⟨j + 1, ⟨⟨by omega, hd⟩, hL⟩, by first | omega | (simp only; omega) | (simp only [List.length_cons, List.length_append]; omega), ?_, ?_⟩
      · repeat (first | exact trivial | (refine And.intro (by (conv => lhs; whnf) <;> (conv => rhs; whnf) <;> (first | rfl)) ?_))
      · repeat (first | exact trivial | (refine And.intro (by (conv => lhs; whnf) <;> (conv => rhs; whnf) <;> (first | rfl)) ?_))
  · have ej : j = f.length := by omega
    rw [ej, List.take_length] at hdone
    refine go ?_; try (clear hL; intro w hL)
    exact RetReq.mk hL ⟨rfl, rfl, _, rfl, ⟨fun h => by omega, fun ⟨p, hp, hs⟩ => absurd hs (hdone p hp)⟩⟩
theorem hct_fn (m : Mem) (b3 : Nat) (v fv : Value) (l : List Int) (f : fo.Fml) (hfl : f.length ≤ 200) (hl : SlI m .i64 v l) (hf : fo.FmV m fv f) :
    FnL Tryz.prog 134 [fv, .func (.func 135) #[] #[.pointer (some ⟨b3, 0, none⟩)]] m [(b3, .cells (toArr [v]) 53 (0, 0))] (.bool (fo.dec (fo.holdsP f l))) := by
  have hix := hix_fn m b3 v fv l f hfl hl hf
  obtain ⟨A, n, c, rfl, -⟩ := id hl
  obtain ⟨A1, n1, c1, rfl, -⟩ := id hf
  refine Fn.enter (N := 9) hX Tryz.func134 rfl rfl (by show _ ≤ _; simp) (fun w0 hL => ?_)
  conv => whnf
  generalize keys [(b3, Obj.cells (toArr [.slice A n c]) 53 (0, 0))] = S0 at hL ⊢
  refine go ?_; try (clear hL; intro w hL)
  refine CallReq.mk (L1 := [_]) (L2 := []) hix (by rw [List.append_nil]; exact hL) ?_
  clear hL
  rintro u mx Lx w hL - ⟨hmx, rfl, z, rfl, hz⟩
  rw [hmx] at hL
  clear hmx mx
  rw [List.append_nil] at hL
  refine go ?_; try (clear hL; intro w hL)
  have e : decide (0 ≤ z) = fo.dec (fo.holdsP f l) := by
    by_cases hs : fo.holdsP f l
    · rw [fo.dec_t hs, decide_eq_true (hz.2 hs)]
    · rw [fo.dec_f hs, decide_eq_false (fun h => hs (hz.1 h))]
  exact RetReq.mk hL ⟨rfl, rfl, congrArg Value.bool e⟩
theorem Holds_fn (m : Mem) (v fv : Value) (l : List Int) (f : fo.Fml) (hfl : f.length ≤ 200) (hl : SlI m .i64 v l) (hf : fo.FmV m fv f) :
    FnV Tryz.prog 91 [fv, v] m (.bool (fo.dec (fo.holdsP f l))) := by
  have hct := fun b3 => hct_fn m b3 v fv l f hfl hl hf
  obtain ⟨A, n, c, rfl, -⟩ := id hl
  obtain ⟨A1, n1, c1, rfl, -⟩ := id hf
  refine Fn.enter (N := 8) hX Tryz.func91 rfl rfl (by show _ ≤ _; simp) (fun w0 hL => ?_)
  conv => whnf
  refine NewReq.mk hL ?_
  clear hL
  intro b3 w hL
  conv => whnf
  refine go ?_; try (clear hL; intro w hL)
  refine CallReq.lo (hct b3) hL ?_
  clear hL
  intro w hL
  refine go ?_; try (clear hL; intro w hL)
  exact RetReq.mk (hL.sublist (List.nil_sublist _)) ⟨rfl, rfl⟩
theorem flat_le {N : Nat} {f : fo.Fml} (h : fo.FB N f) : f.flatten.length ≤ 200 * N := by
  have key : ∀ (g : fo.Fml), (∀ p ∈ g, p.length ≤ N) → g.flatten.length ≤ g.length * N := by
    intro g
    induction g with
    | nil => intro _; simp
    | cons p g ih =>
      intro hp
      have h1 := ih fun q hq => hp q (List.mem_cons_of_mem _ hq)
      have h2 := hp p List.mem_cons_self
      rw [List.flatten_cons, List.length_append, List.length_cons, Nat.succ_mul]
      omega
  have h1 := key f fun p hp => h.part hp
  have h2 := Nat.mul_le_mul_right N h.len
  omega
def atomsP (f : fo.Fml) : List Int := Lib.compact (fo.sortI f.flatten)
theorem atomsP_mem {f : fo.Fml} {z : Int} (h : z ∈ atomsP f) : ∃ p ∈ f, z ∈ p := by
  have h1 := fo.compact_mem h
  unfold fo.sortI at h1
  rw [List.mem_mergeSort] at h1
  exact List.mem_flatten.1 h1
theorem Atoms_fn (m : Mem) (fv : Value) (f : fo.Fml) (N : Nat) (hN : N ≤ 20000) (hf : fo.FmV m fv f) (hb : fo.FB N f) :
    Ev.Fn Tryz.prog 88 [fv] m [] fun m' L' u => m' = m ∧ OwnS 3 1 u (ints .i64 (atomsP f)) L' := by
  have hfl := flat_le hb
  have hfn := hb.len
  have hfi : fo.IsV m fv f := hf
  obtain ⟨A1, n1, c1, rfl, -⟩ := id hf
  refine Fn.enter (N := 10) hX Tryz.func88 rfl rfl (by show _ ≤ _; simp) (fun w0 hL => ?_)
  conv => whnf
  refine go ?_; try (clear hL; intro w hL)
  refine CallReq.mk (L1 := []) (fo.concatI_fn m _ f hfi (by omega) (by omega)) hL ?_
  clear hL
  rintro u mx L1 w hL - ⟨hmx, us, ho, hH⟩
  rw [hmx] at hL
  clear hmx mx
  unfold fo.HdI at hH
  subst hH
  obtain ⟨A, n, c, rfl, -⟩ := ho.slice
  refine go ?_; try (clear hL; intro w hL)
  refine CallReq.mk (L1 := L1) (fo.sortG_fn m A n c f.flatten L1 ho (by omega)) hL ?_
  clear hL ho
  rintro u mx L2 w hL - ⟨hmx, rfl, ho⟩
  rw [hmx] at hL
  clear hmx mx
  refine go ?_; try (clear hL; intro w hL)
  refine CallReq.mk (L1 := L2) (fo.compactG_fn m A n c _ L2 ho (by rw [fo.sortI_len]; omega)) hL ?_
  clear hL ho
  rintro u mx L3 w hL - ⟨hmx, ho⟩
  rw [hmx] at hL
  clear hmx mx
  obtain ⟨A', n', c', rfl, -⟩ := ho.slice
  rw [List.append_nil] at hL
  refine go ?_; try (clear hL; intro w hL)
  exact RetReq.mk hL ⟨rfl, ho⟩
theorem right1_fn (m : Mem) (ab b2 : Nat) (ns : List Nd) (La : Ev.Own) (hA : Ar ab ns La) (z : Int) :
    FnL Tryz.prog 115 [.int .i64 z, .pointer (some ⟨b2, 0, none⟩)] m ((b2, .cells (toArr [.pointer (some ⟨ab, 0, none⟩)]) 95 (0, 0)) :: La) (.bool (decide ((ns.length : Int) ≤ z))) := by
  obtain ⟨A, c, mb, L1, rfl, ho⟩ := hA
  refine Fn.enter (N := 8) hX Tryz.func115 rfl rfl (by show _ ≤ _; simp) (fun w0 hL => ?_)
  conv => whnf
  generalize keys ((b2, Obj.cells (toArr [.pointer (some ⟨ab, 0, none⟩)]) 95 (0, 0)) :: (ab, arO (.slice A ns.length c) mb) :: (mb, mapW (ndW ns 0)) :: L1) = S0 at hL ⊢
  refine go ?_; try (clear hL; intro w hL)
  refine CallReq.li (L1 := [(ab, arO (.slice A ns.length c) mb)]) (L2 := (b2, .cells (toArr [.pointer (some ⟨ab, 0, none⟩)]) 95 (0, 0)) :: (mb, mapW (ndW ns 0)) :: L1) (Len_fn m ab mb ns.length c A) (hL.perm (List.Perm.swap _ _ _)) ?_
  clear hL
  intro w hL
  have hL := hL.perm (List.Perm.swap _ _ _)
  refine go ?_; try (clear hL; intro w hL)
  exact RetReq.mk hL ⟨rfl, rfl, congrArg Value.bool (decide_eq_decide.2 (by omega))⟩
theorem rightIx_fn (m : Mem) (ab b2 : Nat) (ns : List Nd) (La : Ev.Own) (hA : Ar ab ns La) (v : Value) (l : List Int) (hl : SlI m .i64 v l) (hlt : ∀ z ∈ l, z < ns.length) :
    FnL Tryz.prog 128 [v, .func (.func 115) #[] #[.pointer (some ⟨b2, 0, none⟩)]] m ((b2, .cells (toArr [.pointer (some ⟨ab, 0, none⟩)]) 95 (0, 0)) :: La) (.int .i64 (-1)) := by
  obtain ⟨A1, n1, c1, rfl, hn1, hc1, hm1, -⟩ := id hl
  have hcell := hl.cell.2
  have hmx : maxLen = 9223372036854775807 := rfl
  subst hn1
  refine Fn.enter (N := 19) hX Tryz.func128 rfl rfl (by show _ ≤ _; simp) (fun w0 hL => ?_)
  conv => whnf
  generalize keys ((b2, Obj.cells (toArr [.pointer (some ⟨ab, 0, none⟩)]) 95 (0, 0)) :: La) = S0 at hL ⊢
  refine go ?_; try (clear hL; intro w hL)
  refine LoopReq.inv hX (fun j : Nat => [(8, .int .i64 j)]) [0, 1, 7]
    (fun j w => j ≤ l.length ∧ Ev.Loc m S0 w0 m ((b2, .cells (toArr [.pointer (some ⟨ab, 0, none⟩)]) 95 (0, 0)) :: La) w) (fun j => l.length - j) 0 ⟨Nat.zero_le _, hL⟩ ⟨rfl, trivial⟩ ?_
  clear hL
  rintro j w g ⟨hj, hL⟩
  refine go ?_; try (clear hL; intro w hL)
  refine BrReq.dec (fun hlt2 => ?_) (fun hlt2 => ?_)
  · have hj1 : j < l.length := by omega
    obtain ⟨a, ea, hc'⟩ := hcell j _ (List.getElem?_eq_getElem hj1)
    have hx := hlt _ (List.getElem_mem hj1)
    conv => whnf
    repeat ((first | refine Idx2Req.mk j a rfl (by omega) ea ?_ | (refine LdReq.one hX rfl rfl hL (by rw [scale_eq, Nat.mul_one]; exact hc') ?_) | (refine go1 ?_; try (clear hL; intro w hL))); conv => whnf)
    refine CallReq.lo (right1_fn m ab b2 ns La hA l[j]) hL ?_
    clear hL
    intro w hL
    rw [decide_eq_false (by omega)]
    refine go ?_; try (clear hL; intro w hL)
    refine ⟨j + 1, ⟨by omega, hL⟩, by first | omega | (simp only; omega) | (simp only [List.length_cons, List.length_append]; omega), ?_, ?_⟩
    · repeat (first | exact trivial | (refine And.intro (by (conv => lhs; whnf) <;> (conv => rhs; whnf) <;> (first | rfl)) ?_))
    · repeat (first | exact trivial | (refine And.intro (by (conv => lhs; whnf) <;> (conv => rhs; whnf) <;> (first | rfl)) ?_))
  · refine go ?_; try (clear hL; intro w hL)
    exact RetReq.mk hL ⟨rfl, rfl, rfl⟩
theorem right_fn (m : Mem) (ab : Nat) (ns : List Nd) (La : Ev.Own) (hA : Ar ab ns La) (hO : OkA ns) (fv : Value) (f : fo.Fml) (hf : fo.FmV m fv f) (hb : fo.FB ns.length f) :
    FnM Tryz.prog 80 [.pointer (some ⟨ab, 0, none⟩), fv] m La (.bool true) := by
  have hformed := fo.Formed_fn m fv f hf
  rw [fo.dec_t hb.formed] at hformed
  have hat := Atoms_fn m fv f ns.length hO.len hf hb
  have hlt : ∀ z ∈ atomsP f, z < (ns.length : Int) := fun z hz => by obtain ⟨p, hp, hzp⟩ := atomsP_mem hz; exact hb.lt p hp z hzp
  obtain ⟨A1, n1, c1, rfl, -⟩ := id hf
  refine Fn.enter (N := 18) hX Tryz.func80 rfl rfl (by show _ ≤ _; simp) (fun w0 hL => ?_)
  conv => whnf
  generalize keys La = S0 at hL ⊢
  refine NewReq.mk hL ?_
  clear hL
  intro b2 w hL
  conv => whnf
  conv => whnf
  repeat ((first | refine UGenReq.nilPtrNe hX rfl rfl rfl rfl rfl ?_ | (refine go1 ?_; try (clear hL; intro w hL))); conv => whnf)
  refine CallReq.val hformed hL ?_
  clear hL
  intro w hL
  refine go ?_; try (clear hL; intro w hL)
  refine CallReq.mk (L1 := []) hat hL ?_
  clear hL
  rintro u mx Lo w hL - ⟨hmx, ho⟩
  rw [hmx] at hL
  clear hmx mx
  obtain ⟨m1, hL1, hm1, hs⟩ := OwnS.freeze ho hL
  clear hL
  have hL := hL1
  clear hL1
  have hix := fun b2 => rightIx_fn m1 ab b2 ns La hA _ _ hs hlt
  obtain ⟨Ao, no, co, rfl, -⟩ := id hs
  have hct : FnL Tryz.prog 114 [.slice Ao no co, .func (.func 115) #[] #[.pointer (some ⟨b2, 0, none⟩)]] m1 ((b2, .cells (toArr [.pointer (some ⟨ab, 0, none⟩)]) 95 (0, 0)) :: La) (.bool false) := by
    clear hL
    refine Fn.enter (N := 9) hX Tryz.func114 rfl rfl (by show _ ≤ _; simp) (fun w0 hL => ?_)
    conv => whnf
    generalize keys ((b2, Obj.cells (toArr [.pointer (some ⟨ab, 0, none⟩)]) 95 (0, 0)) :: La) = S1 at hL ⊢
    refine go ?_; try (clear hL; intro w hL)
    refine CallReq.lo (hix b2) hL ?_
    clear hL
    intro w hL
    refine go ?_; try (clear hL; intro w hL)
    exact RetReq.mk hL ⟨rfl, rfl, rfl⟩
  refine go ?_; try (clear hL; intro w hL)
  refine CallReq.lo hct hL ?_
  clear hL
  intro w hL
  refine go ?_; try (clear hL; intro w hL)
  exact RetReq.mk hL.drop ⟨rfl, rfl⟩
end Go.Proofs.YtaooenndoopgdaaGreatDoor.li
namespace Go.Proofs.YtaooenndoopgdaaGreatDoor.li
open Go Go.Ev Go.Proofs Go.Proofs.YtaooenndoopgdaaGreatDoor.ar
def nulP (ns : List Nd) (bits : Nat) (z : Int) : Bool := if 0 ≤ z ∧ z < ns.length then nulN bits ns z.toNat else false
abbrev accL (ab b3 b5 bits : Nat) (La : Ev.Own) : Ev.Own := (b5, .cells (toArr [.int .u8 bits]) 5 (0, 0)) :: (b3, .cells (toArr [.pointer (some ⟨ab, 0, none⟩)]) 95 (0, 0)) :: La
theorem acc1_fn (m : Mem) (ab b3 b5 bits : Nat) (ns : List Nd) (La : Ev.Own) (hA : Ar ab ns La) (hO : OkA ns) (hb : bits < 256) (z : Int) :
    FnM Tryz.prog 89 [.int .i64 z, .pointer (some ⟨b3, 0, none⟩), .pointer (some ⟨b5, 0, none⟩)] m (accL ab b3 b5 bits La) (.bool (!nulP ns bits z)) := by
  have hn := Null_fn m ab bits ns La hA hO hb z
  refine Fn.enter (N := 10) hX Tryz.func89 rfl rfl (by show _ ≤ _; simp) (fun w0 hL => ?_)
  conv => whnf
  generalize keys (accL ab b3 b5 bits La) = S0 at hL ⊢
  refine go ?_; try (clear hL; intro w hL)
  refine CallReq.lm (L1 := La) (L2 := [_, _]) hn (Loc.back (L1 := [_, _]) hL) ?_
  clear hL
  intro m1 w hm1 hL
  have hL := Loc.back (L1 := La) (L2 := [_, _]) hL
  refine go ?_; try (clear hL; intro w hL)
  exact RetReq.mk hL ⟨rfl, rfl⟩
theorem accIx_fn (m : Mem) (ab b3 b5 bits : Nat) (ns : List Nd) (La : Ev.Own) (hA : Ar ab ns La) (hO : OkA ns) (hb : bits < 256) (A : Option Addr) (n c : Nat) (l : List Int) (Lo : Ev.Own) (ho : OwnS 3 1 (.slice A n c) (ints .i64 l) Lo) :
    Ev.Fn Tryz.prog 128 [.slice A n c, .func (.func 89) #[] #[.pointer (some ⟨b3, 0, none⟩), .pointer (some ⟨b5, 0, none⟩)]] m (Lo ++ accL ab b3 b5 bits La)
      fun _ L' u => L' = Lo ++ accL ab b3 b5 bits La ∧ ((u = .int .i64 (-1) ∧ ∀ y ∈ l, nulP ns bits y = true) ∨ ∃ i : Nat, u = .int .i64 i ∧ ∃ h : i < l.length, nulP ns bits l[i] = false ∧ ∀ y ∈ l.take i, nulP ns bits y = true) := by
  obtain ⟨hn, hnc, hm, hget⟩ := owns_get ho
  have hmx : maxLen = 9223372036854775807 := rfl
  refine Fn.enter (N := 19) hX Tryz.func128 rfl rfl (by show _ ≤ _; simp) (fun w0 hL => ?_)
  conv => whnf
  generalize keys (Lo ++ accL ab b3 b5 bits La) = S0 at hL ⊢
  refine go ?_; try (clear hL; intro w hL)
  refine LoopReq.inv hX (fun j : Nat => [(8, .int .i64 j)]) [0, 1, 7]
    (fun j w => (j ≤ n ∧ ∀ y ∈ l.take j, nulP ns bits y = true) ∧ ∃ mm, Mem.Le m mm ∧ Ev.Loc m S0 w0 mm (Lo ++ accL ab b3 b5 bits La) w) (fun j => n - j) 0
    ⟨⟨Nat.zero_le _, by simp⟩, m, Mem.Le.refl m, hL⟩ ⟨rfl, trivial⟩ ?_
  clear hL
  rintro j w g ⟨⟨hj, hdone⟩, mm, hmm, hL⟩
  refine go ?_; try (clear hL; intro w hL)
  refine BrReq.dec (fun hlt => ?_) (fun hlt => ?_)
  · have hj1 : j < l.length := by omega
    have hx := List.getElem?_eq_getElem hj1
    obtain ⟨g, cur, rfl, rfl, -, -, hc⟩ := hget (fun e => by rw [e] at hj1; simp at hj1)
    have hc' := hc j _ hx
    conv => whnf
    repeat ((first | refine Idx2Req.mk j _ rfl (by omega) rfl ?_ | (refine LdReq.ownC hX rfl rfl hL .h (by rw [scale_eq, Nat.zero_add, Nat.mul_one]; exact hc') ?_) | (refine go1 ?_; try (clear hL; intro w hL))); conv => whnf)
    refine CallReq.lm (L1 := accL ab b3 b5 bits La) (L2 := [_]) (acc1_fn mm ab b3 b5 bits ns La hA hO hb l[j]) (Loc.back (L1 := [_]) hL) ?_
    clear hL
    intro m1 w hm1 hL
    have hL := Loc.back (L1 := accL ab b3 b5 bits La) (L2 := [_]) hL
    cases hq : nulP ns bits l[j] with
    | false =>
      refine go ?_; try (clear hL; intro w hL)
      exact RetReq.mk hL ⟨rfl, .inr ⟨j, rfl, hj1, hq, hdone⟩⟩
    | true =>
      have hd : ∀ y ∈ l.take (j + 1), nulP ns bits y = true := fun y hy => by
        rw [fo.take_succ' hj1] at hy
        rcases List.mem_append.1 hy with h | h
        · exact hdone y h
        · rw [List.mem_singleton.1 h]; exact hq
      refine go ?_; try (clear hL; intro w hL)
      refine ⟨j + 1, ⟨⟨by omega, hd⟩, m1, hmm.trans hm1, hL⟩, by first | omega | (simp only; omega) | (simp only [List.length_cons, List.length_append]; omega), ?_, ?_⟩
      · repeat (first | exact trivial | (refine And.intro (by (conv => lhs; whnf) <;> (conv => rhs; whnf) <;> (first | rfl)) ?_))
      · repeat (first | exact trivial | (refine And.intro (by (conv => lhs; whnf) <;> (conv => rhs; whnf) <;> (first | rfl)) ?_))
  · have ej : j = l.length := by omega
    rw [ej, List.take_length] at hdone
    refine go ?_; try (clear hL; intro w hL)
    exact RetReq.mk hL ⟨rfl, .inl ⟨rfl, hdone⟩⟩
def keepQ (ns : List Nd) (bits : Nat) (l : List Int) : List Int := l.filter (nulP ns bits)
theorem keepQ_all {ns : List Nd} {bits : Nat} {l : List Int} (h : ∀ y ∈ l, nulP ns bits y = true) : keepQ ns bits l = l := List.filter_eq_self.2 h
theorem keepQ_take {ns : List Nd} {bits : Nat} {l : List Int} {j : Nat} (h : j < l.length) : keepQ ns bits (l.take (j + 1)) = keepQ ns bits (l.take j) ++ (if nulP ns bits l[j] = true then [l[j]] else []) := by
  unfold keepQ
  rw [List.take_succ_eq_append_getElem h, List.filter_append]
  congr 1
  by_cases e : nulP ns bits l[j] = true
  · rw [if_pos e, List.filter_cons, if_pos e]; rfl
  · rw [if_neg e, List.filter_cons, if_neg e]; rfl
set_option maxHeartbeats 2000000 in
theorem accDel_fn (m : Mem) (ab b3 b5 bits : Nat) (ns : List Nd) (La : Ev.Own) (hA : Ar ab ns La) (hO : OkA ns) (hb : bits < 256) (A : Option Addr) (n c : Nat) (l : List Int) (Lo : Ev.Own) (ho : OwnS 3 1 (.slice A n c) (ints .i64 l) Lo) :
    Ev.Fn Tryz.prog 87 [.slice A n c, .func (.func 89) #[] #[.pointer (some ⟨b3, 0, none⟩), .pointer (some ⟨b5, 0, none⟩)]] m (Lo ++ accL ab b3 b5 bits La)
      fun _ L' u => ∃ Lo2, L' = Lo2 ++ accL ab b3 b5 bits La ∧ OwnS 3 1 u (ints .i64 (keepQ ns bits l)) Lo2 := by
  have hidx := accIx_fn m ab b3 b5 bits ns La hA hO hb A n c l Lo ho
  obtain ⟨hn, hnc, hm, hget⟩ := owns_get ho
  have hmx : maxLen = 9223372036854775807 := rfl
  refine Fn.enter (N := 42) hX Tryz.func87 rfl rfl (by show _ ≤ _; simp) (fun w0 hL => ?_)
  conv => whnf
  generalize keys (Lo ++ accL ab b3 b5 bits La) = S0 at hL ⊢
  refine go ?_; try (clear hL; intro w hL)
  refine CallReq.mk (L1 := Lo ++ accL ab b3 b5 bits La) (L2 := []) hidx (by rw [List.append_nil]; exact hL) ?_
  clear hL
  rintro u m1 L1 w hL hm1 ⟨rfl, hz⟩
  rw [List.append_nil] at hL
  rcases hz with ⟨rfl, hall⟩ | ⟨i0, rfl, hil, hq0, hno⟩
  · refine go ?_; try (clear hL; intro w hL)
    exact RetReq.mk hL ⟨Lo, rfl, by rw [keepQ_all hall]; exact ho⟩
  · obtain ⟨g, cur, rfl, rfl, hcl, hct, hcg⟩ := hget (fun e => by rw [e] at hil; simp at hil)
    have hd0 : keepQ ns bits (l.take (i0 + 1)) = l.take i0 := by
      rw [keepQ_take hil, hq0, if_neg (by decide), List.append_nil, keepQ_all hno]
    refine go ?_; try (clear hL; intro w hL)
    refine LoopReq.inv hX (fun s : Nat × Nat => [(5, .int .i64 s.1), (6, .int .i64 s.2)]) [0, 1]
      (fun s w => (s.1 < s.2 ∧ s.2 ≤ n ∧ s.1 = (keepQ ns bits (l.take s.2)).length) ∧ ∃ mm, Mem.Le m mm ∧ ∃ cur : List Value, (cur.length = c ∧ cur.take s.1 = ints .i64 (keepQ ns bits (l.take s.2)) ∧ ∀ (q : Nat) (y : Int), s.2 ≤ q → l[q]? = some y → cur[q]? = some (.int .i64 y)) ∧
        Ev.Loc m S0 w0 mm ((g, .cells (toArr cur) 3 (0, 0)) :: accL ab b3 b5 bits La) w) (fun s => n - s.2) (i0, i0 + 1)
      ⟨⟨by simp, by simp only; omega, by simp only; rw [hd0, List.length_take]; omega⟩, m1, hm1, cur, ⟨hcl, by
        simp only
        rw [hd0]
        have : cur.take i0 = (cur.take n).take i0 := by rw [List.take_take]; congr 1; omega
        rw [this, hct]; simp [ints, List.map_take], fun q y _ hq => hcg q y hq⟩, hL⟩ ⟨rfl, rfl, trivial⟩ ?_
    clear hL hcl hct hcg
    rintro ⟨i, j⟩ w f ⟨⟨hij, hjn, hie⟩, mm, hmm, cur, ⟨hcl, hct, hcg⟩, hL⟩
    simp only at hij hjn hie hct hcg
    refine go ?_; try (clear hL; intro w hL)
    refine BrReq.dec (fun hlt => ?_) (fun hlt => ?_)
    · have hlt' : j < l.length := by simp only at hlt; omega
      have hx := List.getElem?_eq_getElem hlt'
      have hc' := hcg j _ (Nat.le_refl j) hx
      have htk := keepQ_take (ns := ns) (bits := bits) hlt'
      generalize l[j] = y at hx hc' htk
      conv => whnf
      repeat ((first | (refine Idx2Req.mk j _ rfl (by simp only at hlt ⊢; omega) rfl ?_) | (refine LdReq.ownC hX rfl rfl hL .h (by rw [scale_eq, Nat.zero_add, Nat.mul_one]; exact hc') ?_) | (refine go1 ?_; try (clear hL; intro w hL))); conv => whnf)
      refine CallReq.lm (L1 := accL ab b3 b5 bits La) (L2 := [_]) (acc1_fn mm ab b3 b5 bits ns La hA hO hb y) (Loc.back (L1 := [_]) hL) ?_
      clear hL
      intro m2 w hm2 hL
      have hL := Loc.back (L1 := accL ab b3 b5 bits La) (L2 := [_]) hL
      cases hq : nulP ns bits y with
      | false =>
        rw [hq, if_neg (by decide), List.append_nil] at htk
        refine go ?_; try (clear hL; intro w hL)
        refine ⟨(i, j + 1), ⟨⟨by simp only; omega, by simp only; omega, by simp only; rw [htk]; exact hie⟩, m2, hmm.trans hm2, cur, ⟨hcl, by simp only; rw [htk]; exact hct, fun q y hq hy => hcg q y (by simp only at hq; omega) hy⟩, hL⟩, by first | omega | (simp only; omega) | (simp only [List.length_cons, List.length_append]; omega), ?_, ?_⟩
        · repeat (first | exact trivial | (refine And.intro (by (conv => lhs; whnf) <;> (conv => rhs; whnf) <;> (first | rfl)) ?_))
        · repeat (first | exact trivial | (refine And.intro (by (conv => lhs; whnf) <;> (conv => rhs; whnf) <;> (first | rfl)) ?_))
      | true =>
        rw [hq, if_pos rfl] at htk
        conv => whnf
        repeat ((first | refine Idx2Req.mk i _ rfl (by omega) rfl ?_ | (refine go1 ?_; try (clear hL; intro w hL))); conv => whnf)
        refine StReq.ownAt hX rfl 0 hL rfl rfl (by rw [scale_eq, Nat.zero_add, Nat.mul_one]; show i + 1 ≤ cur.length; omega) rfl ?_
        clear hL
        intro w hL
        replace hL : Ev.Loc m S0 w0 m2 ((g, .cells (toArr (spliceL cur (0 + scale i 1) [.int .i64 y])) 3 (0, 0)) :: accL ab b3 b5 bits La) w := hL
        rw [scale_eq, Nat.zero_add, Nat.mul_one] at hL
        replace hL : Ev.Loc m S0 w0 m2 ((g, .cells (toArr (cur.set i (.int .i64 y))) 3 (0, 0)) :: accL ab b3 b5 bits La) w := hL
        have hct2 : (cur.set i (.int .i64 y)).take (i + 1) = ints .i64 (keepQ ns bits (l.take (j + 1))) := by
          rw [htk, ints_append, ← hct, List.take_set, List.take_succ_eq_append_getElem (by omega : i < cur.length), List.set_append_right _ _ (by rw [List.length_take]; omega)]
          rw [List.length_take, show i - min i cur.length = 0 by omega]; rfl
        refine go ?_; try (clear hL; intro w hL)
        refine ⟨(i + 1, j + 1), ⟨⟨by simp only; omega, by simp only; omega, by simp only; rw [htk, List.length_append, ← hie]; rfl⟩, m2, hmm.trans hm2, cur.set i (.int .i64 y), ⟨by rw [List.length_set]; exact hcl, hct2, fun q y' hq hy => by rw [List.getElem?_set_ne (by simp only at hq; omega)]; exact hcg q y' (by simp only at hq; omega) hy⟩, hL⟩, by first | omega | (simp only; omega) | (simp only [List.length_cons, List.length_append]; omega), ?_, ?_⟩
        · repeat (first | exact trivial | (refine And.intro (by (conv => lhs; whnf) <;> (conv => rhs; whnf) <;> (first | rfl)) ?_))
        · repeat (first | exact trivial | (refine And.intro (by (conv => lhs; whnf) <;> (conv => rhs; whnf) <;> (first | rfl)) ?_))
    · have ej : j = n := by simp only at hlt; omega
      subst ej
      rw [hn, List.take_length] at hie hct
      have hin : i < l.length := by omega
      have hci : ¬ c = i := by omega
      have hc0 : ¬ c = 0 := by omega
      conv => whnf
      repeat ((first | refine SlReq.mk i j rfl rfl (by omega) (by omega) ?_ | (refine go1 ?_; try (clear hL; intro w hL))); conv => whnf)
      have hsl : ([Value.slice (if c = i then some ⟨g, 0, none⟩ else Option.map (fun x : Addr => x.add (scale i 1)) (some ⟨g, 0, none⟩)) (j - i) (c - i)] : List Value) = [.slice (some ⟨g, i, none⟩) (j - i) (c - i)] := by
        rw [if_neg hci]
        show [Value.slice (some ((⟨g, 0, none⟩ : Addr).add (scale i 1))) (j - i) (c - i)] = _
        rw [addr_add, scale_eq, Nat.zero_add, Nat.mul_one]
      refine GenReq.clear (z := .int .i64 0) rfl rfl rfl Tryz.underlying53 (fun w => Tryz.zeroValue3 w) rfl rfl hsl (by omega) 0 hL rfl (by omega) ?_
      clear hL
      intro w hL
      obtain ⟨k1, k2⟩ := splice_keep (List.replicate (j - i) (.int .i64 0)) cur i i (Nat.le_refl _)
      replace hL : Ev.Loc m S0 w0 mm ((g, .cells (toArr (spliceL cur i (List.replicate (j - i) (.int .i64 0)))) 3 (0, 0)) :: accL ab b3 b5 bits La) w := hL
      generalize spliceL cur i (List.replicate (j - i) (.int .i64 0)) = cur2 at hL k1 k2
      conv => whnf
      repeat ((first | refine SlReq.mk 0 i rfl rfl (by omega) (by omega) ?_ | (refine go1 ?_; try (clear hL; intro w hL))); conv => whnf)
      refine RetReq.mk hL ⟨[_], rfl, ?_⟩
      show OwnS 3 1 (.slice (if c = 0 then some ⟨g, 0, none⟩ else Option.map (fun x : Addr => x.add (scale 0 1)) (some ⟨g, 0, none⟩)) (i - 0) (c - 0)) _ _
      rw [if_neg hc0]
      have hbk := OwnS.block (te := 3) (size := 1) (g := g) (n := i) (cap := c) (cur := cur2) (by omega) hm (by omega)
      rw [Nat.mul_one, k1, hct] at hbk
      exact hbk
theorem Accepts_fn (m : Mem) (ab bits : Nat) (ns : List Nd) (La : Ev.Own) (hA : Ar ab ns La) (hO : OkA ns) (hb : bits < 256) (fv : Value) (f : fo.Fml) (hf : fo.FmV m fv f) (hF : fo.FB ns.length f) :
    FnM Tryz.prog 57 [.pointer (some ⟨ab, 0, none⟩), fv, .int .u8 bits] m La (.bool (fo.dec (fo.holdsP f (keepQ ns bits (atomsP f))))) := by
  have hr := right_fn m ab ns La hA hO fv f hf hF
  have hfn := hF.len
  have hf' := hf
  obtain ⟨A1, n1, c1, rfl, -⟩ := id hf
  refine Fn.enter (N := 19) hX Tryz.func57 rfl rfl (by show _ ≤ _; simp) (fun w0 hL => ?_)
  conv => whnf
  generalize keys La = S0 at hL ⊢
  refine NewReq.mk hL ?_
  clear hL
  intro b3 w hL
  conv => whnf
  refine NewReq.mk hL ?_
  clear hL
  intro b5 w hL
  conv => whnf
  refine go ?_; try (clear hL; intro w hL)
  refine CallReq.lm (L1 := La) (L2 := [_, _]) hr (Loc.back (L1 := [_, _]) hL) ?_
  clear hL
  intro m1 w hm1 hL
  have hL := Loc.back (L1 := La) (L2 := [_, _]) hL
  have hat := Atoms_fn m1 _ f ns.length hO.len (hf'.le hm1) hF
  refine go ?_; try (clear hL; intro w hL)
  refine CallReq.mk (L1 := []) hat hL ?_
  clear hL
  rintro u mx Lo w hL - ⟨hmx, ho⟩
  rw [hmx] at hL
  clear hmx mx
  obtain ⟨A, n, c, rfl, -⟩ := ho.slice
  refine go ?_; try (clear hL; intro w hL)
  refine CallReq.mk (L1 := Lo ++ accL ab b3 b5 bits La) (L2 := []) (accDel_fn m1 ab b3 b5 bits ns La hA hO hb A n c _ Lo ho) (by rw [List.append_nil]; exact hL) ?_
  clear hL ho
  rintro u m2 L2 w hL hm2 ⟨Lo2, rfl, ho⟩
  rw [List.append_nil] at hL
  obtain ⟨m3, hL3, hm3, hs⟩ := OwnS.freeze ho hL
  clear hL
  have hL := hL3
  clear hL3
  obtain ⟨A2, n2, c2, rfl, -⟩ := id hs
  refine go ?_; try (clear hL; intro w hL)
  refine CallReq.val (Holds_fn m3 _ _ _ f hfn hs (hf'.le (hm1.trans (hm2.trans hm3)))) hL ?_
  clear hL
  intro w hL
  refine go ?_; try (clear hL; intro w hL)
  exact RetReq.mk hL.drop.drop ⟨rfl, rfl⟩
theorem begin_fn (m : Mem) (ab b bits : Nat) (La : Ev.Own) :
    Ev.Fn Tryz.prog 70 [.pointer (some ⟨ab, 0, none⟩), .int .u8 b, .int .u8 bits] m La fun m' L' u => m' = m ∧ ∃ sb ma ml, u = .pointer (some ⟨sb, 0, none⟩) ∧ L' = stL ab sb b bits 0 ma ml [] [] La := by
  refine Fn.enter (N := 14) hX Tryz.func70 rfl rfl (by show _ ≤ _; simp) (fun w0 hL => ?_)
  conv => whnf
  generalize keys La = S0 at hL ⊢
  refine go ?_; try (clear hL; intro w hL)
  refine RunReq.makeMapW hL ?_
  clear hL
  intro ma w hL
  refine go ?_; try (clear hL; intro w hL)
  refine RunReq.makeMapW hL ?_
  clear hL
  intro ml w hL
  refine go ?_; try (clear hL; intro w hL)
  refine NewReq.mk hL ?_
  clear hL
  intro sb w hL
  conv => whnf
  replace hL : Ev.Loc m S0 w0 m ((sb, stO ab b bits 0 ma ml) :: (ml, mapW []) :: (ma, mapW []) :: La) w := hL
  refine go ?_; try (clear hL; intro w hL)
  exact RetReq.mk (hL.perm (List.Perm.cons _ (List.Perm.swap _ _ _))) ⟨rfl, sb, ma, ml, rfl, rfl⟩
theorem end_fn (m : Mem) (ab sb b bits : Nat) (e : Int) (ma ml : Nat) (v : Value) (f : fo.Fml) (hv : fo.FmV m v f) :
    FnL Tryz.prog 71 [.pointer (some ⟨sb, 0, none⟩), v] m [(sb, stO ab b bits e ma ml)] (.tuple (toArr [if e = 0 then v else .slice none 0 0, .int .i64 e])) := by
  obtain ⟨A, n, c, rfl, -⟩ := id hv
  refine Fn.enter (N := 16) hX Tryz.func71 rfl rfl (by show _ ≤ _; simp) (fun w0 hL => ?_)
  conv => whnf
  generalize keys [(sb, stO ab b bits e ma ml)] = S0 at hL ⊢
  by_cases h0 : e = 0
  · subst h0
    refine go ?_; try (clear hL; intro w hL)
    exact RetReq.mk hL ⟨rfl, rfl, rfl⟩
  · rw [if_neg h0]
    conv => whnf
    repeat ((first | refine BrReq.yes (by omega) ?_ | (refine go1 ?_; try (clear hL; intro w hL))); conv => whnf)
    refine DrawReq.plan hX (.fst 0 (.fst 1 (.fst 2 (.fst 3 (.fst 4 (.fst 5 (.done))))))) [(sb, stO ab b bits e ma ml)] (by kernel_rfl) (by kernel_rfl) hL id ?_
    clear hL
    intro w hL
    refine goq ?_; try (clear hL; intro w hL)
    exact RetReq.mk hL ⟨rfl, rfl, rfl⟩
theorem stp_start {ab sb b bits : Nat} {m : Mem} {ns : List Nd} {La : Ev.Own} (hA : Ar ab ns La) (hO : OkA ns) (ma ml : Nat) : Stp ab sb b bits m ns 0 ma ml [] [] La :=
  ⟨hA, hO, fun y hy => (by cases hy), fun y hy => (by cases hy), .inl rfl⟩
def OutP (ab : Nat) (ns : List Nd) : Mem → Ev.Own → Value → Prop := fun m' L' u => ∃ ns' e v f, u = .tuple (toArr [v, .int .i64 e]) ∧ (e = 0 ∨ e = 4) ∧ ns <+: ns' ∧ OkA ns' ∧ Ar ab ns' L' ∧ fo.FmV m' v f ∧ fo.FB ns'.length f
theorem Of_fn (m : Mem) (ab : Nat) (ns : List Nd) (La : Ev.Own) (hA : Ar ab ns La) (hO : OkA ns) (i0 : Int) (hi : i64 i0) (hid : okId ns i0) :
    Ev.Fn Tryz.prog 44 [.pointer (some ⟨ab, 0, none⟩), .int .i64 i0] m La (OutP ab ns) := by
  obtain ⟨x, hx1, hx2⟩ := nodeN_ok hid
  have hnode := Node_fn m ab ns La hA i0
  rw [hx1] at hnode
  simp only at hnode
  refine Fn.enter (N := 26) hX Tryz.func44 rfl rfl (by show _ ≤ _; simp) (fun w0 hL => ?_)
  conv => whnf
  generalize keys La = S0 at hL ⊢
  refine go ?_; try (clear hL; intro w hL)
  refine CallReq.lo hnode hL ?_
  clear hL
  intro w hL
  refine go ?_; try (clear hL; intro w hL)
  refine NewReq.mk hL ?_
  clear hL
  intro bn w hL
  conv => whnf
  refine go ?_; try (clear hL; intro w hL)
  refine CallReq.mk (L1 := La) (L2 := [_]) (begin_fn m ab 0 0 La) (Loc.back (L1 := [_]) hL) ?_
  clear hL
  rintro u mx L1 w hL - ⟨hmx, sb, ma, ml, rfl, rfl⟩
  rw [hmx] at hL
  clear hmx mx
  have hS : Stp ab sb 0 0 m ns 0 ma ml [] [] La := stp_start hA hO ma ml
  refine go ?_; try (clear hL; intro w hL)
  refine CallReq.mk (L1 := stL ab sb 0 0 0 ma ml [] [] La) (L2 := [_]) (of_fn ab sb 0 0 ma ml (dep ns i0 + 1) m ns 0 [] [] La i0 hS hi (fun _ => Nat.lt_succ_self _)) hL ?_
  clear hL
  rintro u m2 L2 w hL hm2 ⟨ns2, e2, la2, ll2, La2, f2, hp2, hS2, rfl, hf2, hb2⟩
  have hL := Loc.back (L1 := stL ab sb 0 0 e2 ma ml la2 ll2 La2) (L2 := [_]) hL
  replace hL := hL.drop
  have hend := end_fn m2 ab sb 0 0 e2 ma ml _ f2 hf2
  obtain ⟨A2, n2, c2, rfl, -⟩ := id hf2
  by_cases h0 : e2 = 0
  · subst h0
    rw [if_pos rfl] at hend
    refine go ?_; try (clear hL; intro w hL)
    refine CallReq.li (L1 := [_]) (L2 := _ :: _ :: La2) hend hL ?_
    clear hL
    intro w hL
    replace hL : Ev.Loc m S0 w0 m2 ((sb, stO ab 0 0 0 ma ml) :: (ma, mapW la2) :: (ml, mapW ll2) :: La2) w := hL
    refine go ?_; try (clear hL; intro w hL)
    exact RetReq.mk hL.drop.drop.drop ⟨ns2, 0, _, f2, rfl, .inl rfl, hp2, hS2.ok, hS2.ar, hf2, hb2⟩
  · rw [if_neg h0] at hend
    refine go ?_; try (clear hL; intro w hL)
    refine CallReq.li (L1 := [_]) (L2 := _ :: _ :: La2) hend hL ?_
    clear hL
    intro w hL
    replace hL : Ev.Loc m S0 w0 m2 ((sb, stO ab 0 0 e2 ma ml) :: (ma, mapW la2) :: (ml, mapW ll2) :: La2) w := hL
    refine go ?_; try (clear hL; intro w hL)
    exact RetReq.mk hL.drop.drop.drop ⟨ns2, e2, _, [], rfl, hS2.err, hp2, hS2.ok, hS2.ar, Sl.nil _ _ _, fo.FB.nil _⟩
end Go.Proofs.YtaooenndoopgdaaGreatDoor.li
namespace Go.Proofs.YtaooenndoopgdaaGreatDoor.li
open Go Go.Ev Go.Proofs Go.Proofs.YtaooenndoopgdaaGreatDoor.ar
theorem makeE_fn (m : Mem) (sb : Nat) (L : Ev.Own) (i0 : Int) (h0 : 0 ≤ i0) (x : Nd) (hk : x.k = 1) :
    Ev.Fn Tryz.prog 103 [.pointer (some ⟨sb, 0, none⟩), .int .i64 i0, .agg (toArr (ndC x))] m L fun m' L' u => L' = L ∧ fo.FmV m' u [[i0]] := by
  obtain ⟨xk, s0, s1, s2, s3, a, b', neg⟩ := x
  dsimp only at hk
  subst hk
  refine Fn.enter (N := 45) hX Tryz.func103 rfl rfl (by show _ ≤ _; simp) (fun w0 hL => ?_)
  conv => whnf
  generalize keys L = S0 at hL ⊢
  refine NewReq.mk hL ?_
  clear hL
  intro bn w hL
  conv => whnf
  refine go ?_; try (clear hL; intro w hL)
  refine CallReq.pure (atomG_fn m i0 h0) hL ?_
  clear hL
  rintro u m1 w hL hm1 hf
  obtain ⟨A1, n1, c1, rfl, -⟩ := id hf
  refine go ?_; try (clear hL; intro w hL)
  exact RetReq.mk hL.drop ⟨rfl, hf⟩
theorem ofE_fn (m : Mem) (ab sb ma ml : Nat) (ns : List Nd) (La : Ev.Own) (hA : Ar ab ns La) (i0 : Int) (hi : i64 i0) (hid : okId ns i0) (x : Nd) (hx : nodeN ns i0 = (x, true)) (hk : x.k = 1) :
    Ev.Fn Tryz.prog 72 [.pointer (some ⟨sb, 0, none⟩), .int .i64 i0] m (stL ab sb 0 0 0 ma ml [] [] La) fun m' L' u => ∃ la, L' = stL ab sb 0 0 0 ma ml la [] La ∧ fo.FmV m' u [[i0]] := by
  have hnode := Node_fn m ab ns La hA i0
  rw [hx] at hnode
  dsimp only at hnode
  refine Fn.enter (N := 51) hX Tryz.func72 rfl rfl (by show _ ≤ _; simp) (fun w0 hL => ?_)
  conv => whnf
  generalize keys (stL ab sb 0 0 0 ma ml [] [] La) = S0 at hL ⊢
  refine go ?_; try (clear hL; intro w hL)
  refine CallReq.li (L1 := La) hnode (Loc.back (L1 := [_, _, _]) hL) ?_
  clear hL
  intro w hL
  have hL := Loc.back (L1 := La) (L2 := [_, _, _]) hL
  refine go ?_; try (clear hL; intro w hL)
  refine NewReq.mk hL ?_
  clear hL
  intro bn w hL
  conv => whnf
  refine go ?_; try (clear hL; intro w hL)
  refine RunReq.lookW hX rfl rfl key_int (z := .slice none 0 0) (by kernel_rfl) hL (.t (.t .h)) (isK_int _ hi) (fun y hy => by cases hy) (fun hno => ?_) (fun v hv => by cases hv)
  refine go ?_; try (clear hL; intro w hL)
  refine CallReq.mk (L1 := stL ab sb 0 0 0 ma ml [] [] La) (L2 := [_]) (makeE_fn m sb (stL ab sb 0 0 0 ma ml [] [] La) i0 hid.1 x hk) (Loc.back (L1 := [_]) hL) ?_
  clear hL
  rintro u m2 L2 w hL hm2 ⟨rfl, hf2⟩
  obtain ⟨A2, n2, c2, rfl, -⟩ := id hf2
  have hL := Loc.back (L1 := stL ab sb 0 0 0 ma ml [] [] La) (L2 := [_]) hL
  refine go ?_; try (clear hL; intro w hL)
  refine RunUReq.updW hX rfl rfl key_int (k := .int .i64 i0) (v := .slice A2 n2 c2) 2 hL rfl (isK_int _ hi) (fun y hy => by cases hy) (fun _ w hL => ?_) (fun q u hq w hL => by cases hq)
  refine go ?_; try (clear hL; intro w hL)
  exact RetReq.mk hL.drop ⟨_, rfl, hf2⟩
theorem OfE_fn (m : Mem) (ab : Nat) (ns : List Nd) (La : Ev.Own) (hA : Ar ab ns La) (i0 : Int) (hi : i64 i0) (hid : okId ns i0) (x : Nd) (hx : nodeN ns i0 = (x, true)) (hk : x.k = 1) :
    Ev.Fn Tryz.prog 44 [.pointer (some ⟨ab, 0, none⟩), .int .i64 i0] m La fun m' L' u => L' = La ∧ ∃ v, u = .tuple (toArr [v, .int .i64 0]) ∧ fo.FmV m' v [[i0]] := by
  have hnode := Node_fn m ab ns La hA i0
  rw [hx] at hnode
  dsimp only at hnode
  refine Fn.enter (N := 26) hX Tryz.func44 rfl rfl (by show _ ≤ _; simp) (fun w0 hL => ?_)
  conv => whnf
  generalize keys La = S0 at hL ⊢
  refine go ?_; try (clear hL; intro w hL)
  refine CallReq.lo hnode hL ?_
  clear hL
  intro w hL
  refine go ?_; try (clear hL; intro w hL)
  refine NewReq.mk hL ?_
  clear hL
  intro bn w hL
  conv => whnf
  refine go ?_; try (clear hL; intro w hL)
  replace hL := hL.drop
  refine CallReq.mk (L1 := La) (L2 := []) (begin_fn m ab 0 0 La) (by rw [List.append_nil]; exact hL) ?_
  clear hL
  rintro u mx L1 w hL - ⟨hmx, sb, ma, ml, rfl, rfl⟩
  rw [hmx, List.append_nil] at hL
  clear hmx mx
  refine go ?_; try (clear hL; intro w hL)
  refine CallReq.mk (L1 := stL ab sb 0 0 0 ma ml [] [] La) (L2 := []) (ofE_fn m ab sb ma ml ns La hA i0 hi hid x hx hk) (by rw [List.append_nil]; exact hL) ?_
  clear hL
  rintro u m2 L2 w hL hm2 ⟨la, rfl, hf2⟩
  rw [List.append_nil] at hL
  have hend := end_fn m2 ab sb 0 0 0 ma ml _ [[i0]] hf2
  rw [if_pos rfl] at hend
  obtain ⟨A2, n2, c2, rfl, -⟩ := id hf2
  refine go ?_; try (clear hL; intro w hL)
  refine CallReq.li (L1 := [_]) (L2 := _ :: _ :: La) hend hL ?_
  clear hL
  intro w hL
  replace hL : Ev.Loc m S0 w0 m2 ((sb, stO ab 0 0 0 ma ml) :: (ma, mapW la) :: (ml, mapW []) :: La) w := hL
  refine go ?_; try (clear hL; intro w hL)
  exact RetReq.mk hL.drop.drop.drop ⟨rfl, _, rfl, hf2⟩
end Go.Proofs.YtaooenndoopgdaaGreatDoor.li
namespace Go.Proofs.YtaooenndoopgdaaGreatDoor.looks
open Go Go.Ev Go.Proofs Go.Proofs.YtaooenndoopgdaaGreatDoor.tree Go.Proofs.YtaooenndoopgdaaGreatDoor.ar
theorem same_eq : ∀ (k : Nat) (x y : Re), sameR k x y = true → x = y := by
  intro k
  induction k with
  | zero => intro x y h; cases h
  | succ k ih =>
    intro x y h
    obtain ⟨k1, s0, s1, s2, s3, rs, lo, hi, neg⟩ := x
    obtain ⟨k2, t0, t1, t2, t3, rs', lo', hi', neg'⟩ := y
    simp only [sameR, headEq, Re.parts, Bool.and_eq_true, decide_eq_true_eq] at h
    obtain ⟨⟨rfl, ⟨rfl, rfl, rfl, rfl⟩, rfl, rfl, rfl, hl⟩, hp⟩ := h
    have := (all_zip rs rs' hl).1 hp
    have e : rs = rs' := by
      apply List.ext_getElem hl
      intro i h1 h2
      exact ih _ _ (this i _ _ (List.getElem?_eq_getElem h1) (List.getElem?_eq_getElem h2))
    subst e; rfl
theorem idxR_get {f : Re → Bool} : ∀ (l : List Re), 0 ≤ idxR f l → ∃ x, l[(idxR f l).toNat]? = some x ∧ f x = true := by
  intro l
  induction l with
  | nil => intro h; simp [idxR] at h
  | cons p l ih =>
    intro h
    simp only [idxR] at h ⊢
    by_cases hp : f p = true
    · rw [if_pos hp]; exact ⟨p, rfl, hp⟩
    · rw [if_neg hp] at h ⊢
      by_cases h2 : idxR f l < 0
      · rw [if_pos h2] at h; omega
      · rw [if_neg h2]
        obtain ⟨x, hx, hf⟩ := ih (by omega)
        refine ⟨x, ?_, hf⟩
        rw [show (idxR f l + 1).toNat = (idxR f l).toNat + 1 by omega]
        simpa using hx
def lkR (ls : List Re) (r : Re) : Int := idxR (fun y => likeR y r) ls
theorem lkR_lt {ls : List Re} {r : Re} (h : 0 ≤ lkR ls r) : lkR ls r < ls.length := by
  obtain ⟨x, hx, -⟩ := idxR_get ls h
  have := (List.getElem?_eq_some_iff.1 hx).1
  unfold lkR at h ⊢
  omega
mutual
def fndR (ls : List Re) : Re → Prop
  | .mk k s0 s1 s2 s3 rs lo hi neg => (8 ≤ k → 0 ≤ lkR ls (.mk k s0 s1 s2 s3 rs lo hi false)) ∧ fndL ls rs
def fndL (ls : List Re) : List Re → Prop
  | [] => True
  | r :: l => fndR ls r ∧ fndL ls l
end
mutual
theorem looks_sub : ∀ (r : Re) (ls : List Re), ∀ x ∈ ls, x ∈ looksR r ls
  | .mk k s0 s1 s2 s3 rs lo hi neg, ls, x, hx => by
    have ih := looks_subL rs ls x hx
    rw [looksR]
    split
    · exact ih
    split
    · exact ih
    · exact List.mem_append.2 (.inl ih)
theorem looks_subL : ∀ (l ls : List Re), ∀ x ∈ ls, x ∈ looksL l ls
  | [], ls, x, hx => hx
  | r :: l, ls, x, hx => looks_subL l _ x (looks_sub r ls x hx)
end
mutual
theorem looks_fnd (LS : List Re) : ∀ (r : Re) (ls : List Re), deepR 40 r ≤ 40 → (∀ x ∈ ls, deepR 40 x ≤ 40) → (∀ x ∈ looksR r ls, x ∈ LS) → fndR LS r
  | .mk k s0 s1 s2 s3 rs lo hi neg, ls, hd, hls, h => by
    have hp := deep40_part hd
    have hsub : ∀ x ∈ looksL rs ls, x ∈ looksR (.mk k s0 s1 s2 s3 rs lo hi neg) ls := fun x hx => by
      rw [looksR]
      split
      · exact hx
      split
      · exact hx
      · exact List.mem_append.2 (.inl hx)
    rw [fndR]
    refine ⟨fun hk => ?_, looks_fndL LS rs ls hp hls (fun x hx => h x (hsub x hx))⟩
    refine (idxR_neg (f := fun y => likeR y (.mk k s0 s1 s2 s3 rs lo hi false)) LS).2 (List.any_eq_true.2 ?_)
    have hdb : deepR 40 (bareR (.mk k s0 s1 s2 s3 rs lo hi neg)) ≤ 40 := by rw [deep_bare]; exact hd
    have hlike : ∀ x, x = bareR (.mk k s0 s1 s2 s3 rs lo hi neg) → likeR x (.mk k s0 s1 s2 s3 rs lo hi false) = true := fun x e => by
      subst e
      unfold likeR
      rw [decide_eq_true hdb, show bareR (.mk k s0 s1 s2 s3 rs lo hi false) = bareR (.mk k s0 s1 s2 s3 rs lo hi neg) from rfl, decide_eq_true hdb, sameR_refl 40 _ hdb]; rfl
    by_cases ha : (looksL rs ls).any (fun x => sameR 41 x (bareR (.mk k s0 s1 s2 s3 rs lo hi neg))) = true
    · obtain ⟨x, hx, hs⟩ := List.any_eq_true.1 ha
      exact ⟨x, h x (hsub x hx), hlike x (same_eq _ _ _ hs)⟩
    · refine ⟨_, h (bareR (.mk k s0 s1 s2 s3 rs lo hi neg)) ?_, hlike _ rfl⟩
      rw [looksR, if_neg (by omega), if_neg ha]
      simp
theorem looks_fndL (LS : List Re) : ∀ (l ls : List Re), (∀ p ∈ l, deepR 40 p ≤ 40) → (∀ x ∈ ls, deepR 40 x ≤ 40) → (∀ x ∈ looksL l ls, x ∈ LS) → fndL LS l
  | [], _, _, _, _ => by rw [fndL]; trivial
  | r :: l, ls, hd, hls, h => by
    rw [fndL]
    have hr := hd r (by simp)
    exact ⟨looks_fnd LS r ls hr hls fun x hx => h x (looks_subL l _ x hx), looks_fndL LS l _ (fun p hp => hd p (by simp [hp])) (looks_deep r ls hr hls) h⟩
end
mutual
theorem err_fnd {ls : List Re} (h4 : ls.length ≤ 4) : ∀ r : Re, fndR ls r → ∀ (ns : List Nd) (e : Int), (∀ k s0 s1 s2 s3 rs lo hi neg, r = .mk k s0 s1 s2 s3 rs lo hi neg → True) → allR r = true → (bR (lkR ls) r ns e).1.2 = e
  | .mk k s0 s1 s2 s3 rs lo hi neg, hf, ns, e, _, hall => by
    simp only [allR, Bool.and_eq_true, decide_eq_true_eq] at hall
    obtain ⟨hOw, hall⟩ := hall
    rw [allL_eq, List.all_eq_true] at hall
    obtain ⟨⟨hk0, -⟩, -⟩ := hOw
    rw [fndR] at hf
    obtain ⟨hf1, hf2⟩ := hf
    have ih := err_fndL h4 rs hf2 hall
    rw [bR]
    split
    · rfl
    split
    · rfl
    split
    · rfl
    split
    · exact ih _ e
    split
    · exact ih _ e
    split
    · exact ih _ e
    split
    · exact ih _ e
    split
    · exact ih _ e
    · have h0 := hf1 (by omega)
      have h1 := lkR_lt h0
      unfold lookedN
      rw [if_neg (by omega)]
theorem err_fndL {ls : List Re} (h4 : ls.length ≤ 4) : ∀ l : List Re, fndL ls l → (∀ p ∈ l, allR p = true) → ∀ (ns : List Nd) (e : Int), (bL (lkR ls) l ns e).1.2 = e
  | [], _, _, ns, e => rfl
  | r :: l, hf, h, ns, e => by
    rw [fndL] at hf
    rw [bL]
    dsimp only
    rw [err_fndL h4 l hf.2 (fun p hp => h p (by simp [hp])), err_fnd h4 r hf.1 ns e (fun _ _ _ _ _ _ _ _ _ _ => trivial) (h r (by simp))]
end
end Go.Proofs.YtaooenndoopgdaaGreatDoor.looks
