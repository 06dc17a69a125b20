/- TrackRefuses: part 8 of 14 of the proof. Conditions: none. -/
import Derived.Test.YtiololnblplloaaGreatM7
import Derived.Test.YtiololnblplloaaGreatM5
import Derived.Test.YtiololnblplloaaGreatM6
import Derived.Test.YtiololnblplloaaGreatM1
import Derived.Test.YtiololnblplloaaGreatM2
namespace Go.Proofs.YtiololnblplloaaGreat.fo
open Go Go.Ev Go.Proofs
theorem clone_fn (m : Mem) (v : Value) (l : List Int) (hl : SlI m .i64 v l) (hb : l.length ≤ 1000000) :
    Ev.Fn Tryz.prog 112 [v] m [] fun m' L' u => m' = m ∧ OwnS 3 1 u (ints .i64 l) L' := by
  obtain ⟨A, n, c, rfl, hn, hc, hm, -⟩ := id hl
  cases A with
  | none =>
    have hl0 := hl.none_nil
    subst hl0
    refine Fn.enter (N := 8) hX Tryz.func112 rfl rfl (by show _ ≤ _; simp) (fun w0 hL => ?_)
    conv => whnf
    conv => whnf
    repeat ((first | refine zT ?_ | refine zF ?_ | refine zL hX hL ?_ | refine zB hX hL ?_ | (refine zS hX hL ?_; clear hL; intro w hL) | refine zI ?_ | refine zG hX ?_ | refine zO ?_); conv => whnf)
    exact RetReq.mk hL ⟨rfl, OwnS.nil _ _⟩
  | some a =>
    refine Fn.enter (N := 8) hX Tryz.func112 rfl rfl (by show _ ≤ _; simp) (fun w0 hL => ?_)
    conv => whnf
    conv => whnf
    repeat ((first | refine zT ?_ | refine zF ?_ | refine zL hX hL ?_ | refine zB hX hL ?_ | (refine zS hX hL ?_; clear hL; intro w hL) | refine zI ?_ | refine zG hX ?_ | refine zO ?_); conv => whnf)
    refine NewReq.mk hL ?_
    clear hL
    intro g w hL
    conv => whnf
    replace hL : Ev.Loc m [] w0 m ([(g, .cells (toArr []) 3 (0, 0))] ++ []) w := hL
    refine RunReq.append hX 108 3 rfl rfl rfl rfl rfl (OwnS.full (n := 0) (by omega) rfl) hL (hl.src hL).1 (hl.src hL).2 (ints_one _ _) (by simp only [ints, List.length_map, List.length_nil]; omega) rfl ?_
    clear hL
    intro A2 n2 c2 L2 w hn2 ho hL
    rw [List.append_nil] at hL
    conv => whnf
    repeat ((first | refine zT ?_ | refine zF ?_ | refine zL hX hL ?_ | refine zB hX hL ?_ | (refine zS hX hL ?_; clear hL; intro w hL) | refine zI ?_ | refine zG hX ?_ | refine zO ?_); conv => whnf)
    exact RetReq.mk hL ⟨rfl, ho⟩
theorem hd_freeze {m0 m : Mem} {S : List Nat} {w0 w : World} {v : Value} {us : List Value} {f : Fml} {L1 L2 : Ev.Own} (h : OwnS 108 1 v us L1) (hH : HdF m us f) (hL : Ev.Loc m0 S w0 m (L1 ++ L2) w) : ∃ m', Ev.Loc m0 S w0 m' L2 w ∧ Mem.Le m m' ∧ FmV m' v f :=
  fm_freeze h hL hH.1.symm hH.2
theorem hd_one {m : Mem} {u : Value} {p : Prt} (h : SlI m .i64 u p) : HdF m [u] [p] := ⟨rfl, fun i x hx => by
  cases i with
  | zero => cases hx; exact ⟨_, rfl, h⟩
  | succ i => cases hx⟩
set_option maxHeartbeats 2000000 in
theorem formed_fn (m : Mem) (u : Value) (us : List Value) (f : Fml) (L1 : Ev.Own) (ho : OwnS 108 1 u us L1) (hH : HdF m us f) (hb : f.length ≤ 100000) (hp : ∀ p ∈ f, p.length ≤ 100000) (hr : ∀ p ∈ f, Rises p) :
    Ev.Fn Tryz.prog 71 [u] m L1 fun m' L' v => L' = [] ∧ ∃ r, Canon f r ∧ FmV m' v r := by
  have hmx : maxLen = 9223372036854775807 := rfl
  obtain ⟨A, n, c, rfl, hn⟩ := ho.slice
  refine Fn.enter (N := 25) hX Tryz.func71 rfl rfl (by show _ ≤ _; simp) (fun w0 hL => ?_)
  conv => whnf
  generalize keys L1 = S0 at hL ⊢
  rw [← List.append_nil L1] at hL
  conv => whnf
  repeat ((first | refine zT ?_ | refine zF ?_ | refine zL hX hL ?_ | refine zB hX hL ?_ | (refine zS hX hL ?_; clear hL; intro w hL) | refine zI ?_ | refine zG hX ?_ | refine zO ?_); conv => whnf)
  refine CallReq.mk (L1 := L1) (L2 := []) (sortF_fn m A n c us f L1 ho hH (by omega)) hL ?_
  clear hL
  rintro u mx L2 w hL - ⟨hmx2, rfl, us2, d, ho2, hH2, hperm, hsort⟩
  rw [hmx2] at hL
  clear hmx2 mx ho hH
  obtain ⟨m1, hL1, hm1, hfd⟩ := hd_freeze ho2 hH2 hL
  clear hL
  have hL := hL1
  clear hL1
  have hrd : ∀ p ∈ d, Rises p := fun p h => hr p (hperm.mem_iff.1 h)
  have hpd : ∀ p ∈ d, p.length ≤ 100000 := fun p h => hp p (hperm.mem_iff.1 h)
  have hdl := hperm.length_eq
  have hcan := (mini_canon hrd hsort).perm hperm
  have hfd' := hfd
  obtain ⟨A', n', c', e, hnd, hcd, hmd, -⟩ := hfd'
  injection e with e1 e2 e3
  subst e1 e2 e3
  conv => whnf
  repeat ((first | refine zT ?_ | refine zF ?_ | refine zL hX hL ?_ | refine zB hX hL ?_ | (refine zS hX hL ?_; clear hL; intro w hL) | refine zI ?_ | refine zG hX ?_ | refine zO ?_); conv => whnf)
  refine LoopReq.inv hX (fun s : Nat × Option Addr × Nat × Nat => [(3, .slice s.2.1 s.2.2.1 s.2.2.2), (10, .int .i64 s.1)]) [8, 9]
    (fun s w => s.1 ≤ d.length ∧ ∃ m2 us L2, Mem.Le m1 m2 ∧ OwnS 108 1 (.slice s.2.1 s.2.2.1 s.2.2.2) us L2 ∧ HdF m2 us (mini (d.take s.1)) ∧ Ev.Loc m S0 w0 m2 L2 w) (fun s => d.length - s.1) (0, none, 0, 0)
    ⟨Nat.zero_le _, m1, [], [], Mem.Le.refl _, OwnS.nil _ _, HdF.nil _, hL⟩ ⟨rfl, rfl, trivial⟩ ?_
  clear hL
  rintro ⟨j, B, bn, bc⟩ w g ⟨hj, m2, us3, L3, hm12, ho3, hH3, hL⟩
  simp only at hj ho3 hH3
  conv => whnf
  repeat ((first | refine zT ?_ | refine zF ?_ | refine zL hX hL ?_ | refine zB hX hL ?_ | (refine zS hX hL ?_; clear hL; intro w hL) | refine zI ?_ | refine zG hX ?_ | refine zO ?_); conv => whnf)
  refine BrReq.dec (fun hlt => ?_) (fun hlt => ?_)
  rotate_left
  · have ej : j = d.length := by simp only at hlt; omega
    subst ej
    rw [List.take_length] at hH3
    conv => whnf
    repeat ((first | refine zT ?_ | refine zF ?_ | refine zL hX hL ?_ | refine zB hX hL ?_ | (refine zS hX hL ?_; clear hL; intro w hL) | refine zI ?_ | refine zG hX ?_ | refine zO ?_); conv => whnf)
    rw [← List.append_nil L3] at hL
    obtain ⟨m3, hL3, hm23, hf3⟩ := hd_freeze ho3 hH3 hL
    exact RetReq.mk hL3 ⟨rfl, _, hcan, hf3⟩
  have hj1 : j < d.length := by simp only at hlt; omega
  obtain ⟨a, A5, n5, c5, ea, hcell, hpq⟩ := (hfd.le hm12).at_ hj1
  conv => whnf
  repeat ((first | (refine Idx2Req.mk j a rfl (by simp only at hlt; omega) ea ?_) | refine LdReq.one hX rfl rfl hL hcell ?_ | refine zT ?_ | refine zF ?_ | refine zL hX hL ?_ | refine zB hX hL ?_ | (refine zS hX hL ?_; clear hL; intro w hL) | refine zI ?_ | refine zG hX ?_ | refine zO ?_); conv => whnf)
  refine NewReq.mk hL ?_
  clear hL
  intro b5 w hL
  conv => whnf
  replace hL : Ev.Loc m S0 w0 m2 ((b5, .cells (toArr [.slice none 0 0]) 108 (0, 0)) :: L3) w := hL
  conv => whnf
  repeat ((first | refine zT ?_ | refine zF ?_ | refine zL hX hL ?_ | refine zB hX hL ?_ | (refine zS hX hL ?_; clear hL; intro w hL) | refine zI ?_ | refine zO ?_); conv => whnf)
  replace hL : Ev.Loc m S0 w0 m2 ((b5, .cells (toArr [.slice A5 n5 c5]) 108 (0, 0)) :: L3) w := hL
  have hm23 := hL.le_add
  have hL := hL.freeze
  have hc5 : mcell (m2.add b5 (.cells (toArr [.slice A5 n5 c5]) 108 (0, 0))) ⟨b5, 0, none⟩ = some (.slice A5 n5 c5) := mcell_add rfl
  generalize (m2.add b5 (.cells (toArr [.slice A5 n5 c5]) 108 (0, 0))) = m3 at *
  have hL4 := hL
  rw [← List.append_nil L3] at hL4
  obtain ⟨mm, hLm, hmm, hfo⟩ := hd_freeze ho3 (hH3.le hm23) hL4
  have hcc := containsM_fn mm _ (mini (d.take j)) b5 A5 n5 c5 d[j] hfo (hpq.le' (hm23.trans hmm)) (mcell_le hmm hc5)
  clear hL4
  conv => whnf
  repeat ((first | refine zT ?_ | refine zF ?_ | refine zL hX hL ?_ | refine zB hX hL ?_ | (refine zS hX hL ?_; clear hL; intro w hL) | refine zI ?_ | refine zG hX ?_ | refine zO ?_); conv => whnf)
  refine CallReq.lend hcc hLm.sub hL ?_
  clear hL hLm hcc hfo hmm mm
  intro w hL
  have htk : mini (d.take (j + 1)) = addM (mini (d.take j)) d[j] := by rw [take_succ' hj1, mini_snoc]
  unfold addM at htk
  have hp3 := hpq.le' hm23
  have hH4 := hH3.le hm23
  cases hany : ((mini (d.take j)).any fun q => q.isSublist d[j]) with
  | true =>
    rw [hany, if_pos rfl] at htk
    rw [← htk] at hH4
    conv => whnf
    repeat ((first | refine zT ?_ | refine zF ?_ | refine zL hX hL ?_ | refine zB hX hL ?_ | (refine zS hX hL ?_; clear hL; intro w hL) | refine zI ?_ | refine zG hX ?_ | refine zO ?_); conv => whnf)
    refine ⟨(j + 1, B, bn, bc), ⟨by simp only; omega, m3, us3, L3, hm12.trans hm23, ho3, hH4, hL⟩, by first | omega | (simp only; omega) | (simp only [List.length_cons, List.length_append]; omega), ?_, ?_⟩
    · repeat (first | exact trivial | (refine And.intro (by (conv => lhs; whnf) <;> (conv => rhs; whnf) <;> (first | rfl)) ?_))
    · repeat (first | exact trivial | (refine And.intro (by (conv => lhs; whnf) <;> (conv => rhs; whnf) <;> (first | rfl)) ?_))
  | false =>
    rw [hany, if_neg (by decide)] at htk
    have hlen := lenF hH4
    have hml : (mini (d.take j)).length ≤ d.length := by
      have : ∀ k, k ≤ d.length → (mini (d.take k)).length ≤ k := fun k => by
        induction k with
        | zero => intro _; simp [mini]
        | succ k ih =>
          intro hk
          rw [take_succ' (by omega), mini_snoc]
          unfold addM
          have := ih (by omega)
          split
          · omega
          · rw [List.length_append, List.length_singleton]; omega
      have := this j hj; omega
    conv => whnf
    repeat ((first | refine LdReq.one hX rfl rfl hL hc5 ?_ | refine zT ?_ | refine zF ?_ | refine zL hX hL ?_ | refine zB hX hL ?_ | (refine zS hX hL ?_; clear hL; intro w hL) | refine zI ?_ | refine zG hX ?_ | refine zO ?_); conv => whnf)
    refine CallReq.mk (L1 := []) (clone_fn m3 _ _ hp3 (by have := hpd _ (List.getElem_mem hj1); omega)) hL ?_
    clear hL
    rintro u mx Lx w hL - ⟨hmx2, hox⟩
    rw [hmx2] at hL
    clear hmx2 mx
    obtain ⟨m4, hL4, hm34, hs4⟩ := OwnS.freeze hox hL
    clear hL
    have hL := hL4
    clear hL4
    obtain ⟨C, cn, cc, rfl, -⟩ := id hs4
    conv => whnf
    repeat ((first | refine zT ?_ | refine zF ?_ | refine zL hX hL ?_ | refine zB hX hL ?_ | (refine zS hX hL ?_; clear hL; intro w hL) | refine zI ?_ | refine zG hX ?_ | refine zO ?_); conv => whnf)
    refine NewReq.mk hL ?_
    clear hL
    intro b21 w hL
    conv => whnf
    replace hL : Ev.Loc m S0 w0 m4 ((b21, .cells (toArr [.slice C cn cc]) 108 (0, 0)) :: (L3 ++ [])) w := by rw [List.append_nil]; exact hL
    conv => whnf
    repeat ((first | refine zT ?_ | refine zF ?_ | refine zL hX hL ?_ | refine zB hX hL ?_ | (refine zS hX hL ?_; clear hL; intro w hL) | refine zI ?_ | refine zG hX ?_ | refine zO ?_); conv => whnf)
    refine RunReq.push hX 69 108 rfl rfl rfl rfl rfl ho3 (L2 := []) hL rfl rfl (by show _ + 1 ≤ _; omega) rfl ?_
    clear hL
    intro A6 n6 c6 L6 w hn6 ho6 hL
    rw [List.append_nil] at hL
    have hH6 := (hH4.le hm34).app (hd_one hs4)
    rw [← htk] at hH6
    conv => whnf
    repeat ((first | refine zT ?_ | refine zF ?_ | refine zL hX hL ?_ | refine zB hX hL ?_ | (refine zS hX hL ?_; clear hL; intro w hL) | refine zI ?_ | refine zG hX ?_ | refine zO ?_); conv => whnf)
    refine ⟨(j + 1, A6, n6, c6), ⟨by simp only; omega, m4, _, L6, hm12.trans (hm23.trans hm34), ho6, hH6, hL⟩, by first | omega | (simp only; omega) | (simp only [List.length_cons, List.length_append]; omega), ?_, ?_⟩
    · repeat (first | exact trivial | (refine And.intro (by (conv => lhs; whnf) <;> (conv => rhs; whnf) <;> (first | rfl)) ?_))
    · repeat (first | exact trivial | (refine And.intro (by (conv => lhs; whnf) <;> (conv => rhs; whnf) <;> (first | rfl)) ?_))
theorem pair_fs {m0 m : Mem} {S : List Nat} {w0 w : World} {b : Nat} {v1 v2 : Value} {f g : Fml} {L : Ev.Own} (h1 : FmV m v1 f) (h2 : FmV m v2 g) (hL : Ev.Loc m0 S w0 m ((b, .cells (toArr [v1, v2]) 69 (0, 0)) :: L) w) :
    ∃ m', Ev.Loc m0 S w0 m' L w ∧ Mem.Le m m' ∧ FsV m' (.slice (some ⟨b, 0, none⟩) 2 2) [f, g] := by
  obtain ⟨m1, hL1, hm1, hfs⟩ := freeze1 (l := [f, g]) (R := fun u x => FmV m u x) (L2 := L) (OwnS.full (te := 69) (g := b) (n := 2) (cur := [v1, v2]) (by decide) rfl) hL rfl (by
    intro i x hx
    match i, hx with
    | 0, hx => cases hx; exact ⟨_, rfl, h1⟩
    | 1, hx => cases hx; exact ⟨_, rfl, h2⟩
    | i + 2, hx => cases hx)
  exact ⟨m1, hL1, hm1, Sl.le hfs (Mem.Le.refl _) fun _ _ _ ⟨u, e, h⟩ => ⟨u, e, h.le hm1⟩⟩
theorem pair_flat (f g : Fml) : ([f, g] : List Fml).flatten = f ++ g := by simp
end Go.Proofs.YtiololnblplloaaGreat.fo
namespace Go.Proofs.YtiololnblplloaaGreat.fo
open Go Go.Ev Go.Proofs
theorem true_fn (m : Mem) : Fn0 Tryz.prog 104 [] m fun m' u => FmV m' u [[]] := by
  refine Fn.enter (N := 3) hX Tryz.func104 rfl rfl (by show _ ≤ _; simp) (fun w0 hL => ?_)
  conv => whnf
  conv => whnf
  repeat ((first | refine zT ?_ | refine zF ?_ | refine zL hX hL ?_ | refine zB hX hL ?_ | (refine zS hX hL ?_; clear hL; intro w hL) | refine zI ?_ | refine zG hX ?_ | refine zO ?_); conv => whnf)
  refine NewReq.mk hL ?_
  clear hL
  intro b1 w hL
  conv => whnf
  refine NewReq.mk hL ?_
  clear hL
  intro b2 w hL
  conv => whnf
  replace hL : Ev.Loc m [] w0 m ([(b2, .cells (toArr [.slice (some ⟨b1, 0, none⟩) 0 0]) 108 (0, 0))] ++ [(b1, .cells (toArr []) 3 (0, 0))]) w := hL
  have hs : SlI m .i64 (.slice (some ⟨b1, 0, none⟩) 0 0) [] := ⟨_, _, _, rfl, rfl, Nat.le_refl _, Nat.zero_le _, fun i x hx => by cases hx⟩
  obtain ⟨m1, hL1, hle1, hf1⟩ := fm_freeze (f := [[]]) (OwnS.full (n := 1) (by decide) rfl) hL rfl (by
    intro i p hp
    cases i with
    | zero => cases hp; exact ⟨_, rfl, hs⟩
    | succ i => cases hp)
  conv => whnf
  repeat ((first | refine zT ?_ | refine zF ?_ | refine zL hX hL ?_ | refine zB hX hL ?_ | (refine zS hX hL ?_; clear hL; intro w hL) | refine zI ?_ | refine zG hX ?_ | refine zO ?_); conv => whnf)
  exact RetReq.mk (hL1.sublist (List.nil_sublist _)) ⟨rfl, hf1⟩
theorem false_fn (m : Mem) : FnV Tryz.prog 87 [] m (.slice none 0 0) := by
  refine Fn.enter (N := 1) hX Tryz.func87 rfl rfl (by show _ ≤ _; simp) (fun w0 hL => ?_)
  conv => whnf
  conv => whnf
  repeat ((first | refine zT ?_ | refine zF ?_ | refine zL hX hL ?_ | refine zB hX hL ?_ | (refine zS hX hL ?_; clear hL; intro w hL) | refine zI ?_ | refine zG hX ?_ | refine zO ?_); conv => whnf)
  exact RetReq.mk hL ⟨rfl, rfl⟩
end Go.Proofs.YtiololnblplloaaGreat.fo
namespace Go.Proofs.YtiololnblplloaaGreat.fo
open Go Go.Ev Go.Proofs
structure FB (N : Nat) (f : Fml) : Prop where
  formed : FormedP f
  len : f.length ≤ 200
  lt : ∀ p ∈ f, ∀ n ∈ p, n < N
theorem FB.nil (N : Nat) : FB N [] := ⟨FormedP.nil, Nat.zero_le _, fun p hp => by cases hp⟩
theorem FB.mono {N M : Nat} {f : Fml} (h : FB N f) (hNM : N ≤ M) : FB M f := ⟨h.formed, h.len, fun p hp n hn => by have := h.lt p hp n hn; omega⟩
theorem part_len {N : Nat} {p : Prt} (hp : Rises p) (h : ∀ n ∈ p, n < (N : Int)) : p.length ≤ N := by
  have := rises_len (A := (List.range N).map Int.ofNat) hp fun n hn => by
    refine List.mem_map.2 ⟨n.toNat, List.mem_range.2 ?_, ?_⟩
    · have := h n hn; have := hp.1 n hn; omega
    · have := hp.1 n hn; show ((n.toNat : Nat) : Int) = n; omega
  simpa using this
theorem FB.part {N : Nat} {f : Fml} (h : FB N f) {p : Prt} (hp : p ∈ f) : p.length ≤ N := part_len (h.formed.rises p hp) (h.lt p hp)
theorem fewG_fn (m : Mem) (v : Value) (f : Fml) (h : FmV m v f) (hb : f.length ≤ 100000) : FnV Tryz.prog 70 [v] m (if f.length ≤ 200 then .tuple (toArr [v, .int .i64 0]) else .tuple (toArr [.slice none 0 0, .int .i64 4])) := by
  obtain ⟨A, n, c, rfl, hn, -⟩ := id h
  subst hn
  refine Fn.enter (N := 8) hX Tryz.func70 rfl rfl (by show _ ≤ _; simp) (fun w0 hL => ?_)
  conv => whnf
  by_cases hl : f.length ≤ 200
  · rw [if_pos hl]
    conv => whnf
    repeat ((first | refine BrReq.no (by omega) ?_ | refine zT ?_ | refine zF ?_ | refine zL hX hL ?_ | refine zB hX hL ?_ | (refine zS hX hL ?_; clear hL; intro w hL) | refine zI ?_ | refine zG hX ?_ | refine zO ?_); conv => whnf)
    exact RetReq.mk hL ⟨rfl, rfl⟩
  · rw [if_neg hl]
    conv => whnf
    repeat ((first | refine BrReq.yes (by omega) ?_ | refine zT ?_ | refine zF ?_ | refine zL hX hL ?_ | refine zB hX hL ?_ | (refine zS hX hL ?_; clear hL; intro w hL) | refine zI ?_ | refine zG hX ?_ | refine zO ?_); conv => whnf)
    exact RetReq.mk hL ⟨rfl, rfl⟩
theorem nodup_subP : ∀ (A l : Fml), l.Nodup → (∀ x ∈ l, x ∈ A) → l.length ≤ A.length
  | [], l, _, h => by cases l with | nil => simp | cons a l => exact absurd (h a (by simp)) (by simp)
  | a :: A, l, hn, h => by
    have h1 := nodup_subP A (l.erase a) (hn.erase a) fun x hx => by
      have hne : x ≠ a := fun e => by subst e; exact hn.not_mem_erase hx
      rcases List.mem_cons.1 (h x (List.mem_of_mem_erase hx)) with e | e
      · exact absurd e hne
      · exact e
    have := List.length_erase (a := a) (l := l)
    rw [List.length_cons]
    split at this <;> omega
theorem nodup_subF {l r : Fml} (h : Canon l r) : r.length ≤ l.length :=
  nodup_subP l r (h.formed.less.imp fun h e => by subst e; exact less_irrefl _ h) h.mem
def GenP (N : Nat) (m : Mem) (u : Value) : Prop := ∃ v e r, u = .tuple (toArr [v, .int .i64 e]) ∧ FmV m v r ∧ FB N r ∧ (e = 0 ∨ e = 4)
theorem GenP.many (N : Nat) (m : Mem) : GenP N m (.tuple (toArr [.slice none 0 0, .int .i64 4])) := ⟨_, 4, [], rfl, Sl.nil _ _ _, FB.nil N, .inr rfl⟩
set_option maxHeartbeats 1000000 in
theorem OrW_fn (m : Mem) (v1 v2 : Value) (f g : Fml) (N : Nat) (hN : N ≤ 20000) (h1 : FmV m v1 f) (h2 : FmV m v2 g) (hf : FB N f) (hg : FB N g) :
    Fn0 Tryz.prog 48 [v1, v2] m fun m' u => GenP N m' u := by
  have k1 := Formed_fn m v1 f h1
  have k2 := Formed_fn m v2 g h2
  rw [dec_t hf.formed] at k1
  rw [dec_t hg.formed] at k2
  obtain ⟨A1, n1, c1, rfl, -⟩ := id h1
  obtain ⟨A2, n2, c2, rfl, -⟩ := id h2
  have l1 := hf.len
  have l2 := hg.len
  refine Fn.enter (N := 22) hX Tryz.func48 rfl rfl (by show _ ≤ _; simp) (fun w0 hL => ?_)
  conv => whnf
  conv => whnf
  repeat ((first | refine zT ?_ | refine zF ?_ | refine zL hX hL ?_ | refine zB hX hL ?_ | (refine zS hX hL ?_; clear hL; intro w hL) | refine zI ?_ | refine zG hX ?_ | refine zO ?_); conv => whnf)
  refine CallReq.val k1 hL ?_
  clear hL
  intro w hL
  conv => whnf
  repeat ((first | refine zT ?_ | refine zF ?_ | refine zL hX hL ?_ | refine zB hX hL ?_ | (refine zS hX hL ?_; clear hL; intro w hL) | refine zI ?_ | refine zG hX ?_ | refine zO ?_); conv => whnf)
  refine CallReq.val k2 hL ?_
  clear hL
  intro w hL
  conv => whnf
  repeat ((first | refine zT ?_ | refine zF ?_ | refine zL hX hL ?_ | refine zB hX hL ?_ | (refine zS hX hL ?_; clear hL; intro w hL) | refine zI ?_ | refine zG hX ?_ | refine zO ?_); conv => whnf)
  refine NewReq.mk hL ?_
  clear hL
  intro b16 w hL
  conv => whnf
  obtain ⟨m1, hL1, hm1, hfs⟩ := pair_fs h1 h2 (show Ev.Loc m [] w0 m ((b16, .cells (toArr [.slice A1 n1 c1, .slice A2 n2 c2]) 69 (0, 0)) :: []) w from hL)
  clear hL
  have hL := hL1
  clear hL1
  conv => whnf
  repeat ((first | refine zT ?_ | refine zF ?_ | refine zL hX hL ?_ | refine zB hX hL ?_ | (refine zS hX hL ?_; clear hL; intro w hL) | refine zI ?_ | refine zG hX ?_ | refine zO ?_); conv => whnf)
  refine CallReq.mk (L1 := []) (concatF_fn m1 _ _ hfs (by rw [pair_flat, List.length_append]; omega) (by simp)) hL ?_
  clear hL
  rintro u mx L1 w hL - ⟨hmx2, us, ho, hH⟩
  rw [hmx2] at hL
  clear hmx2 mx
  rw [pair_flat] at hH
  have hu := ho.slice
  obtain ⟨A3, n3, c3, rfl, -⟩ := hu
  conv => whnf
  repeat ((first | refine zT ?_ | refine zF ?_ | refine zL hX hL ?_ | refine zB hX hL ?_ | (refine zS hX hL ?_; clear hL; intro w hL) | refine zI ?_ | refine zG hX ?_ | refine zO ?_); conv => whnf)
  refine CallReq.mk (L1 := L1) (formed_fn m1 _ us (f ++ g) L1 ho hH (by rw [List.length_append]; omega) (fun p hp => (List.mem_append.1 hp).elim (fun h => by have := hf.part h; omega) fun h => by have := hg.part h; omega) (fun p hp => (List.mem_append.1 hp).elim (hf.formed.rises p) (hg.formed.rises p))) hL ?_
  clear hL
  rintro u m2 L2 w hL hm12 ⟨rfl, r, hcan, hr⟩
  have hin : ∀ p ∈ r, ∀ n ∈ p, n < (N : Int) := fun p hp => (List.mem_append.1 (hcan.mem p hp)).elim (hf.lt p) (hg.lt p)
  have hrl : r.length ≤ 400 := by
    have := nodup_subF hcan
    rw [List.length_append] at this; omega
  have hfw := fewG_fn m2 u r hr (by omega)
  obtain ⟨A4, n4, c4, rfl, -⟩ := id hr
  by_cases hl : r.length ≤ 200
  · rw [if_pos hl] at hfw
    conv => whnf
    repeat ((first | refine zT ?_ | refine zF ?_ | refine zL hX hL ?_ | refine zB hX hL ?_ | (refine zS hX hL ?_; clear hL; intro w hL) | refine zI ?_ | refine zG hX ?_ | refine zO ?_); conv => whnf)
    refine CallReq.val hfw hL ?_
    clear hL
    intro w hL
    conv => whnf
    repeat ((first | refine zT ?_ | refine zF ?_ | refine zL hX hL ?_ | refine zB hX hL ?_ | (refine zS hX hL ?_; clear hL; intro w hL) | refine zI ?_ | refine zG hX ?_ | refine zO ?_); conv => whnf)
    exact RetReq.mk hL ⟨rfl, _, 0, r, rfl, hr, ⟨hcan.formed, hl, hin⟩, .inl rfl⟩
  · rw [if_neg hl] at hfw
    conv => whnf
    repeat ((first | refine zT ?_ | refine zF ?_ | refine zL hX hL ?_ | refine zB hX hL ?_ | (refine zS hX hL ?_; clear hL; intro w hL) | refine zI ?_ | refine zG hX ?_ | refine zO ?_); conv => whnf)
    refine CallReq.val hfw hL ?_
    clear hL
    intro w hL
    conv => whnf
    repeat ((first | refine zT ?_ | refine zF ?_ | refine zL hX hL ?_ | refine zB hX hL ?_ | (refine zS hX hL ?_; clear hL; intro w hL) | refine zI ?_ | refine zG hX ?_ | refine zO ?_); conv => whnf)
    exact RetReq.mk hL ⟨rfl, GenP.many N m2⟩
structure FBig (N : Nat) (f : Fml) : Prop where
  formed : FormedP f
  len : f.length ≤ 20000
  lt : ∀ p ∈ f, ∀ n ∈ p, n < N
theorem FB.big {N : Nat} {f : Fml} (h : FB N f) : FBig N f := ⟨h.formed, by have := h.len; omega, h.lt⟩
theorem FBig.part {N : Nat} {f : Fml} (h : FBig N f) {p : Prt} (hp : p ∈ f) : p.length ≤ N := part_len (h.formed.rises p hp) (h.lt p hp)
set_option maxHeartbeats 2000000 in
theorem AndW_fn (m : Mem) (v1 v2 : Value) (f g : Fml) (N : Nat) (hN : N ≤ 20000) (h1 : FmV m v1 f) (h2 : FmV m v2 g) (hf : FB N f) (hg : FBig N g) :
    Fn0 Tryz.prog 124 [v1, v2] m fun m' u => GenP N m' u := by
  have k1 := Formed_fn m v1 f h1
  have k2 := Formed_fn m v2 g h2
  rw [dec_t hf.formed] at k1
  rw [dec_t hg.formed] at k2
  have h1' := h1
  obtain ⟨A1, n1, c1, rfl, hn1, hc1, hm1x, -⟩ := id h1
  obtain ⟨A2, n2, c2, rfl, -⟩ := id h2
  subst hn1
  have l1 := hf.len
  have l2 := hg.len
  have hmx : maxLen = 9223372036854775807 := rfl
  refine Fn.enter (N := 38) hX Tryz.func124 rfl rfl (by show _ ≤ _; simp) (fun w0 hL => ?_)
  conv => whnf
  conv => whnf
  repeat ((first | refine zT ?_ | refine zF ?_ | refine zL hX hL ?_ | refine zB hX hL ?_ | (refine zS hX hL ?_; clear hL; intro w hL) | refine zI ?_ | refine zG hX ?_ | refine zO ?_); conv => whnf)
  refine CallReq.val k1 hL ?_
  clear hL
  intro w hL
  conv => whnf
  repeat ((first | refine zT ?_ | refine zF ?_ | refine zL hX hL ?_ | refine zB hX hL ?_ | (refine zS hX hL ?_; clear hL; intro w hL) | refine zI ?_ | refine zG hX ?_ | refine zO ?_); conv => whnf)
  refine CallReq.val k2 hL ?_
  clear hL
  intro w hL
  conv => whnf
  repeat ((first | refine zT ?_ | refine zF ?_ | refine zL hX hL ?_ | refine zB hX hL ?_ | (refine zS hX hL ?_; clear hL; intro w hL) | refine zI ?_ | refine zG hX ?_ | refine zO ?_); conv => whnf)
  refine LoopReq.inv hX (fun s : Nat × Option Addr × Nat × Nat => [(6, .slice s.2.1 s.2.2.1 s.2.2.2), (19, .int .i64 s.1)]) [1, 17, 18]
    (fun s w => s.1 ≤ f.length ∧ ∃ m1 r, Mem.Le m m1 ∧ FmV m1 (.slice s.2.1 s.2.2.1 s.2.2.2) r ∧ FB N r ∧ Ev.Loc m [] w0 m1 [] w) (fun s => f.length - s.1) (0, none, 0, 0)
    ⟨Nat.zero_le _, m, [], Mem.Le.refl m, Sl.nil _ _ _, FB.nil N, hL⟩ ⟨rfl, rfl, trivial⟩ ?_
  clear hL
  rintro ⟨j, B, bn, bc⟩ w e ⟨hj, m1, r, hm1, hr, hrS, hL⟩
  simp only at hj hr
  have hrl := hrS.len
  conv => whnf
  repeat ((first | refine zT ?_ | refine zF ?_ | refine zL hX hL ?_ | refine zB hX hL ?_ | (refine zS hX hL ?_; clear hL; intro w hL) | refine zI ?_ | refine zG hX ?_ | refine zO ?_); conv => whnf)
  refine BrReq.dec (fun hlt => ?_) (fun hlt => ?_)
  rotate_left
  · have hfw := fewG_fn m1 _ r hr (by omega)
    rw [if_pos hrl] at hfw
    conv => whnf
    repeat ((first | refine zT ?_ | refine zF ?_ | refine zL hX hL ?_ | refine zB hX hL ?_ | (refine zS hX hL ?_; clear hL; intro w hL) | refine zI ?_ | refine zG hX ?_ | refine zO ?_); conv => whnf)
    refine CallReq.val hfw hL ?_
    clear hL
    intro w hL
    conv => whnf
    repeat ((first | refine zT ?_ | refine zF ?_ | refine zL hX hL ?_ | refine zB hX hL ?_ | (refine zS hX hL ?_; clear hL; intro w hL) | refine zI ?_ | refine zG hX ?_ | refine zO ?_); conv => whnf)
    exact RetReq.mk hL ⟨rfl, _, 0, r, rfl, hr, hrS, .inl rfl⟩
  have hj1 : j < f.length := by simp only at hlt; omega
  have hjm := List.getElem_mem hj1
  have hpl := hf.part hjm
  obtain ⟨a, A5, n5, c5, ea, hcell, hpq⟩ := (h1'.le hm1).at_ hj1
  conv => whnf
  repeat ((first | (refine Idx2Req.mk j a rfl (by simp only at hlt; omega) ea ?_) | refine LdReq.one hX rfl rfl hL hcell ?_ | refine zT ?_ | refine zF ?_ | refine zL hX hL ?_ | refine zB hX hL ?_ | (refine zS hX hL ?_; clear hL; intro w hL) | refine zI ?_ | refine zG hX ?_ | refine zO ?_); conv => whnf)
  refine CallReq.mk (L1 := []) (and_fn m1 _ _ f[j] g hpq (h2.le hm1) (fun q hq => by have := hg.part hq; omega) (by omega)) hL ?_
  clear hL
  rintro u m2 L1 w hL hm12 ⟨us, ho, hH⟩
  obtain ⟨m3, hL3, hm23, hfa⟩ := hd_freeze ho hH hL
  clear hL
  have hL := hL3
  clear hL3
  obtain ⟨A6, n6, c6, rfl, -⟩ := id hfa
  conv => whnf
  repeat ((first | refine zT ?_ | refine zF ?_ | refine zL hX hL ?_ | refine zB hX hL ?_ | (refine zS hX hL ?_; clear hL; intro w hL) | refine zI ?_ | refine zG hX ?_ | refine zO ?_); conv => whnf)
  refine NewReq.mk hL ?_
  clear hL
  intro b27 w hL
  conv => whnf
  obtain ⟨m4, hL4, hm34, hfs⟩ := pair_fs (hr.le (hm12.trans hm23)) hfa (show Ev.Loc m [] w0 m3 ((b27, .cells (toArr [.slice B bn bc, .slice A6 n6 c6]) 69 (0, 0)) :: []) w from hL)
  clear hL
  have hL := hL4
  clear hL4
  conv => whnf
  repeat ((first | refine zT ?_ | refine zF ?_ | refine zL hX hL ?_ | refine zB hX hL ?_ | (refine zS hX hL ?_; clear hL; intro w hL) | refine zI ?_ | refine zG hX ?_ | refine zO ?_); conv => whnf)
  refine CallReq.mk (L1 := []) (concatF_fn m4 _ _ hfs (by rw [pair_flat, List.length_append, List.length_map]; omega) (by simp)) hL ?_
  clear hL
  rintro u mx L1 w hL - ⟨hmx2, us2, ho2, hH2⟩
  rw [hmx2] at hL
  clear hmx2 mx
  rw [pair_flat] at hH2
  have hu := ho2.slice
  obtain ⟨A3, n3, c3, rfl, -⟩ := hu
  have hlt2 : ∀ p ∈ r ++ g.map (joinP f[j]), ∀ n ∈ p, n < (N : Int) := fun p hp => (List.mem_append.1 hp).elim (hrS.lt p) fun h n hn => by
    obtain ⟨q, hq, rfl⟩ := List.mem_map.1 h
    exact (join_iff.1 hn).elim (hf.lt _ hjm n) (hg.lt q hq n)
  have hri2 : ∀ p ∈ r ++ g.map (joinP f[j]), Rises p := fun p hp => (List.mem_append.1 hp).elim (hrS.formed.rises p) fun h => by
    obtain ⟨q, hq, rfl⟩ := List.mem_map.1 h
    exact join_rises (hf.formed.rises _ hjm) (hg.formed.rises q hq)
  conv => whnf
  repeat ((first | refine zT ?_ | refine zF ?_ | refine zL hX hL ?_ | refine zB hX hL ?_ | (refine zS hX hL ?_; clear hL; intro w hL) | refine zI ?_ | refine zG hX ?_ | refine zO ?_); conv => whnf)
  refine CallReq.mk (L1 := L1) (formed_fn m4 _ us2 _ L1 ho2 hH2 (by rw [List.length_append, List.length_map]; omega) (fun p hp => by have := part_len (hri2 p hp) (hlt2 p hp); omega) hri2) hL ?_
  clear hL
  rintro u m5 L2 w hL hm45 ⟨rfl, r2, hcan2, hr2⟩
  have hin2 : ∀ p ∈ r2, ∀ n ∈ p, n < (N : Int) := fun p hp => hlt2 p (hcan2.mem p hp)
  have hrl2 : r2.length ≤ 20200 := by
    have := nodup_subF hcan2
    rw [List.length_append, List.length_map] at this; omega
  obtain ⟨A7, n7, c7, rfl, hn7, -⟩ := id hr2
  by_cases hl : r2.length ≤ 200
  · conv => whnf
    repeat ((first | refine BrReq.no (by omega) ?_ | refine zT ?_ | refine zF ?_ | refine zL hX hL ?_ | refine zB hX hL ?_ | (refine zS hX hL ?_; clear hL; intro w hL) | refine zI ?_ | refine zG hX ?_ | refine zO ?_); conv => whnf)
    refine ⟨(j + 1, A7, n7, c7), ⟨by simp only; omega, m5, r2, hm1.trans (hm12.trans (hm23.trans (hm34.trans hm45))), hr2, ⟨hcan2.formed, hl, hin2⟩, hL⟩, by first | omega | (simp only; omega) | (simp only [List.length_cons, List.length_append]; omega), ?_, ?_⟩
    · repeat (first | exact trivial | (refine And.intro (by (conv => lhs; whnf) <;> (conv => rhs; whnf) <;> (first | rfl)) ?_))
    · repeat (first | exact trivial | (refine And.intro (by (conv => lhs; whnf) <;> (conv => rhs; whnf) <;> (first | rfl)) ?_))
  · conv => whnf
    repeat ((first | refine BrReq.yes (by omega) ?_ | refine zT ?_ | refine zF ?_ | refine zL hX hL ?_ | refine zB hX hL ?_ | (refine zS hX hL ?_; clear hL; intro w hL) | refine zI ?_ | refine zG hX ?_ | refine zO ?_); conv => whnf)
    exact RetReq.mk hL ⟨rfl, GenP.many N m5⟩
set_option maxHeartbeats 2000000 in
theorem DualW_fn (m : Mem) (v : Value) (f : Fml) (N : Nat) (hN : N ≤ 20000) (h1 : FmV m v f) (hf : FB N f) :
    Fn0 Tryz.prog 156 [v] m fun m' u => GenP N m' u := by
  have hmx : maxLen = 9223372036854775807 := rfl
  have k1 := Formed_fn m v f h1
  rw [dec_t hf.formed] at k1
  have h1' := h1
  obtain ⟨A1, n1, c1, rfl, hn1, hc1, hm1x, -⟩ := id h1
  subst hn1
  have l1 := hf.len
  have hT : FB N [[]] := ⟨(Dl.start []).formed, by simp, fun p hp n hn => by rw [List.mem_singleton.1 hp] at hn; cases hn⟩
  refine Fn.enter (N := 46) hX Tryz.func156 rfl rfl (by show _ ≤ _; simp) (fun w0 hL => ?_)
  conv => whnf
  conv => whnf
  repeat ((first | refine zT ?_ | refine zF ?_ | refine zL hX hL ?_ | refine zB hX hL ?_ | (refine zS hX hL ?_; clear hL; intro w hL) | refine zI ?_ | refine zG hX ?_ | refine zO ?_); conv => whnf)
  refine CallReq.val k1 hL ?_
  clear hL
  intro w hL
  conv => whnf
  repeat ((first | refine zT ?_ | refine zF ?_ | refine zL hX hL ?_ | refine zB hX hL ?_ | (refine zS hX hL ?_; clear hL; intro w hL) | refine zI ?_ | refine zG hX ?_ | refine zO ?_); conv => whnf)
  refine CallReq.pure (true_fn m) hL ?_
  clear hL
  rintro u m1 w hL hle1 ht
  obtain ⟨At, nt, ct, rfl, -⟩ := id ht
  conv => whnf
  repeat ((first | refine zT ?_ | refine zF ?_ | refine zL hX hL ?_ | refine zB hX hL ?_ | (refine zS hX hL ?_; clear hL; intro w hL) | refine zI ?_ | refine zG hX ?_ | refine zO ?_); conv => whnf)
  refine LoopReq.inv hX (fun s : Nat × Option Addr × Nat × Nat => [(4, .slice s.2.1 s.2.2.1 s.2.2.2), (18, .int .i64 s.1)]) [16, 17]
    (fun s w => s.1 ≤ f.length ∧ ∃ m1 r, Mem.Le m m1 ∧ FmV m1 (.slice s.2.1 s.2.2.1 s.2.2.2) r ∧ FB N r ∧ Ev.Loc m [] w0 m1 [] w) (fun s => f.length - s.1) (0, At, nt, ct)
    ⟨Nat.zero_le _, m1, [[]], hle1, ht, hT, hL⟩ ⟨rfl, rfl, trivial⟩ ?_
  clear hL ht hle1
  rintro ⟨j, B, bn, bc⟩ w e ⟨hj, m1, r, hm1, hr, hrS, hL⟩
  simp only at hj hr
  have hrl := hrS.len
  conv => whnf
  repeat ((first | refine zT ?_ | refine zF ?_ | refine zL hX hL ?_ | refine zB hX hL ?_ | (refine zS hX hL ?_; clear hL; intro w hL) | refine zI ?_ | refine zG hX ?_ | refine zO ?_); conv => whnf)
  refine BrReq.dec (fun hlt => ?_) (fun hlt => ?_)
  rotate_left
  · conv => whnf
    repeat ((first | refine zT ?_ | refine zF ?_ | refine zL hX hL ?_ | refine zB hX hL ?_ | (refine zS hX hL ?_; clear hL; intro w hL) | refine zI ?_ | refine zG hX ?_ | refine zO ?_); conv => whnf)
    exact RetReq.mk hL ⟨rfl, _, 0, r, rfl, hr, hrS, .inl rfl⟩
  have hj1 : j < f.length := by simp only at hlt; omega
  have hjm := List.getElem_mem hj1
  have hpl := hf.part hjm
  have hpr := hf.formed.rises _ hjm
  have hpi := hf.lt _ hjm
  obtain ⟨a, A5, n5, c5, ea, hcell, hpq⟩ := (h1'.le hm1).at_ hj1
  generalize f[j] = p at hpl hpr hpi hpq
  have hpn := hpq.len
  have he2 := hpq.cell.2
  conv => whnf
  repeat ((first | (refine Idx2Req.mk j a rfl (by simp only at hlt; omega) ea ?_) | refine LdReq.one hX rfl rfl hL hcell ?_ | refine zT ?_ | refine zF ?_ | refine zL hX hL ?_ | refine zB hX hL ?_ | (refine zS hX hL ?_; clear hL; intro w hL) | refine zI ?_ | refine zG hX ?_ | refine zO ?_); conv => whnf)
  refine LoopReq.inv hX (fun s : Nat × Option Addr × Nat × Nat => [(7, .slice s.2.1 s.2.2.1 s.2.2.2), (24, .int .i64 s.1)]) [4, 16, 17, 18, 22, 23]
    (fun s w => s.1 ≤ p.length ∧ ∃ m2 us L1, Mem.Le m1 m2 ∧ OwnS 108 1 (.slice s.2.1 s.2.2.1 s.2.2.2) us L1 ∧ HdF m2 us (ones (p.take s.1)) ∧ Ev.Loc m [] w0 m2 L1 w) (fun s => p.length - s.1) (0, none, 0, 0)
    ⟨Nat.zero_le _, m1, [], [], Mem.Le.refl _, OwnS.nil _ _, HdF.nil _, hL⟩ ⟨rfl, rfl, trivial⟩ ?_
  clear hL
  rintro ⟨i, A2, n2, c2⟩ w e2 ⟨hi, m2, us, L1, hm12, ho, hH, hL⟩
  simp only at hi ho hH
  conv => whnf
  repeat ((first | refine zT ?_ | refine zF ?_ | refine zL hX hL ?_ | refine zB hX hL ?_ | (refine zS hX hL ?_; clear hL; intro w hL) | refine zI ?_ | refine zG hX ?_ | refine zO ?_); conv => whnf)
  refine BrReq.dec (fun hlt2 => ?_) (fun hlt2 => ?_)
  · have hi1 : i < p.length := by simp only at hlt2; omega
    obtain ⟨a3, e3, hx3⟩ := he2 i _ (List.getElem?_eq_getElem hi1)
    have hlen := lenF hH
    rw [show (ones (p.take i)).length = i by unfold ones; rw [List.length_map, List.length_take]; omega] at hlen
    conv => whnf
    repeat ((first | (refine Idx2Req.mk i a3 rfl (by simp only at hlt2; omega) e3 ?_) | (refine LdReq.one hX rfl rfl hL (by rw [scale_eq, Nat.mul_one]; exact mcell_le hm12 hx3) ?_) | refine zT ?_ | refine zF ?_ | refine zL hX hL ?_ | refine zB hX hL ?_ | (refine zS hX hL ?_; clear hL; intro w hL) | refine zI ?_ | refine zG hX ?_ | refine zO ?_); conv => whnf)
    refine NewReq.mk hL ?_
    clear hL
    intro b30 w hL
    conv => whnf
    replace hL : Ev.Loc m [] w0 m2 ([(b30, .cells (toArr [.int .i64 p[i]]) 3 (0, 0))] ++ L1) w := hL
    obtain ⟨m3, hL3, hm23, hs3⟩ := OwnS.freeze (k := .i64) (l := [p[i]]) (OwnS.full (n := 1) (by decide) rfl) hL
    clear hL
    have hL := hL3
    clear hL3
    conv => whnf
    repeat ((first | refine zT ?_ | refine zF ?_ | refine zL hX hL ?_ | refine zB hX hL ?_ | (refine zS hX hL ?_; clear hL; intro w hL) | refine zI ?_ | refine zG hX ?_ | refine zO ?_); conv => whnf)
    refine NewReq.mk hL ?_
    clear hL
    intro b31 w hL
    conv => whnf
    replace hL : Ev.Loc m [] w0 m3 ((b31, .cells (toArr [.slice (some ⟨b30, 0, none⟩) 1 1]) 108 (0, 0)) :: (L1 ++ [])) w := by rw [List.append_nil]; exact hL
    conv => whnf
    repeat ((first | refine zT ?_ | refine zF ?_ | refine zL hX hL ?_ | refine zB hX hL ?_ | (refine zS hX hL ?_; clear hL; intro w hL) | refine zI ?_ | refine zG hX ?_ | refine zO ?_); conv => whnf)
    refine RunReq.push hX 69 108 rfl rfl rfl rfl rfl ho (L2 := []) hL rfl rfl (by show _ + 1 ≤ _; omega) rfl ?_
    clear hL
    intro A4 n4 c4 L4 w hn4 ho4 hL
    rw [List.append_nil] at hL
    have hH2 := (hH.le hm23).app (hd_one hs3)
    rw [show ones (p.take i) ++ [[p[i]]] = ones (p.take (i + 1)) by rw [take_succ' hi1]; unfold ones; rw [List.map_append]; rfl] at hH2
    conv => whnf
    repeat ((first | refine zT ?_ | refine zF ?_ | refine zL hX hL ?_ | refine zB hX hL ?_ | (refine zS hX hL ?_; clear hL; intro w hL) | refine zI ?_ | refine zG hX ?_ | refine zO ?_); conv => whnf)
    refine ⟨(i + 1, A4, n4, c4), ⟨by simp only; omega, m3, _, L4, hm12.trans hm23, ho4, hH2, hL⟩, by first | omega | (simp only; omega) | (simp only [List.length_cons, List.length_append]; omega), ?_, ?_⟩
    · repeat (first | exact trivial | (refine And.intro (by (conv => lhs; whnf) <;> (conv => rhs; whnf) <;> (first | rfl)) ?_))
    · repeat (first | exact trivial | (refine And.intro (by (conv => lhs; whnf) <;> (conv => rhs; whnf) <;> (first | rfl)) ?_))
  · have ei : i = p.length := by simp only at hlt2; omega
    subst ei
    rw [List.take_length] at hH
    rw [← List.append_nil L1] at hL
    obtain ⟨m3, hL3, hm23, hfo⟩ := hd_freeze ho hH hL
    clear hL
    have hL := hL3
    clear hL3
    have hbig : FBig N (ones p) := ⟨ones_formed hpr, by unfold ones; rw [List.length_map]; omega, fun q hq n hn => by
      obtain ⟨k, hk, rfl⟩ := List.mem_map.1 hq
      rw [List.mem_singleton.1 hn]; exact hpi k hk⟩
    conv => whnf
    repeat ((first | refine zT ?_ | refine zF ?_ | refine zL hX hL ?_ | refine zB hX hL ?_ | (refine zS hX hL ?_; clear hL; intro w hL) | refine zI ?_ | refine zG hX ?_ | refine zO ?_); conv => whnf)
    refine CallReq.pure (AndW_fn m3 _ _ r (ones p) N hN (hr.le (hm12.trans hm23)) hfo hrS hbig) hL ?_
    clear hL
    rintro u m4 w hL hm34 ⟨v4, e4, r4, rfl, hr4, hb4, he4⟩
    obtain ⟨A6, n6, c6, rfl, -⟩ := id hr4
    rcases he4 with rfl | rfl
    · conv => whnf
      repeat ((first | refine zT ?_ | refine zF ?_ | refine zL hX hL ?_ | refine zB hX hL ?_ | (refine zS hX hL ?_; clear hL; intro w hL) | refine zI ?_ | refine zG hX ?_ | refine zO ?_); conv => whnf)
      refine ⟨(j + 1, A6, n6, c6), ⟨by simp only; omega, m4, r4, hm1.trans (hm12.trans (hm23.trans hm34)), hr4, hb4, hL⟩, by first | omega | (simp only; omega) | (simp only [List.length_cons, List.length_append]; omega), ?_, ?_⟩
      · repeat (first | exact trivial | (refine And.intro (by (conv => lhs; whnf) <;> (conv => rhs; whnf) <;> (first | rfl)) ?_))
      · repeat (first | exact trivial | (refine And.intro (by (conv => lhs; whnf) <;> (conv => rhs; whnf) <;> (first | rfl)) ?_))
    · conv => whnf
      repeat ((first | refine zT ?_ | refine zF ?_ | refine zL hX hL ?_ | refine zB hX hL ?_ | (refine zS hX hL ?_; clear hL; intro w hL) | refine zI ?_ | refine zG hX ?_ | refine zO ?_); conv => whnf)
      exact RetReq.mk hL ⟨rfl, GenP.many N m4⟩
end Go.Proofs.YtiololnblplloaaGreat.fo
namespace Go.Proofs.YtiololnblplloaaGreat.li
open Go Go.Ev Go.Proofs Go.Proofs.YtiololnblplloaaGreat.ar
def stO (ab b bits : Nat) (e : Int) (ma ml : Nat) : Obj := .cells (toArr [.pointer (some ⟨ab, 0, none⟩), .int .u8 b, .int .u8 bits, .int .i64 e, .map (some ma), .map (some ml)]) 103 (0, 0)
def isF (m : Mem) (N : Nat) (y : Value × Value) : Prop := ∃ (k : Int) (f : fo.Fml), y.1 = .int .i64 k ∧ ar.i64 k ∧ fo.FmV m y.2 f ∧ fo.FB N f
theorem isF.grow {m m' : Mem} {N M : Nat} {y : Value × Value} (h : isF m N y) (hm : Mem.Le m m') (hN : N ≤ M) : isF m' M y := by
  obtain ⟨k, f, h1, h2, h3, h4⟩ := h
  exact ⟨k, f, h1, h2, h3.le hm, h4.mono hN⟩
def AllF (m : Mem) (N : Nat) (l : List (Value × Value)) : Prop := ∀ y ∈ l, isF m N y
theorem AllF.grow {m m' : Mem} {N M : Nat} {l : List (Value × Value)} (h : AllF m N l) (hm : Mem.Le m m') (hN : N ≤ M) : AllF m' M l := fun y hy => (h y hy).grow hm hN
theorem AllF.keys {m : Mem} {N : Nat} {l : List (Value × Value)} (h : AllF m N l) : ∀ x ∈ l, IsK Tryz.prog 3 x.1 := fun x hx => by
  obtain ⟨k, f, h1, h2, -⟩ := h x hx
  rw [h1]; exact isK_int _ h2
theorem AllF.app {m : Mem} {N : Nat} {l : List (Value × Value)} {y : Value × Value} (h : AllF m N l) (hy : isF m N y) : AllF m N (l ++ [y]) := fun x hx => (List.mem_append.1 hx).elim (h x) fun h => by rw [List.mem_singleton.1 h]; exact hy
theorem AllF.set {m : Mem} {N : Nat} {l : List (Value × Value)} {y : Value × Value} (h : AllF m N l) (hy : isF m N y) (q : Nat) : AllF m N (l.set q y) := fun x hx => by
  rcases List.mem_or_eq_of_mem_set hx with hx | hx
  · exact h x hx
  · rw [hx]; exact hy
def EOk (e : Int) : Prop := e = 0 ∨ e = 4
structure Stp (ab sb b bits : Nat) (m : Mem) (ns : List Nd) (e : Int) (ma ml : Nat) (la ll : List (Value × Value)) (La : Ev.Own) : Prop where
  ar : Ar ab ns La
  ok : OkA ns
  are : AllF m ns.length la
  left : AllF m ns.length ll
  err : EOk e
abbrev stL (ab sb b bits : Nat) (e : Int) (ma ml : Nat) (la ll : List (Value × Value)) (La : Ev.Own) : Ev.Own := (sb, stO ab b bits e ma ml) :: (ma, mapW la) :: (ml, mapW ll) :: La
def StQ (ab sb b bits : Nat) (ns : List Nd) (ma ml : Nat) : Mem → Ev.Own → Value → Prop := fun m' L' u => ∃ ns' e' la' ll' La' f, ns <+: ns' ∧ Stp ab sb b bits m' ns' e' ma ml la' ll' La' ∧ L' = stL ab sb b bits e' ma ml la' ll' La' ∧ fo.FmV m' u f ∧ fo.FB ns'.length f
theorem keep_fn (m : Mem) (ab sb b bits : Nat) (e e2 : Int) (ma ml : Nat) (v : Value) (f : fo.Fml) (hv : fo.FmV m v f) :
    Ev.Fn Tryz.prog 59 [.pointer (some ⟨sb, 0, none⟩), v, .int .i64 e2] m [(sb, stO ab b bits e ma ml)] fun m' L' u => m' = m ∧ u = v ∧ L' = [(sb, stO ab b bits (if e = 0 then e2 else e) ma ml)] := by
  obtain ⟨A, n, c, rfl, -⟩ := id hv
  refine Fn.enter (N := 17) hX Tryz.func59 rfl rfl (by show _ ≤ _; simp) (fun w0 hL => ?_)
  conv => whnf
  generalize keys [(sb, stO ab b bits e ma ml)] = S0 at hL ⊢
  by_cases h0 : e = 0
  · subst h0
    conv => whnf
    repeat ((first | refine zT ?_ | refine zF ?_ | refine zL hX hL ?_ | refine zB hX hL ?_ | (refine zS hX hL ?_; clear hL; intro w hL) | refine zI ?_ | refine zG hX ?_ | refine zO ?_); conv => whnf)
    exact RetReq.mk hL ⟨rfl, rfl, rfl⟩
  · rw [if_neg h0]
    conv => whnf
    repeat ((first | refine BrReq.no (by omega) ?_ | refine zT ?_ | refine zF ?_ | refine zL hX hL ?_ | refine zB hX hL ?_ | (refine zS hX hL ?_; clear hL; intro w hL) | refine zI ?_ | refine zG hX ?_ | refine zO ?_); conv => whnf)
    exact RetReq.mk hL ⟨rfl, rfl, rfl⟩
theorem keepOk {e e2 : Int} (h : EOk e) (h2 : EOk e2) : EOk (if e = 0 then e2 else e) := by split; exact h2; exact h
theorem or_fn (m : Mem) (ab sb b bits : Nat) (e : Int) (ma ml : Nat) (v1 v2 : Value) (f g : fo.Fml) (N : Nat) (hN : N ≤ 20000) (he : EOk e) (h1 : fo.FmV m v1 f) (h2 : fo.FmV m v2 g) (k1 : fo.FB N f) (k2 : fo.FB N g) :
    Ev.Fn Tryz.prog 88 [.pointer (some ⟨sb, 0, none⟩), v1, v2] m [(sb, stO ab b bits e ma ml)] fun m' L' u => ∃ e' r, EOk e' ∧ L' = [(sb, stO ab b bits e' ma ml)] ∧ fo.FmV m' u r ∧ fo.FB N r := by
  obtain ⟨A1, n1, c1, rfl, -⟩ := id h1
  obtain ⟨A2, n2, c2, rfl, -⟩ := id h2
  refine Fn.enter (N := 14) hX Tryz.func88 rfl rfl (by show _ ≤ _; simp) (fun w0 hL => ?_)
  conv => whnf
  generalize keys [(sb, stO ab b bits e ma ml)] = S0 at hL ⊢
  conv => whnf
  repeat ((first | refine zT ?_ | refine zF ?_ | refine zL hX hL ?_ | refine zB hX hL ?_ | (refine zS hX hL ?_; clear hL; intro w hL) | refine zI ?_ | refine zG hX ?_ | refine zO ?_); conv => whnf)
  refine CallReq.pure (fo.OrW_fn m _ _ f g N hN h1 h2 k1 k2) hL ?_
  clear hL
  rintro u m2 w hL hm2 ⟨v, e2, r, rfl, hr, hb, he2⟩
  obtain ⟨A3, n3, c3, rfl, -⟩ := id hr
  conv => whnf
  repeat ((first | refine zT ?_ | refine zF ?_ | refine zL hX hL ?_ | refine zB hX hL ?_ | (refine zS hX hL ?_; clear hL; intro w hL) | refine zI ?_ | refine zG hX ?_ | refine zO ?_); conv => whnf)
  refine CallReq.mk (L1 := [_]) (L2 := []) (keep_fn m2 ab sb b bits e e2 ma ml _ r hr) (by rw [List.append_nil]; exact hL) ?_
  clear hL
  rintro u m3 L3 w hL - ⟨rfl, rfl, rfl⟩
  rw [List.append_nil] at hL
  conv => whnf
  repeat ((first | refine zT ?_ | refine zF ?_ | refine zL hX hL ?_ | refine zB hX hL ?_ | (refine zS hX hL ?_; clear hL; intro w hL) | refine zI ?_ | refine zG hX ?_ | refine zO ?_); conv => whnf)
  exact RetReq.mk hL ⟨_, r, keepOk he he2, rfl, hr, hb⟩
theorem and_fn (m : Mem) (ab sb b bits : Nat) (e : Int) (ma ml : Nat) (v1 v2 : Value) (f g : fo.Fml) (N : Nat) (hN : N ≤ 20000) (he : EOk e) (h1 : fo.FmV m v1 f) (h2 : fo.FmV m v2 g) (k1 : fo.FB N f) (k2 : fo.FB N g) :
    Ev.Fn Tryz.prog 89 [.pointer (some ⟨sb, 0, none⟩), v1, v2] m [(sb, stO ab b bits e ma ml)] fun m' L' u => ∃ e' r, EOk e' ∧ L' = [(sb, stO ab b bits e' ma ml)] ∧ fo.FmV m' u r ∧ fo.FB N r := by
  obtain ⟨A1, n1, c1, rfl, -⟩ := id h1
  obtain ⟨A2, n2, c2, rfl, -⟩ := id h2
  refine Fn.enter (N := 14) hX Tryz.func89 rfl rfl (by show _ ≤ _; simp) (fun w0 hL => ?_)
  conv => whnf
  generalize keys [(sb, stO ab b bits e ma ml)] = S0 at hL ⊢
  conv => whnf
  repeat ((first | refine zT ?_ | refine zF ?_ | refine zL hX hL ?_ | refine zB hX hL ?_ | (refine zS hX hL ?_; clear hL; intro w hL) | refine zI ?_ | refine zG hX ?_ | refine zO ?_); conv => whnf)
  refine CallReq.pure (fo.AndW_fn m _ _ f g N hN h1 h2 k1 k2.big) hL ?_
  clear hL
  rintro u m2 w hL hm2 ⟨v, e2, r, rfl, hr, hb, he2⟩
  obtain ⟨A3, n3, c3, rfl, -⟩ := id hr
  conv => whnf
  repeat ((first | refine zT ?_ | refine zF ?_ | refine zL hX hL ?_ | refine zB hX hL ?_ | (refine zS hX hL ?_; clear hL; intro w hL) | refine zI ?_ | refine zG hX ?_ | refine zO ?_); conv => whnf)
  refine CallReq.mk (L1 := [_]) (L2 := []) (keep_fn m2 ab sb b bits e e2 ma ml _ r hr) (by rw [List.append_nil]; exact hL) ?_
  clear hL
  rintro u m3 L3 w hL - ⟨rfl, rfl, rfl⟩
  rw [List.append_nil] at hL
  conv => whnf
  repeat ((first | refine zT ?_ | refine zF ?_ | refine zL hX hL ?_ | refine zB hX hL ?_ | (refine zS hX hL ?_; clear hL; intro w hL) | refine zI ?_ | refine zG hX ?_ | refine zO ?_); conv => whnf)
  exact RetReq.mk hL ⟨_, r, keepOk he he2, rfl, hr, hb⟩
theorem dual_fn (m : Mem) (ab sb b bits : Nat) (e : Int) (ma ml : Nat) (v1 : Value) (f : fo.Fml) (N : Nat) (hN : N ≤ 20000) (he : EOk e) (h1 : fo.FmV m v1 f) (k1 : fo.FB N f) :
    Ev.Fn Tryz.prog 132 [.pointer (some ⟨sb, 0, none⟩), v1] m [(sb, stO ab b bits e ma ml)] fun m' L' u => ∃ e' r, EOk e' ∧ L' = [(sb, stO ab b bits e' ma ml)] ∧ fo.FmV m' u r ∧ fo.FB N r := by
  obtain ⟨A1, n1, c1, rfl, -⟩ := id h1
  refine Fn.enter (N := 11) hX Tryz.func132 rfl rfl (by show _ ≤ _; simp) (fun w0 hL => ?_)
  conv => whnf
  generalize keys [(sb, stO ab b bits e ma ml)] = S0 at hL ⊢
  conv => whnf
  repeat ((first | refine zT ?_ | refine zF ?_ | refine zL hX hL ?_ | refine zB hX hL ?_ | (refine zS hX hL ?_; clear hL; intro w hL) | refine zI ?_ | refine zG hX ?_ | refine zO ?_); conv => whnf)
  refine CallReq.pure (fo.DualW_fn m _ f N hN h1 k1) hL ?_
  clear hL
  rintro u m2 w hL hm2 ⟨v, e2, r, rfl, hr, hb, he2⟩
  obtain ⟨A3, n3, c3, rfl, -⟩ := id hr
  conv => whnf
  repeat ((first | refine zT ?_ | refine zF ?_ | refine zL hX hL ?_ | refine zB hX hL ?_ | (refine zS hX hL ?_; clear hL; intro w hL) | refine zI ?_ | refine zG hX ?_ | refine zO ?_); conv => whnf)
  refine CallReq.mk (L1 := [_]) (L2 := []) (keep_fn m2 ab sb b bits e e2 ma ml _ r hr) (by rw [List.append_nil]; exact hL) ?_
  clear hL
  rintro u m3 L3 w hL - ⟨rfl, rfl, rfl⟩
  rw [List.append_nil] at hL
  conv => whnf
  repeat ((first | refine zT ?_ | refine zF ?_ | refine zL hX hL ?_ | refine zB hX hL ?_ | (refine zS hX hL ?_; clear hL; intro w hL) | refine zI ?_ | refine zG hX ?_ | refine zO ?_); conv => whnf)
  exact RetReq.mk hL ⟨_, r, keepOk he he2, rfl, hr, hb⟩
theorem atomG_fn (m : Mem) (k : Int) (h0 : 0 ≤ k) : Fn0 Tryz.prog 91 [.int .i64 k] m fun m' u => fo.FmV m' u [[k]] := by
  refine Fn.enter (N := 8) hX Tryz.func91 rfl rfl (by show _ ≤ _; simp) (fun w0 hL => ?_)
  conv => whnf
  conv => whnf
  repeat ((first | refine BrReq.no (by omega) ?_ | refine zT ?_ | refine zF ?_ | refine zL hX hL ?_ | refine zB hX hL ?_ | (refine zS hX hL ?_; clear hL; intro w hL) | refine zI ?_ | refine zG hX ?_ | refine zO ?_); conv => whnf)
  refine NewReq.mk hL ?_
  clear hL
  intro b1 w hL
  conv => whnf
  replace hL : Ev.Loc m [] w0 m ([(b1, .cells (toArr [.int .i64 k]) 3 (0, 0))] ++ []) w := hL
  obtain ⟨m1, hL1, hm1, hs⟩ := OwnS.freeze (k := .i64) (l := [k]) (OwnS.full (n := 1) (by decide) rfl) hL
  clear hL
  have hL := hL1
  clear hL1
  conv => whnf
  repeat ((first | refine zT ?_ | refine zF ?_ | refine zL hX hL ?_ | refine zB hX hL ?_ | (refine zS hX hL ?_; clear hL; intro w hL) | refine zI ?_ | refine zG hX ?_ | refine zO ?_); conv => whnf)
  refine NewReq.mk hL ?_
  clear hL
  intro b2 w hL
  conv => whnf
  replace hL : Ev.Loc m [] w0 m1 ([(b2, .cells (toArr [.slice (some ⟨b1, 0, none⟩) 1 1]) 108 (0, 0))] ++ []) w := hL
  obtain ⟨m2, hL2, hm2, hf⟩ := fo.hd_freeze (OwnS.full (n := 1) (by decide) rfl) (fo.hd_one hs) hL
  conv => whnf
  repeat ((first | refine zT ?_ | refine zF ?_ | refine zL hX hL ?_ | refine zB hX hL ?_ | (refine zS hX hL ?_; clear hL; intro w hL) | refine zI ?_ | refine zG hX ?_ | refine zO ?_); conv => whnf)
  exact RetReq.mk hL2 ⟨rfl, hf⟩
theorem atom_FB {N : Nat} {k : Int} (h0 : 0 ≤ k) (h : k < N) : fo.FB N [[k]] :=
  ⟨⟨fun p hp => by rw [List.mem_singleton.1 hp]; exact ⟨fun n hn => by rw [List.mem_singleton.1 hn]; exact h0, List.pairwise_singleton _ _⟩, List.pairwise_singleton _ _, List.pairwise_singleton _ _⟩, by simp, fun p hp n hn => by
    rw [List.mem_singleton.1 hp] at hn
    rw [List.mem_singleton.1 hn]; exact h⟩
theorem true_FB (N : Nat) : fo.FB N [[]] := ⟨(fo.Dl.start []).formed, by simp, fun p hp n hn => by rw [List.mem_singleton.1 hp] at hn; cases hn⟩
end Go.Proofs.YtiololnblplloaaGreat.li
namespace Go.Proofs.YtiololnblplloaaGreat.li
open Go Go.Ev Go.Proofs Go.Proofs.YtiololnblplloaaGreat.ar
variable {ab sb b bits : Nat} {m : Mem} {ns : List Nd} {e : Int} {ma ml : Nat} {la ll : List (Value × Value)} {La : Ev.Own}
theorem Stp.grow {m' : Mem} (h : Stp ab sb b bits m ns e ma ml la ll La) (hm : Mem.Le m m') : Stp ab sb b bits m' ns e ma ml la ll La :=
  ⟨h.ar, h.ok, h.are.grow hm (Nat.le_refl _), h.left.grow hm (Nat.le_refl _), h.err⟩
theorem Stp.arena {ns' : List Nd} {La' : Ev.Own} (h : Stp ab sb b bits m ns e ma ml la ll La) (hp : ns <+: ns') (hO : OkA ns') (hA : Ar ab ns' La') : Stp ab sb b bits m ns' e ma ml la ll La' :=
  ⟨hA, hO, h.are.grow (Mem.Le.refl _) hp.length_le, h.left.grow (Mem.Le.refl _) hp.length_le, h.err⟩
theorem Stp.errs {e' : Int} (h : Stp ab sb b bits m ns e ma ml la ll La) (he : EOk e') : Stp ab sb b bits m ns e' ma ml la ll La := ⟨h.ar, h.ok, h.are, h.left, he⟩
def OfC (ab sb b bits : Nat) (ma ml : Nat) (k : Nat) : Prop := ∀ (m : Mem) (ns : List Nd) (e : Int) (la ll : List (Value × Value)) (La : Ev.Own) (id : Int), Stp ab sb b bits m ns e ma ml la ll La → ar.i64 id → (okId ns id → dep ns id < k) →
  Ev.Fn Tryz.prog 45 [.pointer (some ⟨sb, 0, none⟩), .int .i64 id] m (stL ab sb b bits e ma ml la ll La) (StQ ab sb b bits ns ma ml)
def TS (m : Mem) (S : List Nat) (w0 : World) (bn sb ab b bits ma ml : Nat) (x : Nd) (w : World) : Prop := ∃ e, Ev.Loc m S w0 m [(bn, .cells (toArr (ndC x)) 80 (0, 0)), (sb, stO ab b bits e ma ml)] w
theorem TS.gab {m : Mem} {S : List Nat} {w0 : World} {bn sb ab b bits ma ml : Nat} {x : Nd} (w : World) (h : TS m S w0 bn sb ab b bits ma ml x w) : w.cell? ⟨sb, 0, none⟩ = some (.pointer (some ⟨ab, 0, none⟩)) := by
  obtain ⟨e, h⟩ := h
  rw [h.ownCell (b := sb) (List.mem_cons_of_mem _ List.mem_cons_self)]; rfl
theorem TS.ga {m : Mem} {S : List Nat} {w0 : World} {bn sb ab b bits ma ml : Nat} {x : Nd} (w : World) (h : TS m S w0 bn sb ab b bits ma ml x w) : w.cell? ((⟨bn, 0, none⟩ : Addr).add 5) = some (.int .i64 x.a) := by
  obtain ⟨e, h⟩ := h
  rw [addr_add, h.ownCell (b := bn) List.mem_cons_self]; rfl
theorem TS.gb {m : Mem} {S : List Nat} {w0 : World} {bn sb ab b bits ma ml : Nat} {x : Nd} (w : World) (h : TS m S w0 bn sb ab b bits ma ml x w) : w.cell? ((⟨bn, 0, none⟩ : Addr).add 6) = some (.int .i64 x.b) := by
  obtain ⟨e, h⟩ := h
  rw [addr_add, h.ownCell (b := bn) List.mem_cons_self]; rfl
theorem TS.of {m m' : Mem} {S : List Nat} {w0 : World} {bn sb ab b bits ma ml : Nat} {x : Nd} {e : Int} {L : Ev.Own} {w : World} (h : Ev.Loc m S w0 m' ((bn, .cells (toArr (ndC x)) 80 (0, 0)) :: (sb, stO ab b bits e ma ml) :: L) w) (hm : Mem.Le m m') : TS m S w0 bn sb ab b bits ma ml x w :=
  ⟨e, (h.sublist (.cons_cons _ (.cons_cons _ (List.nil_sublist _)))).weaken hm (Mem.Le.refl _)⟩
set_option maxHeartbeats 4000000 in
theorem not_fn {k : Nat} (ih : OfC ab sb b bits ma ml k) (hS : Stp ab sb b bits m ns e ma ml la ll La) (i0 inner : Int) (hid : okId ns i0) (hk6 : kindN ns i0 = 6) (hin : (nodeN ns i0).1.a = inner) (hd : dep ns i0 ≤ k) :
    Ev.Fn Tryz.prog 90 [.pointer (some ⟨sb, 0, none⟩), .int .i64 i0, .int .i64 inner] m (stL ab sb b bits e ma ml la ll La) (StQ ab sb b bits ns ma ml) := by
  have hlen := hS.ok.len
  have hd1 := dep_one hS.ok hid (.inl hk6)
  obtain ⟨hi1, hi2⟩ := one_lt hS.ok hid (.inl hk6)
  rw [hin] at hd1 hi1 hi2
  obtain ⟨x, hx1, hx2⟩ := nodeN_ok hi1
  have hnode := Node_fn m ab ns La hS.ar inner
  rw [hx1] at hnode
  simp only at hnode
  have hkx : kindN ns inner = x.k := by unfold kindN; rw [hx1]
  have h2 := dep_two hS.ok hi1
  rw [hkx, hx1] at h2
  have hpt := parts_lt hS.ok hi1
  rw [hkx, hx1] at hpt
  have h0 := hid.1
  refine Fn.enter (N := 69) hX Tryz.func90 rfl rfl (by show _ ≤ _; simp) (fun w0 hL => ?_)
  conv => whnf
  generalize keys (stL ab sb b bits e ma ml la ll La) = S0 at hL ⊢
  conv => whnf
  repeat ((first | refine zT ?_ | refine zF ?_ | refine zL hX hL ?_ | refine zB hX hL ?_ | (refine zS hX hL ?_; clear hL; intro w hL) | refine zI ?_ | refine zG hX ?_ | refine zO ?_); conv => whnf)
  refine CallReq.li (L1 := La) hnode (Loc.back (L1 := [_, _, _]) hL) ?_
  clear hL
  intro w hL
  have hL := Loc.back (L1 := La) (L2 := [_, _, _]) hL
  conv => whnf
  repeat ((first | refine zT ?_ | refine zF ?_ | refine zL hX hL ?_ | refine zB hX hL ?_ | (refine zS hX hL ?_; clear hL; intro w hL) | refine zI ?_ | refine zG hX ?_ | refine zO ?_); conv => whnf)
  refine NewReq.mk hL ?_
  clear hL
  intro bn w hL
  conv => whnf
  obtain ⟨xk, s0, s1, s2, s3, a, b', neg⟩ := x
  simp only at h2 hpt hkx
  by_cases k0 : xk = 0
  · subst k0
    conv => whnf
    repeat ((first | refine zT ?_ | refine zF ?_ | refine zL hX hL ?_ | refine zB hX hL ?_ | (refine zS hX hL ?_; clear hL; intro w hL) | refine zI ?_ | refine zG hX ?_ | refine zO ?_); conv => whnf)
    refine CallReq.pure (fo.true_fn m) hL ?_
    clear hL
    rintro u m1 w hL hm1 hf
    obtain ⟨A1, n1, c1, rfl, -⟩ := id hf
    conv => whnf
    repeat ((first | refine zT ?_ | refine zF ?_ | refine zL hX hL ?_ | refine zB hX hL ?_ | (refine zS hX hL ?_; clear hL; intro w hL) | refine zI ?_ | refine zG hX ?_ | refine zO ?_); conv => whnf)
    exact RetReq.mk hL.drop ⟨ns, e, la, ll, La, [[]], List.prefix_refl _, hS.grow hm1, rfl, hf, true_FB _⟩
  by_cases k4 : xk = 4
  · subst k4
    have hk := h2 (by omega)
    have hp := hpt (by omega)
    conv => whnf
    repeat ((first | refine zT ?_ | refine zF ?_ | refine zL hX hL ?_ | refine zB hX hL ?_ | (refine zS hX hL ?_; clear hL; intro w hL) | refine zI ?_ | refine zG hX ?_ | refine zO ?_); conv => whnf)
    refine DrawReq.planS hX (.fst 0 (.fst 1 (.fst 2 (.fst 3 (.fst 4 (.fst 5 (.fst 6 (.fst 7 (.fst 10 (.fst 11 (.fst 12 (.fst 13 (.fst 14 (.fst 15 (.fst 16 (.alt 8 (.alt 9 (.alt 17 (.alt 18 (.alt 19 (.fst 20 (.done)) (.stop)) (.stop)) (.stop)) (.stop)) (.stop))))))))))))))))) (TS m S0 w0 bn sb ab b bits ma ml ⟨4, s0, s1, s2, s3, a, b', neg⟩) (by kernel_rfl) (by kernel_rfl) hL (fun w h => TS.of h (Mem.Le.refl _)) ?_
    clear hL
    intro w hL
    conv => whnf
    repeat ((first | refine QLdReq.told hX rfl rfl TS.gab ?_ | refine QLdReq.told hX rfl rfl TS.ga ?_ | refine QLdReq.told hX rfl rfl TS.gb ?_ | refine zQ hX ?_ | refine zR hX ?_ | refine zA ?_ | refine zT ?_ | refine zF ?_ | refine zL hX hL ?_ | refine zB hX hL ?_ | (refine zS hX hL ?_; clear hL; intro w hL) | refine zI ?_ | refine zG hX ?_ | refine zO ?_); conv => whnf)
    have hO1 := notN_ok hS.ok (okId_i64 hlen hp.1.1)
    have hp1 := notN_pre ns a
    have hd1' := fun hy => dep_not hS.ok hp.1.1 hy
    refine CallReq.mk (L1 := _) (L2 := [_, _, _, _]) (NotG_fn _ ab _ _ hS.ar hS.ok _) (Loc.back (L1 := [_, _, _, _]) hL) ?_
    clear hL
    rintro u m1 L1 w hL hm1 ⟨rfl, hA1⟩
    have hL := Loc.back (L2 := [_, _, _, _]) hL
    have hS1 := (hS.grow hm1).arena hp1 hO1 hA1
    refine SReq.mk (TS.of hL hm1) ?_
    conv => whnf
    repeat ((first | refine zQ hX ?_ | refine zR hX ?_ | refine zA ?_ | refine zT ?_ | refine zF ?_ | refine zL hX hL ?_ | refine zB hX hL ?_ | (refine zS hX hL ?_; clear hL; intro w hL) | refine zI ?_ | refine zG hX ?_ | refine zO ?_); conv => whnf)
    have hi64 := (okB_not hS.ok (okId_i64 hlen hp.1.1)).2
    refine CallReq.mk (L1 := stL ab sb b bits _ ma ml _ _ _) (L2 := [_]) (ih _ _ _ _ _ _ _ hS1 hi64 (fun hy => Nat.lt_of_le_of_lt (hd1' hy) (by omega))) (Loc.back (L1 := [_]) hL) ?_
    clear hL
    rintro u m2 L2 w hL hm2 ⟨ns2, e2, la2, ll2, La2, f2, hp2, hS2, rfl, hf2, hb2⟩
    obtain ⟨A2, n2, c2, rfl, -⟩ := id hf2
    have hL := Loc.back (L1 := stL ab sb b bits e2 ma ml la2 ll2 La2) (L2 := [_]) hL
    refine SReq.mk (TS.of hL (hm1.trans hm2)) ?_
    conv => whnf
    repeat ((first | refine zQ hX ?_ | refine zR hX ?_ | refine zA ?_ | refine zT ?_ | refine zF ?_ | refine zL hX hL ?_ | refine zB hX hL ?_ | (refine zS hX hL ?_; clear hL; intro w hL) | refine zI ?_ | refine zG hX ?_ | refine zO ?_); conv => whnf)
    have hq2 := hp1.trans hp2
    have hbk := okId_pre hq2 hp.2.1
    have hO3 := notN_ok hS2.ok (okId_i64 hS2.ok.len hbk)
    have hp3 := notN_pre ns2 b'
    have hd3 := fun hy => dep_not hS2.ok hbk hy
    rw [dep_grow hS.ok hS2.ok hq2 hp.2.1] at hd3
    have hi3 := (okB_not hS2.ok (okId_i64 hS2.ok.len hbk)).2
    refine CallReq.mk (L1 := _) (L2 := [_, _, _, _]) (NotG_fn _ ab _ _ hS2.ar hS2.ok _) (Loc.back (L1 := [_, _, _, _]) hL) ?_
    clear hL
    rintro u m3 L3 w hL hm3 ⟨rfl, hA3⟩
    have hL := Loc.back (L2 := [_, _, _, _]) hL
    have hS3 := (hS2.grow hm3).arena hp3 hO3 hA3
    refine SReq.mk (TS.of hL (hm1.trans (hm2.trans hm3))) ?_
    conv => whnf
    repeat ((first | refine zQ hX ?_ | refine zR hX ?_ | refine zA ?_ | refine zT ?_ | refine zF ?_ | refine zL hX hL ?_ | refine zB hX hL ?_ | (refine zS hX hL ?_; clear hL; intro w hL) | refine zI ?_ | refine zG hX ?_ | refine zO ?_); conv => whnf)
    refine CallReq.mk (L1 := stL ab sb b bits _ ma ml _ _ _) (L2 := [_]) (ih _ _ _ _ _ _ _ hS3 hi3 (fun hy => Nat.lt_of_le_of_lt (hd3 hy) (by omega))) (Loc.back (L1 := [_]) hL) ?_
    clear hL
    rintro u m4 L4 w hL hm4 ⟨ns4, e4, la4, ll4, La4, f4, hp4, hS4, rfl, hf4, hb4⟩
    obtain ⟨A4, n4, c4, rfl, -⟩ := id hf4
    have hL := Loc.back (L1 := stL ab sb b bits e4 ma ml la4 ll4 La4) (L2 := [_]) hL
    refine SReq.mk (TS.of hL (hm1.trans (hm2.trans (hm3.trans hm4)))) ?_
    conv => whnf
    repeat ((first | refine zQ hX ?_ | refine zR hX ?_ | refine zA ?_ | refine zT ?_ | refine zF ?_ | refine zL hX hL ?_ | refine zB hX hL ?_ | (refine zS hX hL ?_; clear hL; intro w hL) | refine zI ?_ | refine zG hX ?_ | refine zO ?_); conv => whnf)
    refine CallReq.mk (L1 := [_]) (L2 := _ :: (ma, mapW _) :: (ml, mapW _) :: _) (and_fn _ ab sb b bits e4 ma ml _ _ f2 f4 ns4.length hS4.ok.len hS4.err (hf2.le (hm3.trans hm4)) hf4 (hb2.mono (hp3.trans hp4).length_le) hb4) (hL.perm (List.Perm.swap _ _ _)) ?_
    clear hL
    rintro u m5 L5 w hL hm5 ⟨e5, r5, he5, rfl, hr5, hb5⟩
    obtain ⟨A5, n5, c5, rfl, -⟩ := id hr5
    have hL := hL.perm (List.Perm.swap _ _ _)
    refine SReq.mk (TS.of hL (hm1.trans (hm2.trans (hm3.trans (hm4.trans hm5))))) ?_
    conv => whnf
    repeat ((first | refine zQ hX ?_ | refine zR hX ?_ | refine zA ?_ | refine zT ?_ | refine zF ?_ | refine zL hX hL ?_ | refine zB hX hL ?_ | (refine zS hX hL ?_; clear hL; intro w hL) | refine zI ?_ | refine zG hX ?_ | refine zO ?_); conv => whnf)
    exact RetReq.mk hL.drop ⟨ns4, e5, la4, ll4, La4, r5, hq2.trans (hp3.trans hp4), (hS4.grow hm5).errs he5, rfl, hr5, hb5⟩
  by_cases k5 : xk = 5
  · subst k5
    have hk := h2 (by omega)
    have hp := hpt (by omega)
    conv => whnf
    repeat ((first | refine zT ?_ | refine zF ?_ | refine zL hX hL ?_ | refine zB hX hL ?_ | (refine zS hX hL ?_; clear hL; intro w hL) | refine zI ?_ | refine zG hX ?_ | refine zO ?_); conv => whnf)
    refine DrawReq.planS hX (.fst 0 (.fst 1 (.fst 2 (.fst 3 (.fst 4 (.fst 5 (.fst 6 (.fst 7 (.fst 10 (.fst 11 (.fst 12 (.fst 13 (.fst 14 (.fst 15 (.fst 16 (.alt 8 (.alt 9 (.alt 17 (.alt 18 (.alt 19 (.fst 20 (.done)) (.stop)) (.stop)) (.stop)) (.stop)) (.stop))))))))))))))))) (TS m S0 w0 bn sb ab b bits ma ml ⟨5, s0, s1, s2, s3, a, b', neg⟩) (by kernel_rfl) (by kernel_rfl) hL (fun w h => TS.of h (Mem.Le.refl _)) ?_
    clear hL
    intro w hL
    conv => whnf
    repeat ((first | refine QLdReq.told hX rfl rfl TS.gab ?_ | refine QLdReq.told hX rfl rfl TS.ga ?_ | refine QLdReq.told hX rfl rfl TS.gb ?_ | refine zQ hX ?_ | refine zR hX ?_ | refine zA ?_ | refine zT ?_ | refine zF ?_ | refine zL hX hL ?_ | refine zB hX hL ?_ | (refine zS hX hL ?_; clear hL; intro w hL) | refine zI ?_ | refine zG hX ?_ | refine zO ?_); conv => whnf)
    have hO1 := notN_ok hS.ok (okId_i64 hlen hp.1.1)
    have hp1 := notN_pre ns a
    have hd1' := fun hy => dep_not hS.ok hp.1.1 hy
    refine CallReq.mk (L1 := _) (L2 := [_, _, _, _]) (NotG_fn _ ab _ _ hS.ar hS.ok _) (Loc.back (L1 := [_, _, _, _]) hL) ?_
    clear hL
    rintro u m1 L1 w hL hm1 ⟨rfl, hA1⟩
    have hL := Loc.back (L2 := [_, _, _, _]) hL
    have hS1 := (hS.grow hm1).arena hp1 hO1 hA1
    refine SReq.mk (TS.of hL hm1) ?_
    conv => whnf
    repeat ((first | refine zQ hX ?_ | refine zR hX ?_ | refine zA ?_ | refine zT ?_ | refine zF ?_ | refine zL hX hL ?_ | refine zB hX hL ?_ | (refine zS hX hL ?_; clear hL; intro w hL) | refine zI ?_ | refine zG hX ?_ | refine zO ?_); conv => whnf)
    have hi64 := (okB_not hS.ok (okId_i64 hlen hp.1.1)).2
    refine CallReq.mk (L1 := stL ab sb b bits _ ma ml _ _ _) (L2 := [_]) (ih _ _ _ _ _ _ _ hS1 hi64 (fun hy => Nat.lt_of_le_of_lt (hd1' hy) (by omega))) (Loc.back (L1 := [_]) hL) ?_
    clear hL
    rintro u m2 L2 w hL hm2 ⟨ns2, e2, la2, ll2, La2, f2, hp2, hS2, rfl, hf2, hb2⟩
    obtain ⟨A2, n2, c2, rfl, -⟩ := id hf2
    have hL := Loc.back (L1 := stL ab sb b bits e2 ma ml la2 ll2 La2) (L2 := [_]) hL
    refine SReq.mk (TS.of hL (hm1.trans hm2)) ?_
    conv => whnf
    repeat ((first | refine zQ hX ?_ | refine zR hX ?_ | refine zA ?_ | refine zT ?_ | refine zF ?_ | refine zL hX hL ?_ | refine zB hX hL ?_ | (refine zS hX hL ?_; clear hL; intro w hL) | refine zI ?_ | refine zG hX ?_ | refine zO ?_); conv => whnf)
    have hq2 := hp1.trans hp2
    have hbk := okId_pre hq2 hp.2.1
    have hO3 := notN_ok hS2.ok (okId_i64 hS2.ok.len hbk)
    have hp3 := notN_pre ns2 b'
    have hd3 := fun hy => dep_not hS2.ok hbk hy
    rw [dep_grow hS.ok hS2.ok hq2 hp.2.1] at hd3
    have hi3 := (okB_not hS2.ok (okId_i64 hS2.ok.len hbk)).2
    refine CallReq.mk (L1 := _) (L2 := [_, _, _, _]) (NotG_fn _ ab _ _ hS2.ar hS2.ok _) (Loc.back (L1 := [_, _, _, _]) hL) ?_
    clear hL
    rintro u m3 L3 w hL hm3 ⟨rfl, hA3⟩
    have hL := Loc.back (L2 := [_, _, _, _]) hL
    have hS3 := (hS2.grow hm3).arena hp3 hO3 hA3
    refine SReq.mk (TS.of hL (hm1.trans (hm2.trans hm3))) ?_
    conv => whnf
    repeat ((first | refine zQ hX ?_ | refine zR hX ?_ | refine zA ?_ | refine zT ?_ | refine zF ?_ | refine zL hX hL ?_ | refine zB hX hL ?_ | (refine zS hX hL ?_; clear hL; intro w hL) | refine zI ?_ | refine zG hX ?_ | refine zO ?_); conv => whnf)
    refine CallReq.mk (L1 := stL ab sb b bits _ ma ml _ _ _) (L2 := [_]) (ih _ _ _ _ _ _ _ hS3 hi3 (fun hy => Nat.lt_of_le_of_lt (hd3 hy) (by omega))) (Loc.back (L1 := [_]) hL) ?_
    clear hL
    rintro u m4 L4 w hL hm4 ⟨ns4, e4, la4, ll4, La4, f4, hp4, hS4, rfl, hf4, hb4⟩
    obtain ⟨A4, n4, c4, rfl, -⟩ := id hf4
    have hL := Loc.back (L1 := stL ab sb b bits e4 ma ml la4 ll4 La4) (L2 := [_]) hL
    refine SReq.mk (TS.of hL (hm1.trans (hm2.trans (hm3.trans hm4)))) ?_
    conv => whnf
    repeat ((first | refine zQ hX ?_ | refine zR hX ?_ | refine zA ?_ | refine zT ?_ | refine zF ?_ | refine zL hX hL ?_ | refine zB hX hL ?_ | (refine zS hX hL ?_; clear hL; intro w hL) | refine zI ?_ | refine zG hX ?_ | refine zO ?_); conv => whnf)
    refine CallReq.mk (L1 := [_]) (L2 := _ :: (ma, mapW _) :: (ml, mapW _) :: _) (or_fn _ ab sb b bits e4 ma ml _ _ f2 f4 ns4.length hS4.ok.len hS4.err (hf2.le (hm3.trans hm4)) hf4 (hb2.mono (hp3.trans hp4).length_le) hb4) (hL.perm (List.Perm.swap _ _ _)) ?_
    clear hL
    rintro u m5 L5 w hL hm5 ⟨e5, r5, he5, rfl, hr5, hb5⟩
    obtain ⟨A5, n5, c5, rfl, -⟩ := id hr5
    have hL := hL.perm (List.Perm.swap _ _ _)
    refine SReq.mk (TS.of hL (hm1.trans (hm2.trans (hm3.trans (hm4.trans hm5))))) ?_
    conv => whnf
    repeat ((first | refine zQ hX ?_ | refine zR hX ?_ | refine zA ?_ | refine zT ?_ | refine zF ?_ | refine zL hX hL ?_ | refine zB hX hL ?_ | (refine zS hX hL ?_; clear hL; intro w hL) | refine zI ?_ | refine zG hX ?_ | refine zO ?_); conv => whnf)
    exact RetReq.mk hL.drop ⟨ns4, e5, la4, ll4, La4, r5, hq2.trans (hp3.trans hp4), (hS4.grow hm5).errs he5, rfl, hr5, hb5⟩
  conv => whnf
  repeat ((first | refine BrReq.no (by omega) ?_ | refine zT ?_ | refine zF ?_ | refine zL hX hL ?_ | refine zB hX hL ?_ | (refine zS hX hL ?_; clear hL; intro w hL) | refine zI ?_ | refine zG hX ?_ | refine zO ?_); conv => whnf)
  refine CallReq.pure (atomG_fn m i0 h0) hL ?_
  clear hL
  rintro u m1 w hL hm1 hf
  obtain ⟨A1, n1, c1, rfl, -⟩ := id hf
  conv => whnf
  repeat ((first | refine zT ?_ | refine zF ?_ | refine zL hX hL ?_ | refine zB hX hL ?_ | (refine zS hX hL ?_; clear hL; intro w hL) | refine zI ?_ | refine zG hX ?_ | refine zO ?_); conv => whnf)
  exact RetReq.mk hL.drop ⟨ns, e, la, ll, La, [[i0]], List.prefix_refl _, hS.grow hm1, rfl, hf, atom_FB h0 hid.2⟩
set_option maxHeartbeats 4000000 in
theorem make_fn {k : Nat} (ih : OfC ab sb b bits ma ml k) (hS : Stp ab sb b bits m ns e ma ml la ll La) (i0 : Int) (x : Nd) (hid : okId ns i0) (hx : nodeN ns i0 = (x, true)) (hd : dep ns i0 ≤ k) :
    Ev.Fn Tryz.prog 60 [.pointer (some ⟨sb, 0, none⟩), .int .i64 i0, .agg (toArr (ndC x))] m (stL ab sb b bits e ma ml la ll La) (StQ ab sb b bits ns ma ml) := by
  have hlen := hS.ok.len
  have hkx : kindN ns i0 = x.k := by unfold kindN; rw [hx]
  have h2 := dep_two hS.ok hid
  rw [hkx, hx] at h2
  have hpt := parts_lt hS.ok hid
  rw [hkx, hx] at hpt
  have h0 := hid.1
  refine Fn.enter (N := 45) hX Tryz.func60 rfl rfl (by show _ ≤ _; simp) (fun w0 hL => ?_)
  conv => whnf
  generalize keys (stL ab sb b bits e ma ml la ll La) = S0 at hL ⊢
  refine NewReq.mk hL ?_
  clear hL
  intro bn w hL
  conv => whnf
  obtain ⟨xk, s0, s1, s2, s3, a, b', neg⟩ := x
  simp only at h2 hpt hkx
  by_cases k0 : xk = 0
  · subst k0
    conv => whnf
    repeat ((first | refine zT ?_ | refine zF ?_ | refine zL hX hL ?_ | refine zB hX hL ?_ | (refine zS hX hL ?_; clear hL; intro w hL) | refine zI ?_ | refine zG hX ?_ | refine zO ?_); conv => whnf)
    refine CallReq.val (fo.false_fn m) hL ?_
    clear hL
    intro w hL
    conv => whnf
    repeat ((first | refine zT ?_ | refine zF ?_ | refine zL hX hL ?_ | refine zB hX hL ?_ | (refine zS hX hL ?_; clear hL; intro w hL) | refine zI ?_ | refine zG hX ?_ | refine zO ?_); conv => whnf)
    exact RetReq.mk hL.drop ⟨ns, e, la, ll, La, [], List.prefix_refl _, hS, rfl, Sl.nil _ _ _, fo.FB.nil _⟩
  by_cases k4 : xk = 4
  · subst k4
    have hk := h2 (by omega)
    have hp := hpt (by omega)
    conv => whnf
    repeat ((first | refine zT ?_ | refine zF ?_ | refine zL hX hL ?_ | refine zB hX hL ?_ | (refine zS hX hL ?_; clear hL; intro w hL) | refine zI ?_ | refine zG hX ?_ | refine zO ?_); conv => whnf)
    refine DrawReq.planS hX (.fst 0 (.fst 1 (.fst 2 (.fst 3 (.fst 5 (.fst 6 (.fst 7 (.alt 4 (.alt 8 (.alt 9 (.fst 10 (.done)) (.stop)) (.stop)) (.stop))))))))) (TS m S0 w0 bn sb ab b bits ma ml ⟨4, s0, s1, s2, s3, a, b', neg⟩) (by kernel_rfl) (by kernel_rfl) hL (fun w h => TS.of h (Mem.Le.refl _)) ?_
    clear hL
    intro w hL
    conv => whnf
    repeat ((first | refine QLdReq.told hX rfl rfl TS.gab ?_ | refine QLdReq.told hX rfl rfl TS.ga ?_ | refine QLdReq.told hX rfl rfl TS.gb ?_ | refine zQ hX ?_ | refine zR hX ?_ | refine zA ?_ | refine zT ?_ | refine zF ?_ | refine zL hX hL ?_ | refine zB hX hL ?_ | (refine zS hX hL ?_; clear hL; intro w hL) | refine zI ?_ | refine zG hX ?_ | refine zO ?_); conv => whnf)
    refine CallReq.mk (L1 := stL ab sb b bits _ ma ml _ _ _) (L2 := [_]) (ih _ _ _ _ _ _ _ hS (okId_i64 hlen hp.1.1) (fun _ => Nat.lt_of_lt_of_le hk.1 hd)) (Loc.back (L1 := [_]) hL) ?_
    clear hL
    rintro u m2 L2 w hL hm2 ⟨ns2, e2, la2, ll2, La2, f2, hp2, hS2, rfl, hf2, hb2⟩
    obtain ⟨A2, n2, c2, rfl, -⟩ := id hf2
    have hL := Loc.back (L1 := stL ab sb b bits e2 ma ml la2 ll2 La2) (L2 := [_]) hL
    refine SReq.mk (TS.of hL hm2) ?_
    conv => whnf
    repeat ((first | refine zQ hX ?_ | refine zR hX ?_ | refine zA ?_ | refine zT ?_ | refine zF ?_ | refine zL hX hL ?_ | refine zB hX hL ?_ | (refine zS hX hL ?_; clear hL; intro w hL) | refine zI ?_ | refine zG hX ?_ | refine zO ?_); conv => whnf)
    have hbk := okId_pre hp2 hp.2.1
    have hdb := dep_grow hS.ok hS2.ok hp2 hp.2.1
    refine CallReq.mk (L1 := stL ab sb b bits _ ma ml _ _ _) (L2 := [_]) (ih _ _ _ _ _ _ _ hS2 (okId_i64 hS2.ok.len hbk) (fun _ => by rw [hdb]; exact Nat.lt_of_lt_of_le hk.2 hd)) (Loc.back (L1 := [_]) hL) ?_
    clear hL
    rintro u m4 L4 w hL hm4 ⟨ns4, e4, la4, ll4, La4, f4, hp4, hS4, rfl, hf4, hb4⟩
    obtain ⟨A4, n4, c4, rfl, -⟩ := id hf4
    have hL := Loc.back (L1 := stL ab sb b bits e4 ma ml la4 ll4 La4) (L2 := [_]) hL
    refine SReq.mk (TS.of hL (hm2.trans hm4)) ?_
    conv => whnf
    repeat ((first | refine zQ hX ?_ | refine zR hX ?_ | refine zA ?_ | refine zT ?_ | refine zF ?_ | refine zL hX hL ?_ | refine zB hX hL ?_ | (refine zS hX hL ?_; clear hL; intro w hL) | refine zI ?_ | refine zG hX ?_ | refine zO ?_); conv => whnf)
    refine CallReq.mk (L1 := [_]) (L2 := _ :: (ma, mapW _) :: (ml, mapW _) :: _) (or_fn _ ab sb b bits e4 ma ml _ _ f2 f4 ns4.length hS4.ok.len hS4.err (hf2.le hm4) hf4 (hb2.mono hp4.length_le) hb4) (hL.perm (List.Perm.swap _ _ _)) ?_
    clear hL
    rintro u m5 L5 w hL hm5 ⟨e5, r5, he5, rfl, hr5, hb5⟩
    obtain ⟨A5, n5, c5, rfl, -⟩ := id hr5
    have hL := hL.perm (List.Perm.swap _ _ _)
    refine SReq.mk (TS.of hL (hm2.trans (hm4.trans hm5))) ?_
    conv => whnf
    repeat ((first | refine zQ hX ?_ | refine zR hX ?_ | refine zA ?_ | refine zT ?_ | refine zF ?_ | refine zL hX hL ?_ | refine zB hX hL ?_ | (refine zS hX hL ?_; clear hL; intro w hL) | refine zI ?_ | refine zG hX ?_ | refine zO ?_); conv => whnf)
    exact RetReq.mk hL.drop ⟨ns4, e5, la4, ll4, La4, r5, hp2.trans hp4, (hS4.grow hm5).errs he5, rfl, hr5, hb5⟩
  by_cases k5 : xk = 5
  · subst k5
    have hk := h2 (by omega)
    have hp := hpt (by omega)
    conv => whnf
    repeat ((first | refine zT ?_ | refine zF ?_ | refine zL hX hL ?_ | refine zB hX hL ?_ | (refine zS hX hL ?_; clear hL; intro w hL) | refine zI ?_ | refine zG hX ?_ | refine zO ?_); conv => whnf)
    refine DrawReq.planS hX (.fst 0 (.fst 1 (.fst 2 (.fst 3 (.fst 5 (.fst 6 (.fst 7 (.alt 4 (.alt 8 (.alt 9 (.fst 10 (.done)) (.stop)) (.stop)) (.stop))))))))) (TS m S0 w0 bn sb ab b bits ma ml ⟨5, s0, s1, s2, s3, a, b', neg⟩) (by kernel_rfl) (by kernel_rfl) hL (fun w h => TS.of h (Mem.Le.refl _)) ?_
    clear hL
    intro w hL
    conv => whnf
    repeat ((first | refine QLdReq.told hX rfl rfl TS.gab ?_ | refine QLdReq.told hX rfl rfl TS.ga ?_ | refine QLdReq.told hX rfl rfl TS.gb ?_ | refine zQ hX ?_ | refine zR hX ?_ | refine zA ?_ | refine zT ?_ | refine zF ?_ | refine zL hX hL ?_ | refine zB hX hL ?_ | (refine zS hX hL ?_; clear hL; intro w hL) | refine zI ?_ | refine zG hX ?_ | refine zO ?_); conv => whnf)
    refine CallReq.mk (L1 := stL ab sb b bits _ ma ml _ _ _) (L2 := [_]) (ih _ _ _ _ _ _ _ hS (okId_i64 hlen hp.1.1) (fun _ => Nat.lt_of_lt_of_le hk.1 hd)) (Loc.back (L1 := [_]) hL) ?_
    clear hL
    rintro u m2 L2 w hL hm2 ⟨ns2, e2, la2, ll2, La2, f2, hp2, hS2, rfl, hf2, hb2⟩
    obtain ⟨A2, n2, c2, rfl, -⟩ := id hf2
    have hL := Loc.back (L1 := stL ab sb b bits e2 ma ml la2 ll2 La2) (L2 := [_]) hL
    refine SReq.mk (TS.of hL hm2) ?_
    conv => whnf
    repeat ((first | refine zQ hX ?_ | refine zR hX ?_ | refine zA ?_ | refine zT ?_ | refine zF ?_ | refine zL hX hL ?_ | refine zB hX hL ?_ | (refine zS hX hL ?_; clear hL; intro w hL) | refine zI ?_ | refine zG hX ?_ | refine zO ?_); conv => whnf)
    have hbk := okId_pre hp2 hp.2.1
    have hdb := dep_grow hS.ok hS2.ok hp2 hp.2.1
    refine CallReq.mk (L1 := stL ab sb b bits _ ma ml _ _ _) (L2 := [_]) (ih _ _ _ _ _ _ _ hS2 (okId_i64 hS2.ok.len hbk) (fun _ => by rw [hdb]; exact Nat.lt_of_lt_of_le hk.2 hd)) (Loc.back (L1 := [_]) hL) ?_
    clear hL
    rintro u m4 L4 w hL hm4 ⟨ns4, e4, la4, ll4, La4, f4, hp4, hS4, rfl, hf4, hb4⟩
    obtain ⟨A4, n4, c4, rfl, -⟩ := id hf4
    have hL := Loc.back (L1 := stL ab sb b bits e4 ma ml la4 ll4 La4) (L2 := [_]) hL
    refine SReq.mk (TS.of hL (hm2.trans hm4)) ?_
    conv => whnf
    repeat ((first | refine zQ hX ?_ | refine zR hX ?_ | refine zA ?_ | refine zT ?_ | refine zF ?_ | refine zL hX hL ?_ | refine zB hX hL ?_ | (refine zS hX hL ?_; clear hL; intro w hL) | refine zI ?_ | refine zG hX ?_ | refine zO ?_); conv => whnf)
    refine CallReq.mk (L1 := [_]) (L2 := _ :: (ma, mapW _) :: (ml, mapW _) :: _) (and_fn _ ab sb b bits e4 ma ml _ _ f2 f4 ns4.length hS4.ok.len hS4.err (hf2.le hm4) hf4 (hb2.mono hp4.length_le) hb4) (hL.perm (List.Perm.swap _ _ _)) ?_
    clear hL
    rintro u m5 L5 w hL hm5 ⟨e5, r5, he5, rfl, hr5, hb5⟩
    obtain ⟨A5, n5, c5, rfl, -⟩ := id hr5
    have hL := hL.perm (List.Perm.swap _ _ _)
    refine SReq.mk (TS.of hL (hm2.trans (hm4.trans hm5))) ?_
    conv => whnf
    repeat ((first | refine zQ hX ?_ | refine zR hX ?_ | refine zA ?_ | refine zT ?_ | refine zF ?_ | refine zL hX hL ?_ | refine zB hX hL ?_ | (refine zS hX hL ?_; clear hL; intro w hL) | refine zI ?_ | refine zG hX ?_ | refine zO ?_); conv => whnf)
    exact RetReq.mk hL.drop ⟨ns4, e5, la4, ll4, La4, r5, hp2.trans hp4, (hS4.grow hm5).errs he5, rfl, hr5, hb5⟩
  by_cases k6 : xk = 6
  · subst k6
    conv => whnf
    repeat ((first | refine zT ?_ | refine zF ?_ | refine zL hX hL ?_ | refine zB hX hL ?_ | (refine zS hX hL ?_; clear hL; intro w hL) | refine zI ?_ | refine zG hX ?_ | refine zO ?_); conv => whnf)
    refine CallReq.mk (L1 := stL ab sb b bits _ ma ml _ _ _) (L2 := [_]) (not_fn ih hS i0 a hid hkx (by rw [hx]) hd) (Loc.back (L1 := [_]) hL) ?_
    clear hL
    rintro u m2 L2 w hL hm2 ⟨ns2, e2, la2, ll2, La2, f2, hp2, hS2, rfl, hf2, hb2⟩
    obtain ⟨A2, n2, c2, rfl, -⟩ := id hf2
    have hL := Loc.back (L1 := stL ab sb b bits e2 ma ml la2 ll2 La2) (L2 := [_]) hL
    conv => whnf
    repeat ((first | refine zT ?_ | refine zF ?_ | refine zL hX hL ?_ | refine zB hX hL ?_ | (refine zS hX hL ?_; clear hL; intro w hL) | refine zI ?_ | refine zG hX ?_ | refine zO ?_); conv => whnf)
    exact RetReq.mk hL.drop ⟨ns2, e2, la2, ll2, La2, f2, hp2, hS2, rfl, hf2, hb2⟩
  conv => whnf
  repeat ((first | refine BrReq.no (by omega) ?_ | refine zT ?_ | refine zF ?_ | refine zL hX hL ?_ | refine zB hX hL ?_ | (refine zS hX hL ?_; clear hL; intro w hL) | refine zI ?_ | refine zG hX ?_ | refine zO ?_); conv => whnf)
  refine CallReq.pure (atomG_fn m i0 h0) hL ?_
  clear hL
  rintro u m1 w hL hm1 hf
  obtain ⟨A1, n1, c1, rfl, -⟩ := id hf
  conv => whnf
  repeat ((first | refine zT ?_ | refine zF ?_ | refine zL hX hL ?_ | refine zB hX hL ?_ | (refine zS hX hL ?_; clear hL; intro w hL) | refine zI ?_ | refine zG hX ?_ | refine zO ?_); conv => whnf)
  exact RetReq.mk hL.drop ⟨ns, e, la, ll, La, [[i0]], List.prefix_refl _, hS.grow hm1, rfl, hf, atom_FB h0 hid.2⟩
set_option maxHeartbeats 4000000 in
theorem of_fn (ab sb b bits ma ml : Nat) : ∀ k, OfC ab sb b bits ma ml k := by
  intro k
  induction k with
  | zero =>
    intro m ns e la ll La i0 hS hi hd
    have hno : ¬ okId ns i0 := fun h => absurd (hd h) (Nat.not_lt_zero _)
    have hnode := Node_fn m ab ns La hS.ar i0
    rw [show nodeN ns i0 = (nd0, false) by unfold nodeN; exact if_neg hno] at hnode
    refine Fn.enter (N := 51) hX Tryz.func45 rfl rfl (by show _ ≤ _; simp) (fun w0 hL => ?_)
    conv => whnf
    generalize keys (stL ab sb b bits e ma ml la ll La) = S0 at hL ⊢
    conv => whnf
    repeat ((first | refine zT ?_ | refine zF ?_ | refine zL hX hL ?_ | refine zB hX hL ?_ | (refine zS hX hL ?_; clear hL; intro w hL) | refine zI ?_ | refine zG hX ?_ | refine zO ?_); conv => whnf)
    refine CallReq.li (L1 := La) hnode (Loc.back (L1 := [_, _, _]) hL) ?_
    clear hL
    intro w hL
    have hL := Loc.back (L1 := La) (L2 := [_, _, _]) hL
    conv => whnf
    repeat ((first | refine zT ?_ | refine zF ?_ | refine zL hX hL ?_ | refine zB hX hL ?_ | (refine zS hX hL ?_; clear hL; intro w hL) | refine zI ?_ | refine zG hX ?_ | refine zO ?_); conv => whnf)
    refine NewReq.mk hL ?_
    clear hL
    intro bn w hL
    conv => whnf
    conv => whnf
    repeat ((first | refine zT ?_ | refine zF ?_ | refine zL hX hL ?_ | refine zB hX hL ?_ | (refine zS hX hL ?_; clear hL; intro w hL) | refine zI ?_ | refine zG hX ?_ | refine zO ?_); conv => whnf)
    refine CallReq.mk (L1 := [_]) (L2 := _ :: (ma, mapW _) :: (ml, mapW _) :: _) (keep_fn m ab sb b bits e 4 ma ml (.slice none 0 0) [] (Sl.nil _ _ _)) (hL.perm (List.Perm.swap _ _ _)) ?_
    clear hL
    rintro u m5 L5 w hL - ⟨rfl, rfl, rfl⟩
    have hL := hL.perm (List.Perm.swap _ _ _)
    conv => whnf
    repeat ((first | refine zT ?_ | refine zF ?_ | refine zL hX hL ?_ | refine zB hX hL ?_ | (refine zS hX hL ?_; clear hL; intro w hL) | refine zI ?_ | refine zG hX ?_ | refine zO ?_); conv => whnf)
    exact RetReq.mk hL.drop ⟨ns, _, la, ll, La, [], List.prefix_refl _, hS.errs (keepOk hS.err (.inr rfl)), rfl, Sl.nil _ _ _, fo.FB.nil _⟩
  | succ k ih =>
    intro m ns e la ll La i0 hS hi hd
    by_cases hid : okId ns i0
    rotate_left
    · have hnode := Node_fn m ab ns La hS.ar i0
      rw [show nodeN ns i0 = (nd0, false) by unfold nodeN; exact if_neg hid] at hnode
      refine Fn.enter (N := 51) hX Tryz.func45 rfl rfl (by show _ ≤ _; simp) (fun w0 hL => ?_)
      conv => whnf
      generalize keys (stL ab sb b bits e ma ml la ll La) = S0 at hL ⊢
      conv => whnf
      repeat ((first | refine zT ?_ | refine zF ?_ | refine zL hX hL ?_ | refine zB hX hL ?_ | (refine zS hX hL ?_; clear hL; intro w hL) | refine zI ?_ | refine zG hX ?_ | refine zO ?_); conv => whnf)
      refine CallReq.li (L1 := La) hnode (Loc.back (L1 := [_, _, _]) hL) ?_
      clear hL
      intro w hL
      have hL := Loc.back (L1 := La) (L2 := [_, _, _]) hL
      conv => whnf
      repeat ((first | refine zT ?_ | refine zF ?_ | refine zL hX hL ?_ | refine zB hX hL ?_ | (refine zS hX hL ?_; clear hL; intro w hL) | refine zI ?_ | refine zG hX ?_ | refine zO ?_); conv => whnf)
      refine NewReq.mk hL ?_
      clear hL
      intro bn w hL
      conv => whnf
      conv => whnf
      repeat ((first | refine zT ?_ | refine zF ?_ | refine zL hX hL ?_ | refine zB hX hL ?_ | (refine zS hX hL ?_; clear hL; intro w hL) | refine zI ?_ | refine zG hX ?_ | refine zO ?_); conv => whnf)
      refine CallReq.mk (L1 := [_]) (L2 := _ :: (ma, mapW _) :: (ml, mapW _) :: _) (keep_fn m ab sb b bits e 4 ma ml (.slice none 0 0) [] (Sl.nil _ _ _)) (hL.perm (List.Perm.swap _ _ _)) ?_
      clear hL
      rintro u m5 L5 w hL - ⟨rfl, rfl, rfl⟩
      have hL := hL.perm (List.Perm.swap _ _ _)
      conv => whnf
      repeat ((first | refine zT ?_ | refine zF ?_ | refine zL hX hL ?_ | refine zB hX hL ?_ | (refine zS hX hL ?_; clear hL; intro w hL) | refine zI ?_ | refine zG hX ?_ | refine zO ?_); conv => whnf)
      exact RetReq.mk hL.drop ⟨ns, _, la, ll, La, [], List.prefix_refl _, hS.errs (keepOk hS.err (.inr rfl)), rfl, Sl.nil _ _ _, fo.FB.nil _⟩
    obtain ⟨x, hx1, hx2⟩ := nodeN_ok hid
    have hnode := Node_fn m ab ns La hS.ar i0
    rw [hx1] at hnode
    simp only at hnode
    have hks := hS.are.keys
    have hmk := fun hd => make_fn (m := m) ih hS i0 x hid hx1 hd
    refine Fn.enter (N := 51) hX Tryz.func45 rfl rfl (by show _ ≤ _; simp) (fun w0 hL => ?_)
    conv => whnf
    generalize keys (stL ab sb b bits e ma ml la ll La) = S0 at hL ⊢
    conv => whnf
    repeat ((first | refine zT ?_ | refine zF ?_ | refine zL hX hL ?_ | refine zB hX hL ?_ | (refine zS hX hL ?_; clear hL; intro w hL) | refine zI ?_ | refine zG hX ?_ | refine zO ?_); conv => whnf)
    refine CallReq.li (L1 := La) hnode (Loc.back (L1 := [_, _, _]) hL) ?_
    clear hL
    intro w hL
    have hL := Loc.back (L1 := La) (L2 := [_, _, _]) hL
    conv => whnf
    repeat ((first | refine zT ?_ | refine zF ?_ | refine zL hX hL ?_ | refine zB hX hL ?_ | (refine zS hX hL ?_; clear hL; intro w hL) | refine zI ?_ | refine zG hX ?_ | refine zO ?_); conv => whnf)
    refine NewReq.mk hL ?_
    clear hL
    intro bn w hL
    conv => whnf
    conv => whnf
    repeat ((first | refine zT ?_ | refine zF ?_ | refine zL hX hL ?_ | refine zB hX hL ?_ | (refine zS hX hL ?_; clear hL; intro w hL) | refine zI ?_ | refine zG hX ?_ | refine zO ?_); conv => whnf)
    refine RunReq.lookW hX rfl rfl key_int (z := .slice none 0 0) (by kernel_rfl) hL (.t (.t .h)) (isK_int _ hi) hks (fun hno => ?_) (fun v hv => ?_)
    rotate_left
    · obtain ⟨kk, f, -, -, hf, hb⟩ := hS.are _ hv
      obtain ⟨A1, n1, c1, rfl, -⟩ := id hf
      conv => whnf
      repeat ((first | refine zT ?_ | refine zF ?_ | refine zL hX hL ?_ | refine zB hX hL ?_ | (refine zS hX hL ?_; clear hL; intro w hL) | refine zI ?_ | refine zG hX ?_ | refine zO ?_); conv => whnf)
      exact RetReq.mk hL.drop ⟨ns, e, la, ll, La, f, List.prefix_refl _, hS, rfl, hf, hb⟩
    by_cases h0 : e = 0
    rotate_left
    · conv => whnf
      repeat ((first | refine BrReq.no (by omega) ?_ | refine zT ?_ | refine zF ?_ | refine zL hX hL ?_ | refine zB hX hL ?_ | (refine zS hX hL ?_; clear hL; intro w hL) | refine zI ?_ | refine zG hX ?_ | refine zO ?_); conv => whnf)
      exact RetReq.mk hL.drop ⟨ns, e, la, ll, La, [], List.prefix_refl _, hS, rfl, Sl.nil _ _ _, fo.FB.nil _⟩
    subst h0
    conv => whnf
    repeat ((first | refine zT ?_ | refine zF ?_ | refine zL hX hL ?_ | refine zB hX hL ?_ | (refine zS hX hL ?_; clear hL; intro w hL) | refine zI ?_ | refine zG hX ?_ | refine zO ?_); conv => whnf)
    refine CallReq.mk (L1 := stL ab sb b bits _ ma ml _ _ _) (L2 := [_]) (hmk (by have := hd hid; omega)) (Loc.back (L1 := [_]) hL) ?_
    clear hL
    rintro u m2 L2 w hL hm2 ⟨ns2, e2, la2, ll2, La2, f2, hp2, hS2, rfl, hf2, hb2⟩
    obtain ⟨A2, n2, c2, rfl, -⟩ := id hf2
    have hL := Loc.back (L1 := stL ab sb b bits e2 ma ml la2 ll2 La2) (L2 := [_]) hL
    have hnew : isF m2 ns2.length (.int .i64 i0, .slice A2 n2 c2) := ⟨i0, f2, rfl, hi, hf2, hb2⟩
    conv => whnf
    repeat ((first | refine zT ?_ | refine zF ?_ | refine zL hX hL ?_ | refine zB hX hL ?_ | (refine zS hX hL ?_; clear hL; intro w hL) | refine zI ?_ | refine zG hX ?_ | refine zO ?_); conv => whnf)
    refine RunUReq.updW hX rfl rfl key_int (k := .int .i64 i0) (v := .slice A2 n2 c2) 2 hL rfl (isK_int _ hi) hS2.are.keys (fun _ w hL => ?_) (fun q u hq w hL => ?_)
    · conv => whnf
      repeat ((first | refine zT ?_ | refine zF ?_ | refine zL hX hL ?_ | refine zB hX hL ?_ | (refine zS hX hL ?_; clear hL; intro w hL) | refine zI ?_ | refine zG hX ?_ | refine zO ?_); conv => whnf)
      exact RetReq.mk hL.drop ⟨ns2, e2, _, ll2, La2, f2, hp2, ⟨hS2.ar, hS2.ok, hS2.are.app hnew, hS2.left, hS2.err⟩, rfl, hf2, hb2⟩
    · conv => whnf
      repeat ((first | refine zT ?_ | refine zF ?_ | refine zL hX hL ?_ | refine zB hX hL ?_ | (refine zS hX hL ?_; clear hL; intro w hL) | refine zI ?_ | refine zG hX ?_ | refine zO ?_); conv => whnf)
      exact RetReq.mk hL.drop ⟨ns2, e2, _, ll2, La2, f2, hp2, ⟨hS2.ar, hS2.ok, hS2.are.set hnew q, hS2.left, hS2.err⟩, rfl, hf2, hb2⟩
end Go.Proofs.YtiololnblplloaaGreat.li
namespace Go.Proofs.YtiololnblplloaaGreat.li
open Go Go.Ev Go.Proofs Go.Proofs.YtiololnblplloaaGreat.ar
def StR (ab sb b bits : Nat) (ns : List Nd) (ma ml : Nat) (Lc : Ev.Own) : Mem → Ev.Own → Value → Prop := fun m' L' u => ∃ ns' e' la' ll' La' f, ns <+: ns' ∧ Stp ab sb b bits m' ns' e' ma ml la' ll' La' ∧ L' = Lc ++ stL ab sb b bits e' ma ml la' ll' La' ∧ fo.FmV m' u f ∧ fo.FB ns'.length f
def CalC (ab sb b bits ma ml : Nat) (F : Nat) (args : Int → List Value) (Lc : Ev.Own) (ns0 : List Nd) : Prop := ∀ (m : Mem) (ns : List Nd) (e : Int) (la ll : List (Value × Value)) (La : Ev.Own) (z : Int), ns0 <+: ns → okId ns0 z → Stp ab sb b bits m ns e ma ml la ll La →
  Ev.Fn Tryz.prog F (args z) m (Lc ++ stL ab sb b bits e ma ml la ll La) (StR ab sb b bits ns ma ml Lc)
theorem p1 {m0 m : Mem} {S : List Nat} {w0 w : World} {x y : Nat × Obj} {L : Ev.Own} (h : Ev.Loc m0 S w0 m ([x] ++ (y :: L)) w) : Ev.Loc m0 S w0 m ([y] ++ ([x] ++ L)) w := h.perm (List.Perm.swap _ _ _)
theorem p2 {m0 m : Mem} {S : List Nat} {w0 w : World} {x z y : Nat × Obj} {L : Ev.Own} (h : Ev.Loc m0 S w0 m ([x, z] ++ (y :: L)) w) : Ev.Loc m0 S w0 m ([y] ++ ([x, z] ++ L)) w := h.perm ((List.Perm.cons _ (List.Perm.swap _ _ _)).trans (List.Perm.swap _ _ _))
theorem q1 {m0 m : Mem} {S : List Nat} {w0 w : World} {x y : Nat × Obj} {L : Ev.Own} (h : Ev.Loc m0 S w0 m ([y] ++ ([x] ++ L)) w) : Ev.Loc m0 S w0 m ([x] ++ (y :: L)) w := h.perm (List.Perm.swap _ _ _)
theorem q2 {m0 m : Mem} {S : List Nat} {w0 w : World} {x z y : Nat × Obj} {L : Ev.Own} (h : Ev.Loc m0 S w0 m ([y] ++ ([x, z] ++ L)) w) : Ev.Loc m0 S w0 m ([x, z] ++ (y :: L)) w := h.perm ((List.Perm.swap _ _ _).trans (List.Perm.cons _ (List.Perm.swap _ _ _)))
set_option maxHeartbeats 4000000 in
theorem put0_fn {ab sb b bits : Nat} {m : Mem} {ns : List Nd} {e : Int} {ma ml : Nat} {la ll : List (Value × Value)} {La : Ev.Own} (v : Value) (f : fo.Fml)  (hS : Stp ab sb b bits m ns e ma ml la ll La) (hv : fo.FmV m v f) (hf : fo.FB ns.length f)
    (hcal : CalC ab sb b bits ma ml 68 (fun z => [.pointer (some ⟨sb, 0, none⟩), .int .i64 z]) ([] : Ev.Own) ns) :
    Ev.Fn Tryz.prog 67 [.pointer (some ⟨sb, 0, none⟩), v, .func (.func 68) (toArr [.pointer (some ⟨sb, 0, none⟩)]) (toArr [])] m (([] : Ev.Own) ++ stL ab sb b bits e ma ml la ll La) (StR ab sb b bits ns ma ml ([] : Ev.Own)) := by
  have hmx : maxLen = 9223372036854775807 := rfl
  have hfl := hf.len
  have hnl := hS.ok.len
  have hv' := hv
  obtain ⟨A0, n0, c0, rfl, hn0, -⟩ := id hv
  subst hn0
  generalize hns : ns = ns0 at hf hcal hnl
  refine Fn.enter (N := 45) hX Tryz.func67 rfl rfl (by show _ ≤ _; simp) (fun w0 hL => ?_)
  conv => whnf
  generalize keys (([] : Ev.Own) ++ stL ab sb b bits e ma ml la ll La) = S0 at hL ⊢
  conv => whnf
  repeat ((first | refine zT ?_ | refine zF ?_ | refine zL hX hL ?_ | refine zB hX hL ?_ | (refine zS hX hL ?_; clear hL; intro w hL) | refine zI ?_ | refine zG hX ?_ | refine zO ?_); conv => whnf)
  refine CallReq.val (fo.false_fn m) hL ?_
  clear hL
  intro w hL
  conv => whnf
  repeat ((first | refine zT ?_ | refine zF ?_ | refine zL hX hL ?_ | refine zB hX hL ?_ | (refine zS hX hL ?_; clear hL; intro w hL) | refine zI ?_ | refine zG hX ?_ | refine zO ?_); conv => whnf)
  refine LoopReq.inv hX (fun s : Nat × Option Addr × Nat × Nat => [(7, .slice s.2.1 s.2.2.1 s.2.2.2), (16, .int .i64 s.1)]) [0, 2, 14, 15]
    (fun s w => s.1 ≤ f.length ∧ ∃ m1 ns1 e1 la1 ll1 La1 r, Mem.Le m m1 ∧ ns0 <+: ns1 ∧ Stp ab sb b bits m1 ns1 e1 ma ml la1 ll1 La1 ∧ fo.FmV m1 (.slice s.2.1 s.2.2.1 s.2.2.2) r ∧ fo.FB ns1.length r ∧ Ev.Loc m S0 w0 m1 (([] : Ev.Own) ++ stL ab sb b bits e1 ma ml la1 ll1 La1) w) (fun s => f.length - s.1) (0, none, 0, 0)
    ⟨Nat.zero_le _, m, ns, e, la, ll, La, [], Mem.Le.refl m, hns ▸ List.prefix_refl _, hS, Sl.nil _ _ _, fo.FB.nil _, hL⟩ ⟨rfl, rfl, trivial⟩ ?_
  clear hL hS hns e la ll La ns
  rintro ⟨j, A1, n1, c1⟩ w g ⟨hj, m1, ns, e, la, ll, La, r, hm1, hpre, hS, hr, hrb, hL⟩
  simp only at hj hr
  conv => whnf
  repeat ((first | refine zT ?_ | refine zF ?_ | refine zL hX hL ?_ | refine zB hX hL ?_ | (refine zS hX hL ?_; clear hL; intro w hL) | refine zI ?_ | refine zG hX ?_ | refine zO ?_); conv => whnf)
  refine BrReq.dec (fun hlt => ?_) (fun hlt => ?_)
  rotate_left
  · conv => whnf
    repeat ((first | refine zT ?_ | refine zF ?_ | refine zL hX hL ?_ | refine zB hX hL ?_ | (refine zS hX hL ?_; clear hL; intro w hL) | refine zI ?_ | refine zG hX ?_ | refine zO ?_); conv => whnf)
    exact RetReq.mk hL ⟨ns, e, la, ll, La, r, hpre, hS, rfl, hr, hrb⟩
  have hj1 : j < f.length := by simp only at hlt; omega
  have hjm := List.getElem_mem hj1
  have hpl := hf.lt _ hjm
  have hpr := hf.formed.rises _ hjm
  have hplen := hf.part hjm
  obtain ⟨a5, A5, n5, c5, ea, hcell, hpq⟩ := (hv'.le hm1).at_ hj1
  generalize f[j] = p at hpl hpr hpq hplen
  obtain ⟨hpn, he5⟩ := hpq.cell
  conv => whnf
  repeat ((first | (refine Idx2Req.mk j a5 rfl (by simp only at hlt; omega) ea ?_) | refine LdReq.one hX rfl rfl hL hcell ?_ | refine zT ?_ | refine zF ?_ | refine zL hX hL ?_ | refine zB hX hL ?_ | (refine zS hX hL ?_; clear hL; intro w hL) | refine zI ?_ | refine zG hX ?_ | refine zO ?_); conv => whnf)
  refine CallReq.pure (fo.true_fn m1) hL ?_
  clear hL
  rintro u m2 w hL hm2 ht
  obtain ⟨At, nt, ct, rfl, -⟩ := id ht
  conv => whnf
  repeat ((first | refine zT ?_ | refine zF ?_ | refine zL hX hL ?_ | refine zB hX hL ?_ | (refine zS hX hL ?_; clear hL; intro w hL) | refine zI ?_ | refine zG hX ?_ | refine zO ?_); conv => whnf)
  refine LoopReq.inv hX (fun s : Nat × Option Addr × Nat × Nat => [(10, .slice s.2.1 s.2.2.1 s.2.2.2), (23, .int .i64 s.1)]) [0, 2, 7, 14, 15, 16, 21, 22]
    (fun s w => s.1 ≤ p.length ∧ ∃ m3 ns1 e1 la1 ll1 La1 q, Mem.Le m2 m3 ∧ ns <+: ns1 ∧ Stp ab sb b bits m3 ns1 e1 ma ml la1 ll1 La1 ∧ fo.FmV m3 (.slice s.2.1 s.2.2.1 s.2.2.2) q ∧ fo.FB ns1.length q ∧ Ev.Loc m S0 w0 m3 (([] : Ev.Own) ++ stL ab sb b bits e1 ma ml la1 ll1 La1) w) (fun s => p.length - s.1) (0, At, nt, ct)
    ⟨Nat.zero_le _, m2, ns, e, la, ll, La, [[]], Mem.Le.refl m2, List.prefix_refl _, hS.grow hm2, ht, true_FB _, hL⟩ ⟨rfl, rfl, trivial⟩ ?_
  clear hL ht
  rintro ⟨i, A3, n3, c3⟩ w g2 ⟨hi, m3, ns1, e1, la1, ll1, La1, q, hm3, hpre1, hS1, hq, hqb, hL⟩
  simp only at hi hq
  conv => whnf
  repeat ((first | refine zT ?_ | refine zF ?_ | refine zL hX hL ?_ | refine zB hX hL ?_ | (refine zS hX hL ?_; clear hL; intro w hL) | refine zI ?_ | refine zG hX ?_ | refine zO ?_); conv => whnf)
  refine BrReq.dec (fun hlt2 => ?_) (fun hlt2 => ?_)
  · have hi1 : i < p.length := by simp only at hlt2; omega
    obtain ⟨a6, ea6, hc6⟩ := he5 i _ (List.getElem?_eq_getElem hi1)
    have hz : okId ns0 p[i] := ⟨hpr.1 _ (List.getElem_mem hi1), hpl _ (List.getElem_mem hi1)⟩
    conv => whnf
    repeat ((first | (refine Idx2Req.mk i a6 rfl (by simp only at hlt2; omega) ea6 ?_) | (refine LdReq.one hX rfl rfl hL (by rw [scale_eq, Nat.mul_one]; exact mcell_le (hm2.trans hm3) hc6) ?_) | refine zT ?_ | refine zF ?_ | refine zL hX hL ?_ | refine zB hX hL ?_ | (refine zS hX hL ?_; clear hL; intro w hL) | refine zI ?_ | refine zG hX ?_ | refine zO ?_); conv => whnf)
    refine CallReq.mk (L1 := ([] : Ev.Own) ++ stL ab sb b bits _ ma ml _ _ _) (L2 := []) (hcal m3 ns1 e1 la1 ll1 La1 p[i] (hpre.trans hpre1) hz hS1) (by rw [List.append_nil]; exact hL) ?_
    clear hL
    rintro u m4 L4 w hL hm4 ⟨ns4, e4, la4, ll4, La4, f4, hp4, hS4, rfl, hf4, hb4⟩
    rw [List.append_nil] at hL
    obtain ⟨A4, n4, c4, rfl, -⟩ := id hf4
    conv => whnf
    repeat ((first | refine zT ?_ | refine zF ?_ | refine zL hX hL ?_ | refine zB hX hL ?_ | (refine zS hX hL ?_; clear hL; intro w hL) | refine zI ?_ | refine zG hX ?_ | refine zO ?_); conv => whnf)
    refine CallReq.mk (L1 := [(sb, stO ab b bits e4 ma ml)]) (L2 := ([] : Ev.Own) ++ (ma, mapW la4) :: (ml, mapW ll4) :: La4) (and_fn m4 ab sb b bits e4 ma ml _ _ q f4 ns4.length hS4.ok.len hS4.err (hq.le hm4) hf4 (hqb.mono hp4.length_le) hb4) (hL) ?_
    clear hL
    rintro u m5 L5 w hL hm5 ⟨e5, r5, he5', rfl, hr5, hb5⟩
    obtain ⟨A6, n6, c6, rfl, -⟩ := id hr5
    replace hL : Ev.Loc m S0 w0 m5 (([] : Ev.Own) ++ stL ab sb b bits e5 ma ml la4 ll4 La4) w := hL
    conv => whnf
    repeat ((first | refine zT ?_ | refine zF ?_ | refine zL hX hL ?_ | refine zB hX hL ?_ | (refine zS hX hL ?_; clear hL; intro w hL) | refine zI ?_ | refine zG hX ?_ | refine zO ?_); conv => whnf)
    refine ⟨(i + 1, A6, n6, c6), ⟨by simp only; omega, m5, ns4, e5, la4, ll4, La4, r5, hm3.trans (hm4.trans hm5), hpre1.trans hp4, (hS4.grow hm5).errs he5', hr5, hb5, hL⟩, by first | omega | (simp only; omega) | (simp only [List.length_cons, List.length_append]; omega), ?_, ?_⟩
    · repeat (first | exact trivial | (refine And.intro (by (conv => lhs; whnf) <;> (conv => rhs; whnf) <;> (first | rfl)) ?_))
    · repeat (first | exact trivial | (refine And.intro (by (conv => lhs; whnf) <;> (conv => rhs; whnf) <;> (first | rfl)) ?_))
  conv => whnf
  repeat ((first | refine zT ?_ | refine zF ?_ | refine zL hX hL ?_ | refine zB hX hL ?_ | (refine zS hX hL ?_; clear hL; intro w hL) | refine zI ?_ | refine zG hX ?_ | refine zO ?_); conv => whnf)
  refine CallReq.mk (L1 := [(sb, stO ab b bits e1 ma ml)]) (L2 := ([] : Ev.Own) ++ (ma, mapW la1) :: (ml, mapW ll1) :: La1) (or_fn m3 ab sb b bits e1 ma ml _ _ r q ns1.length hS1.ok.len hS1.err (hr.le (hm2.trans hm3)) hq (hrb.mono hpre1.length_le) hqb) (hL) ?_
  clear hL
  rintro u m5 L5 w hL hm5 ⟨e5, r5, he5', rfl, hr5, hb5⟩
  obtain ⟨A6, n6, c6, rfl, -⟩ := id hr5
  replace hL : Ev.Loc m S0 w0 m5 (([] : Ev.Own) ++ stL ab sb b bits e5 ma ml la1 ll1 La1) w := hL
  by_cases h0 : e5 = 0
  · subst h0
    conv => whnf
    repeat ((first | refine zT ?_ | refine zF ?_ | refine zL hX hL ?_ | refine zB hX hL ?_ | (refine zS hX hL ?_; clear hL; intro w hL) | refine zI ?_ | refine zG hX ?_ | refine zO ?_); conv => whnf)
    refine ⟨(j + 1, A6, n6, c6), ⟨by simp only; omega, m5, ns1, 0, la1, ll1, La1, r5, hm1.trans (hm2.trans (hm3.trans hm5)), hpre.trans hpre1, (hS1.grow hm5).errs he5', hr5, hb5, hL⟩, by first | omega | (simp only; omega) | (simp only [List.length_cons, List.length_append]; omega), ?_, ?_⟩
    · repeat (first | exact trivial | (refine And.intro (by (conv => lhs; whnf) <;> (conv => rhs; whnf) <;> (first | rfl)) ?_))
    · repeat (first | exact trivial | (refine And.intro (by (conv => lhs; whnf) <;> (conv => rhs; whnf) <;> (first | rfl)) ?_))
  · conv => whnf
    repeat ((first | refine BrReq.yes (by omega) ?_ | refine zT ?_ | refine zF ?_ | refine zL hX hL ?_ | refine zB hX hL ?_ | (refine zS hX hL ?_; clear hL; intro w hL) | refine zI ?_ | refine zG hX ?_ | refine zO ?_); conv => whnf)
    exact RetReq.mk hL ⟨ns1, e5, la1, ll1, La1, [], hpre.trans hpre1, (hS1.grow hm5).errs he5', rfl, Sl.nil _ _ _, fo.FB.nil _⟩
set_option maxHeartbeats 4000000 in
theorem put1_fn {ab sb b bits : Nat} {m : Mem} {ns : List Nd} {e : Int} {ma ml : Nat} {la ll : List (Value × Value)} {La : Ev.Own} (v : Value) (f : fo.Fml) (b3 : Nat) (hS : Stp ab sb b bits m ns e ma ml la ll La) (hv : fo.FmV m v f) (hf : fo.FB ns.length f)
    (hcal : CalC ab sb b bits ma ml 133 (fun z => [.int .i64 z, .pointer (some ⟨b3, 0, none⟩)]) [(b3, .cells (toArr [.pointer (some ⟨sb, 0, none⟩)]) 86 (0, 0))] ns) :
    Ev.Fn Tryz.prog 67 [.pointer (some ⟨sb, 0, none⟩), v, .func (.func 133) (toArr []) (toArr [.pointer (some ⟨b3, 0, none⟩)])] m ([(b3, .cells (toArr [.pointer (some ⟨sb, 0, none⟩)]) 86 (0, 0))] ++ stL ab sb b bits e ma ml la ll La) (StR ab sb b bits ns ma ml [(b3, .cells (toArr [.pointer (some ⟨sb, 0, none⟩)]) 86 (0, 0))]) := by
  have hmx : maxLen = 9223372036854775807 := rfl
  have hfl := hf.len
  have hnl := hS.ok.len
  have hv' := hv
  obtain ⟨A0, n0, c0, rfl, hn0, -⟩ := id hv
  subst hn0
  generalize hns : ns = ns0 at hf hcal hnl
  refine Fn.enter (N := 45) hX Tryz.func67 rfl rfl (by show _ ≤ _; simp) (fun w0 hL => ?_)
  conv => whnf
  generalize keys ([(b3, .cells (toArr [.pointer (some ⟨sb, 0, none⟩)]) 86 (0, 0))] ++ stL ab sb b bits e ma ml la ll La) = S0 at hL ⊢
  conv => whnf
  repeat ((first | refine zT ?_ | refine zF ?_ | refine zL hX hL ?_ | refine zB hX hL ?_ | (refine zS hX hL ?_; clear hL; intro w hL) | refine zI ?_ | refine zG hX ?_ | refine zO ?_); conv => whnf)
  refine CallReq.val (fo.false_fn m) hL ?_
  clear hL
  intro w hL
  conv => whnf
  repeat ((first | refine zT ?_ | refine zF ?_ | refine zL hX hL ?_ | refine zB hX hL ?_ | (refine zS hX hL ?_; clear hL; intro w hL) | refine zI ?_ | refine zG hX ?_ | refine zO ?_); conv => whnf)
  refine LoopReq.inv hX (fun s : Nat × Option Addr × Nat × Nat => [(7, .slice s.2.1 s.2.2.1 s.2.2.2), (16, .int .i64 s.1)]) [0, 2, 14, 15]
    (fun s w => s.1 ≤ f.length ∧ ∃ m1 ns1 e1 la1 ll1 La1 r, Mem.Le m m1 ∧ ns0 <+: ns1 ∧ Stp ab sb b bits m1 ns1 e1 ma ml la1 ll1 La1 ∧ fo.FmV m1 (.slice s.2.1 s.2.2.1 s.2.2.2) r ∧ fo.FB ns1.length r ∧ Ev.Loc m S0 w0 m1 ([(b3, .cells (toArr [.pointer (some ⟨sb, 0, none⟩)]) 86 (0, 0))] ++ stL ab sb b bits e1 ma ml la1 ll1 La1) w) (fun s => f.length - s.1) (0, none, 0, 0)
    ⟨Nat.zero_le _, m, ns, e, la, ll, La, [], Mem.Le.refl m, hns ▸ List.prefix_refl _, hS, Sl.nil _ _ _, fo.FB.nil _, hL⟩ ⟨rfl, rfl, trivial⟩ ?_
  clear hL hS hns e la ll La ns
  rintro ⟨j, A1, n1, c1⟩ w g ⟨hj, m1, ns, e, la, ll, La, r, hm1, hpre, hS, hr, hrb, hL⟩
  simp only at hj hr
  conv => whnf
  repeat ((first | refine zT ?_ | refine zF ?_ | refine zL hX hL ?_ | refine zB hX hL ?_ | (refine zS hX hL ?_; clear hL; intro w hL) | refine zI ?_ | refine zG hX ?_ | refine zO ?_); conv => whnf)
  refine BrReq.dec (fun hlt => ?_) (fun hlt => ?_)
  rotate_left
  · conv => whnf
    repeat ((first | refine zT ?_ | refine zF ?_ | refine zL hX hL ?_ | refine zB hX hL ?_ | (refine zS hX hL ?_; clear hL; intro w hL) | refine zI ?_ | refine zG hX ?_ | refine zO ?_); conv => whnf)
    exact RetReq.mk hL ⟨ns, e, la, ll, La, r, hpre, hS, rfl, hr, hrb⟩
  have hj1 : j < f.length := by simp only at hlt; omega
  have hjm := List.getElem_mem hj1
  have hpl := hf.lt _ hjm
  have hpr := hf.formed.rises _ hjm
  have hplen := hf.part hjm
  obtain ⟨a5, A5, n5, c5, ea, hcell, hpq⟩ := (hv'.le hm1).at_ hj1
  generalize f[j] = p at hpl hpr hpq hplen
  obtain ⟨hpn, he5⟩ := hpq.cell
  conv => whnf
  repeat ((first | (refine Idx2Req.mk j a5 rfl (by simp only at hlt; omega) ea ?_) | refine LdReq.one hX rfl rfl hL hcell ?_ | refine zT ?_ | refine zF ?_ | refine zL hX hL ?_ | refine zB hX hL ?_ | (refine zS hX hL ?_; clear hL; intro w hL) | refine zI ?_ | refine zG hX ?_ | refine zO ?_); conv => whnf)
  refine CallReq.pure (fo.true_fn m1) hL ?_
  clear hL
  rintro u m2 w hL hm2 ht
  obtain ⟨At, nt, ct, rfl, -⟩ := id ht
  conv => whnf
  repeat ((first | refine zT ?_ | refine zF ?_ | refine zL hX hL ?_ | refine zB hX hL ?_ | (refine zS hX hL ?_; clear hL; intro w hL) | refine zI ?_ | refine zG hX ?_ | refine zO ?_); conv => whnf)
  refine LoopReq.inv hX (fun s : Nat × Option Addr × Nat × Nat => [(10, .slice s.2.1 s.2.2.1 s.2.2.2), (23, .int .i64 s.1)]) [0, 2, 7, 14, 15, 16, 21, 22]
    (fun s w => s.1 ≤ p.length ∧ ∃ m3 ns1 e1 la1 ll1 La1 q, Mem.Le m2 m3 ∧ ns <+: ns1 ∧ Stp ab sb b bits m3 ns1 e1 ma ml la1 ll1 La1 ∧ fo.FmV m3 (.slice s.2.1 s.2.2.1 s.2.2.2) q ∧ fo.FB ns1.length q ∧ Ev.Loc m S0 w0 m3 ([(b3, .cells (toArr [.pointer (some ⟨sb, 0, none⟩)]) 86 (0, 0))] ++ stL ab sb b bits e1 ma ml la1 ll1 La1) w) (fun s => p.length - s.1) (0, At, nt, ct)
    ⟨Nat.zero_le _, m2, ns, e, la, ll, La, [[]], Mem.Le.refl m2, List.prefix_refl _, hS.grow hm2, ht, true_FB _, hL⟩ ⟨rfl, rfl, trivial⟩ ?_
  clear hL ht
  rintro ⟨i, A3, n3, c3⟩ w g2 ⟨hi, m3, ns1, e1, la1, ll1, La1, q, hm3, hpre1, hS1, hq, hqb, hL⟩
  simp only at hi hq
  conv => whnf
  repeat ((first | refine zT ?_ | refine zF ?_ | refine zL hX hL ?_ | refine zB hX hL ?_ | (refine zS hX hL ?_; clear hL; intro w hL) | refine zI ?_ | refine zG hX ?_ | refine zO ?_); conv => whnf)
  refine BrReq.dec (fun hlt2 => ?_) (fun hlt2 => ?_)
  · have hi1 : i < p.length := by simp only at hlt2; omega
    obtain ⟨a6, ea6, hc6⟩ := he5 i _ (List.getElem?_eq_getElem hi1)
    have hz : okId ns0 p[i] := ⟨hpr.1 _ (List.getElem_mem hi1), hpl _ (List.getElem_mem hi1)⟩
    conv => whnf
    repeat ((first | (refine Idx2Req.mk i a6 rfl (by simp only at hlt2; omega) ea6 ?_) | (refine LdReq.one hX rfl rfl hL (by rw [scale_eq, Nat.mul_one]; exact mcell_le (hm2.trans hm3) hc6) ?_) | refine zT ?_ | refine zF ?_ | refine zL hX hL ?_ | refine zB hX hL ?_ | (refine zS hX hL ?_; clear hL; intro w hL) | refine zI ?_ | refine zG hX ?_ | refine zO ?_); conv => whnf)
    refine CallReq.mk (L1 := [(b3, .cells (toArr [.pointer (some ⟨sb, 0, none⟩)]) 86 (0, 0))] ++ stL ab sb b bits _ ma ml _ _ _) (L2 := []) (hcal m3 ns1 e1 la1 ll1 La1 p[i] (hpre.trans hpre1) hz hS1) (by rw [List.append_nil]; exact hL) ?_
    clear hL
    rintro u m4 L4 w hL hm4 ⟨ns4, e4, la4, ll4, La4, f4, hp4, hS4, rfl, hf4, hb4⟩
    rw [List.append_nil] at hL
    obtain ⟨A4, n4, c4, rfl, -⟩ := id hf4
    conv => whnf
    repeat ((first | refine zT ?_ | refine zF ?_ | refine zL hX hL ?_ | refine zB hX hL ?_ | (refine zS hX hL ?_; clear hL; intro w hL) | refine zI ?_ | refine zG hX ?_ | refine zO ?_); conv => whnf)
    refine CallReq.mk (L1 := [(sb, stO ab b bits e4 ma ml)]) (L2 := [(b3, .cells (toArr [.pointer (some ⟨sb, 0, none⟩)]) 86 (0, 0))] ++ (ma, mapW la4) :: (ml, mapW ll4) :: La4) (and_fn m4 ab sb b bits e4 ma ml _ _ q f4 ns4.length hS4.ok.len hS4.err (hq.le hm4) hf4 (hqb.mono hp4.length_le) hb4) (p1 hL) ?_
    clear hL
    rintro u m5 L5 w hL hm5 ⟨e5, r5, he5', rfl, hr5, hb5⟩
    obtain ⟨A6, n6, c6, rfl, -⟩ := id hr5
    replace hL : Ev.Loc m S0 w0 m5 ([(b3, .cells (toArr [.pointer (some ⟨sb, 0, none⟩)]) 86 (0, 0))] ++ stL ab sb b bits e5 ma ml la4 ll4 La4) w := q1 hL
    conv => whnf
    repeat ((first | refine zT ?_ | refine zF ?_ | refine zL hX hL ?_ | refine zB hX hL ?_ | (refine zS hX hL ?_; clear hL; intro w hL) | refine zI ?_ | refine zG hX ?_ | refine zO ?_); conv => whnf)
    refine ⟨(i + 1, A6, n6, c6), ⟨by simp only; omega, m5, ns4, e5, la4, ll4, La4, r5, hm3.trans (hm4.trans hm5), hpre1.trans hp4, (hS4.grow hm5).errs he5', hr5, hb5, hL⟩, by first | omega | (simp only; omega) | (simp only [List.length_cons, List.length_append]; omega), ?_, ?_⟩
    · repeat (first | exact trivial | (refine And.intro (by (conv => lhs; whnf) <;> (conv => rhs; whnf) <;> (first | rfl)) ?_))
    · repeat (first | exact trivial | (refine And.intro (by (conv => lhs; whnf) <;> (conv => rhs; whnf) <;> (first | rfl)) ?_))
  conv => whnf
  repeat ((first | refine zT ?_ | refine zF ?_ | refine zL hX hL ?_ | refine zB hX hL ?_ | (refine zS hX hL ?_; clear hL; intro w hL) | refine zI ?_ | refine zG hX ?_ | refine zO ?_); conv => whnf)
  refine CallReq.mk (L1 := [(sb, stO ab b bits e1 ma ml)]) (L2 := [(b3, .cells (toArr [.pointer (some ⟨sb, 0, none⟩)]) 86 (0, 0))] ++ (ma, mapW la1) :: (ml, mapW ll1) :: La1) (or_fn m3 ab sb b bits e1 ma ml _ _ r q ns1.length hS1.ok.len hS1.err (hr.le (hm2.trans hm3)) hq (hrb.mono hpre1.length_le) hqb) (p1 hL) ?_
  clear hL
  rintro u m5 L5 w hL hm5 ⟨e5, r5, he5', rfl, hr5, hb5⟩
  obtain ⟨A6, n6, c6, rfl, -⟩ := id hr5
  replace hL : Ev.Loc m S0 w0 m5 ([(b3, .cells (toArr [.pointer (some ⟨sb, 0, none⟩)]) 86 (0, 0))] ++ stL ab sb b bits e5 ma ml la1 ll1 La1) w := q1 hL
  by_cases h0 : e5 = 0
  · subst h0
    conv => whnf
    repeat ((first | refine zT ?_ | refine zF ?_ | refine zL hX hL ?_ | refine zB hX hL ?_ | (refine zS hX hL ?_; clear hL; intro w hL) | refine zI ?_ | refine zG hX ?_ | refine zO ?_); conv => whnf)
    refine ⟨(j + 1, A6, n6, c6), ⟨by simp only; omega, m5, ns1, 0, la1, ll1, La1, r5, hm1.trans (hm2.trans (hm3.trans hm5)), hpre.trans hpre1, (hS1.grow hm5).errs he5', hr5, hb5, hL⟩, by first | omega | (simp only; omega) | (simp only [List.length_cons, List.length_append]; omega), ?_, ?_⟩
    · repeat (first | exact trivial | (refine And.intro (by (conv => lhs; whnf) <;> (conv => rhs; whnf) <;> (first | rfl)) ?_))
    · repeat (first | exact trivial | (refine And.intro (by (conv => lhs; whnf) <;> (conv => rhs; whnf) <;> (first | rfl)) ?_))
  · conv => whnf
    repeat ((first | refine BrReq.yes (by omega) ?_ | refine zT ?_ | refine zF ?_ | refine zL hX hL ?_ | refine zB hX hL ?_ | (refine zS hX hL ?_; clear hL; intro w hL) | refine zI ?_ | refine zG hX ?_ | refine zO ?_); conv => whnf)
    exact RetReq.mk hL ⟨ns1, e5, la1, ll1, La1, [], hpre.trans hpre1, (hS1.grow hm5).errs he5', rfl, Sl.nil _ _ _, fo.FB.nil _⟩
set_option maxHeartbeats 4000000 in
theorem put2_fn {ab sb b bits : Nat} {m : Mem} {ns : List Nd} {e : Int} {ma ml : Nat} {la ll : List (Value × Value)} {La : Ev.Own} (v : Value) (f : fo.Fml) (b3 b5 : Nat) (y : Int) (hS : Stp ab sb b bits m ns e ma ml la ll La) (hv : fo.FmV m v f) (hf : fo.FB ns.length f)
    (hcal : CalC ab sb b bits ma ml 155 (fun z => [.int .i64 z, .pointer (some ⟨b3, 0, none⟩), .pointer (some ⟨b5, 0, none⟩)]) [(b5, .cells (toArr [.int .i64 y]) 3 (0, 0)), (b3, .cells (toArr [.pointer (some ⟨sb, 0, none⟩)]) 86 (0, 0))] ns) :
    Ev.Fn Tryz.prog 67 [.pointer (some ⟨sb, 0, none⟩), v, .func (.func 155) (toArr []) (toArr [.pointer (some ⟨b3, 0, none⟩), .pointer (some ⟨b5, 0, none⟩)])] m ([(b5, .cells (toArr [.int .i64 y]) 3 (0, 0)), (b3, .cells (toArr [.pointer (some ⟨sb, 0, none⟩)]) 86 (0, 0))] ++ stL ab sb b bits e ma ml la ll La) (StR ab sb b bits ns ma ml [(b5, .cells (toArr [.int .i64 y]) 3 (0, 0)), (b3, .cells (toArr [.pointer (some ⟨sb, 0, none⟩)]) 86 (0, 0))]) := by
  have hmx : maxLen = 9223372036854775807 := rfl
  have hfl := hf.len
  have hnl := hS.ok.len
  have hv' := hv
  obtain ⟨A0, n0, c0, rfl, hn0, -⟩ := id hv
  subst hn0
  generalize hns : ns = ns0 at hf hcal hnl
  refine Fn.enter (N := 45) hX Tryz.func67 rfl rfl (by show _ ≤ _; simp) (fun w0 hL => ?_)
  conv => whnf
  generalize keys ([(b5, .cells (toArr [.int .i64 y]) 3 (0, 0)), (b3, .cells (toArr [.pointer (some ⟨sb, 0, none⟩)]) 86 (0, 0))] ++ stL ab sb b bits e ma ml la ll La) = S0 at hL ⊢
  conv => whnf
  repeat ((first | refine zT ?_ | refine zF ?_ | refine zL hX hL ?_ | refine zB hX hL ?_ | (refine zS hX hL ?_; clear hL; intro w hL) | refine zI ?_ | refine zG hX ?_ | refine zO ?_); conv => whnf)
  refine CallReq.val (fo.false_fn m) hL ?_
  clear hL
  intro w hL
  conv => whnf
  repeat ((first | refine zT ?_ | refine zF ?_ | refine zL hX hL ?_ | refine zB hX hL ?_ | (refine zS hX hL ?_; clear hL; intro w hL) | refine zI ?_ | refine zG hX ?_ | refine zO ?_); conv => whnf)
  refine LoopReq.inv hX (fun s : Nat × Option Addr × Nat × Nat => [(7, .slice s.2.1 s.2.2.1 s.2.2.2), (16, .int .i64 s.1)]) [0, 2, 14, 15]
    (fun s w => s.1 ≤ f.length ∧ ∃ m1 ns1 e1 la1 ll1 La1 r, Mem.Le m m1 ∧ ns0 <+: ns1 ∧ Stp ab sb b bits m1 ns1 e1 ma ml la1 ll1 La1 ∧ fo.FmV m1 (.slice s.2.1 s.2.2.1 s.2.2.2) r ∧ fo.FB ns1.length r ∧ Ev.Loc m S0 w0 m1 ([(b5, .cells (toArr [.int .i64 y]) 3 (0, 0)), (b3, .cells (toArr [.pointer (some ⟨sb, 0, none⟩)]) 86 (0, 0))] ++ stL ab sb b bits e1 ma ml la1 ll1 La1) w) (fun s => f.length - s.1) (0, none, 0, 0)
    ⟨Nat.zero_le _, m, ns, e, la, ll, La, [], Mem.Le.refl m, hns ▸ List.prefix_refl _, hS, Sl.nil _ _ _, fo.FB.nil _, hL⟩ ⟨rfl, rfl, trivial⟩ ?_
  clear hL hS hns e la ll La ns
  rintro ⟨j, A1, n1, c1⟩ w g ⟨hj, m1, ns, e, la, ll, La, r, hm1, hpre, hS, hr, hrb, hL⟩
  simp only at hj hr
  conv => whnf
  repeat ((first | refine zT ?_ | refine zF ?_ | refine zL hX hL ?_ | refine zB hX hL ?_ | (refine zS hX hL ?_; clear hL; intro w hL) | refine zI ?_ | refine zG hX ?_ | refine zO ?_); conv => whnf)
  refine BrReq.dec (fun hlt => ?_) (fun hlt => ?_)
  rotate_left
  · conv => whnf
    repeat ((first | refine zT ?_ | refine zF ?_ | refine zL hX hL ?_ | refine zB hX hL ?_ | (refine zS hX hL ?_; clear hL; intro w hL) | refine zI ?_ | refine zG hX ?_ | refine zO ?_); conv => whnf)
    exact RetReq.mk hL ⟨ns, e, la, ll, La, r, hpre, hS, rfl, hr, hrb⟩
  have hj1 : j < f.length := by simp only at hlt; omega
  have hjm := List.getElem_mem hj1
  have hpl := hf.lt _ hjm
  have hpr := hf.formed.rises _ hjm
  have hplen := hf.part hjm
  obtain ⟨a5, A5, n5, c5, ea, hcell, hpq⟩ := (hv'.le hm1).at_ hj1
  generalize f[j] = p at hpl hpr hpq hplen
  obtain ⟨hpn, he5⟩ := hpq.cell
  conv => whnf
  repeat ((first | (refine Idx2Req.mk j a5 rfl (by simp only at hlt; omega) ea ?_) | refine LdReq.one hX rfl rfl hL hcell ?_ | refine zT ?_ | refine zF ?_ | refine zL hX hL ?_ | refine zB hX hL ?_ | (refine zS hX hL ?_; clear hL; intro w hL) | refine zI ?_ | refine zG hX ?_ | refine zO ?_); conv => whnf)
  refine CallReq.pure (fo.true_fn m1) hL ?_
  clear hL
  rintro u m2 w hL hm2 ht
  obtain ⟨At, nt, ct, rfl, -⟩ := id ht
  conv => whnf
  repeat ((first | refine zT ?_ | refine zF ?_ | refine zL hX hL ?_ | refine zB hX hL ?_ | (refine zS hX hL ?_; clear hL; intro w hL) | refine zI ?_ | refine zG hX ?_ | refine zO ?_); conv => whnf)
  refine LoopReq.inv hX (fun s : Nat × Option Addr × Nat × Nat => [(10, .slice s.2.1 s.2.2.1 s.2.2.2), (23, .int .i64 s.1)]) [0, 2, 7, 14, 15, 16, 21, 22]
    (fun s w => s.1 ≤ p.length ∧ ∃ m3 ns1 e1 la1 ll1 La1 q, Mem.Le m2 m3 ∧ ns <+: ns1 ∧ Stp ab sb b bits m3 ns1 e1 ma ml la1 ll1 La1 ∧ fo.FmV m3 (.slice s.2.1 s.2.2.1 s.2.2.2) q ∧ fo.FB ns1.length q ∧ Ev.Loc m S0 w0 m3 ([(b5, .cells (toArr [.int .i64 y]) 3 (0, 0)), (b3, .cells (toArr [.pointer (some ⟨sb, 0, none⟩)]) 86 (0, 0))] ++ stL ab sb b bits e1 ma ml la1 ll1 La1) w) (fun s => p.length - s.1) (0, At, nt, ct)
    ⟨Nat.zero_le _, m2, ns, e, la, ll, La, [[]], Mem.Le.refl m2, List.prefix_refl _, hS.grow hm2, ht, true_FB _, hL⟩ ⟨rfl, rfl, trivial⟩ ?_
  clear hL ht
  rintro ⟨i, A3, n3, c3⟩ w g2 ⟨hi, m3, ns1, e1, la1, ll1, La1, q, hm3, hpre1, hS1, hq, hqb, hL⟩
  simp only at hi hq
  conv => whnf
  repeat ((first | refine zT ?_ | refine zF ?_ | refine zL hX hL ?_ | refine zB hX hL ?_ | (refine zS hX hL ?_; clear hL; intro w hL) | refine zI ?_ | refine zG hX ?_ | refine zO ?_); conv => whnf)
  refine BrReq.dec (fun hlt2 => ?_) (fun hlt2 => ?_)
  · have hi1 : i < p.length := by simp only at hlt2; omega
    obtain ⟨a6, ea6, hc6⟩ := he5 i _ (List.getElem?_eq_getElem hi1)
    have hz : okId ns0 p[i] := ⟨hpr.1 _ (List.getElem_mem hi1), hpl _ (List.getElem_mem hi1)⟩
    conv => whnf
    repeat ((first | (refine Idx2Req.mk i a6 rfl (by simp only at hlt2; omega) ea6 ?_) | (refine LdReq.one hX rfl rfl hL (by rw [scale_eq, Nat.mul_one]; exact mcell_le (hm2.trans hm3) hc6) ?_) | refine zT ?_ | refine zF ?_ | refine zL hX hL ?_ | refine zB hX hL ?_ | (refine zS hX hL ?_; clear hL; intro w hL) | refine zI ?_ | refine zG hX ?_ | refine zO ?_); conv => whnf)
    refine CallReq.mk (L1 := [(b5, .cells (toArr [.int .i64 y]) 3 (0, 0)), (b3, .cells (toArr [.pointer (some ⟨sb, 0, none⟩)]) 86 (0, 0))] ++ stL ab sb b bits _ ma ml _ _ _) (L2 := []) (hcal m3 ns1 e1 la1 ll1 La1 p[i] (hpre.trans hpre1) hz hS1) (by rw [List.append_nil]; exact hL) ?_
    clear hL
    rintro u m4 L4 w hL hm4 ⟨ns4, e4, la4, ll4, La4, f4, hp4, hS4, rfl, hf4, hb4⟩
    rw [List.append_nil] at hL
    obtain ⟨A4, n4, c4, rfl, -⟩ := id hf4
    conv => whnf
    repeat ((first | refine zT ?_ | refine zF ?_ | refine zL hX hL ?_ | refine zB hX hL ?_ | (refine zS hX hL ?_; clear hL; intro w hL) | refine zI ?_ | refine zG hX ?_ | refine zO ?_); conv => whnf)
    refine CallReq.mk (L1 := [(sb, stO ab b bits e4 ma ml)]) (L2 := [(b5, .cells (toArr [.int .i64 y]) 3 (0, 0)), (b3, .cells (toArr [.pointer (some ⟨sb, 0, none⟩)]) 86 (0, 0))] ++ (ma, mapW la4) :: (ml, mapW ll4) :: La4) (and_fn m4 ab sb b bits e4 ma ml _ _ q f4 ns4.length hS4.ok.len hS4.err (hq.le hm4) hf4 (hqb.mono hp4.length_le) hb4) (p2 hL) ?_
    clear hL
    rintro u m5 L5 w hL hm5 ⟨e5, r5, he5', rfl, hr5, hb5⟩
    obtain ⟨A6, n6, c6, rfl, -⟩ := id hr5
    replace hL : Ev.Loc m S0 w0 m5 ([(b5, .cells (toArr [.int .i64 y]) 3 (0, 0)), (b3, .cells (toArr [.pointer (some ⟨sb, 0, none⟩)]) 86 (0, 0))] ++ stL ab sb b bits e5 ma ml la4 ll4 La4) w := q2 hL
    conv => whnf
    repeat ((first | refine zT ?_ | refine zF ?_ | refine zL hX hL ?_ | refine zB hX hL ?_ | (refine zS hX hL ?_; clear hL; intro w hL) | refine zI ?_ | refine zG hX ?_ | refine zO ?_); conv => whnf)
    refine ⟨(i + 1, A6, n6, c6), ⟨by simp only; omega, m5, ns4, e5, la4, ll4, La4, r5, hm3.trans (hm4.trans hm5), hpre1.trans hp4, (hS4.grow hm5).errs he5', hr5, hb5, hL⟩, by first | omega | (simp only; omega) | (simp only [List.length_cons, List.length_append]; omega), ?_, ?_⟩
    · repeat (first | exact trivial | (refine And.intro (by (conv => lhs; whnf) <;> (conv => rhs; whnf) <;> (first | rfl)) ?_))
    · repeat (first | exact trivial | (refine And.intro (by (conv => lhs; whnf) <;> (conv => rhs; whnf) <;> (first | rfl)) ?_))
  conv => whnf
  repeat ((first | refine zT ?_ | refine zF ?_ | refine zL hX hL ?_ | refine zB hX hL ?_ | (refine zS hX hL ?_; clear hL; intro w hL) | refine zI ?_ | refine zG hX ?_ | refine zO ?_); conv => whnf)
  refine CallReq.mk (L1 := [(sb, stO ab b bits e1 ma ml)]) (L2 := [(b5, .cells (toArr [.int .i64 y]) 3 (0, 0)), (b3, .cells (toArr [.pointer (some ⟨sb, 0, none⟩)]) 86 (0, 0))] ++ (ma, mapW la1) :: (ml, mapW ll1) :: La1) (or_fn m3 ab sb b bits e1 ma ml _ _ r q ns1.length hS1.ok.len hS1.err (hr.le (hm2.trans hm3)) hq (hrb.mono hpre1.length_le) hqb) (p2 hL) ?_
  clear hL
  rintro u m5 L5 w hL hm5 ⟨e5, r5, he5', rfl, hr5, hb5⟩
  obtain ⟨A6, n6, c6, rfl, -⟩ := id hr5
  replace hL : Ev.Loc m S0 w0 m5 ([(b5, .cells (toArr [.int .i64 y]) 3 (0, 0)), (b3, .cells (toArr [.pointer (some ⟨sb, 0, none⟩)]) 86 (0, 0))] ++ stL ab sb b bits e5 ma ml la1 ll1 La1) w := q2 hL
  by_cases h0 : e5 = 0
  · subst h0
    conv => whnf
    repeat ((first | refine zT ?_ | refine zF ?_ | refine zL hX hL ?_ | refine zB hX hL ?_ | (refine zS hX hL ?_; clear hL; intro w hL) | refine zI ?_ | refine zG hX ?_ | refine zO ?_); conv => whnf)
    refine ⟨(j + 1, A6, n6, c6), ⟨by simp only; omega, m5, ns1, 0, la1, ll1, La1, r5, hm1.trans (hm2.trans (hm3.trans hm5)), hpre.trans hpre1, (hS1.grow hm5).errs he5', hr5, hb5, hL⟩, by first | omega | (simp only; omega) | (simp only [List.length_cons, List.length_append]; omega), ?_, ?_⟩
    · repeat (first | exact trivial | (refine And.intro (by (conv => lhs; whnf) <;> (conv => rhs; whnf) <;> (first | rfl)) ?_))
    · repeat (first | exact trivial | (refine And.intro (by (conv => lhs; whnf) <;> (conv => rhs; whnf) <;> (first | rfl)) ?_))
  · conv => whnf
    repeat ((first | refine BrReq.yes (by omega) ?_ | refine zT ?_ | refine zF ?_ | refine zL hX hL ?_ | refine zB hX hL ?_ | (refine zS hX hL ?_; clear hL; intro w hL) | refine zI ?_ | refine zG hX ?_ | refine zO ?_); conv => whnf)
    exact RetReq.mk hL ⟨ns1, e5, la1, ll1, La1, [], hpre.trans hpre1, (hS1.grow hm5).errs he5', rfl, Sl.nil _ _ _, fo.FB.nil _⟩
end Go.Proofs.YtiololnblplloaaGreat.li
namespace Go.Proofs.YtiololnblplloaaGreat.tabs
open Go Go.Ev Go.Proofs
theorem tdiv_nat (a k : Nat) : (a : Int).tdiv (k : Int) = ((a / k : Nat) : Int) := by
  rw [Int.tdiv_eq_ediv_of_nonneg (by omega)]; rfl
theorem tmod_nat (a k : Nat) : (a : Int).tmod (k : Int) = ((a % k : Nat) : Int) := by
  rw [Int.tmod_eq_emod_of_nonneg (by omega)]; rfl
theorem DivReq.i64 {a k : Nat} {b : Int} {K : Int → Prop} (hb : b = (k : Int)) (hk : 0 < k) (ha : a ≤ 9223372036854775807) (h : K ((a / k : Nat) : Int)) : DivReq .i64 a b K := by
  subst hb
  have := Nat.div_le_self a k
  exact DivReq.mk (by omega) (by rw [tdiv_nat]; generalize a / k = q at this; exact wrap_keep .i64 (by show -9223372036854775808 ≤ _; omega) (by show _ ≤ (9223372036854775807 : Int); omega)) h
theorem DivReq.u64 {a k : Nat} {b : Int} {K : Int → Prop} (hb : b = (k : Int)) (hk : 0 < k) (ha : a ≤ 18446744073709551615) (h : K ((a / k : Nat) : Int)) : DivReq .u64 a b K := by
  subst hb
  have := Nat.div_le_self a k
  exact DivReq.mk (by omega) (by rw [tdiv_nat]; generalize a / k = q at this; exact wrap_keep .u64 (by show 0 ≤ _; omega) (by show _ ≤ (18446744073709551615 : Int); omega)) h
theorem RemReq.nat {a k : Nat} {b : Int} {K : Int → Prop} (hb : b = (k : Int)) (hk : 0 < k) (h : K ((a % k : Nat) : Int)) : RemReq a b K := by
  subst hb
  exact RemReq.mk (by omega) (tmod_nat a k) h
def selR (s0 s1 s2 s3 : Int) (q : Nat) : Int := if q = 0 then s0 else if q = 1 then s1 else if q = 2 then s2 else s3
def hasR (s0 s1 s2 s3 : Int) (b : Nat) : Bool := decide ((selR s0 s1 s2 s3 (b / 64)).toNat / 2 ^ (b % 64) % 2 = 1)
end Go.Proofs.YtiololnblplloaaGreat.tabs
