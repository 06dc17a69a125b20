/- norm, plain law: Cat, Not, Star, Build match what their parts do. Conditions: none. -/
import Derived.Test.YtpdiljdklllmjaaGreatNoSem2
import Derived.Test.YtpdiljdklllmjaaGreatNoBuild
import Derived.Test.YtpdiljdklllmjaaGreatTabsSpans

namespace Go.Proofs.YtpdiljdklllmjaaGreat.ar
open Go Go.Ev Go.Proofs Go.Proofs.YtpdiljdklllmjaaGreat.tabs Go.Proofs.YtpdiljdklllmjaaGreat.tree

section
variable {ws bts : List Int}
/-- A node that matches what a table tells. -/
def Has (ws bts : List Int) (r : List Nd × Int) (f : Tb) : Prop := okId r.1 r.2 ∧ Eqt (ws.length + 1) (T ws bts r.1 r.2) f
theorem Has.pre {r : List Nd × Int} {f : Tb} {ns' : List Nd} (hO : OkA r.1) (hO' : OkA ns') (hp : r.1 <+: ns') (h : Has ws bts r f) : Has ws bts (ns', r.2) f :=
  ⟨okId_pre hp h.1, by show Eqt _ (T ws bts ns' r.2) f; rw [T_pre' hO hO' hp h.1]; exact h.2⟩
theorem none_sem {ns : List Nd} (hO : OkA ns) (h : 0 ≤ (noneN ns).2) : Has ws bts (noneN ns) nonT := by
  rcases none_any hO with ⟨e, -⟩ | h'
  · omega
  · exact ⟨h'.ok, by rw [T_none (okA_none hO) h' rfl]; exact Eqt.refl _ _⟩
theorem empty_sem {ns : List Nd} (hO : OkA ns) (h : 0 ≤ (emptyN ns).2) : Has ws bts (emptyN ns) oneT := by
  unfold emptyN at h ⊢
  rcases pN_any hO (ndK 1) with ⟨e, -⟩ | h'
  · omega
  · exact ⟨h'.ok, by rw [T_empty (okA_p hO (inN_k (by omega))) h' rfl]; exact Eqt.refl _ _⟩
def bytT (ws : List Int) (s : S4) : Tb := fun i j => decide (j = i + 1) && bitB s (byteAt ws i)
theorem bytes_sem {ns : List Nd} (hO : OkA ns) {s : S4} (hs : InS s) (h : 0 ≤ (bytesN ns s).2) : Has ws bts (bytesN ns s) (bytT ws s) := by
  have hO' := okA_bytes hO hs
  unfold bytesN at h hO' ⊢
  split
  · rename_i hz
    rw [if_pos hz] at h hO'
    have := none_sem (ws := ws) (bts := bts) hO h
    refine ⟨this.1, this.2.trans fun i j _ _ => ?_⟩
    unfold bytT; rw [hz, bitB_z, Bool.and_false]; rfl
  · rename_i hz
    rw [if_neg hz] at h hO'
    rcases pN_any hO (ndB s) with ⟨e, -⟩ | h'
    · omega
    · exact ⟨h'.ok, fun i j _ _ => T_bytes hO' h' rfl i j⟩
theorem catF_sem : ∀ (k : Nat) {ns : List Nd} {x y : Int}, OkA ns → i64 x → i64 y → 0 ≤ (catF k ns x y).2 → okId ns x ∧ okId ns y ∧ Has ws bts (catF k ns x y) (thenT (ws.length + 1) (T ws bts ns x) (T ws bts ns y)) := by
  intro k
  induction k with
  | zero => intro ns x y _ _ _ h; simp [catF] at h
  | succ k ih =>
    intro ns x y hO hxi hyi h
    rw [catF] at h ⊢
    by_cases hxy : okId ns x ∧ okId ns y
    · rw [if_pos hxy] at h ⊢
      obtain ⟨hx, hy⟩ := hxy
      refine ⟨hx, hy, ?_⟩
      obtain ⟨nx, x1, x2⟩ := hx.at
      obtain ⟨ny, y1, y2⟩ := hy.at
      have hux := T_upt (ws := ws) (bts := bts) hO hx
      have huy := T_upt (ws := ws) (bts := bts) hO hy
      by_cases k0 : kindN ns x = 0 ∨ kindN ns y = 0
      · rw [if_pos k0] at h ⊢
        have := none_sem (ws := ws) (bts := bts) hO h
        refine ⟨this.1, this.2.trans ?_⟩
        rcases k0 with k0 | k0
        · rw [T_none hO x1 (by rw [← x1.kind]; exact k0), then_non_l]; exact Eqt.refl _ _
        · rw [T_none hO y1 (by rw [← y1.kind]; exact k0), then_non_r]; exact Eqt.refl _ _
      rw [if_neg k0] at h ⊢
      by_cases k1 : kindN ns x = 1
      · rw [if_pos k1] at h ⊢
        refine ⟨hy, ?_⟩
        rw [T_empty hO x1 (by rw [← x1.kind]; exact k1)]
        exact (then_one_l huy).symm
      rw [if_neg k1] at h ⊢
      by_cases y1' : kindN ns y = 1
      · rw [if_pos y1'] at h ⊢
        refine ⟨hx, ?_⟩
        rw [T_empty hO y1 (by rw [← y1.kind]; exact y1')]
        exact (then_one_r hux).symm
      rw [if_neg y1'] at h ⊢
      by_cases k3 : kindN ns x = 3
      · rw [if_pos k3] at h ⊢
        have hpt := okId_parts hO hx (.inl k3)
        have hin := nodeN_in hO x
        have hcx : T ws bts ns x = thenT (ws.length + 1) (T ws bts ns nx.a) (T ws bts ns nx.b) := T_cat hO x1 (by rw [← x1.kind]; exact k3)
        rw [x2] at h hpt hin ⊢
        simp only at h hpt hin ⊢
        obtain ⟨hO1, hi1⟩ := catF_i64 k hO hin.b hyi
        have hp1 := catF_pre k ns nx.b y
        have i1 := fun h0 => ih (x := nx.b) (y := y) hO hin.b hyi h0
        generalize catF k ns nx.b y = r1 at h hO1 hi1 hp1 i1 ⊢
        obtain ⟨h2, h3, h4⟩ := ih hO1 hin.a hi1 h
        obtain ⟨-, -, h7⟩ := i1 h3.1
        refine ⟨h4.1, h4.2.trans ?_⟩
        rw [hcx, T_pre' hO hO1 hp1 hpt.1]
        exact (then_congr (Eqt.refl _ _) h7.2).trans (then_assoc _ _ _ _).symm
      · rw [if_neg k3] at h ⊢
        have hO' := okA_p hO (inN_P (kd := 3) (by omega) hxi hyi)
        rcases pN_any hO (ndP 3 x y) with ⟨e, -⟩ | h'
        · omega
        · refine ⟨h'.ok, ?_⟩
          rw [T_cat hO' h' rfl, show (ndP 3 x y).a = x from rfl, show (ndP 3 x y).b = y from rfl, T_pre' hO hO' (pN_pre _ _) hx, T_pre' hO hO' (pN_pre _ _) hy]
          exact Eqt.refl _ _
    · rw [if_neg hxy] at h; simp at h
theorem cat_sem {ns : List Nd} {x y : Int} (hO : OkA ns) (hx : i64 x) (hy : i64 y) (h : 0 ≤ (catN ns x y).2) : okId ns x ∧ okId ns y ∧ Has ws bts (catN ns x y) (thenT (ws.length + 1) (T ws bts ns x) (T ws bts ns y)) := catF_sem _ hO hx hy h
def othT (f : Tb) : Tb := fun i j => decide (i ≤ j) && !f i j
theorem not_sem {ns : List Nd} {x : Int} (hO : OkA ns) (hx : i64 x) (h : 0 ≤ (notN ns x).2) : okId ns x ∧ Has ws bts (notN ns x) (othT (T ws bts ns x)) := by
  have hO' := (okB_not hO hx).1
  unfold notN at h hO' ⊢
  by_cases hok : okId ns x
  · rw [if_pos hok] at h hO' ⊢
    refine ⟨hok, ?_⟩
    obtain ⟨n, h1, h2⟩ := hok.at
    by_cases k6 : kindN ns x = 6
    · rw [if_pos k6, h2] at h hO' ⊢
      have hk : n.k = 6 := by rw [← h1.kind]; exact k6
      have hl := (List.getElem?_eq_some_iff.1 h1.2).1
      have := (right_lt (h1.right hO)).2.1 (.inl hk)
      have ha : okId ns n.a := by unfold okId; omega
      refine ⟨ha, fun i j hi hj => ?_⟩
      show T ws bts ns n.a i j = (decide (i ≤ j) && !T ws bts ns x i j)
      rw [T_not hO h1 hk]
      cases hc : T ws bts ns n.a i j with
      | false => cases hd : decide (i ≤ j) <;> simp
      | true => rw [decide_eq_true (T_upt hO ha i j hi hj hc)]; rfl
    · rw [if_neg k6] at h hO' ⊢
      rcases pN_any hO (ndP 6 x 0) with ⟨e, -⟩ | h'
      · omega
      · refine ⟨h'.ok, fun i j _ _ => ?_⟩
        rw [T_not hO' h' rfl, show (ndP 6 x 0).a = x from rfl, T_pre' hO hO' (pN_pre _ _) hok]; rfl
  · rw [if_neg hok] at h; simp at h
theorem star_sem {ns : List Nd} {x : Int} (hO : OkA ns) (hx : i64 x) (h : 0 ≤ (starN ns x).2) : okId ns x ∧ Has ws bts (starN ns x) (anyT (ws.length + 1) (T ws bts ns x)) := by
  have hO' := (okB_star hO hx).1
  unfold starN at h hO' ⊢
  by_cases hok : okId ns x
  · rw [if_pos hok] at h hO' ⊢
    refine ⟨hok, ?_⟩
    obtain ⟨n, h1, h2⟩ := hok.at
    by_cases k0 : kindN ns x = 0 ∨ kindN ns x = 1
    · rw [if_pos k0] at h hO' ⊢
      have := empty_sem (ws := ws) (bts := bts) hO h
      refine ⟨this.1, this.2.trans ?_⟩
      rcases k0 with k0 | k0
      · rw [T_none hO h1 (by rw [← h1.kind]; exact k0)]; exact (any_non _).symm
      · rw [T_empty hO h1 (by rw [← h1.kind]; exact k0)]; exact (any_one _).symm
    rw [if_neg k0] at h hO' ⊢
    by_cases k7 : kindN ns x = 7
    · rw [if_pos k7] at h hO' ⊢
      refine ⟨hok, ?_⟩
      have hk : n.k = 7 := by rw [← h1.kind]; exact k7
      have hl := (List.getElem?_eq_some_iff.1 h1.2).1
      have := (right_lt (h1.right hO)).2.1 (.inr hk)
      have ha : okId ns n.a := by unfold okId; omega
      show Eqt _ (T ws bts ns x) _
      rw [T_star hO h1 hk]
      exact (any_any (T_upt hO ha)).symm
    · rw [if_neg k7] at h hO' ⊢
      rcases pN_any hO (ndP 7 x 0) with ⟨e, -⟩ | h'
      · omega
      · refine ⟨h'.ok, ?_⟩
        rw [T_star hO' h' rfl, show (ndP 7 x 0).a = x from rfl, T_pre' hO hO' (pN_pre _ _) hok]
        exact Eqt.refl _ _
  · rw [if_neg hok] at h; simp at h
theorem look_sem {ns : List Nd} (hO : OkA ns) {k : Int} (hk : 0 ≤ k ∧ k < 4) (neg : Bool) (h : 0 ≤ (lookN ns k neg).2) : Has ws bts (lookN ns k neg) fun i j => decide (i = j) && (decide ((bts.getD i 0).toNat / 2 ^ k.toNat % 2 = 1) != neg) := by
  rcases pN_any hO ⟨8, 0, 0, 0, 0, k, 0, neg⟩ with ⟨e, -⟩ | h'
  · exact absurd h (by unfold lookN; omega)
  · have hO' : OkA (lookN ns k neg).1 := okA_p hO ⟨by simp [i64], by simp [u64], by simp [u64], by simp [u64], by simp [u64], by unfold i64; simp only; omega, by simp [i64]⟩
    exact ⟨h'.ok, fun i j _ _ => T_look hO' h' rfl i j⟩

/-! ### Build -/
theorem cats_pre : ∀ (l : List Int) (ns : List Nd) (out : Int), ns <+: (catsN ns l out).1
  | [], ns, out => List.prefix_refl _
  | z :: l, ns, out => (catF_pre _ ns z out).trans (cats_pre l _ _)
theorem opt_pre (x : Int) : ∀ (n : Nat) (ns : List Nd) (out : Int), ns <+: (optN x n ns out).1
  | 0, ns, out => List.prefix_refl _
  | n + 1, ns, out => ((pN_pre ns (ndK 1)).trans ((catF_pre _ _ _ _).trans (gput_pre _ _ _))).trans (opt_pre x n _ _)
theorem rep_pre (x : Int) : ∀ (n : Nat) (ns : List Nd) (out : Int), ns <+: (repN x n ns out).1
  | 0, ns, out => List.prefix_refl _
  | n + 1, ns, out => (catF_pre _ ns x out).trans (rep_pre x n _ _)
theorem times_pre (lo hi : Int) (ns : List Nd) (x : Int) : ns <+: (timesN lo hi ns x).1 := by
  unfold timesN
  have h1 : ns <+: (emptyN ns).1 := pN_pre _ _
  have h2 : (emptyN ns).1 <+: (if hi < 0 then starN (emptyN ns).1 x else emptyN ns).1 := by
    split
    · exact starN_pre _ _
    · exact List.prefix_refl _
  exact h1.trans (h2.trans ((opt_pre x _ _ _).trans (rep_pre x _ _ _)))
theorem looked_pre (ns : List Nd) (e k : Int) (neg : Bool) : ns <+: (lookedN ns e k neg).1.1 := by
  unfold lookedN
  split
  · exact none_pre ns
  · exact pN_pre _ _
mutual
theorem bR_pre (lk : Re → Int) : ∀ (r : Re) (ns : List Nd) (e : Int), ns <+: (bR lk r ns e).1.1
  | .mk k s0 s1 s2 s3 rs lo hi neg, ns, e => by
    rw [bR]
    split
    · exact none_pre ns
    split
    · exact pN_pre _ _
    split
    · exact bytesN_pre _ _
    split
    · exact (pN_pre ns (ndK 1)).trans ((bL_pre lk rs _ e).trans (cats_pre _ _ _))
    split
    · exact (bL_pre lk rs ns e).trans (gput_pre _ _ _)
    split
    · exact (bL_pre lk rs ns e).trans (gput_pre _ _ _)
    split
    · exact (bL_pre lk rs ns e).trans (notN_pre _ _)
    split
    · exact (bL_pre lk rs ns e).trans (times_pre _ _ _ _)
    · exact looked_pre _ _ _ _
theorem bL_pre (lk : Re → Int) : ∀ (l : List Re) (ns : List Nd) (e : Int), ns <+: (bL lk l ns e).1.1
  | [], ns, e => List.prefix_refl _
  | r :: l, ns, e => by
    rw [bL]
    exact (bR_pre lk r ns e).trans (bL_pre lk l _ _)
end
/-- An error stays. -/
theorem looked_err (ns : List Nd) (e k : Int) (neg : Bool) : (lookedN ns e k neg).1.2 = 10 ∨ (lookedN ns e k neg).1.2 = e := by
  unfold lookedN; split
  · exact .inl rfl
  · exact .inr rfl
mutual
theorem bR_err (lk : Re → Int) : ∀ (r : Re) (ns : List Nd) (e : Int), (bR lk r ns e).1.2 = 10 ∨ (bR lk r ns e).1.2 = e
  | .mk k s0 s1 s2 s3 rs lo hi neg, ns, e => by
    rw [bR]
    split
    · exact .inr rfl
    split
    · exact .inr rfl
    split
    · exact .inr rfl
    split
    · exact bL_err lk rs _ e
    split
    · exact bL_err lk rs _ e
    split
    · exact bL_err lk rs _ e
    split
    · exact bL_err lk rs _ e
    split
    · exact bL_err lk rs _ e
    · exact looked_err _ _ _ _
theorem bL_err (lk : Re → Int) : ∀ (l : List Re) (ns : List Nd) (e : Int), (bL lk l ns e).1.2 = 10 ∨ (bL lk l ns e).1.2 = e
  | [], ns, e => .inr rfl
  | r :: l, ns, e => by
    rw [bL]
    have h1 := bR_err lk r ns e
    have h2 := bL_err lk l (bR lk r ns e).1.1 (bR lk r ns e).1.2
    simp only
    rcases h2 with h2 | h2
    · exact .inl h2
    · rw [h2]; exact h1
end
end
end Go.Proofs.YtpdiljdklllmjaaGreat.ar
