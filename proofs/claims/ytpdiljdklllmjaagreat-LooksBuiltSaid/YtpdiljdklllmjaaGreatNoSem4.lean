/- norm, plain law: Build's node matches what the pattern does. Conditions: none. -/
import Derived.Test.YtpdiljdklllmjaaGreatNoSem3

namespace Go.Proofs.YtpdiljdklllmjaaGreat.ar
open Go Go.Ev Go.Proofs Go.Proofs.YtpdiljdklllmjaaGreat.tabs Go.Proofs.YtpdiljdklllmjaaGreat.tree

section
variable {ws bts : List Int}
/-- If it is a node, it matches what a table tells. -/
def HasN (ws bts : List Int) (ns : List Nd) (z : Int) (f : Tb) : Prop := 0 ≤ z → Has ws bts (ns, z) f
theorem HasN.pre {ns ns' : List Nd} (hO : OkA ns) (hO' : OkA ns') (hp : ns <+: ns') {z : Int} {f : Tb} (h : HasN ws bts ns z f) : HasN ws bts ns' z f := fun h0 => (h h0).pre hO hO' hp
theorem HasN.congr {ns : List Nd} {z : Int} {f g : Tb} (h : HasN ws bts ns z f) (e : Eqt (ws.length + 1) f g) : HasN ws bts ns z g := fun h0 => ⟨(h h0).1, (h h0).2.trans e⟩
theorem upt_of_has {r : List Nd × Int} {f : Tb} (hO : OkA r.1) (h : Has ws bts r f) : Upt (ws.length + 1) f := h.2.up (T_upt hO h.1)
theorem cat_has {ns : List Nd} {x y : Int} {f g : Tb} (hO : OkA ns) (hx : i64 x) (hy : i64 y) (hf : HasN ws bts ns x f) (hg : HasN ws bts ns y g) : HasN ws bts (catN ns x y).1 (catN ns x y).2 (thenT (ws.length + 1) f g) := fun h0 => by
  obtain ⟨h1, h2, h3⟩ := cat_sem (ws := ws) (bts := bts) hO hx hy h0
  exact ⟨h3.1, h3.2.trans (then_congr (hf h1.1).2 (hg h2.1).2)⟩
/-- Cats, the last one first. -/
theorem cats_has : ∀ (l : List (Int × Tb)) {ns : List Nd} {out : Int} {g : Tb}, OkA ns → (∀ z ∈ l, i64 z.1) → i64 out → (∀ z ∈ l, HasN ws bts ns z.1 z.2) → HasN ws bts ns out g →
    HasN ws bts (catsN ns (l.map (·.1)) out).1 (catsN ns (l.map (·.1)) out).2 (l.foldl (fun f z => thenT (ws.length + 1) z.2 f) g)
  | [], ns, out, g, _, _, _, _, h => h
  | z :: l, ns, out, g, hO, hi, ho, hl, h => by
    have h1 := okB_cat hO (hi z (by simp)) ho
    have hp : ns <+: (catN ns z.1 out).1 := catF_pre _ _ _ _
    exact cats_has l h1.1 (fun y hy => hi y (by simp [hy])) h1.2 (fun y hy => (hl y (by simp [hy])).pre hO h1.1 hp) (cat_has hO (hi z (by simp)) ho (hl z (by simp)) h)
theorem or_has {ns : List Nd} {l : List (Int × Tb)} (hO : OkA ns) (hl : ∀ z ∈ l, HasN ws bts ns z.1 z.2) : HasN ws bts (orN ns (l.map (·.1))).1 (orN ns (l.map (·.1))).2 fun i j => l.any fun z => z.2 i j := fun h0 => by
  obtain ⟨h1, h2, h3⟩ := gput_sem (ws := ws) (bts := bts) false hO _ (fun h => (by cases h)) h0
  refine ⟨h1, eqt_of fun i j hi hj => ?_⟩
  show T ws bts (gputN false ns (l.map (·.1))).1 (gputN false ns (l.map (·.1))).2 i j = true ↔ _
  rw [h3 hi hj, List.any_eq_true]
  constructor
  · rintro ⟨z, h4, h5⟩
    obtain ⟨y, hy, rfl⟩ := List.mem_map.1 h4
    have := (hl y hy (h2 _ h4).1).2 i j hi hj
    exact ⟨y, hy, by rw [← this]; exact h5⟩
  · rintro ⟨y, hy, h5⟩
    have h4 : y.1 ∈ l.map (·.1) := List.mem_map.2 ⟨y, hy, rfl⟩
    have := (hl y hy (h2 _ h4).1).2 i j hi hj
    exact ⟨y.1, h4, by rw [← this] at h5; exact h5⟩
theorem and_has {ns : List Nd} {l : List (Int × Tb)} (hO : OkA ns) (hno : 0 ≤ (allN ns).2) (hl : ∀ z ∈ l, HasN ws bts ns z.1 z.2) : HasN ws bts (andN ns (l.map (·.1))).1 (andN ns (l.map (·.1))).2 fun i j => decide (i ≤ j) && l.all fun z => z.2 i j := fun h0 => by
  obtain ⟨h1, h2, h3⟩ := gput_sem (ws := ws) (bts := bts) true hO _ (fun _ => hno) h0
  refine ⟨h1, eqt_of fun i j hi hj => ?_⟩
  show T ws bts (gputN true ns (l.map (·.1))).1 (gputN true ns (l.map (·.1))).2 i j = true ↔ _
  rw [h3 hi hj, Bool.and_eq_true, List.all_eq_true, decide_eq_true_iff]
  constructor
  · rintro ⟨h4, h5⟩
    refine ⟨h4, fun y hy => ?_⟩
    have h6 : y.1 ∈ l.map (·.1) := List.mem_map.2 ⟨y, hy, rfl⟩
    have := (hl y hy (h2 _ h6).1).2 i j hi hj
    rw [← this]; exact h5 _ h6
  · rintro ⟨h4, h5⟩
    refine ⟨h4, fun z hz => ?_⟩
    obtain ⟨y, hy, rfl⟩ := List.mem_map.1 hz
    have := (hl y hy (h2 _ hz).1).2 i j hi hj
    have h7 := h5 y hy
    rw [← this] at h7; exact h7
theorem not_has {ns : List Nd} {x : Int} {f : Tb} (hO : OkA ns) (hx : i64 x) (hf : HasN ws bts ns x f) : HasN ws bts (notN ns x).1 (notN ns x).2 (othT f) := fun h0 => by
  obtain ⟨h1, h2⟩ := not_sem (ws := ws) (bts := bts) hO hx h0
  refine ⟨h2.1, h2.2.trans fun i j hi hj => ?_⟩
  unfold othT
  rw [(hf h1.1).2 i j hi hj]
theorem star_has {ns : List Nd} {x : Int} {f : Tb} (hO : OkA ns) (hx : i64 x) (hf : HasN ws bts ns x f) : HasN ws bts (starN ns x).1 (starN ns x).2 (anyT (ws.length + 1) f) := fun h0 => by
  obtain ⟨h1, h2⟩ := star_sem (ws := ws) (bts := bts) hO hx h0
  exact ⟨h2.1, h2.2.trans (any_congr (hf h1.1).2)⟩
theorem opt_has {x : Int} {f : Tb} (hx : i64 x) : ∀ (n k : Nat) {ns : List Nd} {out : Int}, OkA ns → i64 out → HasN ws bts ns x f → HasN ws bts ns out (optT (ws.length + 1) f k) → HasN ws bts (optN x n ns out).1 (optN x n ns out).2 (optT (ws.length + 1) f (k + n))
  | 0, k, ns, out, _, _, _, h => h
  | n + 1, k, ns, out, hO, ho, hf, h => by
    have he := okB_empty hO
    have hpe : ns <+: (emptyN ns).1 := pN_pre _ _
    have hee : HasN ws bts (emptyN ns).1 (emptyN ns).2 oneT := fun h0 => empty_sem hO h0
    have hc := okB_cat he.1 hx ho
    have hpc : (emptyN ns).1 <+: (catN (emptyN ns).1 x out).1 := catF_pre _ _ _ _
    have hcc := cat_has he.1 hx ho (hf.pre hO he.1 hpe) (h.pre hO he.1 hpe)
    have hoo := or_has (ws := ws) (bts := bts) (l := [((emptyN ns).2, oneT), ((catN (emptyN ns).1 x out).2, thenT (ws.length + 1) f (optT (ws.length + 1) f k))]) hc.1 (by
      intro z hz
      simp at hz
      rcases hz with rfl | rfl
      · exact hee.pre he.1 hc.1 hpc
      · exact hcc)
    have hoi := okB_or hc.1 false [(emptyN ns).2, (catN (emptyN ns).1 x out).2]
    have hpo : (catN (emptyN ns).1 x out).1 <+: (orN (catN (emptyN ns).1 x out).1 [(emptyN ns).2, (catN (emptyN ns).1 x out).2]).1 := gput_pre _ _ _
    rw [show k + (n + 1) = (k + 1) + n by omega]
    refine opt_has hx n (k + 1) hoi.1 hoi.2 (hf.pre hO hoi.1 (hpe.trans (hpc.trans hpo))) (hoo.congr fun i j _ _ => ?_)
    simp only [List.any_cons, List.any_nil, Bool.or_false]
    rfl
theorem rep_has {x : Int} {f : Tb} (hx : i64 x) : ∀ (n : Nat) {ns : List Nd} {out : Int} {g : Tb}, OkA ns → i64 out → HasN ws bts ns x f → HasN ws bts ns out g → HasN ws bts (repN x n ns out).1 (repN x n ns out).2 (repT (ws.length + 1) f n g)
  | 0, ns, out, g, _, _, _, h => h
  | n + 1, ns, out, g, hO, ho, hf, h => by
    have hc := okB_cat hO hx ho
    have hpc : ns <+: (catN ns x out).1 := catF_pre _ _ _ _
    exact rep_has hx n hc.1 hc.2 (hf.pre hO hc.1 hpc) (cat_has hO hx ho hf h)
theorem times_has {ns : List Nd} {x : Int} {f : Tb} {lo hi : Int} (hO : OkA ns) (hx : i64 x) (hf : HasN ws bts ns x f) (hfu : Upt (ws.length + 1) f) (hlo : 0 ≤ lo) (hl : hi < 0 ∨ lo ≤ hi) : HasN ws bts (timesN lo hi ns x).1 (timesN lo hi ns x).2 (timesT (ws.length + 1) lo hi f) := by
  refine HasN.congr ?_ (times_same hfu hl hlo)
  unfold timesN
  have he := okB_empty hO
  have hpe : ns <+: (emptyN ns).1 := pN_pre _ _
  have hee : HasN ws bts (emptyN ns).1 (emptyN ns).2 oneT := fun h0 => empty_sem hO h0
  have hfe := hf.pre hO he.1 hpe
  by_cases h : hi < 0
  · simp only [h, if_true]
    have hs := okB_star he.1 hx
    have hst := star_has he.1 hx hfe
    have hps := starN_pre (emptyN ns).1 x
    rw [show (hi - lo).toNat = 0 by omega]
    exact rep_has hx _ hs.1 hs.2 (hfe.pre he.1 hs.1 hps) hst
  · simp only [h, if_false]
    have ho := okB_opt hx (hi - lo).toNat he.1 he.2
    have hoh := opt_has hx (hi - lo).toNat 0 he.1 he.2 hfe hee
    rw [Nat.zero_add] at hoh
    exact rep_has hx _ ho.1 ho.2 (hfe.pre he.1 ho.1 (opt_pre _ _ _ _)) hoh

/-! ### The pattern's tables -/
theorem fold_then {n : Nat} : ∀ (l : List Tb) {f : Tb}, Upt n f → (∀ g ∈ l, Upt n g) → Eqt n (l.foldl (thenT n) f) (thenT n f (l.foldr (thenT n) oneT))
  | [], f, hf, _ => (then_one_r hf).symm
  | g :: l, f, hf, hl => by
    simp only [List.foldl_cons, List.foldr_cons]
    exact (fold_then l (upt_then n f g) fun k hk => hl k (by simp [hk])).trans (then_assoc n f g _)
theorem upt_foldr {n : Nat} (l : List Tb) : Upt n (l.foldr (thenT n) oneT) := by
  cases l with
  | nil => exact upt_one n
  | cons g l => exact upt_then n _ _
theorem fold_then_one {n : Nat} (l : List Tb) (hl : ∀ g ∈ l, Upt n g) : Eqt n (l.foldl (thenT n) oneT) (l.foldr (thenT n) oneT) :=
  (fold_then l (upt_one n) hl).trans (then_one_l (upt_foldr l))
theorem fold_or (l : List Tb) (f : Tb) (i j : Nat) : (l.foldl (fun f g i j => f i j || g i j) f) i j = (f i j || l.any fun g => g i j) := by
  induction l generalizing f with
  | nil => simp
  | cons g l ih => rw [List.foldl_cons, ih]; simp [Bool.or_assoc]
theorem fold_and (l : List Tb) (f : Tb) (i j : Nat) : (l.foldl (fun f g i j => f i j && g i j) f) i j = (f i j && l.all fun g => g i j) := by
  induction l generalizing f with
  | nil => simp
  | cons g l ih => rw [List.foldl_cons, ih]; simp [Bool.and_assoc]
theorem upt_spans (w : List Int) (r : Re) : allR r = true → Upt (w.length + 1) (spansR w r) := by
  induction r using Re.ind with
  | h k s0 s1 s2 s3 rs lo hi neg ih =>
    intro hall
    simp only [allR, Bool.and_eq_true, decide_eq_true_eq] at hall
    obtain ⟨hO, hall⟩ := hall
    rw [allL_eq, List.all_eq_true] at hall
    have ih := fun p hp => ih p hp (hall p hp)
    rw [spansR, spansL_eq]
    unfold nodeT
    have hl : ∀ g ∈ rs.map (spansR w), Upt (w.length + 1) g := fun g hg => by
      obtain ⟨p, hp, rfl⟩ := List.mem_map.1 hg; exact ih p hp
    generalize rs.map (spansR w) = l at hl
    dsimp only
    split
    · exact upt_one _
    split
    · intro i j _ _ h; rw [Bool.and_eq_true] at h; have := of_decide_eq_true h.1; omega
    split
    · exact (fold_then_one l hl).symm.up (upt_foldr l)
    split
    · intro i j hi hj h
      rw [fold_or, Bool.false_or, List.any_eq_true] at h
      obtain ⟨g, hg, h⟩ := h
      exact hl g hg i j hi hj h
    split
    · intro i j hi hj h
      rw [fold_and, Bool.and_eq_true, Bool.and_eq_true] at h
      exact of_decide_eq_true h.1.1
    split
    · intro i j hi hj h; rw [Bool.and_eq_true] at h; exact of_decide_eq_true h.1
    split
    · unfold timesT
      split
      · exact upt_then _ _ _
      · intro i j hi hj h
        obtain ⟨m, -, h⟩ := (outK_iff _ _ _ _).1 h
        exact upt_pow _ _ _ i j hi hj h
    split
    · intro i j _ _ h; unfold lookT at h; rw [Bool.and_eq_true] at h; have := of_decide_eq_true h.1; omega
    split
    · intro i j _ _ h; rw [Bool.and_eq_true] at h; have := of_decide_eq_true h.1; omega
    split
    · intro i j _ _ h; rw [Bool.and_eq_true] at h; have := of_decide_eq_true h.1; omega
    · intro i j _ _ h; cases h
/-- The looks are true where their bits say so. -/
def LooksOk (ws bts : List Int) (lk : Re → Int) : Prop := ∀ (k s0 s1 s2 s3 lo hi : Int) (rs : List Re), (8 ≤ k ∧ k ≤ 11) → 0 ≤ lk (.mk k s0 s1 s2 s3 rs lo hi false) → lk (.mk k s0 s1 s2 s3 rs lo hi false) < 4 →
  ∀ i, i < ws.length + 1 → decide ((bts.getD i 0).toNat / 2 ^ (lk (.mk k s0 s1 s2 s3 rs lo hi false)).toNat % 2 = 1) = spansR ws (.mk k s0 s1 s2 s3 rs lo hi false) i i
theorem spans_look (w : List Int) {k s0 s1 s2 s3 lo hi : Int} {neg : Bool} {rs : List Re} (hk : 8 ≤ k ∧ k ≤ 11) (hn : neg = true → k = 8 ∨ k = 9) (i j : Nat) : spansR w (.mk k s0 s1 s2 s3 rs lo hi neg) i j = (decide (i = j) && (spansR w (.mk k s0 s1 s2 s3 rs lo hi false) i i != neg)) := by
  rw [spansR, spansR]
  unfold nodeT
  try dsimp only
  have h1 : ¬ k = 1 := by omega
  have h2 : ¬ k = 2 := by omega
  have h3 : ¬ k = 3 := by omega
  have h4 : ¬ k = 4 := by omega
  have h5 : ¬ k = 5 := by omega
  have h6 : ¬ k = 6 := by omega
  have h7 : ¬ k = 7 := by omega
  rw [if_neg h1, if_neg h2, if_neg h3, if_neg h4, if_neg h5, if_neg h6, if_neg h7, if_neg h1, if_neg h2, if_neg h3, if_neg h4, if_neg h5, if_neg h6, if_neg h7]
  by_cases h8 : k = 8 ∨ k = 9
  · rw [if_pos h8, if_pos h8]
    unfold lookT
    simp
  · rw [if_neg h8, if_neg h8]
    have hneg : neg = false := by cases neg; rfl; exact absurd (hn rfl) h8
    subst hneg
    by_cases h10 : k = 10
    · simp only [if_pos h10]; simp
    · have h11 : k = 11 := by omega
      simp only [if_neg h10, if_pos h11]; simp
theorem bit_has (s0 s1 s2 s3 : Int) (w : List Int) : bytT w ⟨s0, s1, s2, s3⟩ = fun i j => decide (j = i + 1) && hasR s0 s1 s2 s3 (w.getD i 0).toNat := by
  funext i j
  unfold bytT
  rw [hasR_bit]; rfl
theorem all_room {ns : List Nd} (hO : OkA ns) (h : ns.length ≤ 19990) : 0 ≤ (allN ns).2 := by
  have h1 := pN_spec hO (x := ndK 0) rfl (by omega)
  have h1' : At (noneN ns).1 (noneN ns).2 (ndK 0) := h1.1
  have hl : (noneN ns).1.length ≤ ns.length + 1 := by
    rcases h1.2 with e | ⟨e, -⟩
    · show (pN ns (ndK 0)).1.length ≤ _; rw [e]; omega
    · show (pN ns (ndK 0)).1.length ≤ _; rw [e, List.length_append]; simp
  have hr : rightN (allX ns) (noneN ns).1.length = true := by
    have e : allX ns = ndP 6 (noneN ns).2 0 := rfl
    have := h1'.ok
    unfold okId at this
    rw [e]
    unfold rightN ndP
    rw [if_neg (by simp), if_neg (by simp), if_neg (by simp), if_pos (by simp)]
    simp [this]
  exact (pN_spec (okA_none hO) hr (by omega)).1.1
theorem zip_fst (lk : Re → Int) (rs : List Re) (ns : List Nd) (e : Int) (ws : List Int) : ((bL lk rs ns e).2.zip (rs.map (spansR ws))).map (·.1) = (bL lk rs ns e).2 := by
  have h := bL_len lk rs ns e
  exact List.map_fst_zip (by rw [h, List.length_map]; exact Nat.le_refl _)
theorem zip_snd (lk : Re → Int) (rs : List Re) (ns : List Nd) (e : Int) (ws : List Int) : ((bL lk rs ns e).2.zip (rs.map (spansR ws))).map (·.2) = rs.map (spansR ws) := by
  have h := bL_len lk rs ns e
  exact List.map_snd_zip (by rw [h, List.length_map]; exact Nat.le_refl _)
mutual
theorem bR_has {lk : Re → Int} (hlk : LooksOk ws bts lk) : ∀ (r : Re), InRe r → allR r = true → ∀ (ns : List Nd), OkA ns → (bR lk r ns 0).1.2 = 0 → (bR lk r ns 0).1.1.length ≤ 19990 → HasN ws bts (bR lk r ns 0).1.1 (bR lk r ns 0).2 (spansR ws r)
  | .mk k s0 s1 s2 s3 rs lo hi neg, hr, hall, ns, hO, he, hlen => by
    have hs : InS ⟨s0, s1, s2, s3⟩ := by cases hr; assumption
    have hp : ∀ p ∈ rs, InRe p := by cases hr; assumption
    have hall' := hall
    simp only [allR, Bool.and_eq_true, decide_eq_true_eq] at hall
    obtain ⟨hOw, hall⟩ := hall
    rw [allL_eq, List.all_eq_true] at hall
    have hL := bL_has hlk rs hp hall
    have hLo := okB_L lk rs hp
    have hup : ∀ g ∈ rs.map (spansR ws), Upt (ws.length + 1) g := fun g hg => by
      obtain ⟨p, hp', rfl⟩ := List.mem_map.1 hg; exact upt_spans ws p (hall p hp')
    have hz := zip_fst lk rs
    have hz2 := zip_snd lk rs
    have hzl := fun ns => bL_len lk rs ns 0
    obtain ⟨⟨hk0, hk11⟩, hparts, -, hneg, h7, -⟩ := hOw
    rw [spansR, spansL_eq]
    unfold nodeT
    dsimp only
    rw [bR] at he hlen ⊢
    by_cases k0 : k = 0
    · rw [if_pos k0] at he hlen ⊢
      rw [if_neg (by omega), if_neg (by omega), if_neg (by omega), if_neg (by omega), if_neg (by omega), if_neg (by omega), if_neg (by omega), if_neg (by omega), if_neg (by omega), if_neg (by omega)]
      exact fun h0 => none_sem hO h0
    rw [if_neg k0] at he hlen ⊢
    by_cases k1 : k = 1
    · rw [if_pos k1] at he hlen ⊢
      rw [if_pos k1]
      exact fun h0 => empty_sem hO h0
    rw [if_neg k1] at he hlen ⊢
    rw [if_neg k1]
    by_cases k2 : k = 2
    · rw [if_pos k2] at he hlen ⊢
      rw [if_pos k2, ← bit_has]
      exact fun h0 => bytes_sem hO hs h0
    rw [if_neg k2] at he hlen ⊢
    rw [if_neg k2]
    by_cases k3 : k = 3
    · rw [if_pos k3] at he hlen ⊢
      rw [if_pos k3]
      dsimp only at he hlen ⊢
      have hem := okB_empty hO
      have hee : HasN ws bts (emptyN ns).1 (emptyN ns).2 oneT := fun h0 => empty_sem hO h0
      have hpl := bL_pre lk rs (emptyN ns).1 0
      have hlo := hLo (emptyN ns).1 0 hem.1
      have hcp := cats_pre (bL lk rs (emptyN ns).1 0).2.reverse (bL lk rs (emptyN ns).1 0).1.1 (emptyN ns).2
      have hl := hL (emptyN ns).1 hem.1 he (Nat.le_trans hcp.length_le hlen)
      have hz := hz (emptyN ns).1 0 ws
      have hz2 := hz2 (emptyN ns).1 0 ws
      generalize (bL lk rs (emptyN ns).1 0) = q at *
      rw [← hz2] at hup ⊢
      generalize hpz : q.2.zip (rs.map (spansR ws)) = pz at *
      have hc := cats_has (ws := ws) (bts := bts) pz.reverse hlo.1 (fun z hz' => hlo.2 z.1 (by rw [← hz]; exact List.mem_map.2 ⟨z, List.mem_reverse.1 hz', rfl⟩)) hem.2 (fun z hz' => hl z (List.mem_reverse.1 hz')) (hee.pre hem.1 hlo.1 hpl)
      rw [List.map_reverse, hz] at hc
      refine hc.congr ?_
      rw [List.foldl_reverse]
      have e : (pz.foldr (fun z f => thenT (ws.length + 1) z.2 f) oneT) = (pz.map (·.2)).foldr (thenT (ws.length + 1)) oneT := by rw [List.foldr_map]
      rw [show (List.foldr (fun x y => thenT (ws.length + 1) x.2 y) oneT pz) = (pz.map (·.2)).foldr (thenT (ws.length + 1)) oneT from e]
      exact (fold_then_one _ hup).symm
    rw [if_neg k3] at he hlen ⊢
    rw [if_neg k3]
    have hlo := hLo ns 0 hO
    have hz := hz ns 0 ws
    have hz2 := hz2 ns 0 ws
    have hzl := hzl ns
    by_cases k4 : k = 4
    · rw [if_pos k4] at he hlen ⊢
      rw [if_pos k4]
      dsimp only at he hlen ⊢
      have hl := hL ns hO he (Nat.le_trans (gput_pre false _ _).length_le hlen)
      generalize (bL lk rs ns 0) = q at *
      generalize q.2.zip (rs.map (spansR ws)) = pz at *
      have hc := or_has (ws := ws) (bts := bts) hlo.1 hl
      rw [hz] at hc
      refine hc.congr fun i j _ _ => ?_
      rw [fold_or, Bool.false_or, ← hz2, List.any_map]
      rfl
    rw [if_neg k4] at he hlen ⊢
    rw [if_neg k4]
    by_cases k5 : k = 5
    · rw [if_pos k5] at he hlen ⊢
      rw [if_pos k5]
      dsimp only at he hlen ⊢
      have hln := Nat.le_trans (gput_pre true _ _).length_le hlen
      have hl := hL ns hO he hln
      generalize (bL lk rs ns 0) = q at *
      generalize q.2.zip (rs.map (spansR ws)) = pz at *
      have hc := and_has (ws := ws) (bts := bts) hlo.1 (all_room hlo.1 hln) hl
      rw [hz] at hc
      refine hc.congr fun i j _ _ => ?_
      rw [fold_and, ← hz2, List.all_map]
      simp only [Bool.not_false, Bool.and_true]
      rfl
    rw [if_neg k5] at he hlen ⊢
    rw [if_neg k5]
    have hone : k = 6 ∨ k = 7 → ∃ p, rs = [p] := fun h => by
      have e : partsK k = 1 := by unfold partsK; rw [if_neg (by omega), if_pos (by omega)]
      rw [e] at hparts
      have := hparts (by omega)
      match rs, this with
      | [p], _ => exact ⟨p, rfl⟩
      | [], h => simp at h
      | _ :: _ :: _, h => simp at h; omega
    by_cases k6 : k = 6
    · rw [if_pos k6] at he hlen ⊢
      rw [if_pos k6]
      dsimp only at he hlen ⊢
      have hl := hL ns hO he (Nat.le_trans (notN_pre _ _).length_le hlen)
      obtain ⟨p, rfl⟩ := hone (.inl k6)
      generalize (bL lk [p] ns 0) = q at *
      obtain ⟨q1, q2⟩ := q
      match q2, hzl with
      | [z], _ =>
        have hl := hl (z, spansR ws p) (by simp)
        exact not_has hlo.1 (hlo.2 z (by simp)) hl
    rw [if_neg k6] at he hlen ⊢
    rw [if_neg k6]
    by_cases k7 : k = 7
    · rw [if_pos k7] at he hlen ⊢
      rw [if_pos k7]
      dsimp only at he hlen ⊢
      have hl := hL ns hO he (Nat.le_trans (times_pre _ _ _ _).length_le hlen)
      obtain ⟨p, rfl⟩ := hone (.inr k7)
      have h7 := h7 k7
      generalize (bL lk [p] ns 0) = q at *
      obtain ⟨q1, q2⟩ := q
      match q2, hzl with
      | [z], _ =>
        have hl := hl (z, spansR ws p) (by simp)
        exact times_has hlo.1 (hlo.2 z (by simp)) hl (hup _ (by simp)) h7.1 (by omega)
    rw [if_neg k7] at he hlen ⊢
    have hk8 : 8 ≤ k ∧ k ≤ 11 := by omega
    have e := fun i j => spans_look ws (s0 := s0) (s1 := s1) (s2 := s2) (s3 := s3) (lo := lo) (hi := hi) (rs := rs) hk8 hneg i j
    have e2 : spansR ws (.mk k s0 s1 s2 s3 rs lo hi neg) = fun i j => (decide (i = j) && (spansR ws (.mk k s0 s1 s2 s3 rs lo hi false) i i != neg)) := by funext i j; exact e i j
    rw [spansR, spansL_eq] at e2
    unfold nodeT at e2
    dsimp only at e2
    rw [if_neg k1, if_neg k2, if_neg k3, if_neg k4, if_neg k5, if_neg k6] at e2
    rw [e2]
    unfold lookedN at he hlen ⊢
    split at he
    · exact absurd he (by simp)
    rename_i hlr
    rw [if_neg hlr]
    intro h0
    have h1 := look_sem (ws := ws) (bts := bts) hO (k := lk (.mk k s0 s1 s2 s3 rs lo hi false)) (by omega) neg h0
    refine ⟨h1.1, h1.2.trans fun i j hi' hj' => ?_⟩
    dsimp only
    rw [hlk k s0 s1 s2 s3 lo hi rs hk8 (by omega) (by omega) i hi']
theorem bL_has {lk : Re → Int} (hlk : LooksOk ws bts lk) : ∀ (l : List Re), (∀ p ∈ l, InRe p) → (∀ p ∈ l, allR p = true) → ∀ (ns : List Nd), OkA ns → (bL lk l ns 0).1.2 = 0 → (bL lk l ns 0).1.1.length ≤ 19990 →
    ∀ z ∈ (bL lk l ns 0).2.zip (l.map (spansR ws)), HasN ws bts (bL lk l ns 0).1.1 z.1 z.2
  | [], _, _, ns, _, _, _ => by simp [bL]
  | r :: l, hi, ha, ns, hO, he, hlen => by
    rw [bL] at he hlen ⊢
    dsimp only at he hlen ⊢
    have he1 : (bR lk r ns 0).1.2 = 0 := by
      rcases bL_err lk l (bR lk r ns 0).1.1 (bR lk r ns 0).1.2 with h | h
      · rw [h] at he; exact absurd he (by decide)
      · rw [h] at he; exact he
    have hp := bL_pre lk l (bR lk r ns 0).1.1 (bR lk r ns 0).1.2
    have h1 := bR_has hlk r (hi r (by simp)) (ha r (by simp)) ns hO he1 (Nat.le_trans hp.length_le hlen)
    have ho := okB_R lk r (hi r (by simp)) ns 0 hO
    have ho2 := okB_L lk l (fun p hp => hi p (by simp [hp])) (bR lk r ns 0).1.1 (bR lk r ns 0).1.2 ho.1
    rw [he1] at he hlen hp ho2 ⊢
    have h2 := bL_has hlk l (fun p hp => hi p (by simp [hp])) (fun p hp => ha p (by simp [hp])) (bR lk r ns 0).1.1 ho.1 he hlen
    intro z hz
    rw [List.map_cons, List.zip_cons_cons] at hz
    rcases List.mem_cons.1 hz with rfl | hz
    · exact h1.pre ho.1 ho2.1 hp
    · exact h2 z hz
end
end
end Go.Proofs.YtpdiljdklllmjaaGreat.ar
