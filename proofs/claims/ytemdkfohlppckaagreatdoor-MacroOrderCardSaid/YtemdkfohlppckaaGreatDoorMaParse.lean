/- Macros: the expander's parse, walked. Conditions: the laid variables are what they are. -/
import Derived.Test.YtemdkfohlppckaaGreatDoorMaReach
import Derived.Test.YtemdkfohlppckaaGreatDoorPaParse

namespace Go.Proofs.YtemdkfohlppckaaGreatDoor.ma
open Go Go.Ev Go.Proofs Go.Proofs.YtemdkfohlppckaaGreatDoor.lx Go.Proofs.YtemdkfohlppckaaGreatDoor.tree Go.Proofs.YtemdkfohlppckaaGreatDoor.pa

theorem setS_at (r : Sn) (i : Nat) (v : Bool) : setS r i v i = v := by unfold setS; rw [if_pos rfl]
theorem setS_ne {r : Sn} {i k : Nat} {v : Bool} (h : k ≠ i) : setS r i v k = r k := by unfold setS; rw [if_neg h]
theorem cnt_set {n i : Nat} {done : Sn} (hi : i < n) (hd : done i = false) : cntS n done < cntS n (setS done i true) ∧ cntS n (setS done i true) ≤ n := by
  refine ⟨(filter_le (f := done) (g := setS done i true) (fun x hx => ?_) (List.range n)).2 ⟨i, List.mem_range.2 hi, setS_at _ _ _, hd⟩, ?_⟩
  · by_cases e : x = i
    · subst e; exact setS_at _ _ _
    · rw [setS_ne e]; exact hx
  · unfold cntS
    exact Nat.le_trans (List.length_filter_le _ _) (by simp)
theorem idxG_cases {α : Type} {f : α → Bool} : ∀ (l : List α), (idxG f l = -1 ∧ ∀ x ∈ l, f x = false) ∨ ∃ (i : Nat) (x : α), l[i]? = some x ∧ f x = true ∧ idxG f l = (i : Int)
  | [] => .inl ⟨rfl, by simp⟩
  | p :: l => by
    rw [idxG]
    cases hp : f p with
    | true => rw [if_pos rfl]; exact .inr ⟨0, p, rfl, hp, rfl⟩
    | false =>
      rw [if_neg (by decide)]
      rcases idxG_cases (f := f) l with ⟨h1, h2⟩ | ⟨i, x, h1, h2, h3⟩
      · rw [h1]
        refine .inl ⟨rfl, fun x hx => ?_⟩
        rcases List.mem_cons.1 hx with rfl | hx
        · exact hp
        · exact h2 x hx
      · rw [h3, if_neg (by omega)]
        exact .inr ⟨i + 1, x, by simpa using h1, h2, by omega⟩
theorem next_cases (l : Ms) (done : Sn) : (nextI l done = -1 ∧ ∀ i, i < l.length → okNext l done i = false) ∨ ∃ i : Nat, i < l.length ∧ nextI l done = (i : Int) ∧ okNext l done i = true := by
  rcases idxG_cases (f := okNext l done) (List.range l.length) with ⟨h1, h2⟩ | ⟨i, x, h1, h2, h3⟩
  · exact .inl ⟨h1, fun i hi => h2 i (List.mem_range.2 hi)⟩
  · have hi : i < l.length := by simpa using (List.getElem?_eq_some_iff.1 h1).1
    rw [List.getElem?_range hi] at h1
    cases h1
    exact .inr ⟨i, hi, h3, h2⟩
def zD : List Value := .string (bs []) :: reC 0 0 0 0 0 (.slice none 0 0) 0 0 false
def rowsD (n : Nat) (dr : Nat → List Value) : List (List Value) := (List.range n).map dr
theorem rowsD_get {n k : Nat} {dr : Nat → List Value} (h : k < n) : (rowsD n dr)[k]? = some (dr k) := by
  unfold rowsD; rw [List.getElem?_map, List.getElem?_range h]; rfl
theorem rowsD_len {n : Nat} {dr : Nat → List Value} (h : ∀ k, (dr k).length = 10) : ∀ r ∈ rowsD n dr, r.length = 10 := by
  intro r hr; obtain ⟨x, -, rfl⟩ := List.mem_map.1 hr; exact h x
theorem rowsD_zero (n : Nat) : zerosL n zD = (rowsD n fun _ => zD).flatten := by
  rw [zeros_rows]
  congr 1
  refine List.ext_getElem? fun k => ?_
  by_cases hk : k < n
  · rw [rowsD_get hk, List.getElem?_replicate, if_pos hk]
  · rw [List.getElem?_eq_none (by simp; omega), List.getElem?_eq_none (by simp [rowsD]; omega)]
def setR (dr : Nat → List Value) (i : Nat) (r : List Value) : Nat → List Value := fun k => if k = i then r else dr k
theorem setR_at (dr : Nat → List Value) (i : Nat) (r : List Value) : setR dr i r i = r := by unfold setR; rw [if_pos rfl]
theorem setR_ne {dr : Nat → List Value} {i k : Nat} {r : List Value} (h : k ≠ i) : setR dr i r k = dr k := by unfold setR; rw [if_neg h]
theorem rowsD_set (n : Nat) (dr : Nat → List Value) (i : Nat) (r : List Value) : (rowsD n dr).set i r = rowsD n (setR dr i r) := by
  refine List.ext_getElem? fun k => ?_
  by_cases hk : k < n
  · have e1 := rowsD_get (dr := dr) hk
    have e2 := rowsD_get (dr := setR dr i r) hk
    rw [List.getElem?_set, e1, e2]
    by_cases e : i = k
    · subst e; rw [if_pos rfl, if_pos (by simp [rowsD]; omega), setR_at]
    · rw [if_neg e, setR_ne (fun h => e h.symm)]
  · rw [List.getElem?_eq_none (by simp [rowsD]; omega), List.getElem?_eq_none (by simp [rowsD]; omega)]
/-- An error of the parser, of a macro; one there is that stands for nothing. -/
def BadE (l : Ms) (e : E3) : Prop := (e.2.2 = 2 ∨ e.2.2 = 8 ∨ e.2.2 = 9) ∧ (∃ i : Nat, i < l.length ∧ e.1 = i) ∧ ∃ i, i < l.length ∧ ¬ ∃ r, Means l i r
structure PInv (l : Ms) (m1 : Mem) (done : Sn) (dr : Nat → List Value) (idx : List Nat) (f : Nat → Re) (e : E3) : Prop where
  dn : ∀ k, done k = true ↔ k ∈ idx
  lt : ∀ k ∈ idx, k < l.length
  cnt : idx.length ≤ cntS l.length done
  rep : ∀ k ∈ idx, ∃ cs, dr k = .string (bs (nmM l k)) :: cs ∧ RepRe m1 cs (f k)
  ten : ∀ k, (dr k).length = 10
  ok : (e = noE ∧ ∀ k ∈ idx, Means l k (f k)) ∨ BadE l e
theorem PInv.start (l : Ms) (m1 : Mem) : PInv l m1 (fun _ => false) (fun _ => zD) [] (fun _ => leafR 0) noE :=
  ⟨fun k => ⟨fun h => by (cases h), fun h => by (cases h)⟩, fun k h => by (cases h), Nat.zero_le _, fun k h => by (cases h), fun _ => rfl, .inl ⟨rfl, fun k h => by (cases h)⟩⟩
theorem PInv.le {l : Ms} {m1 m2 : Mem} {done : Sn} {dr : Nat → List Value} {idx : List Nat} {f : Nat → Re} {e : E3} (h : PInv l m1 done dr idx f e) (hm : Mem.Le m1 m2) : PInv l m2 done dr idx f e :=
  ⟨h.dn, h.lt, h.cnt, fun k hk => by obtain ⟨cs, a, b⟩ := h.rep k hk; exact ⟨cs, a, b.le hm⟩, h.ten, h.ok⟩
/-- One more. -/
theorem PInv.next {l : Ms} {m1 m2 : Mem} {done : Sn} {dr : Nat → List Value} {idx : List Nat} {f : Nat → Re} (hr : Right l) (h : PInv l m1 done dr idx f noE) (hm : Mem.Le m1 m2) {i : Nat} (hi : i < l.length) (hok : okNext l done i = true) {cs : List Value}
    (hcs : RepRe m2 cs (parseT (txM l i) (dsOf l idx f)).1) (hc9 : cs.length = 9) :
    PInv l m2 (setS done i true) (setR dr i (.string (bs (nmM l i)) :: cs)) (idx ++ [i]) (fun k => if k = i then (parseT (txM l i) (dsOf l idx f)).1 else f k)
      (if (parseT (txM l i) (dsOf l idx f)).2.2 = 0 then noE else ((i : Int), (parseT (txM l i) (dsOf l idx f)).2.1, (parseT (txM l i) (dsOf l idx f)).2.2)) := by
  unfold okNext at hok
  rw [Bool.and_eq_true, Bool.not_eq_true', Bool.not_eq_true', List.any_eq_false] at hok
  obtain ⟨hdi, hon⟩ := hok
  have hni : i ∉ idx := fun hm => by rw [(h.dn i).2 hm] at hdi; cases hdi
  have hms : ∀ k ∈ idx, Means l k (f k) := by
    rcases h.ok with ⟨-, h⟩ | ⟨h, -⟩
    · exact h
    · simp [noE] at h
  refine ⟨fun k => ?_, fun k hk => ?_, ?_, fun k hk => ?_, fun k => ?_, ?_⟩
  · rw [List.mem_append, List.mem_singleton]
    by_cases e : k = i
    · subst e; rw [setS_at]; simp
    · rw [setS_ne e, h.dn k]; simp [e]
  · rcases List.mem_append.1 hk with hk | hk
    · exact h.lt k hk
    · rw [List.mem_singleton.1 hk]; exact hi
  · have := (cnt_set hi hdi).1
    have := h.cnt
    rw [List.length_append, List.length_singleton]
    omega
  · by_cases e : k = i
    · subst e; rw [setR_at, if_pos rfl]; exact ⟨cs, rfl, hcs⟩
    · rw [setR_ne e, if_neg e]
      obtain ⟨cs', a, b⟩ := h.rep k (by rcases List.mem_append.1 hk with hk | hk; exact hk; exact absurd (List.mem_singleton.1 hk) e)
      exact ⟨cs', a, b.le hm⟩
  · by_cases e : k = i
    · subst e; rw [setR_at]; simp [hc9]
    · rw [setR_ne e]; exact h.ten k
  · rcases read_next hr hi h.lt hms (fun k hk => (h.dn k).1 (by have := hon k hk; simpa using this)) with ⟨e1, e2⟩ | ⟨e1, e2⟩
    · rw [if_pos e1]
      refine .inl ⟨rfl, fun k hk => ?_⟩
      by_cases e : k = i
      · subst e; rw [if_pos rfl]; exact e2
      · rw [if_neg e]; exact hms k (by rcases List.mem_append.1 hk with hk | hk; exact hk; exact absurd (List.mem_singleton.1 hk) e)
    · rw [if_neg (by omega)]
      exact .inr ⟨e1, ⟨i, hi, rfl⟩, i, hi, e2⟩
theorem PInv.end_ {l : Ms} {m1 : Mem} {done : Sn} {dr : Nat → List Value} {idx : List Nat} {f : Nat → Re} {e : E3} (h : PInv l m1 done dr idx f e) (hc : ∀ i, i < l.length → ¬ Way l i i) (hno : ∀ i, i < l.length → okNext l done i = false) : ∀ i, i < l.length → i ∈ idx := by
  intro i hi
  refine Classical.byContradiction fun hn => ?_
  have hdi : done i = false := by
    cases hd : done i with
    | false => rfl
    | true => exact absurd ((h.dn i).1 hd) hn
  obtain ⟨t, ht, htd, hon⟩ := next_some hc ⟨i, hi, hdi⟩
  have := hno t ht
  unfold okNext at this
  rw [htd] at this
  simp only [Bool.not_false, Bool.true_and, Bool.not_eq_false', List.any_eq_true] at this
  obtain ⟨k, hk, hk2⟩ := this
  rw [hon k hk] at hk2
  cases hk2

set_option maxHeartbeats 4000000 in
theorem parse_fn (m : Mem) (hQ : LibMem m) (b : Nat) (l : Ms) (lv dv0 fv0 : Value) (hl : Sl m 3 (isLn m l) lv (List.range l.length)) (hn : l.length ≤ 1000) (ht : ∀ k, k < l.length → (txM l k).length ≤ 1000000) (hr : Right l) (hc : ∀ i, i < l.length → ¬ Way l i i) :
    Ev.Fn Tryz.prog 15 [.pointer (some ⟨b, 0, none⟩)] m [(b, exO lv dv0 fv0 noE)] fun m' L' u => u = .tuple (toArr []) ∧ ∃ dv fv e Lx, L' = (b, exO lv dv fv e) :: Lx ∧
      ((e = noE ∧ ∃ f, Sl m' 10 (isDef m') fv (dsOf l (List.range l.length) f) ∧ ∀ i, i < l.length → Means l i (f i)) ∨ BadE l e) := by
  have hmx : maxLen = 9223372036854775807 := rfl
  have hl' := hl
  obtain ⟨A, n, c, rfl, hnl, hcc, hm, -⟩ := id hl
  rw [List.length_range] at hnl
  subst hnl
  refine Fn.enter (N := 93) hX Tryz.func15 rfl rfl (by show _ ≤ _; simp) (fun w0 hL => ?_)
  conv => whnf
  generalize keys _ = S0 at hL ⊢
  conv => whnf
  repeat ((first | refine zT ?_ | refine zF ?_ | refine zL hX hL ?_ | refine zB hX hL ?_ | (refine zS hX hL ?_; clear hL; intro w hL) | refine zI ?_ | refine zG hX ?_ | refine zO ?_); conv => whnf)
  refine RunReq.make hX rfl rfl rfl rfl l.length l.length rfl rfl (Nat.le_refl _) (by omega) rfl hL ?_
  clear hL
  intro gd w hL
  replace hL : Ev.Loc m S0 w0 m [(gd, .cells (toArr (cellsB l.length fun _ => false)) 4 (0, 0)), (b, exO (.slice A l.length c) dv0 fv0 noE)] w := by rw [← cellsB_zero]; exact hL
  conv => whnf
  repeat ((first | refine zT ?_ | refine zF ?_ | refine zL hX hL ?_ | refine zB hX hL ?_ | (refine zS hX hL ?_; clear hL; intro w hL) | refine zI ?_ | refine zG hX ?_ | refine zO ?_); conv => whnf)
  refine RunReq.make hX rfl rfl rfl rfl l.length l.length rfl rfl (Nat.le_refl _) (by omega) rfl hL ?_
  clear hL
  intro gf w hL
  replace hL : Ev.Loc m S0 w0 m [(gf, .cells (toArr (rowsD l.length fun _ => zD).flatten) 42 (0, 0)), (gd, .cells (toArr (cellsB l.length fun _ => false)) 4 (0, 0)), (b, exO (.slice A l.length c) (.slice (some ⟨gd, 0, none⟩) l.length l.length) fv0 noE)] w := by rw [← rowsD_zero]; exact hL
  have hL := hL.perm (List.reverse_perm [(b, exO (.slice A l.length c) (.slice (some ⟨gd, 0, none⟩) l.length l.length) fv0 noE), (gd, .cells (toArr (cellsB l.length fun _ => false)) 4 (0, 0)), (gf, .cells (toArr (rowsD l.length fun _ => zD).flatten) 42 (0, 0))])
  conv => whnf
  repeat ((first | refine zT ?_ | refine zF ?_ | refine zL hX hL ?_ | refine zB hX hL ?_ | (refine zS hX hL ?_; clear hL; intro w hL) | refine zI ?_ | refine zG hX ?_ | refine zO ?_); conv => whnf)
  refine CallReq.li (L1 := [_, _]) (next_fn m b gd l _ _ noE (fun _ => false) hl' hn) hL ?_
  clear hL
  intro w hL
  conv => whnf
  repeat ((first | refine zT ?_ | refine zF ?_ | refine zL hX hL ?_ | refine zB hX hL ?_ | (refine zS hX hL ?_; clear hL; intro w hL) | refine zI ?_ | refine zG hX ?_ | refine zO ?_); conv => whnf)
  refine LoopReq.inv hX (fun s : Sn × Int × Option Addr × Nat × Nat => [(2, .slice s.2.2.1 s.2.2.2.1 s.2.2.2.2), (3, .int .i64 s.2.1)]) [0]
    (fun s w => s.2.1 = nextI l s.1 ∧ ∃ m1 dr idx f e Lk, Mem.Le m m1 ∧ PInv l m1 s.1 dr idx f e ∧ OwnS 42 10 (.slice s.2.2.1 s.2.2.2.1 s.2.2.2.2) (idx.map dr).flatten Lk ∧
      Ev.Loc m S0 w0 m1 ((b, exO (.slice A l.length c) (.slice (some ⟨gd, 0, none⟩) l.length l.length) (.slice (some ⟨gf, 0, none⟩) l.length l.length) e) :: (gd, .cells (toArr (cellsB l.length s.1)) 4 (0, 0)) :: (gf, .cells (toArr (rowsD l.length dr).flatten) 42 (0, 0)) :: Lk) w)
    (fun s => l.length - cntS l.length s.1) (fun _ => false, nextI l (fun _ => false), none, 0, 0)
    ⟨rfl, m, _, [], _, noE, [], Mem.Le.refl m, PInv.start l m, OwnS.nil _ _, hL⟩ ⟨rfl, rfl, trivial⟩ ?_
  clear hL
  rintro ⟨done, iv, Ak, nk, ck⟩ w g ⟨hiv, m1, dr, idx, f, e, Lk, hm1, hI, hok, hL⟩
  simp only at hiv hok hL hI
  subst hiv
  rcases next_cases l done with ⟨e1, hno⟩ | ⟨i, hi, e1, hokn⟩
  · rw [e1]
    conv => whnf
    repeat ((first | refine BrReq.no (by omega) ?_ | refine zT ?_ | refine zF ?_ | refine zL hX hL ?_ | refine zB hX hL ?_ | (refine zS hX hL ?_; clear hL; intro w hL) | refine zI ?_ | refine zG hX ?_ | refine zO ?_); conv => whnf)
    rcases hI.ok with ⟨rfl, hms⟩ | hbad
    · have hall := hI.end_ hc hno
      obtain ⟨m3, hL3, hm3, hsl⟩ := rows_freeze (size := 10) (R := isDef m1) (l := dsOf l (List.range l.length) f) (n := l.length) (cap := l.length) (L := [_, _] ++ Lk)
        (hL.perm (List.perm_middle (l₁ := [_, _]))) (by simp [dsOf]) (Nat.le_refl _) (by omega) (rowsD_len hI.ten) fun k x hx => by
        unfold dsOf at hx
        rw [List.getElem?_map] at hx
        have hk : k < l.length := by
          cases hq : (List.range l.length)[k]? with
          | none => rw [hq] at hx; cases hx
          | some y => have := (List.getElem?_eq_some_iff.1 hq).1; simpa using this
        rw [List.getElem?_range hk] at hx
        cases hx
        obtain ⟨cs, h1, h2⟩ := hI.rep k (hall k hk)
        exact ⟨_, rowsD_get hk, cs, h1, h2⟩
      exact RetReq.mk hL3 ⟨rfl, _, _, _, _, rfl, .inl ⟨rfl, f, hsl.le (Mem.Le.refl _) fun cs x _ ⟨cs', h1, h2⟩ => ⟨cs', h1, h2.le hm3⟩, fun k hk => hms k (hall k hk)⟩⟩
    · exact RetReq.mk hL ⟨rfl, _, _, _, _, rfl, .inr hbad⟩
  · rw [e1]
    rcases hI.ok with ⟨rfl, hms⟩ | hbad
    rotate_left
    · conv => whnf
      repeat ((first | refine BrReq.yes (by omega) ?_ | (refine BrReq.no (by have := hbad.1; omega) ?_) | refine zT ?_ | refine zF ?_ | refine zL hX hL ?_ | refine zB hX hL ?_ | (refine zS hX hL ?_; clear hL; intro w hL) | refine zI ?_ | refine zG hX ?_ | refine zO ?_); conv => whnf)
      exact RetReq.mk hL ⟨rfl, _, _, _, _, rfl, .inr hbad⟩
    obtain ⟨a, cs, ea, -, hcl, sv, rfl, -⟩ := (hl'.le' hm1).elem i i (List.getElem?_range hi)
    have hrows : ∀ r ∈ idx.map dr, r.length = 10 := fun r hr => by obtain ⟨x, -, rfl⟩ := List.mem_map.1 hr; exact hI.ten x
    obtain ⟨mm, Aq, cq, eq, hLm, hmm, hsl, -⟩ := OwnS.freezeRows (size := 10) (R := isDef m1) (l := dsOf l idx f) (L2 := [_, _, _]) (by omega) hok (Loc.back (L1 := [_, _, _]) hL) hrows (by simp [dsOf]) (fun q x hx => by
      unfold dsOf at hx
      rw [List.getElem?_map] at hx
      cases hq : idx[q]? with
      | none => rw [hq] at hx; cases hx
      | some k =>
        rw [hq] at hx
        cases hx
        obtain ⟨cs', h1, h2⟩ := hI.rep k (List.mem_of_getElem? hq)
        exact ⟨_, by rw [List.getElem?_map, hq]; rfl, cs', h1, h2⟩)
    have hP := ParseN_fn mm (libLe' (hm1.trans hmm) hQ) (txM l i) (ht i hi) (.slice Ak nk ck) (dsOf l idx f) (hsl.le (Mem.Le.refl _) fun cs x _ ⟨cs', h1, h2⟩ => ⟨cs', h1, h2.le hmm⟩)
    have hP2 : Fn0 Tryz.prog 9 [.string (bs (txM l i)), .slice Ak nk ck] mm fun m' v => ∃ mc, NewIn mm m' mc ∧ ∃ cs, v = .tuple (toArr [.agg (toArr cs), .int .i64 (parseT (txM l i) (dsOf l idx f)).2.1, .int .i64 (parseT (txM l i) (dsOf l idx f)).2.2]) ∧ RepRe mc cs (parseT (txM l i) (dsOf l idx f)).1 :=
      hP.mono fun _ _ _ _ ⟨h1, cs, h2, mc, h3, h4⟩ => ⟨h1, mc, h3, cs, h2, h4⟩
    conv => whnf
    repeat ((first | refine BrReq.yes (by omega) ?_ | refine BrReq.yes rfl ?_ | refine Idx2Req.mk i a rfl (by omega) ea ?_ | refine LdReq.one hX rfl rfl hL (hcl 1 _ rfl) ?_ | refine zT ?_ | refine zF ?_ | refine zL hX hL ?_ | refine zB hX hL ?_ | (refine zS hX hL ?_; clear hL; intro w hL) | refine zI ?_ | refine zG hX ?_ | refine zO ?_); conv => whnf)
    refine CallReq.lendNew hP2 hLm.sub hmm hL ?_
    clear hL hLm hP hP2
    rintro u mc w hL hnw ⟨cs, rfl, hcs⟩
    have hm12 := le_unionL m1 mc
    have hcs2 := hcs.le hnw.1
    have hcl2 := hcl.le hm12
    obtain ⟨k1, u0, u1, u2, u3, A1, n1, c1, lo1, hi1, neg1, rfl⟩ := hcs2.form
    have hnx := hI.next hr hm12 hi hokn hcs2 rfl
    generalize hpt : parseT (txM l i) (dsOf l idx f) = pt at *
    generalize m1.union mc = m2 at *
    conv => whnf
    repeat ((first | refine zT ?_ | refine zF ?_ | refine zL hX hL ?_ | refine zB hX hL ?_ | (refine zS hX hL ?_; clear hL; intro w hL) | refine zI ?_ | refine zG hX ?_ | refine zO ?_); conv => whnf)
    refine NewReq.mk hL ?_
    clear hL
    intro b4 w hL
    conv => whnf
    replace hL : Ev.Loc m S0 w0 m2 ((b4, .cells (toArr zRe) 36 (0, 0)) :: ([(b, exO (.slice A l.length c) (.slice (some ⟨gd, 0, none⟩) l.length l.length) (.slice (some ⟨gf, 0, none⟩) l.length l.length) noE), (gd, .cells (toArr (cellsB l.length done)) 4 (0, 0)), (gf, .cells (toArr (rowsD l.length dr).flatten) 42 (0, 0))] ++ Lk)) w := hL
    have hL := hL.mid
    replace hL : Ev.Loc m S0 w0 m2 ((b, exO (.slice A l.length c) (.slice (some ⟨gd, 0, none⟩) l.length l.length) (.slice (some ⟨gf, 0, none⟩) l.length l.length) noE) :: (gd, .cells (toArr (cellsB l.length done)) 4 (0, 0)) :: (gf, .cells (toArr (rowsD l.length dr).flatten) 42 (0, 0)) :: (b4, .cells (toArr zRe) 36 (0, 0)) :: Lk) w := hL
    conv => whnf
    repeat ((first | refine zT ?_ | refine zF ?_ | refine zL hX hL ?_ | refine zB hX hL ?_ | (refine zS hX hL ?_; clear hL; intro w hL) | refine zI ?_ | refine zO ?_); conv => whnf)
    refine SeqReq.cut hX (fun _ : Unit => []) [0, 2, 3, 4] (fun _ w => Ev.Loc m S0 w0 m2 ((b, exO (.slice A l.length c) (.slice (some ⟨gd, 0, none⟩) l.length l.length) (.slice (some ⟨gf, 0, none⟩) l.length l.length) (if pt.2.2 = 0 then noE else ((i : Int), pt.2.1, pt.2.2))) :: (gd, .cells (toArr (cellsB l.length done)) 4 (0, 0)) :: (gf, .cells (toArr (rowsD l.length dr).flatten) 42 (0, 0)) :: (b4, .cells (toArr (reC k1 u0 u1 u2 u3 (.slice A1 n1 c1) lo1 hi1 neg1)) 36 (0, 0)) :: Lk) w) ?_ ?_
    · by_cases hz : pt.2.2 = 0
      · rw [if_pos hz]
        conv => whnf
        repeat ((first | refine BrReq.no (fun h => h hz) ?_ | refine zT ?_ | refine zF ?_ | refine zL hX hL ?_ | refine zB hX hL ?_ | (refine zS hX hL ?_; clear hL; intro w hL) | refine zI ?_ | refine zG hX ?_ | refine zO ?_); conv => whnf)
        refine ⟨(), hL, ?_, ?_⟩
        · repeat (first | exact trivial | (refine And.intro (by (conv => lhs; whnf) <;> (conv => rhs; whnf) <;> (first | rfl)) ?_))
        · repeat (first | exact trivial | (refine And.intro (by (conv => lhs; whnf) <;> (conv => rhs; whnf) <;> (first | rfl)) ?_))
      · rw [if_neg hz]
        conv => whnf
        repeat ((first | refine BrReq.yes (fun h => hz h) ?_ | refine zT ?_ | refine zF ?_ | refine zL hX hL ?_ | refine zB hX hL ?_ | (refine zS hX hL ?_; clear hL; intro w hL) | refine zI ?_ | refine zG hX ?_ | refine zO ?_); conv => whnf)
        refine CallReq.sc (xfail_fn m2 b _ _ _ noE i pt.2.1 pt.2.2) hL ?_
        clear hL
        intro w hL
        rw [orE_no] at hL
        conv => whnf
        repeat ((first | refine zT ?_ | refine zF ?_ | refine zL hX hL ?_ | refine zB hX hL ?_ | (refine zS hX hL ?_; clear hL; intro w hL) | refine zI ?_ | refine zG hX ?_ | refine zO ?_); conv => whnf)
        refine ⟨(), hL, ?_, ?_⟩
        · repeat (first | exact trivial | (refine And.intro (by (conv => lhs; whnf) <;> (conv => rhs; whnf) <;> (first | rfl)) ?_))
        · repeat (first | exact trivial | (refine And.intro (by (conv => lhs; whnf) <;> (conv => rhs; whnf) <;> (first | rfl)) ?_))
    clear hL
    rintro _ w f2 hL
    simp only
    generalize (if pt.2.2 = 0 then noE else ((i : Int), pt.2.1, pt.2.2)) = e2 at *
    have hten := rowsD_len (n := l.length) hI.ten
    conv => whnf
    repeat ((first | refine zT ?_ | refine zF ?_ | refine zL hX hL ?_ | refine zB hX hL ?_ | (refine zS hX hL ?_; clear hL; intro w hL) | refine zI ?_ | refine zG hX ?_ | refine zO ?_); conv => whnf)
    refine DrawReq.plan hX (.fst 0 (.fst 1 (.fst 2 (.fst 3 (.fst 4 (.fst 5 (.fst 6 (.fst 7 (.fst 8 (.fst 9 (.fst 10 (.fst 11 (.fst 12 (.fst 13 (.fst 14 (.fst 15 (.fst 16 (.alt 17 (.done) (.stop))))))))))))))))))) [(b, exO (.slice A l.length c) (.slice (some ⟨gd, 0, none⟩) l.length l.length) (.slice (some ⟨gf, 0, none⟩) l.length l.length) e2), (b4, .cells (toArr (reC k1 u0 u1 u2 u3 (.slice A1 n1 c1) lo1 hi1 neg1)) 36 (0, 0))] (by kernel_rfl) (by kernel_rfl) hL (fun h => h.sublist (.cons_cons _ (.cons _ (.cons _ (.cons_cons _ (List.nil_sublist _)))))) ?_
    clear hL
    intro w hL
    conv => whnf
    repeat ((first | refine Idx2Req.mk i a rfl (by omega) ea ?_ | refine Idx2Req.mk i _ rfl (by omega) rfl ?_ | refine QLdReq.one hX rfl rfl (hcl2 0 _ rfl) ?_ | refine zQ hX ?_ | refine zR hX ?_ | refine zA ?_ | refine zT ?_ | refine zF ?_ | refine zL hX hL ?_ | refine zB hX hL ?_ | (refine zS hX hL ?_; clear hL; intro w hL) | refine zI ?_ | refine zG hX ?_ | refine zO ?_); conv => whnf)
    refine rows_store hX rfl 2 hL rfl hten (by simp only [rowsD, List.length_map, List.length_range]; exact hi) rfl rfl ?_
    clear hL
    intro w hL
    rw [rowsD_set] at hL
    replace hL : Ev.Loc m S0 w0 m2 ((b, exO (.slice A l.length c) (.slice (some ⟨gd, 0, none⟩) l.length l.length) (.slice (some ⟨gf, 0, none⟩) l.length l.length) e2) :: (gd, .cells (toArr (cellsB l.length done)) 4 (0, 0)) :: (gf, .cells (toArr (rowsD l.length (setR dr i (.string (bs (nmM l i)) :: reC k1 u0 u1 u2 u3 (.slice A1 n1 c1) lo1 hi1 neg1))).flatten) 42 (0, 0)) :: (b4, .cells (toArr (reC k1 u0 u1 u2 u3 (.slice A1 n1 c1) lo1 hi1 neg1)) 36 (0, 0)) :: Lk) w := hL
    conv => whnf
    refine SReq.mk (hL.sublist (.cons_cons _ (.cons _ (.cons _ (.cons_cons _ (List.nil_sublist _)))))) ?_
    conv => whnf
    repeat ((first | refine Idx2Req.mk i _ rfl (by omega) rfl ?_ | refine rows_load hX rfl rfl 2 hL rfl (rowsD_len hnx.ten) (rowsD_get hi) ?_ | refine zQ hX ?_ | refine zR hX ?_ | refine zA ?_ | refine zT ?_ | refine zF ?_ | refine zL hX hL ?_ | refine zB hX hL ?_ | (refine zS hX hL ?_; clear hL; intro w hL) | refine zI ?_ | refine zG hX ?_ | refine zO ?_); conv => whnf)
    rw [setR_at]
    have hdi : done i = false := by
      unfold okNext at hokn
      rw [Bool.and_eq_true, Bool.not_eq_true'] at hokn
      exact hokn.1
    have hni : i ∉ idx := fun hm => by rw [(hI.dn i).2 hm] at hdi; cases hdi
    have hcnt := cnt_set hi hdi
    have hidx : idx.length ≤ l.length := by have := hI.cnt; omega
    have hsz : (idx.map dr).flatten.length ≤ 10000 := by rw [flat_len (size := 10) _ hrows, List.length_map]; omega
    have happ : (idx.map dr).flatten ++ (.string (bs (nmM l i)) :: reC k1 u0 u1 u2 u3 (.slice A1 n1 c1) lo1 hi1 neg1) = ((idx ++ [i]).map (setR dr i (.string (bs (nmM l i)) :: reC k1 u0 u1 u2 u3 (.slice A1 n1 c1) lo1 hi1 neg1))).flatten := by
      rw [List.map_append, List.flatten_append]
      congr 1
      · congr 1
        exact List.map_congr_left fun k hk => (setR_ne (fun (e : k = i) => hni (e ▸ hk))).symm
      · simp [setR_at]
    generalize hrow : (.string (bs (nmM l i)) :: reC k1 u0 u1 u2 u3 (.slice A1 n1 c1) lo1 hi1 neg1 : List Value) = row at *
    generalize setR dr i row = dr2 at *
    subst hrow
    conv => whnf
    refine NewReq.mk hL ?_
    clear hL
    intro gn w hL
    conv => whnf
    replace hL : Ev.Loc m S0 w0 m2 ((gn, .cells (toArr (.string (bs (nmM l i)) :: reC k1 u0 u1 u2 u3 (.slice A1 n1 c1) lo1 hi1 neg1)) 42 (0, 0)) :: ([(b, exO (.slice A l.length c) (.slice (some ⟨gd, 0, none⟩) l.length l.length) (.slice (some ⟨gf, 0, none⟩) l.length l.length) e2), (gd, .cells (toArr (cellsB l.length done)) 4 (0, 0)), (gf, .cells (toArr (rowsD l.length dr2).flatten) 42 (0, 0)), (b4, .cells (toArr (reC k1 u0 u1 u2 u3 (.slice A1 n1 c1) lo1 hi1 neg1)) 36 (0, 0))] ++ Lk)) w := hL
    conv => whnf
    repeat ((first | refine zT ?_ | refine zF ?_ | refine zL hX hL ?_ | refine zB hX hL ?_ | (refine zS hX hL ?_; clear hL; intro w hL) | refine zI ?_ | refine zG hX ?_ | refine zO ?_); conv => whnf)
    refine RunReq.push hX 25 42 rfl rfl rfl rfl rfl hok (L2 := [_, _, _, _]) (hL.perm (List.Perm.cons _ (List.perm_append_comm (l₁ := [_, _, _, _]) (l₂ := Lk)))) rfl rfl (Nat.le_trans (Nat.add_le_add_right hsz 10) (by decide)) rfl ?_
    clear hL
    intro A3 n3 c3 L3 w hn3 ho3 hL
    rw [happ] at ho3
    have hL := hL.back
    replace hL : Ev.Loc m S0 w0 m2 ((b, exO (.slice A l.length c) (.slice (some ⟨gd, 0, none⟩) l.length l.length) (.slice (some ⟨gf, 0, none⟩) l.length l.length) e2) :: (gd, .cells (toArr (cellsB l.length done)) 4 (0, 0)) :: (gf, .cells (toArr (rowsD l.length dr2).flatten) 42 (0, 0)) :: (b4, .cells (toArr (reC k1 u0 u1 u2 u3 (.slice A1 n1 c1) lo1 hi1 neg1)) 36 (0, 0)) :: L3) w := hL
    have hst : ∀ k, k < l.length → ∀ r : Sn, 0 + scale k 1 + 1 ≤ (cellsB l.length r).length := fun k hk r => by rw [cellsB_len, scale_eq]; omega
    conv => whnf
    repeat ((first | refine Idx2Req.mk i _ rfl (by omega) rfl ?_ | refine zT ?_ | refine zF ?_ | refine zL hX hL ?_ | refine zB hX hL ?_ | (refine zS hX hL ?_; clear hL; intro w hL) | refine zI ?_ | refine zG hX ?_ | refine zO ?_); conv => whnf)
    refine StReq.ownAt hX rfl 1 hL rfl (v := .bool true) rfl (hst i hi done) rfl ?_
    clear hL
    intro w hL
    replace hL : Ev.Loc m S0 w0 m2 ((b, exO (.slice A l.length c) (.slice (some ⟨gd, 0, none⟩) l.length l.length) (.slice (some ⟨gf, 0, none⟩) l.length l.length) e2) :: (gd, .cells (toArr (cellsB l.length (setS done i true))) 4 (0, 0)) :: (gf, .cells (toArr (rowsD l.length dr2).flatten) 42 (0, 0)) :: (b4, .cells (toArr (reC k1 u0 u1 u2 u3 (.slice A1 n1 c1) lo1 hi1 neg1)) 36 (0, 0)) :: L3) w := by
      rw [← cellsB_set]
      have e0 : 0 + scale i 1 = i := by rw [scale_eq]; omega
      rw [e0] at hL
      exact hL
    conv => whnf
    repeat ((first | refine zT ?_ | refine zF ?_ | refine zL hX hL ?_ | refine zB hX hL ?_ | (refine zS hX hL ?_; clear hL; intro w hL) | refine zI ?_ | refine zG hX ?_ | refine zO ?_); conv => whnf)
    refine CallReq.li (L1 := [_, _]) (next_fn m2 b gd l _ _ e2 (setS done i true) (hl'.le (hm1.trans hm12) fun _ _ _ ⟨s, h1, h2⟩ => ⟨s, h1, h2.le' (hm1.trans hm12)⟩) hn) hL ?_
    clear hL
    intro w hL
    conv => whnf
    repeat ((first | refine zT ?_ | refine zF ?_ | refine zL hX hL ?_ | refine zB hX hL ?_ | (refine zS hX hL ?_; clear hL; intro w hL) | refine zI ?_ | refine zG hX ?_ | refine zO ?_); conv => whnf)
    refine ⟨(setS done i true, nextI l (setS done i true), A3, n3, c3), ⟨rfl, m2, dr2, idx ++ [i], _, e2, L3, hm1.trans hm12, hnx, ho3, hL.sublist (.cons_cons _ (.cons_cons _ (.cons_cons _ (.cons _ (List.Sublist.refl _)))))⟩, by first | omega | (simp only; omega) | (simp only [List.length_cons, List.length_append]; omega), ?_, ?_⟩
    · repeat (first | exact trivial | (refine And.intro (by (conv => lhs; whnf) <;> (conv => rhs; whnf) <;> (first | rfl)) ?_))
    · repeat (first | exact trivial | (refine And.intro (by (conv => lhs; whnf) <;> (conv => rhs; whnf) <;> (first | rfl)) ?_))
end Go.Proofs.YtemdkfohlppckaaGreatDoor.ma
