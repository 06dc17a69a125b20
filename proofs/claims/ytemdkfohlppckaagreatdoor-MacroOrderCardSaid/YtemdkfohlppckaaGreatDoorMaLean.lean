/- Macros: find and lean, walked. Conditions: the laid variables are what they are. -/
import Derived.Test.YtemdkfohlppckaaGreatDoorMaNames
import Derived.Test.YtemdkfohlppckaaGreatDoorLxWords
import Derived.Test.YtemdkfohlppckaaGreatDoorPaWords

namespace Go.Proofs.YtemdkfohlppckaaGreatDoor.ma
open Go Go.Ev Go.Proofs Go.Proofs.YtemdkfohlppckaaGreatDoor.lx Go.Proofs.YtemdkfohlppckaaGreatDoor.tree Go.Proofs.YtemdkfohlppckaaGreatDoor.pa

/-- A function that reads blocks of one's own and tells a value. -/
def FnL (f : Nat) (args : List Value) (m : Mem) (L : Ev.Own) (v : Value) : Prop := Ev.Fn Tryz.prog f args m L fun m' L' u => m' = m ∧ L' = L ∧ u = v
theorem CallReq.li {m0 m : Mem} {S : List Nat} {w0 w : World} {L1 L2 : Ev.Own} {f : Nat} {args : List Value} {v : Value} {K : Value → World → Prop} (h : FnL f args m L1 v) (hL : Ev.Loc m0 S w0 m (L1 ++ L2) w)
    (k : ∀ w', Ev.Loc m0 S w0 m (L1 ++ L2) w' → K v w') : CallReq Tryz.prog f (toArr args) w K :=
  CallReq.mk h hL fun _ _ _ w' hl _ ⟨e1, e2, e3⟩ => by subst e1 e2 e3; exact k w' hl
/-- A list in rows, with something left. -/
theorem chunks {size : Nat} : ∀ (k : Nat) (xs : List Value), xs.length = k * size → ∃ blk : List (List Value), xs = blk.flatten ∧ (∀ r ∈ blk, r.length = size) ∧ blk.length = k
  | 0, xs, h => ⟨[], by (cases xs with | nil => rfl | cons a r => simp at h), by simp, rfl⟩
  | k + 1, xs, h => by
    rw [Nat.add_mul, Nat.one_mul] at h
    obtain ⟨blk, h1, h2, h3⟩ := chunks (size := size) k (xs.drop size) (by rw [List.length_drop]; omega)
    refine ⟨xs.take size :: blk, by rw [List.flatten_cons, ← h1, List.take_append_drop], fun r hr => ?_, by simp [h3]⟩
    rcases List.mem_cons.1 hr with rfl | hr
    · rw [List.length_take]; omega
    · exact h2 r hr
theorem OwnS.rows {te size : Nat} {v : Value} {rows : List (List Value)} {L : Own} (h : OwnS te size v rows.flatten L) (hz : 0 < size) (hs : ∀ r ∈ rows, r.length = size) (hne : rows ≠ []) :
    ∃ g cap sp, v = .slice (some ⟨g, 0, none⟩) rows.length cap ∧ L = [(g, .cells (toArr (rows ++ sp).flatten) te (0, 0))] ∧ rows.length ≤ cap ∧ cap ≤ maxLen ∧ ∀ r ∈ sp, r.length = size := by
  obtain ⟨n, hn, h⟩ := h
  have hnr : n = rows.length := by
    rw [flat_len rows hs] at hn
    exact (Nat.eq_of_mul_eq_mul_right hz hn).symm
  subst hnr
  rcases h with ⟨rfl, h0, rfl⟩ | ⟨g, cap, cur, rfl, rfl, h1, h2, h3, h4⟩
  · exact absurd (List.eq_nil_of_length_eq_zero h0) hne
  · have hle : rows.length * size ≤ cap * size := Nat.mul_le_mul_right _ h1
    obtain ⟨sp, e1, e2, e3⟩ := chunks (size := size) (cap - rows.length) (cur.drop (rows.length * size)) (by rw [List.length_drop, h3, Nat.sub_mul])
    refine ⟨g, cap, sp, rfl, ?_, h1, h2, e2⟩
    rw [List.flatten_append, ← e1, ← h4, List.take_append_drop]

/-- The rows, each with on which others it leans. -/
def rowF (l : Ms) (sv : Nat → Value) (k : Nat) : List Value := [.string (bs (nmM l k)), .string (bs (txM l k)), sv k]
def rowsF (l : Ms) (sv : Nat → Value) : List (List Value) := (List.range l.length).map (rowF l sv)
theorem rowsF_len (l : Ms) (sv : Nat → Value) : ∀ r ∈ rowsF l sv, r.length = 3 := by
  intro r hr; obtain ⟨x, -, rfl⟩ := List.mem_map.1 hr; rfl
theorem rowsF_length (l : Ms) (sv : Nat → Value) : (rowsF l sv).length = l.length := by simp [rowsF]
theorem rowsF_get {l : Ms} {sv : Nat → Value} {k : Nat} (h : k < l.length) : (rowsF l sv)[k]? = some (rowF l sv k) := by
  unfold rowsF; rw [List.getElem?_map, List.getElem?_range h]; rfl
theorem rows0_eq (l : Ms) : l.map row0 = rowsF l (fun _ => .slice none 0 0) := by
  refine List.ext_getElem? fun k => ?_
  by_cases h : k < l.length
  · rw [rowsF_get h, List.getElem?_map, List.getElem?_eq_getElem h]
    unfold rowF nmM txM row0
    rw [List.getD_eq_getElem?_getD, List.getElem?_eq_getElem h]; rfl
  · rw [List.getElem?_eq_none (by simp; omega), List.getElem?_eq_none (by rw [rowsF_length]; omega)]
def setV (sv : Nat → Value) (i : Nat) (v : Value) : Nat → Value := fun k => if k = i then v else sv k
theorem rowsF_set {l : Ms} {sv : Nat → Value} {sp : List (List Value)} {i : Nat} (h : i < l.length) (v : Value) : (rowsF l sv ++ sp).set i ((rowF l sv i).set 2 v) = rowsF l (setV sv i v) ++ sp := by
  rw [List.set_append_left _ _ (by rw [rowsF_length]; exact h)]
  congr 1
  refine List.ext_getElem? fun k => ?_
  rw [List.getElem?_set]
  by_cases hk : k < l.length
  · have e1 := rowsF_get (sv := sv) hk
    have e2 := rowsF_get (sv := setV sv i v) hk
    rw [e1, e2]
    by_cases e : i = k
    · subst e
      rw [if_pos rfl, if_pos (by rw [rowsF_length]; exact h)]
      unfold rowF setV; rw [if_pos rfl]; rfl
    · rw [if_neg e]
      unfold rowF setV; rw [if_neg (fun h => e h.symm)]
  · rw [if_neg (by omega), List.getElem?_eq_none (by rw [rowsF_length]; omega), List.getElem?_eq_none (by rw [rowsF_length]; omega)]
theorem rowsS_len {l : Ms} {sv : Nat → Value} {sp : List (List Value)} (hsp : ∀ r ∈ sp, r.length = 3) : ∀ r ∈ rowsF l sv ++ sp, r.length = 3 := by
  intro r hr
  rcases List.mem_append.1 hr with hr | hr
  · exact rowsF_len l sv r hr
  · exact hsp r hr
theorem rowsS_get {l : Ms} {sv : Nat → Value} {sp : List (List Value)} {k : Nat} (h : k < l.length) : (rowsF l sv ++ sp)[k]? = some (rowF l sv k) := by
  rw [List.getElem?_append_left (by rw [rowsF_length]; exact h)]; exact rowsF_get h
/-- A row's cells. -/
def isRw (cs : List Value) (x : List UInt8 × List UInt8) : Prop := ∃ s, cs = [.string (bs x.1), .string (bs x.2), s]

theorem sameName2_fn (m : Mem) (b0 : Nat) (x : List UInt8 × List UInt8) (n : List UInt8) (cs : List Value) (hx : isRw cs x) (hb : mcell m ⟨b0, 0, none⟩ = some (.string (bs n))) :
    FnV Tryz.prog 52 ([.agg (toArr cs)] ++ [.pointer (some ⟨b0, 0, none⟩)]) m (.bool (decide (x.1 = n))) := by
  obtain ⟨s, rfl⟩ := hx
  refine Fn.enter (N := 9) hX Tryz.func52 rfl rfl (by show _ ≤ _; simp) (fun w0 hL => ?_)
  conv => whnf
  refine NewReq.mk hL ?_
  clear hL
  intro b2 w hL
  conv => whnf
  conv => whnf
  repeat ((first | refine LdReq.one hX rfl rfl hL hb ?_ | refine UGenReq.strEq rfl rfl rfl ?_ | refine zT ?_ | refine zF ?_ | refine zL hX hL ?_ | refine zB hX hL ?_ | (refine zS hX hL ?_; clear hL; intro w hL) | refine zI ?_ | refine zG hX ?_ | refine zO ?_); conv => whnf)
  rw [bs_beq]
  exact RetReq.bool hL.drop rfl

def idxI (l : Ms) (n : List UInt8) : Int := idxG (fun x => decide (x.1 = n)) l
theorem idxI_eq : ∀ (l : Ms) (n : List UInt8), idxI l n = match idxM l n with | some k => (k : Int) | none => -1
  | [], _ => rfl
  | m :: l, n => by
    have ih := idxI_eq l n
    unfold idxI at ih ⊢
    rw [idxG, idxM]
    by_cases h : m.1 = n
    · rw [if_pos (by simpa using h), if_pos h]; rfl
    · rw [if_neg (by simpa using h), if_neg h, ih]
      cases idxM l n with
      | none => rfl
      | some k => simp only [Option.map_some]; rw [if_neg (by omega)]; show (k : Int) + 1 = ((k + 1 : Nat) : Int); omega

theorem find_fn (m : Mem) (b g cap : Nat) (l : Ms) (sv : Nat → Value) (sp : List (List Value)) (hsp : ∀ r ∈ sp, r.length = 3) (hcap : l.length ≤ cap) (hmax : cap ≤ maxLen) (dv fv : Value) (e : E3) (n : List UInt8) :
    FnL 32 [.pointer (some ⟨b, 0, none⟩), .string (bs n)] m [(b, exO (.slice (some ⟨g, 0, none⟩) l.length cap) dv fv e), (g, .cells (toArr (rowsF l sv ++ sp).flatten) 73 (0, 0))] (.int .i64 (idxI l n)) := by
  refine Fn.enter (N := 11) hX Tryz.func32 rfl rfl (by show _ ≤ _; simp) (fun w0 hL => ?_)
  conv => whnf
  generalize keys _ = S0 at hL ⊢
  refine NewReq.mk hL ?_
  clear hL
  intro b3 w hL
  conv => whnf
  replace hL : Ev.Loc m S0 w0 m [(b3, .cells (toArr [.string (bs n)]) 9 (0, 0)), (b, exO (.slice (some ⟨g, 0, none⟩) l.length cap) dv fv e), (g, .cells (toArr (rowsF l sv ++ sp).flatten) 73 (0, 0))] w := hL
  conv => whnf
  repeat ((first | refine zT ?_ | refine zF ?_ | refine zL hX hL ?_ | refine zB hX hL ?_ | (refine zS hX hL ?_; clear hL; intro w hL) | refine zI ?_ | refine zG hX ?_ | refine zO ?_); conv => whnf)
  have hc0 : mcell (m.add b3 (.cells (toArr [.string (bs n)]) 9 (0, 0))) ⟨b3, 0, none⟩ = some (.string (bs n)) := mcell_add rfl
  obtain ⟨m', hL', hm', hsl⟩ := rows_freeze (size := 3) (R := isRw) (l := l) (n := l.length) (cap := cap) (hL.freeze.perm (List.Perm.swap _ _ _)) rfl hcap hmax (rowsS_len hsp) fun i x hx => ⟨_, rowsS_get (List.getElem?_eq_some_iff.1 hx).1, sv i, by
    have : nmM l i = x.1 ∧ txM l i = x.2 := by unfold nmM txM; rw [List.getD_eq_getElem?_getD, hx]; exact ⟨rfl, rfl⟩
    unfold rowF; rw [this.1, this.2]⟩
  refine CallReq.lend (indexL_fn m' _ l (fun x => decide (x.1 = n)) b3 hsl fun p _ cs h => sameName2_fn m' b3 p n cs h (mcell_le hm' hc0)) hL'.sub hL ?_
  clear hL hL'
  intro w hL
  conv => whnf
  repeat ((first | refine zT ?_ | refine zF ?_ | refine zL hX hL ?_ | refine zB hX hL ?_ | (refine zS hX hL ?_; clear hL; intro w hL) | refine zI ?_ | refine zG hX ?_ | refine zO ?_); conv => whnf)
  exact RetReq.mk hL.drop ⟨rfl, rfl, rfl⟩

/-! ### lean -/
def Nz (e : E3) : Prop := e.2.2 = 0 → e = noE
theorem Nz.or {a b : E3} (ha : Nz a) (hb : Nz b) : Nz (orE a b) := by
  intro h
  obtain ⟨h1, h2⟩ := orE_zero.1 h
  unfold orE
  rw [if_neg (fun hn => hn h1)]
  exact hb h2
theorem Nz.mk {a p x : Int} (h : x ≠ 0) : Nz (a, p, x) := fun hh => absurd hh h
theorem Nz.no : Nz noE := fun _ => rfl
theorem chk2_step {l : Ms} {i : Nat} {w : Nat × W} {r : List (Nat × W)} {eq E1 : E3} (hz : Nz eq) (h : orE eq (chkW l i (w :: r)) = E1) :
    (¬ (w.2.kind = 11 ∧ idxM l w.2.name = none) → orE eq (chkW l i r) = E1) ∧ ((w.2.kind = 11 ∧ idxM l w.2.name = none) → orE (orE eq (i, w.1, 5)) (chkW l i r) = E1) := by
  rw [chkW] at h
  constructor
  · intro hc
    rw [if_neg hc, orE_no] at h; exact h
  · intro hc
    rw [if_pos hc] at h
    rw [orE_assoc]; exact h
def onI (l : Ms) (ws : List (Nat × W)) : List Int := (ws.filterMap (onW l)).map fun k : Nat => (k : Int)
theorem onI_snoc (l : Ms) (ws : List (Nat × W)) (w : Nat × W) : onI l (ws ++ [w]) = onI l ws ++ (match onW l w with | some k => [(k : Int)] | none => []) := by
  unfold onI
  rw [List.filterMap_append, List.map_append]
  congr 1
  rw [List.filterMap_cons, List.filterMap_nil]
  cases onW l w <;> rfl
theorem onI_len (l : Ms) (ws : List (Nat × W)) : (onI l ws).length ≤ ws.length := by
  unfold onI; rw [List.length_map]; exact List.length_filterMap_le _ _
theorem libLe' {m m' : Mem} (h : Mem.Le m m') (k : LibMem m) : LibMem m' := by
  refine ⟨k.tab.le h, ?_, ?_⟩
  · obtain ⟨te, p, e⟩ := k.e1; exact ⟨te, p, mcell_le h e⟩
  · obtain ⟨te, p, e⟩ := k.e2; exact ⟨te, p, mcell_le h e⟩
theorem chkW_nz {l : Ms} {i : Nat} : ∀ (ws : List (Nat × W)), Nz (chkW l i ws)
  | [] => Nz.no
  | w :: r => by
    rw [chkW]
    refine Nz.or ?_ (chkW_nz r)
    split
    · exact Nz.mk (by decide)
    · exact Nz.no
theorem chk2_nz (l : Ms) (i : Nat) : Nz (chk2 l i) := by
  unfold chk2
  refine Nz.or ?_ (chkW_nz _)
  split
  · rename_i h; exact Nz.mk h
  · exact Nz.no
/-- A row's cells, with on which it leans. -/
def isLn (m : Mem) (l : Ms) (cs : List Value) (k : Nat) : Prop := ∃ s, cs = [.string (bs (nmM l k)), .string (bs (txM l k)), s] ∧ SlI m .i64 s (onI l (wrM l k))
theorem setV_same {sv : Nat → Value} {i : Nat} {v : Value} (h : sv i = v) : setV sv i v = sv := by
  funext k; unfold setV; split
  · rename_i e; rw [e, h]
  · rfl
theorem setV_set {sv : Nat → Value} {i : Nat} {v v' : Value} : setV (setV sv i v) i v' = setV sv i v' := by
  funext k; unfold setV; split <;> rfl
set_option maxHeartbeats 4000000 in
theorem lean_fn (m : Mem) (hQ : LibMem m) (b : Nat) (l : Ms) (lv dv fv : Value) (e0 : E3) (Lr : Ev.Own) (hz : Nz e0) (hn : l.length ≤ 1000) (ht : ∀ k, k < l.length → (txM l k).length ≤ 1000000) (ho : OwnS 73 3 lv (l.map row0).flatten Lr) :
    Ev.Fn Tryz.prog 13 [.pointer (some ⟨b, 0, none⟩)] m ((b, exO lv dv fv e0) :: Lr) fun m' L' u => u = .tuple (toArr []) ∧ L' = [(b, exO lv dv fv (orE e0 (allE (chk2 l) l.length)))] ∧ Sl m' 3 (isLn m' l) lv (List.range l.length) := by
  have hmx : maxLen = 9223372036854775807 := rfl
  by_cases hl0 : l = []
  · subst hl0
    obtain ⟨A, n, c, rfl, hxl⟩ := ho.slice
    have hn0 : n = 0 := by (simp only [List.map_nil, List.flatten_nil, List.length_nil] at hxl; omega)
    subst hn0
    refine Fn.enter (N := 78) hX Tryz.func13 rfl rfl (by show _ ≤ _; simp) (fun w0 hL => ?_)
    conv => whnf
    generalize keys _ = S0 at hL ⊢
    conv => whnf
    repeat ((first | refine zT ?_ | refine zF ?_ | refine zL hX hL ?_ | refine zB hX hL ?_ | (refine zS hX hL ?_; clear hL; intro w hL) | refine zI ?_ | refine zG hX ?_ | refine zO ?_); conv => whnf)
    refine LoopReq.inv hX (fun j : Nat => [(14, .int .i64 j)]) [0, 13] (fun j w => j = 0 ∧ Ev.Loc m S0 w0 m ((b, exO (.slice A 0 c) dv fv e0) :: Lr) w) (fun j => 0) 0 ⟨rfl, hL⟩ ⟨rfl, trivial⟩ ?_
    clear hL
    rintro j w f ⟨rfl, hL⟩
    conv => whnf
    repeat ((first | refine BrReq.no (by simp) ?_ | refine zT ?_ | refine zF ?_ | refine zL hX hL ?_ | refine zB hX hL ?_ | (refine zS hX hL ?_; clear hL; intro w hL) | refine zI ?_ | refine zG hX ?_ | refine zO ?_); conv => whnf)
    have hL := Loc.back (L1 := [_]) (L2 := Lr) hL
    obtain ⟨m', A', c', e, hL', hm', hsl, -⟩ := OwnS.freezeRows (R := fun cs k => False) (l := ([] : List Nat)) (rows := []) (by omega) ho hL (by simp) rfl (by simp)
    refine RetReq.mk hL' ⟨rfl, ?_, hsl.le (Mem.Le.refl _) fun _ x hx => by cases hx⟩
    rw [show (allE (chk2 []) ([] : Ms).length) = noE from rfl, orE_noE hz]
  have hne : l.map row0 ≠ [] := by simpa using hl0
  obtain ⟨g, cap, sp, rfl, rfl, hcap, hmax, hsp⟩ := OwnS.rows ho (by omega) (row0_len l) hne
  rw [List.length_map] at hcap ⊢
  rw [rows0_eq]
  clear ho hne
  refine Fn.enter (N := 78) hX Tryz.func13 rfl rfl (by show _ ≤ _; simp) (fun w0 hL => ?_)
  conv => whnf
  generalize keys _ = S0 at hL ⊢
  conv => whnf
  repeat ((first | refine zT ?_ | refine zF ?_ | refine zL hX hL ?_ | refine zB hX hL ?_ | (refine zS hX hL ?_; clear hL; intro w hL) | refine zI ?_ | refine zG hX ?_ | refine zO ?_); conv => whnf)
  refine LoopReq.inv hX (fun j : Nat => [(14, .int .i64 j)]) [0, 13]
    (fun i w => i ≤ l.length ∧ ∃ m1 sv, Mem.Le m m1 ∧ (∀ k, k < i → SlI m1 .i64 (sv k) (onI l (wrM l k))) ∧ (∀ k, i ≤ k → sv k = .slice none 0 0) ∧
      Ev.Loc m S0 w0 m1 [(b, exO (.slice (some ⟨g, 0, none⟩) l.length cap) dv fv (orE e0 (allE (chk2 l) i))), (g, .cells (toArr (rowsF l sv ++ sp).flatten) 73 (0, 0))] w) (fun i => l.length - i) 0
    ⟨Nat.zero_le _, m, _, Mem.Le.refl m, fun k hk => by omega, fun k _ => rfl, by rw [show (allE (chk2 l) 0) = noE from rfl, orE_noE hz]; exact hL⟩ ⟨rfl, trivial⟩ ?_
  clear hL
  rintro i w f ⟨hi, m1, sv, hm1, hdone, hrest, hL⟩
  conv => whnf
  repeat ((first | refine zT ?_ | refine zF ?_ | refine zL hX hL ?_ | refine zB hX hL ?_ | (refine zS hX hL ?_; clear hL; intro w hL) | refine zI ?_ | refine zG hX ?_ | refine zO ?_); conv => whnf)
  refine BrReq.dec (fun hlt => ?_) (fun hlt => ?_)
  · have hi1 : i < l.length := by omega
    have hw := Words_fn m1 (libLe' hm1 hQ) (txM l i) (ht i hi1)
    obtain ⟨hok, hlen⟩ := out_ok (txM l i)
    have hws : wrM l i = (outT (txM l i)).1 := rfl
    have hall : orE e0 (allE (chk2 l) (i + 1)) = orE (orE e0 (allE (chk2 l) i)) (chk2 l i) := by rw [allE, orE_assoc]
    have hei : Nz (orE e0 (allE (chk2 l) i)) := hz.or (allE_no (fun k => chk2_nz l k) i)
    have hc2 : chk2 l i = orE (if (outT (txM l i)).2.2 ≠ 0 then ((i : Int), (outT (txM l i)).2.1, (outT (txM l i)).2.2) else noE) (chkW l i (outT (txM l i)).1) := rfl
    generalize orE e0 (allE (chk2 l) i) = ei at *
    conv => whnf
    repeat ((first | refine Idx2Req.mk i _ rfl (by omega) rfl ?_ | refine LdReq.row hX rfl rfl 1 hL rfl (rowsS_len hsp) (rowsS_get hi1) (j := 1) rfl ?_ | refine zT ?_ | refine zF ?_ | refine zL hX hL ?_ | refine zB hX hL ?_ | (refine zS hX hL ?_; clear hL; intro w hL) | refine zI ?_ | refine zG hX ?_ | refine zO ?_); conv => whnf)
    refine CallReq.pure hw hL ?_
    clear hL
    rintro u m2 w hL hm12 ⟨sl, rfl, hsl⟩
    generalize hO : outT (txM l i) = O at *
    obtain ⟨A1, n1, c1, rfl, hn1, hcc1, hx1, -⟩ := id hsl
    have hsi : sv i = .slice none 0 0 := hrest i (Nat.le_refl _)
    have hei2 : Nz (orE ei (if O.2.2 ≠ 0 then ((i : Int), O.2.1, O.2.2) else noE)) := hei.or (by
      split
      · rename_i h; exact Nz.mk h
      · exact Nz.no)
    have hE : orE (orE ei (if O.2.2 ≠ 0 then ((i : Int), O.2.1, O.2.2) else noE)) (chkW l i O.1) = orE ei (chk2 l i) := by rw [hc2, orE_assoc]
    conv => whnf
    repeat ((first | refine zT ?_ | refine zF ?_ | refine zL hX hL ?_ | refine zB hX hL ?_ | (refine zS hX hL ?_; clear hL; intro w hL) | refine zI ?_ | refine zO ?_); conv => whnf)
    refine SeqReq.cut hX (fun _ : Unit => []) [0, 2, 3, 13, 14] (fun _ w => Ev.Loc m S0 w0 m2 [(b, exO (.slice (some ⟨g, 0, none⟩) l.length cap) dv fv (orE ei (if O.2.2 ≠ 0 then ((i : Int), O.2.1, O.2.2) else noE))), (g, .cells (toArr (rowsF l sv ++ sp).flatten) 73 (0, 0))] w) ?_ ?_
    · by_cases he : O.2.2 = 0
      · rw [if_neg (fun h => h he), orE_noE hei]
        conv => whnf
        repeat ((first | refine BrReq.no (fun h => h he) ?_ | refine zT ?_ | refine zF ?_ | refine zL hX hL ?_ | refine zB hX hL ?_ | (refine zS hX hL ?_; clear hL; intro w hL) | refine zI ?_ | refine zG hX ?_ | refine zO ?_); conv => whnf)
        refine ⟨(), hL, ?_, ?_⟩
        · repeat (first | exact trivial | (refine And.intro (by (conv => lhs; whnf) <;> (conv => rhs; whnf) <;> (first | rfl)) ?_))
        · repeat (first | exact trivial | (refine And.intro (by (conv => lhs; whnf) <;> (conv => rhs; whnf) <;> (first | rfl)) ?_))
      · rw [if_pos he]
        conv => whnf
        repeat ((first | refine BrReq.yes (fun h => he h) ?_ | refine zT ?_ | refine zF ?_ | refine zL hX hL ?_ | refine zB hX hL ?_ | (refine zS hX hL ?_; clear hL; intro w hL) | refine zI ?_ | refine zG hX ?_ | refine zO ?_); conv => whnf)
        refine CallReq.sc (xfail_fn m2 b (.slice (some ⟨g, 0, none⟩) l.length cap) dv fv ei i O.2.1 O.2.2) hL ?_
        clear hL
        intro w hL
        conv => whnf
        repeat ((first | refine zT ?_ | refine zF ?_ | refine zL hX hL ?_ | refine zB hX hL ?_ | (refine zS hX hL ?_; clear hL; intro w hL) | refine zI ?_ | refine zG hX ?_ | refine zO ?_); conv => whnf)
        refine ⟨(), hL, ?_, ?_⟩
        · repeat (first | exact trivial | (refine And.intro (by (conv => lhs; whnf) <;> (conv => rhs; whnf) <;> (first | rfl)) ?_))
        · repeat (first | exact trivial | (refine And.intro (by (conv => lhs; whnf) <;> (conv => rhs; whnf) <;> (first | rfl)) ?_))
    clear hL
    rintro _ w f hL
    simp only
    generalize orE ei (if O.2.2 ≠ 0 then ((i : Int), O.2.1, O.2.2) else noE) = e2 at *
    generalize orE ei (chk2 l i) = E1 at *
    conv => whnf
    repeat ((first | refine zT ?_ | refine zF ?_ | refine zL hX hL ?_ | refine zB hX hL ?_ | (refine zS hX hL ?_; clear hL; intro w hL) | refine zI ?_ | refine zG hX ?_ | refine zO ?_); conv => whnf)
    refine LoopReq.inv hX (fun s : Nat × Option Addr × Nat × Nat => [(40, .int .i64 s.1)]) [0, 2, 13, 14, 38, 39]
      (fun s w => s.1 ≤ O.1.length ∧ ∃ eq Lo, Nz eq ∧ orE eq (chkW l i (O.1.drop s.1)) = E1 ∧ OwnS 3 1 (.slice s.2.1 s.2.2.1 s.2.2.2) (ints .i64 (onI l (O.1.take s.1))) Lo ∧
        Ev.Loc m S0 w0 m2 ((b, exO (.slice (some ⟨g, 0, none⟩) l.length cap) dv fv eq) :: (g, .cells (toArr (rowsF l (setV sv i (.slice s.2.1 s.2.2.1 s.2.2.2)) ++ sp).flatten) 73 (0, 0)) :: Lo) w) (fun s => O.1.length - s.1) (0, none, 0, 0)
      ⟨Nat.zero_le _, e2, [], hei2, hE, OwnS.nil _ _, by rw [setV_same hsi]; exact hL⟩ ⟨rfl, trivial⟩ ?_
    clear hL
    rintro ⟨q, Aq, nq, cq⟩ w f2 ⟨hq, eq, Lo, hzq, hEq, hoq, hL⟩
    simp only at hq hEq hoq hL
    conv => whnf
    repeat ((first | refine zT ?_ | refine zF ?_ | refine zL hX hL ?_ | refine zB hX hL ?_ | (refine zS hX hL ?_; clear hL; intro w hL) | refine zI ?_ | refine zG hX ?_ | refine zO ?_); conv => whnf)
    refine BrReq.dec (fun hltq => ?_) (fun hltq => ?_)
    · have hq1 : q < O.1.length := by simp only at hltq; omega
      obtain ⟨a, cs, ea, hl9, hcl, hx⟩ := hsl.elem q _ (List.getElem?_eq_getElem hq1)
      have hdr : O.1.drop q = O.1[q] :: O.1.drop (q + 1) := List.drop_eq_getElem_cons hq1
      have htk : O.1.take (q + 1) = O.1.take q ++ [O.1[q]] := by rw [List.take_add_one, List.getElem?_eq_getElem hq1]; rfl
      rw [hdr] at hEq
      obtain ⟨hs1, hs2⟩ := chk2_step hzq hEq
      have hon := onI_snoc l (O.1.take q) O.1[q]
      rw [← htk] at hon
      generalize O.1[q] = x at *
      unfold isW at hx
      subst hx
      conv => whnf
      repeat ((first | refine Idx2Req.mk q a rfl (by omega) ea ?_ | refine LdReq.agg hX rfl rfl hL rfl hcl ?_ | refine zT ?_ | refine zF ?_ | refine zL hX hL ?_ | refine zB hX hL ?_ | (refine zS hX hL ?_; clear hL; intro w hL) | refine zI ?_ | refine zG hX ?_ | refine zO ?_); conv => whnf)
      refine NewReq.mk hL ?_
      clear hL
      intro b7 w hL
      conv => whnf
      replace hL : Ev.Loc m S0 w0 m2 ((b7, .cells (toArr (wC 0 (wK 0))) 57 (0, 0)) :: ([(b, exO (.slice (some ⟨g, 0, none⟩) l.length cap) dv fv eq), (g, .cells (toArr (rowsF l (setV sv i (.slice Aq nq cq)) ++ sp).flatten) 73 (0, 0))] ++ Lo)) w := hL
      have hL := hL.mid
      replace hL : Ev.Loc m S0 w0 m2 ((b, exO (.slice (some ⟨g, 0, none⟩) l.length cap) dv fv eq) :: (g, .cells (toArr (rowsF l (setV sv i (.slice Aq nq cq)) ++ sp).flatten) 73 (0, 0)) :: (b7, .cells (toArr (wC 0 (wK 0))) 57 (0, 0)) :: Lo) w := hL
      by_cases hk : x.2.kind = 11
      rotate_left
      · have hon0 : onW l x = none := by unfold onW; rw [if_neg hk]
        rw [hon0, List.append_nil] at hon
        conv => whnf
        repeat ((first | refine BrReq.yes hk ?_ | refine zT ?_ | refine zF ?_ | refine zL hX hL ?_ | refine zB hX hL ?_ | (refine zS hX hL ?_; clear hL; intro w hL) | refine zI ?_ | refine zG hX ?_ | refine zO ?_); conv => whnf)
        refine ⟨(q + 1, Aq, nq, cq), ⟨by simp only; omega, eq, Lo, hzq, hs1 (fun h => hk h.1), by simp only; rw [hon]; exact hoq, hL.sublist (.cons_cons _ (.cons_cons _ (.cons _ (List.Sublist.refl _))))⟩, by first | omega | (simp only; omega) | (simp only [List.length_cons, List.length_append]; omega), ?_, ?_⟩
        · repeat (first | exact trivial | (refine And.intro (by (conv => lhs; whnf) <;> (conv => rhs; whnf) <;> (first | rfl)) ?_))
        · repeat (first | exact trivial | (refine And.intro (by (conv => lhs; whnf) <;> (conv => rhs; whnf) <;> (first | rfl)) ?_))
      · conv => whnf
        repeat ((first | refine BrReq.no (fun h => h hk) ?_ | refine zT ?_ | refine zF ?_ | refine zL hX hL ?_ | refine zB hX hL ?_ | (refine zS hX hL ?_; clear hL; intro w hL) | refine zI ?_ | refine zG hX ?_ | refine zO ?_); conv => whnf)
        have hfi := idxI_eq l x.2.name
        refine CallReq.li (L1 := [_, _]) (find_fn m2 b g cap l (setV sv i (.slice Aq nq cq)) sp hsp hcap hmax dv fv eq x.2.name) hL ?_
        clear hL
        intro w hL
        cases hxi : idxM l x.2.name with
        | none =>
          rw [hxi] at hfi
          simp only at hfi
          have hon0 : onW l x = none := by unfold onW; rw [if_pos hk, hxi]
          rw [hon0, List.append_nil] at hon
          rw [hfi]
          conv => whnf
          repeat ((first | refine BrReq.yes (by omega) ?_ | refine zT ?_ | refine zF ?_ | refine zL hX hL ?_ | refine zB hX hL ?_ | (refine zS hX hL ?_; clear hL; intro w hL) | refine zI ?_ | refine zG hX ?_ | refine zO ?_); conv => whnf)
          refine CallReq.sc (xfail_fn m2 b (.slice (some ⟨g, 0, none⟩) l.length cap) dv fv eq i x.1 5) hL ?_
          clear hL
          intro w hL
          conv => whnf
          repeat ((first | refine zT ?_ | refine zF ?_ | refine zL hX hL ?_ | refine zB hX hL ?_ | (refine zS hX hL ?_; clear hL; intro w hL) | refine zI ?_ | refine zG hX ?_ | refine zO ?_); conv => whnf)
          refine ⟨(q + 1, Aq, nq, cq), ⟨by simp only; omega, orE eq (i, x.1, 5), Lo, hzq.or (Nz.mk (by decide)), hs2 ⟨hk, hxi⟩, by simp only; rw [hon]; exact hoq, hL.sublist (.cons_cons _ (.cons_cons _ (.cons _ (List.Sublist.refl _))))⟩, by first | omega | (simp only; omega) | (simp only [List.length_cons, List.length_append]; omega), ?_, ?_⟩
          · repeat (first | exact trivial | (refine And.intro (by (conv => lhs; whnf) <;> (conv => rhs; whnf) <;> (first | rfl)) ?_))
          · repeat (first | exact trivial | (refine And.intro (by (conv => lhs; whnf) <;> (conv => rhs; whnf) <;> (first | rfl)) ?_))
        | some k =>
          rw [hxi] at hfi
          simp only at hfi
          have hon0 : onW l x = some k := by unfold onW; rw [if_pos hk, hxi]
          rw [hon0] at hon
          simp only at hon
          rw [hfi]
          have hkl := (idxM_some hxi).1
          have hbnd : (onI l (O.1.take q)).length ≤ 10000 := Nat.le_trans (onI_len l (O.1.take q)) (by rw [List.length_take]; exact Nat.le_trans (Nat.min_le_right _ _) hlen)
          have hbnd2 : (ints .i64 (onI l (O.1.take q))).length ≤ 10000 := by unfold ints; rw [List.length_map]; exact hbnd
          have hsvi : setV sv i (.slice Aq nq cq) i = .slice Aq nq cq := by unfold setV; rw [if_pos rfl]
          have hget : (rowF l (setV sv i (.slice Aq nq cq)) i)[2]? = some (.slice Aq nq cq) := by unfold rowF; rw [hsvi]; rfl
          conv => whnf
          repeat ((first | refine BrReq.no (by omega) ?_ | refine zT ?_ | refine zF ?_ | refine zL hX hL ?_ | refine zB hX hL ?_ | (refine zS hX hL ?_; clear hL; intro w hL) | refine zI ?_ | refine zG hX ?_ | refine zO ?_); conv => whnf)
          refine DrawReq.plan hX (.fst 0 (.fst 1 (.fst 2 (.fst 3 (.fst 4 (.fst 5 (.fst 6 (.fst 7 (.fst 8 (.fst 9 (.fst 10 (.fst 11 (.fst 13 (.alt 12 (.alt 14 (.alt 15 (.fst 16 (.fst 17 (.alt 18 (.done) (.stop)))) (.stop)) (.stop)) (.alt 14 (.alt 12 (.alt 15 (.fst 16 (.fst 17 (.alt 18 (.done) (.stop)))) (.stop)) (.stop)) (.stop)))))))))))))))) [(b, exO (.slice (some ⟨g, 0, none⟩) l.length cap) dv fv eq)] (by kernel_rfl) (by kernel_rfl) hL (fun h => h.one 0 rfl) ?_
          clear hL
          intro w hL
          conv => whnf
          repeat ((first | refine Idx2Req.mk i _ rfl (by omega) rfl ?_ | refine zQ hX ?_ | refine zR hX ?_ | refine zA ?_ | refine zT ?_ | refine zF ?_ | refine zL hX hL ?_ | refine zB hX hL ?_ | (refine zS hX hL ?_; clear hL; intro w hL) | refine zI ?_ | refine zG hX ?_ | refine zO ?_); conv => whnf)
          refine alt2 ?_ ?_
          · conv => whnf
            repeat ((first | refine zQ hX ?_ | refine zR hX ?_ | refine zA ?_ | refine zT ?_ | refine zF ?_ | refine zL hX hL ?_ | refine zB hX hL ?_ | (refine zS hX hL ?_; clear hL; intro w hL) | refine zI ?_ | refine zG hX ?_ | refine zO ?_); conv => whnf)
            refine LdReq.row hX rfl rfl 1 hL rfl (rowsS_len hsp) (rowsS_get hi1) (j := 2) hget ?_
            conv => whnf
            refine SReq.mk (hL.one 0 rfl) ?_
            conv => whnf
            repeat ((first | refine zQ hX ?_ | refine zR hX ?_ | refine zA ?_ | refine zT ?_ | refine zF ?_ | refine zL hX hL ?_ | refine zB hX hL ?_ | (refine zS hX hL ?_; clear hL; intro w hL) | refine zI ?_ | refine zG hX ?_ | refine zO ?_); conv => whnf)
            refine NewReq.mk hL ?_
            clear hL
            intro gn w hL
            conv => whnf
            refine SReq.mk (hL.one 1 rfl) ?_
            conv => whnf
            repeat ((first | refine zQ hX ?_ | refine zR hX ?_ | refine zA ?_ | refine zT ?_ | refine zF ?_ | refine zL hX hL ?_ | refine zB hX hL ?_ | (refine zS hX hL ?_; clear hL; intro w hL) | refine zI ?_ | refine zG hX ?_ | refine zO ?_); conv => whnf)
            refine RunReq.push hX 71 3 rfl rfl rfl rfl rfl hoq (L2 := [_, _, _]) (hL.perm (List.Perm.cons _ (List.perm_append_comm (l₁ := [_, _, _]) (l₂ := Lo)))) rfl rfl (Nat.le_trans (Nat.add_le_add_right hbnd2 1) (by decide)) rfl ?_
            clear hL
            intro A2 n2 c2 L2 w hn2 ho2 hL
            have hL := hL.back
            replace hL : Ev.Loc m S0 w0 m2 ((b, exO (.slice (some ⟨g, 0, none⟩) l.length cap) dv fv eq) :: (g, .cells (toArr (rowsF l (setV sv i (.slice Aq nq cq)) ++ sp).flatten) 73 (0, 0)) :: (b7, .cells (toArr (wC x.1 x.2)) 57 (0, 0)) :: L2) w := hL
            refine SReq.mk (hL.one 0 rfl) ?_
            conv => whnf
            repeat ((first | refine Idx2Req.mk i _ rfl (by omega) rfl ?_ | refine zQ hX ?_ | refine zR hX ?_ | refine zA ?_ | refine zT ?_ | refine zF ?_ | refine zL hX hL ?_ | refine zB hX hL ?_ | (refine zS hX hL ?_; clear hL; intro w hL) | refine zI ?_ | refine zG hX ?_ | refine zO ?_); conv => whnf)
            refine StReq.row hX rfl 1 hL rfl (rowsS_len hsp) (rowsS_get hi1) (show 2 < 3 by decide) rfl rfl rfl ?_
            clear hL
            intro w hL
            rw [rowsF_set hi1, setV_set] at hL
            conv => whnf
            refine SReq.mk (hL.one 0 rfl) ?_
            conv => whnf
            repeat ((first | refine zQ hX ?_ | refine zR hX ?_ | refine zA ?_ | refine zT ?_ | refine zF ?_ | refine zL hX hL ?_ | refine zB hX hL ?_ | (refine zS hX hL ?_; clear hL; intro w hL) | refine zI ?_ | refine zG hX ?_ | refine zO ?_); conv => whnf)
            have ho3 : OwnS 3 1 (.slice A2 n2 c2) (ints .i64 (onI l (O.1.take (q + 1)))) L2 := by rw [hon, ints_append]; exact ho2
            refine ⟨(q + 1, A2, n2, c2), ⟨by simp only; omega, eq, L2, hzq, hs1 (fun h => by rw [hxi] at h; cases h.2), ho3, hL.sublist (.cons_cons _ (.cons_cons _ (.cons _ (List.Sublist.refl _))))⟩, by first | omega | (simp only; omega) | (simp only [List.length_cons, List.length_append]; omega), ?_, ?_⟩
            · repeat (first | exact trivial | (refine And.intro (by (conv => lhs; whnf) <;> (conv => rhs; whnf) <;> (first | rfl)) ?_))
            · repeat (first | exact trivial | (refine And.intro (by (conv => lhs; whnf) <;> (conv => rhs; whnf) <;> (first | rfl)) ?_))
          · conv => whnf
            repeat ((first | refine zQ hX ?_ | refine zR hX ?_ | refine zA ?_ | refine zT ?_ | refine zF ?_ | refine zL hX hL ?_ | refine zB hX hL ?_ | (refine zS hX hL ?_; clear hL; intro w hL) | refine zI ?_ | refine zG hX ?_ | refine zO ?_); conv => whnf)
            refine NewReq.mk hL ?_
            clear hL
            intro gn w hL
            conv => whnf
            refine SReq.mk (hL.one 1 rfl) ?_
            conv => whnf
            repeat ((first | refine zQ hX ?_ | refine zR hX ?_ | refine zA ?_ | refine zT ?_ | refine zF ?_ | refine zL hX hL ?_ | refine zB hX hL ?_ | (refine zS hX hL ?_; clear hL; intro w hL) | refine zI ?_ | refine zG hX ?_ | refine zO ?_); conv => whnf)
            refine LdReq.row hX rfl rfl 2 hL rfl (rowsS_len hsp) (rowsS_get hi1) (j := 2) hget ?_
            conv => whnf
            refine SReq.mk (hL.one 1 rfl) ?_
            conv => whnf
            repeat ((first | refine zQ hX ?_ | refine zR hX ?_ | refine zA ?_ | refine zT ?_ | refine zF ?_ | refine zL hX hL ?_ | refine zB hX hL ?_ | (refine zS hX hL ?_; clear hL; intro w hL) | refine zI ?_ | refine zG hX ?_ | refine zO ?_); conv => whnf)
            refine RunReq.push hX 71 3 rfl rfl rfl rfl rfl hoq (L2 := [_, _, _]) (hL.perm (List.Perm.cons _ (List.perm_append_comm (l₁ := [_, _, _]) (l₂ := Lo)))) rfl rfl (Nat.le_trans (Nat.add_le_add_right hbnd2 1) (by decide)) rfl ?_
            clear hL
            intro A2 n2 c2 L2 w hn2 ho2 hL
            have hL := hL.back
            replace hL : Ev.Loc m S0 w0 m2 ((b, exO (.slice (some ⟨g, 0, none⟩) l.length cap) dv fv eq) :: (g, .cells (toArr (rowsF l (setV sv i (.slice Aq nq cq)) ++ sp).flatten) 73 (0, 0)) :: (b7, .cells (toArr (wC x.1 x.2)) 57 (0, 0)) :: L2) w := hL
            refine SReq.mk (hL.one 0 rfl) ?_
            conv => whnf
            repeat ((first | refine Idx2Req.mk i _ rfl (by omega) rfl ?_ | refine zQ hX ?_ | refine zR hX ?_ | refine zA ?_ | refine zT ?_ | refine zF ?_ | refine zL hX hL ?_ | refine zB hX hL ?_ | (refine zS hX hL ?_; clear hL; intro w hL) | refine zI ?_ | refine zG hX ?_ | refine zO ?_); conv => whnf)
            refine StReq.row hX rfl 1 hL rfl (rowsS_len hsp) (rowsS_get hi1) (show 2 < 3 by decide) rfl rfl rfl ?_
            clear hL
            intro w hL
            rw [rowsF_set hi1, setV_set] at hL
            conv => whnf
            refine SReq.mk (hL.one 0 rfl) ?_
            conv => whnf
            repeat ((first | refine zQ hX ?_ | refine zR hX ?_ | refine zA ?_ | refine zT ?_ | refine zF ?_ | refine zL hX hL ?_ | refine zB hX hL ?_ | (refine zS hX hL ?_; clear hL; intro w hL) | refine zI ?_ | refine zG hX ?_ | refine zO ?_); conv => whnf)
            have ho3 : OwnS 3 1 (.slice A2 n2 c2) (ints .i64 (onI l (O.1.take (q + 1)))) L2 := by rw [hon, ints_append]; exact ho2
            refine ⟨(q + 1, A2, n2, c2), ⟨by simp only; omega, eq, L2, hzq, hs1 (fun h => by rw [hxi] at h; cases h.2), ho3, hL.sublist (.cons_cons _ (.cons_cons _ (.cons _ (List.Sublist.refl _))))⟩, by first | omega | (simp only; omega) | (simp only [List.length_cons, List.length_append]; omega), ?_, ?_⟩
            · repeat (first | exact trivial | (refine And.intro (by (conv => lhs; whnf) <;> (conv => rhs; whnf) <;> (first | rfl)) ?_))
            · repeat (first | exact trivial | (refine And.intro (by (conv => lhs; whnf) <;> (conv => rhs; whnf) <;> (first | rfl)) ?_))
    · have eqj : q = O.1.length := by simp only at hltq; omega
      subst eqj
      rw [List.drop_length, chkW, orE_noE hzq] at hEq
      rw [List.take_length] at hoq
      obtain ⟨m3, hL3, hm3, hs3⟩ := OwnS.freeze (L2 := [_, _]) hoq (Loc.back (L1 := [_, _]) hL)
      clear hL
      have hL := hL3
      clear hL3
      subst hEq
      conv => whnf
      repeat ((first | refine zT ?_ | refine zF ?_ | refine zL hX hL ?_ | refine zB hX hL ?_ | (refine zS hX hL ?_; clear hL; intro w hL) | refine zI ?_ | refine zG hX ?_ | refine zO ?_); conv => whnf)
      have a1 : ∀ k, k < i + 1 → SlI m3 .i64 (setV sv i (.slice Aq nq cq) k) (onI l (wrM l k)) := fun k hk2 => by
        unfold setV
        split
        · rename_i e; subst e; rw [hws]; exact hs3
        · exact (hdone k (by omega)).le' (hm12.trans hm3)
      have a2 : ∀ k, i + 1 ≤ k → setV sv i (.slice Aq nq cq) k = .slice none 0 0 := fun k hk2 => by
        unfold setV
        rw [if_neg (by omega)]
        exact hrest k (by omega)
      refine ⟨i + 1, ⟨by omega, m3, setV sv i (.slice Aq nq cq), (hm1.trans hm12).trans hm3, a1, a2, by rw [hall]; exact hL⟩, by first | omega | (simp only; omega) | (simp only [List.length_cons, List.length_append]; omega), ?_, ?_⟩
      · repeat (first | exact trivial | (refine And.intro (by (conv => lhs; whnf) <;> (conv => rhs; whnf) <;> (first | rfl)) ?_))
      · repeat (first | exact trivial | (refine And.intro (by (conv => lhs; whnf) <;> (conv => rhs; whnf) <;> (first | rfl)) ?_))
  · have ei : i = l.length := by omega
    subst ei
    conv => whnf
    repeat ((first | refine zT ?_ | refine zF ?_ | refine zL hX hL ?_ | refine zB hX hL ?_ | (refine zS hX hL ?_; clear hL; intro w hL) | refine zI ?_ | refine zG hX ?_ | refine zO ?_); conv => whnf)
    obtain ⟨m3, hL3, hm3, hsl⟩ := rows_freeze (size := 3) (R := isLn m1 l) (l := List.range l.length) (n := l.length) (cap := cap) (hL.perm (List.Perm.swap _ _ _)) (by simp) hcap hmax (rowsS_len hsp) fun k x hx => by
      have hk : k < l.length := by have := (List.getElem?_eq_some_iff.1 hx).1; simpa using this
      rw [List.getElem?_range hk] at hx
      cases hx
      exact ⟨_, rowsS_get hk, sv k, rfl, hdone k hk⟩
    exact RetReq.mk hL3 ⟨rfl, rfl, hsl.le (Mem.Le.refl _) fun cs k _ ⟨s, h1, h2⟩ => ⟨s, h1, h2.le' hm3⟩⟩
end Go.Proofs.YtemdkfohlppckaaGreatDoor.ma
