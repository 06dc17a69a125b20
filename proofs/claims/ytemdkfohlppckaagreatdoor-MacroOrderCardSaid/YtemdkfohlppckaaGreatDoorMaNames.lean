/- Macros: the expander's fail, names, find, walked. Conditions: none. -/
import Derived.Test.YtemdkfohlppckaaGreatDoorMaSpec
import Derived.Test.YtemdkfohlppckaaGreatDoorMaLend
import Derived.Test.YtemdkfohlppckaaGreatDoorLxBrace

namespace Go.Proofs.YtemdkfohlppckaaGreatDoor.ma
open Go Go.Ev Go.Proofs Go.Proofs.YtemdkfohlppckaaGreatDoor.lx Go.Proofs.YtemdkfohlppckaaGreatDoor.tree Go.Proofs.YtemdkfohlppckaaGreatDoor.pa

/-- The first one of which the test is true; -1: none. -/
def idxG {α : Type} (f : α → Bool) : List α → Int
  | [] => -1
  | p :: l => if f p = true then 0 else if idxG f l < 0 then -1 else idxG f l + 1
theorem idxG_at {α : Type} {f : α → Bool} : ∀ (l : List α) (i : Nat) (x : α), l[i]? = some x → f x = true → (∀ (q : Nat) (y : α), q < i → l[q]? = some y → f y = false) → idxG f l = i := by
  intro l
  induction l with
  | nil => intro i x h; simp at h
  | cons p l ih =>
    intro i x h hx hq
    cases i with
    | zero => simp at h; subst h; simp only [idxG]; rw [if_pos hx]; rfl
    | succ i =>
      have h0 := hq 0 p (by omega) rfl
      simp only [idxG]
      rw [if_neg (by rw [h0]; simp), ih i x (by simpa using h) hx fun q y hlt hy => hq (q + 1) y (by omega) (by simpa using hy), if_neg (by omega)]
      omega
theorem idxG_none {α : Type} {f : α → Bool} : ∀ (l : List α), (∀ x ∈ l, f x = false) → idxG f l = -1 := by
  intro l
  induction l with
  | nil => intro _; rfl
  | cons p l ih =>
    intro h
    simp only [idxG]
    rw [if_neg (by rw [h p (by simp)]; simp), ih fun x hx => h x (by simp [hx]), if_pos (by omega)]
theorem idxG_neg {α : Type} {f : α → Bool} : ∀ (l : List α), 0 ≤ idxG f l ↔ l.any f = true := by
  intro l
  induction l with
  | nil => simp [idxG]
  | cons p l ih =>
    simp only [idxG, List.any_cons, Bool.or_eq_true]
    by_cases h : f p = true
    · rw [if_pos h]; exact ⟨fun _ => .inl h, fun _ => by omega⟩
    · rw [if_neg h]
      by_cases h2 : idxG f l < 0
      · rw [if_pos h2]; exact ⟨fun h' => absurd h' (by omega), fun h' => h'.elim (fun h3 => absurd h3 h) fun h3 => absurd (ih.2 h3) (by omega)⟩
      · rw [if_neg h2]; exact ⟨fun _ => .inr (ih.1 (by omega)), fun _ => by omega⟩

theorem indexM_fn {α : Type} {R : List Value → α → Prop} (m : Mem) (v : Value) (rs : List α) (f : α → Bool)(b0 : Nat) (hs : Sl m 2 R v rs) (hf : ∀ p ∈ rs, ∀ cs, R cs p → FnV Tryz.prog 31 ([.agg (toArr cs)] ++ [.pointer (some ⟨b0, 0, none⟩)]) m (.bool (f p))) :
    FnV Tryz.prog 50 [v, .func (.func 31) #[] #[.pointer (some ⟨b0, 0, none⟩)]] m (.int .i64 (idxG f rs)) := by
  have hs' := hs
  obtain ⟨A, n, c, rfl, hn, hc, hm, -⟩ := hs
  have he := hs'.elem
  have hmx : maxLen = 9223372036854775807 := rfl
  refine Fn.enter (N := 19) hX Tryz.func50 rfl rfl (by show _ ≤ _; simp) (fun w0 hL => ?_)
  conv => whnf
  conv => whnf
  repeat ((first | refine zT ?_ | refine zF ?_ | refine zL hX hL ?_ | refine zB hX hL ?_ | (refine zS hX hL ?_; clear hL; intro w hL) | refine zI ?_ | refine zG hX ?_ | refine zO ?_); conv => whnf)
  refine LoopReq.inv hX (fun j : Nat => [(8, .int .i64 j)]) [0, 1, 7]
    (fun j w => (j ≤ n ∧ ∀ (i : Nat) (x : α), i < j → rs[i]? = some x → f x = false) ∧ Ev.Loc m [] w0 m [] w) (fun j => n - j) 0
    ⟨⟨by omega, fun i x h => absurd h (by omega)⟩, hL⟩ ⟨rfl, trivial⟩ ?_
  clear hL
  rintro j w g ⟨⟨hj, hdone⟩, hL⟩
  conv => whnf
  repeat ((first | refine zT ?_ | refine zF ?_ | refine zL hX hL ?_ | refine zB hX hL ?_ | (refine zS hX hL ?_; clear hL; intro w hL) | refine zI ?_ | refine zG hX ?_ | refine zO ?_); conv => whnf)
  refine BrReq.dec (fun hlt => ?_) (fun hlt => ?_)
  · have hlt' : j < rs.length := by omega
    obtain ⟨a, cs', rfl, hl9, hcells, hrep⟩ := he j _ (List.getElem?_eq_getElem hlt')
    conv => whnf
    repeat ((first | refine Idx2Req.mk j a rfl (by omega) rfl ?_ | refine LdReq.agg hX rfl rfl hL hl9 hcells ?_ | refine zT ?_ | refine zF ?_ | refine zL hX hL ?_ | refine zB hX hL ?_ | (refine zS hX hL ?_; clear hL; intro w hL) | refine zI ?_ | refine zG hX ?_ | refine zO ?_); conv => whnf)
    refine CallReq.val (hf _ (List.getElem_mem hlt') _ hrep) hL ?_
    clear hL
    intro w hL
    conv => whnf
    repeat ((first | refine zT ?_ | refine zF ?_ | refine zL hX hL ?_ | refine zB hX hL ?_ | (refine zS hX hL ?_; clear hL; intro w hL) | refine zI ?_ | refine zG hX ?_ | refine zO ?_); conv => whnf)
    refine BrReq.bool (fun hb => ?_) (fun hb => ?_)
    · have e := idxG_at (f := f) rs j _ (List.getElem?_eq_getElem hlt') hb fun q y h1 h2 => hdone q y h1 h2
      conv => whnf
      repeat ((first | refine zT ?_ | refine zF ?_ | refine zL hX hL ?_ | refine zB hX hL ?_ | (refine zS hX hL ?_; clear hL; intro w hL) | refine zI ?_ | refine zG hX ?_ | refine zO ?_); conv => whnf)
      exact RetReq.int hL e.symm
    · have hd : ∀ (i : Nat) (x : α), i < j + 1 → rs[i]? = some x → f x = false := by
        intro i x hi hx
        by_cases e : i = j
        · subst e
          rw [List.getElem?_eq_getElem hlt'] at hx
          cases hx; exact hb
        · exact hdone i x (by omega) hx
      conv => whnf
      repeat ((first | refine zT ?_ | refine zF ?_ | refine zL hX hL ?_ | refine zB hX hL ?_ | (refine zS hX hL ?_; clear hL; intro w hL) | refine zI ?_ | refine zG hX ?_ | refine zO ?_); conv => whnf)
      refine ⟨j + 1, ⟨⟨by omega, hd⟩, hL⟩, by first | omega | (simp only; omega) | (simp only [List.length_cons, List.length_append]; omega), ?_, ?_⟩
      · repeat (first | exact trivial | (refine And.intro (by (conv => lhs; whnf) <;> (conv => rhs; whnf) <;> (first | rfl)) ?_))
      · repeat (first | exact trivial | (refine And.intro (by (conv => lhs; whnf) <;> (conv => rhs; whnf) <;> (first | rfl)) ?_))
  · conv => whnf
    repeat ((first | refine zT ?_ | refine zF ?_ | refine zL hX hL ?_ | refine zB hX hL ?_ | (refine zS hX hL ?_; clear hL; intro w hL) | refine zI ?_ | refine zG hX ?_ | refine zO ?_); conv => whnf)
    have e : idxG f rs = -1 := idxG_none rs fun x hx => by
      obtain ⟨i, hi, rfl⟩ := List.getElem_of_mem hx
      exact hdone i _ (by omega) (List.getElem?_eq_getElem hi)
    exact RetReq.int hL e.symm
theorem indexL_fn {α : Type} {R : List Value → α → Prop} (m : Mem) (v : Value) (rs : List α) (f : α → Bool)(b0 : Nat) (hs : Sl m 3 R v rs) (hf : ∀ p ∈ rs, ∀ cs, R cs p → FnV Tryz.prog 52 ([.agg (toArr cs)] ++ [.pointer (some ⟨b0, 0, none⟩)]) m (.bool (f p))) :
    FnV Tryz.prog 51 [v, .func (.func 52) #[] #[.pointer (some ⟨b0, 0, none⟩)]] m (.int .i64 (idxG f rs)) := by
  have hs' := hs
  obtain ⟨A, n, c, rfl, hn, hc, hm, -⟩ := hs
  have he := hs'.elem
  have hmx : maxLen = 9223372036854775807 := rfl
  refine Fn.enter (N := 19) hX Tryz.func51 rfl rfl (by show _ ≤ _; simp) (fun w0 hL => ?_)
  conv => whnf
  conv => whnf
  repeat ((first | refine zT ?_ | refine zF ?_ | refine zL hX hL ?_ | refine zB hX hL ?_ | (refine zS hX hL ?_; clear hL; intro w hL) | refine zI ?_ | refine zG hX ?_ | refine zO ?_); conv => whnf)
  refine LoopReq.inv hX (fun j : Nat => [(8, .int .i64 j)]) [0, 1, 7]
    (fun j w => (j ≤ n ∧ ∀ (i : Nat) (x : α), i < j → rs[i]? = some x → f x = false) ∧ Ev.Loc m [] w0 m [] w) (fun j => n - j) 0
    ⟨⟨by omega, fun i x h => absurd h (by omega)⟩, hL⟩ ⟨rfl, trivial⟩ ?_
  clear hL
  rintro j w g ⟨⟨hj, hdone⟩, hL⟩
  conv => whnf
  repeat ((first | refine zT ?_ | refine zF ?_ | refine zL hX hL ?_ | refine zB hX hL ?_ | (refine zS hX hL ?_; clear hL; intro w hL) | refine zI ?_ | refine zG hX ?_ | refine zO ?_); conv => whnf)
  refine BrReq.dec (fun hlt => ?_) (fun hlt => ?_)
  · have hlt' : j < rs.length := by omega
    obtain ⟨a, cs', rfl, hl9, hcells, hrep⟩ := he j _ (List.getElem?_eq_getElem hlt')
    conv => whnf
    repeat ((first | refine Idx2Req.mk j a rfl (by omega) rfl ?_ | refine LdReq.agg hX rfl rfl hL hl9 hcells ?_ | refine zT ?_ | refine zF ?_ | refine zL hX hL ?_ | refine zB hX hL ?_ | (refine zS hX hL ?_; clear hL; intro w hL) | refine zI ?_ | refine zG hX ?_ | refine zO ?_); conv => whnf)
    refine CallReq.val (hf _ (List.getElem_mem hlt') _ hrep) hL ?_
    clear hL
    intro w hL
    conv => whnf
    repeat ((first | refine zT ?_ | refine zF ?_ | refine zL hX hL ?_ | refine zB hX hL ?_ | (refine zS hX hL ?_; clear hL; intro w hL) | refine zI ?_ | refine zG hX ?_ | refine zO ?_); conv => whnf)
    refine BrReq.bool (fun hb => ?_) (fun hb => ?_)
    · have e := idxG_at (f := f) rs j _ (List.getElem?_eq_getElem hlt') hb fun q y h1 h2 => hdone q y h1 h2
      conv => whnf
      repeat ((first | refine zT ?_ | refine zF ?_ | refine zL hX hL ?_ | refine zB hX hL ?_ | (refine zS hX hL ?_; clear hL; intro w hL) | refine zI ?_ | refine zG hX ?_ | refine zO ?_); conv => whnf)
      exact RetReq.int hL e.symm
    · have hd : ∀ (i : Nat) (x : α), i < j + 1 → rs[i]? = some x → f x = false := by
        intro i x hi hx
        by_cases e : i = j
        · subst e
          rw [List.getElem?_eq_getElem hlt'] at hx
          cases hx; exact hb
        · exact hdone i x (by omega) hx
      conv => whnf
      repeat ((first | refine zT ?_ | refine zF ?_ | refine zL hX hL ?_ | refine zB hX hL ?_ | (refine zS hX hL ?_; clear hL; intro w hL) | refine zI ?_ | refine zG hX ?_ | refine zO ?_); conv => whnf)
      refine ⟨j + 1, ⟨⟨by omega, hd⟩, hL⟩, by first | omega | (simp only; omega) | (simp only [List.length_cons, List.length_append]; omega), ?_, ?_⟩
      · repeat (first | exact trivial | (refine And.intro (by (conv => lhs; whnf) <;> (conv => rhs; whnf) <;> (first | rfl)) ?_))
      · repeat (first | exact trivial | (refine And.intro (by (conv => lhs; whnf) <;> (conv => rhs; whnf) <;> (first | rfl)) ?_))
  · conv => whnf
    repeat ((first | refine zT ?_ | refine zF ?_ | refine zL hX hL ?_ | refine zB hX hL ?_ | (refine zS hX hL ?_; clear hL; intro w hL) | refine zI ?_ | refine zG hX ?_ | refine zO ?_); conv => whnf)
    have e : idxG f rs = -1 := idxG_none rs fun x hx => by
      obtain ⟨i, hi, rfl⟩ := List.getElem_of_mem hx
      exact hdone i _ (by omega) (List.getElem?_eq_getElem hi)
    exact RetReq.int hL e.symm

/-- A macro's cells. -/
def isMac (cs : List Value) (x : List UInt8 × List UInt8) : Prop := cs = [.string (bs x.1), .string (bs x.2)]
/-- The expander. -/
def exO (lv dv fv : Value) (e : E3) : Obj := .cells (toArr [lv, dv, fv, .int .i64 e.1, .int .i64 e.2.1, .int .i64 e.2.2]) 49 (0, 0)

theorem xfail_fn (m : Mem) (b : Nat) (lv dv fv : Value) (e : E3) (a p x : Int) : FnS 29 [.pointer (some ⟨b, 0, none⟩), .int .i64 a, .int .i64 p, .int .i64 x] m b (exO lv dv fv e) (exO lv dv fv (orE e (a, p, x))) (.tuple (toArr [])) := by
  obtain ⟨e0, e1, e2⟩ := e
  unfold orE
  refine Fn.enter (N := 25) hX Tryz.func29 rfl rfl (by show _ ≤ _; simp) (fun w0 hL => ?_)
  conv => whnf
  generalize keys [(b, exO lv dv fv (e0, e1, e2))] = S0 at hL ⊢
  replace hL : Ev.Loc m S0 w0 m [(b, .cells (toArr [lv, dv, fv, .int .i64 e0, .int .i64 e1, .int .i64 e2]) 49 (0, 0))] w0 := hL
  by_cases he : e2 = 0
  · rw [if_neg (fun h => h he)]
    conv => whnf
    repeat ((first | refine BrReq.yes (by omega) ?_ | refine zT ?_ | refine zF ?_ | refine zL hX hL ?_ | refine zB hX hL ?_ | (refine zS hX hL ?_; clear hL; intro w hL) | refine zI ?_ | refine zG hX ?_ | refine zO ?_); conv => whnf)
    exact RetReq.mk hL ⟨rfl, rfl, rfl⟩
  · rw [if_pos he]
    conv => whnf
    repeat ((first | refine BrReq.no (by omega) ?_ | refine zT ?_ | refine zF ?_ | refine zL hX hL ?_ | refine zB hX hL ?_ | (refine zS hX hL ?_; clear hL; intro w hL) | refine zI ?_ | refine zG hX ?_ | refine zO ?_); conv => whnf)
    exact RetReq.mk hL ⟨rfl, rfl, rfl⟩

/-- One cell of a block that nobody turns. -/
theorem mcell_add {m : Mem} {b i te : Nat} {cs : List Value} {fz : Nat × Nat} {v : Value} (h : cs[i]? = some v) : mcell (m.add b (.cells (toArr cs) te fz)) ⟨b, i, none⟩ = some v := by
  simp only [mcell, ocell, Mem.add_same, toArr, List.getElem?_toArray]
  exact h

theorem sameName_fn (m : Mem) (b0 : Nat) (x : List UInt8 × List UInt8) (n : List UInt8) (cs : List Value) (hx : isMac cs x) (hb : mcell m ⟨b0, 0, none⟩ = some (.string (bs n))) :
    FnV Tryz.prog 31 ([.agg (toArr cs)] ++ [.pointer (some ⟨b0, 0, none⟩)]) m (.bool (decide (x.1 = n))) := by
  subst hx
  refine Fn.enter (N := 9) hX Tryz.func31 rfl rfl (by show _ ≤ _; simp) (fun w0 hL => ?_)
  conv => whnf
  refine NewReq.mk hL ?_
  clear hL
  intro b2 w hL
  conv => whnf
  conv => whnf
  repeat ((first | refine LdReq.one hX rfl rfl hL hb ?_ | refine UGenReq.strEq rfl rfl rfl ?_ | refine zT ?_ | refine zF ?_ | refine zL hX hL ?_ | refine zB hX hL ?_ | (refine zS hX hL ?_; clear hL; intro w hL) | refine zI ?_ | refine zG hX ?_ | refine zO ?_); conv => whnf)
  rw [bs_beq]
  exact RetReq.bool hL.drop rfl

theorem contains1_fn (m : Mem) (b0 : Nat) (v : Value) (l : Ms) (n : List UInt8) (hs : Sl m 2 isMac v l) (hb : mcell m ⟨b0, 0, none⟩ = some (.string (bs n))) :
    FnV Tryz.prog 30 [v, .func (.func 31) #[] #[.pointer (some ⟨b0, 0, none⟩)]] m (.bool (l.any fun x => decide (x.1 = n))) := by
  have hs' := hs
  obtain ⟨A, k, c, rfl, -⟩ := hs
  refine Fn.enter (N := 9) hX Tryz.func30 rfl rfl (by show _ ≤ _; simp) (fun w0 hL => ?_)
  conv => whnf
  conv => whnf
  repeat ((first | refine zT ?_ | refine zF ?_ | refine zL hX hL ?_ | refine zB hX hL ?_ | (refine zS hX hL ?_; clear hL; intro w hL) | refine zI ?_ | refine zG hX ?_ | refine zO ?_); conv => whnf)
  refine CallReq.val (indexM_fn m _ l (fun x => decide (x.1 = n)) b0 hs' fun p _ cs h => sameName_fn m b0 p n cs h hb) hL ?_
  clear hL
  intro w hL
  conv => whnf
  repeat ((first | refine zT ?_ | refine zF ?_ | refine zL hX hL ?_ | refine zB hX hL ?_ | (refine zS hX hL ?_; clear hL; intro w hL) | refine zI ?_ | refine zG hX ?_ | refine zO ?_); conv => whnf)
  refine RetReq.bool hL ?_
  rw [Bool.eq_iff_iff, decide_eq_true_iff]
  exact idxG_neg l

/-- The rows as they are laid first. -/
def row0 (x : List UInt8 × List UInt8) : List Value := [.string (bs x.1), .string (bs x.2), .slice none 0 0]
theorem row0_len (l : Ms) : ∀ r ∈ l.map row0, r.length = 3 := by
  intro r hr; obtain ⟨x, -, rfl⟩ := List.mem_map.1 hr; rfl
theorem any_take {l : Ms} {i : Nat} (n : List UInt8) : ((l.take i).any fun x => decide (x.1 = n)) = true ↔ n ∈ (l.take i).map (·.1) := by
  rw [List.any_eq_true, List.mem_map]
  constructor
  · rintro ⟨x, h1, h2⟩; exact ⟨x, h1, by simpa using h2⟩
  · rintro ⟨x, h1, h2⟩; exact ⟨x, h1, by simpa using h2⟩
theorem chk1_no (l : Ms) (i : Nat) (h : (chk1 l i).2.2 = 0) : chk1 l i = noE := by
  unfold chk1 at h ⊢
  split at h
  · cases h
  · rename_i h1
    rw [if_neg h1]
    split at h
    · cases h
    · rename_i h2; rw [if_neg h2]
theorem allE_no {f : Nat → E3} (hf : ∀ i, (f i).2.2 = 0 → f i = noE) : ∀ n, (allE f n).2.2 = 0 → allE f n = noE
  | 0, _ => rfl
  | n + 1, h => by
    rw [allE] at h ⊢
    obtain ⟨h1, h2⟩ := orE_zero.1 h
    unfold orE
    rw [if_neg (fun hn => hn h1)]
    exact hf n h2
theorem orE_noE {e : E3} (h : e.2.2 = 0 → e = noE) : orE e noE = e := by
  unfold orE
  by_cases he : e.2.2 = 0
  · rw [if_neg (fun hn => hn he), h he]
  · rw [if_pos he]

set_option maxHeartbeats 1000000 in
theorem names_fn (m : Mem) (b : Nat) (l : Ms) (v dv fv : Value) (hv : Sl m 2 isMac v l) (hb : ∀ x ∈ l, x.1.length ≤ 1000000) (hn20 : l.length ≤ 1000) :
    Ev.Fn Tryz.prog 12 [.pointer (some ⟨b, 0, none⟩), v] m [(b, exO (.slice none 0 0) dv fv noE)] fun _ L' u =>
      u = .tuple (toArr []) ∧ ∃ lv Lr, L' = (b, exO lv dv fv (allE (chk1 l) l.length)) :: Lr ∧ OwnS 73 3 lv (l.map row0).flatten Lr := by
  have hv' := hv
  obtain ⟨A, n, c, rfl, hn, hc, hm, -⟩ := hv
  have hmx : maxLen = 9223372036854775807 := rfl
  refine Fn.enter (N := 42) hX Tryz.func12 rfl rfl (by show _ ≤ _; simp) (fun w0 hL => ?_)
  conv => whnf
  generalize keys [(b, exO (.slice none 0 0) dv fv noE)] = S0 at hL ⊢
  conv => whnf
  repeat ((first | refine zT ?_ | refine zF ?_ | refine zL hX hL ?_ | refine zB hX hL ?_ | (refine zS hX hL ?_; clear hL; intro w hL) | refine zI ?_ | refine zG hX ?_ | refine zO ?_); conv => whnf)
  refine LoopReq.inv hX (fun s : Nat × Option Addr × Nat × Nat => [(8, .int .i64 s.1)]) [0, 1, 6, 7]
    (fun s w => s.1 ≤ n ∧ ∃ m1 Lr, Mem.Le m m1 ∧ Ev.Loc m S0 w0 m1 ((b, exO (.slice s.2.1 s.2.2.1 s.2.2.2) dv fv (allE (chk1 l) s.1)) :: Lr) w ∧ OwnS 73 3 (.slice s.2.1 s.2.2.1 s.2.2.2) ((l.take s.1).map row0).flatten Lr) (fun s => n - s.1) (0, none, 0, 0)
    ⟨Nat.zero_le _, m, [], Mem.Le.refl m, hL, OwnS.nil _ _⟩ ⟨rfl, trivial⟩ ?_
  clear hL
  rintro ⟨j, Ao, no, co⟩ w g ⟨hj, m1, Lr, hm1, hL, ho⟩
  simp only at hj hL ho
  conv => whnf
  repeat ((first | refine zT ?_ | refine zF ?_ | refine zL hX hL ?_ | refine zB hX hL ?_ | (refine zS hX hL ?_; clear hL; intro w hL) | refine zI ?_ | refine zG hX ?_ | refine zO ?_); conv => whnf)
  refine BrReq.dec (fun hlt => ?_) (fun hlt => ?_)
  · simp only at hlt
    have hj1 : j < l.length := by omega
    obtain ⟨a, cs, ea, hl2, hcl, hx⟩ := (hv'.le' hm1).elem j _ (List.getElem?_eq_getElem hj1)
    have hxm := List.getElem_mem hj1
    have hnm : nmM l j = l[j].1 := by unfold nmM; rw [List.getD_eq_getElem?_getD, List.getElem?_eq_getElem hj1]; rfl
    have htk : l.take (j + 1) = l.take j ++ [l[j]] := by rw [List.take_add_one, List.getElem?_eq_getElem hj1]; rfl
    have hchk : chk1 l j = if namedT l[j].1 = false then ((j : Int), 0, 2) else if l[j].1 ∈ (l.take j).map (·.1) then ((j : Int), 0, 6) else noE := by unfold chk1; rw [hnm]
    have hall : allE (chk1 l) (j + 1) = orE (allE (chk1 l) j) (chk1 l j) := rfl
    generalize l[j] = x at *
    unfold isMac at hx
    subst hx
    conv => whnf
    repeat ((first | refine Idx2Req.mk j a rfl (by omega) ea ?_ | refine LdReq.agg hX rfl rfl hL rfl hcl ?_ | refine zT ?_ | refine zF ?_ | refine zL hX hL ?_ | refine zB hX hL ?_ | (refine zS hX hL ?_; clear hL; intro w hL) | refine zI ?_ | refine zG hX ?_ | refine zO ?_); conv => whnf)
    refine NewReq.mk hL ?_
    clear hL
    intro b5 w hL
    conv => whnf
    replace hL : Ev.Loc m S0 w0 m1 ((b5, .cells (toArr [.string (bs []), .string (bs [])]) 40 (0, 0)) :: (b, exO (.slice Ao no co) dv fv (allE (chk1 l) j)) :: Lr) w := hL
    conv => whnf
    repeat ((first | refine zT ?_ | refine zF ?_ | refine zL hX hL ?_ | refine zB hX hL ?_ | (refine zS hX hL ?_; clear hL; intro w hL) | refine zI ?_ | refine zO ?_); conv => whnf)
    replace hL : Ev.Loc m S0 w0 m1 ((b5, .cells (toArr [.string (bs x.1), .string (bs x.2)]) 40 (0, 0)) :: (b, exO (.slice Ao no co) dv fv (allE (chk1 l) j)) :: Lr) w := hL
    have hm2 := hm1.trans hL.le_add
    have hm12 := hL.le_add
    have hL := hL.freeze
    have c0 : mcell (m1.add b5 (.cells (toArr [.string (bs x.1), .string (bs x.2)]) 40 (0, 0))) ⟨b5, 0, none⟩ = some (.string (bs x.1)) := mcell_add rfl
    have c1 : mcell (m1.add b5 (.cells (toArr [.string (bs x.1), .string (bs x.2)]) 40 (0, 0))) ⟨b5, 1, none⟩ = some (.string (bs x.2)) := mcell_add rfl
    generalize hmm : (m1.add b5 (.cells (toArr [.string (bs x.1), .string (bs x.2)]) 40 (0, 0))) = m2 at *
    refine SeqReq.cut hX (fun _ : Unit => []) [0, 1, 5, 6, 7, 8] (fun _ w => Ev.Loc m S0 w0 m2 ((b, exO (.slice Ao no co) dv fv (allE (chk1 l) (j + 1))) :: Lr) w) ?_ ?_
    · rw [hall]
      conv => whnf
      repeat ((first | refine LdReq.one hX rfl rfl hL c0 ?_ | refine zT ?_ | refine zF ?_ | refine zL hX hL ?_ | refine zB hX hL ?_ | (refine zS hX hL ?_; clear hL; intro w hL) | refine zI ?_ | refine zG hX ?_ | refine zO ?_); conv => whnf)
      refine CallReq.val (named_fn m2 x.1 (hb x hxm)) hL ?_
      clear hL
      intro w hL
      cases hnd : namedT x.1 with
      | false =>
        rw [hnd, if_pos rfl] at hchk
        conv => whnf
        repeat ((first | refine zT ?_ | refine zF ?_ | refine zL hX hL ?_ | refine zB hX hL ?_ | (refine zS hX hL ?_; clear hL; intro w hL) | refine zI ?_ | refine zG hX ?_ | refine zO ?_); conv => whnf)
        refine CallReq.sc (xfail_fn m2 b (.slice Ao no co) dv fv (allE (chk1 l) j) j 0 2) hL ?_
        clear hL
        intro w hL
        rw [hchk]
        conv => whnf
        repeat ((first | refine zT ?_ | refine zF ?_ | refine zL hX hL ?_ | refine zB hX hL ?_ | (refine zS hX hL ?_; clear hL; intro w hL) | refine zI ?_ | refine zG hX ?_ | refine zO ?_); conv => whnf)
        refine ⟨(), hL, ?_, ?_⟩
        · repeat (first | exact trivial | (refine And.intro (by (conv => lhs; whnf) <;> (conv => rhs; whnf) <;> (first | rfl)) ?_))
        · repeat (first | exact trivial | (refine And.intro (by (conv => lhs; whnf) <;> (conv => rhs; whnf) <;> (first | rfl)) ?_))
      | true =>
        rw [hnd, if_neg (by decide)] at hchk
        have hsub := (hv'.le' hm2).sub (lo := 0) (hi := j) (Nat.zero_le _) (by omega)
        rw [List.drop_zero] at hsub
        conv => whnf
        repeat ((first | refine SlReq.mk 0 j rfl rfl (by omega) (by omega) ?_ | refine zT ?_ | refine zF ?_ | refine zL hX hL ?_ | refine zB hX hL ?_ | (refine zS hX hL ?_; clear hL; intro w hL) | refine zI ?_ | refine zG hX ?_ | refine zO ?_); conv => whnf)
        refine CallReq.val (contains1_fn m2 b5 _ (l.take j) x.1 hsub c0) hL ?_
        clear hL
        intro w hL
        cases hmem : ((l.take j).any fun y => decide (y.1 = x.1)) with
        | true =>
          rw [if_pos ((any_take _).1 hmem)] at hchk
          conv => whnf
          repeat ((first | refine zT ?_ | refine zF ?_ | refine zL hX hL ?_ | refine zB hX hL ?_ | (refine zS hX hL ?_; clear hL; intro w hL) | refine zI ?_ | refine zG hX ?_ | refine zO ?_); conv => whnf)
          refine CallReq.sc (xfail_fn m2 b (.slice Ao no co) dv fv (allE (chk1 l) j) j 0 6) hL ?_
          clear hL
          intro w hL
          rw [hchk]
          conv => whnf
          repeat ((first | refine zT ?_ | refine zF ?_ | refine zL hX hL ?_ | refine zB hX hL ?_ | (refine zS hX hL ?_; clear hL; intro w hL) | refine zI ?_ | refine zG hX ?_ | refine zO ?_); conv => whnf)
          refine ⟨(), hL, ?_, ?_⟩
          · repeat (first | exact trivial | (refine And.intro (by (conv => lhs; whnf) <;> (conv => rhs; whnf) <;> (first | rfl)) ?_))
          · repeat (first | exact trivial | (refine And.intro (by (conv => lhs; whnf) <;> (conv => rhs; whnf) <;> (first | rfl)) ?_))
        | false =>
          rw [if_neg (fun h => by rw [(any_take _).2 h] at hmem; cases hmem)] at hchk
          rw [hchk, orE_noE (allE_no (chk1_no l) j)]
          conv => whnf
          repeat ((first | refine zT ?_ | refine zF ?_ | refine zL hX hL ?_ | refine zB hX hL ?_ | (refine zS hX hL ?_; clear hL; intro w hL) | refine zI ?_ | refine zG hX ?_ | refine zO ?_); conv => whnf)
          refine ⟨(), hL, ?_, ?_⟩
          · repeat (first | exact trivial | (refine And.intro (by (conv => lhs; whnf) <;> (conv => rhs; whnf) <;> (first | rfl)) ?_))
          · repeat (first | exact trivial | (refine And.intro (by (conv => lhs; whnf) <;> (conv => rhs; whnf) <;> (first | rfl)) ?_))
    clear hL
    rintro _ w f hL
    simp only
    generalize hee : allE (chk1 l) (j + 1) = ee at hL
    have c01 : Cells m2 ⟨b5, 0, none⟩ [.string (bs x.1), .string (bs x.2)] := by
      intro q u hq
      rw [addr_add, Nat.zero_add]
      match q, hq with
      | 0, hq => cases hq; exact c0
      | 1, hq => cases hq; exact c1
    conv => whnf
    repeat ((first | refine zT ?_ | refine zF ?_ | refine zL hX hL ?_ | refine zB hX hL ?_ | (refine zS hX hL ?_; clear hL; intro w hL) | refine zI ?_ | refine zG hX ?_ | refine zO ?_); conv => whnf)
    refine DrawReq.plan hX (.fst 0 (.fst 1 (.fst 2 (.fst 3 (.fst 5 (.fst 6 (.alt 4 (.alt 7 (.alt 8 (.fst 9 (.fst 10 (.alt 11 (.done) (.stop)))) (.stop)) (.stop)) (.alt 7 (.alt 4 (.alt 8 (.fst 9 (.fst 10 (.alt 11 (.done) (.stop)))) (.stop)) (.stop)) (.stop))))))))) [] (by kernel_rfl) (by kernel_rfl) hL (fun h => h.sublist (List.nil_sublist _)) ?_
    clear hL
    intro w hL
    conv => whnf
    repeat ((first | refine QLdReq.agg hX rfl rfl rfl c01 ?_ | refine zQ hX ?_ | refine zR hX ?_ | refine zA ?_ | refine zT ?_ | refine zF ?_ | refine zL hX hL ?_ | refine zB hX hL ?_ | (refine zS hX hL ?_; clear hL; intro w hL) | refine zI ?_ | refine zG hX ?_ | refine zO ?_); conv => whnf)
    refine alt2 ?_ ?_
    · conv => whnf
      repeat ((first | refine SReq.mk (hL.sublist (List.nil_sublist _)) ?_ | refine zQ hX ?_ | refine zR hX ?_ | refine zA ?_ | refine zT ?_ | refine zF ?_ | refine zL hX hL ?_ | refine zB hX hL ?_ | (refine zS hX hL ?_; clear hL; intro w hL) | refine zI ?_ | refine zG hX ?_ | refine zO ?_); conv => whnf)
      refine NewReq.mk hL ?_
      clear hL
      intro g w hL
      conv => whnf
      replace hL : Ev.Loc m S0 w0 m2 ((g, .cells (toArr (row0 x)) 73 (0, 0)) :: (b, exO (.slice Ao no co) dv fv ee) :: Lr) w := hL
      refine SReq.mk (hL.sublist (List.nil_sublist _)) ?_
      conv => whnf
      repeat ((first | refine zQ hX ?_ | refine zR hX ?_ | refine zA ?_ | refine zT ?_ | refine zF ?_ | refine zL hX hL ?_ | refine zB hX hL ?_ | (refine zS hX hL ?_; clear hL; intro w hL) | refine zI ?_ | refine zG hX ?_ | refine zO ?_); conv => whnf)
      refine RunReq.push hX 46 73 rfl rfl rfl rfl rfl ho (L2 := [_]) (hL.perm (List.Perm.cons _ (List.perm_append_comm (l₁ := [_]) (l₂ := Lr)))) rfl rfl (by rw [flat_len (size := 3) _ (row0_len _), List.length_map, List.length_take]; show _ + 3 ≤ _; omega) rfl ?_
      clear hL
      intro A2 n2 c2 L2 w hn2 ho2 hL
      have hL := hL.back
      replace hL : Ev.Loc m S0 w0 m2 ((b, exO (.slice Ao no co) dv fv ee) :: L2) w := hL
      rw [show ((l.take j).map row0).flatten ++ row0 x = ((l.take (j + 1)).map row0).flatten by rw [htk]; simp] at ho2
      refine SReq.mk (hL.sublist (List.nil_sublist _)) ?_
      conv => whnf
      repeat ((first | refine zQ hX ?_ | refine zR hX ?_ | refine zA ?_ | refine zT ?_ | refine zF ?_ | refine zL hX hL ?_ | refine zB hX hL ?_ | (refine zS hX hL ?_; clear hL; intro w hL) | refine zI ?_ | refine zG hX ?_ | refine zO ?_); conv => whnf)
      refine SReq.mk (hL.sublist (List.nil_sublist _)) ?_
      conv => whnf
      repeat ((first | refine zQ hX ?_ | refine zR hX ?_ | refine zA ?_ | refine zT ?_ | refine zF ?_ | refine zL hX hL ?_ | refine zB hX hL ?_ | (refine zS hX hL ?_; clear hL; intro w hL) | refine zI ?_ | refine zG hX ?_ | refine zO ?_); conv => whnf)
      refine ⟨(j + 1, A2, n2, c2), ⟨by simp only; omega, m2, L2, hm2, (by simp only; rw [hee]; exact hL), ho2⟩, by first | omega | (simp only; omega) | (simp only [List.length_cons, List.length_append]; omega), ?_, ?_⟩
      · repeat (first | exact trivial | (refine And.intro (by (conv => lhs; whnf) <;> (conv => rhs; whnf) <;> (first | rfl)) ?_))
      · repeat (first | exact trivial | (refine And.intro (by (conv => lhs; whnf) <;> (conv => rhs; whnf) <;> (first | rfl)) ?_))
    · conv => whnf
      repeat ((first | refine zQ hX ?_ | refine zR hX ?_ | refine zA ?_ | refine zT ?_ | refine zF ?_ | refine zL hX hL ?_ | refine zB hX hL ?_ | (refine zS hX hL ?_; clear hL; intro w hL) | refine zI ?_ | refine zG hX ?_ | refine zO ?_); conv => whnf)
      refine NewReq.mk hL ?_
      clear hL
      intro g w hL
      conv => whnf
      replace hL : Ev.Loc m S0 w0 m2 ((g, .cells (toArr (row0 x)) 73 (0, 0)) :: (b, exO (.slice Ao no co) dv fv ee) :: Lr) w := hL
      refine SReq.mk (hL.sublist (List.nil_sublist _)) ?_
      conv => whnf
      repeat ((first | refine zQ hX ?_ | refine zR hX ?_ | refine zA ?_ | refine zT ?_ | refine zF ?_ | refine zL hX hL ?_ | refine zB hX hL ?_ | (refine zS hX hL ?_; clear hL; intro w hL) | refine zI ?_ | refine zG hX ?_ | refine zO ?_); conv => whnf)
      conv => whnf
      repeat ((first | refine SReq.mk (hL.sublist (List.nil_sublist _)) ?_ | refine zQ hX ?_ | refine zR hX ?_ | refine zA ?_ | refine zT ?_ | refine zF ?_ | refine zL hX hL ?_ | refine zB hX hL ?_ | (refine zS hX hL ?_; clear hL; intro w hL) | refine zI ?_ | refine zG hX ?_ | refine zO ?_); conv => whnf)
      refine RunReq.push hX 46 73 rfl rfl rfl rfl rfl ho (L2 := [_]) (hL.perm (List.Perm.cons _ (List.perm_append_comm (l₁ := [_]) (l₂ := Lr)))) rfl rfl (by rw [flat_len (size := 3) _ (row0_len _), List.length_map, List.length_take]; show _ + 3 ≤ _; omega) rfl ?_
      clear hL
      intro A2 n2 c2 L2 w hn2 ho2 hL
      have hL := hL.back
      replace hL : Ev.Loc m S0 w0 m2 ((b, exO (.slice Ao no co) dv fv ee) :: L2) w := hL
      rw [show ((l.take j).map row0).flatten ++ row0 x = ((l.take (j + 1)).map row0).flatten by rw [htk]; simp] at ho2
      refine SReq.mk (hL.sublist (List.nil_sublist _)) ?_
      conv => whnf
      repeat ((first | refine zQ hX ?_ | refine zR hX ?_ | refine zA ?_ | refine zT ?_ | refine zF ?_ | refine zL hX hL ?_ | refine zB hX hL ?_ | (refine zS hX hL ?_; clear hL; intro w hL) | refine zI ?_ | refine zG hX ?_ | refine zO ?_); conv => whnf)
      refine SReq.mk (hL.sublist (List.nil_sublist _)) ?_
      conv => whnf
      repeat ((first | refine zQ hX ?_ | refine zR hX ?_ | refine zA ?_ | refine zT ?_ | refine zF ?_ | refine zL hX hL ?_ | refine zB hX hL ?_ | (refine zS hX hL ?_; clear hL; intro w hL) | refine zI ?_ | refine zG hX ?_ | refine zO ?_); conv => whnf)
      refine ⟨(j + 1, A2, n2, c2), ⟨by simp only; omega, m2, L2, hm2, (by simp only; rw [hee]; exact hL), ho2⟩, by first | omega | (simp only; omega) | (simp only [List.length_cons, List.length_append]; omega), ?_, ?_⟩
      · repeat (first | exact trivial | (refine And.intro (by (conv => lhs; whnf) <;> (conv => rhs; whnf) <;> (first | rfl)) ?_))
      · repeat (first | exact trivial | (refine And.intro (by (conv => lhs; whnf) <;> (conv => rhs; whnf) <;> (first | rfl)) ?_))
  · have ej : j = l.length := by simp only at hlt; omega
    subst ej
    rw [List.take_length] at ho
    conv => whnf
    repeat ((first | refine zT ?_ | refine zF ?_ | refine zL hX hL ?_ | refine zB hX hL ?_ | (refine zS hX hL ?_; clear hL; intro w hL) | refine zI ?_ | refine zG hX ?_ | refine zO ?_); conv => whnf)
    exact RetReq.mk hL ⟨rfl, _, Lr, rfl, ho⟩
end Go.Proofs.YtemdkfohlppckaaGreatDoor.ma
