/- LazyKeeps, proved: a lazy machine keeps no more than it may, makes nothing twice that it keeps, and forgets all at a flush. Conditions: none beyond the row its own.: part 8 of 13 of the proof. Conditions: none. -/
import Derived.Test.YtaooenndoopgdaaGreatDoorK7
import Derived.Test.YtaooenndoopgdaaGreatDoorK5
import Derived.Lib.AppendZerosOnto
import Derived.Lib.SlicesCompact
namespace Go.Proofs.YtaooenndoopgdaaGreatDoor.fo
open Go Go.Ev Go.Proofs
noncomputable def dec (p : Prop) : Bool := @decide p (Classical.propDecidable p)
theorem dec_t {p : Prop} (h : p) : dec p = true := @decide_eq_true p (Classical.propDecidable p) h
theorem dec_f {p : Prop} (h : ¬ p) : dec p = false := @decide_eq_false p (Classical.propDecidable p) h
def prV (m : Mem) (cs : List Value) (p : Prt) : Prop := ∃ u, cs = [u] ∧ SlI m .i64 u p
def FmV (m : Mem) (v : Value) (f : Fml) : Prop := Sl m 1 (prV m) v f
theorem FmV.le {m m' : Mem} (h : Mem.Le m m') {v : Value} {f : Fml} (k : FmV m v f) : FmV m' v f := Sl.le k h fun _ _ _ ⟨u, e, hs⟩ => ⟨u, e, hs.le' h⟩
theorem FmV.at_ {m : Mem} {A : Option Addr} {n c : Nat} {f : Fml} (h : FmV m (.slice A n c) f) {i : Nat} (hi : i < f.length) : ∃ a A' n' c', A = some a ∧ mcell m (a.add (scale i 1)) = some (.slice A' n' c') ∧ SlI m .i64 (.slice A' n' c') f[i] := by
 obtain ⟨a, cs, e1, e2, e3, u, rfl, hs⟩ := Sl.elem h i _ (List.getElem?_eq_getElem hi)
 have hs' := hs
 obtain ⟨A', n', c', rfl, -⟩ := hs'
 have := e3 0 _ rfl
 have add0 : ∀ x : Addr, x.add 0 = x := fun x => by cases x; rfl
 rw [add0] at this
 exact ⟨a, A', n', c', e1, this, hs⟩
theorem FmV.take {m : Mem} {A : Option Addr} {n c : Nat} {f : Fml} (h : FmV m (.slice A n c) f) {j : Nat} (hj : j ≤ n) : FmV m (.slice A j c) (f.take j) := by
 obtain ⟨A', n', c', e, h1, h2, h3, h4⟩ := h
 injection e with e1 e2 e3
 subst e1 e2 e3
 refine ⟨A, j, c, rfl, by rw [List.length_take]; omega, by omega, h3, fun i x hx => ?_⟩
 rw [List.getElem?_take] at hx
 split at hx
 ·exact h4 i x hx
 ·cases hx
theorem freeze1 {α : Type} {m0 m : Mem} {S : List Nat} {w0 w : World} {te : Nat} {v : Value} {vs : List Value} {l : List α} {R : Value → α → Prop} {L1 L2 : Ev.Own} (h : OwnS te 1 v vs L1) (hL : Ev.Loc m0 S w0 m (L1 ++ L2) w) (hl : l.length = vs.length)
  (hR : ∀ (i : Nat) (x : α), l[i]? = some x → ∃ u, vs[i]? = some u ∧ R u x) :
  ∃ m', Ev.Loc m0 S w0 m' L2 w ∧ Mem.Le m m' ∧ Sl m' 1 (fun cs x => ∃ u, cs = [u] ∧ R u x) v l := by
 obtain ⟨m', A, c, -, h1, h2, h3, -⟩ := OwnS.freezeRows (l := l) (size := 1) (rows := vs.map fun r => [r]) (R := fun cs x => ∃ u, cs = [u] ∧ R u x) (by omega) (by rw [show (vs.map fun r => [r]).flatten = vs from by simp [← List.flatMap_def]]; exact h) hL (by simp) (by simpa using hl) fun i x hx => by
  obtain ⟨u, hu, hr⟩ := hR i x hx
  exact ⟨[u], by rw [List.getElem?_map, hu]; rfl, u, rfl, hr⟩
 exact ⟨m', h1, h2, h3⟩
theorem fm_freeze {m0 m : Mem} {S : List Nat} {w0 w : World} {te : Nat} {v : Value} {vs : List Value} {f : Fml} {L1 L2 : Ev.Own} (h : OwnS te 1 v vs L1) (hL : Ev.Loc m0 S w0 m (L1 ++ L2) w) (hl : f.length = vs.length)
  (hR : ∀ (i : Nat) (p : Prt), f[i]? = some p → ∃ u, vs[i]? = some u ∧ SlI m .i64 u p) : ∃ m', Ev.Loc m0 S w0 m' L2 w ∧ Mem.Le m m' ∧ FmV m' v f := by
 obtain ⟨m', h1, h2, h3⟩ := freeze1 h hL hl hR
 exact ⟨m', h1, h2, Sl.le h3 (Mem.Le.refl _) fun _ _ _ ⟨u, e, hs⟩ => ⟨u, e, hs.le' h2⟩⟩
theorem rises_snoc {p : Prt} {n : Int} (h : Rises p) (h0 : 0 ≤ n) (hl : ∀ q, p.getLast? = some q → q < n) : Rises (p ++ [n]) := by
 refine ⟨fun q hq => ?_, List.pairwise_append.2 ⟨h.2, List.pairwise_singleton _ _, fun a ha b hb => ?_⟩⟩
 ·rcases List.mem_append.1 hq with hq | hq
  ·exact h.1 q hq
  ·rw [List.mem_singleton.1 hq]; exact h0
 ·rw [List.mem_singleton.1 hb]
  cases hg : p.getLast? with
  | none => rw [List.getLast?_eq_none_iff] at hg; subst hg; cases ha
  | some q =>
    have hq := hl q hg
    obtain ⟨g', rfl⟩ := List.getLast?_eq_some_iff.1 hg
    rcases List.mem_append.1 ha with ha | ha
    ·have := (List.pairwise_append.1 h.2).2.2 a ha q (by simp); omega
    ·rw [List.mem_singleton.1 ha]; exact hq
theorem take_last {α : Type} {l : List α} {j : Nat} (h0 : 0 < j) (hj : j ≤ l.length) : (l.take j).getLast? = l[j - 1]? := by
 rw [List.getLast?_eq_getElem?, List.length_take, Nat.min_eq_left hj, List.getElem?_take_of_lt (by omega)]
theorem take_succ' {α : Type} {l : List α} {j : Nat} (h : j < l.length) : l.take (j + 1) = l.take j ++ [l[j]] := by
 rw [List.take_add_one, List.getElem?_eq_getElem h]; rfl
theorem rises_fn (m : Mem) (v : Value) (l : Prt) (h : SlI m .i64 v l) : FnV Tryz.prog 157 [v] m (.bool (dec (Rises l))) := by
 have hmx : maxLen = 9223372036854775807 := rfl
 obtain ⟨A, n, c, rfl, hn, hc, hm, -⟩ := id h
 have hel := h.cell.2
 subst hn
 refine Fn.enter (N := 28) hX Tryz.func157 rfl rfl (by show _ ≤ _; simp) (fun w0 hL => ?_)
 conv => whnf
 refine go ?_;try(clear hL;intro w hL)
 refine LoopReq.inv hX (fun j : Nat => [(7, .int .i64 j)]) [0, 5, 6]
  (fun j w => (j ≤ l.length ∧ Rises (l.take j)) ∧ Ev.Loc m [] w0 m [] w) (fun j => l.length - j) 0
  ⟨⟨Nat.zero_le _, by simp [Rises]⟩, hL⟩ ⟨rfl, trivial⟩ ?_
 clear hL
 rintro j w f ⟨⟨hj, hr⟩, hL⟩
 refine go ?_;try(clear hL;intro w hL)
 refine BrReq.dec (fun hlt => ?_) (fun hlt => ?_)
 ·have hj1 : j < l.length := by omega
  obtain ⟨a, rfl, ha⟩ := hel j _ (List.getElem?_eq_getElem hj1)
  have ha1 : mcell m (a.add (scale j 1)) = some (.int .i64 l[j]) := by rw [scale_eq, Nat.mul_one]; exact ha
  conv => whnf
  repeat ((first | refine Idx2Req.mk j a rfl (by omega) rfl ?_ | refine LdReq.one hX rfl rfl hL ha1 ?_ | (refine go1 ?_;try(clear hL;intro w hL))); conv => whnf)
  by_cases h0 : l[j] < 0
  ·have hno : ¬ Rises l := fun hr => by have := hr.1 _ (List.getElem_mem hj1); omega
   rw [dec_f hno]
   conv => whnf
   repeat ((first | refine BrReq.yes h0 ?_ | (refine go1 ?_;try(clear hL;intro w hL))); conv => whnf)
   exact RetReq.bool hL rfl
  by_cases hj0 : 0 < j
  ·obtain ⟨b, eb, hb⟩ := hel (j - 1) _ (List.getElem?_eq_getElem (by omega))
   injection eb with eb
   subst eb
   have hb1 : mcell m (a.add (scale (j - 1) 1)) = some (.int .i64 l[j - 1]) := by rw [scale_eq, Nat.mul_one]; exact hb
   by_cases hge : l[j] ≤ l[j - 1]
   ·have hno : ¬ Rises l := fun hr => by have := List.pairwise_iff_getElem.1 hr.2 (j - 1) j (by omega) hj1 (by omega); omega
    rw [dec_f hno]
    conv => whnf
    repeat ((first | refine BrReq.no h0 ?_ | refine BrReq.yes (by omega) ?_ | refine Idx2Req.mk (j - 1) a (by omega) (by omega) rfl ?_ | refine LdReq.one hX rfl rfl hL hb1 ?_ | (refine go1 ?_;try(clear hL;intro w hL))); conv => whnf)
    exact RetReq.bool hL rfl
   ·have hr2 : Rises (l.take (j + 1)) := by
     rw [take_succ' hj1]
     refine rises_snoc hr (by omega) fun q hq => ?_
     rw [take_last hj0 hj, List.getElem?_eq_getElem (by omega)] at hq
     cases hq; omega
    conv => whnf
    repeat ((first | refine BrReq.no h0 ?_ | refine BrReq.yes (by omega) ?_ | refine Idx2Req.mk (j - 1) a (by omega) (by omega) rfl ?_ | refine LdReq.one hX rfl rfl hL hb1 ?_ | refine BrReq.no (by omega) ?_ | (refine go1 ?_;try(clear hL;intro w hL))); conv => whnf)
    exact rnd (j + 1) ⟨⟨by omega, hr2⟩, hL⟩
  ·have e0 : j = 0 := by omega
   subst e0
   have hr2 : Rises (l.take (0 + 1)) := by
    rw [take_succ' hj1]
    exact rises_snoc hr (by omega) fun q hq => by simp at hq
   conv => whnf
   repeat ((first | refine BrReq.no h0 ?_ | (refine go1 ?_;try(clear hL;intro w hL))); conv => whnf)
   exact rnd (0 + 1) ⟨⟨by omega, hr2⟩, hL⟩
 ·have ej : j = l.length := by omega
  subst ej
  rw [List.take_length] at hr
  rw [dec_t hr]
  refine go ?_;try(clear hL;intro w hL)
  exact RetReq.bool hL rfl
theorem within_fn (m : Mem) (v1 v2 : Value) (a b : Prt) (h1 : SlI m .i64 v1 a) (h2 : SlI m .i64 v2 b) : FnV Tryz.prog 160 [v1, v2] m (.bool (a.isSublist b)) := by
 have hmx : maxLen = 9223372036854775807 := rfl
 obtain ⟨A, n, c, rfl, hn, hc, hm, -⟩ := id h1
 obtain ⟨B, n2, c2, rfl, hn2, hc2, hm2, -⟩ := id h2
 have ha := h1.cell.2
 have hb := h2.cell.2
 subst hn hn2
 refine Fn.enter (N := 33) hX Tryz.func160 rfl rfl (by show _ ≤ _; simp) (fun w0 hL => ?_)
 conv => whnf
 refine go ?_;try(clear hL;intro w hL)
 refine LoopReq.inv hX (fun s : Nat × Nat => [(5, .int .i64 s.2), (10, .int .i64 s.1)]) [0, 8, 9]
  (fun s w => (s.1 ≤ b.length ∧ s.2 ≤ a.length ∧ (a.drop s.2).isSublist (b.drop s.1) = a.isSublist b) ∧ Ev.Loc m [] w0 m [] w) (fun s => b.length - s.1) (0, 0)
  ⟨⟨Nat.zero_le _, Nat.zero_le _, rfl⟩, hL⟩ ⟨rfl, rfl, trivial⟩ ?_
 clear hL
 rintro ⟨j, i⟩ w f ⟨⟨hj, hi, hs⟩, hL⟩
 simp only at hj hi hs
 refine go ?_;try(clear hL;intro w hL)
 refine BrReq.dec (fun hlt => ?_) (fun hlt => ?_)
 ·have hj1 : j < b.length := by simp only at hlt; omega
  obtain ⟨bb, rfl, hbc⟩ := hb j _ (List.getElem?_eq_getElem hj1)
  have hb1 : mcell m (bb.add (scale j 1)) = some (.int .i64 b[j]) := by rw [scale_eq, Nat.mul_one]; exact hbc
  rw [List.drop_eq_getElem_cons hj1] at hs
  by_cases hi1 : i < a.length
  ·obtain ⟨aa, rfl, hac⟩ := ha i _ (List.getElem?_eq_getElem hi1)
   have ha1 : mcell m (aa.add (scale i 1)) = some (.int .i64 a[i]) := by rw [scale_eq, Nat.mul_one]; exact hac
   rw [List.drop_eq_getElem_cons hi1, List.isSublist] at hs
   by_cases he : a[i] = b[j]
   ·rw [if_pos (by simpa using he)] at hs
    conv => whnf
    repeat ((first | (refine Idx2Req.mk j bb rfl (by simp only at hlt; omega) rfl ?_) | refine LdReq.one hX rfl rfl hL hb1 ?_ | refine BrReq.yes (by omega) ?_ | refine Idx2Req.mk i aa rfl (by omega) rfl ?_ | refine LdReq.one hX rfl rfl hL ha1 ?_ | refine BrReq.yes he ?_ | (refine go1 ?_;try(clear hL;intro w hL))); conv => whnf)
    exact rnd (j + 1, i + 1) ⟨⟨by simp only; omega, by simp only; omega, hs⟩, hL⟩
   ·rw [if_neg (by simpa using he), ← List.drop_eq_getElem_cons hi1] at hs
    conv => whnf
    repeat ((first | (refine Idx2Req.mk j bb rfl (by simp only at hlt; omega) rfl ?_) | refine LdReq.one hX rfl rfl hL hb1 ?_ | refine BrReq.yes (by omega) ?_ | refine Idx2Req.mk i aa rfl (by omega) rfl ?_ | refine LdReq.one hX rfl rfl hL ha1 ?_ | refine BrReq.no he ?_ | (refine go1 ?_;try(clear hL;intro w hL))); conv => whnf)
    exact rnd (j + 1, i) ⟨⟨by simp only; omega, by simp only; omega, hs⟩, hL⟩
  ·rw [List.drop_eq_nil_of_le (by omega), List.isSublist] at hs
   have hs2 : (a.drop i).isSublist (b.drop (j + 1)) = a.isSublist b := by rw [List.drop_eq_nil_of_le (by omega), ← hs, List.isSublist]
   conv => whnf
   repeat ((first | (refine Idx2Req.mk j bb rfl (by simp only at hlt; omega) rfl ?_) | refine LdReq.one hX rfl rfl hL hb1 ?_ | refine BrReq.no (by omega) ?_ | (refine go1 ?_;try(clear hL;intro w hL))); conv => whnf)
   exact rnd (j + 1, i) ⟨⟨by simp only; omega, by simp only; omega, hs2⟩, hL⟩
 ·have ej : j = b.length := by simp only at hlt; omega
  subst ej
  rw [List.drop_length] at hs
  have hv : a.isSublist b = decide ((i : Int) = (a.length : Int)) := by
   rw [← hs]
   by_cases hi1 : i < a.length
   ·rw [List.drop_eq_getElem_cons hi1, decide_eq_false (by omega)]; rfl
   ·rw [List.drop_eq_nil_of_le (by omega), List.isSublist, decide_eq_true (by omega)]
  rw [hv]
  refine go ?_;try(clear hL;intro w hL)
  exact RetReq.bool hL rfl
def idxG {α : Type} (f : α → Bool) : List α → Int
 | [] => -1
 | p :: l => if f p = true then 0 else if idxG f l < 0 then -1 else idxG f l + 1
theorem idxG_at {α : Type} {f : α → Bool} : ∀ (l : List α) (i : Nat) (x : α), l[i]? = some x → f x = true → (∀ (q : Nat) (y : α), q < i → l[q]? = some y → f y = false) → idxG f l = i := by
 intro l
 induction l with
 | nil => intro i x h; simp at h
 | cons p l ih =>
   intro i x h hx hq
   cases i with
   | zero => simp at h; subst h; simp only [idxG]; rw [if_pos hx]; rfl
   | succ i =>
     have h0 := hq 0 p (by omega) rfl
     simp only [idxG]
     rw [if_neg (by rw [h0]; simp), ih i x (by simpa using h) hx fun q y hlt hy => hq (q + 1) y (by omega) (by simpa using hy), if_neg (by omega)]
     omega
theorem idxG_none {α : Type} {f : α → Bool} : ∀ (l : List α), (∀ x ∈ l, f x = false) → idxG f l = -1 := by
 intro l
 induction l with
 | nil => intro _; rfl
 | cons p l ih =>
   intro h
   simp only [idxG]
   rw [if_neg (by rw [h p (by simp)]; simp), ih fun x hx => h x (by simp [hx]), if_pos (by omega)]
theorem idxG_neg {α : Type} {f : α → Bool} : ∀ (l : List α), 0 ≤ idxG f l ↔ l.any f = true := by
 intro l
 induction l with
 | nil => simp [idxG]
 | cons p l ih =>
   simp only [idxG, List.any_cons, Bool.or_eq_true]
   by_cases h : f p = true
   ·rw [if_pos h]; exact ⟨fun _ => .inl h, fun _ => by omega⟩
   ·rw [if_neg h]
    by_cases h2 : idxG f l < 0
    ·rw [if_pos h2]; exact ⟨fun h' => absurd h' (by omega), fun h' => h'.elim (fun h3 => absurd h3 h) fun h3 => absurd (ih.2 h3) (by omega)⟩
    ·rw [if_neg h2]; exact ⟨fun _ => .inr (ih.1 (by omega)), fun _ => by omega⟩
theorem indexF_fn (m : Mem) (v : Value) (rs : Fml) (f : Prt → Bool) (b0 : Nat) (hs : FmV m v rs) (hf : ∀ p ∈ rs, ∀ u, SlI m .i64 u p → FnV Tryz.prog 159 ([u] ++ [.pointer (some ⟨b0, 0, none⟩)]) m (.bool (f p))) :
  FnV Tryz.prog 173 [v, .func (.func 159) #[] #[.pointer (some ⟨b0, 0, none⟩)]] m (.int .i64 (idxG f rs)) := by
 have hmx : maxLen = 9223372036854775807 := rfl
 obtain ⟨A, n, c, rfl, hn, hc, hm, -⟩ := id hs
 subst hn
 refine Fn.enter (N := 19) hX Tryz.func173 rfl rfl (by show _ ≤ _; simp) (fun w0 hL => ?_)
 conv => whnf
 refine go ?_;try(clear hL;intro w hL)
 refine LoopReq.inv hX (fun j : Nat => [(8, .int .i64 j)]) [0, 1, 7]
  (fun j w => (j ≤ rs.length ∧ ∀ (i : Nat) (x : Prt), i < j → rs[i]? = some x → f x = false) ∧ Ev.Loc m [] w0 m [] w) (fun j => rs.length - j) 0
  ⟨⟨by omega, fun i x h => absurd h (by omega)⟩, hL⟩ ⟨rfl, trivial⟩ ?_
 clear hL
 rintro j w g ⟨⟨hj, hdone⟩, hL⟩
 refine go ?_;try(clear hL;intro w hL)
 refine BrReq.dec (fun hlt => ?_) (fun hlt => ?_)
 ·have hlt' : j < rs.length := by omega
  obtain ⟨a, A', n', c', rfl, hcell, hp⟩ := hs.at_ hlt'
  conv => whnf
  repeat ((first | refine Idx2Req.mk j a rfl (by omega) rfl ?_ | refine LdReq.one hX rfl rfl hL hcell ?_ | (refine go1 ?_;try(clear hL;intro w hL))); conv => whnf)
  refine CallReq.val (hf _ (List.getElem_mem hlt') _ hp) hL ?_
  clear hL
  intro w hL
  refine go ?_;try(clear hL;intro w hL)
  refine BrReq.bool (fun hb => ?_) (fun hb => ?_)
  ·have e := idxG_at (f := f) rs j _ (List.getElem?_eq_getElem hlt') hb fun q y h1 h2 => hdone q y h1 h2
   refine go ?_;try(clear hL;intro w hL)
   exact RetReq.int hL e.symm
  ·have hd : ∀ (i : Nat) (x : Prt), i < j + 1 → rs[i]? = some x → f x = false := by
    intro i x hi hx
    by_cases e : i = j
    ·subst e
     rw [List.getElem?_eq_getElem hlt'] at hx
     cases hx; exact hb
    ·exact hdone i x (by omega) hx
   refine go ?_;try(clear hL;intro w hL)
   exact rnd (j + 1) ⟨⟨by omega, hd⟩, hL⟩
 ·refine go ?_;try(clear hL;intro w hL)
  have e : idxG f rs = -1 := idxG_none rs fun x hx => by
   obtain ⟨i, hi, rfl⟩ := List.getElem_of_mem hx
   exact hdone i _ (by omega) (List.getElem?_eq_getElem hi)
  exact RetReq.int hL e.symm
theorem testF_fn (m : Mem) (b0 : Nat) (A : Option Addr) (n c : Nat) (p q : Prt) (u : Value) (hq : SlI m .i64 u q) (hp : SlI m .i64 (.slice A n c) p) (hb : mcell m ⟨b0, 0, none⟩ = some (.slice A n c)) :
  FnV Tryz.prog 159 ([u] ++ [.pointer (some ⟨b0, 0, none⟩)]) m (.bool (q.isSublist p)) := by
 have hw := within_fn m u (.slice A n c) q p hq hp
 obtain ⟨A', n', c', rfl, -⟩ := id hq
 refine Fn.enter (N := 7) hX Tryz.func159 rfl rfl (by show _ ≤ _; simp) (fun w0 hL => ?_)
 conv => whnf
 conv => whnf
 repeat ((first | refine LdReq.one hX rfl rfl hL hb ?_ | (refine go1 ?_;try(clear hL;intro w hL))); conv => whnf)
 refine CallReq.val hw hL ?_
 clear hL
 intro w hL
 refine go ?_;try(clear hL;intro w hL)
 exact RetReq.bool hL rfl
theorem containsF_fn (m : Mem) (v : Value) (rs : Fml) (b0 : Nat) (A : Option Addr) (n c : Nat) (p : Prt) (hs : FmV m v rs) (hp : SlI m .i64 (.slice A n c) p) (hb : mcell m ⟨b0, 0, none⟩ = some (.slice A n c)) :
  FnV Tryz.prog 134 [v, .func (.func 159) #[] #[.pointer (some ⟨b0, 0, none⟩)]] m (.bool (rs.any fun q => q.isSublist p)) := by
 have hix := indexF_fn m v rs (fun q => q.isSublist p) b0 hs fun q _ u hu => testF_fn m b0 A n c p q u hu hp hb
 obtain ⟨A2, n2, c2, rfl, -⟩ := id hs
 refine Fn.enter (N := 9) hX Tryz.func134 rfl rfl (by show _ ≤ _; simp) (fun w0 hL => ?_)
 conv => whnf
 refine go ?_;try(clear hL;intro w hL)
 refine CallReq.val hix hL ?_
 clear hL
 intro w hL
 refine go ?_;try(clear hL;intro w hL)
 refine RetReq.bool hL ?_
 rw [Bool.eq_iff_iff, decide_eq_true_iff]
 exact idxG_neg rs
theorem indexM_fn (m : Mem) (v : Value) (rs : Fml) (f : Prt → Bool) (b0 : Nat) (hs : FmV m v rs) (hf : ∀ p ∈ rs, ∀ u, SlI m .i64 u p → FnV Tryz.prog 226 ([u] ++ [.pointer (some ⟨b0, 0, none⟩)]) m (.bool (f p))) :
  FnV Tryz.prog 173 [v, .func (.func 226) #[] #[.pointer (some ⟨b0, 0, none⟩)]] m (.int .i64 (idxG f rs)) := by
 have hmx : maxLen = 9223372036854775807 := rfl
 obtain ⟨A, n, c, rfl, hn, hc, hm, -⟩ := id hs
 subst hn
 refine Fn.enter (N := 19) hX Tryz.func173 rfl rfl (by show _ ≤ _; simp) (fun w0 hL => ?_)
 conv => whnf
 refine go ?_;try(clear hL;intro w hL)
 refine LoopReq.inv hX (fun j : Nat => [(8, .int .i64 j)]) [0, 1, 7]
  (fun j w => (j ≤ rs.length ∧ ∀ (i : Nat) (x : Prt), i < j → rs[i]? = some x → f x = false) ∧ Ev.Loc m [] w0 m [] w) (fun j => rs.length - j) 0
  ⟨⟨by omega, fun i x h => absurd h (by omega)⟩, hL⟩ ⟨rfl, trivial⟩ ?_
 clear hL
 rintro j w g ⟨⟨hj, hdone⟩, hL⟩
 refine go ?_;try(clear hL;intro w hL)
 refine BrReq.dec (fun hlt => ?_) (fun hlt => ?_)
 ·have hlt' : j < rs.length := by omega
  obtain ⟨a, A', n', c', rfl, hcell, hp⟩ := hs.at_ hlt'
  conv => whnf
  repeat ((first | refine Idx2Req.mk j a rfl (by omega) rfl ?_ | refine LdReq.one hX rfl rfl hL hcell ?_ | (refine go1 ?_;try(clear hL;intro w hL))); conv => whnf)
  refine CallReq.val (hf _ (List.getElem_mem hlt') _ hp) hL ?_
  clear hL
  intro w hL
  refine go ?_;try(clear hL;intro w hL)
  refine BrReq.bool (fun hb => ?_) (fun hb => ?_)
  ·have e := idxG_at (f := f) rs j _ (List.getElem?_eq_getElem hlt') hb fun q y h1 h2 => hdone q y h1 h2
   refine go ?_;try(clear hL;intro w hL)
   exact RetReq.int hL e.symm
  ·have hd : ∀ (i : Nat) (x : Prt), i < j + 1 → rs[i]? = some x → f x = false := by
    intro i x hi hx
    by_cases e : i = j
    ·subst e
     rw [List.getElem?_eq_getElem hlt'] at hx
     cases hx; exact hb
    ·exact hdone i x (by omega) hx
   refine go ?_;try(clear hL;intro w hL)
   exact rnd (j + 1) ⟨⟨by omega, hd⟩, hL⟩
 ·refine go ?_;try(clear hL;intro w hL)
  have e : idxG f rs = -1 := idxG_none rs fun x hx => by
   obtain ⟨i, hi, rfl⟩ := List.getElem_of_mem hx
   exact hdone i _ (by omega) (List.getElem?_eq_getElem hi)
  exact RetReq.int hL e.symm
theorem testM_fn (m : Mem) (b0 : Nat) (A : Option Addr) (n c : Nat) (p q : Prt) (u : Value) (hq : SlI m .i64 u q) (hp : SlI m .i64 (.slice A n c) p) (hb : mcell m ⟨b0, 0, none⟩ = some (.slice A n c)) :
  FnV Tryz.prog 226 ([u] ++ [.pointer (some ⟨b0, 0, none⟩)]) m (.bool (q.isSublist p)) := by
 have hw := within_fn m u (.slice A n c) q p hq hp
 obtain ⟨A', n', c', rfl, -⟩ := id hq
 refine Fn.enter (N := 7) hX Tryz.func226 rfl rfl (by show _ ≤ _; simp) (fun w0 hL => ?_)
 conv => whnf
 conv => whnf
 repeat ((first | refine LdReq.one hX rfl rfl hL hb ?_ | (refine go1 ?_;try(clear hL;intro w hL))); conv => whnf)
 refine CallReq.val hw hL ?_
 clear hL
 intro w hL
 refine go ?_;try(clear hL;intro w hL)
 exact RetReq.bool hL rfl
theorem containsM_fn (m : Mem) (v : Value) (rs : Fml) (b0 : Nat) (A : Option Addr) (n c : Nat) (p : Prt) (hs : FmV m v rs) (hp : SlI m .i64 (.slice A n c) p) (hb : mcell m ⟨b0, 0, none⟩ = some (.slice A n c)) :
  FnV Tryz.prog 134 [v, .func (.func 226) #[] #[.pointer (some ⟨b0, 0, none⟩)]] m (.bool (rs.any fun q => q.isSublist p)) := by
 have hix := indexM_fn m v rs (fun q => q.isSublist p) b0 hs fun q _ u hu => testM_fn m b0 A n c p q u hu hp hb
 obtain ⟨A2, n2, c2, rfl, -⟩ := id hs
 refine Fn.enter (N := 9) hX Tryz.func134 rfl rfl (by show _ ≤ _; simp) (fun w0 hL => ?_)
 conv => whnf
 refine go ?_;try(clear hL;intro w hL)
 refine CallReq.val hix hL ?_
 clear hL
 intro w hL
 refine go ?_;try(clear hL;intro w hL)
 refine RetReq.bool hL ?_
 rw [Bool.eq_iff_iff, decide_eq_true_iff]
 exact idxG_neg rs
theorem mcell_add {m : Mem} {b i te : Nat} {cs : List Value} {fz : Nat × Nat} {v : Value} (h : cs[i]? = some v) : mcell (m.add b (.cells (toArr cs) te fz)) ⟨b, i, none⟩ = some v := by
 simp only [mcell, ocell, Mem.add_same, toArr, List.getElem?_toArray]
 exact h
set_option maxHeartbeats 2000000 in
theorem Formed_fn (m : Mem) (v : Value) (f : Fml) (h : FmV m v f) : FnV Tryz.prog 113 [v] m (.bool (dec (FormedP f))) := by
 have hmx : maxLen = 9223372036854775807 := rfl
 obtain ⟨A, n, c, rfl, hn, hc, hm, -⟩ := id h
 subst hn
 suffices hh : Fn0 Tryz.prog 113 [.slice A f.length c] m fun _ u => u = .bool (dec (FormedP f)) from hh
 refine Fn.enter (N := 35) hX Tryz.func113 rfl rfl (by show _ ≤ _; simp) (fun w0 hL => ?_)
 conv => whnf
 refine go ?_;try(clear hL;intro w hL)
 refine LoopReq.inv hX (fun j : Nat => [(7, .int .i64 j)]) [0, 5, 6]
  (fun j w => (j ≤ f.length ∧ FormedP (f.take j)) ∧ ∃ m1, Mem.Le m m1 ∧ Ev.Loc m [] w0 m1 [] w) (fun j => f.length - j) 0
  ⟨⟨Nat.zero_le _, by rw [List.take_zero]; exact FormedP.nil⟩, m, Mem.Le.refl m, hL⟩ ⟨rfl, trivial⟩ ?_
 clear hL
 rintro j w g ⟨⟨hj, hr⟩, m1, hm1, hL⟩
 refine go ?_;try(clear hL;intro w hL)
 refine BrReq.dec (fun hlt => ?_) (fun hlt => ?_)
 rotate_left
 ·have ej : j = f.length := by omega
  subst ej
  rw [List.take_length] at hr
  rw [dec_t hr]
  refine go ?_;try(clear hL;intro w hL)
  exact RetReq.mk hL ⟨rfl, rfl⟩
 have hj1 : j < f.length := by omega
 have h1 := h.le hm1
 obtain ⟨a, A', n', c', ea, hcell, hp⟩ := h1.at_ hj1
 conv => whnf
 repeat ((first | refine Idx2Req.mk j a rfl (by omega) ea ?_ | refine LdReq.one hX rfl rfl hL hcell ?_ | (refine go1 ?_;try(clear hL;intro w hL))); conv => whnf)
 refine NewReq.mk hL ?_
 clear hL
 intro b4 w hL
 conv => whnf
 replace hL : Ev.Loc m [] w0 m1 [(b4, .cells (toArr [.slice none 0 0]) 53 (0, 0))] w := hL
 refine go ?_;try(clear hL;intro w hL)
 refine DrawReq.plan hX (.fst 0 (.alt 1 (.fst 2 (.fst 3 (.fst 4 (.fst 5 (.fst 6 (.fst 7 (.fst 8 (.fst 9 (.fst 10 (.fst 11 (.fst 12 (.alt 13 (.fst 14 (.fst 15 (.fst 16 (.done)))) (.stop))))))))))))) (.stop))) [(b4, .cells (toArr [.slice A' n' c']) 53 (0, 0))] (by kernel_rfl) (by kernel_rfl) hL id ?_
 clear hL
 intro w hL
 refine goq ?_;try(clear hL;intro w hL)
 refine CallReq.val (rises_fn m1 _ _ hp) hL ?_
 clear hL
 intro w hL
 by_cases hri : Rises f[j]
 rotate_left
 ·rw [dec_f hri]
  conv => whnf
  repeat ((first | refine SReq.mk hL ?_ | (refine goq1 ?_;try(clear hL;intro w hL))); conv => whnf)
  have hno : ¬ FormedP f := fun hf => hri (hf.rises _ (List.getElem_mem hj1))
  rw [dec_f hno]
  exact RetReq.mk hL.drop ⟨rfl, rfl⟩
 rw [dec_t hri]
 by_cases hj0 : 0 < j
 ·obtain ⟨a2, A2, n2, c2, ea2, hcell2, hp2⟩ := h1.at_ (show j - 1 < f.length by omega)
  conv => whnf
  repeat ((first | refine SReq.mk hL ?_ | refine BrReq.yes (by omega) ?_ | refine Idx2Req.mk (j - 1) a2 (by omega) (by omega) ea2 ?_ | refine QLdReq.one hX rfl rfl hcell2 ?_ | (refine goq1 ?_;try(clear hL;intro w hL))); conv => whnf)
  refine CallReq.val (order_fn m1 _ _ _ _ hp2 hp) hL ?_
  clear hL
  intro w hL
  by_cases hls : lessP f[j - 1] f[j]
  ·have ho := ord_neg.2 hls
   conv => whnf
   repeat ((first | refine SReq.mk hL ?_ | (refine goq1 ?_;try(clear hL;intro w hL))); conv => whnf)
   refine BrReq.no (by omega) ?_
   have hL0 := hL.le_add
   have hL := hL.freeze
   have hsub := Sl.sub (h1.le hL0) (lo := 0) (hi := j) (Nat.zero_le _) (by omega)
   rw [List.drop_zero] at hsub
   have hcc := containsF_fn _ _ (f.take j) b4 A' n' c' f[j] hsub (hp.le' hL0) (mcell_add rfl)
   conv => whnf
   repeat ((first | refine SlReq.mk 0 j rfl rfl (by omega) (by omega) ?_ | (refine go1 ?_;try(clear hL;intro w hL))); conv => whnf)
   refine CallReq.val hcc hL ?_
   clear hL
   intro w hL
   cases hany : ((f.take j).any fun q => q.isSublist f[j]) with
   | true =>
     obtain ⟨q, hq, hqs⟩ := List.any_eq_true.1 hany
     have hno : ¬ FormedP f := fun hf => by
      obtain ⟨i, hi, rfl⟩ := List.getElem_of_mem hq
      rw [List.length_take] at hi
      rw [List.getElem_take] at hqs
      exact List.pairwise_iff_getElem.1 hf.apart i j (by omega) hj1 (by omega) (list_sub (List.isSublist_iff_sublist.1 hqs))
     rw [dec_f hno]
     refine go ?_;try(clear hL;intro w hL)
     exact RetReq.mk hL ⟨rfl, rfl⟩
   | false =>
     have hr2 : FormedP (f.take (j + 1)) := by
      rw [take_succ' hj1]
      refine hr.snoc hri (fun q hq => by rw [take_last hj0 hj, List.getElem?_eq_getElem (by omega)] at hq; cases hq; exact hls) fun q hq hs => ?_
      have := (within_iff (hr.rises q hq) hri).2 hs
      rw [List.any_eq_false] at hany
      exact hany q hq this
     refine go ?_;try(clear hL;intro w hL)
     exact rnd (j + 1) ⟨⟨by omega, hr2⟩, _, hm1.trans hL0, hL⟩
  ·have ho : ¬ ordI f[j - 1] f[j] < 0 := fun h => hls (ord_neg.1 h)
   have hno : ¬ FormedP f := fun hf => hls (List.pairwise_iff_getElem.1 hf.less (j - 1) j (by omega) hj1 (by omega))
   rw [dec_f hno]
   conv => whnf
   repeat ((first | refine SReq.mk hL ?_ | (refine goq1 ?_;try(clear hL;intro w hL))); conv => whnf)
   refine BrReq.yes (by omega) ?_
   refine go ?_;try(clear hL;intro w hL)
   exact RetReq.mk hL.drop ⟨rfl, rfl⟩
 ·have e0 : j = 0 := by omega
  conv => whnf
  repeat ((first | refine SReq.mk hL ?_ | refine BrReq.no (by omega) ?_ | (refine goq1 ?_;try(clear hL;intro w hL))); conv => whnf)
  have hL0 := hL.le_add
  have hL := hL.freeze
  have hsub := Sl.sub (h1.le hL0) (lo := 0) (hi := j) (Nat.zero_le _) (by omega)
  rw [List.drop_zero] at hsub
  have hcc := containsF_fn _ _ (f.take j) b4 A' n' c' f[j] hsub (hp.le' hL0) (mcell_add rfl)
  conv => whnf
  repeat ((first | refine SlReq.mk 0 j rfl rfl (by omega) (by omega) ?_ | (refine go1 ?_;try(clear hL;intro w hL))); conv => whnf)
  refine CallReq.val hcc hL ?_
  clear hL
  intro w hL
  cases hany : ((f.take j).any fun q => q.isSublist f[j]) with
  | true =>
    obtain ⟨q, hq, hqs⟩ := List.any_eq_true.1 hany
    have hno : ¬ FormedP f := fun hf => by
     obtain ⟨i, hi, rfl⟩ := List.getElem_of_mem hq
     rw [List.length_take] at hi
     rw [List.getElem_take] at hqs
     exact List.pairwise_iff_getElem.1 hf.apart i j (by omega) hj1 (by omega) (list_sub (List.isSublist_iff_sublist.1 hqs))
    rw [dec_f hno]
    refine go ?_;try(clear hL;intro w hL)
    exact RetReq.mk hL ⟨rfl, rfl⟩
  | false =>
    have hr2 : FormedP (f.take (j + 1)) := by
     rw [take_succ' hj1]
     refine hr.snoc hri (fun q hq => by rw [e0] at hq; simp at hq) fun q hq hs => ?_
     have := (within_iff (hr.rises q hq) hri).2 hs
     rw [List.any_eq_false] at hany
     exact hany q hq this
    refine go ?_;try(clear hL;intro w hL)
    exact rnd (j + 1) ⟨⟨by omega, hr2⟩, _, hm1.trans hL0, hL⟩
end Go.Proofs.YtaooenndoopgdaaGreatDoor.fo
namespace Go.Ev
open Go
section
variable {P : Program} {X : Tab} {m0 m : Mem} {S : List Nat} {w0 w : World}
theorem RunReq.zeros (hX : TabsOk P X) (t tn te : Nat) {ti tei tni : TI} {ty : TypeId} (ht : look X.T t = some (some ti)) (hd : ti.d = .slice te) (hte : look X.T te = some (some tei)) (htn : look X.T tn = some (some tni)) (hdn : tni.d = .int .i64)
  (h1s : Nat.beq tei.size 1 = true) (hzs : Nat.beq tei.zero.length tei.size = true) (hby : Nat.ble tei.bytes 64 = true) {k : Nat} {zk : Int} {L : Own} {K : Value → World → Prop} (hzk : zk = (k : Int)) (h0 : 0 < k) (hk : k ≤ 1000000000) (hL : Loc m0 S w0 m L w)
  (h : ∀ g gc cur w', k ≤ gc → gc ≤ maxLen → cur.length = gc → Loc m0 S w0 m ((g, .cells (toArr cur) te (0, 0)) :: L) w' → K (.slice (some ⟨g, 0, none⟩) k gc) w') :
  RunReq P (Builtin.append_ #[t, tn] ty (toArr [.slice none 0 0, .int .i64 zk])) w K := by
 subst hzk
 have h1s := Nat.eq_of_beq_eq_true h1s
 have hzs := Nat.eq_of_beq_eq_true hzs
 have hby := Nat.le_of_ble_eq_true hby
 have hT := hX.t _ _ ht
 have hTe := hX.t _ _ hte
 obtain ⟨i, d, z, hi, _, hz, htei⟩ := tiOf_info hTe
 have e1 : i.size = 1 := by rw [← h1s, htei]
 have e2 : i.bytes ≤ 64 := by have : i.bytes = tei.bytes := by rw [htei]
                              omega
 have e3 : z.cells.size = 1 := by rw [← h1s, ← hzs, htei]; simp
 have hkb : k * i.bytes ≤ 64000000000 := Nat.le_trans (Nat.mul_le_mul_left _ e2) (by omega)
 have hrun := Lib.run_append_grow_zeros (P := P) w t tn ty te i z .i64 .i64 (td_slice hT hd) (td_int (hX.t _ _ htn) hdn) hi hz none 0 0 [] (run_firstCells_none w.drew i.size 0 0 0) k h0 (by omega) (by omega) (by omega) (by omega) (growslice_fits (by omega) (by rw [Nat.zero_add]; omega))
 rw [Nat.zero_add] at hrun
 have hge := grownCap_ge w k 0 te
 have hle := grownCap_le_maxLen w k 0 te (by simp only [maxLen]; omega)
 refine ⟨_, _, hrun, ?_⟩
 generalize grownCap w k 0 te = gc at *
 have hcells : (([] : List Value).toArray ++ Builtin.zeroCells z.cells k ++ Builtin.zeroCells z.cells (gc - k)) = toArr ((Builtin.zeroCells z.cells k).toList ++ (Builtin.zeroCells z.cells (gc - k)).toList) := by
  apply Array.ext'; simp [toArr]
 rw [hcells]
 refine h w.heap.size gc _ _ hge hle ?_ (hL.drew.alloc _)
 rw [List.length_append, Array.length_toList, Array.length_toList, size_zeroCells, size_zeroCells, e3]
 omega
theorem GenReq.cap (hX : TabsOk P X) {w : World} {o : Oper} {ρ : Operand → Value} {c : Call} {t te : Nat} {ti : TI} {a : Option Addr} {n cap : Nat} {K : Value → World → Prop} (ho : o.op = .call c) (hc : c.callee = .builtin .cap) (ht : c.argTypes = #[t]) (ha : c.args.toList.map ρ = [.slice a n cap])
  (hl : look X.T t = some (some ti)) (hd : ti.d = .slice te) (h : K (.int .i64 cap) w) : GenReq P o ρ w K := by
 constructor
 unfold OpOk
 have hargs : c.args.map ρ = #[.slice a n cap] := by apply Array.ext'; rw [Array.toList_map, ha]
 have hex : execOp ρ o = (do pure (.value (← Builtin.cap_ #[t] o.type #[.slice a n cap]))) := by rw [← hargs, ← ht]; simp [execOp, ho, resolve, hc, Go.invoke, Go.builtin]
 have hrun : (Builtin.cap_ #[t] o.type #[.slice a n cap]).run P w = .ok (.int .i64 cap) w := by
  simp [Builtin.cap_, run_underlying (td_slice (hX.t _ _ hl) hd)]; rfl
 rw [hex]
 simp only [Sem.run_bind, hrun, Result.andThen_ok, Sem.run_pure, upon]
 exact h
end
end Go.Ev
namespace Go.Proofs.YtaooenndoopgdaaGreatDoor.fo
open Go Go.Ev Go.Proofs
def HdF (m : Mem) (us : List Value) (f : Fml) : Prop := us.length = f.length ∧ ∀ (i : Nat) (p : Prt), f[i]? = some p → ∃ u, us[i]? = some u ∧ SlI m .i64 u p
def HdI (_ : Mem) (us : List Value) (p : Prt) : Prop := us = ints .i64 p
theorem HdF.app {m : Mem} {us ws : List Value} {f g : Fml} (h : HdF m us f) (k : HdF m ws g) : HdF m (us ++ ws) (f ++ g) := by
 refine ⟨by rw [List.length_append, List.length_append, h.1, k.1], fun i p hp => ?_⟩
 by_cases hi : i < f.length
 ·rw [List.getElem?_append_left hi] at hp
  rw [List.getElem?_append_left (by rw [h.1]; exact hi)]
  exact h.2 i p hp
 ·rw [List.getElem?_append_right (by omega)] at hp
  rw [List.getElem?_append_right (by rw [h.1]; omega), h.1]
  exact k.2 _ p hp
theorem HdI.app {m : Mem} {us ws : List Value} {f g : Prt} (h : HdI m us f) (k : HdI m ws g) : HdI m (us ++ ws) (f ++ g) := by
 unfold HdI at *; rw [h, k, ints_append]
theorem HdF.nil (m : Mem) : HdF m [] [] := ⟨rfl, fun i p h => by simp at h⟩
theorem HdI.nil (m : Mem) : HdI m [] [] := rfl
theorem HdF.le {m m' : Mem} (h : Mem.Le m m') {us : List Value} {f : Fml} (k : HdF m us f) : HdF m' us f := ⟨k.1, fun i p hp => by obtain ⟨u, a, b⟩ := k.2 i p hp; exact ⟨u, a, b.le' h⟩⟩
theorem srcF {m : Mem} {A : Option Addr} {n c : Nat} {f : Fml} (h : FmV m (.slice A n c) f) : ∃ us, HdF m us f ∧ us.length = n ∧ (∀ (j : Nat) (u : Value), us[j]? = some u → ∃ a, A = some a ∧ mcell m (a.add j) = some u) ∧ ∀ u ∈ us, u.oneCell' = true := by
 obtain ⟨us, h1, h2⟩ := list_of (Q := fun i (u : Value) => ∃ a, A = some a ∧ mcell m (a.add i) = some u ∧ u.oneCell' = true ∧ ∀ p, f[i]? = some p → SlI m .i64 u p) f.length fun i hi => by
  obtain ⟨a, A', n', c', ea, hc, hp⟩ := h.at_ hi
  rw [scale_eq, Nat.mul_one] at hc
  exact ⟨_, a, ea, hc, rfl, fun p hq => by rw [List.getElem?_eq_getElem hi] at hq; cases hq; exact hp⟩
 obtain ⟨A', n', c', e, hn, -⟩ := id h
 cases e
 refine ⟨us, ⟨h1, fun i p hp => ?_⟩, by omega, fun j u hu => ?_, fun u hu => ?_⟩
 ·have hi : i < us.length := by rw [h1]; exact (List.getElem?_eq_some_iff.1 hp).1
  obtain ⟨a, -, -, -, h3⟩ := h2 i _ (List.getElem?_eq_getElem hi)
  exact ⟨_, List.getElem?_eq_getElem hi, h3 p hp⟩
 ·obtain ⟨a, ea, hc, -⟩ := h2 j u hu; exact ⟨a, ea, hc⟩
 ·obtain ⟨j, hj⟩ := List.getElem?_of_mem hu
  obtain ⟨a, -, -, h3, -⟩ := h2 j u hj; exact h3
theorem srcI {m : Mem} {A : Option Addr} {n c : Nat} {p : Prt} (h : SlI m .i64 (.slice A n c) p) : ∃ us, HdI m us p ∧ us.length = n ∧ (∀ (j : Nat) (u : Value), us[j]? = some u → ∃ a, A = some a ∧ mcell m (a.add j) = some u) ∧ ∀ u ∈ us, u.oneCell' = true := by
 obtain ⟨hn, hc⟩ := h.cell
 refine ⟨ints .i64 p, rfl, by simp [ints, hn], fun j u hu => ?_, ints_one _ _⟩
 simp only [ints, List.getElem?_map, Option.map_eq_some_iff] at hu
 obtain ⟨z, hz, rfl⟩ := hu
 exact hc j z hz
theorem lenF {m : Mem} {us : List Value} {f : Fml} (h : HdF m us f) : us.length = f.length := h.1
theorem lenI {m : Mem} {us : List Value} {f : Prt} (h : HdI m us f) : us.length = f.length := by unfold HdI at h; rw [h]; simp [ints]
theorem growF_fn (m : Mem) (k : Nat) (hk : k ≤ 100000000) : Ev.Fn Tryz.prog 228 [.slice none 0 0, .int .i64 k] m [] fun m' L' u => m' = m ∧ OwnS 53 1 u [] L' := by
 have hmx : maxLen = 9223372036854775807 := rfl
 refine Fn.enter (N := 27) hX Tryz.func228 rfl rfl (by show _ ≤ _; simp) (fun w0 hL => ?_)
 conv => whnf
 by_cases h0 : k = 0
 ·subst h0
  conv => whnf
  repeat ((first | refine BrReq.no (by omega) ?_ | refine GenReq.cap hX rfl rfl rfl rfl rfl rfl ?_ | (refine go1 ?_;try(clear hL;intro w hL))); conv => whnf)
  exact RetReq.mk hL ⟨rfl, OwnS.nil _ _⟩
 ·conv => whnf
  repeat ((first | refine BrReq.no (by omega) ?_ | refine BrReq.yes (by omega) ?_ | refine GenReq.cap hX rfl rfl rfl rfl rfl rfl ?_ | refine SlReq.mk 0 0 rfl rfl (by omega) (by omega) ?_ | (refine go1 ?_;try(clear hL;intro w hL))); conv => whnf)
  refine RunReq.zeros hX 88 3 53 rfl rfl rfl rfl rfl rfl rfl rfl (k := k) (by show (k : Int) - (((0 : Nat) : Int) - ((0 : Nat) : Int)) = k; omega) (by omega) (by omega) hL ?_
  clear hL
  intro g gc cur w hge hle hcl hL
  conv => whnf
  repeat ((first | refine SlReq.mk 0 0 rfl rfl (by omega) (by omega) ?_ | (refine go1 ?_;try(clear hL;intro w hL))); conv => whnf)
  refine RetReq.mk hL ⟨rfl, ?_⟩
  have ho := OwnS.block (te := 53) (size := 1) (g := g) (n := 0) (cap := gc) (cur := cur) (by omega) hle (by omega)
  simp only [Nat.zero_mul, List.take_zero] at ho
  have ev : (if gc = 0 then some (⟨g, 0, none⟩ : Addr) else Option.map (fun x => Addr.add x (scale 0 1)) (some (⟨g, 0, none⟩ : Addr))) = some ⟨g, 0, none⟩ := by split <;> rfl
  show OwnS 53 1 (.slice (if gc = 0 then some (⟨g, 0, none⟩ : Addr) else Option.map (fun x => Addr.add x (scale 0 1)) (some (⟨g, 0, none⟩ : Addr))) 0 gc) [] _
  rw [ev]
  exact ho
def FsV (m : Mem) (v : Value) (xs : List (List Prt)) : Prop := Sl m 1 (fun cs x => ∃ u, cs = [u] ∧ FmV m u x) v xs
theorem fsAt {m : Mem} {A : Option Addr} {n c : Nat} {xs : List (List Prt)} (h : FsV m (.slice A n c) xs) {i : Nat} (hi : i < xs.length) : ∃ a A' n' c', A = some a ∧ mcell m (a.add (scale i 1)) = some (.slice A' n' c') ∧ FmV m (.slice A' n' c') xs[i] := by
 obtain ⟨a, cs, e1, e2, e3, u, rfl, hs⟩ := Sl.elem h i _ (List.getElem?_eq_getElem hi)
 obtain ⟨A', n', c', rfl, -⟩ := id hs
 have := e3 0 _ rfl
 have add0 : ∀ x : Addr, x.add 0 = x := fun x => by cases x; rfl
 rw [add0] at this
 exact ⟨a, A', n', c', e1, this, hs⟩
set_option maxHeartbeats 1000000 in
theorem concatF_fn (m : Mem) (v : Value) (xs : List (List Prt)) (h : FsV m v xs) (hb : xs.flatten.length ≤ 100000000) (hl : xs.length ≤ 1000) :
  Ev.Fn Tryz.prog 190 [v] m [] fun m' L' u => m' = m ∧ ∃ us, OwnS 53 1 u us L' ∧ HdF m us xs.flatten := by
 have hmx : maxLen = 9223372036854775807 := rfl
 obtain ⟨A, n, c, rfl, hn, hc, hm, -⟩ := id h
 subst hn
 have htk : ∀ j, j ≤ xs.length → (xs.take j).flatten.length ≤ 100000000 := fun j hj => by
  have := congrArg (fun y => (List.flatten y).length) (List.take_append_drop j xs)
  simp only [List.flatten_append, List.length_append] at this
  omega
 refine Fn.enter (N := 36) hX Tryz.func190 rfl rfl (by show _ ≤ _; simp) (fun w0 hL => ?_)
 conv => whnf
 refine go ?_;try(clear hL;intro w hL)
 refine LoopReq.inv hX (fun j : Nat => [(3, .int .i64 (xs.take j).flatten.length), (11, .int .i64 j)]) [0, 9, 10]
  (fun j w => j ≤ xs.length ∧ Ev.Loc m [] w0 m [] w) (fun j => xs.length - j) 0 ⟨Nat.zero_le _, hL⟩ ⟨by rw [List.take_zero]; rfl, rfl, trivial⟩ ?_
 clear hL
 rintro j w f ⟨hj, hL⟩
 refine go ?_;try(clear hL;intro w hL)
 refine BrReq.dec (fun hlt => ?_) (fun hlt => ?_)
 ·have hj1 : j < xs.length := by omega
  obtain ⟨a, A', n', c', ea, hcell, hp⟩ := fsAt h hj1
  obtain ⟨A2, n2, c2, e2, hn2, -⟩ := id hp
  injection e2 with e3 e4 e5
  subst e3 e4 e5
  have hs1 : (xs.take (j + 1)).flatten.length = (xs.take j).flatten.length + n' := by rw [take_succ' hj1, List.flatten_append, List.length_append, hn2]; simp
  have hb1 := htk (j + 1) (by omega)
  conv => whnf
  repeat ((first | refine Idx2Req.mk j a rfl (by omega) ea ?_ | refine LdReq.one hX rfl rfl hL hcell ?_ | refine BrReq.no (by omega) ?_ | (refine go1 ?_;try(clear hL;intro w hL))); conv => whnf)
  refine ⟨j + 1, ⟨by omega, hL⟩, by first | omega | (simp only; omega) | (simp only [List.length_cons, List.length_append]; omega), ?_, ?_⟩
  ·repeat (first | exact trivial | (refine And.intro (by (conv => lhs; whnf) <;> (conv => rhs; whnf) <;> (first | rfl | ((rw [hs1]; rfl)))) ?_))
  ·repeat (first | exact trivial | (refine And.intro (by (conv => lhs; whnf) <;> (conv => rhs; whnf) <;> (first | rfl | ((rw [hs1]; rfl)))) ?_))
 have ej : j = xs.length := by omega
 subst ej
 rw [List.take_length]
 refine go ?_;try(clear hL;intro w hL)
 refine CallReq.mk (L1 := []) (growF_fn m xs.flatten.length hb) hL ?_
 clear hL
 rintro u mx L1 w hL - ⟨hmx2, ho⟩
 rw [hmx2] at hL
 clear hmx2 mx
 obtain ⟨A0, n0, c0, rfl, -⟩ := ho.slice
 rw [List.append_nil] at hL
 refine go ?_;try(clear hL;intro w hL)
 refine LoopReq.inv hX (fun s : Nat × Option Addr × Nat × Nat => [(6, .slice s.2.1 s.2.2.1 s.2.2.2), (27, .int .i64 s.1)]) [25, 26]
  (fun s w => s.1 ≤ xs.length ∧ ∃ us L2, OwnS 53 1 (.slice s.2.1 s.2.2.1 s.2.2.2) us L2 ∧ HdF m us (xs.take s.1).flatten ∧ Ev.Loc m [] w0 m L2 w) (fun s => xs.length - s.1) (0, A0, n0, c0)
  ⟨Nat.zero_le _, [], L1, ho, by rw [List.take_zero]; exact HdF.nil m, hL⟩ ⟨rfl, rfl, trivial⟩ ?_
 clear hL ho
 rintro ⟨j, A3, n3, c3⟩ w f2 ⟨hj, us, L2, ho, hH, hL⟩
 simp only at hj ho hH
 refine go ?_;try(clear hL;intro w hL)
 refine BrReq.dec (fun hlt => ?_) (fun hlt => ?_)
 ·have hj1 : j < xs.length := by simp only at hlt; omega
  obtain ⟨a, A', n', c', ea, hcell, hp⟩ := fsAt h hj1
  obtain ⟨ws, hw1, hw2, hw3, hw4⟩ := srcF hp
  have hH2 := hH.app hw1
  rw [show (xs.take j).flatten ++ xs[j] = (xs.take (j + 1)).flatten by rw [take_succ' hj1, List.flatten_append, List.flatten_cons, List.flatten_nil, List.append_nil]] at hH2
  have hb1 := htk (j + 1) (by omega)
  have hlen := lenF hH2
  rw [List.length_append] at hlen
  rw [← List.append_nil L2] at hL
  conv => whnf
  repeat ((first | (refine Idx2Req.mk j a rfl (by simp only at hlt; omega) ea ?_) | refine LdReq.one hX rfl rfl hL hcell ?_ | (refine go1 ?_;try(clear hL;intro w hL))); conv => whnf)
  refine RunReq.append hX 88 53 rfl rfl rfl rfl rfl ho hL (by rw [hw2]; exact (Nat.mul_one _).symm) (fun q u hq => by obtain ⟨x, e, hx⟩ := hw3 q u hq; exact ⟨x, e, hL.cell hx⟩) hw4 (by omega) rfl ?_
  clear hL
  intro A4 n4 c4 L4 w hn4 ho4 hL
  rw [List.append_nil] at hL
  refine go ?_;try(clear hL;intro w hL)
  exact rnd (j + 1, A4, n4, c4) ⟨by simp only; omega, _, L4, ho4, hH2, hL⟩
 have ej : j = xs.length := by simp only at hlt; omega
 subst ej
 rw [List.take_length] at hH
 refine go ?_;try(clear hL;intro w hL)
 exact RetReq.mk hL ⟨rfl, us, ho, hH⟩
theorem growI_fn (m : Mem) (k : Nat) (hk : k ≤ 100000000) : Ev.Fn Tryz.prog 170 [.slice none 0 0, .int .i64 k] m [] fun m' L' u => m' = m ∧ OwnS 3 1 u [] L' := by
 have hmx : maxLen = 9223372036854775807 := rfl
 refine Fn.enter (N := 27) hX Tryz.func170 rfl rfl (by show _ ≤ _; simp) (fun w0 hL => ?_)
 conv => whnf
 by_cases h0 : k = 0
 ·subst h0
  conv => whnf
  repeat ((first | refine BrReq.no (by omega) ?_ | refine GenReq.cap hX rfl rfl rfl rfl rfl rfl ?_ | (refine go1 ?_;try(clear hL;intro w hL))); conv => whnf)
  exact RetReq.mk hL ⟨rfl, OwnS.nil _ _⟩
 ·conv => whnf
  repeat ((first | refine BrReq.no (by omega) ?_ | refine BrReq.yes (by omega) ?_ | refine GenReq.cap hX rfl rfl rfl rfl rfl rfl ?_ | refine SlReq.mk 0 0 rfl rfl (by omega) (by omega) ?_ | (refine go1 ?_;try(clear hL;intro w hL))); conv => whnf)
  refine RunReq.zeros hX 53 3 3 rfl rfl rfl rfl rfl rfl rfl rfl (k := k) (by show (k : Int) - (((0 : Nat) : Int) - ((0 : Nat) : Int)) = k; omega) (by omega) (by omega) hL ?_
  clear hL
  intro g gc cur w hge hle hcl hL
  conv => whnf
  repeat ((first | refine SlReq.mk 0 0 rfl rfl (by omega) (by omega) ?_ | (refine go1 ?_;try(clear hL;intro w hL))); conv => whnf)
  refine RetReq.mk hL ⟨rfl, ?_⟩
  have ho := OwnS.block (te := 3) (size := 1) (g := g) (n := 0) (cap := gc) (cur := cur) (by omega) hle (by omega)
  simp only [Nat.zero_mul, List.take_zero] at ho
  have ev : (if gc = 0 then some (⟨g, 0, none⟩ : Addr) else Option.map (fun x => Addr.add x (scale 0 1)) (some (⟨g, 0, none⟩ : Addr))) = some ⟨g, 0, none⟩ := by split <;> rfl
  show OwnS 3 1 (.slice (if gc = 0 then some (⟨g, 0, none⟩ : Addr) else Option.map (fun x => Addr.add x (scale 0 1)) (some (⟨g, 0, none⟩ : Addr))) 0 gc) [] _
  rw [ev]
  exact ho
def IsV (m : Mem) (v : Value) (xs : List (List Int)) : Prop := Sl m 1 (fun cs x => ∃ u, cs = [u] ∧ SlI m .i64 u x) v xs
theorem isAt {m : Mem} {A : Option Addr} {n c : Nat} {xs : List (List Int)} (h : IsV m (.slice A n c) xs) {i : Nat} (hi : i < xs.length) : ∃ a A' n' c', A = some a ∧ mcell m (a.add (scale i 1)) = some (.slice A' n' c') ∧ SlI m .i64 (.slice A' n' c') xs[i] := by
 obtain ⟨a, cs, e1, e2, e3, u, rfl, hs⟩ := Sl.elem h i _ (List.getElem?_eq_getElem hi)
 obtain ⟨A', n', c', rfl, -⟩ := id hs
 have := e3 0 _ rfl
 have add0 : ∀ x : Addr, x.add 0 = x := fun x => by cases x; rfl
 rw [add0] at this
 exact ⟨a, A', n', c', e1, this, hs⟩
set_option maxHeartbeats 1000000 in
theorem concatI_fn (m : Mem) (v : Value) (xs : List (List Int)) (h : IsV m v xs) (hb : xs.flatten.length ≤ 100000000) (hl : xs.length ≤ 1000) :
  Ev.Fn Tryz.prog 129 [v] m [] fun m' L' u => m' = m ∧ ∃ us, OwnS 3 1 u us L' ∧ HdI m us xs.flatten := by
 have hmx : maxLen = 9223372036854775807 := rfl
 obtain ⟨A, n, c, rfl, hn, hc, hm, -⟩ := id h
 subst hn
 have htk : ∀ j, j ≤ xs.length → (xs.take j).flatten.length ≤ 100000000 := fun j hj => by
  have := congrArg (fun y => (List.flatten y).length) (List.take_append_drop j xs)
  simp only [List.flatten_append, List.length_append] at this
  omega
 refine Fn.enter (N := 36) hX Tryz.func129 rfl rfl (by show _ ≤ _; simp) (fun w0 hL => ?_)
 conv => whnf
 refine go ?_;try(clear hL;intro w hL)
 refine LoopReq.inv hX (fun j : Nat => [(3, .int .i64 (xs.take j).flatten.length), (11, .int .i64 j)]) [0, 9, 10]
  (fun j w => j ≤ xs.length ∧ Ev.Loc m [] w0 m [] w) (fun j => xs.length - j) 0 ⟨Nat.zero_le _, hL⟩ ⟨by rw [List.take_zero]; rfl, rfl, trivial⟩ ?_
 clear hL
 rintro j w f ⟨hj, hL⟩
 refine go ?_;try(clear hL;intro w hL)
 refine BrReq.dec (fun hlt => ?_) (fun hlt => ?_)
 ·have hj1 : j < xs.length := by omega
  obtain ⟨a, A', n', c', ea, hcell, hp⟩ := isAt h hj1
  obtain ⟨A2, n2, c2, e2, hn2, -⟩ := id hp
  injection e2 with e3 e4 e5
  subst e3 e4 e5
  have hs1 : (xs.take (j + 1)).flatten.length = (xs.take j).flatten.length + n' := by rw [take_succ' hj1, List.flatten_append, List.length_append, hn2]; simp
  have hb1 := htk (j + 1) (by omega)
  conv => whnf
  repeat ((first | refine Idx2Req.mk j a rfl (by omega) ea ?_ | refine LdReq.one hX rfl rfl hL hcell ?_ | refine BrReq.no (by omega) ?_ | (refine go1 ?_;try(clear hL;intro w hL))); conv => whnf)
  refine ⟨j + 1, ⟨by omega, hL⟩, by first | omega | (simp only; omega) | (simp only [List.length_cons, List.length_append]; omega), ?_, ?_⟩
  ·repeat (first | exact trivial | (refine And.intro (by (conv => lhs; whnf) <;> (conv => rhs; whnf) <;> (first | rfl | ((rw [hs1]; rfl)))) ?_))
  ·repeat (first | exact trivial | (refine And.intro (by (conv => lhs; whnf) <;> (conv => rhs; whnf) <;> (first | rfl | ((rw [hs1]; rfl)))) ?_))
 have ej : j = xs.length := by omega
 subst ej
 rw [List.take_length]
 refine go ?_;try(clear hL;intro w hL)
 refine CallReq.mk (L1 := []) (growI_fn m xs.flatten.length hb) hL ?_
 clear hL
 rintro u mx L1 w hL - ⟨hmx2, ho⟩
 rw [hmx2] at hL
 clear hmx2 mx
 obtain ⟨A0, n0, c0, rfl, -⟩ := ho.slice
 rw [List.append_nil] at hL
 refine go ?_;try(clear hL;intro w hL)
 refine LoopReq.inv hX (fun s : Nat × Option Addr × Nat × Nat => [(6, .slice s.2.1 s.2.2.1 s.2.2.2), (27, .int .i64 s.1)]) [25, 26]
  (fun s w => s.1 ≤ xs.length ∧ ∃ us L2, OwnS 3 1 (.slice s.2.1 s.2.2.1 s.2.2.2) us L2 ∧ HdI m us (xs.take s.1).flatten ∧ Ev.Loc m [] w0 m L2 w) (fun s => xs.length - s.1) (0, A0, n0, c0)
  ⟨Nat.zero_le _, [], L1, ho, by rw [List.take_zero]; exact HdI.nil m, hL⟩ ⟨rfl, rfl, trivial⟩ ?_
 clear hL ho
 rintro ⟨j, A3, n3, c3⟩ w f2 ⟨hj, us, L2, ho, hH, hL⟩
 simp only at hj ho hH
 refine go ?_;try(clear hL;intro w hL)
 refine BrReq.dec (fun hlt => ?_) (fun hlt => ?_)
 ·have hj1 : j < xs.length := by simp only at hlt; omega
  obtain ⟨a, A', n', c', ea, hcell, hp⟩ := isAt h hj1
  obtain ⟨ws, hw1, hw2, hw3, hw4⟩ := srcI hp
  have hH2 := hH.app hw1
  rw [show (xs.take j).flatten ++ xs[j] = (xs.take (j + 1)).flatten by rw [take_succ' hj1, List.flatten_append, List.flatten_cons, List.flatten_nil, List.append_nil]] at hH2
  have hb1 := htk (j + 1) (by omega)
  have hlen := lenI hH2
  rw [List.length_append] at hlen
  rw [← List.append_nil L2] at hL
  conv => whnf
  repeat ((first | (refine Idx2Req.mk j a rfl (by simp only at hlt; omega) ea ?_) | refine LdReq.one hX rfl rfl hL hcell ?_ | (refine go1 ?_;try(clear hL;intro w hL))); conv => whnf)
  refine RunReq.append hX 53 3 rfl rfl rfl rfl rfl ho hL (by rw [hw2]; exact (Nat.mul_one _).symm) (fun q u hq => by obtain ⟨x, e, hx⟩ := hw3 q u hq; exact ⟨x, e, hL.cell hx⟩) hw4 (by omega) rfl ?_
  clear hL
  intro A4 n4 c4 L4 w hn4 ho4 hL
  rw [List.append_nil] at hL
  refine go ?_;try(clear hL;intro w hL)
  exact rnd (j + 1, A4, n4, c4) ⟨by simp only; omega, _, L4, ho4, hH2, hL⟩
 have ej : j = xs.length := by simp only at hlt; omega
 subst ej
 rw [List.take_length] at hH
 refine go ?_;try(clear hL;intro w hL)
 exact RetReq.mk hL ⟨rfl, us, ho, hH⟩
end Go.Proofs.YtaooenndoopgdaaGreatDoor.fo
namespace Go.Proofs.YtaooenndoopgdaaGreatDoor.fo
open Go Go.Ev Go.Proofs
def sortI (zs : List Int) : List Int := zs.mergeSort fun x y => decide (x ≤ y)
theorem get! {l : List Int} {j : Nat} (h : j < l.length) : l.toArray[j]! = l[j] := by simp [getElem!_pos, h]
theorem compact_mem {l : List Int} {z : Int} (h : z ∈ Lib.compact l) : z ∈ l := by
 unfold Lib.compact Lib.compactUpTo at h
 obtain ⟨j, hj, rfl⟩ := List.mem_map.1 h
 have hj := List.mem_range.1 (List.mem_filter.1 hj).1
 rw [get! hj]; exact List.getElem_mem hj
theorem compact_len (l : List Int) : (Lib.compact l).length ≤ l.length := by
 unfold Lib.compact Lib.compactUpTo
 rw [List.length_map]
 have := List.length_filter_le (Lib.keeps l.toArray) (List.range l.length)
 rwa [List.length_range] at this
theorem compact_mem' {l : List Int} {z : Int} : z ∈ l → z ∈ Lib.compact l := by
 intro h
 have hex : ∃ j, j < l.length ∧ l.toArray[j]! = z := by
  obtain ⟨j, hj, e⟩ := List.getElem_of_mem h
  exact ⟨j, hj, by rw [get! hj, e]⟩
 obtain ⟨j, ⟨hj, e⟩, hmin⟩ : ∃ j, (j < l.length ∧ l.toArray[j]! = z) ∧ ∀ i, i < j → ¬ (i < l.length ∧ l.toArray[i]! = z) := by
  obtain ⟨j0, h0⟩ := hex
  induction j0 using Nat.strongRecOn with
  | ind j0 ih =>
    by_cases hm : ∃ i, i < j0 ∧ (i < l.length ∧ l.toArray[i]! = z)
    ·obtain ⟨i, hi, h1⟩ := hm; exact ih i hi h1
    ·exact ⟨j0, h0, fun i hi h1 => hm ⟨i, hi, h1⟩⟩
 unfold Lib.compact Lib.compactUpTo
 refine List.mem_map.2 ⟨j, List.mem_filter.2 ⟨List.mem_range.2 hj, ?_⟩, e⟩
 unfold Lib.keeps
 refine decide_eq_true ?_
 by_cases h0 : j = 0
 ·exact .inl h0
 ·right
  intro e2
  exact hmin (j - 1) (by omega) ⟨by omega, by rw [← e2, e]⟩
theorem compact_lt {l : List Int} (h : l.Pairwise (· ≤ ·)) : (Lib.compact l).Pairwise (· < ·) := by
 unfold Lib.compact Lib.compactUpTo
 rw [List.pairwise_map]
 have hp : ((List.range l.length).filter (Lib.keeps l.toArray)).Pairwise (· < ·) := List.pairwise_lt_range.filter _
 refine hp.imp_of_mem fun {a b} ha hb hab => ?_
 have ha' := List.mem_range.1 (List.mem_filter.1 ha).1
 have hb' := List.mem_range.1 (List.mem_filter.1 hb).1
 have hk := (List.mem_filter.1 hb).2
 unfold Lib.keeps at hk
 have hk := of_decide_eq_true hk
 rw [get! ha', get! hb']
 rw [List.pairwise_iff_getElem] at h
 rcases hk with h0 | hk
 ·omega
 ·rw [get! hb', get! (by omega : b - 1 < l.length)] at hk
  have h1 : l[b - 1] ≤ l[b] := h (b - 1) b (by omega) hb' (by omega)
  have h2 : l[a] ≤ l[b - 1] := by
   by_cases e : a = b - 1
   ·subst e; exact Int.le_refl _
   ·exact h a (b - 1) ha' (by omega) (by omega)
  omega
theorem sortI_le (l : List Int) : (sortI l).Pairwise (· ≤ ·) := by
 unfold sortI
 have := List.pairwise_mergeSort (le := fun x y : Int => decide (x ≤ y)) (fun a b c h1 h2 => by simp only [decide_eq_true_eq] at *; omega) (fun a b => by simp only [Bool.or_eq_true, decide_eq_true_eq]; omega) l
 exact this.imp fun h => of_decide_eq_true h
theorem sortI_len (l : List Int) : (sortI l).length = l.length := by unfold sortI; rw [List.length_mergeSort]
def joinP (p q : Prt) : Prt := Lib.compact (sortI (p ++ q))
theorem join_iff {p q : Prt} {z : Int} : z ∈ joinP p q ↔ z ∈ p ∨ z ∈ q := by
 unfold joinP
 constructor
 ·intro h
  have h := compact_mem h
  unfold sortI at h
  rw [List.mem_mergeSort, List.mem_append] at h
  exact h
 ·intro h
  refine compact_mem' ?_
  unfold sortI
  rw [List.mem_mergeSort, List.mem_append]
  exact h
theorem join_rises {p q : Prt} (hp : Rises p) (hq : Rises q) : Rises (joinP p q) :=
 ⟨fun n hn => (join_iff.1 hn).elim (hp.1 n) (hq.1 n), compact_lt (sortI_le _)⟩
def In (A : Prt) (f : Fml) : Prop := ∀ p ∈ f, ∀ n ∈ p, n ∈ A
theorem nodup_sub : ∀ (A l : List Int), l.Nodup → (∀ x ∈ l, x ∈ A) → l.length ≤ A.length
 | [], l, _, h => by cases l with | nil => simp | cons a l => exact absurd (h a (by simp)) (by simp)
 | a :: A, l, hn, h => by
   have h1 := nodup_sub A (l.erase a) (hn.erase a) fun x hx => by
    have hne : x ≠ a := fun e => by subst e; exact hn.not_mem_erase hx
    rcases List.mem_cons.1 (h x (List.mem_of_mem_erase hx)) with e | e
    ·exact absurd e hne
    ·exact e
   have := List.length_erase (a := a) (l := l)
   rw [List.length_cons]
   split at this <;> omega
theorem rises_len {A p : Prt} (hp : Rises p) (h : ∀ n ∈ p, n ∈ A) : p.length ≤ A.length :=
 nodup_sub A p (hp.2.imp fun h e => by omega) h
def ones (p : Prt) : Fml := p.map fun n => [n]
theorem ones_formed {p : Prt} (h : Rises p) : FormedP (ones p) := by
 refine ⟨fun q hq => ?_, ?_, ?_⟩
 ·obtain ⟨n, hn, rfl⟩ := List.mem_map.1 hq
  exact ⟨fun k hk => by rw [List.mem_singleton.1 hk]; exact h.1 n hn, List.pairwise_singleton _ _⟩
 ·unfold ones
  rw [List.pairwise_map]
  refine h.2.imp fun {a b} hab => .inr ⟨rfl, ?_⟩
  rw [lexB, if_neg (by omega)]
  exact decide_eq_true hab
 ·unfold ones
  rw [List.pairwise_map]
  refine h.2.imp fun {a b} hab hs => ?_
  have := List.mem_singleton.1 (hs a (by simp))
  omega
structure Dl (A : Prt) (f r : Fml) : Prop where
 formed : FormedP r
 in_ : In A r
 holds : ∀ S, holdsP r S ↔ ∀ p ∈ f, ∃ n ∈ p, n ∈ S
theorem Dl.start (A : Prt) : Dl A [] [[]] :=
 ⟨⟨fun p hp => by rw [List.mem_singleton.1 hp]; exact ⟨fun n hn => by (cases hn), .nil⟩, List.pairwise_singleton _ _, List.pairwise_singleton _ _⟩, fun p hp n hn => (by rw [List.mem_singleton.1 hp] at hn; cases hn),
   fun S => ⟨fun _ p hp => by (cases hp), fun _ => ⟨[], by simp, fun n hn => by (cases hn)⟩⟩⟩
end Go.Proofs.YtaooenndoopgdaaGreatDoor.fo
namespace Go.Proofs.YtaooenndoopgdaaGreatDoor.fo
open Go Go.Ev Go.Proofs Go.Sort
section
variable {α : Type} [Inhabited α] {enc : α → Value}
theorem putRow_get {w : World} {g q n : Nat} {cur : List Value} {te : TypeId} {os : Array Obj} {zs : List α} (hg : w.heap[g]? = some (.cells (toArr cur) te (0, 0))) (hn : zs.length = n) (hc : n ≤ cur.length) :
  (grow (putRow enc (Sort.ahead w q) g 0 zs.toArray) os).heap[g]? = some (.cells (toArr (zs.map enc ++ cur.drop n)) te (0, 0)) ∧
  ∀ k, k < w.heap.size → k ≠ g → (grow (putRow enc (Sort.ahead w q) g 0 zs.toArray) os).heap[k]? = w.heap[k]? := by
 have hgl : g < w.heap.size := heap_lt hg
 have e : ∀ k, k < w.heap.size → (grow (putRow enc (Sort.ahead w q) g 0 zs.toArray) os).heap[k]? = if g = k then (w.heap[k]?).map (onCells (putCells enc 0 zs.toArray)) else w.heap[k]? := by
  intro k hk
  show ((w.heap.modify g (onCells (putCells enc 0 zs.toArray))) ++ os)[k]? = _
  rw [Array.getElem?_append_left (by simpa using hk), Array.getElem?_modify]
 refine ⟨?_, fun k hk hne => by rw [e k hk, if_neg (fun h => hne h.symm)]⟩
 rw [e g hgl, if_pos rfl, hg]
 simp only [Option.map_some, onCells]
 congr 2
 apply Array.ext_getElem?
 intro k
 simp only [putCells, toArr, Array.getElem?_mapIdx, List.getElem?_toArray, List.size_toArray]
 by_cases hk : k < n
 ·rw [List.getElem?_append_left (by simp; omega)]
  rw [List.getElem?_eq_getElem (by omega : k < cur.length)]
  simp only [Option.map_some]
  rw [if_pos ⟨by omega, by omega⟩]
  simp only [List.getElem?_map, Nat.sub_zero]
  rw [List.getElem?_eq_getElem (by omega : k < zs.length)]
  simp [getElem!_pos, show k < zs.length by omega]
 ·rw [List.getElem?_append_right (by simp; omega)]
  simp only [List.length_map, List.getElem?_drop]
  rw [show n + (k - zs.length) = k by omega]
  cases cur[k]? with
  | none => rfl
  | some v => simp only [Option.map_some]; rw [if_neg (by omega)]
theorem loc_row {m : Mem} {w : World} {g q n : Nat} {cur : List Value} {te : TypeId} {os : Array Obj} {zs : List α} (h : Pre m [(g, .cells (toArr cur) te (0, 0))] w) (hn : zs.length = n) (hc : n ≤ cur.length) :
  Ev.Loc m [g] w m [(g, .cells (toArr (zs.map enc ++ cur.drop n)) te (0, 0))] (grow (putRow enc (Sort.ahead w q) g 0 zs.toArray) os) := by
 have hg := h.own _ List.mem_cons_self
 obtain ⟨h1, h2⟩ := putRow_get (enc := enc) (q := q) (os := os) hg hn hc
 have hsz : w.heap.size ≤ (grow (putRow enc (Sort.ahead w q) g 0 zs.toArray) os).heap.size := by simp
 refine ⟨rfl, rfl, rfl, hsz, fun k hk hs => h2 k hk (fun e => hs (by simp [e])), fun b o hb => ?_, fun b o hb => h.apart b o hb, fun x hx => ?_, h.nodup, fun b hb => .inr hb, Mem.Le.refl m, fun b o hb => .inl hb⟩
 ·have h3 := h.sub b o hb
  have hne : b ≠ g := fun e => h.apart b o hb (by simp [keys, e])
  rw [h2 b (heap_lt h3) hne]; exact h3
 ·rw [List.mem_singleton.1 hx]; exact h1
theorem holds_own {w : World} {g n : Nat} {cur : List Value} {te : TypeId} {zs : List α} (hg : w.heap[g]? = some (.cells (toArr cur) te (0, 0))) (hn : zs.length = n) (ht : cur.take n = zs.map enc) : Holds enc w g 0 zs.toArray := by
 intro j hj
 simp only [List.size_toArray] at hj
 have h1 : cur[j]? = some (enc zs[j]) := by
  have : (cur.take n)[j]? = (zs.map enc)[j]? := by rw [ht]
  rw [List.getElem?_take_of_lt (by omega)] at this
  rw [this]; simp [List.getElem?_eq_getElem hj]
 refine ⟨?_, ?_⟩
 ·unfold World.cell?
  simp only [hg, Nat.zero_add]
  show (toArr cur)[j]? = _
  rw [toArr, List.getElem?_toArray, h1]
  simp [getElem!_pos, hj]
 ·unfold World.frozen?
  simp only [hg]
  simp
end
theorem sortG_fn (m : Mem) (A : Option Addr) (n c : Nat) (zs : List Int) (L1 : Own) (ho : OwnS 3 1 (.slice A n c) (ints .i64 zs) L1) (hb : zs.length ≤ 100000000) :
  Ev.Fn Tryz.prog 130 [.slice A n c] m L1 fun m' L' u => m' = m ∧ u = .tuple (toArr []) ∧ OwnS 3 1 (.slice A n c) (ints .i64 (sortI zs)) L' := by
 obtain ⟨k, hk, ⟨e, h0, rfl⟩ | ⟨g, cap, cur, e, rfl, h1, h2, h3, h4⟩⟩ := ho
 ·cases e
  have hz : zs = [] := List.eq_nil_of_length_eq_zero (by simp [ints] at hk; omega)
  subst hz
  intro w hw
  refine (Tryz.slices_Sort_int_none none 0 w).mono ?_
  rintro e w' ⟨rfl, rfl⟩
  exact ⟨_, m, [], rfl, hw.loc, rfl, rfl, by rw [show sortI [] = [] from by unfold sortI; simp]; exact OwnS.nil _ _⟩
 ·cases e
  have hzl : zs.length = n := by simpa [ints] using hk
  intro w hw
  have hg := hw.own _ List.mem_cons_self
  rw [Nat.mul_one] at h4
  have hH := holds_own (enc := Value.int .i64) hg hzl h4
  have hcall := Tryz.slices_Sort_int g 0 c zs w hH (heap_lt hg) (by omega)
  rw [hzl] at hcall
  refine hcall.mono ?_
  rintro e w' ⟨rfl, q, os, rfl⟩
  have hsl : (sortI zs).length = n := by unfold sortI; rw [List.length_mergeSort]; exact hzl
  have hcl : n ≤ cur.length := by omega
  refine ⟨_, m, _, rfl, loc_row (enc := Value.int .i64) (zs := sortI zs) hw hsl hcl, rfl, rfl, n, by simp [ints, hsl], .inr ⟨g, c, _, rfl, rfl, h1, h2, ?_, ?_⟩⟩
  ·simp [hsl]; omega
  ·rw [Nat.mul_one, List.take_left' (by simp [hsl])]; rfl
theorem compactG_fn (m : Mem) (A : Option Addr) (n c : Nat) (zs : List Int) (L1 : Own) (ho : OwnS 3 1 (.slice A n c) (ints .i64 zs) L1) (hb : zs.length ≤ 100000000) :
  Ev.Fn Tryz.prog 131 [.slice A n c] m L1 fun m' L' u => m' = m ∧ OwnS 3 1 u (ints .i64 (Lib.compact zs)) L' := by
 obtain ⟨k, hk, ⟨e, h0, rfl⟩ | ⟨g, cap, cur, e, rfl, h1, h2, h3, h4⟩⟩ := ho
 ·cases e
  have hz : zs = [] := List.eq_nil_of_length_eq_zero (by simp [ints] at hk; omega)
  subst hz
  intro w hw
  refine (Tryz.slices_Compact_int_empty none 0 w).mono ?_
  rintro e w' ⟨rfl, rfl⟩
  exact ⟨_, m, [], rfl, hw.loc, rfl, OwnS.nil _ _⟩
 ·cases e
  have hzl : zs.length = n := by simpa [ints] using hk
  have hcl := compact_len zs
  intro w hw
  have hg := hw.own _ List.mem_cons_self
  rw [Nat.mul_one] at h4
  have hH := holds_own (enc := Value.int .i64) hg hzl h4
  have hcall := Tryz.slices_Compact_int g 0 c zs w hH (by omega) (by omega)
  generalize Lib.compact zs = ys at hcl hcall ⊢
  rw [hzl] at hcall
  refine hcall.mono ?_
  rintro e w' ⟨rfl, q, rfl⟩
  have hsl : (ys ++ List.replicate (n - ys.length) 0).length = n := by simp; omega
  have hl := loc_row (enc := Value.int .i64) (q := q) (os := #[]) (zs := ys ++ List.replicate (n - ys.length) 0) hw hsl (by omega)
  rw [grow_empty] at hl
  refine ⟨_, m, _, rfl, hl, rfl, ys.length, by simp [ints], .inr ⟨g, c, _, rfl, rfl, by omega, h2, ?_, ?_⟩⟩
  ·simp; omega
  ·rw [Nat.mul_one, List.map_append, List.append_assoc, List.take_left' (by simp)]; rfl
set_option maxHeartbeats 1000000 in
theorem joined_fn (m : Mem) (v1 v2 : Value) (p q : Prt) (h1 : SlI m .i64 v1 p) (h2 : SlI m .i64 v2 q) (hb : p.length + q.length ≤ 100000) : Ev.Fn Tryz.prog 229 [v1, v2] m [] fun _ L' u => OwnS 3 1 u (ints .i64 (joinP p q)) L' := by
 obtain ⟨A1, n1, c1, rfl, -⟩ := id h1
 obtain ⟨A2, n2, c2, rfl, -⟩ := id h2
 refine Fn.enter (N := 14) hX Tryz.func229 rfl rfl (by show _ ≤ _; simp) (fun w0 hL => ?_)
 conv => whnf
 refine go ?_;try(clear hL;intro w hL)
 refine NewReq.mk hL ?_
 clear hL
 intro b8 w hL
 conv => whnf
 replace hL : Ev.Loc m [] w0 m ([(b8, .cells (toArr [.slice A1 n1 c1, .slice A2 n2 c2]) 53 (0, 0))] ++ []) w := hL
 obtain ⟨m1, hL1, hm1, hfs⟩ := freeze1 (l := [p, q]) (R := fun u x => SlI m .i64 u x) (OwnS.full (n := 2) (by decide) rfl) hL rfl (by
  intro i x hx
  match i, hx with
  | 0, hx => cases hx; exact ⟨_, rfl, h1⟩
  | 1, hx => cases hx; exact ⟨_, rfl, h2⟩
  | i + 2, hx => cases hx)
 have hfs' : IsV m1 _ [p, q] := Sl.le hfs (Mem.Le.refl _) fun _ _ _ ⟨u, e, h⟩ => ⟨u, e, h.le' hm1⟩
 clear hL
 have hL := hL1
 clear hL1
 have hfl : ([p, q] : List Prt).flatten = p ++ q := by simp
 refine go ?_;try(clear hL;intro w hL)
 refine CallReq.mk (L1 := []) (concatI_fn m1 _ [p, q] hfs' (by rw [hfl, List.length_append]; omega) (by simp)) hL ?_
 clear hL
 rintro u mx L1 w hL - ⟨hmx, us, ho, hH⟩
 rw [hmx] at hL
 clear hmx mx
 unfold HdI at hH
 rw [hfl] at hH
 subst hH
 obtain ⟨A, n, c, rfl, -⟩ := ho.slice
 refine go ?_;try(clear hL;intro w hL)
 refine CallReq.mk (L1 := L1) (sortG_fn m1 A n c (p ++ q) L1 ho (by rw [List.length_append]; omega)) hL ?_
 clear hL ho
 rintro u mx L2 w hL - ⟨hmx, rfl, ho⟩
 rw [hmx] at hL
 clear hmx mx
 refine go ?_;try(clear hL;intro w hL)
 refine CallReq.mk (L1 := L2) (compactG_fn m1 A n c _ L2 ho (by rw [sortI_len, List.length_append]; omega)) hL ?_
 clear hL ho
 rintro u mx L3 w hL - ⟨hmx, ho⟩
 rw [hmx] at hL
 clear hmx mx
 obtain ⟨A', n', c', rfl, -⟩ := ho.slice
 rw [List.append_nil] at hL
 refine go ?_;try(clear hL;intro w hL)
 exact RetReq.mk hL ho
theorem and_fn (m : Mem) (v1 v2 : Value) (p : Prt) (g : Fml) (h1 : SlI m .i64 v1 p) (h2 : FmV m v2 g) (hb : ∀ q ∈ g, p.length + q.length ≤ 100000) (hg : g.length ≤ 100000) : Ev.Fn Tryz.prog 191 [v1, v2] m [] fun m' L' u => ∃ us, OwnS 53 1 u us L' ∧ HdF m' us (g.map (joinP p)) := by
 have hmx : maxLen = 9223372036854775807 := rfl
 obtain ⟨A1, n1, c1, rfl, -⟩ := id h1
 obtain ⟨A2, n2, c2, rfl, hn2, hc2, hm2, -⟩ := id h2
 subst hn2
 refine Fn.enter (N := 22) hX Tryz.func191 rfl rfl (by show _ ≤ _; simp) (fun w0 hL => ?_)
 conv => whnf
 refine go ?_;try(clear hL;intro w hL)
 refine LoopReq.inv hX (fun s : Nat × Option Addr × Nat × Nat => [(5, .slice s.2.1 s.2.2.1 s.2.2.2), (10, .int .i64 s.1)]) [0, 8, 9]
  (fun s w => s.1 ≤ g.length ∧ ∃ m1 us L1, Mem.Le m m1 ∧ OwnS 53 1 (.slice s.2.1 s.2.2.1 s.2.2.2) us L1 ∧ HdF m1 us ((g.take s.1).map (joinP p)) ∧ Ev.Loc m [] w0 m1 L1 w) (fun s => g.length - s.1) (0, none, 0, 0)
  ⟨Nat.zero_le _, m, [], [], Mem.Le.refl m, OwnS.nil _ _, HdF.nil m, hL⟩ ⟨rfl, rfl, trivial⟩ ?_
 clear hL
 rintro ⟨j, A, n, c⟩ w f ⟨hj, m1, us, L1, hm1, ho, hH, hL⟩
 simp only at hj ho hH
 refine go ?_;try(clear hL;intro w hL)
 refine BrReq.dec (fun hlt => ?_) (fun hlt => ?_)
 ·have hj1 : j < g.length := by simp only at hlt; omega
  obtain ⟨a, A', n', c', ea, hcell, hq⟩ := (h2.le hm1).at_ hj1
  have hlen := lenF hH
  rw [List.length_map, List.length_take] at hlen
  conv => whnf
  repeat ((first | (refine Idx2Req.mk j a rfl (by simp only at hlt; omega) ea ?_) | refine LdReq.one hX rfl rfl hL hcell ?_ | (refine go1 ?_;try(clear hL;intro w hL))); conv => whnf)
  refine CallReq.mk (L1 := []) (joined_fn m1 _ _ p g[j] (h1.le' hm1) hq (hb _ (List.getElem_mem hj1))) hL ?_
  clear hL
  rintro u m2 Lx w hL hm12 hox
  obtain ⟨m3, hL3, hm23, hs3⟩ := OwnS.freeze hox hL
  clear hL
  have hL := hL3
  clear hL3
  obtain ⟨B, bn, bc, rfl, -⟩ := id hs3
  refine go ?_;try(clear hL;intro w hL)
  refine NewReq.mk hL ?_
  clear hL
  intro b18 w hL
  conv => whnf
  replace hL : Ev.Loc m [] w0 m3 ((b18, .cells (toArr [.slice B bn bc]) 53 (0, 0)) :: (L1 ++ [])) w := by rw [List.append_nil]; exact hL
  refine go ?_;try(clear hL;intro w hL)
  refine RunReq.push hX 88 53 rfl rfl rfl rfl rfl ho (L2 := []) hL rfl rfl (by show _ + 1 ≤ _; omega) rfl ?_
  clear hL
  intro A4 n4 c4 L4 w hn4 ho4 hL
  rw [List.append_nil] at hL
  have hH2 := (hH.le (hm12.trans hm23)).app (⟨rfl, fun i x hx => by
   cases i with
   | zero => cases hx; exact ⟨_, rfl, hs3⟩
   | succ i => cases hx⟩ : HdF m3 [.slice B bn bc] [joinP p g[j]])
  rw [show (g.take j).map (joinP p) ++ [joinP p g[j]] = (g.take (j + 1)).map (joinP p) by rw [take_succ' hj1, List.map_append]; rfl] at hH2
  refine go ?_;try(clear hL;intro w hL)
  exact rnd (j + 1, A4, n4, c4) ⟨by simp only; omega, m3, _, L4, hm1.trans (hm12.trans hm23), ho4, hH2, hL⟩
 ·have ej : j = g.length := by simp only at hlt; omega
  subst ej
  rw [List.take_length] at hH
  refine go ?_;try(clear hL;intro w hL)
  exact RetReq.mk hL ⟨us, ho, hH⟩
abbrev El (m : Mem) := {x : Value × Prt // SlI m .i64 x.1 x.2}
instance (m : Mem) : Inhabited (El m) := ⟨⟨(.slice none 0 0, []), Sl.nil _ _ _⟩⟩
def encE {m : Mem} (x : El m) : Value := x.1.1
def cfE {m : Mem} (x y : El m) : Int := ordI x.1.2 y.1.2
theorem ltE {m : Mem} {x y : El m} : ltOf cfE x y = true ↔ lessP x.1.2 y.1.2 := by
 unfold ltOf cfE; rw [decide_eq_true_iff]; exact ord_neg
theorem ltE_f {m : Mem} {x y : El m} : ltOf cfE x y = false ↔ ¬ lessP x.1.2 y.1.2 := by
 rw [← ltE]; simp
theorem swoE (m : Mem) : SWO (ltOf (cfE (m := m))) where
 irrefl x := ltE_f.2 (less_irrefl _)
 trans x y z h1 h2 := ltE.2 (less_trans (ltE.1 h1) (ltE.1 h2))
 ntrans x y z h1 h2 := ltE_f.2 fun h => by
  rcases less_total x.1.2 y.1.2 with k | k | k
  ·exact ltE_f.1 h1 k
  ·rw [k] at h; exact ltE_f.1 h2 h
  ·exact ltE_f.1 h2 (less_trans k h)
theorem oneE {m : Mem} (x : El m) : (encE x).oneCell' = true := by
 obtain ⟨⟨v, p⟩, h⟩ := x
 obtain ⟨A, n, c, e, -⟩ := id h
 simp only at e
 unfold encE
 simp only [e]; rfl
theorem els {m : Mem} {us : List Value} {f : Fml} (h : HdF m us f) : ∃ xs : List (El m), xs.map encE = us ∧ xs.map (fun x => x.1.2) = f := by
 obtain ⟨xs, h1, h2⟩ := list_of (Q := fun i (x : El m) => us[i]? = some (encE x) ∧ f[i]? = some x.1.2) f.length fun i hi => by
  obtain ⟨u, hu, hs⟩ := h.2 i _ (List.getElem?_eq_getElem hi)
  exact ⟨⟨(u, f[i]), hs⟩, hu, List.getElem?_eq_getElem hi⟩
 refine ⟨xs, List.ext_getElem? fun i => ?_, List.ext_getElem? fun i => ?_⟩
 ·rw [List.getElem?_map]
  cases hx : xs[i]? with
  | none =>
    have : us.length ≤ i := by rw [h.1]; have := List.getElem?_eq_none_iff.1 hx; omega
    rw [List.getElem?_eq_none this]; rfl
  | some x => rw [(h2 i x hx).1]; rfl
 ·rw [List.getElem?_map]
  cases hx : xs[i]? with
  | none =>
    have : f.length ≤ i := by have := List.getElem?_eq_none_iff.1 hx; omega
    rw [List.getElem?_eq_none this]; rfl
  | some x => rw [(h2 i x hx).2]; rfl
theorem hdf_of {m : Mem} (xs : List (El m)) : HdF m (xs.map encE) (xs.map fun x => x.1.2) := by
 refine ⟨by simp, fun i p hp => ?_⟩
 rw [List.getElem?_map] at hp
 cases hx : xs[i]? with
 | none => rw [hx] at hp; cases hp
 | some x => rw [hx] at hp; cases hp; exact ⟨encE x, by rw [List.getElem?_map, hx]; rfl, x.2⟩
theorem fn_same {P : Program} {f : Nat} {args : List Value} {m : Mem} {v : Value} (h : ∀ w, Calls P f (toArr args) w fun e w' => e = .returned v ∧ w' = w) : FnV P f args m v := by
 intro w hw
 refine (h w).mono ?_
 rintro e w' ⟨rfl, rfl⟩
 exact ⟨v, m, [], rfl, ⟨rfl, rfl, rfl, Nat.le_refl _, fun k hk _ => rfl, hw.sub, fun _ _ _ => by simp [keys], fun x hx => by simp at hx, by simp [keys], fun b hb => by simp [keys] at hb, Mem.Le.refl m, fun b o hb => .inl hb⟩, rfl, rfl⟩
theorem bitsLen_fn (m : Mem) (n : Nat) (h : n ≤ 1000000) : FnV Tryz.prog 172 [.int .u64 n] m (.int .i64 (Lib.bitLen n : Nat)) :=
 fn_same fun w => by
  have := Tryz.bits_Len n w (by omega) (by omega)
  rwa [Int.toNat_natCast] at this
theorem pdqF_fn (m : Mem) (A : Option Addr) (n c : Nat) (us : List Value) (f : Fml) (L1 : Own) (ho : OwnS 53 1 (.slice A n c) us L1) (hH : HdF m us f) (hb : f.length ≤ 1000000) :
  Ev.Fn Tryz.prog 247 [.slice A n c, .int .i64 0, .int .i64 n, .int .i64 (Lib.bitLen n : Nat), .func (.func 158) #[] #[]] m L1 fun m' L' u => m' = m ∧ u = .tuple (toArr []) ∧ ∃ us' d, OwnS 53 1 (.slice A n c) us' L' ∧ HdF m us' d ∧ d.Perm f ∧ d.Pairwise fun a b => ¬ lessP b a := by
 obtain ⟨k, hk, ⟨e, h0, rfl⟩ | ⟨g, cap, cur, e, rfl, h1, h2, h3, h4⟩⟩ := ho
 ·cases e
  have hz : us = [] := List.eq_nil_of_length_eq_zero (by omega)
  subst hz
  have hf : f = [] := List.eq_nil_of_length_eq_zero hH.1.symm
  subst hf
  intro w hw
  refine (Tryz.pdqsortCmpFunc_none (α := Nat) none 0 (Lib.bitLen 0 : Nat) (.func (.func 158) #[] #[]) w).mono ?_
  rintro e w' ⟨rfl, rfl⟩
  exact ⟨_, m, [], rfl, hw.loc, rfl, rfl, [], [], OwnS.nil _ _, HdF.nil m, List.Perm.refl _, .nil⟩
 ·cases e
  obtain ⟨xs, hx1, hx2⟩ := els hH
  have hxl : xs.length = n := by rw [← hx1, List.length_map, Nat.mul_one] at hk; exact hk
  have hfl : f.length = n := by rw [← hx2, List.length_map]; exact hxl
  intro w hw
  have hg := hw.own _ List.mem_cons_self
  rw [Nat.mul_one, ← hx1] at h4
  have hHd := holds_own (enc := encE) hg hxl h4
  have eg : ∀ args w, (callFunc 158 args).run Tryz.prog w = .ok (.enter 158 args) w := enters_of Tryz.func158 (by kernel_rfl) rfl
  have hcmp : CmpLays1 Tryz.prog 158 #[] (encE (m := m)) cfE g 0 xs.toArray.size w := by
   intro q os dk hdk x y
   have hdl : dk.toList.length = n := by simp at hdk; simp; omega
   have hpr : Pre m [] (sortWorld encE w g 0 q dk os) := by
    have hl := loc_row (enc := encE) (q := q) (os := os) (zs := dk.toList) hw hdl (by omega)
    simp only [Array.toArray_toList] at hl
    exact hl.drop.pre
   have := order_w m _ hpr (encE x) (encE y) x.1.2 y.1.2 x.2 y.2
   refine Calls.mono this fun e w' ⟨h1, h2⟩ => ⟨h1, 0, #[.cells (toArr [.int .i64 (cmpI x.1.2.length y.1.2.length), .int .i64 (cmpL x.1.2 y.1.2)]) 3 (0, 0)], ?_⟩
   rw [h2]
   unfold ordW
   rw [alloc_eq_grow]
   rfl
  have hxs : xs.toArray.size = n := by simp [hxl]
  have hbl : Lib.bitLen n ≤ 62 := Lib.bitLen_le n 62 (by omega) (by omega)
  have hcall := Tryz.pdqsortCmpFunc_all encE cfE 158 #[] (swoE m) g 0 c xs.toArray w eg hcmp ⟨oneE, hHd, heap_lt hg⟩ (n + 1) 0 n (Lib.bitLen n) xs.toArray w (by omega) rfl (SW.start hHd) (Nat.zero_le _) (by omega) (by omega) (by omega) (Or.inl rfl)
  rw [hxs] at hcall
  have hps := pdq_sorts (ltOf (cfE (m := m))) (swoE m) xs.toArray 0 n (Lib.bitLen n) true true (Nat.zero_le _) (by omega) (Or.inl rfl)
  generalize pdq (ltOf cfE) xs.toArray 0 n (Lib.bitLen n) true true = d' at hcall hps
  refine hcall.mono ?_
  rintro e w' ⟨rfl, q, os, rfl⟩
  obtain ⟨⟨hps, -, hpp⟩, hs⟩ := hps
  have hsz : d'.size = n := by rw [hps]; simp [hxl]
  have hdl : d'.toList.length = n := by simp [hsz]
  have hperm : d'.toList.Perm xs := by
   rw [show d'.extract 0 n = d' by rw [← hsz]; simp, show xs.toArray.extract 0 n = xs.toArray by rw [← hxl]; simp] at hpp
   simpa using hpp
  have hl := loc_row (enc := encE) (q := q) (os := os) (zs := d'.toList) hw hdl (by omega)
  simp only [Array.toArray_toList] at hl
  refine ⟨_, m, _, rfl, hl, rfl, rfl, d'.toList.map encE, d'.toList.map (fun x => x.1.2), ⟨n, by simp [hsz], .inr ⟨g, c, _, rfl, rfl, h1, h2, ?_, ?_⟩⟩, hdf_of _, ?_, ?_⟩
  ·simp [hsz]; omega
  ·rw [Nat.mul_one, List.take_left' (by simp [hsz])]
  ·rw [← hx2]; exact hperm.map _
  ·rw [List.pairwise_map, List.pairwise_iff_getElem]
   intro i j hi hj hij
   have := hs i j (Nat.zero_le _) hij (by simp at hj; omega)
   have h3 := ltE_f.1 this
   rw [getElem!_pos d' j (by simpa using hj), getElem!_pos d' i (by simpa using hi)] at h3
   simpa using h3
theorem sortF_fn (m : Mem) (A : Option Addr) (n c : Nat) (us : List Value) (f : Fml) (L1 : Own) (ho : OwnS 53 1 (.slice A n c) us L1) (hH : HdF m us f) (hb : f.length ≤ 1000000) :
  Ev.Fn Tryz.prog 225 [.slice A n c, .func (.func 158) #[] #[]] m L1 fun m' L' u => m' = m ∧ u = .tuple (toArr []) ∧ ∃ us' d, OwnS 53 1 (.slice A n c) us' L' ∧ HdF m us' d ∧ d.Perm f ∧ d.Pairwise fun a b => ¬ lessP b a := by
 have hn : n = f.length := by
  obtain ⟨_, _, _, e, hn⟩ := ho.slice
  cases e
  rw [← hH.1]; omega
 subst hn
 refine Fn.enter (N := 14) hX Tryz.func225 rfl rfl (by show _ ≤ _; simp) (fun w0 hL => ?_)
 conv => whnf
 generalize keys L1 = S0 at hL ⊢
 rw [← List.append_nil L1] at hL
 conv => whnf
 repeat ((first | (refine ArReq.keep (k := .u64) (by show (0 : Int) ≤ _; omega) (by show _ ≤ (18446744073709551615 : Int); omega) ?_) | (refine go1 ?_;try(clear hL;intro w hL))); conv => whnf)
 refine CallReq.val (bitsLen_fn m f.length hb) hL ?_
 clear hL
 intro w hL
 refine go ?_;try(clear hL;intro w hL)
 refine CallReq.mk (L1 := L1) (L2 := []) (pdqF_fn m A f.length c us f L1 ho hH hb) hL ?_
 clear hL
 rintro u mx L2 w hL - ⟨hmx2, rfl, us2, d, ho2, hH2, hperm, hsort⟩
 rw [hmx2] at hL
 clear hmx2 mx
 rw [List.append_nil] at hL
 refine go ?_;try(clear hL;intro w hL)
 exact RetReq.mk hL ⟨rfl, rfl, us2, d, ho2, hH2, hperm, hsort⟩
end Go.Proofs.YtaooenndoopgdaaGreatDoor.fo
namespace Go.Proofs.YtaooenndoopgdaaGreatDoor.fo
open Go Go.Ev Go.Proofs
theorem clone_fn (m : Mem) (v : Value) (l : List Int) (hl : SlI m .i64 v l) (hb : l.length ≤ 1000000) :
  Ev.Fn Tryz.prog 227 [v] m [] fun m' L' u => m' = m ∧ OwnS 3 1 u (ints .i64 l) L' := by
 obtain ⟨A, n, c, rfl, hn, hc, hm, -⟩ := id hl
 cases A with
 | none =>
   have hl0 := hl.none_nil
   subst hl0
   refine Fn.enter (N := 8) hX Tryz.func227 rfl rfl (by show _ ≤ _; simp) (fun w0 hL => ?_)
   conv => whnf
   refine go ?_;try(clear hL;intro w hL)
   exact RetReq.mk hL ⟨rfl, OwnS.nil _ _⟩
 | some a =>
   refine Fn.enter (N := 8) hX Tryz.func227 rfl rfl (by show _ ≤ _; simp) (fun w0 hL => ?_)
   conv => whnf
   refine go ?_;try(clear hL;intro w hL)
   refine NewReq.mk hL ?_
   clear hL
   intro g w hL
   conv => whnf
   replace hL : Ev.Loc m [] w0 m ([(g, .cells (toArr []) 3 (0, 0))] ++ []) w := hL
   refine RunReq.append hX 53 3 rfl rfl rfl rfl rfl (OwnS.full (n := 0) (by omega) rfl) hL (hl.src hL).1 (hl.src hL).2 (ints_one _ _) (by simp only [ints, List.length_map, List.length_nil]; omega) rfl ?_
   clear hL
   intro A2 n2 c2 L2 w hn2 ho hL
   rw [List.append_nil] at hL
   refine go ?_;try(clear hL;intro w hL)
   exact RetReq.mk hL ⟨rfl, ho⟩
theorem hd_freeze {m0 m : Mem} {S : List Nat} {w0 w : World} {v : Value} {us : List Value} {f : Fml} {L1 L2 : Ev.Own} (h : OwnS 53 1 v us L1) (hH : HdF m us f) (hL : Ev.Loc m0 S w0 m (L1 ++ L2) w) : ∃ m', Ev.Loc m0 S w0 m' L2 w ∧ Mem.Le m m' ∧ FmV m' v f :=
 fm_freeze h hL hH.1.symm hH.2
theorem hd_one {m : Mem} {u : Value} {p : Prt} (h : SlI m .i64 u p) : HdF m [u] [p] := ⟨rfl, fun i x hx => by
 cases i with
 | zero => cases hx; exact ⟨_, rfl, h⟩
 | succ i => cases hx⟩
set_option maxHeartbeats 2000000 in
theorem formed_fn (m : Mem) (u : Value) (us : List Value) (f : Fml) (L1 : Ev.Own) (ho : OwnS 53 1 u us L1) (hH : HdF m us f) (hb : f.length ≤ 100000) (hp : ∀ p ∈ f, p.length ≤ 100000) (hr : ∀ p ∈ f, Rises p) :
  Ev.Fn Tryz.prog 189 [u] m L1 fun m' L' v => L' = [] ∧ ∃ r, Canon f r ∧ FmV m' v r := by
 have hmx : maxLen = 9223372036854775807 := rfl
 obtain ⟨A, n, c, rfl, hn⟩ := ho.slice
 refine Fn.enter (N := 25) hX Tryz.func189 rfl rfl (by show _ ≤ _; simp) (fun w0 hL => ?_)
 conv => whnf
 generalize keys L1 = S0 at hL ⊢
 rw [← List.append_nil L1] at hL
 refine go ?_;try(clear hL;intro w hL)
 refine CallReq.mk (L1 := L1) (L2 := []) (sortF_fn m A n c us f L1 ho hH (by omega)) hL ?_
 clear hL
 rintro u mx L2 w hL - ⟨hmx2, rfl, us2, d, ho2, hH2, hperm, hsort⟩
 rw [hmx2] at hL
 clear hmx2 mx ho hH
 obtain ⟨m1, hL1, hm1, hfd⟩ := hd_freeze ho2 hH2 hL
 clear hL
 have hL := hL1
 clear hL1
 have hrd : ∀ p ∈ d, Rises p := fun p h => hr p (hperm.mem_iff.1 h)
 have hpd : ∀ p ∈ d, p.length ≤ 100000 := fun p h => hp p (hperm.mem_iff.1 h)
 have hdl := hperm.length_eq
 have hcan := (mini_canon hrd hsort).perm hperm
 have hfd' := hfd
 obtain ⟨A', n', c', e, hnd, hcd, hmd, -⟩ := hfd'
 injection e with e1 e2 e3
 subst e1 e2 e3
 refine go ?_;try(clear hL;intro w hL)
 refine LoopReq.inv hX (fun s : Nat × Option Addr × Nat × Nat => [(3, .slice s.2.1 s.2.2.1 s.2.2.2), (10, .int .i64 s.1)]) [8, 9]
  (fun s w => s.1 ≤ d.length ∧ ∃ m2 us L2, Mem.Le m1 m2 ∧ OwnS 53 1 (.slice s.2.1 s.2.2.1 s.2.2.2) us L2 ∧ HdF m2 us (mini (d.take s.1)) ∧ Ev.Loc m S0 w0 m2 L2 w) (fun s => d.length - s.1) (0, none, 0, 0)
  ⟨Nat.zero_le _, m1, [], [], Mem.Le.refl _, OwnS.nil _ _, HdF.nil _, hL⟩ ⟨rfl, rfl, trivial⟩ ?_
 clear hL
 rintro ⟨j, B, bn, bc⟩ w g ⟨hj, m2, us3, L3, hm12, ho3, hH3, hL⟩
 simp only at hj ho3 hH3
 refine go ?_;try(clear hL;intro w hL)
 refine BrReq.dec (fun hlt => ?_) (fun hlt => ?_)
 rotate_left
 ·have ej : j = d.length := by simp only at hlt; omega
  subst ej
  rw [List.take_length] at hH3
  refine go ?_;try(clear hL;intro w hL)
  rw [← List.append_nil L3] at hL
  obtain ⟨m3, hL3, hm23, hf3⟩ := hd_freeze ho3 hH3 hL
  exact RetReq.mk hL3 ⟨rfl, _, hcan, hf3⟩
 have hj1 : j < d.length := by simp only at hlt; omega
 obtain ⟨a, A5, n5, c5, ea, hcell, hpq⟩ := (hfd.le hm12).at_ hj1
 conv => whnf
 repeat ((first | (refine Idx2Req.mk j a rfl (by simp only at hlt; omega) ea ?_) | refine LdReq.one hX rfl rfl hL hcell ?_ | (refine go1 ?_;try(clear hL;intro w hL))); conv => whnf)
 refine NewReq.mk hL ?_
 clear hL
 intro b5 w hL
 conv => whnf
 replace hL : Ev.Loc m S0 w0 m2 ((b5, .cells (toArr [.slice none 0 0]) 53 (0, 0)) :: L3) w := hL
 refine gos ?_;try(clear hL;intro w hL)
 replace hL : Ev.Loc m S0 w0 m2 ((b5, .cells (toArr [.slice A5 n5 c5]) 53 (0, 0)) :: L3) w := hL
 have hm23 := hL.le_add
 have hL := hL.freeze
 have hc5 : mcell (m2.add b5 (.cells (toArr [.slice A5 n5 c5]) 53 (0, 0))) ⟨b5, 0, none⟩ = some (.slice A5 n5 c5) := mcell_add rfl
 generalize (m2.add b5 (.cells (toArr [.slice A5 n5 c5]) 53 (0, 0))) = m3 at *
 have hL4 := hL
 rw [← List.append_nil L3] at hL4
 obtain ⟨mm, hLm, hmm, hfo⟩ := hd_freeze ho3 (hH3.le hm23) hL4
 have hcc := containsM_fn mm _ (mini (d.take j)) b5 A5 n5 c5 d[j] hfo (hpq.le' (hm23.trans hmm)) (mcell_le hmm hc5)
 clear hL4
 refine go ?_;try(clear hL;intro w hL)
 refine CallReq.lend hcc hLm.sub hL ?_
 clear hL hLm hcc hfo hmm mm
 intro w hL
 have htk : mini (d.take (j + 1)) = addM (mini (d.take j)) d[j] := by rw [take_succ' hj1, mini_snoc]
 unfold addM at htk
 have hp3 := hpq.le' hm23
 have hH4 := hH3.le hm23
 cases hany : ((mini (d.take j)).any fun q => q.isSublist d[j]) with
 | true =>
   rw [hany, if_pos rfl] at htk
   rw [← htk] at hH4
   refine go ?_;try(clear hL;intro w hL)
   exact rnd (j + 1, B, bn, bc) ⟨by simp only; omega, m3, us3, L3, hm12.trans hm23, ho3, hH4, hL⟩
 | false =>
   rw [hany, if_neg (by decide)] at htk
   have hlen := lenF hH4
   have hml : (mini (d.take j)).length ≤ d.length := by
    have : ∀ k, k ≤ d.length → (mini (d.take k)).length ≤ k := fun k => by
     induction k with
     | zero => intro _; simp [mini]
     | succ k ih =>
       intro hk
       rw [take_succ' (by omega), mini_snoc]
       unfold addM
       have := ih (by omega)
       split
       ·omega
       ·rw [List.length_append, List.length_singleton]; omega
    have := this j hj; omega
   conv => whnf
   repeat ((first | refine LdReq.one hX rfl rfl hL hc5 ?_ | (refine go1 ?_;try(clear hL;intro w hL))); conv => whnf)
   refine CallReq.mk (L1 := []) (clone_fn m3 _ _ hp3 (by have := hpd _ (List.getElem_mem hj1); omega)) hL ?_
   clear hL
   rintro u mx Lx w hL - ⟨hmx2, hox⟩
   rw [hmx2] at hL
   clear hmx2 mx
   obtain ⟨m4, hL4, hm34, hs4⟩ := OwnS.freeze hox hL
   clear hL
   have hL := hL4
   clear hL4
   obtain ⟨C, cn, cc, rfl, -⟩ := id hs4
   refine go ?_;try(clear hL;intro w hL)
   refine NewReq.mk hL ?_
   clear hL
   intro b21 w hL
   conv => whnf
   replace hL : Ev.Loc m S0 w0 m4 ((b21, .cells (toArr [.slice C cn cc]) 53 (0, 0)) :: (L3 ++ [])) w := by rw [List.append_nil]; exact hL
   refine go ?_;try(clear hL;intro w hL)
   refine RunReq.push hX 88 53 rfl rfl rfl rfl rfl ho3 (L2 := []) hL rfl rfl (by show _ + 1 ≤ _; omega) rfl ?_
   clear hL
   intro A6 n6 c6 L6 w hn6 ho6 hL
   rw [List.append_nil] at hL
   have hH6 := (hH4.le hm34).app (hd_one hs4)
   rw [← htk] at hH6
   refine go ?_;try(clear hL;intro w hL)
   exact rnd (j + 1, A6, n6, c6) ⟨by simp only; omega, m4, _, L6, hm12.trans (hm23.trans hm34), ho6, hH6, hL⟩
theorem pair_fs {m0 m : Mem} {S : List Nat} {w0 w : World} {b : Nat} {v1 v2 : Value} {f g : Fml} {L : Ev.Own} (h1 : FmV m v1 f) (h2 : FmV m v2 g) (hL : Ev.Loc m0 S w0 m ((b, .cells (toArr [v1, v2]) 88 (0, 0)) :: L) w) :
  ∃ m', Ev.Loc m0 S w0 m' L w ∧ Mem.Le m m' ∧ FsV m' (.slice (some ⟨b, 0, none⟩) 2 2) [f, g] := by
 obtain ⟨m1, hL1, hm1, hfs⟩ := freeze1 (l := [f, g]) (R := fun u x => FmV m u x) (L2 := L) (OwnS.full (te := 88) (g := b) (n := 2) (cur := [v1, v2]) (by decide) rfl) hL rfl (by
  intro i x hx
  match i, hx with
  | 0, hx => cases hx; exact ⟨_, rfl, h1⟩
  | 1, hx => cases hx; exact ⟨_, rfl, h2⟩
  | i + 2, hx => cases hx)
 exact ⟨m1, hL1, hm1, Sl.le hfs (Mem.Le.refl _) fun _ _ _ ⟨u, e, h⟩ => ⟨u, e, h.le hm1⟩⟩
theorem pair_flat (f g : Fml) : ([f, g] : List Fml).flatten = f ++ g := by simp
end Go.Proofs.YtaooenndoopgdaaGreatDoor.fo
namespace Go.Proofs.YtaooenndoopgdaaGreatDoor.fo
open Go Go.Ev Go.Proofs
theorem true_fn (m : Mem) : Fn0 Tryz.prog 117 [] m fun m' u => FmV m' u [[]] := by
 refine Fn.enter (N := 3) hX Tryz.func117 rfl rfl (by show _ ≤ _; simp) (fun w0 hL => ?_)
 conv => whnf
 refine go ?_;try(clear hL;intro w hL)
 refine NewReq.mk hL ?_
 clear hL
 intro b1 w hL
 conv => whnf
 refine NewReq.mk hL ?_
 clear hL
 intro b2 w hL
 conv => whnf
 replace hL : Ev.Loc m [] w0 m ([(b2, .cells (toArr [.slice (some ⟨b1, 0, none⟩) 0 0]) 53 (0, 0))] ++ [(b1, .cells (toArr []) 3 (0, 0))]) w := hL
 have hs : SlI m .i64 (.slice (some ⟨b1, 0, none⟩) 0 0) [] := ⟨_, _, _, rfl, rfl, Nat.le_refl _, Nat.zero_le _, fun i x hx => by cases hx⟩
 obtain ⟨m1, hL1, hle1, hf1⟩ := fm_freeze (f := [[]]) (OwnS.full (n := 1) (by decide) rfl) hL rfl (by
  intro i p hp
  cases i with
  | zero => cases hp; exact ⟨_, rfl, hs⟩
  | succ i => cases hp)
 refine go ?_;try(clear hL;intro w hL)
 exact RetReq.mk (hL1.sublist (List.nil_sublist _)) ⟨rfl, hf1⟩
theorem false_fn (m : Mem) : FnV Tryz.prog 116 [] m (.slice none 0 0) := by
 refine Fn.enter (N := 1) hX Tryz.func116 rfl rfl (by show _ ≤ _; simp) (fun w0 hL => ?_)
 conv => whnf
 refine go ?_;try(clear hL;intro w hL)
 exact RetReq.mk hL ⟨rfl, rfl⟩
end Go.Proofs.YtaooenndoopgdaaGreatDoor.fo
namespace Go.Proofs.YtaooenndoopgdaaGreatDoor.fo
open Go Go.Ev Go.Proofs
structure FB (N : Nat) (f : Fml) : Prop where
 formed : FormedP f
 len : f.length ≤ 200
 lt : ∀ p ∈ f, ∀ n ∈ p, n < N
theorem FB.nil (N : Nat) : FB N [] := ⟨FormedP.nil, Nat.zero_le _, fun p hp => by cases hp⟩
theorem FB.mono {N M : Nat} {f : Fml} (h : FB N f) (hNM : N ≤ M) : FB M f := ⟨h.formed, h.len, fun p hp n hn => by have := h.lt p hp n hn; omega⟩
theorem part_len {N : Nat} {p : Prt} (hp : Rises p) (h : ∀ n ∈ p, n < (N : Int)) : p.length ≤ N := by
 have := rises_len (A := (List.range N).map Int.ofNat) hp fun n hn => by
  refine List.mem_map.2 ⟨n.toNat, List.mem_range.2 ?_, ?_⟩
  ·have := h n hn; have := hp.1 n hn; omega
  ·have := hp.1 n hn; show ((n.toNat : Nat) : Int) = n; omega
 simpa using this
theorem FB.part {N : Nat} {f : Fml} (h : FB N f) {p : Prt} (hp : p ∈ f) : p.length ≤ N := part_len (h.formed.rises p hp) (h.lt p hp)
theorem fewG_fn (m : Mem) (v : Value) (f : Fml) (h : FmV m v f) (hb : f.length ≤ 100000) : FnV Tryz.prog 192 [v] m (if f.length ≤ 200 then .tuple (toArr [v, .int .i64 0]) else .tuple (toArr [.slice none 0 0, .int .i64 4])) := by
 obtain ⟨A, n, c, rfl, hn, -⟩ := id h
 subst hn
 refine Fn.enter (N := 8) hX Tryz.func192 rfl rfl (by show _ ≤ _; simp) (fun w0 hL => ?_)
 conv => whnf
 by_cases hl : f.length ≤ 200
 ·rw [if_pos hl]
  conv => whnf
  repeat ((first | refine BrReq.no (by omega) ?_ | (refine go1 ?_;try(clear hL;intro w hL))); conv => whnf)
  exact RetReq.mk hL ⟨rfl, rfl⟩
 ·rw [if_neg hl]
  conv => whnf
  repeat ((first | refine BrReq.yes (by omega) ?_ | (refine go1 ?_;try(clear hL;intro w hL))); conv => whnf)
  exact RetReq.mk hL ⟨rfl, rfl⟩
theorem nodup_subP : ∀ (A l : Fml), l.Nodup → (∀ x ∈ l, x ∈ A) → l.length ≤ A.length
 | [], l, _, h => by cases l with | nil => simp | cons a l => exact absurd (h a (by simp)) (by simp)
 | a :: A, l, hn, h => by
   have h1 := nodup_subP A (l.erase a) (hn.erase a) fun x hx => by
    have hne : x ≠ a := fun e => by subst e; exact hn.not_mem_erase hx
    rcases List.mem_cons.1 (h x (List.mem_of_mem_erase hx)) with e | e
    ·exact absurd e hne
    ·exact e
   have := List.length_erase (a := a) (l := l)
   rw [List.length_cons]
   split at this <;> omega
theorem nodup_subF {l r : Fml} (h : Canon l r) : r.length ≤ l.length :=
 nodup_subP l r (h.formed.less.imp fun h e => by subst e; exact less_irrefl _ h) h.mem
def GenP (N : Nat) (m : Mem) (u : Value) : Prop := ∃ v e r, u = .tuple (toArr [v, .int .i64 e]) ∧ FmV m v r ∧ FB N r ∧ (e = 0 ∨ e = 4)
theorem GenP.many (N : Nat) (m : Mem) : GenP N m (.tuple (toArr [.slice none 0 0, .int .i64 4])) := ⟨_, 4, [], rfl, Sl.nil _ _ _, FB.nil N, .inr rfl⟩
set_option maxHeartbeats 1000000 in
theorem OrW_fn (m : Mem) (v1 v2 : Value) (f g : Fml) (N : Nat) (hN : N ≤ 20000) (h1 : FmV m v1 f) (h2 : FmV m v2 g) (hf : FB N f) (hg : FB N g) :
  Fn0 Tryz.prog 162 [v1, v2] m fun m' u => GenP N m' u := by
 have k1 := Formed_fn m v1 f h1
 have k2 := Formed_fn m v2 g h2
 rw [dec_t hf.formed] at k1
 rw [dec_t hg.formed] at k2
 obtain ⟨A1, n1, c1, rfl, -⟩ := id h1
 obtain ⟨A2, n2, c2, rfl, -⟩ := id h2
 have l1 := hf.len
 have l2 := hg.len
 refine Fn.enter (N := 22) hX Tryz.func162 rfl rfl (by show _ ≤ _; simp) (fun w0 hL => ?_)
 conv => whnf
 refine go ?_;try(clear hL;intro w hL)
 refine CallReq.val k1 hL ?_
 clear hL
 intro w hL
 refine go ?_;try(clear hL;intro w hL)
 refine CallReq.val k2 hL ?_
 clear hL
 intro w hL
 refine go ?_;try(clear hL;intro w hL)
 refine NewReq.mk hL ?_
 clear hL
 intro b16 w hL
 conv => whnf
 obtain ⟨m1, hL1, hm1, hfs⟩ := pair_fs h1 h2 (show Ev.Loc m [] w0 m ((b16, .cells (toArr [.slice A1 n1 c1, .slice A2 n2 c2]) 88 (0, 0)) :: []) w from hL)
 clear hL
 have hL := hL1
 clear hL1
 refine go ?_;try(clear hL;intro w hL)
 refine CallReq.mk (L1 := []) (concatF_fn m1 _ _ hfs (by rw [pair_flat, List.length_append]; omega) (by simp)) hL ?_
 clear hL
 rintro u mx L1 w hL - ⟨hmx2, us, ho, hH⟩
 rw [hmx2] at hL
 clear hmx2 mx
 rw [pair_flat] at hH
 have hu := ho.slice
 obtain ⟨A3, n3, c3, rfl, -⟩ := hu
 refine go ?_;try(clear hL;intro w hL)
 refine CallReq.mk (L1 := L1) (formed_fn m1 _ us (f ++ g) L1 ho hH (by rw [List.length_append]; omega) (fun p hp => (List.mem_append.1 hp).elim (fun h => by have := hf.part h; omega) fun h => by have := hg.part h; omega) (fun p hp => (List.mem_append.1 hp).elim (hf.formed.rises p) (hg.formed.rises p))) hL ?_
 clear hL
 rintro u m2 L2 w hL hm12 ⟨rfl, r, hcan, hr⟩
 have hin : ∀ p ∈ r, ∀ n ∈ p, n < (N : Int) := fun p hp => (List.mem_append.1 (hcan.mem p hp)).elim (hf.lt p) (hg.lt p)
 have hrl : r.length ≤ 400 := by
  have := nodup_subF hcan
  rw [List.length_append] at this; omega
 have hfw := fewG_fn m2 u r hr (by omega)
 obtain ⟨A4, n4, c4, rfl, -⟩ := id hr
 by_cases hl : r.length ≤ 200
 ·rw [if_pos hl] at hfw
  refine go ?_;try(clear hL;intro w hL)
  refine CallReq.val hfw hL ?_
  clear hL
  intro w hL
  refine go ?_;try(clear hL;intro w hL)
  exact RetReq.mk hL ⟨rfl, _, 0, r, rfl, hr, ⟨hcan.formed, hl, hin⟩, .inl rfl⟩
 ·rw [if_neg hl] at hfw
  refine go ?_;try(clear hL;intro w hL)
  refine CallReq.val hfw hL ?_
  clear hL
  intro w hL
  refine go ?_;try(clear hL;intro w hL)
  exact RetReq.mk hL ⟨rfl, GenP.many N m2⟩
structure FBig (N : Nat) (f : Fml) : Prop where
 formed : FormedP f
 len : f.length ≤ 20000
 lt : ∀ p ∈ f, ∀ n ∈ p, n < N
theorem FB.big {N : Nat} {f : Fml} (h : FB N f) : FBig N f := ⟨h.formed, by have := h.len; omega, h.lt⟩
theorem FBig.part {N : Nat} {f : Fml} (h : FBig N f) {p : Prt} (hp : p ∈ f) : p.length ≤ N := part_len (h.formed.rises p hp) (h.lt p hp)
set_option maxHeartbeats 2000000 in
theorem AndW_fn (m : Mem) (v1 v2 : Value) (f g : Fml) (N : Nat) (hN : N ≤ 20000) (h1 : FmV m v1 f) (h2 : FmV m v2 g) (hf : FB N f) (hg : FBig N g) :
  Fn0 Tryz.prog 161 [v1, v2] m fun m' u => GenP N m' u := by
 have k1 := Formed_fn m v1 f h1
 have k2 := Formed_fn m v2 g h2
 rw [dec_t hf.formed] at k1
 rw [dec_t hg.formed] at k2
 have h1' := h1
 obtain ⟨A1, n1, c1, rfl, hn1, hc1, hm1x, -⟩ := id h1
 obtain ⟨A2, n2, c2, rfl, -⟩ := id h2
 subst hn1
 have l1 := hf.len
 have l2 := hg.len
 have hmx : maxLen = 9223372036854775807 := rfl
 refine Fn.enter (N := 38) hX Tryz.func161 rfl rfl (by show _ ≤ _; simp) (fun w0 hL => ?_)
 conv => whnf
 refine go ?_;try(clear hL;intro w hL)
 refine CallReq.val k1 hL ?_
 clear hL
 intro w hL
 refine go ?_;try(clear hL;intro w hL)
 refine CallReq.val k2 hL ?_
 clear hL
 intro w hL
 refine go ?_;try(clear hL;intro w hL)
 refine LoopReq.inv hX (fun s : Nat × Option Addr × Nat × Nat => [(6, .slice s.2.1 s.2.2.1 s.2.2.2), (19, .int .i64 s.1)]) [1, 17, 18]
  (fun s w => s.1 ≤ f.length ∧ ∃ m1 r, Mem.Le m m1 ∧ FmV m1 (.slice s.2.1 s.2.2.1 s.2.2.2) r ∧ FB N r ∧ Ev.Loc m [] w0 m1 [] w) (fun s => f.length - s.1) (0, none, 0, 0)
  ⟨Nat.zero_le _, m, [], Mem.Le.refl m, Sl.nil _ _ _, FB.nil N, hL⟩ ⟨rfl, rfl, trivial⟩ ?_
 clear hL
 rintro ⟨j, B, bn, bc⟩ w e ⟨hj, m1, r, hm1, hr, hrS, hL⟩
 simp only at hj hr
 have hrl := hrS.len
 refine go ?_;try(clear hL;intro w hL)
 refine BrReq.dec (fun hlt => ?_) (fun hlt => ?_)
 rotate_left
 ·have hfw := fewG_fn m1 _ r hr (by omega)
  rw [if_pos hrl] at hfw
  refine go ?_;try(clear hL;intro w hL)
  refine CallReq.val hfw hL ?_
  clear hL
  intro w hL
  refine go ?_;try(clear hL;intro w hL)
  exact RetReq.mk hL ⟨rfl, _, 0, r, rfl, hr, hrS, .inl rfl⟩
 have hj1 : j < f.length := by simp only at hlt; omega
 have hjm := List.getElem_mem hj1
 have hpl := hf.part hjm
 obtain ⟨a, A5, n5, c5, ea, hcell, hpq⟩ := (h1'.le hm1).at_ hj1
 conv => whnf
 repeat ((first | (refine Idx2Req.mk j a rfl (by simp only at hlt; omega) ea ?_) | refine LdReq.one hX rfl rfl hL hcell ?_ | (refine go1 ?_;try(clear hL;intro w hL))); conv => whnf)
 refine CallReq.mk (L1 := []) (and_fn m1 _ _ f[j] g hpq (h2.le hm1) (fun q hq => by have := hg.part hq; omega) (by omega)) hL ?_
 clear hL
 rintro u m2 L1 w hL hm12 ⟨us, ho, hH⟩
 obtain ⟨m3, hL3, hm23, hfa⟩ := hd_freeze ho hH hL
 clear hL
 have hL := hL3
 clear hL3
 obtain ⟨A6, n6, c6, rfl, -⟩ := id hfa
 refine go ?_;try(clear hL;intro w hL)
 refine NewReq.mk hL ?_
 clear hL
 intro b27 w hL
 conv => whnf
 obtain ⟨m4, hL4, hm34, hfs⟩ := pair_fs (hr.le (hm12.trans hm23)) hfa (show Ev.Loc m [] w0 m3 ((b27, .cells (toArr [.slice B bn bc, .slice A6 n6 c6]) 88 (0, 0)) :: []) w from hL)
 clear hL
 have hL := hL4
 clear hL4
 refine go ?_;try(clear hL;intro w hL)
 refine CallReq.mk (L1 := []) (concatF_fn m4 _ _ hfs (by rw [pair_flat, List.length_append, List.length_map]; omega) (by simp)) hL ?_
 clear hL
 rintro u mx L1 w hL - ⟨hmx2, us2, ho2, hH2⟩
 rw [hmx2] at hL
 clear hmx2 mx
 rw [pair_flat] at hH2
 have hu := ho2.slice
 obtain ⟨A3, n3, c3, rfl, -⟩ := hu
 have hlt2 : ∀ p ∈ r ++ g.map (joinP f[j]), ∀ n ∈ p, n < (N : Int) := fun p hp => (List.mem_append.1 hp).elim (hrS.lt p) fun h n hn => by
  obtain ⟨q, hq, rfl⟩ := List.mem_map.1 h
  exact (join_iff.1 hn).elim (hf.lt _ hjm n) (hg.lt q hq n)
 have hri2 : ∀ p ∈ r ++ g.map (joinP f[j]), Rises p := fun p hp => (List.mem_append.1 hp).elim (hrS.formed.rises p) fun h => by
  obtain ⟨q, hq, rfl⟩ := List.mem_map.1 h
  exact join_rises (hf.formed.rises _ hjm) (hg.formed.rises q hq)
 refine go ?_;try(clear hL;intro w hL)
 refine CallReq.mk (L1 := L1) (formed_fn m4 _ us2 _ L1 ho2 hH2 (by rw [List.length_append, List.length_map]; omega) (fun p hp => by have := part_len (hri2 p hp) (hlt2 p hp); omega) hri2) hL ?_
 clear hL
 rintro u m5 L2 w hL hm45 ⟨rfl, r2, hcan2, hr2⟩
 have hin2 : ∀ p ∈ r2, ∀ n ∈ p, n < (N : Int) := fun p hp => hlt2 p (hcan2.mem p hp)
 have hrl2 : r2.length ≤ 20200 := by
  have := nodup_subF hcan2
  rw [List.length_append, List.length_map] at this; omega
 obtain ⟨A7, n7, c7, rfl, hn7, -⟩ := id hr2
 by_cases hl : r2.length ≤ 200
 ·conv => whnf
  repeat ((first | refine BrReq.no (by omega) ?_ | (refine go1 ?_;try(clear hL;intro w hL))); conv => whnf)
  exact rnd (j + 1, A7, n7, c7) ⟨by simp only; omega, m5, r2, hm1.trans (hm12.trans (hm23.trans (hm34.trans hm45))), hr2, ⟨hcan2.formed, hl, hin2⟩, hL⟩
 ·conv => whnf
  repeat ((first | refine BrReq.yes (by omega) ?_ | (refine go1 ?_;try(clear hL;intro w hL))); conv => whnf)
  exact RetReq.mk hL ⟨rfl, GenP.many N m5⟩
set_option maxHeartbeats 2000000 in
theorem DualW_fn (m : Mem) (v : Value) (f : Fml) (N : Nat) (hN : N ≤ 20000) (h1 : FmV m v f) (hf : FB N f) :
  Fn0 Tryz.prog 196 [v] m fun m' u => GenP N m' u := by
 have hmx : maxLen = 9223372036854775807 := rfl
 have k1 := Formed_fn m v f h1
 rw [dec_t hf.formed] at k1
 have h1' := h1
 obtain ⟨A1, n1, c1, rfl, hn1, hc1, hm1x, -⟩ := id h1
 subst hn1
 have l1 := hf.len
 have hT : FB N [[]] := ⟨(Dl.start []).formed, by simp, fun p hp n hn => by rw [List.mem_singleton.1 hp] at hn; cases hn⟩
 refine Fn.enter (N := 46) hX Tryz.func196 rfl rfl (by show _ ≤ _; simp) (fun w0 hL => ?_)
 conv => whnf
 refine go ?_;try(clear hL;intro w hL)
 refine CallReq.val k1 hL ?_
 clear hL
 intro w hL
 refine go ?_;try(clear hL;intro w hL)
 refine CallReq.pure (true_fn m) hL ?_
 clear hL
 rintro u m1 w hL hle1 ht
 obtain ⟨At, nt, ct, rfl, -⟩ := id ht
 refine go ?_;try(clear hL;intro w hL)
 refine LoopReq.inv hX (fun s : Nat × Option Addr × Nat × Nat => [(4, .slice s.2.1 s.2.2.1 s.2.2.2), (18, .int .i64 s.1)]) [16, 17]
  (fun s w => s.1 ≤ f.length ∧ ∃ m1 r, Mem.Le m m1 ∧ FmV m1 (.slice s.2.1 s.2.2.1 s.2.2.2) r ∧ FB N r ∧ Ev.Loc m [] w0 m1 [] w) (fun s => f.length - s.1) (0, At, nt, ct)
  ⟨Nat.zero_le _, m1, [[]], hle1, ht, hT, hL⟩ ⟨rfl, rfl, trivial⟩ ?_
 clear hL ht hle1
 rintro ⟨j, B, bn, bc⟩ w e ⟨hj, m1, r, hm1, hr, hrS, hL⟩
 simp only at hj hr
 have hrl := hrS.len
 refine go ?_;try(clear hL;intro w hL)
 refine BrReq.dec (fun hlt => ?_) (fun hlt => ?_)
 rotate_left
 ·refine go ?_;try(clear hL;intro w hL)
  exact RetReq.mk hL ⟨rfl, _, 0, r, rfl, hr, hrS, .inl rfl⟩
 have hj1 : j < f.length := by simp only at hlt; omega
 have hjm := List.getElem_mem hj1
 have hpl := hf.part hjm
 have hpr := hf.formed.rises _ hjm
 have hpi := hf.lt _ hjm
 obtain ⟨a, A5, n5, c5, ea, hcell, hpq⟩ := (h1'.le hm1).at_ hj1
 generalize f[j] = p at hpl hpr hpi hpq
 have hpn := hpq.len
 have he2 := hpq.cell.2
 conv => whnf
 repeat ((first | (refine Idx2Req.mk j a rfl (by simp only at hlt; omega) ea ?_) | refine LdReq.one hX rfl rfl hL hcell ?_ | (refine go1 ?_;try(clear hL;intro w hL))); conv => whnf)
 refine LoopReq.inv hX (fun s : Nat × Option Addr × Nat × Nat => [(7, .slice s.2.1 s.2.2.1 s.2.2.2), (24, .int .i64 s.1)]) [4, 16, 17, 18, 22, 23]
  (fun s w => s.1 ≤ p.length ∧ ∃ m2 us L1, Mem.Le m1 m2 ∧ OwnS 53 1 (.slice s.2.1 s.2.2.1 s.2.2.2) us L1 ∧ HdF m2 us (ones (p.take s.1)) ∧ Ev.Loc m [] w0 m2 L1 w) (fun s => p.length - s.1) (0, none, 0, 0)
  ⟨Nat.zero_le _, m1, [], [], Mem.Le.refl _, OwnS.nil _ _, HdF.nil _, hL⟩ ⟨rfl, rfl, trivial⟩ ?_
 clear hL
 rintro ⟨i, A2, n2, c2⟩ w e2 ⟨hi, m2, us, L1, hm12, ho, hH, hL⟩
 simp only at hi ho hH
 refine go ?_;try(clear hL;intro w hL)
 refine BrReq.dec (fun hlt2 => ?_) (fun hlt2 => ?_)
 ·have hi1 : i < p.length := by simp only at hlt2; omega
  obtain ⟨a3, e3, hx3⟩ := he2 i _ (List.getElem?_eq_getElem hi1)
  have hlen := lenF hH
  rw [show (ones (p.take i)).length = i by unfold ones; rw [List.length_map, List.length_take]; omega] at hlen
  conv => whnf
  repeat ((first | (refine Idx2Req.mk i a3 rfl (by simp only at hlt2; omega) e3 ?_) | (refine LdReq.one hX rfl rfl hL (by rw [scale_eq, Nat.mul_one]; exact mcell_le hm12 hx3) ?_) | (refine go1 ?_;try(clear hL;intro w hL))); conv => whnf)
  refine NewReq.mk hL ?_
  clear hL
  intro b30 w hL
  conv => whnf
  replace hL : Ev.Loc m [] w0 m2 ([(b30, .cells (toArr [.int .i64 p[i]]) 3 (0, 0))] ++ L1) w := hL
  obtain ⟨m3, hL3, hm23, hs3⟩ := OwnS.freeze (k := .i64) (l := [p[i]]) (OwnS.full (n := 1) (by decide) rfl) hL
  clear hL
  have hL := hL3
  clear hL3
  refine go ?_;try(clear hL;intro w hL)
  refine NewReq.mk hL ?_
  clear hL
  intro b31 w hL
  conv => whnf
  replace hL : Ev.Loc m [] w0 m3 ((b31, .cells (toArr [.slice (some ⟨b30, 0, none⟩) 1 1]) 53 (0, 0)) :: (L1 ++ [])) w := by rw [List.append_nil]; exact hL
  refine go ?_;try(clear hL;intro w hL)
  refine RunReq.push hX 88 53 rfl rfl rfl rfl rfl ho (L2 := []) hL rfl rfl (by show _ + 1 ≤ _; omega) rfl ?_
  clear hL
  intro A4 n4 c4 L4 w hn4 ho4 hL
  rw [List.append_nil] at hL
  have hH2 := (hH.le hm23).app (hd_one hs3)
  rw [show ones (p.take i) ++ [[p[i]]] = ones (p.take (i + 1)) by rw [take_succ' hi1]; unfold ones; rw [List.map_append]; rfl] at hH2
  refine go ?_;try(clear hL;intro w hL)
  exact rnd (i + 1, A4, n4, c4) ⟨by simp only; omega, m3, _, L4, hm12.trans hm23, ho4, hH2, hL⟩
 ·have ei : i = p.length := by simp only at hlt2; omega
  subst ei
  rw [List.take_length] at hH
  rw [← List.append_nil L1] at hL
  obtain ⟨m3, hL3, hm23, hfo⟩ := hd_freeze ho hH hL
  clear hL
  have hL := hL3
  clear hL3
  have hbig : FBig N (ones p) := ⟨ones_formed hpr, by unfold ones; rw [List.length_map]; omega, fun q hq n hn => by
   obtain ⟨k, hk, rfl⟩ := List.mem_map.1 hq
   rw [List.mem_singleton.1 hn]; exact hpi k hk⟩
  refine go ?_;try(clear hL;intro w hL)
  refine CallReq.pure (AndW_fn m3 _ _ r (ones p) N hN (hr.le (hm12.trans hm23)) hfo hrS hbig) hL ?_
  clear hL
  rintro u m4 w hL hm34 ⟨v4, e4, r4, rfl, hr4, hb4, he4⟩
  obtain ⟨A6, n6, c6, rfl, -⟩ := id hr4
  rcases he4 with rfl | rfl
  ·refine go ?_;try(clear hL;intro w hL)
   exact rnd (j + 1, A6, n6, c6) ⟨by simp only; omega, m4, r4, hm1.trans (hm12.trans (hm23.trans hm34)), hr4, hb4, hL⟩
  ·refine go ?_;try(clear hL;intro w hL)
   exact RetReq.mk hL ⟨rfl, GenP.many N m4⟩
end Go.Proofs.YtaooenndoopgdaaGreatDoor.fo
namespace Go.Proofs.YtaooenndoopgdaaGreatDoor.li
open Go Go.Ev Go.Proofs Go.Proofs.YtaooenndoopgdaaGreatDoor.ar
def stO (ab b bits : Nat) (e : Int) (ma ml : Nat) : Obj := .cells (toArr [.pointer (some ⟨ab, 0, none⟩), .int .u8 b, .int .u8 bits, .int .i64 e, .map (some ma), .map (some ml)]) 182 (0, 0)
def isF (m : Mem) (N : Nat) (y : Value × Value) : Prop := ∃ (k : Int) (f : fo.Fml), y.1 = .int .i64 k ∧ ar.i64 k ∧ fo.FmV m y.2 f ∧ fo.FB N f
theorem isF.grow {m m' : Mem} {N M : Nat} {y : Value × Value} (h : isF m N y) (hm : Mem.Le m m') (hN : N ≤ M) : isF m' M y := by
 obtain ⟨k, f, h1, h2, h3, h4⟩ := h
 exact ⟨k, f, h1, h2, h3.le hm, h4.mono hN⟩
def AllF (m : Mem) (N : Nat) (l : List (Value × Value)) : Prop := ∀ y ∈ l, isF m N y
theorem AllF.grow {m m' : Mem} {N M : Nat} {l : List (Value × Value)} (h : AllF m N l) (hm : Mem.Le m m') (hN : N ≤ M) : AllF m' M l := fun y hy => (h y hy).grow hm hN
theorem AllF.keys {m : Mem} {N : Nat} {l : List (Value × Value)} (h : AllF m N l) : ∀ x ∈ l, IsK Tryz.prog 3 x.1 := fun x hx => by
 obtain ⟨k, f, h1, h2, -⟩ := h x hx
 rw [h1]; exact isK_int _ h2
theorem AllF.app {m : Mem} {N : Nat} {l : List (Value × Value)} {y : Value × Value} (h : AllF m N l) (hy : isF m N y) : AllF m N (l ++ [y]) := fun x hx => (List.mem_append.1 hx).elim (h x) fun h => by rw [List.mem_singleton.1 h]; exact hy
theorem AllF.set {m : Mem} {N : Nat} {l : List (Value × Value)} {y : Value × Value} (h : AllF m N l) (hy : isF m N y) (q : Nat) : AllF m N (l.set q y) := fun x hx => by
 rcases List.mem_or_eq_of_mem_set hx with hx | hx
 ·exact h x hx
 ·rw [hx]; exact hy
def EOk (e : Int) : Prop := e = 0 ∨ e = 4
structure Stp (ab sb b bits : Nat) (m : Mem) (ns : List Nd) (e : Int) (ma ml : Nat) (la ll : List (Value × Value)) (La : Ev.Own) : Prop where
 ar : Ar ab ns La
 ok : OkA ns
 are : AllF m ns.length la
 left : AllF m ns.length ll
 err : EOk e
abbrev stL (ab sb b bits : Nat) (e : Int) (ma ml : Nat) (la ll : List (Value × Value)) (La : Ev.Own) : Ev.Own := (sb, stO ab b bits e ma ml) :: (ma, mapW la) :: (ml, mapW ll) :: La
def StQ (ab sb b bits : Nat) (ns : List Nd) (ma ml : Nat) : Mem → Ev.Own → Value → Prop := fun m' L' u => ∃ ns' e' la' ll' La' f, ns <+: ns' ∧ Stp ab sb b bits m' ns' e' ma ml la' ll' La' ∧ L' = stL ab sb b bits e' ma ml la' ll' La' ∧ fo.FmV m' u f ∧ fo.FB ns'.length f
theorem keep_fn (m : Mem) (ab sb b bits : Nat) (e e2 : Int) (ma ml : Nat) (v : Value) (f : fo.Fml) (hv : fo.FmV m v f) :
  Ev.Fn Tryz.prog 102 [.pointer (some ⟨sb, 0, none⟩), v, .int .i64 e2] m [(sb, stO ab b bits e ma ml)] fun m' L' u => m' = m ∧ u = v ∧ L' = [(sb, stO ab b bits (if e = 0 then e2 else e) ma ml)] := by
 obtain ⟨A, n, c, rfl, -⟩ := id hv
 refine Fn.enter (N := 17) hX Tryz.func102 rfl rfl (by show _ ≤ _; simp) (fun w0 hL => ?_)
 conv => whnf
 generalize keys [(sb, stO ab b bits e ma ml)] = S0 at hL ⊢
 by_cases h0 : e = 0
 ·subst h0
  refine go ?_;try(clear hL;intro w hL)
  exact RetReq.mk hL ⟨rfl, rfl, rfl⟩
 ·rw [if_neg h0]
  conv => whnf
  repeat ((first | refine BrReq.no (by omega) ?_ | (refine go1 ?_;try(clear hL;intro w hL))); conv => whnf)
  exact RetReq.mk hL ⟨rfl, rfl, rfl⟩
theorem keepOk {e e2 : Int} (h : EOk e) (h2 : EOk e2) : EOk (if e = 0 then e2 else e) := by split; exact h2; exact h
theorem or_fn (m : Mem) (ab sb b bits : Nat) (e : Int) (ma ml : Nat) (v1 v2 : Value) (f g : fo.Fml) (N : Nat) (hN : N ≤ 20000) (he : EOk e) (h1 : fo.FmV m v1 f) (h2 : fo.FmV m v2 g) (k1 : fo.FB N f) (k2 : fo.FB N g) :
  Ev.Fn Tryz.prog 119 [.pointer (some ⟨sb, 0, none⟩), v1, v2] m [(sb, stO ab b bits e ma ml)] fun m' L' u => ∃ e' r, EOk e' ∧ L' = [(sb, stO ab b bits e' ma ml)] ∧ fo.FmV m' u r ∧ fo.FB N r := by
 obtain ⟨A1, n1, c1, rfl, -⟩ := id h1
 obtain ⟨A2, n2, c2, rfl, -⟩ := id h2
 refine Fn.enter (N := 14) hX Tryz.func119 rfl rfl (by show _ ≤ _; simp) (fun w0 hL => ?_)
 conv => whnf
 generalize keys [(sb, stO ab b bits e ma ml)] = S0 at hL ⊢
 refine go ?_;try(clear hL;intro w hL)
 refine CallReq.pure (fo.OrW_fn m _ _ f g N hN h1 h2 k1 k2) hL ?_
 clear hL
 rintro u m2 w hL hm2 ⟨v, e2, r, rfl, hr, hb, he2⟩
 obtain ⟨A3, n3, c3, rfl, -⟩ := id hr
 refine go ?_;try(clear hL;intro w hL)
 refine CallReq.mk (L1 := [_]) (L2 := []) (keep_fn m2 ab sb b bits e e2 ma ml _ r hr) (by rw [List.append_nil]; exact hL) ?_
 clear hL
 rintro u m3 L3 w hL - ⟨rfl, rfl, rfl⟩
 rw [List.append_nil] at hL
 refine go ?_;try(clear hL;intro w hL)
 exact RetReq.mk hL ⟨_, r, keepOk he he2, rfl, hr, hb⟩
theorem and_fn (m : Mem) (ab sb b bits : Nat) (e : Int) (ma ml : Nat) (v1 v2 : Value) (f g : fo.Fml) (N : Nat) (hN : N ≤ 20000) (he : EOk e) (h1 : fo.FmV m v1 f) (h2 : fo.FmV m v2 g) (k1 : fo.FB N f) (k2 : fo.FB N g) :
  Ev.Fn Tryz.prog 118 [.pointer (some ⟨sb, 0, none⟩), v1, v2] m [(sb, stO ab b bits e ma ml)] fun m' L' u => ∃ e' r, EOk e' ∧ L' = [(sb, stO ab b bits e' ma ml)] ∧ fo.FmV m' u r ∧ fo.FB N r := by
 obtain ⟨A1, n1, c1, rfl, -⟩ := id h1
 obtain ⟨A2, n2, c2, rfl, -⟩ := id h2
 refine Fn.enter (N := 14) hX Tryz.func118 rfl rfl (by show _ ≤ _; simp) (fun w0 hL => ?_)
 conv => whnf
 generalize keys [(sb, stO ab b bits e ma ml)] = S0 at hL ⊢
 refine go ?_;try(clear hL;intro w hL)
 refine CallReq.pure (fo.AndW_fn m _ _ f g N hN h1 h2 k1 k2.big) hL ?_
 clear hL
 rintro u m2 w hL hm2 ⟨v, e2, r, rfl, hr, hb, he2⟩
 obtain ⟨A3, n3, c3, rfl, -⟩ := id hr
 refine go ?_;try(clear hL;intro w hL)
 refine CallReq.mk (L1 := [_]) (L2 := []) (keep_fn m2 ab sb b bits e e2 ma ml _ r hr) (by rw [List.append_nil]; exact hL) ?_
 clear hL
 rintro u m3 L3 w hL - ⟨rfl, rfl, rfl⟩
 rw [List.append_nil] at hL
 refine go ?_;try(clear hL;intro w hL)
 exact RetReq.mk hL ⟨_, r, keepOk he he2, rfl, hr, hb⟩
theorem dual_fn (m : Mem) (ab sb b bits : Nat) (e : Int) (ma ml : Nat) (v1 : Value) (f : fo.Fml) (N : Nat) (hN : N ≤ 20000) (he : EOk e) (h1 : fo.FmV m v1 f) (k1 : fo.FB N f) :
  Ev.Fn Tryz.prog 164 [.pointer (some ⟨sb, 0, none⟩), v1] m [(sb, stO ab b bits e ma ml)] fun m' L' u => ∃ e' r, EOk e' ∧ L' = [(sb, stO ab b bits e' ma ml)] ∧ fo.FmV m' u r ∧ fo.FB N r := by
 obtain ⟨A1, n1, c1, rfl, -⟩ := id h1
 refine Fn.enter (N := 11) hX Tryz.func164 rfl rfl (by show _ ≤ _; simp) (fun w0 hL => ?_)
 conv => whnf
 generalize keys [(sb, stO ab b bits e ma ml)] = S0 at hL ⊢
 refine go ?_;try(clear hL;intro w hL)
 refine CallReq.pure (fo.DualW_fn m _ f N hN h1 k1) hL ?_
 clear hL
 rintro u m2 w hL hm2 ⟨v, e2, r, rfl, hr, hb, he2⟩
 obtain ⟨A3, n3, c3, rfl, -⟩ := id hr
 refine go ?_;try(clear hL;intro w hL)
 refine CallReq.mk (L1 := [_]) (L2 := []) (keep_fn m2 ab sb b bits e e2 ma ml _ r hr) (by rw [List.append_nil]; exact hL) ?_
 clear hL
 rintro u m3 L3 w hL - ⟨rfl, rfl, rfl⟩
 rw [List.append_nil] at hL
 refine go ?_;try(clear hL;intro w hL)
 exact RetReq.mk hL ⟨_, r, keepOk he he2, rfl, hr, hb⟩
theorem atomG_fn (m : Mem) (k : Int) (h0 : 0 ≤ k) : Fn0 Tryz.prog 153 [.int .i64 k] m fun m' u => fo.FmV m' u [[k]] := by
 refine Fn.enter (N := 8) hX Tryz.func153 rfl rfl (by show _ ≤ _; simp) (fun w0 hL => ?_)
 conv => whnf
 conv => whnf
 repeat ((first | refine BrReq.no (by omega) ?_ | (refine go1 ?_;try(clear hL;intro w hL))); conv => whnf)
 refine NewReq.mk hL ?_
 clear hL
 intro b1 w hL
 conv => whnf
 replace hL : Ev.Loc m [] w0 m ([(b1, .cells (toArr [.int .i64 k]) 3 (0, 0))] ++ []) w := hL
 obtain ⟨m1, hL1, hm1, hs⟩ := OwnS.freeze (k := .i64) (l := [k]) (OwnS.full (n := 1) (by decide) rfl) hL
 clear hL
 have hL := hL1
 clear hL1
 refine go ?_;try(clear hL;intro w hL)
 refine NewReq.mk hL ?_
 clear hL
 intro b2 w hL
 conv => whnf
 replace hL : Ev.Loc m [] w0 m1 ([(b2, .cells (toArr [.slice (some ⟨b1, 0, none⟩) 1 1]) 53 (0, 0))] ++ []) w := hL
 obtain ⟨m2, hL2, hm2, hf⟩ := fo.hd_freeze (OwnS.full (n := 1) (by decide) rfl) (fo.hd_one hs) hL
 refine go ?_;try(clear hL;intro w hL)
 exact RetReq.mk hL2 ⟨rfl, hf⟩
theorem atom_FB {N : Nat} {k : Int} (h0 : 0 ≤ k) (h : k < N) : fo.FB N [[k]] :=
 ⟨⟨fun p hp => by rw [List.mem_singleton.1 hp]; exact ⟨fun n hn => by rw [List.mem_singleton.1 hn]; exact h0, List.pairwise_singleton _ _⟩, List.pairwise_singleton _ _, List.pairwise_singleton _ _⟩, by simp, fun p hp n hn => by
   rw [List.mem_singleton.1 hp] at hn
   rw [List.mem_singleton.1 hn]; exact h⟩
theorem true_FB (N : Nat) : fo.FB N [[]] := ⟨(fo.Dl.start []).formed, by simp, fun p hp n hn => by rw [List.mem_singleton.1 hp] at hn; cases hn⟩
end Go.Proofs.YtaooenndoopgdaaGreatDoor.li
