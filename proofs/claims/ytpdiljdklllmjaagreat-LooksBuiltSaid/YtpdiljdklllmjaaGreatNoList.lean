/- Lists of numbers: Contains, DeleteFunc, Sort, Compact, where they change nothing. Conditions: none. -/
import Derived.Test.YtpdiljdklllmjaaGreatNoOr
import Derived.Test.YtpdiljdklllmjaaGreatNoShelf

namespace Go.Proofs.YtpdiljdklllmjaaGreat.ar
open Go Go.Ev Go.Proofs

def idxI (z : Int) : List Int → Int
  | [] => -1
  | a :: l => if a = z then 0 else if idxI z l < 0 then -1 else idxI z l + 1
theorem idxI_at {z : Int} : ∀ (l : List Int) (i : Nat), l[i]? = some z → (∀ (q : Nat), q < i → l[q]? ≠ some z) → idxI z l = i := by
  intro l
  induction l with
  | nil => intro i h; simp at h
  | cons a l ih =>
    intro i h hq
    cases i with
    | zero => simp at h; subst h; simp only [idxI]; rw [if_pos trivial]; rfl
    | succ i =>
      have h0 := hq 0 (by omega)
      simp at h0
      simp only [idxI]
      rw [if_neg h0, ih i (by simpa using h) fun q hlt => by have := hq (q + 1) (by omega); simpa using this, if_neg (by omega)]
      omega
theorem idxI_none {z : Int} : ∀ (l : List Int), z ∉ l → idxI z l = -1 := by
  intro l
  induction l with
  | nil => intro _; rfl
  | cons a l ih =>
    intro h
    simp only [idxI]
    rw [if_neg (fun e => h (by simp [e])), ih (fun e => h (by simp [e])), if_pos (by omega)]
theorem idxI_pos {z : Int} : ∀ (l : List Int), 0 ≤ idxI z l ↔ z ∈ l := by
  intro l
  induction l with
  | nil => simp [idxI]
  | cons a l ih =>
    simp only [idxI, List.mem_cons]
    by_cases h : a = z
    · rw [if_pos h]; exact ⟨fun _ => .inl h.symm, fun _ => by omega⟩
    · rw [if_neg h]
      by_cases h2 : idxI z l < 0
      · rw [if_pos h2]; exact ⟨fun h' => absurd h' (by omega), fun h' => h'.elim (fun h3 => absurd h3.symm h) fun h3 => absurd (ih.2 h3) (by omega)⟩
      · rw [if_neg h2]; exact ⟨fun _ => .inr (ih.1 (by omega)), fun _ => by omega⟩
theorem index_fn (m : Mem) (v : Value) (l : List Int) (z : Int) (hl : SlI m .i64 v l) : FnV Tryz.prog 81 [v, .int .i64 z] m (.int .i64 (idxI z l)) := by
  obtain ⟨A, n, c, rfl, hn, hc, hm, -⟩ := id hl
  have hcell := hl.cell.2
  have hmx : maxLen = 9223372036854775807 := rfl
  refine Fn.enter (N := 19) hX Tryz.func81 rfl rfl (by show _ ≤ _; simp) (fun w0 hL => ?_)
  conv => whnf
  conv => whnf
  repeat ((first | refine zT ?_ | refine zF ?_ | refine zL hX hL ?_ | refine zB hX hL ?_ | (refine zS hX hL ?_; clear hL; intro w hL) | refine zI ?_ | refine zG hX ?_ | refine zO ?_); conv => whnf)
  refine LoopReq.inv hX (fun j : Nat => [(8, .int .i64 j)]) [0, 1, 7]
    (fun j w => (j ≤ n ∧ ∀ (i : Nat), i < j → l[i]? ≠ some z) ∧ Ev.Loc m [] w0 m [] w) (fun j => n - j) 0
    ⟨⟨by omega, fun i h => absurd h (by omega)⟩, hL⟩ ⟨rfl, trivial⟩ ?_
  clear hL
  rintro j w g ⟨⟨hj, hdone⟩, hL⟩
  conv => whnf
  repeat ((first | refine zT ?_ | refine zF ?_ | refine zL hX hL ?_ | refine zB hX hL ?_ | (refine zS hX hL ?_; clear hL; intro w hL) | refine zI ?_ | refine zG hX ?_ | refine zO ?_); conv => whnf)
  refine BrReq.dec (fun hlt => ?_) (fun hlt => ?_)
  · have hlt' : j < l.length := by omega
    have hx := List.getElem?_eq_getElem hlt'
    obtain ⟨a, ea, hc'⟩ := hcell j _ hx
    generalize l[j] = y at hx hc'
    conv => whnf
    repeat ((first | refine Idx2Req.mk j a rfl (by omega) ea ?_ | refine LdReq.one hX rfl rfl hL hc' ?_ | refine zT ?_ | refine zF ?_ | refine zL hX hL ?_ | refine zB hX hL ?_ | (refine zS hX hL ?_; clear hL; intro w hL) | refine zI ?_ | refine zG hX ?_ | refine zO ?_); conv => whnf)
    by_cases hyz : z = y
    · subst hyz
      conv => whnf
      repeat ((first | refine BrReq.yes rfl ?_ | refine zT ?_ | refine zF ?_ | refine zL hX hL ?_ | refine zB hX hL ?_ | (refine zS hX hL ?_; clear hL; intro w hL) | refine zI ?_ | refine zG hX ?_ | refine zO ?_); conv => whnf)
      exact RetReq.int hL (idxI_at l j hx fun q hq => hdone q hq).symm
    · have hd : ∀ (i : Nat), i < j + 1 → l[i]? ≠ some z := fun i hi e => by
        by_cases h1 : i = j
        · subst h1; rw [hx] at e; cases e; exact hyz rfl
        · exact hdone i (by omega) e
      conv => whnf
      repeat ((first | refine BrReq.no hyz ?_ | refine zT ?_ | refine zF ?_ | refine zL hX hL ?_ | refine zB hX hL ?_ | (refine zS hX hL ?_; clear hL; intro w hL) | refine zI ?_ | refine zG hX ?_ | refine zO ?_); conv => whnf)
      refine ⟨j + 1, ⟨⟨by omega, hd⟩, hL⟩, by first | omega | (simp only; omega), ?_, ?_⟩
      · repeat (first | exact trivial | (refine And.intro (by (conv => lhs; whnf) <;> (conv => rhs; whnf) <;> (first | rfl)) ?_))
      · repeat (first | exact trivial | (refine And.intro (by (conv => lhs; whnf) <;> (conv => rhs; whnf) <;> (first | rfl)) ?_))
  · conv => whnf
    repeat ((first | refine zT ?_ | refine zF ?_ | refine zL hX hL ?_ | refine zB hX hL ?_ | (refine zS hX hL ?_; clear hL; intro w hL) | refine zI ?_ | refine zG hX ?_ | refine zO ?_); conv => whnf)
    exact RetReq.int hL (idxI_none l fun h => by
      obtain ⟨i, hi, e⟩ := List.getElem_of_mem h
      exact hdone i (by omega) (by rw [List.getElem?_eq_getElem hi, e])).symm
theorem contains_fn (m : Mem) (v : Value) (l : List Int) (z : Int) (hl : SlI m .i64 v l) : FnV Tryz.prog 74 [v, .int .i64 z] m (.bool (decide (z ∈ l))) := by
  obtain ⟨A, n, c, rfl, -⟩ := id hl
  refine Fn.enter (N := 9) hX Tryz.func74 rfl rfl (by show _ ≤ _; simp) (fun w0 hL => ?_)
  conv => whnf
  conv => whnf
  repeat ((first | refine zT ?_ | refine zF ?_ | refine zL hX hL ?_ | refine zB hX hL ?_ | (refine zS hX hL ?_; clear hL; intro w hL) | refine zI ?_ | refine zG hX ?_ | refine zO ?_); conv => whnf)
  refine CallReq.val (index_fn m _ l z hl) hL ?_
  clear hL
  intro w hL
  conv => whnf
  repeat ((first | refine zT ?_ | refine zF ?_ | refine zL hX hL ?_ | refine zB hX hL ?_ | (refine zS hX hL ?_; clear hL; intro w hL) | refine zI ?_ | refine zG hX ?_ | refine zO ?_); conv => whnf)
  exact RetReq.bool hL (decide_eq_decide.2 (idxI_pos l))

/-- DeleteFunc, where nothing is struck. -/
theorem is_fn (m : Mem) (b : Nat) (z y : Int) : FnL Tryz.prog 76 [.int .i64 y, .pointer (some ⟨b, 0, none⟩)] m [(b, .cells (toArr [.int .i64 z]) 3 (0, 0))] (.bool (decide (y = z))) := by
  refine Fn.enter (N := 7) hX Tryz.func76 rfl rfl (by show _ ≤ _; simp) (fun w0 hL => ?_)
  conv => whnf
  generalize keys [(b, Obj.cells (toArr [.int .i64 z]) 3 (0, 0))] = S0 at hL ⊢
  conv => whnf
  repeat ((first | refine zT ?_ | refine zF ?_ | refine zL hX hL ?_ | refine zB hX hL ?_ | (refine zS hX hL ?_; clear hL; intro w hL) | refine zI ?_ | refine zG hX ?_ | refine zO ?_); conv => whnf)
  exact RetReq.mk hL ⟨rfl, rfl, rfl⟩
theorem indexF_fn (m : Mem) (b : Nat) (z : Int) (v : Value) (l : List Int) (hl : SlI m .i64 v l) (hz : z ∉ l) :
    FnL Tryz.prog 82 [v, .func (.func 76) #[] #[.pointer (some ⟨b, 0, none⟩)]] m [(b, .cells (toArr [.int .i64 z]) 3 (0, 0))] (.int .i64 (-1)) := by
  obtain ⟨A, n, c, rfl, hn, hc, hm, -⟩ := id hl
  have hcell := hl.cell.2
  have hmx : maxLen = 9223372036854775807 := rfl
  refine Fn.enter (N := 19) hX Tryz.func82 rfl rfl (by show _ ≤ _; simp) (fun w0 hL => ?_)
  conv => whnf
  generalize keys [(b, Obj.cells (toArr [.int .i64 z]) 3 (0, 0))] = S0 at hL ⊢
  conv => whnf
  repeat ((first | refine zT ?_ | refine zF ?_ | refine zL hX hL ?_ | refine zB hX hL ?_ | (refine zS hX hL ?_; clear hL; intro w hL) | refine zI ?_ | refine zG hX ?_ | refine zO ?_); conv => whnf)
  refine LoopReq.inv hX (fun j : Nat => [(8, .int .i64 j)]) [0, 1, 7]
    (fun j w => j ≤ n ∧ Ev.Loc m S0 w0 m [(b, .cells (toArr [.int .i64 z]) 3 (0, 0))] w) (fun j => n - j) 0
    ⟨by omega, hL⟩ ⟨rfl, trivial⟩ ?_
  clear hL
  rintro j w g ⟨hj, hL⟩
  conv => whnf
  repeat ((first | refine zT ?_ | refine zF ?_ | refine zL hX hL ?_ | refine zB hX hL ?_ | (refine zS hX hL ?_; clear hL; intro w hL) | refine zI ?_ | refine zG hX ?_ | refine zO ?_); conv => whnf)
  refine BrReq.dec (fun hlt => ?_) (fun hlt => ?_)
  · have hlt' : j < l.length := by omega
    have hx := List.getElem?_eq_getElem hlt'
    obtain ⟨a, ea, hc'⟩ := hcell j _ hx
    generalize l[j] = y at hx hc'
    have hyz : ¬ y = z := fun e => hz (e ▸ List.mem_of_getElem? hx)
    conv => whnf
    repeat ((first | refine Idx2Req.mk j a rfl (by omega) ea ?_ | refine LdReq.one hX rfl rfl hL hc' ?_ | refine zT ?_ | refine zF ?_ | refine zL hX hL ?_ | refine zB hX hL ?_ | (refine zS hX hL ?_; clear hL; intro w hL) | refine zI ?_ | refine zG hX ?_ | refine zO ?_); conv => whnf)
    refine CallReq.lo (is_fn m b z y) hL ?_
    clear hL
    intro w hL
    rw [decide_eq_false hyz]
    conv => whnf
    repeat ((first | refine zT ?_ | refine zF ?_ | refine zL hX hL ?_ | refine zB hX hL ?_ | (refine zS hX hL ?_; clear hL; intro w hL) | refine zI ?_ | refine zG hX ?_ | refine zO ?_); conv => whnf)
    refine ⟨j + 1, ⟨by omega, hL⟩, by first | omega | (simp only; omega), ?_, ?_⟩
    · repeat (first | exact trivial | (refine And.intro (by (conv => lhs; whnf) <;> (conv => rhs; whnf) <;> (first | rfl)) ?_))
    · repeat (first | exact trivial | (refine And.intro (by (conv => lhs; whnf) <;> (conv => rhs; whnf) <;> (first | rfl)) ?_))
  · conv => whnf
    repeat ((first | refine zT ?_ | refine zF ?_ | refine zL hX hL ?_ | refine zB hX hL ?_ | (refine zS hX hL ?_; clear hL; intro w hL) | refine zI ?_ | refine zG hX ?_ | refine zO ?_); conv => whnf)
    exact RetReq.mk hL ⟨rfl, rfl, rfl⟩
theorem delete_fn (m : Mem) (b : Nat) (z : Int) (v : Value) (l : List Int) (hl : SlI m .i64 v l) (hz : z ∉ l) :
    FnL Tryz.prog 75 [v, .func (.func 76) #[] #[.pointer (some ⟨b, 0, none⟩)]] m [(b, .cells (toArr [.int .i64 z]) 3 (0, 0))] v := by
  obtain ⟨A, n, c, rfl, -⟩ := id hl
  refine Fn.enter (N := 42) hX Tryz.func75 rfl rfl (by show _ ≤ _; simp) (fun w0 hL => ?_)
  conv => whnf
  generalize keys [(b, Obj.cells (toArr [.int .i64 z]) 3 (0, 0))] = S0 at hL ⊢
  conv => whnf
  repeat ((first | refine zT ?_ | refine zF ?_ | refine zL hX hL ?_ | refine zB hX hL ?_ | (refine zS hX hL ?_; clear hL; intro w hL) | refine zI ?_ | refine zG hX ?_ | refine zO ?_); conv => whnf)
  refine CallReq.lo (indexF_fn m b z _ l hl hz) hL ?_
  clear hL
  intro w hL
  conv => whnf
  repeat ((first | refine zT ?_ | refine zF ?_ | refine zL hX hL ?_ | refine zB hX hL ?_ | (refine zS hX hL ?_; clear hL; intro w hL) | refine zI ?_ | refine zG hX ?_ | refine zO ?_); conv => whnf)
  exact RetReq.mk hL ⟨rfl, rfl, rfl⟩
theorem compact_fn (m : Mem) (A : Option Addr) (n c : Nat) (h : n < 2) : FnV Tryz.prog 78 [.slice A n c] m (.slice A n c) := by
  refine Fn.enter (N := 61) hX Tryz.func78 rfl rfl (by show _ ≤ _; simp) (fun w0 hL => ?_)
  conv => whnf
  conv => whnf
  repeat ((first | refine BrReq.yes (by omega) ?_ | refine zT ?_ | refine zF ?_ | refine zL hX hL ?_ | refine zB hX hL ?_ | (refine zS hX hL ?_; clear hL; intro w hL) | refine zI ?_ | refine zG hX ?_ | refine zO ?_); conv => whnf)
  exact RetReq.mk hL ⟨rfl, rfl⟩

/-- Sort, of one number at most. -/
theorem fn_same {P : Program} {f : Nat} {args : List Value} {m : Mem} {v : Value} (h : ∀ w, Calls P f (toArr args) w fun e w' => e = .returned v ∧ w' = w) : FnV P f args m v := by
  intro w hw
  refine (h w).mono ?_
  rintro e w' ⟨rfl, rfl⟩
  exact ⟨v, m, [], rfl, ⟨rfl, rfl, rfl, Nat.le_refl _, fun k hk _ => rfl, hw.sub, fun _ _ _ => by simp [keys], fun x hx => by simp at hx, by simp [keys], fun b hb => by simp [keys] at hb, Mem.Le.refl m, fun b o hb => .inl hb⟩, rfl, rfl⟩
theorem bitsLen_fn (m : Mem) (n : Nat) (h : n ≤ 1000000) : FnV Tryz.prog 84 [.int .u64 n] m (.int .i64 (Lib.bitLen n : Nat)) :=
  fn_same fun w => by
    have := Tryz.bits_Len n w (by omega) (by omega)
    rwa [Int.toNat_natCast] at this
theorem insertion_fn (m : Mem) (A : Option Addr) (c : Nat) (n : Nat) (h : n < 2) : FnV Tryz.prog 86 [.slice A n c, .int .i64 0, .int .i64 n] m (.tuple (toArr [])) := by
  refine Fn.enter (N := 49) hX Tryz.func86 rfl rfl (by show _ ≤ _; simp) (fun w0 hL => ?_)
  conv => whnf
  conv => whnf
  repeat ((first | refine zT ?_ | refine zF ?_ | refine zL hX hL ?_ | refine zB hX hL ?_ | (refine zS hX hL ?_; clear hL; intro w hL) | refine zI ?_ | refine zG hX ?_ | refine zO ?_); conv => whnf)
  refine LoopReq.inv hX (fun _ : Nat => [(6, .int .i64 1), (20, undef), (21, undef), (22, undef), (23, undef), (24, undef), (25, undef), (26, undef), (27, undef), (28, undef), (29, undef)]) [0, 1, 2]
    (fun _ w => Ev.Loc m [] w0 m [] w) (fun j => j) 0
    hL ⟨rfl, rfl, rfl, rfl, rfl, rfl, rfl, rfl, rfl, rfl, rfl, trivial⟩ ?_
  clear hL
  rintro j w g hL
  conv => whnf
  repeat ((first | refine BrReq.no (by omega) ?_ | refine zT ?_ | refine zF ?_ | refine zL hX hL ?_ | refine zB hX hL ?_ | (refine zS hX hL ?_; clear hL; intro w hL) | refine zI ?_ | refine zG hX ?_ | refine zO ?_); conv => whnf)
  exact RetReq.mk hL ⟨rfl, rfl⟩
theorem pdq_fn (m : Mem) (A : Option Addr) (c : Nat) (n q : Nat) (h : n < 2) : FnV Tryz.prog 83 [.slice A n c, .int .i64 0, .int .i64 n, .int .i64 q] m (.tuple (toArr [])) := by
  refine Fn.enter (N := 134) hX Tryz.func83 rfl rfl (by show _ ≤ _; simp) (fun w0 hL => ?_)
  conv => whnf
  conv => whnf
  repeat ((first | refine zT ?_ | refine zF ?_ | refine zL hX hL ?_ | refine zB hX hL ?_ | (refine zS hX hL ?_; clear hL; intro w hL) | refine zI ?_ | refine zG hX ?_ | refine zO ?_); conv => whnf)
  refine LoopReq.inv hX (fun _ : Nat => [(1, .int .i64 0), (2, .int .i64 n), (3, .int .i64 q), (8, .bool true), (9, .bool true), (63, undef), (66, undef), (67, undef), (76, undef), (77, undef), (78, undef), (79, undef), (80, undef), (81, undef), (82, undef), (83, undef), (84, undef), (85, undef), (86, undef)])
    [0] (fun _ w => Ev.Loc m [] w0 m [] w) (fun j => j) 0
    hL ⟨rfl, rfl, rfl, rfl, rfl, rfl, rfl, rfl, rfl, rfl, rfl, rfl, rfl, rfl, rfl, rfl, rfl, rfl, rfl, trivial⟩ ?_
  clear hL
  rintro j w g hL
  conv => whnf
  repeat ((first | refine BrReq.yes (by omega) ?_ | refine zT ?_ | refine zF ?_ | refine zL hX hL ?_ | refine zB hX hL ?_ | (refine zS hX hL ?_; clear hL; intro w hL) | refine zI ?_ | refine zG hX ?_ | refine zO ?_); conv => whnf)
  refine CallReq.val (insertion_fn m A c n h) hL ?_
  clear hL
  intro w hL
  conv => whnf
  repeat ((first | refine zT ?_ | refine zF ?_ | refine zL hX hL ?_ | refine zB hX hL ?_ | (refine zS hX hL ?_; clear hL; intro w hL) | refine zI ?_ | refine zG hX ?_ | refine zO ?_); conv => whnf)
  exact RetReq.mk hL ⟨rfl, rfl⟩
theorem sort_fn (m : Mem) (A : Option Addr) (n c : Nat) (h : n < 2) : FnV Tryz.prog 77 [.slice A n c] m (.tuple (toArr [])) := by
  refine Fn.enter (N := 11) hX Tryz.func77 rfl rfl (by show _ ≤ _; simp) (fun w0 hL => ?_)
  conv => whnf
  conv => whnf
  repeat ((first | refine zT ?_ | refine zF ?_ | refine zL hX hL ?_ | refine zB hX hL ?_ | (refine zS hX hL ?_; clear hL; intro w hL) | refine zI ?_ | refine zG hX ?_ | refine zO ?_); conv => whnf)
  refine ArReq.keep (k := .u64) (by show (0 : Int) ≤ _; omega) (by show _ ≤ (18446744073709551615 : Int); omega) ?_
  conv => whnf
  repeat ((first | refine zT ?_ | refine zF ?_ | refine zL hX hL ?_ | refine zB hX hL ?_ | (refine zS hX hL ?_; clear hL; intro w hL) | refine zI ?_ | refine zG hX ?_ | refine zO ?_); conv => whnf)
  refine CallReq.val (bitsLen_fn m n (by omega)) hL ?_
  clear hL
  intro w hL
  conv => whnf
  repeat ((first | refine zT ?_ | refine zF ?_ | refine zL hX hL ?_ | refine zB hX hL ?_ | (refine zS hX hL ?_; clear hL; intro w hL) | refine zI ?_ | refine zG hX ?_ | refine zO ?_); conv => whnf)
  refine CallReq.val (pdq_fn m A c n _ h) hL ?_
  clear hL
  intro w hL
  conv => whnf
  repeat ((first | refine zT ?_ | refine zF ?_ | refine zL hX hL ?_ | refine zB hX hL ?_ | (refine zS hX hL ?_; clear hL; intro w hL) | refine zI ?_ | refine zG hX ?_ | refine zO ?_); conv => whnf)
  exact RetReq.mk hL ⟨rfl, rfl⟩
end Go.Proofs.YtpdiljdklllmjaaGreat.ar
