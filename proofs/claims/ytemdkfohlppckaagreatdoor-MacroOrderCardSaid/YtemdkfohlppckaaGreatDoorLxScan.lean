/- A scanner's smaller steps. Conditions: none. -/
import Derived.Test.YtemdkfohlppckaaGreatDoorLxSpec

namespace Go.Proofs.YtemdkfohlppckaaGreatDoor.lx
open Go Go.Ev Go.Proofs

theorem letter_fn (m : Mem) (n : Nat) (h : n < 256) : FnV Tryz.prog 48 [.int .u8 n] m (.bool (isL n)) := by
  refine Fn.enter (N := 17) hX Tryz.func48 rfl rfl (by show _ ≤ _; simp) (fun w0 hL => ?_)
  conv => whnf
  conv => whnf
  repeat' (first | ((first | refine zT ?_ | refine zF ?_ | refine zL hX hL ?_ | refine zB hX hL ?_ | (refine zS hX hL ?_; clear hL; intro w hL) | refine zI ?_ | refine zG hX ?_ | refine zO ?_); conv => whnf) | (refine BrReq.dec (fun _ => ?_) (fun _ => ?_) <;> (conv => whnf)) | (refine BrReq.not ?_; refine BrReq.dec (fun _ => ?_) (fun _ => ?_) <;> (conv => whnf)) | (refine BrReq.bool (fun _ => ?_) (fun _ => ?_) <;> (conv => whnf)))
  all_goals (refine RetReq.bool hL ?_; unfold isL; first | exact decide_eq_decide.2 (by omega) | exact (decide_eq_true (by omega)).symm | exact (decide_eq_false (by omega)).symm)
theorem digit_fn (m : Mem) (n : Nat) (h : n < 256) : FnV Tryz.prog 49 [.int .u8 n] m (.bool (isD n)) := by
  refine Fn.enter (N := 9) hX Tryz.func49 rfl rfl (by show _ ≤ _; simp) (fun w0 hL => ?_)
  conv => whnf
  conv => whnf
  repeat' (first | ((first | refine zT ?_ | refine zF ?_ | refine zL hX hL ?_ | refine zB hX hL ?_ | (refine zS hX hL ?_; clear hL; intro w hL) | refine zI ?_ | refine zG hX ?_ | refine zO ?_); conv => whnf) | (refine BrReq.dec (fun _ => ?_) (fun _ => ?_) <;> (conv => whnf)) | (refine BrReq.not ?_; refine BrReq.dec (fun _ => ?_) (fun _ => ?_) <;> (conv => whnf)) | (refine BrReq.bool (fun _ => ?_) (fun _ => ?_) <;> (conv => whnf)))
  all_goals (refine RetReq.bool hL ?_; unfold isD; first | exact decide_eq_decide.2 (by omega) | exact (decide_eq_true (by omega)).symm | exact (decide_eq_false (by omega)).symm)
theorem hex_fn (m : Mem) (n : Nat) (h : n < 256) : FnV Tryz.prog 80 [.int .u8 n] m (.int .i64 (hexN n)) := by
  refine Fn.enter (N := 31) hX Tryz.func80 rfl rfl (by show _ ≤ _; simp) (fun w0 hL => ?_)
  conv => whnf
  conv => whnf
  repeat ((first | refine zT ?_ | refine zF ?_ | refine zL hX hL ?_ | refine zB hX hL ?_ | (refine zS hX hL ?_; clear hL; intro w hL) | refine zI ?_ | refine zG hX ?_ | refine zO ?_); conv => whnf)
  refine CallReq.val (digit_fn m n h) hL ?_
  clear hL
  intro w hL
  unfold hexN isD
  by_cases hd : 48 ≤ n ∧ n ≤ 57
  · rw [if_pos hd, decide_eq_true hd]
    conv => whnf
    repeat ((first | refine ArReq.u8 (by omega) (by omega) ?_ | refine zT ?_ | refine zF ?_ | refine zL hX hL ?_ | refine zB hX hL ?_ | (refine zS hX hL ?_; clear hL; intro w hL) | refine zI ?_ | refine zG hX ?_ | refine zO ?_); conv => whnf)
    exact RetReq.int hL (by omega)
  · rw [if_neg hd, decide_eq_false hd]
    conv => whnf
    repeat' (first | ((first | refine ArReq.u8 (by omega) (by omega) ?_ | refine zT ?_ | refine zF ?_ | refine zL hX hL ?_ | refine zB hX hL ?_ | (refine zS hX hL ?_; clear hL; intro w hL) | refine zI ?_ | refine zG hX ?_ | refine zO ?_); conv => whnf) | (refine BrReq.dec (fun _ => ?_) (fun _ => ?_) <;> (conv => whnf)) | (refine BrReq.not ?_; refine BrReq.dec (fun _ => ?_) (fun _ => ?_) <;> (conv => whnf)) | (refine BrReq.bool (fun _ => ?_) (fun _ => ?_) <;> (conv => whnf)))
    all_goals (refine RetReq.int hL ?_; first | (rw [if_pos (by omega)]; try omega) | (rw [if_neg (by omega), if_pos (by omega)]; try omega) | (rw [if_neg (by omega), if_neg (by omega)]; try omega))

def scO (s : List UInt8) (at_ : Nat) : Obj := .cells (toArr [.string (bs s), .int .i64 at_]) 83 (0, 0)
/-- A call that moves the scanner. -/
def FnS (f : Nat) (args : List Value) (m : Mem) (b : Nat) (o o' : Obj) (v : Value) : Prop := Ev.Fn Tryz.prog f args m [(b, o)] fun m' L' u => m' = m ∧ L' = [(b, o')] ∧ u = v
theorem CallReq.sc {m0 m : Mem} {S : List Nat} {w0 w : World} {L : Ev.Own} {f b : Nat} {args : List Value} {o o' : Obj} {v : Value} {K : Value → World → Prop} (h : FnS f args m b o o' v) (hL : Ev.Loc m0 S w0 m ((b, o) :: L) w)
    (k : ∀ w', Ev.Loc m0 S w0 m ((b, o') :: L) w' → K v w') : CallReq Tryz.prog f (toArr args) w K :=
  CallReq.mk (L1 := [(b, o)]) h hL fun v m' L1' w' hl hle ⟨h1, h2, h3⟩ => by subst h1 h2 h3; exact k w' hl

theorem rest_fn (m : Mem) (b : Nat) (s : List UInt8) (i : Nat) (hi : i ≤ s.length) (hl : s.length ≤ 1000000) : FnS 79 [.pointer (some ⟨b, 0, none⟩)] m b (scO s i) (scO s i) (.string (bs (s.drop i))) := by
  have hsz := bs_size s
  refine Fn.enter (N := 12) hX Tryz.func79 rfl rfl (by show _ ≤ _; simp) (fun w0 hL => ?_)
  conv => whnf
  generalize keys [(b, scO s i)] = S0 at hL ⊢
  replace hL : Ev.Loc m S0 w0 m [(b, .cells (toArr [.string (bs s), .int .i64 i]) 83 (0, 0))] w0 := hL
  conv => whnf
  repeat ((first | refine zT ?_ | refine zF ?_ | refine zL hX hL ?_ | refine zB hX hL ?_ | (refine zS hX hL ?_; clear hL; intro w hL) | refine zI ?_ | refine zG hX ?_ | refine zO ?_); conv => whnf)
  refine DrawReq.plan hX (.fst 0 (.fst 1 (.fst 2 (.fst 3 (.fst 4 (.fst 5 (.fst 6 (.fst 7 (.fst 8 (.fst 9 (.done))))))))))) [(b, .cells (toArr [.string (bs s), .int .i64 i]) 83 (0, 0))] (by kernel_rfl) (by kernel_rfl) hL id ?_
  clear hL
  intro w hL
  conv => whnf
  repeat ((first | refine SlReq.mk i s.length rfl (by rw [hsz]) (by omega) (by omega) ?_ | refine zQ hX ?_ | refine zR hX ?_ | refine zA ?_ | refine zT ?_ | refine zF ?_ | refine zL hX hL ?_ | refine zB hX hL ?_ | (refine zS hX hL ?_; clear hL; intro w hL) | refine zI ?_ | refine zG hX ?_ | refine zO ?_); conv => whnf)
  have e2 : (bs s).extract i s.length = bs (s.drop i) := by rw [bs_extract, List.take_length]
  exact RetReq.mk hL ⟨rfl, rfl, congrArg Value.string e2⟩

theorem scut_fn (m : Mem) (b : Nat) (s p : List UInt8) (i : Nat) (hi : i ≤ s.length) (hl : s.length ≤ 1000000) (hp : p.length ≤ 10) :
    FnS 78 [.pointer (some ⟨b, 0, none⟩), .string (bs p)] m b (scO s i) (scO s (if p.isPrefixOf (s.drop i) = true then i + p.length else i)) (.bool (p.isPrefixOf (s.drop i))) := by
  have hsz := bs_size p
  refine Fn.enter (N := 19) hX Tryz.func78 rfl rfl (by show _ ≤ _; simp) (fun w0 hL => ?_)
  conv => whnf
  generalize keys [(b, scO s i)] = S0 at hL ⊢
  conv => whnf
  repeat ((first | refine zT ?_ | refine zF ?_ | refine zL hX hL ?_ | refine zB hX hL ?_ | (refine zS hX hL ?_; clear hL; intro w hL) | refine zI ?_ | refine zG hX ?_ | refine zO ?_); conv => whnf)
  refine CallReq.sc (rest_fn m b s i hi hl) hL ?_
  clear hL
  intro w hL
  conv => whnf
  repeat ((first | refine zT ?_ | refine zF ?_ | refine zL hX hL ?_ | refine zB hX hL ?_ | (refine zS hX hL ?_; clear hL; intro w hL) | refine zI ?_ | refine zG hX ?_ | refine zO ?_); conv => whnf)
  refine CallReq.val (prefix_fn m (s.drop i) p) hL ?_
  clear hL
  intro w hL
  replace hL : Ev.Loc m S0 w0 m [(b, .cells (toArr [.string (bs s), .int .i64 i]) 83 (0, 0))] w := hL
  cases hpr : p.isPrefixOf (s.drop i) with
  | false =>
    conv => whnf
    repeat ((first | refine zT ?_ | refine zF ?_ | refine zL hX hL ?_ | refine zB hX hL ?_ | (refine zS hX hL ?_; clear hL; intro w hL) | refine zI ?_ | refine zG hX ?_ | refine zO ?_); conv => whnf)
    exact RetReq.mk hL ⟨rfl, rfl, rfl⟩
  | true =>
    conv => whnf
    repeat ((first | refine zT ?_ | refine zF ?_ | refine zL hX hL ?_ | refine zB hX hL ?_ | (refine zS hX hL ?_; clear hL; intro w hL) | refine zI ?_ | refine zG hX ?_ | refine zO ?_); conv => whnf)
    replace hL : Ev.Loc m S0 w0 m [(b, .cells (toArr [.string (bs s), .int .i64 ((i : Int) + ((bs p).size : Int))]) 83 (0, 0))] w := hL
    rw [show (i : Int) + ((bs p).size : Int) = ((i + p.length : Nat) : Int) by omega] at hL
    exact RetReq.mk hL ⟨rfl, rfl, rfl⟩

theorem or16 : ∀ p, p < 16 → ∀ q, q < 16 → bitsOf .or .i64 ((16 * p : Nat) : Int) ((q : Nat) : Int) = ((16 * p + q : Nat) : Int) := by decide +kernel
theorem shl16 : ∀ p, p < 16 → IntKind.wrap .i64 (((p : Nat) : Int) * 2 ^ (min (Int.toNat 4) (IntKind.bits .i64))) = ((16 * p : Nat) : Int) := by decide +kernel

theorem escape_fn (m : Mem) (b : Nat) (s : List UInt8) (i : Nat) (hi : i ≤ s.length) (hl : s.length ≤ 1000000) :
    Ev.Fn Tryz.prog 63 [.pointer (some ⟨b, 0, none⟩)] m [(b, scO s i)] fun m' L' u => m' = m ∧ ∃ (x : Nat) (ok : Bool) (j : Nat), x < 256 ∧ j ≤ s.length ∧ L' = [(b, scO s j)] ∧ u = .tuple (toArr [.int .u8 x, .bool ok]) ∧
      (ok = true → (escT (s.drop i)).2 ≠ 0 ∧ x = (escT (s.drop i)).1 ∧ j = i + (escT (s.drop i)).2) ∧ (ok = false → (escT (s.drop i)).2 = 0) := by
  have hlt := escT_lt (s.drop i)
  have hdl : (s.drop i).length = s.length - i := List.length_drop
  have hsz := bs_size (s.drop i)
  refine Fn.enter (N := 74) hX Tryz.func63 rfl rfl (by show _ ≤ _; simp) (fun w0 hL => ?_)
  conv => whnf
  generalize keys [(b, scO s i)] = S0 at hL ⊢
  conv => whnf
  repeat ((first | refine zT ?_ | refine zF ?_ | refine zL hX hL ?_ | refine zB hX hL ?_ | (refine zS hX hL ?_; clear hL; intro w hL) | refine zI ?_ | refine zG hX ?_ | refine zO ?_); conv => whnf)
  refine CallReq.sc (rest_fn m b s i hi hl) hL ?_
  clear hL
  intro w hL
  replace hL : Ev.Loc m S0 w0 m [(b, .cells (toArr [.string (bs s), .int .i64 i]) 83 (0, 0))] w := hL
  generalize s.drop i = r at hlt hdl hsz ⊢
  cases r with
  | nil =>
    conv => whnf
    repeat ((first | refine UGenReq.strEq rfl rfl rfl ?_ | refine zT ?_ | refine zF ?_ | refine zL hX hL ?_ | refine zB hX hL ?_ | (refine zS hX hL ?_; clear hL; intro w hL) | refine zI ?_ | refine zG hX ?_ | refine zO ?_); conv => whnf)
    exact RetReq.mk hL ⟨rfl, 0, false, i, by omega, hi, rfl, rfl, fun h => (by cases h), fun _ => rfl⟩
  | cons c r =>
    have hc := c.toNat_lt
    have e0 : (bs (c :: r) == (⟨#[]⟩ : ByteArray)) = false := by rw [show (⟨#[]⟩ : ByteArray) = bs [] from rfl, bs_beq]; simp
    conv => whnf
    repeat ((first | refine UGenReq.strEq rfl rfl rfl ?_ | refine zT ?_ | refine zF ?_ | refine zL hX hL ?_ | refine zB hX hL ?_ | (refine zS hX hL ?_; clear hL; intro w hL) | refine zI ?_ | refine zG hX ?_ | refine zO ?_); conv => whnf)
    rw [e0]
    conv => whnf
    repeat ((first | refine zT ?_ | refine zF ?_ | refine zL hX hL ?_ | refine zB hX hL ?_ | (refine zS hX hL ?_; clear hL; intro w hL) | refine zI ?_ | refine zG hX ?_ | refine zO ?_); conv => whnf)
    refine StrIdxReq.mk 0 c rfl rfl ?_
    conv => whnf
    repeat ((first | refine zT ?_ | refine zF ?_ | refine zL hX hL ?_ | refine zB hX hL ?_ | (refine zS hX hL ?_; clear hL; intro w hL) | refine zI ?_ | refine zG hX ?_ | refine zO ?_); conv => whnf)
    replace hL : Ev.Loc m S0 w0 m [(b, .cells (toArr [.string (bs s), .int .i64 (i + 1 : Nat)]) 83 (0, 0))] w := hL
    have hi1 : i + 1 ≤ s.length := by simp only [List.length_cons] at hdl; omega
    by_cases k1 : c.toNat = 110
    · have hE : escT (c :: r) = (10, 1) := by simp [escT, k1]
      conv => whnf
      repeat ((first | refine BrReq.yes (by omega) ?_ | refine zT ?_ | refine zF ?_ | refine zL hX hL ?_ | refine zB hX hL ?_ | (refine zS hX hL ?_; clear hL; intro w hL) | refine zI ?_ | refine zG hX ?_ | refine zO ?_); conv => whnf)
      exact RetReq.mk hL ⟨rfl, 10, true, i + 1, by omega, hi1, rfl, rfl, fun _ => by rw [hE]; exact ⟨by decide, rfl, rfl⟩, fun h => by cases h⟩
    by_cases k2 : c.toNat = 116
    · have hE : escT (c :: r) = (9, 1) := by simp [escT, k2]
      conv => whnf
      repeat ((first | refine BrReq.yes (by omega) ?_ | refine BrReq.no (by omega) ?_ | refine zT ?_ | refine zF ?_ | refine zL hX hL ?_ | refine zB hX hL ?_ | (refine zS hX hL ?_; clear hL; intro w hL) | refine zI ?_ | refine zG hX ?_ | refine zO ?_); conv => whnf)
      exact RetReq.mk hL ⟨rfl, 9, true, i + 1, by omega, hi1, rfl, rfl, fun _ => by rw [hE]; exact ⟨by decide, rfl, rfl⟩, fun h => by cases h⟩
    by_cases k3 : c.toNat = 114
    · have hE : escT (c :: r) = (13, 1) := by simp [escT, k3]
      conv => whnf
      repeat ((first | refine BrReq.yes (by omega) ?_ | refine BrReq.no (by omega) ?_ | refine zT ?_ | refine zF ?_ | refine zL hX hL ?_ | refine zB hX hL ?_ | (refine zS hX hL ?_; clear hL; intro w hL) | refine zI ?_ | refine zG hX ?_ | refine zO ?_); conv => whnf)
      exact RetReq.mk hL ⟨rfl, 13, true, i + 1, by omega, hi1, rfl, rfl, fun _ => by rw [hE]; exact ⟨by decide, rfl, rfl⟩, fun h => by cases h⟩
    by_cases k4 : c.toNat = 115
    · have hE : escT (c :: r) = (32, 1) := by simp [escT, k4]
      conv => whnf
      repeat ((first | refine BrReq.yes (by omega) ?_ | refine BrReq.no (by omega) ?_ | refine zT ?_ | refine zF ?_ | refine zL hX hL ?_ | refine zB hX hL ?_ | (refine zS hX hL ?_; clear hL; intro w hL) | refine zI ?_ | refine zG hX ?_ | refine zO ?_); conv => whnf)
      exact RetReq.mk hL ⟨rfl, 32, true, i + 1, by omega, hi1, rfl, rfl, fun _ => by rw [hE]; exact ⟨by decide, rfl, rfl⟩, fun h => by cases h⟩
    by_cases k5 : c.toNat = 120
    · match r, hsz, hdl with
      | [], hsz, hdl =>
        simp only [List.length_cons, List.length_nil] at hsz
        conv => whnf
        repeat ((first | refine BrReq.yes (by omega) ?_ | refine BrReq.no (by omega) ?_ | refine zT ?_ | refine zF ?_ | refine zL hX hL ?_ | refine zB hX hL ?_ | (refine zS hX hL ?_; clear hL; intro w hL) | refine zI ?_ | refine zG hX ?_ | refine zO ?_); conv => whnf)
        exact RetReq.mk hL ⟨rfl, 0, false, i + 1, by omega, hi1, rfl, rfl, fun h => (by cases h), fun _ => by simp [escT, k5]⟩
      | [a], hsz, hdl =>
        simp only [List.length_cons, List.length_nil] at hsz
        conv => whnf
        repeat ((first | refine BrReq.yes (by omega) ?_ | refine BrReq.no (by omega) ?_ | refine zT ?_ | refine zF ?_ | refine zL hX hL ?_ | refine zB hX hL ?_ | (refine zS hX hL ?_; clear hL; intro w hL) | refine zI ?_ | refine zG hX ?_ | refine zO ?_); conv => whnf)
        exact RetReq.mk hL ⟨rfl, 0, false, i + 1, by omega, hi1, rfl, rfl, fun h => (by cases h), fun _ => by simp [escT, k5]⟩
      | a :: d :: x, hsz, hdl =>
        simp only [List.length_cons] at hsz hdl
        have ha := a.toNat_lt
        have hd := d.toNat_lt
        have h1 := hexN_le a.toNat
        have h2 := hexN_le d.toNat
        have g1 := hex_fn m a.toNat ha
        have g2 := hex_fn m d.toNat hd
        conv => whnf
        repeat ((first | refine BrReq.yes (by omega) ?_ | refine BrReq.no (by omega) ?_ | refine StrIdxReq.mk 1 a rfl rfl ?_ | refine zT ?_ | refine zF ?_ | refine zL hX hL ?_ | refine zB hX hL ?_ | (refine zS hX hL ?_; clear hL; intro w hL) | refine zI ?_ | refine zG hX ?_ | refine zO ?_); conv => whnf)
        refine CallReq.val g1 hL ?_
        clear hL
        intro w hL
        by_cases n1 : hexN a.toNat < 0
        · have hE : (escT (c :: a :: d :: x)).2 = 0 := by simp [escT, k5, n1]
          conv => whnf
          repeat ((first | refine BrReq.yes (by omega) ?_ | refine zT ?_ | refine zF ?_ | refine zL hX hL ?_ | refine zB hX hL ?_ | (refine zS hX hL ?_; clear hL; intro w hL) | refine zI ?_ | refine zG hX ?_ | refine zO ?_); conv => whnf)
          exact RetReq.mk hL ⟨rfl, 0, false, i + 1, by omega, hi1, rfl, rfl, fun h => (by cases h), fun _ => hE⟩
        conv => whnf
        repeat ((first | refine BrReq.no (by omega) ?_ | refine StrIdxReq.mk 2 d rfl rfl ?_ | refine zT ?_ | refine zF ?_ | refine zL hX hL ?_ | refine zB hX hL ?_ | (refine zS hX hL ?_; clear hL; intro w hL) | refine zI ?_ | refine zG hX ?_ | refine zO ?_); conv => whnf)
        refine CallReq.val g2 hL ?_
        clear hL
        intro w hL
        by_cases n2 : hexN d.toNat < 0
        · have hE : (escT (c :: a :: d :: x)).2 = 0 := by simp [escT, k5, n2]
          conv => whnf
          repeat ((first | refine BrReq.yes (by omega) ?_ | refine zT ?_ | refine zF ?_ | refine zL hX hL ?_ | refine zB hX hL ?_ | (refine zS hX hL ?_; clear hL; intro w hL) | refine zI ?_ | refine zG hX ?_ | refine zO ?_); conv => whnf)
          exact RetReq.mk hL ⟨rfl, 0, false, i + 1, by omega, hi1, rfl, rfl, fun h => (by cases h), fun _ => hE⟩
        conv => whnf
        repeat ((first | refine BrReq.no (by omega) ?_ | refine zT ?_ | refine zF ?_ | refine zL hX hL ?_ | refine zB hX hL ?_ | (refine zS hX hL ?_; clear hL; intro w hL) | refine zI ?_ | refine zG hX ?_ | refine zO ?_); conv => whnf)
        replace hL : Ev.Loc m S0 w0 m [(b, .cells (toArr [.string (bs s), .int .i64 (i + 3 : Nat)]) 83 (0, 0))] w := hL
        obtain ⟨p, hp⟩ : ∃ p : Nat, hexN a.toNat = p := ⟨(hexN a.toNat).toNat, by omega⟩
        obtain ⟨q, hq⟩ : ∃ q : Nat, hexN d.toNat = q := ⟨(hexN d.toNat).toNat, by omega⟩
        have hE : escT (c :: a :: d :: x) = (16 * p + q, 3) := by
          have e1 : ¬ (hexN a.toNat < 0 ∨ hexN d.toNat < 0) := by omega
          simp only [escT]
          rw [if_neg k1, if_neg k2, if_neg k3, if_neg k4, if_pos k5, if_neg e1, hp, hq]
          congr 1
        rw [hp] at g1 h1 n1
        rw [hq] at g2 h2 n2
        refine DrawReq.plan hX (.fst 0 (.fst 1 (.fst 4 (.fst 5 (.alt 2 (.fst 3 (.alt 6 (.fst 7 (.fst 8 (.fst 9 (.fst 10 (.done))))) (.stop))) (.stop)))))) [] (by kernel_rfl) (by kernel_rfl) hL (fun h => h.sublist (List.nil_sublist _)) ?_
        clear hL
        intro w hL
        conv => whnf
        repeat ((first | refine StrIdxReq.mk 1 a rfl rfl ?_ | refine StrIdxReq.mk 2 d rfl rfl ?_ | refine zQ hX ?_ | refine zR hX ?_ | refine zA ?_ | refine zT ?_ | refine zF ?_ | refine zL hX hL ?_ | refine zB hX hL ?_ | (refine zS hX hL ?_; clear hL; intro w hL) | refine zI ?_ | refine zG hX ?_ | refine zO ?_); conv => whnf)
        refine CallReq.val g1 hL ?_
        clear hL
        intro w hL
        conv => whnf
        repeat ((first | refine SReq.mk (hL.sublist (List.nil_sublist _)) ?_ | refine ShlReq.mk (n := ((16 * p : Nat) : Int)) (by decide) (shl16 p (by omega)) ?_ | refine zQ hX ?_ | refine zR hX ?_ | refine zA ?_ | refine zT ?_ | refine zF ?_ | refine zL hX hL ?_ | refine zB hX hL ?_ | (refine zS hX hL ?_; clear hL; intro w hL) | refine zI ?_ | refine zG hX ?_ | refine zO ?_); conv => whnf)
        refine CallReq.val g2 hL ?_
        clear hL
        intro w hL
        conv => whnf
        repeat ((first | refine SReq.mk (hL.sublist (List.nil_sublist _)) ?_ | refine BitReq.mk (or16 p (by omega) q (by omega)) ?_ | refine ArReq.u8 (by omega) (by omega) ?_ | refine zQ hX ?_ | refine zR hX ?_ | refine zA ?_ | refine zT ?_ | refine zF ?_ | refine zL hX hL ?_ | refine zB hX hL ?_ | (refine zS hX hL ?_; clear hL; intro w hL) | refine zI ?_ | refine zG hX ?_ | refine zO ?_); conv => whnf)
        exact RetReq.mk hL ⟨rfl, 16 * p + q, true, i + 3, by omega, by omega, rfl, rfl, fun _ => by rw [hE]; exact ⟨Nat.succ_ne_zero 2, rfl, rfl⟩, fun h => by cases h⟩
    have hd1 := letter_fn m c.toNat hc
    have hd2 := digit_fn m c.toNat hc
    conv => whnf
    repeat ((first | refine BrReq.yes (by omega) ?_ | refine BrReq.no (by omega) ?_ | refine zT ?_ | refine zF ?_ | refine zL hX hL ?_ | refine zB hX hL ?_ | (refine zS hX hL ?_; clear hL; intro w hL) | refine zI ?_ | refine zG hX ?_ | refine zO ?_); conv => whnf)
    refine CallReq.val hd1 hL ?_
    clear hL
    intro w hL
    cases hl1 : isL c.toNat with
    | true =>
      conv => whnf
      repeat ((first | refine zT ?_ | refine zF ?_ | refine zL hX hL ?_ | refine zB hX hL ?_ | (refine zS hX hL ?_; clear hL; intro w hL) | refine zI ?_ | refine zG hX ?_ | refine zO ?_); conv => whnf)
      exact RetReq.mk hL ⟨rfl, c.toNat, false, i + 1, hc, hi1, rfl, rfl, fun h => (by cases h), fun _ => by simp [escT, k1, k2, k3, k4, k5, hl1]⟩
    | false =>
      conv => whnf
      repeat ((first | refine zT ?_ | refine zF ?_ | refine zL hX hL ?_ | refine zB hX hL ?_ | (refine zS hX hL ?_; clear hL; intro w hL) | refine zI ?_ | refine zG hX ?_ | refine zO ?_); conv => whnf)
      refine CallReq.val hd2 hL ?_
      clear hL
      intro w hL
      cases hd1 : isD c.toNat with
      | true =>
        conv => whnf
        repeat ((first | refine zT ?_ | refine zF ?_ | refine zL hX hL ?_ | refine zB hX hL ?_ | (refine zS hX hL ?_; clear hL; intro w hL) | refine zI ?_ | refine zG hX ?_ | refine zO ?_); conv => whnf)
        exact RetReq.mk hL ⟨rfl, c.toNat, false, i + 1, hc, hi1, rfl, rfl, fun h => (by cases h), fun _ => by simp [escT, k1, k2, k3, k4, k5, hd1]⟩
      | false =>
        conv => whnf
        repeat ((first | refine zT ?_ | refine zF ?_ | refine zL hX hL ?_ | refine zB hX hL ?_ | (refine zS hX hL ?_; clear hL; intro w hL) | refine zI ?_ | refine zG hX ?_ | refine zO ?_); conv => whnf)
        exact RetReq.mk hL ⟨rfl, c.toNat, true, i + 1, hc, hi1, rfl, rfl, fun _ => by simp [escT, k1, k2, k3, k4, k5, hl1, hd1], fun h => by cases h⟩
end Go.Proofs.YtemdkfohlppckaaGreatDoor.lx
