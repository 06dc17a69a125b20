/- A scanner's classes. Conditions: none. -/
import Derived.Test.YtemdkfohlppckaaGreatDoorLxScan

namespace Go.Proofs.YtemdkfohlppckaaGreatDoor.lx
open Go Go.Ev Go.Proofs

theorem ix_in (l : List UInt8) (c : UInt8) : (0 ≤ Lib.indexByte l c ↔ c ∈ l) ∧ -1 ≤ Lib.indexByte l c ∧ Lib.indexByte l c ≤ l.length := by
  rw [ix_tw]
  have := tw_le c l
  split
  · rename_i h; exact ⟨⟨fun _ => h, fun _ => by omega⟩, by omega, by omega⟩
  · rename_i h; exact ⟨⟨fun h => by omega, fun hc => absurd hc h⟩, by omega, by omega⟩

theorem member_fn (m : Mem) (b : Nat) (s : List UInt8) (i : Nat) (hi : i ≤ s.length) (hl : s.length ≤ 1000000) :
    Ev.Fn Tryz.prog 81 [.pointer (some ⟨b, 0, none⟩)] m [(b, scO s i)] fun m' L' u => m' = m ∧ ∃ (x : Nat) (ok : Bool) (j : Nat), x < 256 ∧ j ≤ s.length ∧ L' = [(b, scO s j)] ∧ u = .tuple (toArr [.int .u8 x, .bool ok]) ∧
      (ok = true → (charT ownC (s.drop i)).2 ≠ 0 ∧ x = (charT ownC (s.drop i)).1 ∧ j = i + (charT ownC (s.drop i)).2) ∧ (ok = false → (charT ownC (s.drop i)).2 = 0) := by
  have hdl : (s.drop i).length = s.length - i := List.length_drop
  have hsz := bs_size (s.drop i)
  have hcut := scut_fn m b s [92] i hi hl (by decide)
  have hdd : s.drop (i + 1) = (s.drop i).drop 1 := by rw [List.drop_drop]
  have hesc := fun h => escape_fn m b s (i + 1) h hl
  refine Fn.enter (N := 30) hX Tryz.func81 rfl rfl (by show _ ≤ _; simp) (fun w0 hL => ?_)
  conv => whnf
  generalize keys [(b, scO s i)] = S0 at hL ⊢
  conv => whnf
  repeat ((first | refine zT ?_ | refine zF ?_ | refine zL hX hL ?_ | refine zB hX hL ?_ | (refine zS hX hL ?_; clear hL; intro w hL) | refine zI ?_ | refine zG hX ?_ | refine zO ?_); conv => whnf)
  refine CallReq.sc hcut hL ?_
  clear hL
  intro w hL
  have hrest := rest_fn m b s i hi hl
  rw [hdd] at hesc
  generalize s.drop i = r at *
  cases r with
  | nil =>
    replace hL : Ev.Loc m S0 w0 m [(b, scO s i)] w := hL
    conv => whnf
    repeat ((first | refine zT ?_ | refine zF ?_ | refine zL hX hL ?_ | refine zB hX hL ?_ | (refine zS hX hL ?_; clear hL; intro w hL) | refine zI ?_ | refine zG hX ?_ | refine zO ?_); conv => whnf)
    refine CallReq.sc hrest hL ?_
    clear hL
    intro w hL
    conv => whnf
    repeat ((first | refine UGenReq.strEq rfl rfl rfl ?_ | refine zT ?_ | refine zF ?_ | refine zL hX hL ?_ | refine zB hX hL ?_ | (refine zS hX hL ?_; clear hL; intro w hL) | refine zI ?_ | refine zG hX ?_ | refine zO ?_); conv => whnf)
    exact RetReq.mk hL ⟨rfl, 0, false, i, by omega, hi, rfl, rfl, fun h => (by cases h), fun _ => rfl⟩
  | cons c r =>
    have hc := c.toNat_lt
    have hi1 : i + 1 ≤ s.length := by simp only [List.length_cons] at hdl; omega
    by_cases k92 : c.toNat = 92
    · have hc92 : c = 92 := UInt8.toNat_inj.1 k92
      have hpr : ([92] : List UInt8).isPrefixOf (c :: r) = true := by subst hc92; rfl
      rw [hpr] at hL ⊢
      replace hL : Ev.Loc m S0 w0 m ([(b, scO s (i + 1))] ++ []) w := hL
      conv => whnf
      repeat ((first | refine zT ?_ | refine zF ?_ | refine zL hX hL ?_ | refine zB hX hL ?_ | (refine zS hX hL ?_; clear hL; intro w hL) | refine zI ?_ | refine zG hX ?_ | refine zO ?_); conv => whnf)
      refine CallReq.mk (hesc hi1) hL ?_
      clear hL
      rintro u m' L' w hL - ⟨rfl, x, ok, j, hx, hj, rfl, rfl, h1, h2⟩
      conv => whnf
      repeat ((first | refine zT ?_ | refine zF ?_ | refine zL hX hL ?_ | refine zB hX hL ?_ | (refine zS hX hL ?_; clear hL; intro w hL) | refine zI ?_ | refine zG hX ?_ | refine zO ?_); conv => whnf)
      refine RetReq.mk hL ⟨rfl, x, ok, j, hx, hj, rfl, rfl, fun h => ?_, fun h => ?_⟩
      · obtain ⟨g1, g2, g3⟩ := h1 h
        simp only [List.drop_one, List.tail_cons] at g1 g2 g3
        have : charT ownC (c :: r) = ((escT r).1, (escT r).2 + 1) := by simp only [charT]; rw [if_pos k92, if_neg g1]
        rw [this]; exact ⟨by simp, g2, by simp only; omega⟩
      · have g1 := h2 h
        simp only [List.drop_one, List.tail_cons] at g1
        simp only [charT]; rw [if_pos k92, if_pos g1]
    · have hpr : ([92] : List UInt8).isPrefixOf (c :: r) = false := by
        have : ¬ (92 : UInt8) = c := fun e => k92 (by rw [← e]; rfl)
        simp [List.isPrefixOf, this]
      rw [hpr] at hL ⊢
      replace hL : Ev.Loc m S0 w0 m [(b, scO s i)] w := hL
      have e0 : (bs (c :: r) == (⟨#[]⟩ : ByteArray)) = false := by rw [show (⟨#[]⟩ : ByteArray) = bs [] from rfl, bs_beq]; simp
      have hix := ix_in ownC c
      have hixf := indexByte_fn m ownC c
      conv => whnf
      repeat ((first | refine zT ?_ | refine zF ?_ | refine zL hX hL ?_ | refine zB hX hL ?_ | (refine zS hX hL ?_; clear hL; intro w hL) | refine zI ?_ | refine zG hX ?_ | refine zO ?_); conv => whnf)
      refine CallReq.sc hrest hL ?_
      clear hL
      intro w hL
      conv => whnf
      repeat ((first | refine UGenReq.strEq rfl rfl rfl ?_ | refine zT ?_ | refine zF ?_ | refine zL hX hL ?_ | refine zB hX hL ?_ | (refine zS hX hL ?_; clear hL; intro w hL) | refine zI ?_ | refine zG hX ?_ | refine zO ?_); conv => whnf)
      rw [e0]
      conv => whnf
      repeat ((first | refine StrIdxReq.mk 0 c rfl rfl ?_ | refine zT ?_ | refine zF ?_ | refine zL hX hL ?_ | refine zB hX hL ?_ | (refine zS hX hL ?_; clear hL; intro w hL) | refine zI ?_ | refine zG hX ?_ | refine zO ?_); conv => whnf)
      refine CallReq.val hixf hL ?_
      clear hL
      intro w hL
      replace hL : Ev.Loc m S0 w0 m [(b, .cells (toArr [.string (bs s), .int .i64 i]) 83 (0, 0))] w := hL
      by_cases hin : c ∈ ownC
      · conv => whnf
        repeat ((first | refine BrReq.yes (hix.1.2 hin) ?_ | refine zT ?_ | refine zF ?_ | refine zL hX hL ?_ | refine zB hX hL ?_ | (refine zS hX hL ?_; clear hL; intro w hL) | refine zI ?_ | refine zG hX ?_ | refine zO ?_); conv => whnf)
        exact RetReq.mk hL ⟨rfl, 0, false, i, by omega, hi, rfl, rfl, fun h => (by cases h), fun _ => by simp only [charT]; rw [if_neg k92, if_pos hin]⟩
      · conv => whnf
        repeat ((first | refine BrReq.no (fun h => hin (hix.1.1 h)) ?_ | refine StrIdxReq.mk 0 c rfl rfl ?_ | refine zT ?_ | refine zF ?_ | refine zL hX hL ?_ | refine zB hX hL ?_ | (refine zS hX hL ?_; clear hL; intro w hL) | refine zI ?_ | refine zG hX ?_ | refine zO ?_); conv => whnf)
        replace hL : Ev.Loc m S0 w0 m [(b, .cells (toArr [.string (bs s), .int .i64 (i + 1 : Nat)]) 83 (0, 0))] w := hL
        exact RetReq.mk hL ⟨rfl, c.toNat, true, i + 1, hc, hi1, rfl, rfl, fun _ => by simp only [charT]; rw [if_neg k92, if_neg hin]; exact ⟨Nat.succ_ne_zero 0, rfl, rfl⟩, fun h => by cases h⟩

theorem pre1 (c : UInt8) (r : List UInt8) : ([c] : List UInt8).isPrefixOf r = decide (r.head? = some c) := by
  cases r with
  | nil => rfl
  | cons d r =>
    simp only [List.isPrefixOf, List.head?_cons, Bool.and_true, Option.some.injEq]
    by_cases h : c = d
    · subst h; simp
    · have h2 : ¬ d = c := fun e => h e.symm
      simp [h, h2]

theorem alt2 {A B : Prop} (a : A) (b : B) : AltReq A B := ⟨⟨a, b⟩⟩
set_option maxHeartbeats 2000000 in
theorem class_fn (m : Mem) (b : Nat) (s : List UInt8) (i : Nat) (hi : i ≤ s.length) (hl : s.length ≤ 1000000) :
    Ev.Fn Tryz.prog 65 [.pointer (some ⟨b, 0, none⟩)] m [(b, scO s i)] fun m' L' u => m' = m ∧ ∃ (g : Nat → Nat) (ok : Bool) (j : Nat), InF g ∧ j ≤ s.length ∧ L' = [(b, scO s j)] ∧ u = .tuple (toArr [.agg (toArr (setC g)), .bool ok]) ∧
      (ok = true → i ≤ j ∧ classT (s.drop i) = some (g, j - i)) ∧ (ok = false → classT (s.drop i) = none) := by
  have hdl : (s.drop i).length = s.length - i := List.length_drop
  have hcut := scut_fn m b s [94] i hi hl (by decide)
  rw [pre1] at hcut
  obtain ⟨neg, hneg⟩ : ∃ neg, neg = decide ((s.drop i).head? = some 94) := ⟨_, rfl⟩
  rw [← hneg] at hcut
  obtain ⟨R0, hR0⟩ : ∃ R0, R0 = clsT ((s.drop i).length + 1) (s.drop (if neg = true then i + 1 else i)) (if neg = true then 1 else 0) zeroF := ⟨_, rfl⟩
  have hR : classT (s.drop i) = if neg = true then R0.map (fun x => (notF x.1, x.2)) else R0 := by
    unfold classT
    cases neg with
    | true => rw [if_pos (of_decide_eq_true hneg.symm), hR0]; simp only [if_true, List.drop_drop]
    | false => rw [if_neg (of_decide_eq_false hneg.symm), hR0]; rfl
  have hin : (if neg = true then i + 1 else i) ≤ s.length := by
    split
    · rename_i h
      rw [h] at hneg
      have h2 := of_decide_eq_true hneg.symm
      cases hd : s.drop i with
      | nil => rw [hd] at h2; cases h2
      | cons c r => rw [hd] at hdl; simp only [List.length_cons] at hdl; omega
    · exact hi
  refine Fn.enter (N := 47) hX Tryz.func65 rfl rfl (by show _ ≤ _; simp) (fun w0 hL => ?_)
  conv => whnf
  generalize keys [(b, scO s i)] = S0 at hL ⊢
  refine NewReq.mk hL ?_
  clear hL
  intro b2 w hL
  conv => whnf
  refine NewReq.mk hL ?_
  clear hL
  intro b4 w hL
  conv => whnf
  replace hL : Ev.Loc m S0 w0 m ((b, scO s i) :: [(b4, .cells (toArr (setC zeroF)) 33 (0, 0)), (b2, .cells (toArr (setC zeroF)) 33 (0, 0))]) w := hL.perm (List.perm_append_comm (l₁ := [_, _]) (l₂ := [_]))
  conv => whnf
  repeat ((first | refine zT ?_ | refine zF ?_ | refine zL hX hL ?_ | refine zB hX hL ?_ | (refine zS hX hL ?_; clear hL; intro w hL) | refine zI ?_ | refine zG hX ?_ | refine zO ?_); conv => whnf)
  refine CallReq.sc hcut hL ?_
  clear hL
  intro w hL
  conv => whnf
  repeat ((first | refine zT ?_ | refine zF ?_ | refine zL hX hL ?_ | refine zB hX hL ?_ | (refine zS hX hL ?_; clear hL; intro w hL) | refine zI ?_ | refine zG hX ?_ | refine zO ?_); conv => whnf)
  replace hL : Ev.Loc m S0 w0 m [(b4, .cells (toArr (setC zeroF)) 33 (0, 0)), (b2, .cells (toArr (setC zeroF)) 33 (0, 0)), (b, scO s (if neg = true then i + 1 else i))] w := hL.perm (List.perm_append_comm (l₁ := [_]) (l₂ := [_, _]))
  refine LoopReq.inv hX (fun _ : Nat × (Nat → Nat) => []) [0, 2, 4, 5]
    (fun t w => i ≤ t.1 ∧ t.1 ≤ s.length ∧ InF t.2 ∧ (∃ k, (s.drop t.1).length < k ∧ clsT k (s.drop t.1) (t.1 - i) t.2 = R0) ∧ Ev.Loc m S0 w0 m [(b4, .cells (toArr (setC t.2)) 33 (0, 0)), (b2, .cells (toArr (setC zeroF)) 33 (0, 0)), (b, scO s t.1)] w) (fun t => s.length + 1 - t.1) (if neg = true then i + 1 else i, zeroF)
    ⟨by simp only; split <;> omega, hin, inF_zero, ⟨(s.drop i).length + 1, by simp only; rw [List.length_drop, List.length_drop]; split <;> omega, by rw [hR0]; congr 1; simp only; split <;> omega⟩, hL⟩ trivial ?_
  clear hL
  rintro ⟨j, f⟩ w e ⟨hij, hj, hf, ⟨k, hk, hcl⟩, hL⟩
  simp only at hij hj hf hk hcl
  have hdj : (s.drop j).length = s.length - j := List.length_drop
  have hc93 := scut_fn m b s [93] j hj hl (by decide)
  rw [pre1] at hc93
  have hmem := member_fn m b s j hj hl
  replace hL : Ev.Loc m S0 w0 m ((b, scO s j) :: [(b4, .cells (toArr (setC f)) 33 (0, 0)), (b2, .cells (toArr (setC zeroF)) 33 (0, 0))]) w := hL.perm (List.perm_append_comm (l₁ := [_, _]) (l₂ := [_]))
  conv => whnf
  repeat ((first | refine zT ?_ | refine zF ?_ | refine zL hX hL ?_ | refine zB hX hL ?_ | (refine zS hX hL ?_; clear hL; intro w hL) | refine zI ?_ | refine zG hX ?_ | refine zO ?_); conv => whnf)
  refine CallReq.sc hc93 hL ?_
  clear hL
  intro w hL
  cases k with
  | zero => omega
  | succ k =>
  by_cases h93 : (s.drop j).head? = some 93
  · rw [if_pos (by simpa using h93)] at hL
    rw [decide_eq_true h93]
    have hj1 : j + 1 ≤ s.length := by
      cases hd : s.drop j with
      | nil => rw [hd] at h93; cases h93
      | cons c r => rw [hd] at hdj; simp only [List.length_cons] at hdj; omega
    have hR1 : R0 = some (f, j + 1 - i) := by
      rw [← hcl]
      cases hd : s.drop j with
      | nil => rw [hd] at h93; cases h93
      | cons c r =>
        rw [hd] at h93
        cases h93
        simp only [clsT]
        rw [if_pos (by decide)]
        congr 2; omega
    replace hL : Ev.Loc m S0 w0 m [(b4, .cells (toArr (setC f)) 33 (0, 0)), (b2, .cells (toArr (setC zeroF)) 33 (0, 0)), (b, scO s (j + 1))] w := hL.perm (List.perm_append_comm (l₁ := [_]) (l₂ := [_, _]))
    conv => whnf
    repeat ((first | refine zT ?_ | refine zF ?_ | refine zL hX hL ?_ | refine zB hX hL ?_ | (refine zS hX hL ?_; clear hL; intro w hL) | refine zI ?_ | refine zG hX ?_ | refine zO ?_); conv => whnf)
    cases neg with
    | false =>
      conv => whnf
      repeat ((first | refine zT ?_ | refine zF ?_ | refine zL hX hL ?_ | refine zB hX hL ?_ | (refine zS hX hL ?_; clear hL; intro w hL) | refine zI ?_ | refine zG hX ?_ | refine zO ?_); conv => whnf)
      exact RetReq.mk hL.drop.drop ⟨rfl, f, true, j + 1, hf, hj1, rfl, rfl, fun _ => ⟨by omega, by rw [hR, hR1]; rfl⟩, fun h => by cases h⟩
    | true =>
      conv => whnf
      repeat ((first | refine zT ?_ | refine zF ?_ | refine zL hX hL ?_ | refine zB hX hL ?_ | (refine zS hX hL ?_; clear hL; intro w hL) | refine zI ?_ | refine zG hX ?_ | refine zO ?_); conv => whnf)
      refine CallReq.val (Not_fn m f hf) hL ?_
      clear hL
      intro w hL
      conv => whnf
      repeat ((first | refine zT ?_ | refine zF ?_ | refine zL hX hL ?_ | refine zB hX hL ?_ | (refine zS hX hL ?_; clear hL; intro w hL) | refine zI ?_ | refine zG hX ?_ | refine zO ?_); conv => whnf)
      exact RetReq.mk hL.drop.drop ⟨rfl, notF f, true, j + 1, inF_not f, hj1, rfl, rfl, fun _ => ⟨by omega, by rw [hR, hR1]; rfl⟩, fun h => by cases h⟩
  · rw [if_neg (by simpa using h93)] at hL
    rw [decide_eq_false h93]
    replace hL : Ev.Loc m S0 w0 m ([(b, scO s j)] ++ [(b4, .cells (toArr (setC f)) 33 (0, 0)), (b2, .cells (toArr (setC zeroF)) 33 (0, 0))]) w := hL
    conv => whnf
    repeat ((first | refine zT ?_ | refine zF ?_ | refine zL hX hL ?_ | refine zB hX hL ?_ | (refine zS hX hL ?_; clear hL; intro w hL) | refine zI ?_ | refine zG hX ?_ | refine zO ?_); conv => whnf)
    refine CallReq.mk hmem hL ?_
    clear hL
    rintro u m' L' w hL - ⟨rfl, x, ok, j1, hx, hj1, rfl, rfl, h1, h2⟩
    replace hL : Ev.Loc m' S0 w0 m' ((b, scO s j1) :: [(b4, .cells (toArr (setC f)) 33 (0, 0)), (b2, .cells (toArr (setC zeroF)) 33 (0, 0))]) w := hL
    cases ok with
    | false =>
      have hR1 : R0 = none := by
        rw [← hcl]
        have h2 := h2 rfl
        cases hd : s.drop j with
        | nil => rfl
        | cons c r =>
          rw [hd] at h2 h93
          have h3 : ¬ c.toNat = 93 := fun e => h93 (by rw [List.head?_cons]; congr 1; exact UInt8.toNat_inj.1 e)
          simp only [clsT]
          rw [if_neg h3, if_pos h2]
      conv => whnf
      repeat ((first | refine zT ?_ | refine zF ?_ | refine zL hX hL ?_ | refine zB hX hL ?_ | (refine zS hX hL ?_; clear hL; intro w hL) | refine zI ?_ | refine zG hX ?_ | refine zO ?_); conv => whnf)
      exact RetReq.mk (hL.one 0 rfl) ⟨rfl, zeroF, false, j1, inF_zero, hj1, rfl, rfl, fun h => (by cases h), fun _ => by rw [hR, hR1]; split <;> rfl⟩
    | true =>
      obtain ⟨g1, g2, g3⟩ := h1 rfl
      obtain ⟨c, r, hd⟩ : ∃ c r, s.drop j = c :: r := by
        cases hd : s.drop j with
        | nil => rw [hd] at g1; exact absurd rfl g1
        | cons c r => exact ⟨c, r, rfl⟩
      have h3 : ¬ c.toNat = 93 := fun e => h93 (by rw [hd, List.head?_cons]; congr 1; exact UInt8.toNat_inj.1 e)
      rw [hd] at hcl g1 g2 g3 hdj
      simp only [clsT] at hcl
      have halt := charT_lt ownC (c :: r)
      generalize charT ownC (c :: r) = a at hcl g1 g2 g3 halt
      rw [if_neg h3, if_neg g1] at hcl
      subst g2
      subst g3
      have e1 : (c :: r).drop a.2 = s.drop (j + a.2) := by rw [← hd, List.drop_drop]
      have e2 : (c :: r).drop (a.2 + 1) = s.drop (j + a.2 + 1) := by rw [← hd, List.drop_drop]; rfl
      rw [e1, e2] at hcl
      have hc45 := scut_fn m' b s [45] (j + a.2) hj1 hl (by decide)
      rw [pre1] at hc45
      conv => whnf
      repeat ((first | refine zT ?_ | refine zF ?_ | refine zL hX hL ?_ | refine zB hX hL ?_ | (refine zS hX hL ?_; clear hL; intro w hL) | refine zI ?_ | refine zG hX ?_ | refine zO ?_); conv => whnf)
      refine CallReq.sc hc45 hL ?_
      clear hL
      intro w hL
      have hfu := fun hi => inF_fold (byR a.1 hi) hf
      by_cases hdash : (s.drop (j + a.2)).head? = some 45
      · rw [if_pos (by simpa using hdash)] at hL
        rw [decide_eq_true hdash]
        rw [if_pos hdash] at hcl
        have hj2 : j + a.2 + 1 ≤ s.length := by
          have hdj : (s.drop (j + a.2)).length = s.length - (j + a.2) := List.length_drop
          cases hd : s.drop (j + a.2) with
          | nil => rw [hd] at hdash; cases hdash
          | cons c r => rw [hd] at hdj; simp only [List.length_cons] at hdj; omega
        have hmem2 := member_fn m' b s (j + a.2 + 1) hj2 hl
        replace hL : Ev.Loc m' S0 w0 m' ([(b, scO s (j + a.2 + 1))] ++ [(b4, .cells (toArr (setC f)) 33 (0, 0)), (b2, .cells (toArr (setC zeroF)) 33 (0, 0))]) w := hL
        conv => whnf
        repeat ((first | refine zT ?_ | refine zF ?_ | refine zL hX hL ?_ | refine zB hX hL ?_ | (refine zS hX hL ?_; clear hL; intro w hL) | refine zI ?_ | refine zG hX ?_ | refine zO ?_); conv => whnf)
        refine CallReq.mk hmem2 hL ?_
        clear hL
        rintro u m2 L' w hL - ⟨rfl, y, ok2, j2, hy, hj3, rfl, rfl, q1, q2⟩
        replace hL : Ev.Loc m2 S0 w0 m2 ((b, scO s j2) :: [(b4, .cells (toArr (setC f)) 33 (0, 0)), (b2, .cells (toArr (setC zeroF)) 33 (0, 0))]) w := hL
        have hqlt := charT_lt ownC (s.drop (j + a.2 + 1))
        have e3 : ∀ q, (c :: r).drop (a.2 + 1 + q) = s.drop (j + a.2 + 1 + q) := fun q => by rw [← hd, List.drop_drop]; congr 1; omega
        rw [e3] at hcl
        generalize charT ownC (s.drop (j + a.2 + 1)) = q at hcl q1 q2 hqlt
        cases ok2 with
        | false =>
          rw [if_pos (.inl (q2 rfl))] at hcl
          conv => whnf
          repeat ((first | refine zT ?_ | refine zF ?_ | refine zL hX hL ?_ | refine zB hX hL ?_ | (refine zS hX hL ?_; clear hL; intro w hL) | refine zI ?_ | refine zG hX ?_ | refine zO ?_); conv => whnf)
          exact RetReq.mk (hL.one 0 rfl) ⟨rfl, zeroF, false, j2, inF_zero, hj3, rfl, rfl, fun h => (by cases h), fun _ => by rw [hR, ← hcl]; split <;> rfl⟩
        | true =>
          obtain ⟨p1, p2, p3⟩ := q1 rfl
          subst p2
          subst p3
          by_cases hlt : q.1 < a.1
          · rw [if_pos (.inr hlt)] at hcl
            conv => whnf
            repeat ((first | refine BrReq.yes (by omega) ?_ | refine zT ?_ | refine zF ?_ | refine zL hX hL ?_ | refine zB hX hL ?_ | (refine zS hX hL ?_; clear hL; intro w hL) | refine zI ?_ | refine zG hX ?_ | refine zO ?_); conv => whnf)
            exact RetReq.mk (hL.one 0 rfl) ⟨rfl, zeroF, false, _, inF_zero, hj3, rfl, rfl, fun h => (by cases h), fun _ => by rw [hR, ← hcl]; split <;> rfl⟩
          · rw [if_neg (by omega)] at hcl
            conv => whnf
            repeat ((first | refine BrReq.no (by omega) ?_ | refine zT ?_ | refine zF ?_ | refine zL hX hL ?_ | refine zB hX hL ?_ | (refine zS hX hL ?_; clear hL; intro w hL) | refine zI ?_ | refine zG hX ?_ | refine zO ?_); conv => whnf)
            have hun : unF f (rangeF a.1 q.1) = (byR a.1 q.1).foldl putF f := by unfold rangeF; rw [un_fold, un_zero]
            have hU := Union_fn m2 f (rangeF a.1 q.1) hf (inF_fold _ inF_zero)
            rw [hun] at hU
            refine DrawReq.plan hX (.fst 1 (.fst 2 (.alt 0 (.alt 3 (.alt 4 (.alt 5 (.done) (.stop)) (.stop)) (.stop)) (.alt 3 (.alt 0 (.alt 4 (.alt 5 (.done) (.stop)) (.stop)) (.stop)) (.stop))))) [] (by kernel_rfl) (by kernel_rfl) hL (fun h => h.sublist (List.nil_sublist _)) ?_
            clear hL
            intro w hL
            conv => whnf
            repeat ((first | refine zQ hX ?_ | refine zR hX ?_ | refine zA ?_ | refine zT ?_ | refine zF ?_ | refine zL hX hL ?_ | refine zB hX hL ?_ | (refine zS hX hL ?_; clear hL; intro w hL) | refine zI ?_ | refine zG hX ?_ | refine zO ?_); conv => whnf)
            refine alt2 ?_ ?_
            · conv => whnf
              repeat ((first | refine SReq.mk (hL.sublist (List.nil_sublist _)) ?_ | refine zQ hX ?_ | refine zR hX ?_ | refine zA ?_ | refine zT ?_ | refine zF ?_ | refine zL hX hL ?_ | refine zB hX hL ?_ | (refine zS hX hL ?_; clear hL; intro w hL) | refine zI ?_ | refine zG hX ?_ | refine zO ?_); conv => whnf)
              refine CallReq.val (Range_fn m2 a.1 q.1 hx (by omega)) hL ?_
              clear hL
              intro w hL
              conv => whnf
              repeat ((first | refine SReq.mk (hL.sublist (List.nil_sublist _)) ?_ | refine zQ hX ?_ | refine zR hX ?_ | refine zA ?_ | refine zT ?_ | refine zF ?_ | refine zL hX hL ?_ | refine zB hX hL ?_ | (refine zS hX hL ?_; clear hL; intro w hL) | refine zI ?_ | refine zG hX ?_ | refine zO ?_); conv => whnf)
              refine CallReq.val hU hL ?_
              clear hL
              intro w hL
              conv => whnf
              repeat ((first | refine SReq.mk (hL.sublist (List.nil_sublist _)) ?_ | refine zQ hX ?_ | refine zR hX ?_ | refine zA ?_ | refine zT ?_ | refine zF ?_ | refine zL hX hL ?_ | refine zB hX hL ?_ | (refine zS hX hL ?_; clear hL; intro w hL) | refine zI ?_ | refine zG hX ?_ | refine zO ?_); conv => whnf)
              replace hL : Ev.Loc m2 S0 w0 m2 ([(b, scO s (j + a.2 + 1 + q.2))] ++ [(b4, .cells (toArr (setC ((byR a.1 q.1).foldl putF f))) 33 (0, 0)), (b2, .cells (toArr (setC zeroF)) 33 (0, 0))]) w := hL
              have hL := hL.back
              refine ⟨((j + a.2 + 1 + q.2), (byR a.1 q.1).foldl putF f), ⟨by simp only; omega, hj3, hfu _, ⟨k, by simp only [List.length_drop] at hk hdj ⊢; omega, by rw [← hcl]; congr 1; simp only; omega⟩, hL⟩, by first | omega | (simp only; omega) | (simp only [List.length_cons, List.length_append]; omega), ?_, ?_⟩
              · repeat (first | exact trivial | (refine And.intro (by (conv => lhs; whnf) <;> (conv => rhs; whnf) <;> (first | rfl)) ?_))
              · repeat (first | exact trivial | (refine And.intro (by (conv => lhs; whnf) <;> (conv => rhs; whnf) <;> (first | rfl)) ?_))
            · conv => whnf
              repeat ((first | refine zQ hX ?_ | refine zR hX ?_ | refine zA ?_ | refine zT ?_ | refine zF ?_ | refine zL hX hL ?_ | refine zB hX hL ?_ | (refine zS hX hL ?_; clear hL; intro w hL) | refine zI ?_ | refine zG hX ?_ | refine zO ?_); conv => whnf)
              refine CallReq.val (Range_fn m2 a.1 q.1 hx (by omega)) hL ?_
              clear hL
              intro w hL
              conv => whnf
              repeat ((first | refine SReq.mk (hL.sublist (List.nil_sublist _)) ?_ | refine zQ hX ?_ | refine zR hX ?_ | refine zA ?_ | refine zT ?_ | refine zF ?_ | refine zL hX hL ?_ | refine zB hX hL ?_ | (refine zS hX hL ?_; clear hL; intro w hL) | refine zI ?_ | refine zG hX ?_ | refine zO ?_); conv => whnf)
              refine CallReq.val hU hL ?_
              clear hL
              intro w hL
              conv => whnf
              repeat ((first | refine SReq.mk (hL.sublist (List.nil_sublist _)) ?_ | refine zQ hX ?_ | refine zR hX ?_ | refine zA ?_ | refine zT ?_ | refine zF ?_ | refine zL hX hL ?_ | refine zB hX hL ?_ | (refine zS hX hL ?_; clear hL; intro w hL) | refine zI ?_ | refine zG hX ?_ | refine zO ?_); conv => whnf)
              replace hL : Ev.Loc m2 S0 w0 m2 ([(b, scO s (j + a.2 + 1 + q.2))] ++ [(b4, .cells (toArr (setC ((byR a.1 q.1).foldl putF f))) 33 (0, 0)), (b2, .cells (toArr (setC zeroF)) 33 (0, 0))]) w := hL
              have hL := hL.back
              refine ⟨((j + a.2 + 1 + q.2), (byR a.1 q.1).foldl putF f), ⟨by simp only; omega, hj3, hfu _, ⟨k, by simp only [List.length_drop] at hk hdj ⊢; omega, by rw [← hcl]; congr 1; simp only; omega⟩, hL⟩, by first | omega | (simp only; omega) | (simp only [List.length_cons, List.length_append]; omega), ?_, ?_⟩
              · repeat (first | exact trivial | (refine And.intro (by (conv => lhs; whnf) <;> (conv => rhs; whnf) <;> (first | rfl)) ?_))
              · repeat (first | exact trivial | (refine And.intro (by (conv => lhs; whnf) <;> (conv => rhs; whnf) <;> (first | rfl)) ?_))
      · rw [if_neg (by simpa using hdash)] at hL
        rw [decide_eq_false hdash]
        rw [if_neg hdash] at hcl
        conv => whnf
        repeat ((first | refine zT ?_ | refine zF ?_ | refine zL hX hL ?_ | refine zB hX hL ?_ | (refine zS hX hL ?_; clear hL; intro w hL) | refine zI ?_ | refine zG hX ?_ | refine zO ?_); conv => whnf)
        have hj3 := hj1
        have hun : unF f (rangeF a.1 a.1) = (byR a.1 a.1).foldl putF f := by unfold rangeF; rw [un_fold, un_zero]
        have hU := Union_fn m' f (rangeF a.1 a.1) hf (inF_fold _ inF_zero)
        rw [hun] at hU
        refine DrawReq.plan hX (.fst 1 (.fst 2 (.alt 0 (.alt 3 (.alt 4 (.alt 5 (.done) (.stop)) (.stop)) (.stop)) (.alt 3 (.alt 0 (.alt 4 (.alt 5 (.done) (.stop)) (.stop)) (.stop)) (.stop))))) [] (by kernel_rfl) (by kernel_rfl) hL (fun h => h.sublist (List.nil_sublist _)) ?_
        clear hL
        intro w hL
        conv => whnf
        repeat ((first | refine zQ hX ?_ | refine zR hX ?_ | refine zA ?_ | refine zT ?_ | refine zF ?_ | refine zL hX hL ?_ | refine zB hX hL ?_ | (refine zS hX hL ?_; clear hL; intro w hL) | refine zI ?_ | refine zG hX ?_ | refine zO ?_); conv => whnf)
        refine alt2 ?_ ?_
        · conv => whnf
          repeat ((first | refine SReq.mk (hL.sublist (List.nil_sublist _)) ?_ | refine zQ hX ?_ | refine zR hX ?_ | refine zA ?_ | refine zT ?_ | refine zF ?_ | refine zL hX hL ?_ | refine zB hX hL ?_ | (refine zS hX hL ?_; clear hL; intro w hL) | refine zI ?_ | refine zG hX ?_ | refine zO ?_); conv => whnf)
          refine CallReq.val (Range_fn m' a.1 a.1 hx (by omega)) hL ?_
          clear hL
          intro w hL
          conv => whnf
          repeat ((first | refine SReq.mk (hL.sublist (List.nil_sublist _)) ?_ | refine zQ hX ?_ | refine zR hX ?_ | refine zA ?_ | refine zT ?_ | refine zF ?_ | refine zL hX hL ?_ | refine zB hX hL ?_ | (refine zS hX hL ?_; clear hL; intro w hL) | refine zI ?_ | refine zG hX ?_ | refine zO ?_); conv => whnf)
          refine CallReq.val hU hL ?_
          clear hL
          intro w hL
          conv => whnf
          repeat ((first | refine SReq.mk (hL.sublist (List.nil_sublist _)) ?_ | refine zQ hX ?_ | refine zR hX ?_ | refine zA ?_ | refine zT ?_ | refine zF ?_ | refine zL hX hL ?_ | refine zB hX hL ?_ | (refine zS hX hL ?_; clear hL; intro w hL) | refine zI ?_ | refine zG hX ?_ | refine zO ?_); conv => whnf)
          replace hL : Ev.Loc m' S0 w0 m' ([(b, scO s (j + a.2))] ++ [(b4, .cells (toArr (setC ((byR a.1 a.1).foldl putF f))) 33 (0, 0)), (b2, .cells (toArr (setC zeroF)) 33 (0, 0))]) w := hL
          have hL := hL.back
          refine ⟨((j + a.2), (byR a.1 a.1).foldl putF f), ⟨by simp only; omega, hj3, hfu _, ⟨k, by simp only [List.length_drop] at hk hdj ⊢; omega, by rw [← hcl]; congr 1; simp only; omega⟩, hL⟩, by first | omega | (simp only; omega) | (simp only [List.length_cons, List.length_append]; omega), ?_, ?_⟩
          · repeat (first | exact trivial | (refine And.intro (by (conv => lhs; whnf) <;> (conv => rhs; whnf) <;> (first | rfl)) ?_))
          · repeat (first | exact trivial | (refine And.intro (by (conv => lhs; whnf) <;> (conv => rhs; whnf) <;> (first | rfl)) ?_))
        · conv => whnf
          repeat ((first | refine zQ hX ?_ | refine zR hX ?_ | refine zA ?_ | refine zT ?_ | refine zF ?_ | refine zL hX hL ?_ | refine zB hX hL ?_ | (refine zS hX hL ?_; clear hL; intro w hL) | refine zI ?_ | refine zG hX ?_ | refine zO ?_); conv => whnf)
          refine CallReq.val (Range_fn m' a.1 a.1 hx (by omega)) hL ?_
          clear hL
          intro w hL
          conv => whnf
          repeat ((first | refine SReq.mk (hL.sublist (List.nil_sublist _)) ?_ | refine zQ hX ?_ | refine zR hX ?_ | refine zA ?_ | refine zT ?_ | refine zF ?_ | refine zL hX hL ?_ | refine zB hX hL ?_ | (refine zS hX hL ?_; clear hL; intro w hL) | refine zI ?_ | refine zG hX ?_ | refine zO ?_); conv => whnf)
          refine CallReq.val hU hL ?_
          clear hL
          intro w hL
          conv => whnf
          repeat ((first | refine SReq.mk (hL.sublist (List.nil_sublist _)) ?_ | refine zQ hX ?_ | refine zR hX ?_ | refine zA ?_ | refine zT ?_ | refine zF ?_ | refine zL hX hL ?_ | refine zB hX hL ?_ | (refine zS hX hL ?_; clear hL; intro w hL) | refine zI ?_ | refine zG hX ?_ | refine zO ?_); conv => whnf)
          replace hL : Ev.Loc m' S0 w0 m' ([(b, scO s (j + a.2))] ++ [(b4, .cells (toArr (setC ((byR a.1 a.1).foldl putF f))) 33 (0, 0)), (b2, .cells (toArr (setC zeroF)) 33 (0, 0))]) w := hL
          have hL := hL.back
          refine ⟨((j + a.2), (byR a.1 a.1).foldl putF f), ⟨by simp only; omega, hj3, hfu _, ⟨k, by simp only [List.length_drop] at hk hdj ⊢; omega, by rw [← hcl]; congr 1; simp only; omega⟩, hL⟩, by first | omega | (simp only; omega) | (simp only [List.length_cons, List.length_append]; omega), ?_, ?_⟩
          · repeat (first | exact trivial | (refine And.intro (by (conv => lhs; whnf) <;> (conv => rhs; whnf) <;> (first | rfl)) ?_))
          · repeat (first | exact trivial | (refine And.intro (by (conv => lhs; whnf) <;> (conv => rhs; whnf) <;> (first | rfl)) ?_))
end Go.Proofs.YtemdkfohlppckaaGreatDoor.lx
