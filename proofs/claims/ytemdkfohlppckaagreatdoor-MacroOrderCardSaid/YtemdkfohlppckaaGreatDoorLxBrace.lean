/- Names, numbers, repeats, signs, looks. Conditions: the laid variables are what they are. -/
import Derived.Test.YtemdkfohlppckaaGreatDoorLxClass

namespace Go.Proofs.YtemdkfohlppckaaGreatDoor.lx
open Go Go.Ev Go.Proofs

section
variable {P : Program}
theorem UGenReq.nilNe {o : Oper} {ρ : Operand → Value} {t yt : Nat} {x y : Operand} {K : Value → Prop} (ho : o.op = .binOp .neq t x y yt) (hx : ρ x = .nilIface) (hy : ρ y = .nilIface) (hg : eqGuard .neq t x y .nilIface .nilIface = pure ()) (ht : P.underlying t = some (.interface (P.methodsAt t)))
    (h : K (.bool false)) : UGenReq P o ρ K := by
  have hex : execOp ρ o = (do pure (.value (← (do eqGuard .neq t x y .nilIface .nilIface; binOp .neq t .nilIface .nilIface : Sem Value)))) := by simp only [execOp, ho, hx, hy]
  refine ⟨UOk.of_run _ hex (fun w => ?_) h⟩
  rw [hg]
  have := run_neq_nil_nil (w := w) t ht
  simp only [Sem.run_bind, Sem.run_pure, Result.andThen_ok]
  exact this
theorem UGenReq.heldNe {o : Oper} {ρ : Operand → Value} {t yt te : Nat} {x y : Operand} {u : Value} {K : Value → Prop} (ho : o.op = .binOp .neq t x y yt) (hx : ρ x = .iface te u) (hy : ρ y = .nilIface) (hg : eqGuard .neq t x y (.iface te u) .nilIface = pure ())
    (ht : P.underlying t = some (.interface (P.methodsAt t))) (h : K (.bool true)) : UGenReq P o ρ K := by
  have hex : execOp ρ o = (do pure (.value (← (do eqGuard .neq t x y (.iface te u) .nilIface; binOp .neq t (.iface te u) .nilIface : Sem Value)))) := by simp only [execOp, ho, hx, hy]
  refine ⟨UOk.of_run _ hex (fun w => ?_) h⟩
  rw [hg]
  have := run_neq_held_nil (w := w) t te u ht
  simp only [Sem.run_bind, Sem.run_pure, Result.andThen_ok]
  exact this
end
theorem bs_get (l : List UInt8) (i : Nat) : (bs l).data[i]? = l[i]? := by simp

theorem named_fn (m : Mem) (s : List UInt8) (hl : s.length ≤ 1000000) : FnV Tryz.prog 28 [.string (bs s)] m (.bool (namedT s)) := by
  have hsz := bs_size s
  refine Fn.enter (N := 40) hX Tryz.func28 rfl rfl (by show _ ≤ _; simp) (fun w0 hL => ?_)
  conv => whnf
  conv => whnf
  repeat ((first | refine zT ?_ | refine zF ?_ | refine zL hX hL ?_ | refine zB hX hL ?_ | (refine zS hX hL ?_; clear hL; intro w hL) | refine zI ?_ | refine zG hX ?_ | refine zO ?_); conv => whnf)
  refine LoopReq.inv hX (fun j : Nat => [(6, .int .i64 j)]) [0, 5]
    (fun j w => (j ≤ s.length ∧ (s.take j).all nmB = true) ∧ Ev.Loc m [] w0 m [] w) (fun j => s.length - j) 0
    ⟨⟨by omega, rfl⟩, hL⟩ ⟨rfl, trivial⟩ ?_
  clear hL
  rintro j w e ⟨⟨hj, hall⟩, hL⟩
  conv => whnf
  repeat ((first | refine zT ?_ | refine zF ?_ | refine zL hX hL ?_ | refine zB hX hL ?_ | (refine zS hX hL ?_; clear hL; intro w hL) | refine zI ?_ | refine zG hX ?_ | refine zO ?_); conv => whnf)
  refine BrReq.dec (fun hlt => ?_) (fun hlt => ?_)
  · have hj1 : j < s.length := by omega
    have hc := (s[j]).toNat_lt
    have htk : (s.take (j + 1)).all nmB = nmB s[j] := by rw [List.take_succ_eq_append_getElem hj1, List.all_append, hall]; simp
    have hg : (bs s).data[j]? = some s[j] := by rw [bs_get, List.getElem?_eq_getElem hj1]
    have hno : nmB s[j] = false → namedT s = false := fun h => by
      unfold namedT
      have : s.all nmB = false := by
        rw [List.all_eq_false]
        exact ⟨s[j], List.getElem_mem hj1, by simp [h]⟩
      rw [this]; rfl
    have hnm : nmB s[j] = (isL (s[j]).toNat || isD (s[j]).toNat || decide ((s[j]).toNat = 95)) := rfl
    rw [hnm] at htk hno
    clear hnm
    generalize s[j] = c at hc htk hg hno
    have h1 := letter_fn m c.toNat hc
    have h2 := digit_fn m c.toNat hc
    conv => whnf
    repeat ((first | refine StrIdxReq.mk j c rfl hg ?_ | refine zT ?_ | refine zF ?_ | refine zL hX hL ?_ | refine zB hX hL ?_ | (refine zS hX hL ?_; clear hL; intro w hL) | refine zI ?_ | refine zG hX ?_ | refine zO ?_); conv => whnf)
    refine CallReq.val h1 hL ?_
    clear hL
    intro w hL
    cases e1 : isL c.toNat with
    | true =>
      conv => whnf
      repeat ((first | refine zT ?_ | refine zF ?_ | refine zL hX hL ?_ | refine zB hX hL ?_ | (refine zS hX hL ?_; clear hL; intro w hL) | refine zI ?_ | refine zG hX ?_ | refine zO ?_); conv => whnf)
      refine ⟨j + 1, ⟨⟨by omega, by rw [htk, e1]; rfl⟩, hL⟩, by first | omega | (simp only; omega) | (simp only [List.length_cons, List.length_append]; omega), ?_, ?_⟩
      · repeat (first | exact trivial | (refine And.intro (by (conv => lhs; whnf) <;> (conv => rhs; whnf) <;> (first | rfl)) ?_))
      · repeat (first | exact trivial | (refine And.intro (by (conv => lhs; whnf) <;> (conv => rhs; whnf) <;> (first | rfl)) ?_))
    | false =>
      conv => whnf
      repeat ((first | refine StrIdxReq.mk j c rfl hg ?_ | refine zT ?_ | refine zF ?_ | refine zL hX hL ?_ | refine zB hX hL ?_ | (refine zS hX hL ?_; clear hL; intro w hL) | refine zI ?_ | refine zG hX ?_ | refine zO ?_); conv => whnf)
      refine CallReq.val h2 hL ?_
      clear hL
      intro w hL
      cases e2 : isD c.toNat with
      | true =>
        conv => whnf
        repeat ((first | refine zT ?_ | refine zF ?_ | refine zL hX hL ?_ | refine zB hX hL ?_ | (refine zS hX hL ?_; clear hL; intro w hL) | refine zI ?_ | refine zG hX ?_ | refine zO ?_); conv => whnf)
        refine ⟨j + 1, ⟨⟨by omega, by rw [htk, e1, e2]; rfl⟩, hL⟩, by first | omega | (simp only; omega) | (simp only [List.length_cons, List.length_append]; omega), ?_, ?_⟩
        · repeat (first | exact trivial | (refine And.intro (by (conv => lhs; whnf) <;> (conv => rhs; whnf) <;> (first | rfl)) ?_))
        · repeat (first | exact trivial | (refine And.intro (by (conv => lhs; whnf) <;> (conv => rhs; whnf) <;> (first | rfl)) ?_))
      | false =>
        conv => whnf
        repeat ((first | refine StrIdxReq.mk j c rfl hg ?_ | refine zT ?_ | refine zF ?_ | refine zL hX hL ?_ | refine zB hX hL ?_ | (refine zS hX hL ?_; clear hL; intro w hL) | refine zI ?_ | refine zG hX ?_ | refine zO ?_); conv => whnf)
        refine BrReq.dec (fun h95 => ?_) (fun h95 => ?_)
        · conv => whnf
          repeat ((first | refine zT ?_ | refine zF ?_ | refine zL hX hL ?_ | refine zB hX hL ?_ | (refine zS hX hL ?_; clear hL; intro w hL) | refine zI ?_ | refine zG hX ?_ | refine zO ?_); conv => whnf)
          exact RetReq.bool hL (hno (by rw [e1, e2, decide_eq_false (by omega)]; rfl)).symm
        · conv => whnf
          repeat ((first | refine zT ?_ | refine zF ?_ | refine zL hX hL ?_ | refine zB hX hL ?_ | (refine zS hX hL ?_; clear hL; intro w hL) | refine zI ?_ | refine zG hX ?_ | refine zO ?_); conv => whnf)
          refine ⟨j + 1, ⟨⟨by omega, by rw [htk, e1, e2, decide_eq_true (by omega)]; rfl⟩, hL⟩, by first | omega | (simp only; omega) | (simp only [List.length_cons, List.length_append]; omega), ?_, ?_⟩
          · repeat (first | exact trivial | (refine And.intro (by (conv => lhs; whnf) <;> (conv => rhs; whnf) <;> (first | rfl)) ?_))
          · repeat (first | exact trivial | (refine And.intro (by (conv => lhs; whnf) <;> (conv => rhs; whnf) <;> (first | rfl)) ?_))
  · have ej : j = s.length := by omega
    subst ej
    rw [List.take_length] at hall
    unfold namedT
    cases s with
    | nil =>
      conv => whnf
      repeat ((first | refine UGenReq.strNe rfl rfl rfl ?_ | refine zT ?_ | refine zF ?_ | refine zL hX hL ?_ | refine zB hX hL ?_ | (refine zS hX hL ?_; clear hL; intro w hL) | refine zI ?_ | refine zG hX ?_ | refine zO ?_); conv => whnf)
      exact RetReq.bool hL (by simp)
    | cons c r =>
      have hc := c.toNat_lt
      have h1 := letter_fn m c.toNat hc
      have e0 : (bs (c :: r) == (⟨#[]⟩ : ByteArray)) = false := by rw [show (⟨#[]⟩ : ByteArray) = bs [] from rfl, bs_beq]; simp
      conv => whnf
      repeat ((first | refine UGenReq.strNe rfl rfl rfl ?_ | refine zT ?_ | refine zF ?_ | refine zL hX hL ?_ | refine zB hX hL ?_ | (refine zS hX hL ?_; clear hL; intro w hL) | refine zI ?_ | refine zG hX ?_ | refine zO ?_); conv => whnf)
      rw [e0]
      conv => whnf
      repeat ((first | refine zT ?_ | refine zF ?_ | refine zL hX hL ?_ | refine zB hX hL ?_ | (refine zS hX hL ?_; clear hL; intro w hL) | refine zI ?_ | refine zG hX ?_ | refine zO ?_); conv => whnf)
      refine BrReq.dec (fun h20 => ?_) (fun h20 => ?_)
      · conv => whnf
        repeat ((first | refine StrIdxReq.mk 0 c rfl rfl ?_ | refine zT ?_ | refine zF ?_ | refine zL hX hL ?_ | refine zB hX hL ?_ | (refine zS hX hL ?_; clear hL; intro w hL) | refine zI ?_ | refine zG hX ?_ | refine zO ?_); conv => whnf)
        refine CallReq.val h1 hL ?_
        clear hL
        intro w hL
        conv => whnf
        repeat ((first | refine zT ?_ | refine zF ?_ | refine zL hX hL ?_ | refine zB hX hL ?_ | (refine zS hX hL ?_; clear hL; intro w hL) | refine zI ?_ | refine zG hX ?_ | refine zO ?_); conv => whnf)
        refine RetReq.bool hL ?_
        rw [hall, decide_eq_true (by omega)]; rfl
      · conv => whnf
        repeat ((first | refine zT ?_ | refine zF ?_ | refine zL hX hL ?_ | refine zB hX hL ?_ | (refine zS hX hL ?_; clear hL; intro w hL) | refine zI ?_ | refine zG hX ?_ | refine zO ?_); conv => whnf)
        refine RetReq.bool hL ?_
        rw [decide_eq_false (by omega)]; simp

theorem cnt_small : ∀ v, v < 21 → cntT (Lib.itoa (v : Nat)) = (v : Nat) := by decide +kernel
theorem itoa1 : ∀ v, v < 10 → ([UInt8.ofNat (48 + v)] : List UInt8) = Lib.itoa (v : Nat) ∧ Lib.atoiAll [UInt8.ofNat (48 + v)] = .ok (v : Nat) := by decide +kernel
theorem itoa2 : ∀ v, v < 21 → 10 ≤ v → ([UInt8.ofNat (48 + v / 10), UInt8.ofNat (48 + v % 10)] : List UInt8) = Lib.itoa (v : Nat) ∧ Lib.atoiAll [UInt8.ofNat (48 + v / 10), UInt8.ofNat (48 + v % 10)] = .ok (v : Nat) := by decide +kernel
theorem u8_of {c : UInt8} {n : Nat} (h : c.toNat = n) : c = UInt8.ofNat n := by subst h; simp
theorem isD_iff (n : Nat) : isD n = true ↔ 48 ≤ n ∧ n ≤ 57 := by simp [isD]
theorem cnt_spec (s : List UInt8) : cntT s = -1 ∨ ∃ v : Nat, v ≤ 20 ∧ cntT s = (v : Nat) ∧ s = Lib.itoa (v : Nat) ∧ Lib.atoiAll s = .ok (v : Nat) := by
  match s with
  | [] => exact .inl rfl
  | [a] =>
    simp only [cntT]
    by_cases h : isD a.toNat = true
    · have h' := (isD_iff _).1 h
      obtain ⟨v, hv⟩ : ∃ v, a.toNat = 48 + v := ⟨a.toNat - 48, by omega⟩
      have ea := u8_of hv
      obtain ⟨g1, g2⟩ := itoa1 v (by omega)
      refine .inr ⟨v, by omega, ?_, by rw [ea]; exact g1, by rw [ea]; exact g2⟩
      rw [if_pos h]; omega
    · exact .inl (if_neg h)
  | [a, b] =>
    simp only [cntT]
    by_cases h0 : a.toNat = 48
    · exact .inl (if_pos h0)
    rw [if_neg h0]
    by_cases h : isD a.toNat = true ∧ isD b.toNat = true
    · have ha := (isD_iff _).1 h.1
      have hb := (isD_iff _).1 h.2
      rw [if_pos h]
      by_cases h20 : 10 * ((a.toNat : Int) - 48) + ((b.toNat : Int) - 48) ≤ 20
      · obtain ⟨v, hv⟩ : ∃ v : Nat, 10 * ((a.toNat : Int) - 48) + ((b.toNat : Int) - 48) = v := ⟨(10 * ((a.toNat : Int) - 48) + ((b.toNat : Int) - 48)).toNat, by omega⟩
        have ea := u8_of (c := a) (n := 48 + v / 10) (by omega)
        have eb := u8_of (c := b) (n := 48 + v % 10) (by omega)
        obtain ⟨g1, g2⟩ := itoa2 v (by omega) (by omega)
        refine .inr ⟨v, by omega, by rw [if_pos h20, hv], by rw [ea, eb]; exact g1, by rw [ea, eb]; exact g2⟩
      · exact .inl (if_neg h20)
    · exact .inl (if_neg h)
  | a :: b :: c :: r => exact .inl rfl

theorem number_fn (m : Mem) (hQ : LibMem m) (s : List UInt8) (hl : s.length ≤ 1000000) : FnV Tryz.prog 91 [.string (bs s)] m (.int .i64 (cntT s)) := by
  have hs := cnt_spec s
  refine Fn.enter (N := 27) hX Tryz.func91 rfl rfl (by show _ ≤ _; simp) (fun w0 hL => ?_)
  conv => whnf
  conv => whnf
  repeat ((first | refine zT ?_ | refine zF ?_ | refine zL hX hL ?_ | refine zB hX hL ?_ | (refine zS hX hL ?_; clear hL; intro w hL) | refine zI ?_ | refine zG hX ?_ | refine zO ?_); conv => whnf)
  refine CallReq.pure (atoi_fn m hQ s hl) hL ?_
  clear hL
  rintro u m1 w hL hm1 (⟨z, hz, rfl⟩ | ⟨hno, z, p, rfl⟩)
  · obtain ⟨b0, b1⟩ := Lib.atoiAll_bounds hz
    replace hL := hL.weaken hm1 (Mem.Le.refl m)
    conv => whnf
    repeat ((first | refine UGenReq.nilNe rfl rfl rfl (by simp [eqGuard]) (by kernel_rfl) ?_ | refine zT ?_ | refine zF ?_ | refine zL hX hL ?_ | refine zB hX hL ?_ | (refine zS hX hL ?_; clear hL; intro w hL) | refine zI ?_ | refine zG hX ?_ | refine zO ?_); conv => whnf)
    refine CallReq.val (itoa_fn m hQ.tab z b0 b1) hL ?_
    clear hL
    intro w hL
    conv => whnf
    repeat ((first | refine UGenReq.strNe rfl rfl rfl ?_ | refine zT ?_ | refine zF ?_ | refine zL hX hL ?_ | refine zB hX hL ?_ | (refine zS hX hL ?_; clear hL; intro w hL) | refine zI ?_ | refine zG hX ?_ | refine zO ?_); conv => whnf)
    by_cases hz2 : Lib.itoa z = s
    · have e0 : (bs (Lib.itoa z) == bs s) = true := by rw [bs_beq]; simp [hz2]
      rw [e0]
      conv => whnf
      repeat ((first | refine zT ?_ | refine zF ?_ | refine zL hX hL ?_ | refine zB hX hL ?_ | (refine zS hX hL ?_; clear hL; intro w hL) | refine zI ?_ | refine zG hX ?_ | refine zO ?_); conv => whnf)
      by_cases hneg : z < 0
      · conv => whnf
        repeat ((first | refine BrReq.yes hneg ?_ | refine zT ?_ | refine zF ?_ | refine zL hX hL ?_ | refine zB hX hL ?_ | (refine zS hX hL ?_; clear hL; intro w hL) | refine zI ?_ | refine zG hX ?_ | refine zO ?_); conv => whnf)
        rcases hs with e | ⟨v, h1, h2, h3, h4⟩
        · exact RetReq.int hL e.symm
        · rw [h4] at hz; injection hz with hz; omega
      · conv => whnf
        repeat ((first | refine BrReq.no hneg ?_ | refine zT ?_ | refine zF ?_ | refine zL hX hL ?_ | refine zB hX hL ?_ | (refine zS hX hL ?_; clear hL; intro w hL) | refine zI ?_ | refine zG hX ?_ | refine zO ?_); conv => whnf)
        by_cases h20 : 20 < z
        · conv => whnf
          repeat ((first | refine BrReq.yes (by omega) ?_ | refine zT ?_ | refine zF ?_ | refine zL hX hL ?_ | refine zB hX hL ?_ | (refine zS hX hL ?_; clear hL; intro w hL) | refine zI ?_ | refine zG hX ?_ | refine zO ?_); conv => whnf)
          rcases hs with e | ⟨v, h1, h2, h3, h4⟩
          · exact RetReq.int hL e.symm
          · rw [h4] at hz; injection hz with hz; omega
        · conv => whnf
          repeat ((first | refine BrReq.no (by omega) ?_ | refine zT ?_ | refine zF ?_ | refine zL hX hL ?_ | refine zB hX hL ?_ | (refine zS hX hL ?_; clear hL; intro w hL) | refine zI ?_ | refine zG hX ?_ | refine zO ?_); conv => whnf)
          obtain ⟨v, rfl⟩ : ∃ v : Nat, z = v := ⟨z.toNat, by omega⟩
          have := cnt_small v (by omega)
          rw [hz2] at this
          exact RetReq.int hL this.symm
    · have e0 : (bs (Lib.itoa z) == bs s) = false := by rw [bs_beq]; simp [hz2]
      rw [e0]
      conv => whnf
      repeat ((first | refine zT ?_ | refine zF ?_ | refine zL hX hL ?_ | refine zB hX hL ?_ | (refine zS hX hL ?_; clear hL; intro w hL) | refine zI ?_ | refine zG hX ?_ | refine zO ?_); conv => whnf)
      rcases hs with e | ⟨v, h1, h2, h3, h4⟩
      · exact RetReq.int hL e.symm
      · rw [h4] at hz; injection hz with hz; rw [← hz] at hz2; exact absurd h3.symm hz2
  · replace hL := hL.weaken hm1 (Mem.Le.refl m)
    conv => whnf
    repeat ((first | refine UGenReq.heldNe rfl rfl rfl (by simp [eqGuard]) (by kernel_rfl) ?_ | refine zT ?_ | refine zF ?_ | refine zL hX hL ?_ | refine zB hX hL ?_ | (refine zS hX hL ?_; clear hL; intro w hL) | refine zI ?_ | refine zG hX ?_ | refine zO ?_); conv => whnf)
    rcases hs with e | ⟨v, h1, h2, h3, h4⟩
    · exact RetReq.int hL e.symm
    · exact absurd h4 (hno _)

theorem times_fn (m : Mem) (hQ : LibMem m) (t : List UInt8) (hl : t.length ≤ 1000000) : Fn0 Tryz.prog 85 [.string (bs t)] m fun m' u => m' = m ∧ ∃ (lo hi : Int) (ok : Bool), u = .tuple (toArr [.int .i64 lo, .int .i64 hi, .bool ok]) ∧ (ok = true → repT t = some (lo, hi)) ∧ (ok = false → repT t = none) := by
  have hcut := cut_fn m t 44 hl
  have htl := tw_le 44 t
  have hn1 := number_fn m hQ (tw 44 t) (by omega)
  have hn2 := number_fn m hQ (t.drop ((tw 44 t).length + 1)) (by rw [List.length_drop]; omega)
  unfold repT
  refine Fn.enter (N := 46) hX Tryz.func85 rfl rfl (by show _ ≤ _; simp) (fun w0 hL => ?_)
  conv => whnf
  conv => whnf
  repeat ((first | refine zT ?_ | refine zF ?_ | refine zL hX hL ?_ | refine zB hX hL ?_ | (refine zS hX hL ?_; clear hL; intro w hL) | refine zI ?_ | refine zG hX ?_ | refine zO ?_); conv => whnf)
  refine CallReq.val hcut hL ?_
  clear hL
  intro w hL
  conv => whnf
  repeat ((first | refine zT ?_ | refine zF ?_ | refine zL hX hL ?_ | refine zB hX hL ?_ | (refine zS hX hL ?_; clear hL; intro w hL) | refine zI ?_ | refine zG hX ?_ | refine zO ?_); conv => whnf)
  refine CallReq.val hn1 hL ?_
  clear hL
  intro w hL
  by_cases h44 : 44 ∈ t
  · rw [decide_eq_true h44, if_neg (fun h => h h44)]
    by_cases he : t.drop ((tw 44 t).length + 1) = []
    · rw [if_pos he, he]
      conv => whnf
      repeat ((first | refine UGenReq.strEq rfl rfl rfl ?_ | refine zT ?_ | refine zF ?_ | refine zL hX hL ?_ | refine zB hX hL ?_ | (refine zS hX hL ?_; clear hL; intro w hL) | refine zI ?_ | refine zG hX ?_ | refine zO ?_); conv => whnf)
      by_cases h0 : 0 ≤ cntT (tw 44 t)
      · refine RetReq.mk hL ⟨rfl, rfl, cntT (tw 44 t), -1, true, ?_, fun _ => if_pos h0, fun h => by cases h⟩
        rw [← decide_eq_true h0]; rfl
      · refine RetReq.mk hL ⟨rfl, rfl, cntT (tw 44 t), -1, false, ?_, fun h => (by cases h), fun _ => if_neg h0⟩
        rw [← decide_eq_false h0]; rfl
    · have e0 : (bs (t.drop ((tw 44 t).length + 1)) == (⟨#[]⟩ : ByteArray)) = false := by rw [show (⟨#[]⟩ : ByteArray) = bs [] from rfl, bs_beq]; simp only [decide_eq_false he]
      rw [if_neg he]
      conv => whnf
      repeat ((first | refine UGenReq.strEq rfl rfl rfl ?_ | refine zT ?_ | refine zF ?_ | refine zL hX hL ?_ | refine zB hX hL ?_ | (refine zS hX hL ?_; clear hL; intro w hL) | refine zI ?_ | refine zG hX ?_ | refine zO ?_); conv => whnf)
      rw [e0]
      conv => whnf
      repeat ((first | refine zT ?_ | refine zF ?_ | refine zL hX hL ?_ | refine zB hX hL ?_ | (refine zS hX hL ?_; clear hL; intro w hL) | refine zI ?_ | refine zG hX ?_ | refine zO ?_); conv => whnf)
      refine CallReq.val hn2 hL ?_
      clear hL
      intro w hL
      generalize cntT (t.drop ((tw 44 t).length + 1)) = hi
      generalize cntT (tw 44 t) = lo
      conv => whnf
      repeat' (first | ((first | refine zT ?_ | refine zF ?_ | refine zL hX hL ?_ | refine zB hX hL ?_ | (refine zS hX hL ?_; clear hL; intro w hL) | refine zI ?_ | refine zG hX ?_ | refine zO ?_); conv => whnf) | (refine BrReq.dec (fun _ => ?_) (fun _ => ?_) <;> (conv => whnf)) | (refine BrReq.not ?_; refine BrReq.dec (fun _ => ?_) (fun _ => ?_) <;> (conv => whnf)) | (refine BrReq.bool (fun _ => ?_) (fun _ => ?_) <;> (conv => whnf)))
      all_goals (refine RetReq.mk hL ⟨rfl, rfl, lo, hi, decide (0 ≤ lo ∧ lo ≤ hi ∧ 1 ≤ hi), ?_, fun h => if_pos (of_decide_eq_true h), fun h => if_neg (of_decide_eq_false h)⟩)
      · rw [show decide (0 ≤ lo ∧ lo ≤ hi ∧ 1 ≤ hi) = decide (1 ≤ hi) from decide_eq_decide.2 (by omega)]; rfl
      · rw [decide_eq_false (show ¬ (0 ≤ lo ∧ lo ≤ hi ∧ 1 ≤ hi) by omega)]; rfl
      · rw [decide_eq_false (show ¬ (0 ≤ lo ∧ lo ≤ hi ∧ 1 ≤ hi) by omega)]; rfl
  · rw [decide_eq_false h44, if_pos h44]
    have ht : tw 44 t = t := tw_all h44
    rw [ht]
    conv => whnf
    repeat ((first | refine zT ?_ | refine zF ?_ | refine zL hX hL ?_ | refine zB hX hL ?_ | (refine zS hX hL ?_; clear hL; intro w hL) | refine zI ?_ | refine zG hX ?_ | refine zO ?_); conv => whnf)
    refine RetReq.mk hL ⟨rfl, rfl, cntT t, cntT t, decide (1 ≤ cntT t), rfl, fun h => if_pos (of_decide_eq_true h), fun h => if_neg (of_decide_eq_false h)⟩

theorem braces_fn (m : Mem) (hQ : LibMem m) (b : Nat) (s : List UInt8) (i : Nat) (hi : i ≤ s.length) (hl : s.length ≤ 1000000) :
    Ev.Fn Tryz.prog 66 [.pointer (some ⟨b, 0, none⟩)] m [(b, scO s i)] fun m' L' u => m' = m ∧ ∃ (x : W) (ok : Bool) (j : Nat), j ≤ s.length ∧ L' = [(b, scO s j)] ∧ u = .tuple (toArr [.agg (toArr (wC 0 x)), .bool ok]) ∧
      (ok = true → i < j ∧ braceT (s.drop i) = (x, j - i)) ∧ (ok = false → (braceT (s.drop i)).2 = 0) := by
  have hdl : (s.drop i).length = s.length - i := List.length_drop
  have hrest := rest_fn m b s i hi hl
  unfold braceT
  generalize s.drop i = r at *
  have hcut := cut_fn m r 125 (by omega)
  have htl := tw_le 125 r
  have hnm := named_fn m (tw 125 r) (by omega)
  have htm := times_fn m hQ (tw 125 r) (by omega)
  have hsz := bs_size (tw 125 r)
  refine Fn.enter (N := 43) hX Tryz.func66 rfl rfl (by show _ ≤ _; simp) (fun w0 hL => ?_)
  conv => whnf
  generalize keys [(b, scO s i)] = S0 at hL ⊢
  refine NewReq.mk hL ?_
  clear hL
  intro b2 w hL
  conv => whnf
  replace hL : Ev.Loc m S0 w0 m ((b, scO s i) :: [(b2, .cells (toArr (wC 0 (wK 0))) 57 (0, 0))]) w := hL.perm (List.perm_append_comm (l₁ := [_]) (l₂ := [_]))
  conv => whnf
  repeat ((first | refine zT ?_ | refine zF ?_ | refine zL hX hL ?_ | refine zB hX hL ?_ | (refine zS hX hL ?_; clear hL; intro w hL) | refine zI ?_ | refine zG hX ?_ | refine zO ?_); conv => whnf)
  refine CallReq.sc hrest hL ?_
  clear hL
  intro w hL
  conv => whnf
  repeat ((first | refine zT ?_ | refine zF ?_ | refine zL hX hL ?_ | refine zB hX hL ?_ | (refine zS hX hL ?_; clear hL; intro w hL) | refine zI ?_ | refine zG hX ?_ | refine zO ?_); conv => whnf)
  refine CallReq.val hcut hL ?_
  clear hL
  intro w hL
  by_cases h125 : 125 ∈ r
  · have hlt := tw_lt h125
    rw [decide_eq_true h125, if_neg (fun h => h h125)]
    replace hL : Ev.Loc m S0 w0 m ((b, .cells (toArr [.string (bs s), .int .i64 i]) 83 (0, 0)) :: [(b2, .cells (toArr (wC 0 (wK 0))) 57 (0, 0))]) w := hL
    conv => whnf
    repeat ((first | refine zT ?_ | refine zF ?_ | refine zL hX hL ?_ | refine zB hX hL ?_ | (refine zS hX hL ?_; clear hL; intro w hL) | refine zI ?_ | refine zG hX ?_ | refine zO ?_); conv => whnf)
    replace hL : Ev.Loc m S0 w0 m ((b, .cells (toArr [.string (bs s), .int .i64 ((i : Int) + (((bs (tw 125 r)).size : Int) + 1))]) 83 (0, 0)) :: [(b2, .cells (toArr (wC 0 (wK 0))) 57 (0, 0))]) w := hL
    rw [show ((i : Int) + (((bs (tw 125 r)).size : Int) + 1)) = ((i + ((tw 125 r).length + 1) : Nat) : Int) by omega] at hL
    have hj : i + ((tw 125 r).length + 1) ≤ s.length := by omega
    have hji : i + ((tw 125 r).length + 1) - i = (tw 125 r).length + 1 := by omega
    refine CallReq.val hnm hL ?_
    clear hL
    intro w hL
    cases hn : namedT (tw 125 r) with
    | true =>
      conv => whnf
      repeat ((first | refine zT ?_ | refine zF ?_ | refine zL hX hL ?_ | refine zB hX hL ?_ | (refine zS hX hL ?_; clear hL; intro w hL) | refine zI ?_ | refine zG hX ?_ | refine zO ?_); conv => whnf)
      exact RetReq.mk (hL.one 0 rfl) ⟨rfl, ⟨11, zeroF, tw 125 r, 0, 0⟩, true, i + ((tw 125 r).length + 1), hj, rfl, rfl, fun _ => ⟨by omega, by rw [hji]; rfl⟩, fun h => by cases h⟩
    | false =>
      conv => whnf
      repeat ((first | refine zT ?_ | refine zF ?_ | refine zL hX hL ?_ | refine zB hX hL ?_ | (refine zS hX hL ?_; clear hL; intro w hL) | refine zI ?_ | refine zG hX ?_ | refine zO ?_); conv => whnf)
      refine CallReq.pure htm hL ?_
      clear hL
      rintro u m1 w hL - ⟨rfl, lo, hi', ok, rfl, h1, h2⟩
      cases ok with
      | true =>
        rw [h1 rfl]
        conv => whnf
        repeat ((first | refine zT ?_ | refine zF ?_ | refine zL hX hL ?_ | refine zB hX hL ?_ | (refine zS hX hL ?_; clear hL; intro w hL) | refine zI ?_ | refine zG hX ?_ | refine zO ?_); conv => whnf)
        exact RetReq.mk (hL.one 0 rfl) ⟨rfl, ⟨10, zeroF, [], lo, hi'⟩, true, i + ((tw 125 r).length + 1), hj, rfl, rfl, fun _ => ⟨by omega, by rw [hji]; rfl⟩, fun h => by cases h⟩
      | false =>
        rw [h2 rfl]
        conv => whnf
        repeat ((first | refine zT ?_ | refine zF ?_ | refine zL hX hL ?_ | refine zB hX hL ?_ | (refine zS hX hL ?_; clear hL; intro w hL) | refine zI ?_ | refine zG hX ?_ | refine zO ?_); conv => whnf)
        exact RetReq.mk (hL.one 0 rfl) ⟨rfl, ⟨10, zeroF, [], lo, hi'⟩, false, i + ((tw 125 r).length + 1), hj, rfl, rfl, fun h => (by cases h), fun _ => rfl⟩
  · rw [decide_eq_false h125, if_pos h125]
    conv => whnf
    repeat ((first | refine zT ?_ | refine zF ?_ | refine zL hX hL ?_ | refine zB hX hL ?_ | (refine zS hX hL ?_; clear hL; intro w hL) | refine zI ?_ | refine zG hX ?_ | refine zO ?_); conv => whnf)
    exact RetReq.mk (hL.one 0 rfl) ⟨rfl, wK 0, false, i, hi, rfl, rfl, fun h => (by cases h), fun _ => rfl⟩

def signL : List UInt8 := [40, 41, 124, 38, 126, 42, 43, 63]
theorem sign_ix : ∀ n, n < 256 → signT n = if 0 ≤ Lib.indexByte signL (UInt8.ofNat n) then 2 + Lib.indexByte signL (UInt8.ofNat n) else if n = 94 then 16 else if n = 36 then 17 else 0 := by decide +kernel
theorem sign_fn (m : Mem) (c : UInt8) : FnV Tryz.prog 68 [.int .u8 c.toNat] m (.int .i64 (signT c.toNat)) := by
  have hc := c.toNat_lt
  have h := sign_ix c.toNat hc
  have e : UInt8.ofNat c.toNat = c := by simp
  have hb := (ix_in signL c).2
  rw [e] at h
  rw [h]
  refine Fn.enter (N := 17) hX Tryz.func68 rfl rfl (by show _ ≤ _; simp) (fun w0 hL => ?_)
  conv => whnf
  conv => whnf
  repeat ((first | refine zT ?_ | refine zF ?_ | refine zL hX hL ?_ | refine zB hX hL ?_ | (refine zS hX hL ?_; clear hL; intro w hL) | refine zI ?_ | refine zG hX ?_ | refine zO ?_); conv => whnf)
  refine CallReq.val (indexByte_fn m signL c) hL ?_
  clear hL
  intro w hL
  generalize Lib.indexByte signL c = q at hb
  have hq : q ≤ 8 := hb.2
  conv => whnf
  repeat' (first | ((first | refine zT ?_ | refine zF ?_ | refine zL hX hL ?_ | refine zB hX hL ?_ | (refine zS hX hL ?_; clear hL; intro w hL) | refine zI ?_ | refine zG hX ?_ | refine zO ?_); conv => whnf) | (refine BrReq.dec (fun _ => ?_) (fun _ => ?_) <;> (conv => whnf)) | (refine BrReq.not ?_; refine BrReq.dec (fun _ => ?_) (fun _ => ?_) <;> (conv => whnf)) | (refine BrReq.bool (fun _ => ?_) (fun _ => ?_) <;> (conv => whnf)))
  all_goals (refine RetReq.int hL ?_; first | (rw [if_pos (by omega)]; try omega) | (rw [if_neg (by omega), if_pos (by omega)]; try omega) | (rw [if_neg (by omega), if_neg (by omega), if_pos (by omega)]; try omega) | (rw [if_neg (by omega), if_neg (by omega), if_neg (by omega)]; try omega))

def lkL : List (List UInt8) := [[40, 63, 61], [40, 63, 33], [40, 63, 60, 61], [40, 63, 60, 33]]
def lkC : List Value := lkL.map fun t => .string (bs t)
theorem look_fn (m : Mem) (b : Nat) (s : List UInt8) (i : Nat) (hi : i ≤ s.length) (hl : s.length ≤ 1000000) :
    FnS 62 [.pointer (some ⟨b, 0, none⟩)] m b (scO s i) (scO s (i + (lookT (s.drop i)).2)) (.int .i64 (lookT (s.drop i)).1) := by
  have hcut := fun p hp => scut_fn m b s p i hi hl hp
  refine Fn.enter (N := 18) hX Tryz.func62 rfl rfl (by show _ ≤ _; simp) (fun w0 hL => ?_)
  conv => whnf
  generalize keys [(b, scO s i)] = S0 at hL ⊢
  conv => whnf
  repeat ((first | refine zT ?_ | refine zF ?_ | refine zL hX hL ?_ | refine zB hX hL ?_ | (refine zS hX hL ?_; clear hL; intro w hL) | refine zI ?_ | refine zG hX ?_ | refine zO ?_); conv => whnf)
  refine NewReq.mk hL ?_
  clear hL
  intro g w hL
  conv => whnf
  replace hL : Ev.Loc m S0 w0 m [(g, .cells (toArr lkC) 9 (0, 0)), (b, scO s i)] w := hL
  conv => whnf
  repeat ((first | refine zT ?_ | refine zF ?_ | refine zL hX hL ?_ | refine zB hX hL ?_ | (refine zS hX hL ?_; clear hL; intro w hL) | refine zI ?_ | refine zG hX ?_ | refine zO ?_); conv => whnf)
  refine LoopReq.inv hX (fun j : Nat => [(7, .int .i64 j)]) [0, 5, 6]
    (fun j w => (j ≤ 4 ∧ ∀ k t, k < j → lkL[k]? = some t → t.isPrefixOf (s.drop i) = false) ∧ Ev.Loc m S0 w0 m [(g, .cells (toArr lkC) 9 (0, 0)), (b, scO s i)] w) (fun j => 4 - j) 0
    ⟨⟨by omega, fun k t h => absurd h (Nat.not_lt_zero _)⟩, hL⟩ ⟨rfl, trivial⟩ ?_
  clear hL
  rintro j w e ⟨⟨hj, hno⟩, hL⟩
  unfold lookT
  generalize s.drop i = r at *
  conv => whnf
  repeat ((first | refine zT ?_ | refine zF ?_ | refine zL hX hL ?_ | refine zB hX hL ?_ | (refine zS hX hL ?_; clear hL; intro w hL) | refine zI ?_ | refine zG hX ?_ | refine zO ?_); conv => whnf)
  refine BrReq.dec (fun hlt => ?_) (fun hlt => ?_)
  · have h0 : 0 < j → ([40, 63, 61] : List UInt8).isPrefixOf r = false := fun h => hno 0 _ h rfl
    have h1 : 1 < j → ([40, 63, 33] : List UInt8).isPrefixOf r = false := fun h => hno 1 _ h rfl
    have h2 : 2 < j → ([40, 63, 60, 61] : List UInt8).isPrefixOf r = false := fun h => hno 2 _ h rfl
    have : j = 0 ∨ j = 1 ∨ j = 2 ∨ j = 3 := by omega
    rcases this with rfl | rfl | rfl | rfl
    · skip
      have hc := hcut ([40, 63, 61]) (by decide)
      have hnx : ∀ k t, k < 0 + 1 → lkL[k]? = some t → (([40, 63, 61] : List UInt8).isPrefixOf r = false) → t.isPrefixOf r = false := by
        intro k t hk ht hp
        by_cases e : k = 0
        · subst e; cases ht; exact hp
        · exact hno k t (by omega) ht
      conv => whnf
      repeat ((first | refine Idx2Req.mk 0 _ rfl (by omega) rfl ?_ | refine zT ?_ | refine zF ?_ | refine zL hX hL ?_ | refine zB hX hL ?_ | (refine zS hX hL ?_; clear hL; intro w hL) | refine zI ?_ | refine zG hX ?_ | refine zO ?_); conv => whnf)
      replace hL : Ev.Loc m S0 w0 m ((b, scO s i) :: [(g, .cells (toArr lkC) 9 (0, 0))]) w := hL.perm (List.perm_append_comm (l₁ := [_]) (l₂ := [_]))
      refine CallReq.sc hc hL ?_
      clear hL
      intro w hL
      cases hp : ([40, 63, 61] : List UInt8).isPrefixOf r with
      | true =>
        rw [hp] at hL
        conv => whnf
        repeat ((first | refine zT ?_ | refine zF ?_ | refine zL hX hL ?_ | refine zB hX hL ?_ | (refine zS hX hL ?_; clear hL; intro w hL) | refine zI ?_ | refine zG hX ?_ | refine zO ?_); conv => whnf)
        refine RetReq.mk (hL.one 0 rfl) ⟨rfl, ?_, ?_⟩
        · simp
        · simp; rfl
      | false =>
        rw [hp] at hL
        replace hL : Ev.Loc m S0 w0 m [(g, .cells (toArr lkC) 9 (0, 0)), (b, scO s i)] w := hL.perm (List.perm_append_comm (l₁ := [_]) (l₂ := [_]))
        conv => whnf
        repeat ((first | refine zT ?_ | refine zF ?_ | refine zL hX hL ?_ | refine zB hX hL ?_ | (refine zS hX hL ?_; clear hL; intro w hL) | refine zI ?_ | refine zG hX ?_ | refine zO ?_); conv => whnf)
        refine ⟨0 + 1, ⟨⟨by omega, fun k t hk ht => hnx k t hk ht hp⟩, hL⟩, by first | omega | (simp only; omega) | (simp only [List.length_cons, List.length_append]; omega), ?_, ?_⟩
        · repeat (first | exact trivial | (refine And.intro (by (conv => lhs; whnf) <;> (conv => rhs; whnf) <;> (first | rfl)) ?_))
        · repeat (first | exact trivial | (refine And.intro (by (conv => lhs; whnf) <;> (conv => rhs; whnf) <;> (first | rfl)) ?_))
    · skip
      have hc := hcut ([40, 63, 33]) (by decide)
      have hnx : ∀ k t, k < 1 + 1 → lkL[k]? = some t → (([40, 63, 33] : List UInt8).isPrefixOf r = false) → t.isPrefixOf r = false := by
        intro k t hk ht hp
        by_cases e : k = 1
        · subst e; cases ht; exact hp
        · exact hno k t (by omega) ht
      conv => whnf
      repeat ((first | refine Idx2Req.mk 1 _ rfl (by omega) rfl ?_ | refine zT ?_ | refine zF ?_ | refine zL hX hL ?_ | refine zB hX hL ?_ | (refine zS hX hL ?_; clear hL; intro w hL) | refine zI ?_ | refine zG hX ?_ | refine zO ?_); conv => whnf)
      replace hL : Ev.Loc m S0 w0 m ((b, scO s i) :: [(g, .cells (toArr lkC) 9 (0, 0))]) w := hL.perm (List.perm_append_comm (l₁ := [_]) (l₂ := [_]))
      refine CallReq.sc hc hL ?_
      clear hL
      intro w hL
      cases hp : ([40, 63, 33] : List UInt8).isPrefixOf r with
      | true =>
        rw [hp] at hL
        conv => whnf
        repeat ((first | refine zT ?_ | refine zF ?_ | refine zL hX hL ?_ | refine zB hX hL ?_ | (refine zS hX hL ?_; clear hL; intro w hL) | refine zI ?_ | refine zG hX ?_ | refine zO ?_); conv => whnf)
        refine RetReq.mk (hL.one 0 rfl) ⟨rfl, ?_, ?_⟩
        · simp[h0]
        · simp[h0]; rfl
      | false =>
        rw [hp] at hL
        replace hL : Ev.Loc m S0 w0 m [(g, .cells (toArr lkC) 9 (0, 0)), (b, scO s i)] w := hL.perm (List.perm_append_comm (l₁ := [_]) (l₂ := [_]))
        conv => whnf
        repeat ((first | refine zT ?_ | refine zF ?_ | refine zL hX hL ?_ | refine zB hX hL ?_ | (refine zS hX hL ?_; clear hL; intro w hL) | refine zI ?_ | refine zG hX ?_ | refine zO ?_); conv => whnf)
        refine ⟨1 + 1, ⟨⟨by omega, fun k t hk ht => hnx k t hk ht hp⟩, hL⟩, by first | omega | (simp only; omega) | (simp only [List.length_cons, List.length_append]; omega), ?_, ?_⟩
        · repeat (first | exact trivial | (refine And.intro (by (conv => lhs; whnf) <;> (conv => rhs; whnf) <;> (first | rfl)) ?_))
        · repeat (first | exact trivial | (refine And.intro (by (conv => lhs; whnf) <;> (conv => rhs; whnf) <;> (first | rfl)) ?_))
    · skip
      have hc := hcut ([40, 63, 60, 61]) (by decide)
      have hnx : ∀ k t, k < 2 + 1 → lkL[k]? = some t → (([40, 63, 60, 61] : List UInt8).isPrefixOf r = false) → t.isPrefixOf r = false := by
        intro k t hk ht hp
        by_cases e : k = 2
        · subst e; cases ht; exact hp
        · exact hno k t (by omega) ht
      conv => whnf
      repeat ((first | refine Idx2Req.mk 2 _ rfl (by omega) rfl ?_ | refine zT ?_ | refine zF ?_ | refine zL hX hL ?_ | refine zB hX hL ?_ | (refine zS hX hL ?_; clear hL; intro w hL) | refine zI ?_ | refine zG hX ?_ | refine zO ?_); conv => whnf)
      replace hL : Ev.Loc m S0 w0 m ((b, scO s i) :: [(g, .cells (toArr lkC) 9 (0, 0))]) w := hL.perm (List.perm_append_comm (l₁ := [_]) (l₂ := [_]))
      refine CallReq.sc hc hL ?_
      clear hL
      intro w hL
      cases hp : ([40, 63, 60, 61] : List UInt8).isPrefixOf r with
      | true =>
        rw [hp] at hL
        conv => whnf
        repeat ((first | refine zT ?_ | refine zF ?_ | refine zL hX hL ?_ | refine zB hX hL ?_ | (refine zS hX hL ?_; clear hL; intro w hL) | refine zI ?_ | refine zG hX ?_ | refine zO ?_); conv => whnf)
        refine RetReq.mk (hL.one 0 rfl) ⟨rfl, ?_, ?_⟩
        · simp[h0, h1]
        · simp[h0, h1]; rfl
      | false =>
        rw [hp] at hL
        replace hL : Ev.Loc m S0 w0 m [(g, .cells (toArr lkC) 9 (0, 0)), (b, scO s i)] w := hL.perm (List.perm_append_comm (l₁ := [_]) (l₂ := [_]))
        conv => whnf
        repeat ((first | refine zT ?_ | refine zF ?_ | refine zL hX hL ?_ | refine zB hX hL ?_ | (refine zS hX hL ?_; clear hL; intro w hL) | refine zI ?_ | refine zG hX ?_ | refine zO ?_); conv => whnf)
        refine ⟨2 + 1, ⟨⟨by omega, fun k t hk ht => hnx k t hk ht hp⟩, hL⟩, by first | omega | (simp only; omega) | (simp only [List.length_cons, List.length_append]; omega), ?_, ?_⟩
        · repeat (first | exact trivial | (refine And.intro (by (conv => lhs; whnf) <;> (conv => rhs; whnf) <;> (first | rfl)) ?_))
        · repeat (first | exact trivial | (refine And.intro (by (conv => lhs; whnf) <;> (conv => rhs; whnf) <;> (first | rfl)) ?_))
    · skip
      have hc := hcut ([40, 63, 60, 33]) (by decide)
      have hnx : ∀ k t, k < 3 + 1 → lkL[k]? = some t → (([40, 63, 60, 33] : List UInt8).isPrefixOf r = false) → t.isPrefixOf r = false := by
        intro k t hk ht hp
        by_cases e : k = 3
        · subst e; cases ht; exact hp
        · exact hno k t (by omega) ht
      conv => whnf
      repeat ((first | refine Idx2Req.mk 3 _ rfl (by omega) rfl ?_ | refine zT ?_ | refine zF ?_ | refine zL hX hL ?_ | refine zB hX hL ?_ | (refine zS hX hL ?_; clear hL; intro w hL) | refine zI ?_ | refine zG hX ?_ | refine zO ?_); conv => whnf)
      replace hL : Ev.Loc m S0 w0 m ((b, scO s i) :: [(g, .cells (toArr lkC) 9 (0, 0))]) w := hL.perm (List.perm_append_comm (l₁ := [_]) (l₂ := [_]))
      refine CallReq.sc hc hL ?_
      clear hL
      intro w hL
      cases hp : ([40, 63, 60, 33] : List UInt8).isPrefixOf r with
      | true =>
        rw [hp] at hL
        conv => whnf
        repeat ((first | refine zT ?_ | refine zF ?_ | refine zL hX hL ?_ | refine zB hX hL ?_ | (refine zS hX hL ?_; clear hL; intro w hL) | refine zI ?_ | refine zG hX ?_ | refine zO ?_); conv => whnf)
        refine RetReq.mk (hL.one 0 rfl) ⟨rfl, ?_, ?_⟩
        · simp[h0, h1, h2]
        · simp[h0, h1, h2]; rfl
      | false =>
        rw [hp] at hL
        replace hL : Ev.Loc m S0 w0 m [(g, .cells (toArr lkC) 9 (0, 0)), (b, scO s i)] w := hL.perm (List.perm_append_comm (l₁ := [_]) (l₂ := [_]))
        conv => whnf
        repeat ((first | refine zT ?_ | refine zF ?_ | refine zL hX hL ?_ | refine zB hX hL ?_ | (refine zS hX hL ?_; clear hL; intro w hL) | refine zI ?_ | refine zG hX ?_ | refine zO ?_); conv => whnf)
        refine ⟨3 + 1, ⟨⟨by omega, fun k t hk ht => hnx k t hk ht hp⟩, hL⟩, by first | omega | (simp only; omega) | (simp only [List.length_cons, List.length_append]; omega), ?_, ?_⟩
        · repeat (first | exact trivial | (refine And.intro (by (conv => lhs; whnf) <;> (conv => rhs; whnf) <;> (first | rfl)) ?_))
        · repeat (first | exact trivial | (refine And.intro (by (conv => lhs; whnf) <;> (conv => rhs; whnf) <;> (first | rfl)) ?_))
  · have h0 : ([40, 63, 61] : List UInt8).isPrefixOf r = false := hno 0 _ (by omega) rfl
    have h1 : ([40, 63, 33] : List UInt8).isPrefixOf r = false := hno 1 _ (by omega) rfl
    have h2 : ([40, 63, 60, 61] : List UInt8).isPrefixOf r = false := hno 2 _ (by omega) rfl
    have h3 : ([40, 63, 60, 33] : List UInt8).isPrefixOf r = false := hno 3 _ (by omega) rfl
    rw [h0, h1, h2, h3]
    conv => whnf
    repeat ((first | refine zT ?_ | refine zF ?_ | refine zL hX hL ?_ | refine zB hX hL ?_ | (refine zS hX hL ?_; clear hL; intro w hL) | refine zI ?_ | refine zG hX ?_ | refine zO ?_); conv => whnf)
    exact RetReq.mk hL.drop ⟨rfl, rfl, rfl⟩
end Go.Proofs.YtemdkfohlppckaaGreatDoor.lx
