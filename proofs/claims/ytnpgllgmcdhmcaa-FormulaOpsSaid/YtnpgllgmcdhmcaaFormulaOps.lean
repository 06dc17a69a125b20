/- FormulaOps, proved. Conditions: none beyond the row's own. -/
import Derived.Test.YtnpgllgmcdhmcaaFoDual
import Derived.Test.YtnpgllgmcdhmcaaFoOp2
import Derived.Test.YtnpgllgmcdhmcaaFoGiven
import Derived.Test.YtnpgllgmcdhmcaaRows

namespace Go.Proofs.Ytnpgllgmcdhmcaa.foo
open Go Go.Ev Go.Proofs Go.ChangeShapes Go.WideShapes Go.ChangeAt Go.RowKit Go.Proofs.Ytnpgllgmcdhmcaa.fo

theorem or_err (m : Mem) (v1 v2 : Value) (f g : Fml) (h1 : FmV m v1 f) (h2 : FmV m v2 g) (hn : ¬ (FormedP f ∧ FormedP g)) :
    FnV Try.prog 9 [v1, v2] m (.tuple (toArr [.slice none 0 0, .int .i64 1])) := by
  have k1 := Formed_fn m v1 f h1
  have k2 := Formed_fn m v2 g h2
  obtain ⟨A1, n1, c1, rfl, -⟩ := id h1
  obtain ⟨A2, n2, c2, rfl, -⟩ := id h2
  refine Fn.enter (N := 22) hX Try.func9 rfl rfl (by show _ ≤ _; simp) (fun w0 hL => ?_)
  conv => whnf
  conv => whnf
  repeat ((first | refine zT ?_ | refine zF ?_ | refine zL hX hL ?_ | refine zB hX hL ?_ | (refine zS hX hL ?_; clear hL; intro w hL) | refine zI ?_ | refine zG hX ?_ | refine zO ?_); conv => whnf)
  refine CallReq.val k1 hL ?_
  clear hL
  intro w hL
  by_cases hf : FormedP f
  · have hg : ¬ FormedP g := fun hg => hn ⟨hf, hg⟩
    rw [dec_t hf]
    rw [dec_f hg] at k2
    conv => whnf
    repeat ((first | refine zT ?_ | refine zF ?_ | refine zL hX hL ?_ | refine zB hX hL ?_ | (refine zS hX hL ?_; clear hL; intro w hL) | refine zI ?_ | refine zG hX ?_ | refine zO ?_); conv => whnf)
    refine CallReq.val k2 hL ?_
    clear hL
    intro w hL
    conv => whnf
    repeat ((first | refine zT ?_ | refine zF ?_ | refine zL hX hL ?_ | refine zB hX hL ?_ | (refine zS hX hL ?_; clear hL; intro w hL) | refine zI ?_ | refine zG hX ?_ | refine zO ?_); conv => whnf)
    exact RetReq.mk hL ⟨rfl, rfl⟩
  · rw [dec_f hf]
    conv => whnf
    repeat ((first | refine zT ?_ | refine zF ?_ | refine zL hX hL ?_ | refine zB hX hL ?_ | (refine zS hX hL ?_; clear hL; intro w hL) | refine zI ?_ | refine zG hX ?_ | refine zO ?_); conv => whnf)
    exact RetReq.mk hL ⟨rfl, rfl⟩
theorem and_err (m : Mem) (v1 v2 : Value) (f g : Fml) (h1 : FmV m v1 f) (h2 : FmV m v2 g) (hn : ¬ (FormedP f ∧ FormedP g)) :
    FnV Try.prog 10 [v1, v2] m (.tuple (toArr [.slice none 0 0, .int .i64 1])) := by
  have k1 := Formed_fn m v1 f h1
  have k2 := Formed_fn m v2 g h2
  obtain ⟨A1, n1, c1, rfl, -⟩ := id h1
  obtain ⟨A2, n2, c2, rfl, -⟩ := id h2
  refine Fn.enter (N := 38) hX Try.func10 rfl rfl (by show _ ≤ _; simp) (fun w0 hL => ?_)
  conv => whnf
  conv => whnf
  repeat ((first | refine zT ?_ | refine zF ?_ | refine zL hX hL ?_ | refine zB hX hL ?_ | (refine zS hX hL ?_; clear hL; intro w hL) | refine zI ?_ | refine zG hX ?_ | refine zO ?_); conv => whnf)
  refine CallReq.val k1 hL ?_
  clear hL
  intro w hL
  by_cases hf : FormedP f
  · have hg : ¬ FormedP g := fun hg => hn ⟨hf, hg⟩
    rw [dec_t hf]
    rw [dec_f hg] at k2
    conv => whnf
    repeat ((first | refine zT ?_ | refine zF ?_ | refine zL hX hL ?_ | refine zB hX hL ?_ | (refine zS hX hL ?_; clear hL; intro w hL) | refine zI ?_ | refine zG hX ?_ | refine zO ?_); conv => whnf)
    refine CallReq.val k2 hL ?_
    clear hL
    intro w hL
    conv => whnf
    repeat ((first | refine zT ?_ | refine zF ?_ | refine zL hX hL ?_ | refine zB hX hL ?_ | (refine zS hX hL ?_; clear hL; intro w hL) | refine zI ?_ | refine zG hX ?_ | refine zO ?_); conv => whnf)
    exact RetReq.mk hL ⟨rfl, rfl⟩
  · rw [dec_f hf]
    conv => whnf
    repeat ((first | refine zT ?_ | refine zF ?_ | refine zL hX hL ?_ | refine zB hX hL ?_ | (refine zS hX hL ?_; clear hL; intro w hL) | refine zI ?_ | refine zG hX ?_ | refine zO ?_); conv => whnf)
    exact RetReq.mk hL ⟨rfl, rfl⟩
theorem dual_err (m : Mem) (v1 : Value) (f : Fml) (h1 : FmV m v1 f) (hn : ¬ FormedP f) :
    FnV Try.prog 11 [v1] m (.tuple (toArr [.slice none 0 0, .int .i64 1])) := by
  have k1 := Formed_fn m v1 f h1
  rw [dec_f hn] at k1
  obtain ⟨A1, n1, c1, rfl, -⟩ := id h1
  refine Fn.enter (N := 46) hX Try.func11 rfl rfl (by show _ ≤ _; simp) (fun w0 hL => ?_)
  conv => whnf
  conv => whnf
  repeat ((first | refine zT ?_ | refine zF ?_ | refine zL hX hL ?_ | refine zB hX hL ?_ | (refine zS hX hL ?_; clear hL; intro w hL) | refine zI ?_ | refine zG hX ?_ | refine zO ?_); conv => whnf)
  refine CallReq.val k1 hL ?_
  clear hL
  intro w hL
  conv => whnf
  repeat ((first | refine zT ?_ | refine zF ?_ | refine zL hX hL ?_ | refine zB hX hL ?_ | (refine zS hX hL ?_; clear hL; intro w hL) | refine zI ?_ | refine zG hX ?_ | refine zO ?_); conv => whnf)
  exact RetReq.mk hL ⟨rfl, rfl⟩

set_option maxHeartbeats 8000000 in
set_option maxRecDepth 20000 in
theorem walk (m : Mem) (v1 v2 : Value) (f g : Fml) (h1 : FmV m v1 f) (h2 : FmV m v2 g) (k1 : Held f) (k2 : Held g) :
    Fn0 Try.prog 3 [v1, v2] m fun _ u => u = .bool true := by
  have hmx : maxLen = 9223372036854775807 := rfl
  obtain ⟨A1, n1, c1, rfl, -⟩ := id h1
  obtain ⟨A2, n2, c2, rfl, -⟩ := id h2
  refine Fn.enter (N := 115) hX Try.func3 rfl rfl (by show _ ≤ _; simp) (fun w0 hL => ?_)
  conv => whnf
  conv => whnf
  repeat ((first | refine zT ?_ | refine zF ?_ | refine zL hX hL ?_ | refine zB hX hL ?_ | (refine zS hX hL ?_; clear hL; intro w hL) | refine zI ?_ | refine zG hX ?_ | refine zO ?_); conv => whnf)
  refine CallReq.val (awake_fn m) hL ?_
  clear hL
  intro w hL
  conv => whnf
  repeat ((first | refine zT ?_ | refine zF ?_ | refine zL hX hL ?_ | refine zB hX hL ?_ | (refine zS hX hL ?_; clear hL; intro w hL) | refine zI ?_ | refine zG hX ?_ | refine zO ?_); conv => whnf)
  refine CallReq.pure (few_fn m _ _ f g h1 h2 k1 k2) hL ?_
  clear hL
  rintro u m' w hL hle ⟨b1, rfl, hb1⟩
  replace hL := hL.weaken hle (Mem.Le.refl _)
  clear hle
  conv => whnf
  repeat ((first | refine zT ?_ | refine zF ?_ | refine zL hX hL ?_ | refine zB hX hL ?_ | (refine zS hX hL ?_; clear hL; intro w hL) | refine zI ?_ | refine zG hX ?_ | refine zO ?_); conv => whnf)
  refine BrReq.not ?_
  refine BrReq.bool (fun hx1 => ?_) (fun hx1 => ?_)
  rotate_left
  · subst hx1
    conv => whnf
    repeat ((first | refine zT ?_ | refine zF ?_ | refine zL hX hL ?_ | refine zB hX hL ?_ | (refine zS hX hL ?_; clear hL; intro w hL) | refine zI ?_ | refine zG hX ?_ | refine zO ?_); conv => whnf)
    refine CallReq.val (awake_fn _) hL ?_
    clear hL
    intro w hL
    conv => whnf
    repeat ((first | refine zT ?_ | refine zF ?_ | refine zL hX hL ?_ | refine zB hX hL ?_ | (refine zS hX hL ?_; clear hL; intro w hL) | refine zI ?_ | refine zG hX ?_ | refine zO ?_); conv => whnf)
    exact RetReq.mk hL ⟨rfl, rfl⟩
  obtain ⟨-, A, hA, i1, i2⟩ := hb1 hx1
  subst hx1
  clear hb1 k1 k2
  conv => whnf
  repeat ((first | refine zT ?_ | refine zF ?_ | refine zL hX hL ?_ | refine zB hX hL ?_ | (refine zS hX hL ?_; clear hL; intro w hL) | refine zI ?_ | refine zG hX ?_ | refine zO ?_); conv => whnf)
  refine CallReq.pure (refFormed_fn m _ f h1) hL ?_
  clear hL
  rintro u m' w hL hle rfl
  replace hL := hL.weaken hle (Mem.Le.refl _)
  clear hle
  conv => whnf
  repeat ((first | refine zT ?_ | refine zF ?_ | refine zL hX hL ?_ | refine zB hX hL ?_ | (refine zS hX hL ?_; clear hL; intro w hL) | refine zI ?_ | refine zG hX ?_ | refine zO ?_); conv => whnf)
  refine CallReq.pure (refFormed_fn m _ g h2) hL ?_
  clear hL
  rintro u m' w hL hle rfl
  replace hL := hL.weaken hle (Mem.Le.refl _)
  clear hle
  conv => whnf
  repeat ((first | refine zT ?_ | refine zF ?_ | refine zL hX hL ?_ | refine zB hX hL ?_ | (refine zS hX hL ?_; clear hL; intro w hL) | refine zI ?_ | refine zG hX ?_ | refine zO ?_); conv => whnf)
  refine CallReq.val (Formed_fn m _ f h1) hL ?_
  clear hL
  intro w hL
  conv => whnf
  repeat ((first | refine zT ?_ | refine zF ?_ | refine zL hX hL ?_ | refine zB hX hL ?_ | (refine zS hX hL ?_; clear hL; intro w hL) | refine zI ?_ | refine zG hX ?_ | refine zO ?_); conv => whnf)
  refine BrReq.f (by simp) ?_
  conv => whnf
  repeat ((first | refine zT ?_ | refine zF ?_ | refine zL hX hL ?_ | refine zB hX hL ?_ | (refine zS hX hL ?_; clear hL; intro w hL) | refine zI ?_ | refine zG hX ?_ | refine zO ?_); conv => whnf)
  refine CallReq.val (Formed_fn m _ g h2) hL ?_
  clear hL
  intro w hL
  conv => whnf
  repeat ((first | refine zT ?_ | refine zF ?_ | refine zL hX hL ?_ | refine zB hX hL ?_ | (refine zS hX hL ?_; clear hL; intro w hL) | refine zI ?_ | refine zG hX ?_ | refine zO ?_); conv => whnf)
  refine BrReq.f (by simp) ?_
  by_cases hf : FormedP f
  · have s1 : Sm A f := ⟨hf, i1⟩
    rw [dec_t hf]
    by_cases hg : FormedP g
    · have s2 : Sm A g := ⟨hg, i2⟩
      rw [dec_t hg]
      conv => whnf
      repeat ((first | refine zT ?_ | refine zF ?_ | refine zL hX hL ?_ | refine zB hX hL ?_ | (refine zS hX hL ?_; clear hL; intro w hL) | refine zI ?_ | refine zG hX ?_ | refine zO ?_); conv => whnf)
      refine CallReq.pure (Or_fn _ _ _ f g A hA h1 h2 s1 s2) hL ?_
      clear hL
      rintro u mx w hL hle ⟨vx, rx, rfl, hx, kx⟩
      obtain ⟨Ax, nx, cx, rfl, -⟩ := id hx
      replace h1 := h1.le hle
      replace h2 := h2.le hle
      clear hle
      conv => whnf
      repeat ((first | refine zT ?_ | refine zF ?_ | refine zL hX hL ?_ | refine zB hX hL ?_ | (refine zS hX hL ?_; clear hL; intro w hL) | refine zI ?_ | refine zG hX ?_ | refine zO ?_); conv => whnf)
      refine CallReq.pure (And_fn _ _ _ f g A hA h1 h2 s1 s2) hL ?_
      clear hL
      rintro u my w hL hle ⟨vy, ry, rfl, hy, ky⟩
      obtain ⟨Ay, ny, cy, rfl, -⟩ := id hy
      replace h1 := h1.le hle
      replace h2 := h2.le hle
      replace hx := hx.le hle
      clear hle
      conv => whnf
      repeat ((first | refine zT ?_ | refine zF ?_ | refine zL hX hL ?_ | refine zB hX hL ?_ | (refine zS hX hL ?_; clear hL; intro w hL) | refine zI ?_ | refine zG hX ?_ | refine zO ?_); conv => whnf)
      refine CallReq.pure (Dual_fn _ _ f A hA h1 s1) hL ?_
      clear hL
      rintro u mz w hL hle ⟨vz, rz, rfl, hz, kz⟩
      obtain ⟨Az, nz, cz, rfl, -⟩ := id hz
      replace h1 := h1.le hle
      replace h2 := h2.le hle
      replace hx := hx.le hle
      replace hy := hy.le hle
      clear hle
      conv => whnf
      repeat ((first | refine zT ?_ | refine zF ?_ | refine zL hX hL ?_ | refine zB hX hL ?_ | (refine zS hX hL ?_; clear hL; intro w hL) | refine zI ?_ | refine zG hX ?_ | refine zO ?_); conv => whnf)
      refine CallReq.pure (op0_fn _ _ _ f g A hA h1 h2 s1 s2) hL ?_
      clear hL
      rintro u m3 w hL hle ⟨r0, h0, f0, q0⟩
      obtain ⟨B0, b0, d0, rfl, -⟩ := id h0
      replace h1 := h1.le hle
      replace h2 := h2.le hle
      replace hx := hx.le hle
      replace hy := hy.le hle
      replace hz := hz.le hle
      clear hle
      have e : rx = r0 := canon kx.formed f0 fun S => by rw [kx.holds, holds_app]; exact (q0 S).symm
      have ks := refSame_fn _ _ _ _ _ hx h0
      rw [decide_eq_true e] at ks
      conv => whnf
      repeat ((first | refine zT ?_ | refine zF ?_ | refine zL hX hL ?_ | refine zB hX hL ?_ | (refine zS hX hL ?_; clear hL; intro w hL) | refine zI ?_ | refine zG hX ?_ | refine zO ?_); conv => whnf)
      refine CallReq.val ks hL ?_
      clear hL ks e
      intro w hL
      conv => whnf
      repeat ((first | refine zT ?_ | refine zF ?_ | refine zL hX hL ?_ | refine zB hX hL ?_ | (refine zS hX hL ?_; clear hL; intro w hL) | refine zI ?_ | refine zG hX ?_ | refine zO ?_); conv => whnf)
      refine CallReq.pure (op1_fn _ _ _ f g A hA h1 h2 s1 s2) hL ?_
      clear hL
      rintro u m4 w hL hle ⟨r1, h3, f1, q1⟩
      obtain ⟨B1, b1, d1, rfl, -⟩ := id h3
      replace h1 := h1.le hle
      replace hy := hy.le hle
      replace hz := hz.le hle
      clear hle
      have e : ry = r1 := canon ky.formed f1 fun S => by rw [ky.holds, prods_holds]; exact (q1 S).symm
      have ks := refSame_fn _ _ _ _ _ hy h3
      rw [decide_eq_true e] at ks
      conv => whnf
      repeat ((first | refine zT ?_ | refine zF ?_ | refine zL hX hL ?_ | refine zB hX hL ?_ | (refine zS hX hL ?_; clear hL; intro w hL) | refine zI ?_ | refine zG hX ?_ | refine zO ?_); conv => whnf)
      refine CallReq.val ks hL ?_
      clear hL ks e
      intro w hL
      conv => whnf
      repeat ((first | refine zT ?_ | refine zF ?_ | refine zL hX hL ?_ | refine zB hX hL ?_ | (refine zS hX hL ?_; clear hL; intro w hL) | refine zI ?_ | refine zG hX ?_ | refine zO ?_); conv => whnf)
      refine CallReq.pure (op2_fn _ _ (.slice none 0 0) f [] A hA h1 (Sl.nil _ _ _) s1 ⟨FormedP.nil, fun p hp => by cases hp⟩) hL ?_
      clear hL
      rintro u m5 w hL hle ⟨r2, h4, f2, q2⟩
      obtain ⟨B2, b2, d2, rfl, -⟩ := id h4
      replace hz := hz.le hle
      clear hle
      have e : rz = r2 := canon kz.formed f2 fun S => by rw [kz.holds]; exact (q2 S).symm
      have ks := refSame_fn _ _ _ _ _ hz h4
      rw [decide_eq_true e] at ks
      conv => whnf
      repeat ((first | refine zT ?_ | refine zF ?_ | refine zL hX hL ?_ | refine zB hX hL ?_ | (refine zS hX hL ?_; clear hL; intro w hL) | refine zI ?_ | refine zG hX ?_ | refine zO ?_); conv => whnf)
      refine CallReq.val ks hL ?_
      clear hL ks e
      intro w hL
      conv => whnf
      repeat ((first | refine zT ?_ | refine zF ?_ | refine zL hX hL ?_ | refine zB hX hL ?_ | (refine zS hX hL ?_; clear hL; intro w hL) | refine zI ?_ | refine zG hX ?_ | refine zO ?_); conv => whnf)
      exact RetReq.mk hL ⟨rfl, rfl⟩
    · rw [dec_f hg]
      conv => whnf
      repeat ((first | refine zT ?_ | refine zF ?_ | refine zL hX hL ?_ | refine zB hX hL ?_ | (refine zS hX hL ?_; clear hL; intro w hL) | refine zI ?_ | refine zG hX ?_ | refine zO ?_); conv => whnf)
      refine CallReq.val (or_err m _ _ f g h1 h2 fun h => hg h.2) hL ?_
      clear hL
      intro w hL
      conv => whnf
      repeat ((first | refine zT ?_ | refine zF ?_ | refine zL hX hL ?_ | refine zB hX hL ?_ | (refine zS hX hL ?_; clear hL; intro w hL) | refine zI ?_ | refine zG hX ?_ | refine zO ?_); conv => whnf)
      refine CallReq.val (and_err m _ _ f g h1 h2 fun h => hg h.2) hL ?_
      clear hL
      intro w hL
      conv => whnf
      repeat ((first | refine zT ?_ | refine zF ?_ | refine zL hX hL ?_ | refine zB hX hL ?_ | (refine zS hX hL ?_; clear hL; intro w hL) | refine zI ?_ | refine zG hX ?_ | refine zO ?_); conv => whnf)
      refine CallReq.pure (Dual_fn _ _ f A hA h1 s1) hL ?_
      clear hL
      rintro u mz w hL hle ⟨vz, rz, rfl, hz, kz⟩
      obtain ⟨Az, nz, cz, rfl, -⟩ := id hz
      replace h1 := h1.le hle
      replace h2 := h2.le hle
      conv => whnf
      repeat ((first | refine zT ?_ | refine zF ?_ | refine zL hX hL ?_ | refine zB hX hL ?_ | (refine zS hX hL ?_; clear hL; intro w hL) | refine zI ?_ | refine zG hX ?_ | refine zO ?_); conv => whnf)
      exact RetReq.mk hL ⟨rfl, rfl⟩
  · rw [dec_f hf]
    generalize dec (FormedP g) = bg
    conv => whnf
    repeat ((first | refine zT ?_ | refine zF ?_ | refine zL hX hL ?_ | refine zB hX hL ?_ | (refine zS hX hL ?_; clear hL; intro w hL) | refine zI ?_ | refine zG hX ?_ | refine zO ?_); conv => whnf)
    refine CallReq.val (or_err m _ _ f g h1 h2 fun h => hf h.1) hL ?_
    clear hL
    intro w hL
    conv => whnf
    repeat ((first | refine zT ?_ | refine zF ?_ | refine zL hX hL ?_ | refine zB hX hL ?_ | (refine zS hX hL ?_; clear hL; intro w hL) | refine zI ?_ | refine zG hX ?_ | refine zO ?_); conv => whnf)
    refine CallReq.val (and_err m _ _ f g h1 h2 fun h => hf h.1) hL ?_
    clear hL
    intro w hL
    conv => whnf
    repeat ((first | refine zT ?_ | refine zF ?_ | refine zL hX hL ?_ | refine zB hX hL ?_ | (refine zS hX hL ?_; clear hL; intro w hL) | refine zI ?_ | refine zG hX ?_ | refine zO ?_); conv => whnf)
    refine CallReq.val (dual_err m _ f h1 hf) hL ?_
    clear hL
    intro w hL
    conv => whnf
    repeat ((first | refine zT ?_ | refine zF ?_ | refine zL hX hL ?_ | refine zB hX hL ?_ | (refine zS hX hL ?_; clear hL; intro w hL) | refine zI ?_ | refine zG hX ?_ | refine zO ?_); conv => whnf)
    exact RetReq.mk hL ⟨rfl, rfl⟩

theorem contract (m : Mem) (vs : List Value) (hl : vs.length = Try.f3.params.size) (hg : ∀ (j : Nat) t v, Try.f3.params.toList[j]? = some t → vs[j]? = some v → Given X m t v) :
    Ev.Fn Try.prog 3 vs m [] fun _ _ v => v = .bool true := by
  match vs, hl with
  | [va, vb], _ =>
    obtain ⟨f, h1, k1, -⟩ := given_fm (hg 0 23 va rfl rfl)
    obtain ⟨g, h2, k2, -⟩ := given_fm (hg 1 23 vb rfl rfl)
    exact (walk m va vb f g h1 h2 k1 k2).mono fun _ _ _ _ h => h.2

theorem spec (H : Type) (ds : List (DataW H)) (h : ds.length = Try.f3.params.size) : Rows.formulaOpsSpec.fn H ds = { results := [.lit (.bool true)], args := ds } := by
  match ds, h with
  | [_, _], _ => rfl

set_option maxRecDepth 100000 in
theorem lifted (os : Os) (started : os.Started) (H : Type) (enc : TypeId × Value → H) :
    ReturnsInHanded {} Try.checked os 3 .any (Rows.formulaOpsSpec.pre6 enc Try.prog Try.f3 Rows.formulaOpsRow.domain false) (Rows.formulaOpsSpec.post enc Try.prog Try.f3 false true false false) := by
  refine returnsInHanded_of_change_sized (C := Try.checked) (by kernel_rfl) started (by kernel_rfl) Try.func3
    (ChangeSpec.witness6 (enc := enc) (C := Try.checked) false ⟨#[], #[.slice none 0 0, .slice none 0 0], []⟩ 8 (by kernel_rfl) (by kernel_rfl) (by kernel_rfl) (by kernel_rfl)) ?_
  intro W base args ds gs before hval hW _ hsz _
  exact law_core hX (by kernel_rfl) rfl rfl Try.underlying4 (by decide +kernel) (fun H ds h => spec H ds h) contract W base args ds gs before hval hW hsz

set_option maxRecDepth 100000 in
theorem proved : Rows.FormulaOpsSaid :=
  OpenClaim.holds_of_wide 3 Try.f3 rfl rfl rfl rfl rfl rfl rfl ⟨rfl, rfl, rfl, rfl, rfl⟩ rfl rfl rfl rfl rfl (by kernel_rfl) Try.func3 (by kernel_rfl)
    (of_decide_eq_true (by kernel_rfl)) (by unfold Func.isWrapper; first | (rw [if_pos (by decide +kernel)]; kernel_rfl) | (rw [if_neg (by decide +kernel)]; exact ⟨rfl, rfl⟩))
    (fun os started H enc _ => lifted os started H enc)
end Go.Proofs.Ytnpgllgmcdhmcaa.foo
