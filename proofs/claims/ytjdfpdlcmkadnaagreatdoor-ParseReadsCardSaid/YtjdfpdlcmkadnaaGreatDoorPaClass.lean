/- A set's text is read as the set, in plain Lean. Conditions: none. -/
import Derived.Test.YtjdfpdlcmkadnaaGreatDoorPaSpec
import Derived.Test.YtjdfpdlcmkadnaaGreatDoorPrClass

namespace Go.Proofs.YtjdfpdlcmkadnaaGreatDoor.pa
open Go Go.Ev Go.Proofs Go.Proofs.YtjdfpdlcmkadnaaGreatDoor.lx Go.Proofs.YtjdfpdlcmkadnaaGreatDoor.tree
open Go.Proofs.YtjdfpdlcmkadnaaGreatDoor.tabs (hasR selR allT rngL stepR allT_lt in64)
open Go.Proofs.YtjdfpdlcmkadnaaGreatDoor.tabs (digT digL oneT rT)

theorem dig_hex : ∀ k, k < 16 → digT k = [digL.getD k 0] ∧ hexN (digL.getD k 0).toNat = (k : Int) := by decide +kernel
theorem esc_hex (b : Nat) (hb : b < 256) (z : List UInt8) : charT ownC (oneT b ++ z) = (b, 4) ∧ (∃ t, oneT b ++ z = 92 :: t) ∧ (oneT b ++ z).drop 4 = z := by
  obtain ⟨e1, h1⟩ := dig_hex (b / 16) (by omega)
  obtain ⟨e2, h2⟩ := dig_hex (b % 16) (by omega)
  unfold oneT
  rw [e1, e2]
  generalize digL.getD (b / 16) 0 = x at h1
  generalize digL.getD (b % 16) 0 = y at h2
  show charT ownC (92 :: 120 :: x :: y :: z) = _ ∧ (∃ t, 92 :: 120 :: x :: y :: z = 92 :: t) ∧ z = z
  have he : escT (120 :: x :: y :: z) = (b, 3) := by
    simp only [escT]
    rw [if_neg (by decide), if_neg (by decide), if_neg (by decide), if_neg (by decide), if_pos (by decide), h1, h2, if_neg (by omega)]
    have : (16 * ((b / 16 : Nat) : Int) + ((b % 16 : Nat) : Int)).toNat = b := by omega
    rw [this]
  refine ⟨?_, ⟨_, rfl⟩, rfl⟩
  simp only [charT]
  rw [if_pos (by decide), he]
  rfl
theorem cls_one (k n : Nat) (f : Nat → Nat) (b : Nat) (hb : b < 256) (z : List UInt8) (hz : z.head? ≠ some 45) : clsT (k + 1) (oneT b ++ z) n f = clsT k z (n + 4) ((byR b b).foldl putF f) := by
  obtain ⟨h1, ⟨t, ht⟩, h2⟩ := esc_hex b hb z
  rw [ht] at h1 h2 ⊢
  rw [clsT, if_neg (by decide), h1]
  simp only
  rw [h2, if_neg (by decide), if_neg hz]
theorem cls_two (k n : Nat) (f : Nat → Nat) (a b : Nat) (hab : a ≤ b) (hb : b < 256) (z : List UInt8) : clsT (k + 1) (oneT a ++ 45 :: (oneT b ++ z)) n f = clsT k z (n + 9) ((byR a b).foldl putF f) := by
  obtain ⟨h1, ⟨t, ht⟩, h2⟩ := esc_hex a (by omega) (45 :: (oneT b ++ z))
  obtain ⟨g1, -, g2⟩ := esc_hex b hb z
  have h3 : (oneT a ++ 45 :: (oneT b ++ z)).drop (4 + 1) = oneT b ++ z := by rw [← List.drop_drop, h2]; rfl
  have h4 : (oneT a ++ 45 :: (oneT b ++ z)).drop (4 + 1 + 4) = z := by rw [← List.drop_drop, h3, g2]
  rw [ht] at h1 h2 h3 h4 ⊢
  rw [clsT, if_neg (by decide), h1]
  simp only
  rw [h2, h3, g1, if_neg (by decide), if_pos (show (45 :: (oneT b ++ z)).head? = some 45 from rfl)]
  simp only
  rw [if_neg (by omega), h4]
theorem cls_head (l : List (Nat × Nat)) (z : List UInt8) : (tabs.clsT l ++ 93 :: z).head? = some 92 ∨ (tabs.clsT l ++ 93 :: z).head? = some 93 := by
  cases l with
  | nil => exact .inr rfl
  | cons x l => exact .inl rfl
theorem one_len (b : Nat) (hb : b < 256) : (oneT b).length = 4 := by
  obtain ⟨e1, -⟩ := dig_hex (b / 16) (by omega)
  obtain ⟨e2, -⟩ := dig_hex (b % 16) (by omega)
  unfold oneT
  rw [e1, e2]; rfl
theorem cls_read : ∀ (l : List (Nat × Nat)) (k : Nat) (z : List UInt8) (n : Nat) (f : Nat → Nat), (∀ x ∈ l, x.1 ≤ x.2 ∧ x.2 < 256) → l.length < k →
    clsT k (tabs.clsT l ++ 93 :: z) n f = some ((l.flatMap fun x => byR x.1 x.2).foldl putF f, n + (tabs.clsT l).length + 1)
  | [], k + 1, z, n, f, _, _ => by
    show clsT (k + 1) (93 :: z) n f = _
    rw [clsT, if_pos (by decide)]; rfl
  | [], 0, z, n, f, _, h => by simp at h
  | x :: l, 0, z, n, f, _, h => by simp at h
  | x :: l, k + 1, z, n, f, hx, hk => by
    obtain ⟨x1, x2⟩ := x
    obtain ⟨h1, h2⟩ := hx (x1, x2) (by simp)
    simp only at h1 h2
    have ih := fun n f => cls_read l k z n f (fun y hy => hx y (by simp [hy])) (by simp only [List.length_cons] at hk; omega)
    have hh := cls_head l z
    have e : tabs.clsT ((x1, x2) :: l) ++ 93 :: z = rT (x1, x2) ++ (tabs.clsT l ++ 93 :: z) := by
      unfold tabs.clsT; simp
    have el : (tabs.clsT ((x1, x2) :: l)).length = (rT (x1, x2)).length + (tabs.clsT l).length := by unfold tabs.clsT; simp
    rw [e, el, List.flatMap_cons, List.foldl_append]
    unfold rT
    simp only
    by_cases hlt : x1 < x2
    · rw [if_pos hlt]
      have e2 : oneT x1 ++ ([45] ++ oneT x2) ++ (tabs.clsT l ++ 93 :: z) = oneT x1 ++ 45 :: (oneT x2 ++ (tabs.clsT l ++ 93 :: z)) := by simp
      rw [e2, cls_two k n f x1 x2 h1 h2, ih]
      simp only [List.length_append, List.length_cons, List.length_nil, one_len x1 (by omega), one_len x2 h2]
      congr 2; omega
    · rw [if_neg hlt]
      obtain rfl : x1 = x2 := by omega
      rw [List.append_nil, cls_one k n f x1 h2 _ (by rcases hh with e | e <;> rw [e] <;> simp), ih]
      simp only [one_len x1 h2]
      congr 2; omega

/-- Ranges are what they were made of. -/
theorem byR_one (b : Nat) : byR b b = [b] := by unfold byR; rw [show b + 1 - b = 1 by omega]; rfl
theorem byR_snoc {a b : Nat} (h : a ≤ b) : byR a (b + 1) = byR a b ++ [b + 1] := by
  unfold byR
  rw [show b + 1 + 1 - a = (b + 1 - a) + 1 by omega, byR_succ, show a + (b + 1 - a) = b + 1 by omega]
theorem stepR_flat (acc : List (Nat × Nat)) (b : Nat) (hb : b < 256) (h : ∀ x ∈ acc, x.1 ≤ x.2 ∧ x.2 < 256) : ((stepR acc b).flatMap fun x => byR x.1 x.2) = (acc.flatMap fun x => byR x.1 x.2) ++ [b] ∧ ∀ x ∈ stepR acc b, x.1 ≤ x.2 ∧ x.2 < 256 := by
  unfold stepR
  cases hl : acc.getLast? with
  | none => 
    have : acc = [] := List.getLast?_eq_none_iff.1 hl
    subst this
    simp [byR_one]; exact hb
  | some x =>
    obtain ⟨ys, rfl⟩ := List.getLast?_eq_some_iff.1 hl
    have hx := h x (by simp)
    simp only
    split
    · rename_i he
      have e : (ys ++ [x]).set ((ys ++ [x]).length - 1) (x.1, b) = ys ++ [(x.1, b)] := by simp
      rw [e]
      subst he
      refine ⟨?_, fun y hy => ?_⟩
      · simp only [List.flatMap_append, List.flatMap_cons, List.flatMap_nil, List.append_nil, byR_snoc hx.1, List.append_assoc]
      · rcases List.mem_append.1 hy with hy | hy
        · exact h y (by simp [hy])
        · rw [List.mem_singleton.1 hy]; simp only; omega
    · refine ⟨?_, fun y hy => ?_⟩
      · simp only [List.flatMap_append, List.flatMap_cons, List.flatMap_nil, List.append_nil, byR_one, List.append_assoc]
      · rcases List.mem_append.1 hy with hy | hy
        · exact h y hy
        · rw [List.mem_singleton.1 hy]; simp only; omega
theorem rng_flat : ∀ (l : List Nat) (acc : List (Nat × Nat)), (∀ b ∈ l, b < 256) → (∀ x ∈ acc, x.1 ≤ x.2 ∧ x.2 < 256) →
    ((l.foldl stepR acc).flatMap fun x => byR x.1 x.2) = (acc.flatMap fun x => byR x.1 x.2) ++ l ∧ ∀ x ∈ l.foldl stepR acc, x.1 ≤ x.2 ∧ x.2 < 256
  | [], acc, _, h => ⟨by simp, h⟩
  | b :: l, acc, hb, h => by
    obtain ⟨h1, h2⟩ := stepR_flat acc b (hb b (by simp)) h
    obtain ⟨h3, h4⟩ := rng_flat l (stepR acc b) (fun x hx => hb x (by simp [hx])) h2
    rw [List.foldl_cons]
    exact ⟨by rw [h3, h1, List.append_assoc]; rfl, h4⟩

theorem bit_put (f : Nat → Nat) (b q i : Nat) (hi : i < 64) : (putF f b q).testBit i = ((f q).testBit i || decide (64 * q + i = b)) := by
  unfold putF upd
  split
  · rename_i h
    subst h
    rw [Nat.testBit_or, Nat.testBit_two_pow]
    congr 1
    exact decide_eq_decide.2 (by omega)
  · rw [show decide (64 * q + i = b) = false from decide_eq_false (by omega), Bool.or_false]
theorem bit_fold (q i : Nat) (hi : i < 64) : ∀ (l : List Nat) (f : Nat → Nat), (l.foldl putF f q).testBit i = ((f q).testBit i || decide (64 * q + i ∈ l))
  | [], f => by simp
  | b :: l, f => by
    rw [List.foldl_cons, bit_fold q i hi l, bit_put f b q i hi, Bool.or_assoc]
    congr 1
    simp [List.mem_cons]
theorem set_back (s0 s1 s2 s3 : Int) (h0 : in64 s0) (h1 : in64 s1) (h2 : in64 s2) (h3 : in64 s3) (q : Nat) (hq : q < 4) :
    (((allT (hasR s0 s1 s2 s3) 256).foldl putF zeroF q : Nat) : Int) = selR s0 s1 s2 s3 q := by
  unfold in64 at h0 h1 h2 h3
  have hs : 0 ≤ selR s0 s1 s2 s3 q ∧ selR s0 s1 s2 s3 q ≤ 18446744073709551615 := by unfold selR; split <;> (try split) <;> (try split) <;> omega
  obtain ⟨v, hv⟩ : ∃ v : Nat, selR s0 s1 s2 s3 q = v := ⟨(selR s0 s1 s2 s3 q).toNat, by omega⟩
  have hI : InF ((allT (hasR s0 s1 s2 s3) 256).foldl putF zeroF) := inF_fold _ inF_zero
  have hq2 := hI q
  rw [hv] at hs ⊢
  congr 1
  apply Nat.eq_of_testBit_eq
  intro i
  by_cases hi : i < 64
  · rw [bit_fold q i hi, show zeroF q = 0 from rfl, Nat.zero_testBit, Bool.false_or, Nat.testBit_eq_decide_div_mod_eq]
    refine decide_eq_decide.2 ?_
    unfold allT
    rw [List.mem_filter, List.mem_range]
    unfold hasR
    rw [show (64 * q + i) / 64 = q by omega, show (64 * q + i) % 64 = i by omega, hv, Int.toNat_natCast, decide_eq_true_eq]
    exact ⟨fun h => h.2, fun h => ⟨by omega, h⟩⟩
  · have hp : 2 ^ 64 ≤ 2 ^ i := Nat.pow_le_pow_right (by omega) (by omega)
    rw [Nat.testBit_lt_two_pow (by omega), Nat.testBit_lt_two_pow (by omega)]

/-- The word of a set's text. -/
def setF (s0 s1 s2 s3 : Int) : Nat → Nat := (allT (hasR s0 s1 s2 s3) 256).foldl putF zeroF
theorem bytes_set (s0 s1 s2 s3 : Int) (h0 : in64 s0) (h1 : in64 s1) (h2 : in64 s2) (h3 : in64 s3) : bytesR (setF s0 s1 s2 s3) = .mk 2 s0 s1 s2 s3 [] 0 0 false := by
  have e := set_back s0 s1 s2 s3 h0 h1 h2 h3
  unfold bytesR setF
  rw [e 0 (by omega), e 1 (by omega), e 2 (by omega), e 3 (by omega)]; rfl
theorem class_step (s0 s1 s2 s3 : Int) (z : List UInt8) : lx.stepT (tabs.classT (hasR s0 s1 s2 s3) ++ z) = (wB (setF s0 s1 s2 s3), (tabs.classT (hasR s0 s1 s2 s3)).length) := by
  obtain ⟨h1, h2⟩ := rng_flat (allT (hasR s0 s1 s2 s3) 256) [] (fun b hb => (allT_lt hb).1) (by simp)
  have hl : (rngL (allT (hasR s0 s1 s2 s3) 256)).length < (tabs.clsT (rngL (allT (hasR s0 s1 s2 s3) 256)) ++ 93 :: z).length + 1 := by
    have : ∀ l : List (Nat × Nat), l.length ≤ (tabs.clsT l).length := by
      intro l
      induction l with
      | nil => simp
      | cons x l ih =>
        have e : tabs.clsT (x :: l) = rT x ++ tabs.clsT l := by unfold tabs.clsT; simp
        have e2 : 1 ≤ (rT x).length := by unfold rT oneT; simp
        rw [e, List.length_append, List.length_cons]; omega
    have := this (rngL (allT (hasR s0 s1 s2 s3) 256))
    rw [List.length_append]; omega
  have hr := cls_read (rngL (allT (hasR s0 s1 s2 s3) 256)) _ z 0 zeroF h2 hl
  have hh := cls_head (rngL (allT (hasR s0 s1 s2 s3) 256)) z
  change (List.flatMap (fun x => byR x.1 x.2) (rngL (allT (hasR s0 s1 s2 s3) 256))) = _ at h1
  rw [h1, List.flatMap_nil, List.nil_append] at hr
  change _ = some (setF s0 s1 s2 s3, _) at hr
  have e : tabs.classT (hasR s0 s1 s2 s3) ++ z = 91 :: (tabs.clsT (rngL (allT (hasR s0 s1 s2 s3) 256)) ++ 93 :: z) := by unfold tabs.classT; simp
  have el : (tabs.classT (hasR s0 s1 s2 s3)).length = (tabs.clsT (rngL (allT (hasR s0 s1 s2 s3) 256))).length + 2 := by unfold tabs.classT; simp
  rw [e, el]
  generalize setF s0 s1 s2 s3 = F at hr ⊢
  generalize tabs.clsT (rngL (allT (hasR s0 s1 s2 s3) 256)) = t at hr hh ⊢
  have hc : lx.classT (t ++ 93 :: z) = some (F, t.length + 1) := by
    unfold lx.classT
    rw [if_neg (by rcases hh with e | e <;> rw [e] <;> simp), hr, Nat.zero_add]
  unfold lx.stepT
  rw [show lx.lookT (91 :: (t ++ 93 :: z)) = (0, 0) by unfold lx.lookT; simp [List.isPrefixOf], if_neg (by decide)]
  simp only
  rw [if_neg (by decide), if_pos (by decide), hc]
end Go.Proofs.YtjdfpdlcmkadnaaGreatDoor.pa
