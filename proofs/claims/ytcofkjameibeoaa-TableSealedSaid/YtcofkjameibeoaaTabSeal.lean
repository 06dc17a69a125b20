/- A sum of 32 bits tells one byte that is another one. Conditions: none. -/
import Derived.Test.YtcofkjameibeoaaTabUnpack

namespace Go.Proofs.Ytcofkjameibeoaa.mach
open Go Go.Ev Go.Proofs Go.Proofs.Ytcofkjameibeoaa.crc

theorem stepT_inj {a b : Nat} (ha : a < 4294967296) (hb : b < 4294967296) (h : crc.stepT a = crc.stepT b) : a = b := by
  have top : ∀ c, c < 4294967296 → (crc.stepT c).testBit 31 = decide (c % 2 = 1) := by
    intro c hc
    unfold crc.stepT
    have h2 : (c / 2).testBit 31 = false := Nat.testBit_lt_two_pow (by omega)
    split
    · rename_i h1; rw [Nat.testBit_xor, h2, decide_eq_true h1]; decide
    · rename_i h1; rw [h2, decide_eq_false h1]
  have hp : (a % 2 = 1) ↔ (b % 2 = 1) := by
    have := top a ha
    rw [h, top b hb] at this
    exact ⟨fun x => by rw [decide_eq_true x] at this; exact of_decide_eq_true this, fun x => by rw [decide_eq_true x] at this; exact of_decide_eq_true this.symm⟩
  unfold crc.stepT at h
  by_cases h1 : a % 2 = 1
  · rw [if_pos h1, if_pos (hp.1 h1)] at h
    have : a / 2 = b / 2 := by
      have := congrArg (· ^^^ 3988292384) h
      simpa [Nat.xor_assoc] using this
    have := hp.1 h1
    omega
  · rw [if_neg h1, if_neg (fun x => h1 (hp.2 x))] at h
    have : ¬ b % 2 = 1 := fun x => h1 (hp.2 x)
    omega
theorem iterT_inj {a b : Nat} (ha : a < 4294967296) (hb : b < 4294967296) : ∀ k, iterT k a = iterT k b → a = b := by
  intro k
  induction k with
  | zero => exact id
  | succ k ih => exact fun h => ih (stepT_inj (iterT_lt ha k) (iterT_lt hb k) h)
theorem byteT_inj {a b : Nat} {x : Int} (ha : a < 4294967296) (hb : b < 4294967296) (hx : 0 ≤ x ∧ x ≤ 255) (h : byteT a x = byteT b x) : a = b := by
  have := iterT_inj (Nat.xor_lt_two_pow (n := 32) (by omega) (by omega)) (Nat.xor_lt_two_pow (n := 32) (by omega) (by omega)) 8 h
  have := congrArg (· ^^^ x.toNat) this
  simpa [Nat.xor_assoc] using this
theorem byteT_byte {a : Nat} {x y : Int} (ha : a < 4294967296) (hx : 0 ≤ x ∧ x ≤ 255) (hy : 0 ≤ y ∧ y ≤ 255) (h : byteT a x = byteT a y) : x = y := by
  have := iterT_inj (Nat.xor_lt_two_pow (n := 32) (by omega) (by omega)) (Nat.xor_lt_two_pow (n := 32) (by omega) (by omega)) 8 h
  have : x.toNat = y.toNat := by
    have := congrArg (a ^^^ ·) this
    simpa [← Nat.xor_assoc] using this
  omega
theorem fold_inj : ∀ (l : List Int) (a b : Nat), a < 4294967296 → b < 4294967296 → Byt l → l.foldl byteT a = l.foldl byteT b → a = b
  | [], _, _, _, _, _, h => h
  | x :: l, a, b, ha, hb, hl, h => by
    have hx := hl x (by simp)
    exact byteT_inj ha hb hx (fold_inj l _ _ (byteT_lt ha hx) (byteT_lt hb hx) (fun z hz => hl z (by simp [hz])) h)
theorem fold_set : ∀ (l : List Int) (j : Nat) (z : Int) (a : Nat), a < 4294967296 → Byt l → 0 ≤ z ∧ z ≤ 255 → (l.set j z).foldl byteT a = l.foldl byteT a → l.set j z = l
  | [], _, _, _, _, _, _, _ => rfl
  | x :: l, 0, z, a, ha, hl, hz, h => by
    have hx := hl x (by simp)
    have := fold_inj l _ _ (byteT_lt ha hz) (byteT_lt ha hx) (fun z hz => hl z (by simp [hz])) h
    have := byteT_byte ha hz hx this
    subst this; rfl
  | x :: l, j + 1, z, a, ha, hl, hz, h => by
    have hx := hl x (by simp)
    have := fold_set l j z _ (byteT_lt ha hx) (fun z hz => hl z (by simp [hz])) hz h
    simp only [List.set_cons_succ]; rw [this]
theorem crc_set {l : List Int} {j : Nat} {z : Int} (hl : Byt l) (hz : 0 ≤ z ∧ z ≤ 255) (h : crcR (l.set j z) = crcR l) : l.set j z = l := by
  refine fold_set l j z 4294967295 (by decide) hl hz ?_
  unfold crcR at h
  have := congrArg (· ^^^ 4294967295) h
  simpa [Nat.xor_assoc] using this

theorem numR_wide : ∀ (k : Nat) (n : Int), 0 ≤ n → n < 256 ^ k → numR (wideR k n) = n
  | 0, n, h0, h => by simp at h; simp [wideR, numR]; omega
  | k + 1, n, h0, h => by
    rw [Int.pow_succ] at h
    rw [wideR, numR_push, numR_wide k (n / 256) (by omega) (by omega)]
    omega

theorem seal_len (b : List Int) : (sealR b).length = 12 + b.length := by
  unfold sealR; simp only [List.length_append, wideR_len, List.length_cons, List.length_nil]
theorem seal_body (b : List Int) : (sealR b).drop 12 = b := by
  unfold sealR
  rw [List.drop_append_of_le_length (by simp [wideR_len]), List.drop_eq_nil_of_le (by simp [wideR_len]), List.nil_append]
theorem seal_size (b : List Int) : ((sealR b).drop 4).take 4 = wideR 4 (12 + b.length) := by
  unfold sealR
  rw [List.append_assoc, List.append_assoc, List.drop_append_of_le_length (by simp), List.drop_eq_nil_of_le (by simp), List.nil_append, List.take_append_of_le_length (by simp [wideR_len]), List.take_of_length_le (by simp [wideR_len])]
theorem seal_sum (b : List Int) : ((sealR b).drop 8).take 4 = wideR 4 (crcR b : Nat) := by
  unfold sealR
  rw [List.append_assoc, List.drop_append_of_le_length (by simp [wideR_len]), List.drop_eq_nil_of_le (by simp [wideR_len]), List.nil_append, List.take_append_of_le_length (by simp [wideR_len]), List.take_of_length_le (by simp [wideR_len])]
theorem seal_byte (b : List Int) (hb : Byt b) : Byt (sealR b) := by
  unfold sealR
  exact two_bytes (two_bytes (two_bytes (by decide) (wideR_byte _ _)) (wideR_byte _ _)) hb

theorem drop_set_le (l : List Int) (k i : Nat) (z : Int) (h : i < k) : (l.set i z).drop k = l.drop k := by
  rw [List.drop_set]; rw [if_pos h]
theorem drop_set_ge (l : List Int) (k i : Nat) (z : Int) (h : k ≤ i) : (l.set i z).drop k = (l.drop k).set (i - k) z := by
  rw [List.drop_set, if_neg (by omega)]
theorem take_set_ge (l : List Int) (k i : Nat) (z : Int) (h : k ≤ i) : (l.set i z).take k = l.take k := by
  rw [List.take_set, List.set_eq_of_length_le (by rw [List.length_take]; omega)]

/-- One byte is another one: no seal. -/
theorem seal_turned {b c : List Int} {i : Nat} {z : Int} (hb : Byt b) (hz : 0 ≤ z ∧ z ≤ 255) (hbl : b.length ≤ 1000000000) (h : sealR c = (sealR b).set i z) : (sealR b).set i z = sealR b := by
  have hlen : c.length = b.length := by
    have := congrArg List.length h
    rw [List.length_set, seal_len, seal_len] at this
    omega
  have hbody : c = ((sealR b).set i z).drop 12 := by rw [← h, seal_body]
  by_cases hi : i < 12
  · rw [drop_set_le _ _ _ _ hi, seal_body] at hbody
    rw [← h, hbody]
  · rw [drop_set_ge _ _ _ _ (by omega), seal_body] at hbody
    have hs : wideR 4 (crcR c : Nat) = wideR 4 (crcR b : Nat) := by
      rw [← seal_sum c, ← seal_sum b, h, List.drop_set, if_neg (by omega), take_set_ge _ _ _ _ (by omega)]
    have hcb : Byt c := by
      rw [hbody]
      intro y hy
      rcases List.mem_or_eq_of_mem_set hy with h' | rfl
      · exact hb y h'
      · exact hz
    have hcrc : crcR c = crcR b := by
      have h1 := crcR_range c hcb
      have h2 := crcR_range b hb
      have := congrArg numR hs
      rw [numR_wide 4 _ (by omega) (by show ((crcR c : Nat) : Int) < 4294967296; omega), numR_wide 4 _ (by omega) (by show ((crcR b : Nat) : Int) < 4294967296; omega)] at this
      omega
    rw [hbody] at hcrc
    have := crc_set hb hz hcrc
    rw [← hbody] at this
    rw [← h, this]
/-- Less, or more, than all: no seal, and another length. -/
theorem seal_cut {b c : List Int} {x : List Int} (hbl : b.length ≤ 1000000000) (hxl : x.length ≤ 1000000001) (hx : x.length ≠ (sealR b).length) (h8 : 12 ≤ x.length → (x.drop 4).take 4 = ((sealR b).drop 4).take 4) : sealR c ≠ x ∧ ¬ (12 ≤ x.length ∧ numR ((x.drop 4).take 4) = x.length) := by
  have key : 12 ≤ x.length → numR ((x.drop 4).take 4) = (12 + b.length : Nat) := fun h => by
    rw [h8 h, seal_size, numR_wide 4 _ (by omega) (by show ((12 : Int) + b.length) < 4294967296; omega)]
    omega
  rw [seal_len] at hx
  refine ⟨fun h => ?_, fun h => ?_⟩
  · have hl : x.length = 12 + c.length := by rw [← h, seal_len]
    have h1 := key (by omega)
    rw [← h, seal_size, numR_wide 4 _ (by omega) (by show ((12 : Int) + c.length) < 4294967296; omega)] at h1
    omega
  · have h1 := key h.1
    rw [h.2] at h1
    omega
end Go.Proofs.Ytcofkjameibeoaa.mach
