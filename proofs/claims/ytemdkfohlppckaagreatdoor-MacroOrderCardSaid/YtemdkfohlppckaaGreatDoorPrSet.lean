/- Sets of bytes: Has, All, Ranges. Conditions: none. -/
import Derived.Test.YtemdkfohlppckaaGreatDoorEv
import Derived.Test.YtemdkfohlppckaaGreatDoorTabsHas

namespace Go.Proofs.YtemdkfohlppckaaGreatDoor.tabs
open Go Go.Ev Go.Proofs

theorem ofInt_nat {n : Nat} (a : Nat) : BitVec.ofInt n (a : Int) = BitVec.ofNat n a := by
  apply BitVec.eq_of_toNat_eq
  rw [BitVec.toNat_ofInt, BitVec.toNat_ofNat]
  omega
theorem wrap_nat {k : IntKind} {a : Nat} (h0 : k.min ≤ 0) (h : (a : Int) ≤ k.max) : k.wrap (a : Int) = (a : Int) := wrap_keep k (by omega) h
theorem and1_u64 {a : Nat} (ha : a ≤ 18446744073709551615) : bitsOf .and .u64 (a : Int) 1 = ((a % 2 : Nat) : Int) := by
  have h : (BitVec.ofInt 64 (a : Int) &&& BitVec.ofInt 64 ((1 : Nat) : Int)).toNat = a % 2 := by
    rw [ofInt_nat, ofInt_nat, BitVec.toNat_and, BitVec.toNat_ofNat, BitVec.toNat_ofNat, Nat.mod_eq_of_lt (by omega), Nat.mod_eq_of_lt (by omega), Nat.and_one_is_mod]
  show IntKind.wrap .u64 ((BitVec.ofInt 64 (a : Int) &&& BitVec.ofInt 64 ((1 : Nat) : Int)).toNat : Int) = _
  rw [h]
  exact wrap_nat (by decide) (by show _ ≤ (18446744073709551615 : Int); omega)

def in64 (s : Int) : Prop := 0 ≤ s ∧ s ≤ 18446744073709551615
/-- A set, by its four numbers. -/
def setV (s0 s1 s2 s3 : Int) : Value := .agg (toArr [.int .u64 s0, .int .u64 s1, .int .u64 s2, .int .u64 s3])

/-- The bytes of a set, below a bound, rising. -/
def allT (f : Nat → Bool) (j : Nat) : List Nat := (List.range j).filter f
theorem allT_succ (f : Nat → Bool) (j : Nat) : allT f (j + 1) = if f j = true then allT f j ++ [j] else allT f j := by
  unfold allT
  rw [List.range_succ, List.filter_append]
  split
  · rename_i h; simp [h]
  · rename_i h; simp [h]
theorem allT_len (f : Nat → Bool) (j : Nat) : (allT f j).length ≤ j := by
  have := List.length_filter_le f (List.range j)
  rw [List.length_range] at this
  exact this
theorem allT_lt {f : Nat → Bool} {j b : Nat} (h : b ∈ allT f j) : b < j ∧ f b = true := by
  have := List.mem_filter.1 h
  exact ⟨List.mem_range.1 this.1, this.2⟩
def natI (l : List Nat) : List Int := l.map fun (n : Nat) => (n : Int)

/-- One byte more, in ranges that rise. -/
def stepR (acc : List (Nat × Nat)) (b : Nat) : List (Nat × Nat) := match acc.getLast? with
  | some x => if x.2 + 1 = b then acc.set (acc.length - 1) (x.1, b) else acc ++ [(b, b)]
  | none => [(b, b)]
def rngL (l : List Nat) : List (Nat × Nat) := l.foldl stepR []
theorem rngL_take {l : List Nat} {j : Nat} (h : j < l.length) : rngL (l.take (j + 1)) = stepR (rngL (l.take j)) l[j] := by
  rw [List.take_succ_eq_append_getElem h]; unfold rngL; rw [List.foldl_append]; rfl
theorem stepR_len (acc : List (Nat × Nat)) (b : Nat) : (stepR acc b).length ≤ acc.length + 1 := by
  unfold stepR
  split
  · split
    · simp
    · simp
  · simp
theorem rngL_len (l : List Nat) : ∀ (j : Nat), (rngL (l.take j)).length ≤ j
  | 0 => by simp [rngL]
  | j + 1 => by
    by_cases h : j < l.length
    · rw [rngL_take h]
      have := stepR_len (rngL (l.take j)) l[j]
      have := rngL_len l j
      omega
    · have := rngL_len l j
      rw [List.take_of_length_le (by omega)] at this ⊢
      omega
theorem stepR_mem {acc : List (Nat × Nat)} {b : Nat} {x : Nat × Nat} (h : x ∈ stepR acc b) : x ∈ acc ∨ x = (b, b) ∨ ∃ y ∈ acc, x = (y.1, b) := by
  unfold stepR at h
  split at h
  · rename_i y hy
    have hym := List.mem_of_getLast? hy
    split at h
    · rcases List.mem_or_eq_of_mem_set h with h | rfl
      · exact .inl h
      · exact .inr (.inr ⟨y, hym, rfl⟩)
    · rcases List.mem_append.1 h with h | h
      · exact .inl h
      · exact .inr (.inl (by simpa using h))
  · exact .inr (.inl (by simpa using h))
theorem fold_lt {M : Nat} : ∀ (l : List Nat) (acc : List (Nat × Nat)), (∀ b ∈ l, b < M) → (∀ x ∈ acc, x.1 < M ∧ x.2 < M) → ∀ x ∈ l.foldl stepR acc, x.1 < M ∧ x.2 < M
  | [], acc, _, h, x, hx => h x hx
  | b :: l, acc, hb, h, x, hx => fold_lt l (stepR acc b) (fun y hy => hb y (List.mem_cons_of_mem _ hy)) (fun y hy => by
      have hb0 := hb b List.mem_cons_self
      rcases stepR_mem hy with h1 | rfl | ⟨z, hz, rfl⟩
      · exact h y h1
      · exact ⟨hb0, hb0⟩
      · exact ⟨(h z hz).1, hb0⟩) x hx
def rngC (x : Nat × Nat) : List Value := [.int .u8 x.1, .int .u8 x.2]
def isR (cs : List Value) (x : Nat × Nat) : Prop := cs = rngC x
theorem rngC_all (l : List (Nat × Nat)) : ∀ r ∈ l.map rngC, r.length = 2 := by
  intro r hr
  obtain ⟨x, _, rfl⟩ := List.mem_map.1 hr
  rfl

theorem owns_cell {te size g n cap : Nat} {cur : List Value} {rows : List (List Value)} {row : List Value} (i j : Nat) (v : Value) (h1 : n ≤ cap) (h2 : cap ≤ maxLen) (h3 : cur.length = cap * size) (h4 : cur.take (n * size) = rows.flatten)
    (hs : ∀ r ∈ rows, r.length = size) (hr : rows[i]? = some row) (hj : j < size) :
    OwnS te size (.slice (some ⟨g, 0, none⟩) n cap) (rows.set i (row.set j v)).flatten [(g, .cells (toArr (spliceL cur (i * size + j) [v])) te (0, 0))] := by
  have hlen : (cur.set (i * size + j) v).length = cap * size := by rw [List.length_set]; exact h3
  have := OwnS.block (te := te) (g := g) h1 h2 hlen
  have e : (cur.set (i * size + j) v).take (n * size) = (rows.set i (row.set j v)).flatten := by
    rw [List.take_set, h4, set_rows rows i j row v hs hr hj]
  rw [e] at this
  exact this
theorem flat_rng {l : List (Nat × Nat)} {i : Nat} {x : Nat × Nat} (h : l[i]? = some x) : (l.map rngC).flatten[i * 2 + 1]? = some (.int .u8 x.2) := by
  rw [flat_get (l.map rngC) i 1 (rngC x) (rngC_all l) (by rw [List.getElem?_map, h]; rfl) (by omega)]
  rfl

end Go.Proofs.YtemdkfohlppckaaGreatDoor.tabs
