/- norm: which nodes match no bytes. Conditions: none. -/
import Derived.Test.YtpdiljdklllmjaaGreatArPut

namespace Go.Proofs.YtpdiljdklllmjaaGreat.ar
open Go Go.Ev Go.Proofs
open Go.Maps (Keyed)

/-- A node matches no bytes, by what its parts do. -/
def nulV (bits : Nat) (x : Nd) (f : Nat → Bool) : Bool :=
  if x.k = 1 ∨ x.k = 7 then true else if x.k = 3 ∨ x.k = 5 then f x.a.toNat && f x.b.toNat else if x.k = 4 then f x.a.toNat || f x.b.toNat else if x.k = 6 then !f x.a.toNat
  else if x.k = 8 then decide (bits / 2 ^ x.a.toNat % 2 = 1) != x.neg else false
def nulF (bits : Nat) (ns : List Nd) : Nat → Nat → Bool
  | 0, _ => false
  | k + 1, i => match ns[i]? with | none => false | some x => nulV bits x (nulF bits ns k)
def nulN (bits : Nat) (ns : List Nd) (i : Nat) : Bool := nulF bits ns (i + 1) i
/-- What a right node leans on stands ahead. -/
theorem right_lt {x : Nd} {n : Nat} (h : rightN x n = true) : (x.k = 3 ∨ x.k = 4 ∨ x.k = 5 → (0 ≤ x.a ∧ x.a < n) ∧ (0 ≤ x.b ∧ x.b < n)) ∧ (x.k = 6 ∨ x.k = 7 → 0 ≤ x.a ∧ x.a < n) ∧ (x.k = 8 → 0 ≤ x.a ∧ x.a < 4) ∧ 0 ≤ x.k ∧ x.k ≤ 8 := by
  unfold rightN at h
  split at h
  · omega
  split at h
  · omega
  split at h
  · simp only [Bool.and_eq_true, decide_eq_true_eq] at h; omega
  split at h
  · simp only [Bool.and_eq_true, decide_eq_true_eq] at h; omega
  split at h
  · simp only [Bool.and_eq_true, decide_eq_true_eq] at h; omega
  · cases h
theorem nulV_ext {bits : Nat} {x : Nd} {n : Nat} (h : rightN x n = true) {f g : Nat → Bool} (e : ∀ j, j < n → f j = g j) : nulV bits x f = nulV bits x g := by
  obtain ⟨h1, h2, h3, h4⟩ := right_lt h
  unfold nulV
  split
  · rfl
  split
  · rw [e _ (by omega), e _ (by omega)]
  split
  · rw [e _ (by omega), e _ (by omega)]
  split
  · rw [e _ (by omega)]
  · rfl
theorem nulF_eq (bits : Nat) {ns : List Nd} (hO : ∀ (i : Nat) (x : Nd), ns[i]? = some x → rightN x i = true) : ∀ (k k' i : Nat), i < k → i < k' → nulF bits ns k i = nulF bits ns k' i := by
  intro k
  induction k with
  | zero => intro k' i h; omega
  | succ k ih =>
    intro k' i h h'
    cases k' with
    | zero => omega
    | succ k' =>
      simp only [nulF]
      cases hx : ns[i]? with
      | none => rfl
      | some x => exact nulV_ext (hO i x hx) fun j hj => ih k' j (by omega) (by omega)
theorem nulN_eq (bits : Nat) {ns : List Nd} (hO : ∀ (i : Nat) (x : Nd), ns[i]? = some x → rightN x i = true) {i : Nat} {x : Nd} (hx : ns[i]? = some x) : nulN bits ns i = nulV bits x (nulN bits ns) := by
  unfold nulN
  rw [nulF, hx]
  exact nulV_ext (hO i x hx) fun j hj => nulF_eq bits hO i (j + 1) j hj (by omega)

/-- there: are all ids those of nodes? -/
theorem there2_fn (m : Mem) (ab : Nat) (ns : List Nd) (L : Own) (h : Ar ab ns L) (v : Value) (l : List Int) (hl : SlI m .i64 v l) :
    FnL Tryz.prog 63 [.pointer (some ⟨ab, 0, none⟩), v] m L (.bool (l.all fun id => decide (0 ≤ id ∧ id < ns.length))) := by
  have hl2 := hl
  obtain ⟨A, n, c, rfl, hn, hc, hm, -⟩ := hl
  have hmx : maxLen = 9223372036854775807 := rfl
  have hcell := hl2.cell.2
  refine Fn.enter (N := 26) hX Tryz.func63 rfl rfl (by show _ ≤ _; simp) (fun w0 hL => ?_)
  conv => whnf
  generalize keys L = S0 at hL ⊢
  conv => whnf
  repeat ((first | refine zT ?_ | refine zF ?_ | refine zL hX hL ?_ | refine zB hX hL ?_ | (refine zS hX hL ?_; clear hL; intro w hL) | refine zI ?_ | refine zG hX ?_ | refine zO ?_); conv => whnf)
  refine LoopReq.inv hX (fun j : Nat => [(11, .int .i64 j)]) [0, 9, 10]
    (fun j w => (j ≤ n ∧ ∀ i (z : Int), i < j → l[i]? = some z → 0 ≤ z ∧ z < ns.length) ∧ Ev.Loc m S0 w0 m L w) (fun j => n - j) 0
    ⟨⟨by omega, fun i z hi => absurd hi (by omega)⟩, hL⟩ ⟨rfl, trivial⟩ ?_
  clear hL
  rintro j w f ⟨⟨hj, hdone⟩, hL⟩
  conv => whnf
  repeat ((first | refine zT ?_ | refine zF ?_ | refine zL hX hL ?_ | refine zB hX hL ?_ | (refine zS hX hL ?_; clear hL; intro w hL) | refine zI ?_ | refine zG hX ?_ | refine zO ?_); conv => whnf)
  refine BrReq.dec (fun hlt => ?_) (fun hlt => ?_)
  · have hlt' : j < l.length := by omega
    obtain ⟨a, ea, hc⟩ := hcell j _ (List.getElem?_eq_getElem hlt')
    conv => whnf
    repeat ((first | refine Idx2Req.mk j a rfl (by omega) ea ?_ | refine LdReq.one hX rfl rfl hL hc ?_ | refine zT ?_ | refine zF ?_ | refine zL hX hL ?_ | refine zB hX hL ?_ | (refine zS hX hL ?_; clear hL; intro w hL) | refine zI ?_ | refine zG hX ?_ | refine zO ?_); conv => whnf)
    have hnode := Node_fn m ab ns L h l[j]
    have e2 : (nodeN ns l[j]).2 = decide (0 ≤ l[j] ∧ l[j] < ns.length) := by unfold nodeN; split <;> rename_i hh <;> simp [hh]
    rw [e2] at hnode
    generalize (nodeN ns l[j]).1 = nx at hnode
    refine CallReq.lo hnode hL ?_
    clear hL
    intro w hL
    conv => whnf
    repeat ((first | refine zT ?_ | refine zF ?_ | refine zL hX hL ?_ | refine zB hX hL ?_ | (refine zS hX hL ?_; clear hL; intro w hL) | refine zI ?_ | refine zG hX ?_ | refine zO ?_); conv => whnf)
    refine NewReq.mk hL ?_
    clear hL
    intro b7 w hL
    conv => whnf
    by_cases hz : 0 ≤ l[j] ∧ l[j] < ns.length
    · rw [decide_eq_true hz]
      have hd2 : ∀ i (z : Int), i < j + 1 → l[i]? = some z → 0 ≤ z ∧ z < ns.length := fun i z hi hx => by
        by_cases h1 : i = j
        · subst h1; rw [List.getElem?_eq_getElem hlt'] at hx; cases hx; exact hz
        · exact hdone i z (by omega) hx
      conv => whnf
      repeat ((first | refine zT ?_ | refine zF ?_ | refine zL hX hL ?_ | refine zB hX hL ?_ | (refine zS hX hL ?_; clear hL; intro w hL) | refine zI ?_ | refine zG hX ?_ | refine zO ?_); conv => whnf)
      refine ⟨j + 1, ⟨⟨by omega, hd2⟩, hL.drop⟩, by first | omega | (simp only; omega), ?_, ?_⟩
      · repeat (first | exact trivial | (refine And.intro (by (conv => lhs; whnf) <;> (conv => rhs; whnf) <;> (first | rfl)) ?_))
      · repeat (first | exact trivial | (refine And.intro (by (conv => lhs; whnf) <;> (conv => rhs; whnf) <;> (first | rfl)) ?_))
    · rw [decide_eq_false hz]
      conv => whnf
      repeat ((first | refine zT ?_ | refine zF ?_ | refine zL hX hL ?_ | refine zB hX hL ?_ | (refine zS hX hL ?_; clear hL; intro w hL) | refine zI ?_ | refine zG hX ?_ | refine zO ?_); conv => whnf)
      refine RetReq.mk hL.drop ⟨rfl, rfl, congrArg Value.bool (Eq.symm ?_)⟩
      rw [Bool.eq_false_iff]
      intro hh
      rw [List.all_eq_true] at hh
      exact hz (of_decide_eq_true (hh _ (List.getElem_mem hlt')))
  · conv => whnf
    repeat ((first | refine UGenReq.nilPtrNe hX rfl rfl rfl rfl rfl ?_ | refine zT ?_ | refine zF ?_ | refine zL hX hL ?_ | refine zB hX hL ?_ | (refine zS hX hL ?_; clear hL; intro w hL) | refine zI ?_ | refine zG hX ?_ | refine zO ?_); conv => whnf)
    refine RetReq.mk hL ⟨rfl, rfl, congrArg Value.bool (Eq.symm ?_)⟩
    show _ = true
    rw [List.all_eq_true]
    intro z hz
    obtain ⟨i, hi, rfl⟩ := List.getElem_of_mem hz
    exact decide_eq_true (hdone i _ (by omega) (List.getElem?_eq_getElem hi))

/-- What is known of nulls is true. -/
def isM (bits : Nat) (ns : List Nd) (y : Value × Value) : Prop := ∃ i : Nat, i < ns.length ∧ y = (.int .i64 i, .bool (nulN bits ns i))
def teO (ab kb bits : Nat) : List Value := [.pointer (some ⟨ab, 0, none⟩), .int .u8 bits, .map (some kb)]
theorem i64_nat {n : Nat} (h : n ≤ 20000) : i64 (n : Int) := by unfold i64; omega
theorem isM_keys {bits : Nat} {ns : List Nd} (hn : ns.length ≤ 20000) {ml : List (Value × Value)} (h : ∀ y ∈ ml, isM bits ns y) : ∀ y ∈ ml, IsK Tryz.prog 3 y.1 := by
  intro y hy
  obtain ⟨i, hi, rfl⟩ := h y hy
  exact isK_int _ (i64_nat (by omega))
theorem isM_app {bits : Nat} {ns : List Nd} {ml : List (Value × Value)} (h : ∀ y ∈ ml, isM bits ns y) {y : Value × Value} (hy : isM bits ns y) : ∀ z ∈ ml ++ [y], isM bits ns z := by
  intro z hz
  rcases List.mem_append.1 hz with hz | hz
  · exact h z hz
  · rw [List.mem_singleton.1 hz]; exact hy
theorem isM_set {bits : Nat} {ns : List Nd} {ml : List (Value × Value)} (h : ∀ y ∈ ml, isM bits ns y) {y : Value × Value} (hy : isM bits ns y) (q : Nat) : ∀ z ∈ ml.set q y, isM bits ns z := by
  intro z hz
  rcases List.mem_or_eq_of_mem_set hz with hz | rfl
  · exact h z hz
  · exact hy

theorem and1_u8 {a : Nat} (ha : a < 256) : bitsOf .and .u8 (a : Int) 1 = ((a % 2 : Nat) : Int) := by
  have h1 : ∀ b, BitVec.ofInt 8 ((b : Nat) : Int) = BitVec.ofNat 8 b := fun b => by
    apply BitVec.eq_of_toNat_eq
    rw [BitVec.toNat_ofInt, BitVec.toNat_ofNat]
    omega
  have h : (BitVec.ofInt 8 (a : Int) &&& BitVec.ofInt 8 ((1 : Nat) : Int)).toNat = a % 2 := by
    rw [h1, h1, BitVec.toNat_and, BitVec.toNat_ofNat, BitVec.toNat_ofNat, Nat.mod_eq_of_lt (by omega), Nat.mod_eq_of_lt (by omega), Nat.and_one_is_mod]
  show IntKind.wrap .u8 ((BitVec.ofInt 8 (a : Int) &&& BitVec.ofInt 8 ((1 : Nat) : Int)).toNat : Int) = _
  rw [h]
  exact wrap_keep _ (by show (0 : Int) ≤ _; omega) (by show _ ≤ (255 : Int); omega)

end Go.Proofs.YtpdiljdklllmjaaGreat.ar
