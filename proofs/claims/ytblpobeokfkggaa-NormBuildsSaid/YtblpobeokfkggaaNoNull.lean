/- norm: which nodes match no bytes. Conditions: none. -/
import Derived.Test.YtblpobeokfkggaaArPut

namespace Go.Proofs.Ytblpobeokfkggaa.ar
open Go Go.Ev Go.Proofs
open Go.Maps (Keyed)

/-- A node matches no bytes, by what its parts do. -/
def nulV (bits : Nat) (x : Nd) (f : Nat → Bool) : Bool :=
  if x.k = 1 ∨ x.k = 7 then true else if x.k = 3 ∨ x.k = 5 then f x.a.toNat && f x.b.toNat else if x.k = 4 then f x.a.toNat || f x.b.toNat else if x.k = 6 then !f x.a.toNat
  else if x.k = 8 then decide (bits / 2 ^ x.a.toNat % 2 = 1) != x.neg else false
def nulF (bits : Nat) (ns : List Nd) : Nat → Nat → Bool
  | 0, _ => false
  | k + 1, i => match ns[i]? with | none => false | some x => nulV bits x (nulF bits ns k)
def nulN (bits : Nat) (ns : List Nd) (i : Nat) : Bool := nulF bits ns (i + 1) i
/-- What a right node leans on stands ahead. -/
theorem right_lt {x : Nd} {n : Nat} (h : rightN x n = true) : (x.k = 3 ∨ x.k = 4 ∨ x.k = 5 → (0 ≤ x.a ∧ x.a < n) ∧ (0 ≤ x.b ∧ x.b < n)) ∧ (x.k = 6 ∨ x.k = 7 → 0 ≤ x.a ∧ x.a < n) ∧ (x.k = 8 → 0 ≤ x.a ∧ x.a < 4) ∧ 0 ≤ x.k ∧ x.k ≤ 8 := by
  unfold rightN at h
  split at h
  · omega
  split at h
  · omega
  split at h
  · simp only [Bool.and_eq_true, decide_eq_true_eq] at h; omega
  split at h
  · simp only [Bool.and_eq_true, decide_eq_true_eq] at h; omega
  split at h
  · simp only [Bool.and_eq_true, decide_eq_true_eq] at h; omega
  · cases h
theorem nulV_ext {bits : Nat} {x : Nd} {n : Nat} (h : rightN x n = true) {f g : Nat → Bool} (e : ∀ j, j < n → f j = g j) : nulV bits x f = nulV bits x g := by
  obtain ⟨h1, h2, h3, h4⟩ := right_lt h
  unfold nulV
  split
  · rfl
  split
  · rw [e _ (by omega), e _ (by omega)]
  split
  · rw [e _ (by omega), e _ (by omega)]
  split
  · rw [e _ (by omega)]
  · rfl
theorem nulF_eq (bits : Nat) {ns : List Nd} (hO : ∀ (i : Nat) (x : Nd), ns[i]? = some x → rightN x i = true) : ∀ (k k' i : Nat), i < k → i < k' → nulF bits ns k i = nulF bits ns k' i := by
  intro k
  induction k with
  | zero => intro k' i h; omega
  | succ k ih =>
    intro k' i h h'
    cases k' with
    | zero => omega
    | succ k' =>
      simp only [nulF]
      cases hx : ns[i]? with
      | none => rfl
      | some x => exact nulV_ext (hO i x hx) fun j hj => ih k' j (by omega) (by omega)
theorem nulN_eq (bits : Nat) {ns : List Nd} (hO : ∀ (i : Nat) (x : Nd), ns[i]? = some x → rightN x i = true) {i : Nat} {x : Nd} (hx : ns[i]? = some x) : nulN bits ns i = nulV bits x (nulN bits ns) := by
  unfold nulN
  rw [nulF, hx]
  exact nulV_ext (hO i x hx) fun j hj => nulF_eq bits hO i (j + 1) j hj (by omega)

/-- there: are all ids those of nodes? -/
theorem there2_fn (m : Mem) (ab : Nat) (ns : List Nd) (L : Own) (h : Ar ab ns L) (v : Value) (l : List Int) (hl : SlI m .i64 v l) :
    FnL Try.prog 33 [.pointer (some ⟨ab, 0, none⟩), v] m L (.bool (l.all fun id => decide (0 ≤ id ∧ id < ns.length))) := by
  have hl2 := hl
  obtain ⟨A, n, c, rfl, hn, hc, hm, -⟩ := hl
  have hmx : maxLen = 9223372036854775807 := rfl
  have hcell := hl2.cell.2
  refine Fn.enter (N := 26) hX Try.func33 rfl rfl (by show _ ≤ _; simp) (fun w0 hL => ?_)
  conv => whnf
  generalize keys L = S0 at hL ⊢
  conv => whnf
  repeat ((first | refine zT ?_ | refine zF ?_ | refine zL hX hL ?_ | refine zB hX hL ?_ | (refine zS hX hL ?_; clear hL; intro w hL) | refine zI ?_ | refine zG hX ?_ | refine zO ?_); conv => whnf)
  refine LoopReq.inv hX (fun j : Nat => [(11, .int .i64 j)]) [0, 9, 10]
    (fun j w => (j ≤ n ∧ ∀ i (z : Int), i < j → l[i]? = some z → 0 ≤ z ∧ z < ns.length) ∧ Ev.Loc m S0 w0 m L w) (fun j => n - j) 0
    ⟨⟨by omega, fun i z hi => absurd hi (by omega)⟩, hL⟩ ⟨rfl, trivial⟩ ?_
  clear hL
  rintro j w f ⟨⟨hj, hdone⟩, hL⟩
  conv => whnf
  repeat ((first | refine zT ?_ | refine zF ?_ | refine zL hX hL ?_ | refine zB hX hL ?_ | (refine zS hX hL ?_; clear hL; intro w hL) | refine zI ?_ | refine zG hX ?_ | refine zO ?_); conv => whnf)
  refine BrReq.dec (fun hlt => ?_) (fun hlt => ?_)
  · have hlt' : j < l.length := by omega
    obtain ⟨a, ea, hc⟩ := hcell j _ (List.getElem?_eq_getElem hlt')
    conv => whnf
    repeat ((first | refine Idx2Req.mk j a rfl (by omega) ea ?_ | refine LdReq.one hX rfl rfl hL hc ?_ | refine zT ?_ | refine zF ?_ | refine zL hX hL ?_ | refine zB hX hL ?_ | (refine zS hX hL ?_; clear hL; intro w hL) | refine zI ?_ | refine zG hX ?_ | refine zO ?_); conv => whnf)
    have hnode := Node_fn m ab ns L h l[j]
    have e2 : (nodeN ns l[j]).2 = decide (0 ≤ l[j] ∧ l[j] < ns.length) := by unfold nodeN; split <;> rename_i hh <;> simp [hh]
    rw [e2] at hnode
    generalize (nodeN ns l[j]).1 = nx at hnode
    refine CallReq.lo hnode hL ?_
    clear hL
    intro w hL
    conv => whnf
    repeat ((first | refine zT ?_ | refine zF ?_ | refine zL hX hL ?_ | refine zB hX hL ?_ | (refine zS hX hL ?_; clear hL; intro w hL) | refine zI ?_ | refine zG hX ?_ | refine zO ?_); conv => whnf)
    refine NewReq.mk hL ?_
    clear hL
    intro b7 w hL
    conv => whnf
    by_cases hz : 0 ≤ l[j] ∧ l[j] < ns.length
    · rw [decide_eq_true hz]
      have hd2 : ∀ i (z : Int), i < j + 1 → l[i]? = some z → 0 ≤ z ∧ z < ns.length := fun i z hi hx => by
        by_cases h1 : i = j
        · subst h1; rw [List.getElem?_eq_getElem hlt'] at hx; cases hx; exact hz
        · exact hdone i z (by omega) hx
      conv => whnf
      repeat ((first | refine zT ?_ | refine zF ?_ | refine zL hX hL ?_ | refine zB hX hL ?_ | (refine zS hX hL ?_; clear hL; intro w hL) | refine zI ?_ | refine zG hX ?_ | refine zO ?_); conv => whnf)
      refine ⟨j + 1, ⟨⟨by omega, hd2⟩, hL.drop⟩, by first | omega | (simp only; omega), ?_, ?_⟩
      · repeat (first | exact trivial | (refine And.intro (by (conv => lhs; whnf) <;> (conv => rhs; whnf) <;> (first | rfl)) ?_))
      · repeat (first | exact trivial | (refine And.intro (by (conv => lhs; whnf) <;> (conv => rhs; whnf) <;> (first | rfl)) ?_))
    · rw [decide_eq_false hz]
      conv => whnf
      repeat ((first | refine zT ?_ | refine zF ?_ | refine zL hX hL ?_ | refine zB hX hL ?_ | (refine zS hX hL ?_; clear hL; intro w hL) | refine zI ?_ | refine zG hX ?_ | refine zO ?_); conv => whnf)
      refine RetReq.mk hL.drop ⟨rfl, rfl, congrArg Value.bool (Eq.symm ?_)⟩
      rw [Bool.eq_false_iff]
      intro hh
      rw [List.all_eq_true] at hh
      exact hz (of_decide_eq_true (hh _ (List.getElem_mem hlt')))
  · conv => whnf
    repeat ((first | refine UGenReq.nilPtrNe hX rfl rfl rfl rfl rfl ?_ | refine zT ?_ | refine zF ?_ | refine zL hX hL ?_ | refine zB hX hL ?_ | (refine zS hX hL ?_; clear hL; intro w hL) | refine zI ?_ | refine zG hX ?_ | refine zO ?_); conv => whnf)
    refine RetReq.mk hL ⟨rfl, rfl, congrArg Value.bool (Eq.symm ?_)⟩
    show _ = true
    rw [List.all_eq_true]
    intro z hz
    obtain ⟨i, hi, rfl⟩ := List.getElem_of_mem hz
    exact decide_eq_true (hdone i _ (by omega) (List.getElem?_eq_getElem hi))

/-- What is known of nulls is true. -/
def isM (bits : Nat) (ns : List Nd) (y : Value × Value) : Prop := ∃ i : Nat, i < ns.length ∧ y = (.int .i64 i, .bool (nulN bits ns i))
def teO (ab kb bits : Nat) : List Value := [.pointer (some ⟨ab, 0, none⟩), .int .u8 bits, .map (some kb)]
theorem i64_nat {n : Nat} (h : n ≤ 20000) : i64 (n : Int) := by unfold i64; omega
theorem isM_keys {bits : Nat} {ns : List Nd} (hn : ns.length ≤ 20000) {ml : List (Value × Value)} (h : ∀ y ∈ ml, isM bits ns y) : ∀ y ∈ ml, IsK Try.prog 3 y.1 := by
  intro y hy
  obtain ⟨i, hi, rfl⟩ := h y hy
  exact isK_int _ (i64_nat (by omega))
theorem isM_app {bits : Nat} {ns : List Nd} {ml : List (Value × Value)} (h : ∀ y ∈ ml, isM bits ns y) {y : Value × Value} (hy : isM bits ns y) : ∀ z ∈ ml ++ [y], isM bits ns z := by
  intro z hz
  rcases List.mem_append.1 hz with hz | hz
  · exact h z hz
  · rw [List.mem_singleton.1 hz]; exact hy
theorem isM_set {bits : Nat} {ns : List Nd} {ml : List (Value × Value)} (h : ∀ y ∈ ml, isM bits ns y) {y : Value × Value} (hy : isM bits ns y) (q : Nat) : ∀ z ∈ ml.set q y, isM bits ns z := by
  intro z hz
  rcases List.mem_or_eq_of_mem_set hz with hz | rfl
  · exact h z hz
  · exact hy

theorem and1_u8 {a : Nat} (ha : a < 256) : bitsOf .and .u8 (a : Int) 1 = ((a % 2 : Nat) : Int) := by
  have h1 : ∀ b, BitVec.ofInt 8 ((b : Nat) : Int) = BitVec.ofNat 8 b := fun b => by
    apply BitVec.eq_of_toNat_eq
    rw [BitVec.toNat_ofInt, BitVec.toNat_ofNat]
    omega
  have h : (BitVec.ofInt 8 (a : Int) &&& BitVec.ofInt 8 ((1 : Nat) : Int)).toNat = a % 2 := by
    rw [h1, h1, BitVec.toNat_and, BitVec.toNat_ofNat, BitVec.toNat_ofNat, Nat.mod_eq_of_lt (by omega), Nat.mod_eq_of_lt (by omega), Nat.and_one_is_mod]
  show IntKind.wrap .u8 ((BitVec.ofInt 8 (a : Int) &&& BitVec.ofInt 8 ((1 : Nat) : Int)).toNat : Int) = _
  rw [h]
  exact wrap_keep _ (by show (0 : Int) ≤ _; omega) (by show _ ≤ (255 : Int); omega)

set_option maxHeartbeats 2000000 in
theorem null_fn (m : Mem) (ab kb bits : Nat) (ns : List Nd) (La : Own) (hA : Ar ab ns La) (hO : OkA ns) (hbits : bits < 256) : ∀ (id : Nat), id < ns.length → ∀ ml, (∀ y ∈ ml, isM bits ns y) →
    Ev.Fn Try.prog 34 [.agg (toArr (teO ab kb bits)), .int .i64 id] m ((kb, mapW ml) :: La) fun m' L' u => m' = m ∧ u = .bool (nulN bits ns id) ∧ ∃ ml', L' = (kb, mapW ml') :: La ∧ ∀ y ∈ ml', isM bits ns y := by
  intro id
  induction id using Nat.strongRecOn with
  | ind id ih =>
  intro hid ml hml
  have hlen := hO.len
  have hkeys := isM_keys hlen hml
  have hidk : IsK Try.prog 3 (.int .i64 id) := isK_int _ (i64_nat (by omega))
  have hx := List.getElem?_eq_getElem hid
  have hN := nulN_eq bits hO.right hx
  have hR := hO.right id _ hx
  have hnode := Node_fn m ab ns La hA id
  have hnd : nodeN ns id = (ns[id], true) := by
    unfold nodeN; rw [if_pos ⟨by omega, by omega⟩]; simp [List.getD, hx]
  rw [hnd] at hnode
  generalize ns[id] = x at hx hN hR hnode
  obtain ⟨h1, h2, h3, h4⟩ := right_lt hR
  refine Fn.enter (N := 80) hX Try.func34 rfl rfl (by show _ ≤ _; simp) (fun w0 hL => ?_)
  conv => whnf
  generalize keys ((kb, mapW ml) :: La) = S0 at hL ⊢
  refine NewReq.mk hL ?_
  clear hL
  intro b2 w hL
  conv => whnf
  replace hL : Ev.Loc m S0 w0 m ([(b2, .cells (toArr (teO ab kb bits)) 73 (0, 0)), (kb, mapW ml)] ++ La) w := hL
  conv => whnf
  repeat ((first | refine zT ?_ | refine zF ?_ | refine zL hX hL ?_ | refine zB hX hL ?_ | (refine zS hX hL ?_; clear hL; intro w hL) | refine zI ?_ | refine zG hX ?_ | refine zO ?_); conv => whnf)
  refine RunReq.lookW hX rfl rfl key_int (z := .bool false) (by kernel_rfl) hL (.t .h) hidk hkeys (fun hno => ?_) (fun v hv => ?_)
  rotate_left
  · obtain ⟨i, -, e⟩ := hml _ hv
    injection e with e1 e2
    injection e1 with e1 e3
    obtain rfl : id = i := by omega
    subst e2
    conv => whnf
    repeat ((first | refine zT ?_ | refine zF ?_ | refine zL hX hL ?_ | refine zB hX hL ?_ | (refine zS hX hL ?_; clear hL; intro w hL) | refine zI ?_ | refine zG hX ?_ | refine zO ?_); conv => whnf)
    exact RetReq.mk hL.drop ⟨rfl, rfl, ml, rfl, hml⟩
  · clear hno
    conv => whnf
    repeat ((first | refine zT ?_ | refine zF ?_ | refine zL hX hL ?_ | refine zB hX hL ?_ | (refine zS hX hL ?_; clear hL; intro w hL) | refine zI ?_ | refine zG hX ?_ | refine zO ?_); conv => whnf)
    refine CallReq.li (L1 := La) hnode (Loc.back (L1 := [_, _]) hL) ?_
    clear hL
    intro w hL
    have hL := Loc.back (L1 := La) (L2 := [_, _]) hL
    conv => whnf
    repeat ((first | refine zT ?_ | refine zF ?_ | refine zL hX hL ?_ | refine zB hX hL ?_ | (refine zS hX hL ?_; clear hL; intro w hL) | refine zI ?_ | refine zG hX ?_ | refine zO ?_); conv => whnf)
    refine NewReq.mk hL ?_
    clear hL
    intro b7 w hL
    conv => whnf
    replace hL : Ev.Loc m S0 w0 m ((b7, .cells (toArr (ndC nd0)) 66 (0, 0)) :: (b2, .cells (toArr (teO ab kb bits)) 73 (0, 0)) :: (kb, mapW ml) :: La) w := hL
    obtain ⟨k, s0, s1, s2, s3, a, b, neg⟩ := x
    simp only at h1 h2 h3 h4
    have hself : ∀ v, nulN bits ns id = v → isM bits ns (.int .i64 id, .bool v) := fun v e => ⟨id, hid, by rw [e]⟩
    unfold nulV at hN
    simp only at hN
    by_cases k1 : k = 1 ∨ k = 7
    · rw [if_pos k1] at hN
      rcases k1 with rfl | rfl
      · conv => whnf
        repeat ((first | refine zT ?_ | refine zF ?_ | refine zL hX hL ?_ | refine zB hX hL ?_ | (refine zS hX hL ?_; clear hL; intro w hL) | refine zI ?_ | refine zG hX ?_ | refine zO ?_); conv => whnf)
        refine RunUReq.updW hX rfl rfl key_int (k := .int .i64 id) (v := .bool true) 2 hL rfl hidk (isM_keys hlen hml) (fun _ w hL => ?_) (fun q u hq w hL => ?_)
        · conv => whnf
          repeat ((first | refine zT ?_ | refine zF ?_ | refine zL hX hL ?_ | refine zB hX hL ?_ | (refine zS hX hL ?_; clear hL; intro w hL) | refine zI ?_ | refine zG hX ?_ | refine zO ?_); conv => whnf)
          exact RetReq.mk hL.drop.drop ⟨rfl, congrArg Value.bool (hN).symm, _, rfl, isM_app hml (hself _ hN)⟩
        · conv => whnf
          repeat ((first | refine zT ?_ | refine zF ?_ | refine zL hX hL ?_ | refine zB hX hL ?_ | (refine zS hX hL ?_; clear hL; intro w hL) | refine zI ?_ | refine zG hX ?_ | refine zO ?_); conv => whnf)
          exact RetReq.mk hL.drop.drop ⟨rfl, congrArg Value.bool (hN).symm, _, rfl, isM_set hml (hself _ hN) q⟩
      · conv => whnf
        repeat ((first | refine zT ?_ | refine zF ?_ | refine zL hX hL ?_ | refine zB hX hL ?_ | (refine zS hX hL ?_; clear hL; intro w hL) | refine zI ?_ | refine zG hX ?_ | refine zO ?_); conv => whnf)
        refine RunUReq.updW hX rfl rfl key_int (k := .int .i64 id) (v := .bool true) 2 hL rfl hidk (isM_keys hlen hml) (fun _ w hL => ?_) (fun q u hq w hL => ?_)
        · conv => whnf
          repeat ((first | refine zT ?_ | refine zF ?_ | refine zL hX hL ?_ | refine zB hX hL ?_ | (refine zS hX hL ?_; clear hL; intro w hL) | refine zI ?_ | refine zG hX ?_ | refine zO ?_); conv => whnf)
          exact RetReq.mk hL.drop.drop ⟨rfl, congrArg Value.bool (hN).symm, _, rfl, isM_app hml (hself _ hN)⟩
        · conv => whnf
          repeat ((first | refine zT ?_ | refine zF ?_ | refine zL hX hL ?_ | refine zB hX hL ?_ | (refine zS hX hL ?_; clear hL; intro w hL) | refine zI ?_ | refine zG hX ?_ | refine zO ?_); conv => whnf)
          exact RetReq.mk hL.drop.drop ⟨rfl, congrArg Value.bool (hN).symm, _, rfl, isM_set hml (hself _ hN) q⟩
    rw [if_neg k1] at hN
    by_cases k3 : k = 3 ∨ k = 5
    · rw [if_pos k3] at hN
      rcases k3 with k3 | k3
      · subst k3
        have hab := h1 (by omega)
        have ea : ((a.toNat : Nat) : Int) = a := by omega
        have eb : ((b.toNat : Nat) : Int) = b := by omega
        have iha := ih a.toNat (by omega) (by omega) ml hml
        rw [ea] at iha
        conv => whnf
        repeat ((first | refine zT ?_ | refine zF ?_ | refine zL hX hL ?_ | refine zB hX hL ?_ | (refine zS hX hL ?_; clear hL; intro w hL) | refine zI ?_ | refine zG hX ?_ | refine zO ?_); conv => whnf)
        refine CallReq.mk (L1 := (kb, mapW ml) :: La) (L2 := [_, _]) iha (Loc.back (L1 := [_, _]) hL) ?_
        clear hL
        rintro v m2 L1' w hL - ⟨rfl, rfl, ml2, rfl, hml2⟩
        have hL := Loc.back (L1 := (kb, mapW ml2) :: La) (L2 := [_, _]) hL
        have ihb := ih b.toNat (by omega) (by omega) ml2 hml2
        rw [eb] at ihb
        cases hva : nulN bits ns a.toNat with
        | false =>
          rw [hva, Bool.false_and] at hN
          conv => whnf
          repeat ((first | refine zT ?_ | refine zF ?_ | refine zL hX hL ?_ | refine zB hX hL ?_ | (refine zS hX hL ?_; clear hL; intro w hL) | refine zI ?_ | refine zG hX ?_ | refine zO ?_); conv => whnf)
          refine RunUReq.updW hX rfl rfl key_int (k := .int .i64 id) (v := .bool false) 2 hL rfl hidk (isM_keys hlen hml2) (fun _ w hL => ?_) (fun q u hq w hL => ?_)
          · conv => whnf
            repeat ((first | refine zT ?_ | refine zF ?_ | refine zL hX hL ?_ | refine zB hX hL ?_ | (refine zS hX hL ?_; clear hL; intro w hL) | refine zI ?_ | refine zG hX ?_ | refine zO ?_); conv => whnf)
            exact RetReq.mk hL.drop.drop ⟨rfl, congrArg Value.bool (hN).symm, _, rfl, isM_app hml2 (hself _ hN)⟩
          · conv => whnf
            repeat ((first | refine zT ?_ | refine zF ?_ | refine zL hX hL ?_ | refine zB hX hL ?_ | (refine zS hX hL ?_; clear hL; intro w hL) | refine zI ?_ | refine zG hX ?_ | refine zO ?_); conv => whnf)
            exact RetReq.mk hL.drop.drop ⟨rfl, congrArg Value.bool (hN).symm, _, rfl, isM_set hml2 (hself _ hN) q⟩
        | true =>
          rw [hva, Bool.true_and] at hN
          conv => whnf
          repeat ((first | refine zT ?_ | refine zF ?_ | refine zL hX hL ?_ | refine zB hX hL ?_ | (refine zS hX hL ?_; clear hL; intro w hL) | refine zI ?_ | refine zG hX ?_ | refine zO ?_); conv => whnf)
          refine CallReq.mk (L1 := (kb, mapW ml2) :: La) (L2 := [_, _]) ihb (Loc.back (L1 := [_, _]) hL) ?_
          clear hL
          rintro v m2 L1' w hL - ⟨rfl, rfl, ml22, rfl, hml3⟩
          have hL := Loc.back (L1 := (kb, mapW ml22) :: La) (L2 := [_, _]) hL
          cases hvb : nulN bits ns b.toNat with
          | false =>
            rw [hvb] at hN
            conv => whnf
            repeat ((first | refine zT ?_ | refine zF ?_ | refine zL hX hL ?_ | refine zB hX hL ?_ | (refine zS hX hL ?_; clear hL; intro w hL) | refine zI ?_ | refine zG hX ?_ | refine zO ?_); conv => whnf)
            refine RunUReq.updW hX rfl rfl key_int (k := .int .i64 id) (v := .bool false) 2 hL rfl hidk (isM_keys hlen hml3) (fun _ w hL => ?_) (fun q u hq w hL => ?_)
            · conv => whnf
              repeat ((first | refine zT ?_ | refine zF ?_ | refine zL hX hL ?_ | refine zB hX hL ?_ | (refine zS hX hL ?_; clear hL; intro w hL) | refine zI ?_ | refine zG hX ?_ | refine zO ?_); conv => whnf)
              exact RetReq.mk hL.drop.drop ⟨rfl, congrArg Value.bool (hN).symm, _, rfl, isM_app hml3 (hself _ hN)⟩
            · conv => whnf
              repeat ((first | refine zT ?_ | refine zF ?_ | refine zL hX hL ?_ | refine zB hX hL ?_ | (refine zS hX hL ?_; clear hL; intro w hL) | refine zI ?_ | refine zG hX ?_ | refine zO ?_); conv => whnf)
              exact RetReq.mk hL.drop.drop ⟨rfl, congrArg Value.bool (hN).symm, _, rfl, isM_set hml3 (hself _ hN) q⟩
          | true =>
            rw [hvb] at hN
            conv => whnf
            repeat ((first | refine zT ?_ | refine zF ?_ | refine zL hX hL ?_ | refine zB hX hL ?_ | (refine zS hX hL ?_; clear hL; intro w hL) | refine zI ?_ | refine zG hX ?_ | refine zO ?_); conv => whnf)
            refine RunUReq.updW hX rfl rfl key_int (k := .int .i64 id) (v := .bool true) 2 hL rfl hidk (isM_keys hlen hml3) (fun _ w hL => ?_) (fun q u hq w hL => ?_)
            · conv => whnf
              repeat ((first | refine zT ?_ | refine zF ?_ | refine zL hX hL ?_ | refine zB hX hL ?_ | (refine zS hX hL ?_; clear hL; intro w hL) | refine zI ?_ | refine zG hX ?_ | refine zO ?_); conv => whnf)
              exact RetReq.mk hL.drop.drop ⟨rfl, congrArg Value.bool (hN).symm, _, rfl, isM_app hml3 (hself _ hN)⟩
            · conv => whnf
              repeat ((first | refine zT ?_ | refine zF ?_ | refine zL hX hL ?_ | refine zB hX hL ?_ | (refine zS hX hL ?_; clear hL; intro w hL) | refine zI ?_ | refine zG hX ?_ | refine zO ?_); conv => whnf)
              exact RetReq.mk hL.drop.drop ⟨rfl, congrArg Value.bool (hN).symm, _, rfl, isM_set hml3 (hself _ hN) q⟩
      · subst k3
        have hab := h1 (by omega)
        have ea : ((a.toNat : Nat) : Int) = a := by omega
        have eb : ((b.toNat : Nat) : Int) = b := by omega
        have iha := ih a.toNat (by omega) (by omega) ml hml
        rw [ea] at iha
        conv => whnf
        repeat ((first | refine zT ?_ | refine zF ?_ | refine zL hX hL ?_ | refine zB hX hL ?_ | (refine zS hX hL ?_; clear hL; intro w hL) | refine zI ?_ | refine zG hX ?_ | refine zO ?_); conv => whnf)
        refine CallReq.mk (L1 := (kb, mapW ml) :: La) (L2 := [_, _]) iha (Loc.back (L1 := [_, _]) hL) ?_
        clear hL
        rintro v m2 L1' w hL - ⟨rfl, rfl, ml2, rfl, hml2⟩
        have hL := Loc.back (L1 := (kb, mapW ml2) :: La) (L2 := [_, _]) hL
        have ihb := ih b.toNat (by omega) (by omega) ml2 hml2
        rw [eb] at ihb
        cases hva : nulN bits ns a.toNat with
        | false =>
          rw [hva, Bool.false_and] at hN
          conv => whnf
          repeat ((first | refine zT ?_ | refine zF ?_ | refine zL hX hL ?_ | refine zB hX hL ?_ | (refine zS hX hL ?_; clear hL; intro w hL) | refine zI ?_ | refine zG hX ?_ | refine zO ?_); conv => whnf)
          refine RunUReq.updW hX rfl rfl key_int (k := .int .i64 id) (v := .bool false) 2 hL rfl hidk (isM_keys hlen hml2) (fun _ w hL => ?_) (fun q u hq w hL => ?_)
          · conv => whnf
            repeat ((first | refine zT ?_ | refine zF ?_ | refine zL hX hL ?_ | refine zB hX hL ?_ | (refine zS hX hL ?_; clear hL; intro w hL) | refine zI ?_ | refine zG hX ?_ | refine zO ?_); conv => whnf)
            exact RetReq.mk hL.drop.drop ⟨rfl, congrArg Value.bool (hN).symm, _, rfl, isM_app hml2 (hself _ hN)⟩
          · conv => whnf
            repeat ((first | refine zT ?_ | refine zF ?_ | refine zL hX hL ?_ | refine zB hX hL ?_ | (refine zS hX hL ?_; clear hL; intro w hL) | refine zI ?_ | refine zG hX ?_ | refine zO ?_); conv => whnf)
            exact RetReq.mk hL.drop.drop ⟨rfl, congrArg Value.bool (hN).symm, _, rfl, isM_set hml2 (hself _ hN) q⟩
        | true =>
          rw [hva, Bool.true_and] at hN
          conv => whnf
          repeat ((first | refine zT ?_ | refine zF ?_ | refine zL hX hL ?_ | refine zB hX hL ?_ | (refine zS hX hL ?_; clear hL; intro w hL) | refine zI ?_ | refine zG hX ?_ | refine zO ?_); conv => whnf)
          refine CallReq.mk (L1 := (kb, mapW ml2) :: La) (L2 := [_, _]) ihb (Loc.back (L1 := [_, _]) hL) ?_
          clear hL
          rintro v m2 L1' w hL - ⟨rfl, rfl, ml22, rfl, hml3⟩
          have hL := Loc.back (L1 := (kb, mapW ml22) :: La) (L2 := [_, _]) hL
          cases hvb : nulN bits ns b.toNat with
          | false =>
            rw [hvb] at hN
            conv => whnf
            repeat ((first | refine zT ?_ | refine zF ?_ | refine zL hX hL ?_ | refine zB hX hL ?_ | (refine zS hX hL ?_; clear hL; intro w hL) | refine zI ?_ | refine zG hX ?_ | refine zO ?_); conv => whnf)
            refine RunUReq.updW hX rfl rfl key_int (k := .int .i64 id) (v := .bool false) 2 hL rfl hidk (isM_keys hlen hml3) (fun _ w hL => ?_) (fun q u hq w hL => ?_)
            · conv => whnf
              repeat ((first | refine zT ?_ | refine zF ?_ | refine zL hX hL ?_ | refine zB hX hL ?_ | (refine zS hX hL ?_; clear hL; intro w hL) | refine zI ?_ | refine zG hX ?_ | refine zO ?_); conv => whnf)
              exact RetReq.mk hL.drop.drop ⟨rfl, congrArg Value.bool (hN).symm, _, rfl, isM_app hml3 (hself _ hN)⟩
            · conv => whnf
              repeat ((first | refine zT ?_ | refine zF ?_ | refine zL hX hL ?_ | refine zB hX hL ?_ | (refine zS hX hL ?_; clear hL; intro w hL) | refine zI ?_ | refine zG hX ?_ | refine zO ?_); conv => whnf)
              exact RetReq.mk hL.drop.drop ⟨rfl, congrArg Value.bool (hN).symm, _, rfl, isM_set hml3 (hself _ hN) q⟩
          | true =>
            rw [hvb] at hN
            conv => whnf
            repeat ((first | refine zT ?_ | refine zF ?_ | refine zL hX hL ?_ | refine zB hX hL ?_ | (refine zS hX hL ?_; clear hL; intro w hL) | refine zI ?_ | refine zG hX ?_ | refine zO ?_); conv => whnf)
            refine RunUReq.updW hX rfl rfl key_int (k := .int .i64 id) (v := .bool true) 2 hL rfl hidk (isM_keys hlen hml3) (fun _ w hL => ?_) (fun q u hq w hL => ?_)
            · conv => whnf
              repeat ((first | refine zT ?_ | refine zF ?_ | refine zL hX hL ?_ | refine zB hX hL ?_ | (refine zS hX hL ?_; clear hL; intro w hL) | refine zI ?_ | refine zG hX ?_ | refine zO ?_); conv => whnf)
              exact RetReq.mk hL.drop.drop ⟨rfl, congrArg Value.bool (hN).symm, _, rfl, isM_app hml3 (hself _ hN)⟩
            · conv => whnf
              repeat ((first | refine zT ?_ | refine zF ?_ | refine zL hX hL ?_ | refine zB hX hL ?_ | (refine zS hX hL ?_; clear hL; intro w hL) | refine zI ?_ | refine zG hX ?_ | refine zO ?_); conv => whnf)
              exact RetReq.mk hL.drop.drop ⟨rfl, congrArg Value.bool (hN).symm, _, rfl, isM_set hml3 (hself _ hN) q⟩
    rw [if_neg k3] at hN
    by_cases k4 : k = 4
    · rw [if_pos k4] at hN
      subst k4
      have hab := h1 (by omega)
      have ea : ((a.toNat : Nat) : Int) = a := by omega
      have eb : ((b.toNat : Nat) : Int) = b := by omega
      have iha := ih a.toNat (by omega) (by omega) ml hml
      rw [ea] at iha
      conv => whnf
      repeat ((first | refine zT ?_ | refine zF ?_ | refine zL hX hL ?_ | refine zB hX hL ?_ | (refine zS hX hL ?_; clear hL; intro w hL) | refine zI ?_ | refine zG hX ?_ | refine zO ?_); conv => whnf)
      refine CallReq.mk (L1 := (kb, mapW ml) :: La) (L2 := [_, _]) iha (Loc.back (L1 := [_, _]) hL) ?_
      clear hL
      rintro v m2 L1' w hL - ⟨rfl, rfl, ml2, rfl, hml2⟩
      have hL := Loc.back (L1 := (kb, mapW ml2) :: La) (L2 := [_, _]) hL
      have ihb := ih b.toNat (by omega) (by omega) ml2 hml2
      rw [eb] at ihb
      cases hva : nulN bits ns a.toNat with
      | true =>
        rw [hva, Bool.true_or] at hN
        conv => whnf
        repeat ((first | refine zT ?_ | refine zF ?_ | refine zL hX hL ?_ | refine zB hX hL ?_ | (refine zS hX hL ?_; clear hL; intro w hL) | refine zI ?_ | refine zG hX ?_ | refine zO ?_); conv => whnf)
        refine RunUReq.updW hX rfl rfl key_int (k := .int .i64 id) (v := .bool true) 2 hL rfl hidk (isM_keys hlen hml2) (fun _ w hL => ?_) (fun q u hq w hL => ?_)
        · conv => whnf
          repeat ((first | refine zT ?_ | refine zF ?_ | refine zL hX hL ?_ | refine zB hX hL ?_ | (refine zS hX hL ?_; clear hL; intro w hL) | refine zI ?_ | refine zG hX ?_ | refine zO ?_); conv => whnf)
          exact RetReq.mk hL.drop.drop ⟨rfl, congrArg Value.bool (hN).symm, _, rfl, isM_app hml2 (hself _ hN)⟩
        · conv => whnf
          repeat ((first | refine zT ?_ | refine zF ?_ | refine zL hX hL ?_ | refine zB hX hL ?_ | (refine zS hX hL ?_; clear hL; intro w hL) | refine zI ?_ | refine zG hX ?_ | refine zO ?_); conv => whnf)
          exact RetReq.mk hL.drop.drop ⟨rfl, congrArg Value.bool (hN).symm, _, rfl, isM_set hml2 (hself _ hN) q⟩
      | false =>
        rw [hva, Bool.false_or] at hN
        conv => whnf
        repeat ((first | refine zT ?_ | refine zF ?_ | refine zL hX hL ?_ | refine zB hX hL ?_ | (refine zS hX hL ?_; clear hL; intro w hL) | refine zI ?_ | refine zG hX ?_ | refine zO ?_); conv => whnf)
        refine CallReq.mk (L1 := (kb, mapW ml2) :: La) (L2 := [_, _]) ihb (Loc.back (L1 := [_, _]) hL) ?_
        clear hL
        rintro v m2 L1' w hL - ⟨rfl, rfl, ml22, rfl, hml3⟩
        have hL := Loc.back (L1 := (kb, mapW ml22) :: La) (L2 := [_, _]) hL
        cases hvb : nulN bits ns b.toNat with
        | false =>
          rw [hvb] at hN
          conv => whnf
          repeat ((first | refine zT ?_ | refine zF ?_ | refine zL hX hL ?_ | refine zB hX hL ?_ | (refine zS hX hL ?_; clear hL; intro w hL) | refine zI ?_ | refine zG hX ?_ | refine zO ?_); conv => whnf)
          refine RunUReq.updW hX rfl rfl key_int (k := .int .i64 id) (v := .bool false) 2 hL rfl hidk (isM_keys hlen hml3) (fun _ w hL => ?_) (fun q u hq w hL => ?_)
          · conv => whnf
            repeat ((first | refine zT ?_ | refine zF ?_ | refine zL hX hL ?_ | refine zB hX hL ?_ | (refine zS hX hL ?_; clear hL; intro w hL) | refine zI ?_ | refine zG hX ?_ | refine zO ?_); conv => whnf)
            exact RetReq.mk hL.drop.drop ⟨rfl, congrArg Value.bool (hN).symm, _, rfl, isM_app hml3 (hself _ hN)⟩
          · conv => whnf
            repeat ((first | refine zT ?_ | refine zF ?_ | refine zL hX hL ?_ | refine zB hX hL ?_ | (refine zS hX hL ?_; clear hL; intro w hL) | refine zI ?_ | refine zG hX ?_ | refine zO ?_); conv => whnf)
            exact RetReq.mk hL.drop.drop ⟨rfl, congrArg Value.bool (hN).symm, _, rfl, isM_set hml3 (hself _ hN) q⟩
        | true =>
          rw [hvb] at hN
          conv => whnf
          repeat ((first | refine zT ?_ | refine zF ?_ | refine zL hX hL ?_ | refine zB hX hL ?_ | (refine zS hX hL ?_; clear hL; intro w hL) | refine zI ?_ | refine zG hX ?_ | refine zO ?_); conv => whnf)
          refine RunUReq.updW hX rfl rfl key_int (k := .int .i64 id) (v := .bool true) 2 hL rfl hidk (isM_keys hlen hml3) (fun _ w hL => ?_) (fun q u hq w hL => ?_)
          · conv => whnf
            repeat ((first | refine zT ?_ | refine zF ?_ | refine zL hX hL ?_ | refine zB hX hL ?_ | (refine zS hX hL ?_; clear hL; intro w hL) | refine zI ?_ | refine zG hX ?_ | refine zO ?_); conv => whnf)
            exact RetReq.mk hL.drop.drop ⟨rfl, congrArg Value.bool (hN).symm, _, rfl, isM_app hml3 (hself _ hN)⟩
          · conv => whnf
            repeat ((first | refine zT ?_ | refine zF ?_ | refine zL hX hL ?_ | refine zB hX hL ?_ | (refine zS hX hL ?_; clear hL; intro w hL) | refine zI ?_ | refine zG hX ?_ | refine zO ?_); conv => whnf)
            exact RetReq.mk hL.drop.drop ⟨rfl, congrArg Value.bool (hN).symm, _, rfl, isM_set hml3 (hself _ hN) q⟩
    rw [if_neg k4] at hN
    by_cases k6 : k = 6
    · rw [if_pos k6] at hN
      subst k6
      have hab := h2 (by omega)
      have ea : ((a.toNat : Nat) : Int) = a := by omega
      have iha := ih a.toNat (by omega) (by omega) ml hml
      rw [ea] at iha
      conv => whnf
      repeat ((first | refine zT ?_ | refine zF ?_ | refine zL hX hL ?_ | refine zB hX hL ?_ | (refine zS hX hL ?_; clear hL; intro w hL) | refine zI ?_ | refine zG hX ?_ | refine zO ?_); conv => whnf)
      refine CallReq.mk (L1 := (kb, mapW ml) :: La) (L2 := [_, _]) iha (Loc.back (L1 := [_, _]) hL) ?_
      clear hL
      rintro v m2 L1' w hL - ⟨rfl, rfl, ml2, rfl, hml2⟩
      have hL := Loc.back (L1 := (kb, mapW ml2) :: La) (L2 := [_, _]) hL
      cases hva : nulN bits ns a.toNat with
      | true =>
        rw [hva] at hN
        conv => whnf
        repeat ((first | refine zT ?_ | refine zF ?_ | refine zL hX hL ?_ | refine zB hX hL ?_ | (refine zS hX hL ?_; clear hL; intro w hL) | refine zI ?_ | refine zG hX ?_ | refine zO ?_); conv => whnf)
        refine RunUReq.updW hX rfl rfl key_int (k := .int .i64 id) (v := .bool false) 2 hL rfl hidk (isM_keys hlen hml2) (fun _ w hL => ?_) (fun q u hq w hL => ?_)
        · conv => whnf
          repeat ((first | refine zT ?_ | refine zF ?_ | refine zL hX hL ?_ | refine zB hX hL ?_ | (refine zS hX hL ?_; clear hL; intro w hL) | refine zI ?_ | refine zG hX ?_ | refine zO ?_); conv => whnf)
          exact RetReq.mk hL.drop.drop ⟨rfl, congrArg Value.bool (hN).symm, _, rfl, isM_app hml2 (hself _ hN)⟩
        · conv => whnf
          repeat ((first | refine zT ?_ | refine zF ?_ | refine zL hX hL ?_ | refine zB hX hL ?_ | (refine zS hX hL ?_; clear hL; intro w hL) | refine zI ?_ | refine zG hX ?_ | refine zO ?_); conv => whnf)
          exact RetReq.mk hL.drop.drop ⟨rfl, congrArg Value.bool (hN).symm, _, rfl, isM_set hml2 (hself _ hN) q⟩
      | false =>
        rw [hva] at hN
        conv => whnf
        repeat ((first | refine zT ?_ | refine zF ?_ | refine zL hX hL ?_ | refine zB hX hL ?_ | (refine zS hX hL ?_; clear hL; intro w hL) | refine zI ?_ | refine zG hX ?_ | refine zO ?_); conv => whnf)
        refine RunUReq.updW hX rfl rfl key_int (k := .int .i64 id) (v := .bool true) 2 hL rfl hidk (isM_keys hlen hml2) (fun _ w hL => ?_) (fun q u hq w hL => ?_)
        · conv => whnf
          repeat ((first | refine zT ?_ | refine zF ?_ | refine zL hX hL ?_ | refine zB hX hL ?_ | (refine zS hX hL ?_; clear hL; intro w hL) | refine zI ?_ | refine zG hX ?_ | refine zO ?_); conv => whnf)
          exact RetReq.mk hL.drop.drop ⟨rfl, congrArg Value.bool (hN).symm, _, rfl, isM_app hml2 (hself _ hN)⟩
        · conv => whnf
          repeat ((first | refine zT ?_ | refine zF ?_ | refine zL hX hL ?_ | refine zB hX hL ?_ | (refine zS hX hL ?_; clear hL; intro w hL) | refine zI ?_ | refine zG hX ?_ | refine zO ?_); conv => whnf)
          exact RetReq.mk hL.drop.drop ⟨rfl, congrArg Value.bool (hN).symm, _, rfl, isM_set hml2 (hself _ hN) q⟩
    rw [if_neg k6] at hN
    by_cases k8 : k = 8
    · rw [if_pos k8] at hN
      subst k8
      have hab := h3 rfl
      obtain ⟨q, rfl⟩ : ∃ q : Nat, a = q := ⟨a.toNat, by omega⟩
      have hbq : bits / 2 ^ q ≤ bits := Nat.div_le_self _ _
      conv => whnf
      repeat ((first | refine zT ?_ | refine zF ?_ | refine zL hX hL ?_ | refine zB hX hL ?_ | (refine zS hX hL ?_; clear hL; intro w hL) | refine zI ?_ | refine zG hX ?_ | refine zO ?_); conv => whnf)
      refine DrawReq.plan hX (.fst 0 (.fst 1 (.fst 2 (.fst 3 (.fst 4 (.fst 5 (.fst 6 (.fst 7 (.fst 8 (.fst 9 (.fst 10 (.done)))))))))))) [(b7, .cells (toArr (ndC ⟨8, s0, s1, s2, s3, q, b, neg⟩)) 66 (0, 0)), (b2, .cells (toArr (teO ab kb bits)) 73 (0, 0))] (by kernel_rfl) (by kernel_rfl) hL (fun h => h.sublist (.cons_cons _ (.cons_cons _ (List.nil_sublist _)))) ?_
      clear hL
      intro w hL
      have hsh : (bits : Int).fdiv (2 ^ (min (Int.toNat ((q : Nat) : Int)) (IntKind.bits .u8))) = ((bits / 2 ^ q : Nat) : Int) := by
        rw [Int.toNat_natCast, show min q (IntKind.bits .u8) = q from by show min q 8 = q; omega, Int.fdiv_eq_ediv_of_nonneg _ (Int.le_of_lt (Int.pow_pos (by decide)))]
        norm_cast
      conv => whnf
      repeat ((first | (refine ShrReq.mk (n := ((bits / 2 ^ q : Nat) : Int)) (by simp only; omega) hsh ?_) | refine BitReq.mk (and1_u8 (by omega)) ?_ | refine zQ hX ?_ | refine zR hX ?_ | refine zA ?_ | refine zT ?_ | refine zF ?_ | refine zL hX hL ?_ | refine zB hX hL ?_ | (refine zS hX hL ?_; clear hL; intro w hL) | refine zI ?_ | refine zG hX ?_ | refine zO ?_); conv => whnf)
      have hN2 : nulN bits ns id = (!(decide (((bits / 2 ^ q % 2 : Nat) : Int) = 1) == neg)) := by
        rw [hN, Int.toNat_natCast]
        have : decide (((bits / 2 ^ q % 2 : Nat) : Int) = 1) = decide (bits / 2 ^ q % 2 = 1) := decide_eq_decide.2 (by omega)
        rw [this]; rfl
      refine RunUReq.updW hX rfl rfl key_int (k := .int .i64 id) (v := .bool (!(decide (((bits / 2 ^ q % 2 : Nat) : Int) = 1) == neg))) 2 hL rfl hidk (isM_keys hlen hml) (fun _ w hL => ?_) (fun q u hq w hL => ?_)
      · conv => whnf
        repeat ((first | refine zT ?_ | refine zF ?_ | refine zL hX hL ?_ | refine zB hX hL ?_ | (refine zS hX hL ?_; clear hL; intro w hL) | refine zI ?_ | refine zG hX ?_ | refine zO ?_); conv => whnf)
        exact RetReq.mk hL.drop.drop ⟨rfl, congrArg Value.bool (hN2).symm, _, rfl, isM_app hml (hself _ hN2)⟩
      · conv => whnf
        repeat ((first | refine zT ?_ | refine zF ?_ | refine zL hX hL ?_ | refine zB hX hL ?_ | (refine zS hX hL ?_; clear hL; intro w hL) | refine zI ?_ | refine zG hX ?_ | refine zO ?_); conv => whnf)
        exact RetReq.mk hL.drop.drop ⟨rfl, congrArg Value.bool (hN2).symm, _, rfl, isM_set hml (hself _ hN2) q⟩
    rw [if_neg k8] at hN
    have k02 : k = 0 ∨ k = 2 := by omega
    rcases k02 with rfl | rfl
    · conv => whnf
      repeat ((first | refine zT ?_ | refine zF ?_ | refine zL hX hL ?_ | refine zB hX hL ?_ | (refine zS hX hL ?_; clear hL; intro w hL) | refine zI ?_ | refine zG hX ?_ | refine zO ?_); conv => whnf)
      refine RunUReq.updW hX rfl rfl key_int (k := .int .i64 id) (v := .bool false) 2 hL rfl hidk (isM_keys hlen hml) (fun _ w hL => ?_) (fun q u hq w hL => ?_)
      · conv => whnf
        repeat ((first | refine zT ?_ | refine zF ?_ | refine zL hX hL ?_ | refine zB hX hL ?_ | (refine zS hX hL ?_; clear hL; intro w hL) | refine zI ?_ | refine zG hX ?_ | refine zO ?_); conv => whnf)
        exact RetReq.mk hL.drop.drop ⟨rfl, congrArg Value.bool (hN).symm, _, rfl, isM_app hml (hself _ hN)⟩
      · conv => whnf
        repeat ((first | refine zT ?_ | refine zF ?_ | refine zL hX hL ?_ | refine zB hX hL ?_ | (refine zS hX hL ?_; clear hL; intro w hL) | refine zI ?_ | refine zG hX ?_ | refine zO ?_); conv => whnf)
        exact RetReq.mk hL.drop.drop ⟨rfl, congrArg Value.bool (hN).symm, _, rfl, isM_set hml (hself _ hN) q⟩
    · conv => whnf
      repeat ((first | refine zT ?_ | refine zF ?_ | refine zL hX hL ?_ | refine zB hX hL ?_ | (refine zS hX hL ?_; clear hL; intro w hL) | refine zI ?_ | refine zG hX ?_ | refine zO ?_); conv => whnf)
      refine RunUReq.updW hX rfl rfl key_int (k := .int .i64 id) (v := .bool false) 2 hL rfl hidk (isM_keys hlen hml) (fun _ w hL => ?_) (fun q u hq w hL => ?_)
      · conv => whnf
        repeat ((first | refine zT ?_ | refine zF ?_ | refine zL hX hL ?_ | refine zB hX hL ?_ | (refine zS hX hL ?_; clear hL; intro w hL) | refine zI ?_ | refine zG hX ?_ | refine zO ?_); conv => whnf)
        exact RetReq.mk hL.drop.drop ⟨rfl, congrArg Value.bool (hN).symm, _, rfl, isM_app hml (hself _ hN)⟩
      · conv => whnf
        repeat ((first | refine zT ?_ | refine zF ?_ | refine zL hX hL ?_ | refine zB hX hL ?_ | (refine zS hX hL ?_; clear hL; intro w hL) | refine zI ?_ | refine zG hX ?_ | refine zO ?_); conv => whnf)
        exact RetReq.mk hL.drop.drop ⟨rfl, congrArg Value.bool (hN).symm, _, rfl, isM_set hml (hself _ hN) q⟩

theorem Null_fn (m : Mem) (ab bits : Nat) (ns : List Nd) (L : Own) (hA : Ar ab ns L) (hO : OkA ns) (hbits : bits < 256) (id : Int) :
    FnM Try.prog 10 [.pointer (some ⟨ab, 0, none⟩), .int .i64 id, .int .u8 bits] m L (.bool (if 0 ≤ id ∧ id < ns.length then nulN bits ns id.toNat else false)) := by
  refine Fn.enter (N := 19) hX Try.func10 rfl rfl (by show _ ≤ _; simp) (fun w0 hL => ?_)
  conv => whnf
  generalize keys L = S0 at hL ⊢
  conv => whnf
  repeat ((first | refine zT ?_ | refine zF ?_ | refine zL hX hL ?_ | refine zB hX hL ?_ | (refine zS hX hL ?_; clear hL; intro w hL) | refine zI ?_ | refine zG hX ?_ | refine zO ?_); conv => whnf)
  refine NewReq.mk hL ?_
  clear hL
  intro g w hL
  conv => whnf
  replace hL : Ev.Loc m S0 w0 m ([(g, .cells (toArr (ints .i64 [id])) 3 (0, 0))] ++ L) w := hL
  obtain ⟨m1, hL1, hm1, hs⟩ := OwnS.freeze (te := 3) (k := .i64) (l := [id]) (OwnS.full (n := 1) (by decide) rfl) hL
  clear hL
  have hL := hL1
  clear hL1
  conv => whnf
  repeat ((first | refine zT ?_ | refine zF ?_ | refine zL hX hL ?_ | refine zB hX hL ?_ | (refine zS hX hL ?_; clear hL; intro w hL) | refine zI ?_ | refine zG hX ?_ | refine zO ?_); conv => whnf)
  refine CallReq.lo (there2_fn m1 ab ns L hA _ [id] hs) hL ?_
  clear hL
  intro w hL
  by_cases hid : 0 ≤ id ∧ id < ns.length
  · rw [if_pos hid, show ([id].all fun id => decide (0 ≤ id ∧ id < ns.length)) = true by simp [hid]]
    obtain ⟨i, rfl⟩ : ∃ i : Nat, id = i := ⟨id.toNat, by omega⟩
    conv => whnf
    repeat ((first | refine zT ?_ | refine zF ?_ | refine zL hX hL ?_ | refine zB hX hL ?_ | (refine zS hX hL ?_; clear hL; intro w hL) | refine zI ?_ | refine zG hX ?_ | refine zO ?_); conv => whnf)
    refine RunReq.makeMapW hL ?_
    clear hL
    intro kb w hL
    conv => whnf
    repeat ((first | refine zT ?_ | refine zF ?_ | refine zL hX hL ?_ | refine zB hX hL ?_ | (refine zS hX hL ?_; clear hL; intro w hL) | refine zI ?_ | refine zG hX ?_ | refine zO ?_); conv => whnf)
    have hn := null_fn m1 ab kb bits ns L hA hO hbits i (by omega) [] (by simp)
    refine CallReq.mk (L1 := (kb, mapW []) :: L) (L2 := []) hn (by rw [List.append_nil]; exact hL) ?_
    clear hL
    rintro v m2 L1' w hL - ⟨rfl, rfl, ml, rfl, -⟩
    rw [List.append_nil] at hL
    conv => whnf
    repeat ((first | refine zT ?_ | refine zF ?_ | refine zL hX hL ?_ | refine zB hX hL ?_ | (refine zS hX hL ?_; clear hL; intro w hL) | refine zI ?_ | refine zG hX ?_ | refine zO ?_); conv => whnf)
    exact RetReq.mk hL.drop ⟨rfl, rfl⟩
  · rw [if_neg hid, show ([id].all fun id => decide (0 ≤ id ∧ id < ns.length)) = false by simp; omega]
    conv => whnf
    repeat ((first | refine zT ?_ | refine zF ?_ | refine zL hX hL ?_ | refine zB hX hL ?_ | (refine zS hX hL ?_; clear hL; intro w hL) | refine zI ?_ | refine zG hX ?_ | refine zO ?_); conv => whnf)
    exact RetReq.mk hL ⟨rfl, rfl⟩
end Go.Proofs.Ytblpobeokfkggaa.ar
