/- LazyKeeps, proved: a lazy machine keeps no more than it may, makes nothing twice that it keeps, and forgets all at a flush. Conditions: none beyond the row its own.: part 5 of 13 of the proof. Conditions: none. -/
import Derived.Test.YtaooenndoopgdaaGreatDoorK4
import Derived.Test.YtaooenndoopgdaaGreatDoorK3
import Derived.Test.YtaooenndoopgdaaGreatDoorK1
import Derived.Shelf.Small.Bits
import Derived.Shelf.Strconv.Itoa0
import Derived.Shelf.Strconv.Itoa1
import Derived.Shelf.LaysM
import Derived.Shelf.Strconv.Itoa2
import Derived.Shelf.Strconv.Itoa3
import Derived.Shelf.Sort.Plain
import Derived.Shelf.Bits.Mul64
import Derived.Ground.Names2Prog
import Derived.Shelf.Slices.CompactI
import Derived.Shelf.Slices.Cells
import Derived.Shelf.Slices.In.SortNone
import Derived.Ground.SlsfProg
import Derived.Shelf.SlSortCmp.Insertion
import Derived.Shelf.SlSortCmp.SiftDown1
import Derived.Shelf.SlSortCmp.HeapSort1
import Derived.Shelf.SlSortCmp.Insertion1
import Derived.Shelf.SlSortCmp.Median1
import Derived.Shelf.SlSortCmp.Pivot1
import Derived.Shelf.SlSortCmp.ReverseRange1
import Derived.Shelf.SlSortCmp.PartialInsertion1
import Derived.Shelf.SlSortCmp.PartitionEqual1
import Derived.Shelf.SlSortCmp.Partition1
import Derived.Shelf.SlSortCmp.Pdq1
import Derived.Shelf.SlSortCmp.NoneTotal
import Derived.Test.YtaooenndoopgdaaGreatDoorProg
namespace Go.Proofs.YtaooenndoopgdaaGreatDoor.ar
open Go Go.Ev Go.Proofs
open Go.Maps (Keyed)
def nulV (bits : Nat) (x : Nd) (f : Nat → Bool) : Bool :=
 if x.k = 1 ∨ x.k = 7 then true else if x.k = 3 ∨ x.k = 5 then f x.a.toNat && f x.b.toNat else if x.k = 4 then f x.a.toNat || f x.b.toNat else if x.k = 6 then !f x.a.toNat
 else if x.k = 8 then decide (bits / 2 ^ x.a.toNat % 2 = 1) != x.neg else false
def nulF (bits : Nat) (ns : List Nd) : Nat → Nat → Bool
 | 0, _ => false
 | k + 1, i => match ns[i]? with | none => false | some x => nulV bits x (nulF bits ns k)
def nulN (bits : Nat) (ns : List Nd) (i : Nat) : Bool := nulF bits ns (i + 1) i
theorem right_lt {x : Nd} {n : Nat} (h : rightN x n = true) : (x.k = 3 ∨ x.k = 4 ∨ x.k = 5 → (0 ≤ x.a ∧ x.a < n) ∧ (0 ≤ x.b ∧ x.b < n)) ∧ (x.k = 6 ∨ x.k = 7 → 0 ≤ x.a ∧ x.a < n) ∧ (x.k = 8 → 0 ≤ x.a ∧ x.a < 4) ∧ 0 ≤ x.k ∧ x.k ≤ 8 := by
 unfold rightN at h
 split at h
 ·omega
 split at h
 ·omega
 split at h
 ·simp only [Bool.and_eq_true, decide_eq_true_eq] at h; omega
 split at h
 ·simp only [Bool.and_eq_true, decide_eq_true_eq] at h; omega
 split at h
 ·simp only [Bool.and_eq_true, decide_eq_true_eq] at h; omega
 ·cases h
theorem nulV_ext {bits : Nat} {x : Nd} {n : Nat} (h : rightN x n = true) {f g : Nat → Bool} (e : ∀ j, j < n → f j = g j) : nulV bits x f = nulV bits x g := by
 obtain ⟨h1, h2, h3, h4⟩ := right_lt h
 unfold nulV
 split
 ·rfl
 split
 ·rw [e _ (by omega), e _ (by omega)]
 split
 ·rw [e _ (by omega), e _ (by omega)]
 split
 ·rw [e _ (by omega)]
 ·rfl
theorem nulF_eq (bits : Nat) {ns : List Nd} (hO : ∀ (i : Nat) (x : Nd), ns[i]? = some x → rightN x i = true) : ∀ (k k' i : Nat), i < k → i < k' → nulF bits ns k i = nulF bits ns k' i := by
 intro k
 induction k with
 | zero => intro k' i h; omega
 | succ k ih =>
   intro k' i h h'
   cases k' with
   | zero => omega
   | succ k' =>
     simp only [nulF]
     cases hx : ns[i]? with
     | none => rfl
     | some x => exact nulV_ext (hO i x hx) fun j hj => ih k' j (by omega) (by omega)
theorem nulN_eq (bits : Nat) {ns : List Nd} (hO : ∀ (i : Nat) (x : Nd), ns[i]? = some x → rightN x i = true) {i : Nat} {x : Nd} (hx : ns[i]? = some x) : nulN bits ns i = nulV bits x (nulN bits ns) := by
 unfold nulN
 rw [nulF, hx]
 exact nulV_ext (hO i x hx) fun j hj => nulF_eq bits hO i (j + 1) j hj (by omega)
theorem there2_fn (m : Mem) (ab : Nat) (ns : List Nd) (L : Own) (h : Ar ab ns L) (v : Value) (l : List Int) (hl : SlI m .i64 v l) :
  FnL Tryz.prog 132 [.pointer (some ⟨ab, 0, none⟩), v] m L (.bool (l.all fun id => decide (0 ≤ id ∧ id < ns.length))) := by
 have hl2 := hl
 obtain ⟨A, n, c, rfl, hn, hc, hm, -⟩ := hl
 have hmx : maxLen = 9223372036854775807 := rfl
 have hcell := hl2.cell.2
 refine Fn.enter (N := 26) hX Tryz.func132 rfl rfl (by show _ ≤ _; simp) (fun w0 hL => ?_)
 conv => whnf
 generalize keys L = S0 at hL ⊢
 refine go ?_;try(clear hL;intro w hL)
 refine LoopReq.inv hX (fun j : Nat => [(11, .int .i64 j)]) [0, 9, 10]
  (fun j w => (j ≤ n ∧ ∀ i (z : Int), i < j → l[i]? = some z → 0 ≤ z ∧ z < ns.length) ∧ Ev.Loc m S0 w0 m L w) (fun j => n - j) 0
  ⟨⟨by omega, fun i z hi => absurd hi (by omega)⟩, hL⟩ ⟨rfl, trivial⟩ ?_
 clear hL
 rintro j w f ⟨⟨hj, hdone⟩, hL⟩
 refine go ?_;try(clear hL;intro w hL)
 refine BrReq.dec (fun hlt => ?_) (fun hlt => ?_)
 ·have hlt' : j < l.length := by omega
  obtain ⟨a, ea, hc⟩ := hcell j _ (List.getElem?_eq_getElem hlt')
  conv => whnf
  repeat ((first | refine Idx2Req.mk j a rfl (by omega) ea ?_ | refine LdReq.one hX rfl rfl hL hc ?_ | (refine go1 ?_;try(clear hL;intro w hL))); conv => whnf)
  have hnode := Node_fn m ab ns L h l[j]
  have e2 : (nodeN ns l[j]).2 = decide (0 ≤ l[j] ∧ l[j] < ns.length) := by unfold nodeN; split <;> rename_i hh <;> simp [hh]
  rw [e2] at hnode
  generalize (nodeN ns l[j]).1 = nx at hnode
  refine CallReq.lo hnode hL ?_
  clear hL
  intro w hL
  refine go ?_;try(clear hL;intro w hL)
  refine NewReq.mk hL ?_
  clear hL
  intro b7 w hL
  conv => whnf
  by_cases hz : 0 ≤ l[j] ∧ l[j] < ns.length
  ·rw [decide_eq_true hz]
   have hd2 : ∀ i (z : Int), i < j + 1 → l[i]? = some z → 0 ≤ z ∧ z < ns.length := fun i z hi hx => by
    by_cases h1 : i = j
    ·subst h1; rw [List.getElem?_eq_getElem hlt'] at hx; cases hx; exact hz
    ·exact hdone i z (by omega) hx
   refine go ?_;try(clear hL;intro w hL)
   exact rnd (j + 1) ⟨⟨by omega, hd2⟩, hL.drop⟩
  ·rw [decide_eq_false hz]
   refine go ?_;try(clear hL;intro w hL)
   refine RetReq.mk hL.drop ⟨rfl, rfl, congrArg Value.bool (Eq.symm ?_)⟩
   rw [Bool.eq_false_iff]
   intro hh
   rw [List.all_eq_true] at hh
   exact hz (of_decide_eq_true (hh _ (List.getElem_mem hlt')))
 ·conv => whnf
  repeat ((first | refine UGenReq.nilPtrNe hX rfl rfl rfl rfl rfl ?_ | (refine go1 ?_;try(clear hL;intro w hL))); conv => whnf)
  refine RetReq.mk hL ⟨rfl, rfl, congrArg Value.bool (Eq.symm ?_)⟩
  show _ = true
  rw [List.all_eq_true]
  intro z hz
  obtain ⟨i, hi, rfl⟩ := List.getElem_of_mem hz
  exact decide_eq_true (hdone i _ (by omega) (List.getElem?_eq_getElem hi))
def isM (bits : Nat) (ns : List Nd) (y : Value × Value) : Prop := ∃ i : Nat, i < ns.length ∧ y = (.int .i64 i, .bool (nulN bits ns i))
def teO (ab kb bits : Nat) : List Value := [.pointer (some ⟨ab, 0, none⟩), .int .u8 bits, .map (some kb)]
theorem i64_nat {n : Nat} (h : n ≤ 20000) : i64 (n : Int) := by unfold i64; omega
theorem isM_keys {bits : Nat} {ns : List Nd} (hn : ns.length ≤ 20000) {ml : List (Value × Value)} (h : ∀ y ∈ ml, isM bits ns y) : ∀ y ∈ ml, IsK Tryz.prog 3 y.1 := by
 intro y hy
 obtain ⟨i, hi, rfl⟩ := h y hy
 exact isK_int _ (i64_nat (by omega))
theorem isM_app {bits : Nat} {ns : List Nd} {ml : List (Value × Value)} (h : ∀ y ∈ ml, isM bits ns y) {y : Value × Value} (hy : isM bits ns y) : ∀ z ∈ ml ++ [y], isM bits ns z := by
 intro z hz
 rcases List.mem_append.1 hz with hz | hz
 ·exact h z hz
 ·rw [List.mem_singleton.1 hz]; exact hy
theorem isM_set {bits : Nat} {ns : List Nd} {ml : List (Value × Value)} (h : ∀ y ∈ ml, isM bits ns y) {y : Value × Value} (hy : isM bits ns y) (q : Nat) : ∀ z ∈ ml.set q y, isM bits ns z := by
 intro z hz
 rcases List.mem_or_eq_of_mem_set hz with hz | rfl
 ·exact h z hz
 ·exact hy
theorem and1_u8 {a : Nat} (ha : a < 256) : bitsOf .and .u8 (a : Int) 1 = ((a % 2 : Nat) : Int) := by
 have h1 : ∀ b, BitVec.ofInt 8 ((b : Nat) : Int) = BitVec.ofNat 8 b := fun b => by
  apply BitVec.eq_of_toNat_eq
  rw [BitVec.toNat_ofInt, BitVec.toNat_ofNat]
  omega
 have h : (BitVec.ofInt 8 (a : Int) &&& BitVec.ofInt 8 ((1 : Nat) : Int)).toNat = a % 2 := by
  rw [h1, h1, BitVec.toNat_and, BitVec.toNat_ofNat, BitVec.toNat_ofNat, Nat.mod_eq_of_lt (by omega), Nat.mod_eq_of_lt (by omega), Nat.and_one_is_mod]
 show IntKind.wrap .u8 ((BitVec.ofInt 8 (a : Int) &&& BitVec.ofInt 8 ((1 : Nat) : Int)).toNat : Int) = _
 rw [h]
 exact wrap_keep _ (by show (0 : Int) ≤ _; omega) (by show _ ≤ (255 : Int); omega)
set_option maxHeartbeats 2000000 in
theorem null_fn (m : Mem) (ab kb bits : Nat) (ns : List Nd) (La : Own) (hA : Ar ab ns La) (hO : OkA ns) (hbits : bits < 256) : ∀ (id : Nat), id < ns.length → ∀ ml, (∀ y ∈ ml, isM bits ns y) →
  Ev.Fn Tryz.prog 133 [.agg (toArr (teO ab kb bits)), .int .i64 id] m ((kb, mapW ml) :: La) fun m' L' u => m' = m ∧ u = .bool (nulN bits ns id) ∧ ∃ ml', L' = (kb, mapW ml') :: La ∧ ∀ y ∈ ml', isM bits ns y := by
 intro id
 induction id using Nat.strongRecOn with
 | ind id ih =>
 intro hid ml hml
 have hlen := hO.len
 have hkeys := isM_keys hlen hml
 have hidk : IsK Tryz.prog 3 (.int .i64 id) := isK_int _ (i64_nat (by omega))
 have hx := List.getElem?_eq_getElem hid
 have hN := nulN_eq bits hO.right hx
 have hR := hO.right id _ hx
 have hnode := Node_fn m ab ns La hA id
 have hnd : nodeN ns id = (ns[id], true) := by
  unfold nodeN; rw [if_pos ⟨by omega, by omega⟩]; simp [List.getD, hx]
 rw [hnd] at hnode
 generalize ns[id] = x at hx hN hR hnode
 obtain ⟨h1, h2, h3, h4⟩ := right_lt hR
 refine Fn.enter (N := 80) hX Tryz.func133 rfl rfl (by show _ ≤ _; simp) (fun w0 hL => ?_)
 conv => whnf
 generalize keys ((kb, mapW ml) :: La) = S0 at hL ⊢
 refine NewReq.mk hL ?_
 clear hL
 intro b2 w hL
 conv => whnf
 replace hL : Ev.Loc m S0 w0 m ([(b2, .cells (toArr (teO ab kb bits)) 222 (0, 0)), (kb, mapW ml)] ++ La) w := hL
 refine go ?_;try(clear hL;intro w hL)
 refine RunReq.lookW hX rfl rfl key_int (z := .bool false) (by kernel_rfl) hL (.t .h) hidk hkeys (fun hno => ?_) (fun v hv => ?_)
 rotate_left
 ·obtain ⟨i, -, e⟩ := hml _ hv
  injection e with e1 e2
  injection e1 with e1 e3
  obtain rfl : id = i := by omega
  subst e2
  refine go ?_;try(clear hL;intro w hL)
  exact RetReq.mk hL.drop ⟨rfl, rfl, ml, rfl, hml⟩
 ·clear hno
  refine go ?_;try(clear hL;intro w hL)
  refine CallReq.li (L1 := La) hnode (Loc.back (L1 := [_, _]) hL) ?_
  clear hL
  intro w hL
  have hL := Loc.back (L1 := La) (L2 := [_, _]) hL
  refine go ?_;try(clear hL;intro w hL)
  refine NewReq.mk hL ?_
  clear hL
  intro b7 w hL
  conv => whnf
  replace hL : Ev.Loc m S0 w0 m ((b7, .cells (toArr (ndC nd0)) 146 (0, 0)) :: (b2, .cells (toArr (teO ab kb bits)) 222 (0, 0)) :: (kb, mapW ml) :: La) w := hL
  obtain ⟨k, s0, s1, s2, s3, a, b, neg⟩ := x
  simp only at h1 h2 h3 h4
  have hself : ∀ v, nulN bits ns id = v → isM bits ns (.int .i64 id, .bool v) := fun v e => ⟨id, hid, by rw [e]⟩
  unfold nulV at hN
  simp only at hN
  by_cases k1 : k = 1 ∨ k = 7
  ·rw [if_pos k1] at hN
   rcases k1 with rfl | rfl
   ·refine go ?_;try(clear hL;intro w hL)
    refine RunUReq.updW hX rfl rfl key_int (k := .int .i64 id) (v := .bool true) 2 hL rfl hidk (isM_keys hlen hml) (fun _ w hL => ?_) (fun q u hq w hL => ?_)
    ·refine go ?_;try(clear hL;intro w hL)
     exact RetReq.mk hL.drop.drop ⟨rfl, congrArg Value.bool (hN).symm, _, rfl, isM_app hml (hself _ hN)⟩
    ·refine go ?_;try(clear hL;intro w hL)
     exact RetReq.mk hL.drop.drop ⟨rfl, congrArg Value.bool (hN).symm, _, rfl, isM_set hml (hself _ hN) q⟩
   ·refine go ?_;try(clear hL;intro w hL)
    refine RunUReq.updW hX rfl rfl key_int (k := .int .i64 id) (v := .bool true) 2 hL rfl hidk (isM_keys hlen hml) (fun _ w hL => ?_) (fun q u hq w hL => ?_)
    ·refine go ?_;try(clear hL;intro w hL)
     exact RetReq.mk hL.drop.drop ⟨rfl, congrArg Value.bool (hN).symm, _, rfl, isM_app hml (hself _ hN)⟩
    ·refine go ?_;try(clear hL;intro w hL)
     exact RetReq.mk hL.drop.drop ⟨rfl, congrArg Value.bool (hN).symm, _, rfl, isM_set hml (hself _ hN) q⟩
  rw [if_neg k1] at hN
  by_cases k3 : k = 3 ∨ k = 5
  ·rw [if_pos k3] at hN
   rcases k3 with k3 | k3
   ·subst k3
    have hab := h1 (by omega)
    have ea : ((a.toNat : Nat) : Int) = a := by omega
    have eb : ((b.toNat : Nat) : Int) = b := by omega
    have iha := ih a.toNat (by omega) (by omega) ml hml
    rw [ea] at iha
    refine go ?_;try(clear hL;intro w hL)
    refine CallReq.mk (L1 := (kb, mapW ml) :: La) (L2 := [_, _]) iha (Loc.back (L1 := [_, _]) hL) ?_
    clear hL
    rintro v m2 L1' w hL - ⟨rfl, rfl, ml2, rfl, hml2⟩
    have hL := Loc.back (L1 := (kb, mapW ml2) :: La) (L2 := [_, _]) hL
    have ihb := ih b.toNat (by omega) (by omega) ml2 hml2
    rw [eb] at ihb
    cases hva : nulN bits ns a.toNat with
    | false =>
      rw [hva, Bool.false_and] at hN
      refine go ?_;try(clear hL;intro w hL)
      refine RunUReq.updW hX rfl rfl key_int (k := .int .i64 id) (v := .bool false) 2 hL rfl hidk (isM_keys hlen hml2) (fun _ w hL => ?_) (fun q u hq w hL => ?_)
      ·refine go ?_;try(clear hL;intro w hL)
       exact RetReq.mk hL.drop.drop ⟨rfl, congrArg Value.bool (hN).symm, _, rfl, isM_app hml2 (hself _ hN)⟩
      ·refine go ?_;try(clear hL;intro w hL)
       exact RetReq.mk hL.drop.drop ⟨rfl, congrArg Value.bool (hN).symm, _, rfl, isM_set hml2 (hself _ hN) q⟩
    | true =>
      rw [hva, Bool.true_and] at hN
      refine go ?_;try(clear hL;intro w hL)
      refine CallReq.mk (L1 := (kb, mapW ml2) :: La) (L2 := [_, _]) ihb (Loc.back (L1 := [_, _]) hL) ?_
      clear hL
      rintro v m2 L1' w hL - ⟨rfl, rfl, ml22, rfl, hml3⟩
      have hL := Loc.back (L1 := (kb, mapW ml22) :: La) (L2 := [_, _]) hL
      cases hvb : nulN bits ns b.toNat with
      | false =>
        rw [hvb] at hN
        refine go ?_;try(clear hL;intro w hL)
        refine RunUReq.updW hX rfl rfl key_int (k := .int .i64 id) (v := .bool false) 2 hL rfl hidk (isM_keys hlen hml3) (fun _ w hL => ?_) (fun q u hq w hL => ?_)
        ·refine go ?_;try(clear hL;intro w hL)
         exact RetReq.mk hL.drop.drop ⟨rfl, congrArg Value.bool (hN).symm, _, rfl, isM_app hml3 (hself _ hN)⟩
        ·refine go ?_;try(clear hL;intro w hL)
         exact RetReq.mk hL.drop.drop ⟨rfl, congrArg Value.bool (hN).symm, _, rfl, isM_set hml3 (hself _ hN) q⟩
      | true =>
        rw [hvb] at hN
        refine go ?_;try(clear hL;intro w hL)
        refine RunUReq.updW hX rfl rfl key_int (k := .int .i64 id) (v := .bool true) 2 hL rfl hidk (isM_keys hlen hml3) (fun _ w hL => ?_) (fun q u hq w hL => ?_)
        ·refine go ?_;try(clear hL;intro w hL)
         exact RetReq.mk hL.drop.drop ⟨rfl, congrArg Value.bool (hN).symm, _, rfl, isM_app hml3 (hself _ hN)⟩
        ·refine go ?_;try(clear hL;intro w hL)
         exact RetReq.mk hL.drop.drop ⟨rfl, congrArg Value.bool (hN).symm, _, rfl, isM_set hml3 (hself _ hN) q⟩
   ·subst k3
    have hab := h1 (by omega)
    have ea : ((a.toNat : Nat) : Int) = a := by omega
    have eb : ((b.toNat : Nat) : Int) = b := by omega
    have iha := ih a.toNat (by omega) (by omega) ml hml
    rw [ea] at iha
    refine go ?_;try(clear hL;intro w hL)
    refine CallReq.mk (L1 := (kb, mapW ml) :: La) (L2 := [_, _]) iha (Loc.back (L1 := [_, _]) hL) ?_
    clear hL
    rintro v m2 L1' w hL - ⟨rfl, rfl, ml2, rfl, hml2⟩
    have hL := Loc.back (L1 := (kb, mapW ml2) :: La) (L2 := [_, _]) hL
    have ihb := ih b.toNat (by omega) (by omega) ml2 hml2
    rw [eb] at ihb
    cases hva : nulN bits ns a.toNat with
    | false =>
      rw [hva, Bool.false_and] at hN
      refine go ?_;try(clear hL;intro w hL)
      refine RunUReq.updW hX rfl rfl key_int (k := .int .i64 id) (v := .bool false) 2 hL rfl hidk (isM_keys hlen hml2) (fun _ w hL => ?_) (fun q u hq w hL => ?_)
      ·refine go ?_;try(clear hL;intro w hL)
       exact RetReq.mk hL.drop.drop ⟨rfl, congrArg Value.bool (hN).symm, _, rfl, isM_app hml2 (hself _ hN)⟩
      ·refine go ?_;try(clear hL;intro w hL)
       exact RetReq.mk hL.drop.drop ⟨rfl, congrArg Value.bool (hN).symm, _, rfl, isM_set hml2 (hself _ hN) q⟩
    | true =>
      rw [hva, Bool.true_and] at hN
      refine go ?_;try(clear hL;intro w hL)
      refine CallReq.mk (L1 := (kb, mapW ml2) :: La) (L2 := [_, _]) ihb (Loc.back (L1 := [_, _]) hL) ?_
      clear hL
      rintro v m2 L1' w hL - ⟨rfl, rfl, ml22, rfl, hml3⟩
      have hL := Loc.back (L1 := (kb, mapW ml22) :: La) (L2 := [_, _]) hL
      cases hvb : nulN bits ns b.toNat with
      | false =>
        rw [hvb] at hN
        refine go ?_;try(clear hL;intro w hL)
        refine RunUReq.updW hX rfl rfl key_int (k := .int .i64 id) (v := .bool false) 2 hL rfl hidk (isM_keys hlen hml3) (fun _ w hL => ?_) (fun q u hq w hL => ?_)
        ·refine go ?_;try(clear hL;intro w hL)
         exact RetReq.mk hL.drop.drop ⟨rfl, congrArg Value.bool (hN).symm, _, rfl, isM_app hml3 (hself _ hN)⟩
        ·refine go ?_;try(clear hL;intro w hL)
         exact RetReq.mk hL.drop.drop ⟨rfl, congrArg Value.bool (hN).symm, _, rfl, isM_set hml3 (hself _ hN) q⟩
      | true =>
        rw [hvb] at hN
        refine go ?_;try(clear hL;intro w hL)
        refine RunUReq.updW hX rfl rfl key_int (k := .int .i64 id) (v := .bool true) 2 hL rfl hidk (isM_keys hlen hml3) (fun _ w hL => ?_) (fun q u hq w hL => ?_)
        ·refine go ?_;try(clear hL;intro w hL)
         exact RetReq.mk hL.drop.drop ⟨rfl, congrArg Value.bool (hN).symm, _, rfl, isM_app hml3 (hself _ hN)⟩
        ·refine go ?_;try(clear hL;intro w hL)
         exact RetReq.mk hL.drop.drop ⟨rfl, congrArg Value.bool (hN).symm, _, rfl, isM_set hml3 (hself _ hN) q⟩
  rw [if_neg k3] at hN
  by_cases k4 : k = 4
  ·rw [if_pos k4] at hN
   subst k4
   have hab := h1 (by omega)
   have ea : ((a.toNat : Nat) : Int) = a := by omega
   have eb : ((b.toNat : Nat) : Int) = b := by omega
   have iha := ih a.toNat (by omega) (by omega) ml hml
   rw [ea] at iha
   refine go ?_;try(clear hL;intro w hL)
   refine CallReq.mk (L1 := (kb, mapW ml) :: La) (L2 := [_, _]) iha (Loc.back (L1 := [_, _]) hL) ?_
   clear hL
   rintro v m2 L1' w hL - ⟨rfl, rfl, ml2, rfl, hml2⟩
   have hL := Loc.back (L1 := (kb, mapW ml2) :: La) (L2 := [_, _]) hL
   have ihb := ih b.toNat (by omega) (by omega) ml2 hml2
   rw [eb] at ihb
   cases hva : nulN bits ns a.toNat with
   | true =>
     rw [hva, Bool.true_or] at hN
     refine go ?_;try(clear hL;intro w hL)
     refine RunUReq.updW hX rfl rfl key_int (k := .int .i64 id) (v := .bool true) 2 hL rfl hidk (isM_keys hlen hml2) (fun _ w hL => ?_) (fun q u hq w hL => ?_)
     ·refine go ?_;try(clear hL;intro w hL)
      exact RetReq.mk hL.drop.drop ⟨rfl, congrArg Value.bool (hN).symm, _, rfl, isM_app hml2 (hself _ hN)⟩
     ·refine go ?_;try(clear hL;intro w hL)
      exact RetReq.mk hL.drop.drop ⟨rfl, congrArg Value.bool (hN).symm, _, rfl, isM_set hml2 (hself _ hN) q⟩
   | false =>
     rw [hva, Bool.false_or] at hN
     refine go ?_;try(clear hL;intro w hL)
     refine CallReq.mk (L1 := (kb, mapW ml2) :: La) (L2 := [_, _]) ihb (Loc.back (L1 := [_, _]) hL) ?_
     clear hL
     rintro v m2 L1' w hL - ⟨rfl, rfl, ml22, rfl, hml3⟩
     have hL := Loc.back (L1 := (kb, mapW ml22) :: La) (L2 := [_, _]) hL
     cases hvb : nulN bits ns b.toNat with
     | false =>
       rw [hvb] at hN
       refine go ?_;try(clear hL;intro w hL)
       refine RunUReq.updW hX rfl rfl key_int (k := .int .i64 id) (v := .bool false) 2 hL rfl hidk (isM_keys hlen hml3) (fun _ w hL => ?_) (fun q u hq w hL => ?_)
       ·refine go ?_;try(clear hL;intro w hL)
        exact RetReq.mk hL.drop.drop ⟨rfl, congrArg Value.bool (hN).symm, _, rfl, isM_app hml3 (hself _ hN)⟩
       ·refine go ?_;try(clear hL;intro w hL)
        exact RetReq.mk hL.drop.drop ⟨rfl, congrArg Value.bool (hN).symm, _, rfl, isM_set hml3 (hself _ hN) q⟩
     | true =>
       rw [hvb] at hN
       refine go ?_;try(clear hL;intro w hL)
       refine RunUReq.updW hX rfl rfl key_int (k := .int .i64 id) (v := .bool true) 2 hL rfl hidk (isM_keys hlen hml3) (fun _ w hL => ?_) (fun q u hq w hL => ?_)
       ·refine go ?_;try(clear hL;intro w hL)
        exact RetReq.mk hL.drop.drop ⟨rfl, congrArg Value.bool (hN).symm, _, rfl, isM_app hml3 (hself _ hN)⟩
       ·refine go ?_;try(clear hL;intro w hL)
        exact RetReq.mk hL.drop.drop ⟨rfl, congrArg Value.bool (hN).symm, _, rfl, isM_set hml3 (hself _ hN) q⟩
  rw [if_neg k4] at hN
  by_cases k6 : k = 6
  ·rw [if_pos k6] at hN
   subst k6
   have hab := h2 (by omega)
   have ea : ((a.toNat : Nat) : Int) = a := by omega
   have iha := ih a.toNat (by omega) (by omega) ml hml
   rw [ea] at iha
   refine go ?_;try(clear hL;intro w hL)
   refine CallReq.mk (L1 := (kb, mapW ml) :: La) (L2 := [_, _]) iha (Loc.back (L1 := [_, _]) hL) ?_
   clear hL
   rintro v m2 L1' w hL - ⟨rfl, rfl, ml2, rfl, hml2⟩
   have hL := Loc.back (L1 := (kb, mapW ml2) :: La) (L2 := [_, _]) hL
   cases hva : nulN bits ns a.toNat with
   | true =>
     rw [hva] at hN
     refine go ?_;try(clear hL;intro w hL)
     refine RunUReq.updW hX rfl rfl key_int (k := .int .i64 id) (v := .bool false) 2 hL rfl hidk (isM_keys hlen hml2) (fun _ w hL => ?_) (fun q u hq w hL => ?_)
     ·refine go ?_;try(clear hL;intro w hL)
      exact RetReq.mk hL.drop.drop ⟨rfl, congrArg Value.bool (hN).symm, _, rfl, isM_app hml2 (hself _ hN)⟩
     ·refine go ?_;try(clear hL;intro w hL)
      exact RetReq.mk hL.drop.drop ⟨rfl, congrArg Value.bool (hN).symm, _, rfl, isM_set hml2 (hself _ hN) q⟩
   | false =>
     rw [hva] at hN
     refine go ?_;try(clear hL;intro w hL)
     refine RunUReq.updW hX rfl rfl key_int (k := .int .i64 id) (v := .bool true) 2 hL rfl hidk (isM_keys hlen hml2) (fun _ w hL => ?_) (fun q u hq w hL => ?_)
     ·refine go ?_;try(clear hL;intro w hL)
      exact RetReq.mk hL.drop.drop ⟨rfl, congrArg Value.bool (hN).symm, _, rfl, isM_app hml2 (hself _ hN)⟩
     ·refine go ?_;try(clear hL;intro w hL)
      exact RetReq.mk hL.drop.drop ⟨rfl, congrArg Value.bool (hN).symm, _, rfl, isM_set hml2 (hself _ hN) q⟩
  rw [if_neg k6] at hN
  by_cases k8 : k = 8
  ·rw [if_pos k8] at hN
   subst k8
   have hab := h3 rfl
   obtain ⟨q, rfl⟩ : ∃ q : Nat, a = q := ⟨a.toNat, by omega⟩
   have hbq : bits / 2 ^ q ≤ bits := Nat.div_le_self _ _
   refine go ?_;try(clear hL;intro w hL)
   refine DrawReq.plan hX (.fst 0 (.fst 1 (.fst 2 (.fst 3 (.fst 4 (.fst 5 (.fst 6 (.fst 7 (.fst 8 (.fst 9 (.fst 10 (.done)))))))))))) [(b7, .cells (toArr (ndC ⟨8, s0, s1, s2, s3, q, b, neg⟩)) 146 (0, 0)), (b2, .cells (toArr (teO ab kb bits)) 222 (0, 0))] (by kernel_rfl) (by kernel_rfl) hL (fun h => h.sublist (.cons_cons _ (.cons_cons _ (List.nil_sublist _)))) ?_
   clear hL
   intro w hL
   have hsh : (bits : Int).fdiv (2 ^ (min (Int.toNat ((q : Nat) : Int)) (IntKind.bits .u8))) = ((bits / 2 ^ q : Nat) : Int) := by
    rw [Int.toNat_natCast, show min q (IntKind.bits .u8) = q from by show min q 8 = q; omega, Int.fdiv_eq_ediv_of_nonneg _ (Int.le_of_lt (Int.pow_pos (by decide)))]
    norm_cast
   conv => whnf
   repeat ((first | (refine ShrReq.mk (n := ((bits / 2 ^ q : Nat) : Int)) (by simp only; omega) hsh ?_) | refine BitReq.mk (and1_u8 (by omega)) ?_ | (refine goq1 ?_;try(clear hL;intro w hL))); conv => whnf)
   have hN2 : nulN bits ns id = (!(decide (((bits / 2 ^ q % 2 : Nat) : Int) = 1) == neg)) := by
    rw [hN, Int.toNat_natCast]
    have : decide (((bits / 2 ^ q % 2 : Nat) : Int) = 1) = decide (bits / 2 ^ q % 2 = 1) := decide_eq_decide.2 (by omega)
    rw [this]; rfl
   refine RunUReq.updW hX rfl rfl key_int (k := .int .i64 id) (v := .bool (!(decide (((bits / 2 ^ q % 2 : Nat) : Int) = 1) == neg))) 2 hL rfl hidk (isM_keys hlen hml) (fun _ w hL => ?_) (fun q u hq w hL => ?_)
   ·refine go ?_;try(clear hL;intro w hL)
    exact RetReq.mk hL.drop.drop ⟨rfl, congrArg Value.bool (hN2).symm, _, rfl, isM_app hml (hself _ hN2)⟩
   ·refine go ?_;try(clear hL;intro w hL)
    exact RetReq.mk hL.drop.drop ⟨rfl, congrArg Value.bool (hN2).symm, _, rfl, isM_set hml (hself _ hN2) q⟩
  rw [if_neg k8] at hN
  have k02 : k = 0 ∨ k = 2 := by omega
  rcases k02 with rfl | rfl
  ·refine go ?_;try(clear hL;intro w hL)
   refine RunUReq.updW hX rfl rfl key_int (k := .int .i64 id) (v := .bool false) 2 hL rfl hidk (isM_keys hlen hml) (fun _ w hL => ?_) (fun q u hq w hL => ?_)
   ·refine go ?_;try(clear hL;intro w hL)
    exact RetReq.mk hL.drop.drop ⟨rfl, congrArg Value.bool (hN).symm, _, rfl, isM_app hml (hself _ hN)⟩
   ·refine go ?_;try(clear hL;intro w hL)
    exact RetReq.mk hL.drop.drop ⟨rfl, congrArg Value.bool (hN).symm, _, rfl, isM_set hml (hself _ hN) q⟩
  ·refine go ?_;try(clear hL;intro w hL)
   refine RunUReq.updW hX rfl rfl key_int (k := .int .i64 id) (v := .bool false) 2 hL rfl hidk (isM_keys hlen hml) (fun _ w hL => ?_) (fun q u hq w hL => ?_)
   ·refine go ?_;try(clear hL;intro w hL)
    exact RetReq.mk hL.drop.drop ⟨rfl, congrArg Value.bool (hN).symm, _, rfl, isM_app hml (hself _ hN)⟩
   ·refine go ?_;try(clear hL;intro w hL)
    exact RetReq.mk hL.drop.drop ⟨rfl, congrArg Value.bool (hN).symm, _, rfl, isM_set hml (hself _ hN) q⟩
theorem Null_fn (m : Mem) (ab bits : Nat) (ns : List Nd) (L : Own) (hA : Ar ab ns L) (hO : OkA ns) (hbits : bits < 256) (id : Int) :
  FnM Tryz.prog 90 [.pointer (some ⟨ab, 0, none⟩), .int .i64 id, .int .u8 bits] m L (.bool (if 0 ≤ id ∧ id < ns.length then nulN bits ns id.toNat else false)) := by
 refine Fn.enter (N := 19) hX Tryz.func90 rfl rfl (by show _ ≤ _; simp) (fun w0 hL => ?_)
 conv => whnf
 generalize keys L = S0 at hL ⊢
 refine go ?_;try(clear hL;intro w hL)
 refine NewReq.mk hL ?_
 clear hL
 intro g w hL
 conv => whnf
 replace hL : Ev.Loc m S0 w0 m ([(g, .cells (toArr (ints .i64 [id])) 3 (0, 0))] ++ L) w := hL
 obtain ⟨m1, hL1, hm1, hs⟩ := OwnS.freeze (te := 3) (k := .i64) (l := [id]) (OwnS.full (n := 1) (by decide) rfl) hL
 clear hL
 have hL := hL1
 clear hL1
 refine go ?_;try(clear hL;intro w hL)
 refine CallReq.lo (there2_fn m1 ab ns L hA _ [id] hs) hL ?_
 clear hL
 intro w hL
 by_cases hid : 0 ≤ id ∧ id < ns.length
 ·rw [if_pos hid, show ([id].all fun id => decide (0 ≤ id ∧ id < ns.length)) = true by simp [hid]]
  obtain ⟨i, rfl⟩ : ∃ i : Nat, id = i := ⟨id.toNat, by omega⟩
  refine go ?_;try(clear hL;intro w hL)
  refine RunReq.makeMapW hL ?_
  clear hL
  intro kb w hL
  refine go ?_;try(clear hL;intro w hL)
  have hn := null_fn m1 ab kb bits ns L hA hO hbits i (by omega) [] (by simp)
  refine CallReq.mk (L1 := (kb, mapW []) :: L) (L2 := []) hn (by rw [List.append_nil]; exact hL) ?_
  clear hL
  rintro v m2 L1' w hL - ⟨rfl, rfl, ml, rfl, -⟩
  rw [List.append_nil] at hL
  refine go ?_;try(clear hL;intro w hL)
  exact RetReq.mk hL.drop ⟨rfl, rfl⟩
 ·rw [if_neg hid, show ([id].all fun id => decide (0 ≤ id ∧ id < ns.length)) = false by simp; omega]
  refine go ?_;try(clear hL;intro w hL)
  exact RetReq.mk hL ⟨rfl, rfl⟩
end Go.Proofs.YtaooenndoopgdaaGreatDoor.ar
namespace Go.Proofs.YtaooenndoopgdaaGreatDoor.ar
open Go Go.Ev Go.Proofs
theorem clone_fn (m : Mem) (v : Value) (l : List Int) (hl : SlI m .i64 v l) (h0 : l ≠ []) (hb : l.length ≤ 1000000) :
  Ev.Fn Tryz.prog 227 [v] m [] fun m' L' u => m' = m ∧ OwnS 3 1 u (ints .i64 l) L' := by
 obtain ⟨A, n, c, rfl, hn, hc, hm, -⟩ := id hl
 have hcell := hl.cell.2
 have hmx : maxLen = 9223372036854775807 := rfl
 obtain ⟨z, l', rfl⟩ : ∃ z l', l = z :: l' := by cases l with | nil => exact absurd rfl h0 | cons z l' => exact ⟨z, l', rfl⟩
 obtain ⟨a, rfl, -⟩ := hcell 0 z rfl
 refine Fn.enter (N := 8) hX Tryz.func227 rfl rfl (by show _ ≤ _; simp) (fun w0 hL => ?_)
 conv => whnf
 refine go ?_;try(clear hL;intro w hL)
 refine NewReq.mk hL ?_
 clear hL
 intro g w hL
 conv => whnf
 replace hL : Ev.Loc m [] w0 m ([(g, .cells (toArr []) 3 (0, 0))] ++ []) w := hL
 refine RunReq.append hX 53 3 rfl rfl rfl rfl rfl (OwnS.full (n := 0) (by omega) rfl) hL (news := ints .i64 (z :: l')) (by simp [ints, hn]) (fun j u hj => ?_) (fun u hu => ?_) (by simp [ints]; simp at hb; omega) rfl ?_
 ·simp only [ints, List.getElem?_map] at hj
  cases hz : (z :: l')[j]? with
  | none => rw [hz] at hj; cases hj
  | some y =>
    rw [hz] at hj
    cases hj
    obtain ⟨a', e, hc'⟩ := hcell j y hz
    exact ⟨a', e, hL.cell hc'⟩
 ·simp only [ints, List.mem_map] at hu
  obtain ⟨y, -, rfl⟩ := hu
  rfl
 clear hL
 intro A2 n2 c2 L2 w hn2 ho hL
 rw [List.append_nil] at hL
 refine go ?_;try(clear hL;intro w hL)
 exact RetReq.mk hL ⟨rfl, ho⟩
theorem members_fn (m : Mem) (ab : Nat) (ns : List Nd) (L : Own) (hA : Ar ab ns L) (x : Nd) (hx : nodeN ns 0 = (x, true)) (kd : Int) (hk : x.k ≠ kd) (v : Value) (hv : SlI m .i64 v [0, 0]) :
  Ev.Fn Tryz.prog 218 [.pointer (some ⟨ab, 0, none⟩), .int .i64 kd, v] m L fun m' L' u => m' = m ∧ ∃ Lo, L' = Lo ++ L ∧ OwnS 3 1 u (ints .i64 [0]) Lo := by
 have hnode := Node_fn m ab ns L hA 0
 rw [hx] at hnode
 simp only at hnode
 obtain ⟨A, n, c, rfl, -⟩ := id hv
 refine Fn.enter (N := 59) hX Tryz.func218 rfl rfl (by show _ ≤ _; simp) (fun w0 hL => ?_)
 conv => whnf
 generalize keys L = S0 at hL ⊢
 refine go ?_;try(clear hL;intro w hL)
 refine RunReq.makeMapW hL ?_
 clear hL
 intro kb w hL
 refine go ?_;try(clear hL;intro w hL)
 refine CallReq.mk (L1 := []) (L2 := (kb, mapW []) :: L) (clone_fn m _ [0, 0] hv (by simp) (by simp)) hL ?_
 clear hL
 rintro u m1 Lt w hL - ⟨rfl, ht⟩
 obtain ⟨nt, hnt, ⟨-, hn0, -⟩ | ⟨gt, ct, cur, rfl, rfl, ht1, ht2, ht3, ht4⟩⟩ := ht
 ·rw [hn0] at hnt; simp [ints] at hnt
 obtain rfl : nt = 2 := by simpa [ints] using hnt.symm
 refine go ?_;try(clear hL;intro w hL)
 have hct : ¬ ct = 0 := by omega
 have hcur : ∀ j, j < 2 → cur[j]? = some (.int .i64 0) := fun j hj => by
  have : (cur.take (2 * 1))[j]? = (ints .i64 [0, 0])[j]? := by rw [ht4]
  rw [List.getElem?_take_of_lt (by omega)] at this
  rw [this]
  have : j = 0 ∨ j = 1 := by omega
  rcases this with rfl | rfl <;> rfl
 have hid : IsK Tryz.prog 3 (.int .i64 0) := isK_int 0 (by unfold i64; omega)
 refine LoopReq.inv hX (fun s : Nat × Option Addr × Nat × Nat => [(7, .slice s.2.1 s.2.2.1 s.2.2.2), (9, .slice (some ⟨gt, 0, none⟩) s.1 ct)]) [0, 1, 8]
  (fun s w => s.1 ≤ 2 ∧ ∃ Lo ml, OwnS 3 1 (.slice s.2.1 s.2.2.1 s.2.2.2) (ints .i64 (if s.1 = 2 then [] else [0])) Lo ∧ (s.1 = 2 ∧ ml = [] ∨ s.1 < 2 ∧ ml = [((.int .i64 0, .bool true) : Value × Value)]) ∧ Ev.Loc m1 S0 w0 m1 ((gt, .cells (toArr cur) 3 (0, 0)) :: (kb, mapW ml) :: (Lo ++ L)) w) (fun s => s.1) (2, none, 0, 0)
  ⟨by simp, [], [], OwnS.nil _ _, .inl ⟨rfl, rfl⟩, hL⟩ ⟨rfl, rfl, trivial⟩ ?_
 clear hL
 rintro ⟨t, A1, n1, c1⟩ w f ⟨ht, Lo, ml, ho, hml, hL⟩
 simp only at ht ho hml
 have hks : ∀ y ∈ ml, IsK Tryz.prog 3 y.1 := fun y hy => by
  rcases hml with ⟨-, rfl⟩ | ⟨-, rfl⟩
  ·simp at hy
  ·rw [List.mem_singleton.1 hy]; exact hid
 have h3 : t = 2 ∨ t = 1 ∨ t = 0 := by omega
 rcases h3 with rfl | rfl | rfl
 ·obtain rfl : ml = [] := by rcases hml with h | h; exact h.2; exact absurd h.1 (by omega)
  rw [if_pos rfl] at ho
  conv => whnf
  repeat ((first | (refine Idx2Req.mk 1 _ rfl (by simp only; omega) rfl ?_) | refine LdReq.ownAt hX rfl rfl 0 hL rfl (v := .int .i64 0) (hcur 1 (by omega)) ?_ | refine SlReq.mk 0 1 rfl rfl (by omega) (by omega) ?_ | (refine go1 ?_;try(clear hL;intro w hL))); conv => whnf)
  refine CallReq.li (L1 := L) hnode (Loc.back (L1 := (gt, .cells (toArr cur) 3 (0, 0)) :: (kb, mapW []) :: Lo) hL) ?_
  clear hL
  intro w hL
  have hL := Loc.back (L1 := L) hL
  refine go ?_;try(clear hL;intro w hL)
  refine NewReq.mk hL ?_
  clear hL
  intro b11 w hL
  conv => whnf
  replace hL : Ev.Loc m1 S0 w0 m1 ((b11, .cells (toArr (ndC nd0)) 146 (0, 0)) :: (gt, .cells (toArr cur) 3 (0, 0)) :: (kb, mapW []) :: (Lo ++ L)) w := hL
  refine go ?_;try(clear hL;intro w hL)
  refine RunReq.lookW hX rfl rfl key_int (z := .bool false) (by kernel_rfl) hL (.t (.t .h)) hid hks (fun hno => ?_) (fun v hv => ?_)
  rotate_left
  ·simp at hv
  ·conv => whnf
   repeat ((first | refine BrReq.no hk ?_ | (refine go1 ?_;try(clear hL;intro w hL))); conv => whnf)
   refine NewReq.mk hL ?_
   clear hL
   intro g2 w hL
   conv => whnf
   replace hL : Ev.Loc m1 S0 w0 m1 ((g2, .cells (toArr [.int .i64 0]) 3 (0, 0)) :: (b11, .cells (toArr (ndC x)) 146 (0, 0)) :: (gt, .cells (toArr cur) 3 (0, 0)) :: (kb, mapW []) :: (Lo ++ L)) w := hL
   refine go ?_;try(clear hL;intro w hL)
   refine RunReq.push hX 53 3 rfl rfl rfl rfl rfl ho (L2 := L ++ [_, _, _]) (by rw [← List.append_assoc]; exact hL.perm (List.Perm.cons _ (List.perm_append_comm (l₁ := [_, _, _]) (l₂ := Lo ++ L)))) rfl rfl (by simp [ints]) rfl ?_
   clear hL
   intro A2 n2 c2 L2 w hn2 ho2 hL
   rw [← List.append_assoc] at hL
   have hL := Loc.back (L1 := L2 ++ L) (L2 := [_, _, _]) hL
   replace hL : Ev.Loc m1 S0 w0 m1 ((b11, .cells (toArr (ndC x)) 146 (0, 0)) :: (gt, .cells (toArr cur) 3 (0, 0)) :: (kb, mapW []) :: (L2 ++ L)) w := hL
   refine go ?_;try(clear hL;intro w hL)
   refine RunUReq.updW hX rfl rfl key_int (k := .int .i64 0) (v := .bool true) 2 hL rfl hid (by simp) (fun _ w hL => ?_) (fun q u hq w hL => ?_)
   ·replace hL : Ev.Loc m1 S0 w0 m1 ((b11, .cells (toArr (ndC x)) 146 (0, 0)) :: (gt, .cells (toArr cur) 3 (0, 0)) :: (kb, mapW [((.int .i64 0, .bool true) : Value × Value)]) :: (L2 ++ L)) w := hL
    refine go ?_;try(clear hL;intro w hL)
    refine ⟨(1, A2, n2, c2), ⟨by omega, L2, _, ho2, .inr ⟨by omega, rfl⟩, hL.drop⟩, by first | omega | (simp only; omega) | (simp only [List.length_cons, List.length_append]; omega), ?_, ?_⟩
    ·repeat (first | exact trivial | (refine And.intro (by (conv => lhs; whnf) <;> (conv => rhs; whnf) <;> (first | rfl | (rw [if_neg hct]; rfl))) ?_))
    ·repeat (first | exact trivial | (refine And.intro (by (conv => lhs; whnf) <;> (conv => rhs; whnf) <;> (first | rfl | (rw [if_neg hct]; rfl))) ?_))
   ·simp at hq
 ·obtain rfl : ml = [(.int .i64 0, .bool true)] := by rcases hml with h | h; exact absurd h.1 (by omega); exact h.2
  rw [if_neg (by omega)] at ho
  conv => whnf
  repeat ((first | (refine Idx2Req.mk 0 _ rfl (by simp only; omega) rfl ?_) | refine LdReq.ownAt hX rfl rfl 0 hL rfl (v := .int .i64 0) (hcur 0 (by omega)) ?_ | refine SlReq.mk 0 0 rfl rfl (by omega) (by omega) ?_ | (refine go1 ?_;try(clear hL;intro w hL))); conv => whnf)
  refine CallReq.li (L1 := L) hnode (Loc.back (L1 := (gt, .cells (toArr cur) 3 (0, 0)) :: (kb, mapW [((.int .i64 0, .bool true) : Value × Value)]) :: Lo) hL) ?_
  clear hL
  intro w hL
  have hL := Loc.back (L1 := L) hL
  refine go ?_;try(clear hL;intro w hL)
  refine NewReq.mk hL ?_
  clear hL
  intro b11 w hL
  conv => whnf
  replace hL : Ev.Loc m1 S0 w0 m1 ((b11, .cells (toArr (ndC nd0)) 146 (0, 0)) :: (gt, .cells (toArr cur) 3 (0, 0)) :: (kb, mapW [((.int .i64 0, .bool true) : Value × Value)]) :: (Lo ++ L)) w := hL
  refine go ?_;try(clear hL;intro w hL)
  refine RunReq.lookW hX rfl rfl key_int (z := .bool false) (by kernel_rfl) hL (.t (.t .h)) hid hks (fun hno => ?_) (fun v hv => ?_)
  ·exact absurd rfl (hno (.int .i64 0, .bool true) (by simp))
  ·obtain rfl : v = .bool true := congrArg Prod.snd (List.mem_singleton.1 hv)
   refine go ?_;try(clear hL;intro w hL)
   refine RunUReq.updW hX rfl rfl key_int (k := .int .i64 0) (v := .bool true) 2 hL rfl hid hks (fun hno _ _ => absurd rfl (hno (.int .i64 0, .bool true) (by simp))) (fun q u hq w hL => ?_)
   obtain rfl : q = 0 := by
    have := (List.getElem?_eq_some_iff.1 hq).1
    simp at this; omega
   replace hL : Ev.Loc m1 S0 w0 m1 ((b11, .cells (toArr (ndC x)) 146 (0, 0)) :: (gt, .cells (toArr cur) 3 (0, 0)) :: (kb, mapW [((.int .i64 0, .bool true) : Value × Value)]) :: (Lo ++ L)) w := hL
   refine go ?_;try(clear hL;intro w hL)
   refine ⟨(0, A1, n1, c1), ⟨by omega, Lo, _, ho, .inr ⟨by omega, rfl⟩, hL.drop⟩, by first | omega | (simp only; omega) | (simp only [List.length_cons, List.length_append]; omega), ?_, ?_⟩
   ·repeat (first | exact trivial | (refine And.intro (by (conv => lhs; whnf) <;> (conv => rhs; whnf) <;> (first | rfl | (rw [if_neg hct]; rfl))) ?_))
   ·repeat (first | exact trivial | (refine And.intro (by (conv => lhs; whnf) <;> (conv => rhs; whnf) <;> (first | rfl | (rw [if_neg hct]; rfl))) ?_))
 ·rw [if_neg (by omega)] at ho
  refine go ?_;try(clear hL;intro w hL)
  exact RetReq.mk hL.drop.drop ⟨rfl, Lo, rfl, ho⟩
end Go.Proofs.YtaooenndoopgdaaGreatDoor.ar
namespace Go.Proofs
open Go.Shelf
def Tryz.lays125_ren : Go.Shelf.Ren := ⟨fun | 125 => 172 | 128 => 214 | 129 => 215 | n => n, fun | 46 => 160 | 3 => 3 | 51 => 66 | 53 => 48 | 4 => 4 | 5 => 5 | 9 => 9 | n => n, fun | n => n⟩
theorem Tryz.lays125 : Go.Proofs.Lays.n125 Tryz.prog Tryz.lays125_ren := {
 mixed := by kernel_rfl
 f125 := Tryz.func172.trans (congrArg some (by kernel_rfl))
 f128 := Tryz.func214.trans (congrArg some (by kernel_rfl))
 f129 := Tryz.func215.trans (congrArg some (by kernel_rfl))
 t3 := Tryz.underlying3
 a3 := Tryz.isAgg3
 z3 := Tryz.sizeOf3
 v3 := Tryz.zeroValue3
 t4 := Tryz.underlying4
 a4 := Tryz.isAgg4
 z4 := Tryz.sizeOf4
 v4 := Tryz.zeroValue4
 t5 := Tryz.underlying5
 a5 := Tryz.isAgg5
 z5 := Tryz.sizeOf5
 v5 := Tryz.zeroValue5
 t9 := Tryz.underlying9
 a9 := Tryz.isAgg9
 z9 := Tryz.sizeOf9
 v9 := Tryz.zeroValue9
 t46 := Tryz.underlying160
 a46 := Tryz.isAgg160
 z46 := Tryz.sizeOf160
 v46 := Tryz.zeroValue160
 t51 := Tryz.underlying66
 a51 := Tryz.isAgg66
 z51 := Tryz.sizeOf66
 v51 := Tryz.zeroValue66
 t53 := Tryz.underlying48
 a53 := Tryz.isAgg48
 z53 := Tryz.sizeOf48
 v53 := Tryz.zeroValue48 }
theorem Tryz.bits_Len (x : Int) (w : World) (h0 : 0 ≤ x) (h1 : x ≤ 18446744073709551615) :
  Calls Tryz.prog 172 #[.int .u64 x] w fun e w' => e = .returned (.int .i64 (Lib.bitLen x.toNat)) ∧ w' = w := Any.bits_Len Tryz.lays125 x w h0 h1
def Tryz.lays189_ren : Go.Shelf.Ren := ⟨fun | 189 => 130 | 125 => 172 | 257 => 171 | 128 => 214 | 129 => 215 | 294 => 205 | 295 => 206 | 296 => 207 | 297 => 208 | 298 => 209 | 299 => 210 | 216 => 211 | 300 => 212 | 301 => 213 | 328 => 237 | 329 => 238 | 330 => 239 | 331 => 240 | 332 => 241 | 215 => 224 | 343 => 248 | n => n, fun | 28 => 53 | 3 => 3 | 46 => 160 | 0 => 0 | 51 => 66 | 53 => 48 | 4 => 4 | 183 => 269 | 182 => 268 | 131 => 120 | 5 => 5 | 9 => 9 | 218 => 287 | 222 => 291 | 228 => 298 | 229 => 299 | n => n, fun | n => n⟩
theorem Tryz.lays189 : Go.Proofs.Lays.n189 Tryz.prog Tryz.lays189_ren := {
 mixed := by kernel_rfl
 f125 := Tryz.func172.trans (congrArg some (by kernel_rfl))
 f128 := Tryz.func214.trans (congrArg some (by kernel_rfl))
 f129 := Tryz.func215.trans (congrArg some (by kernel_rfl))
 f189 := Tryz.func130.trans (congrArg some (by kernel_rfl))
 f215 := Tryz.func224.trans (congrArg some (by kernel_rfl))
 f216 := Tryz.func211.trans (congrArg some (by kernel_rfl))
 f257 := Tryz.func171.trans (congrArg some (by kernel_rfl))
 f294 := Tryz.func205.trans (congrArg some (by kernel_rfl))
 f295 := Tryz.func206.trans (congrArg some (by kernel_rfl))
 f296 := Tryz.func207.trans (congrArg some (by kernel_rfl))
 f297 := Tryz.func208.trans (congrArg some (by kernel_rfl))
 f298 := Tryz.func209.trans (congrArg some (by kernel_rfl))
 f299 := Tryz.func210.trans (congrArg some (by kernel_rfl))
 f300 := Tryz.func212.trans (congrArg some (by kernel_rfl))
 f301 := Tryz.func213.trans (congrArg some (by kernel_rfl))
 f328 := Tryz.func237.trans (congrArg some (by kernel_rfl))
 f329 := Tryz.func238.trans (congrArg some (by kernel_rfl))
 f330 := Tryz.func239.trans (congrArg some (by kernel_rfl))
 f331 := Tryz.func240.trans (congrArg some (by kernel_rfl))
 f332 := Tryz.func241.trans (congrArg some (by kernel_rfl))
 f343 := Tryz.func248.trans (congrArg some (by kernel_rfl))
 t0 := Tryz.underlying0
 a0 := Tryz.isAgg0
 z0 := Tryz.sizeOf0
 v0 := Tryz.zeroValue0
 t3 := Tryz.underlying3
 a3 := Tryz.isAgg3
 z3 := Tryz.sizeOf3
 v3 := Tryz.zeroValue3
 t4 := Tryz.underlying4
 a4 := Tryz.isAgg4
 z4 := Tryz.sizeOf4
 v4 := Tryz.zeroValue4
 t5 := Tryz.underlying5
 a5 := Tryz.isAgg5
 z5 := Tryz.sizeOf5
 v5 := Tryz.zeroValue5
 t9 := Tryz.underlying9
 a9 := Tryz.isAgg9
 z9 := Tryz.sizeOf9
 v9 := Tryz.zeroValue9
 t28 := Tryz.underlying53
 a28 := Tryz.isAgg53
 z28 := Tryz.sizeOf53
 v28 := Tryz.zeroValue53
 t46 := Tryz.underlying160
 a46 := Tryz.isAgg160
 z46 := Tryz.sizeOf160
 v46 := Tryz.zeroValue160
 t51 := Tryz.underlying66
 a51 := Tryz.isAgg66
 z51 := Tryz.sizeOf66
 v51 := Tryz.zeroValue66
 t53 := Tryz.underlying48
 a53 := Tryz.isAgg48
 z53 := Tryz.sizeOf48
 v53 := Tryz.zeroValue48
 t131 := Tryz.underlying120
 a131 := Tryz.isAgg120
 z131 := Tryz.sizeOf120
 v131 := Tryz.zeroValue120
 t182 := Tryz.underlying268
 a182 := Tryz.isAgg268
 z182 := Tryz.sizeOf268
 v182 := Tryz.zeroValue268
 t183 := Tryz.underlying269
 a183 := Tryz.isAgg269
 z183 := Tryz.sizeOf269
 v183 := Tryz.zeroValue269
 t218 := Tryz.underlying287
 a218 := Tryz.isAgg287
 z218 := Tryz.sizeOf287
 v218 := Tryz.zeroValue287
 t222 := Tryz.underlying291
 a222 := Tryz.isAgg291
 z222 := Tryz.sizeOf291
 v222 := Tryz.zeroValue291
 t228 := Tryz.underlying298
 a228 := Tryz.isAgg298
 z228 := Tryz.sizeOf298
 v228 := Tryz.zeroValue298
 t229 := Tryz.underlying299
 a229 := Tryz.isAgg299
 z229 := Tryz.sizeOf299
 v229 := Tryz.zeroValue299 }
open Go.Sort Go.RowKit in
theorem Tryz.slices_Sort_int (blk off cap : Nat) (zs : List Int) (w : World) (hH : Holds (Value.int .i64) w blk off zs.toArray) (hblk : blk < w.heap.size) (hsz : zs.length < 4611686018427387904) :
  Calls Tryz.prog 130 #[.slice (some ⟨blk, off, none⟩) zs.length cap] w fun e w' =>
   e = .returned (.tuple #[]) ∧ ∃ n os, w' = grow (putRow (Value.int .i64) (Sort.ahead w n) blk off (zs.mergeSort fun x y => decide (x ≤ y)).toArray) os := Any.slices_Sort_int Tryz.lays189 blk off cap zs w hH hblk hsz
def Tryz.laysNm220_ren : Go.Shelf.Ren := ⟨fun | 20 => 131 | n => n, fun | 22 => 53 | 3 => 3 | 4 => 4 | 0 => 0 | n => n, fun | n => n⟩
theorem Tryz.laysNm220 : Go.Proofs.Lays2.n20 Tryz.prog Tryz.laysNm220_ren := {
 mixed := by kernel_rfl
 f20 := Tryz.func131.trans (congrArg some (by kernel_rfl))
 t0 := Tryz.underlying0
 a0 := Tryz.isAgg0
 z0 := Tryz.sizeOf0
 v0 := Tryz.zeroValue0
 t3 := Tryz.underlying3
 a3 := Tryz.isAgg3
 z3 := Tryz.sizeOf3
 v3 := Tryz.zeroValue3
 t4 := Tryz.underlying4
 a4 := Tryz.isAgg4
 z4 := Tryz.sizeOf4
 v4 := Tryz.zeroValue4
 t22 := Tryz.underlying53
 a22 := Tryz.isAgg53
 z22 := Tryz.sizeOf53
 v22 := Tryz.zeroValue53
 i3 := by kernel_rfl }
open Go.RowKit Go.Lib Go.Sort in
theorem Tryz.slices_Compact_int (blk off cap : Nat) (zs : List Int) (w : World) (hH : Holds (Value.int .i64) w blk off zs.toArray) (hsz : zs.length ≤ 9223372036854775807) (hcap : zs.length ≤ cap) :
  Calls Tryz.prog 131 #[.slice (some ⟨blk, off, none⟩) zs.length cap] w fun e w' => e = .returned (.slice (some ⟨blk, off, none⟩) (Lib.compact zs).length cap) ∧ ∃ q, w' = putRow (Value.int .i64) (Sort.ahead w q) blk off (Lib.compact zs ++ List.replicate (zs.length - (Lib.compact zs).length) 0).toArray := Any.slices_Compact_int Tryz.laysNm220 blk off cap zs w hH hsz hcap
open Go.RowKit Go.Lib Go.Sort in
theorem Tryz.slices_Compact_int_empty (a : Option Addr) (cap : Nat) (w : World) :
  Calls Tryz.prog 131 #[.slice a 0 cap] w fun e w' => e = .returned (.slice a 0 cap) ∧ w' = w := Any.slices_Compact_int_empty Tryz.laysNm220 a cap w
open Go.RowKit Go.Sort in
theorem Tryz.slices_Sort_int_none (p : Option Addr) (cap : Nat) (w : World) :
  Calls Tryz.prog 130 #[.slice p 0 cap] w fun e w' => e = .returned (.tuple #[]) ∧ w' = w := Any.slices_Sort_int_none Tryz.lays189 p cap w
def Tryz.laysSlF14_f247_ren : Go.Shelf.Ren := ⟨fun | 14 => 247 | 20 => 251 | 21 => 252 | 22 => 253 | 23 => 254 | 24 => 255 | 25 => 256 | 26 => 257 | 27 => 258 | 46 => 259 | 47 => 238 | 48 => 239 | 49 => 260 | 50 => 261 | 15 => 172 | 57 => 262 | 28 => 214 | 29 => 215 | n => n, fun | 24 => 53 | 22 => 87 | 3 => 3 | 25 => 233 | 4 => 4 | 0 => 0 | 46 => 269 | 45 => 268 | 50 => 120 | 66 => 287 | 39 => 160 | 55 => 48 | 70 => 291 | 76 => 298 | 77 => 299 | 53 => 66 | 5 => 5 | 9 => 9 | n => n, fun | n => n⟩
theorem Tryz.laysSlF14_f247 : Go.Proofs.SlLaysF.n14 Tryz.prog Tryz.laysSlF14_f247_ren := {
 mixed := by kernel_rfl
 f14 := ⟨Tryz.f247.name, by decide, Tryz.func247.trans (congrArg some (by kernel_rfl))⟩
 f15 := Tryz.func172.trans (congrArg some (by kernel_rfl))
 f20 := ⟨Tryz.f251.name, by decide, Tryz.func251.trans (congrArg some (by kernel_rfl))⟩
 f21 := ⟨Tryz.f252.name, by decide, Tryz.func252.trans (congrArg some (by kernel_rfl))⟩
 f22 := ⟨Tryz.f253.name, by decide, Tryz.func253.trans (congrArg some (by kernel_rfl))⟩
 f23 := ⟨Tryz.f254.name, by decide, Tryz.func254.trans (congrArg some (by kernel_rfl))⟩
 f24 := ⟨Tryz.f255.name, by decide, Tryz.func255.trans (congrArg some (by kernel_rfl))⟩
 f25 := ⟨Tryz.f256.name, by decide, Tryz.func256.trans (congrArg some (by kernel_rfl))⟩
 f26 := ⟨Tryz.f257.name, by decide, Tryz.func257.trans (congrArg some (by kernel_rfl))⟩
 f27 := ⟨Tryz.f258.name, by decide, Tryz.func258.trans (congrArg some (by kernel_rfl))⟩
 f28 := Tryz.func214.trans (congrArg some (by kernel_rfl))
 f29 := Tryz.func215.trans (congrArg some (by kernel_rfl))
 f46 := ⟨Tryz.f259.name, by decide, Tryz.func259.trans (congrArg some (by kernel_rfl))⟩
 f47 := Tryz.func238.trans (congrArg some (by kernel_rfl))
 f48 := Tryz.func239.trans (congrArg some (by kernel_rfl))
 f49 := ⟨Tryz.f260.name, by decide, Tryz.func260.trans (congrArg some (by kernel_rfl))⟩
 f50 := ⟨Tryz.f261.name, by decide, Tryz.func261.trans (congrArg some (by kernel_rfl))⟩
 f57 := ⟨Tryz.f262.name, by decide, Tryz.func262.trans (congrArg some (by kernel_rfl))⟩
 t0 := Tryz.underlying0
 a0 := Tryz.isAgg0
 z0 := Tryz.sizeOf0
 v0 := Tryz.zeroValue0
 t3 := Tryz.underlying3
 a3 := Tryz.isAgg3
 z3 := Tryz.sizeOf3
 v3 := Tryz.zeroValue3
 t4 := Tryz.underlying4
 a4 := Tryz.isAgg4
 z4 := Tryz.sizeOf4
 v4 := Tryz.zeroValue4
 t5 := Tryz.underlying5
 a5 := Tryz.isAgg5
 z5 := Tryz.sizeOf5
 v5 := Tryz.zeroValue5
 t9 := Tryz.underlying9
 a9 := Tryz.isAgg9
 z9 := Tryz.sizeOf9
 v9 := Tryz.zeroValue9
 t22 := Tryz.underlying87
 a22 := Tryz.isAgg87
 z22 := Tryz.sizeOf87
 v22 := Tryz.zeroValue87
 a24 := Tryz.isAgg53
 z24 := Tryz.sizeOf53
 t25 := Tryz.underlying233
 a25 := Tryz.isAgg233
 z25 := Tryz.sizeOf233
 v25 := Tryz.zeroValue233
 t39 := Tryz.underlying160
 a39 := Tryz.isAgg160
 z39 := Tryz.sizeOf160
 v39 := Tryz.zeroValue160
 t45 := Tryz.underlying268
 a45 := Tryz.isAgg268
 z45 := Tryz.sizeOf268
 v45 := Tryz.zeroValue268
 t46 := Tryz.underlying269
 a46 := Tryz.isAgg269
 z46 := Tryz.sizeOf269
 v46 := Tryz.zeroValue269
 t50 := Tryz.underlying120
 a50 := Tryz.isAgg120
 z50 := Tryz.sizeOf120
 v50 := Tryz.zeroValue120
 t53 := Tryz.underlying66
 a53 := Tryz.isAgg66
 z53 := Tryz.sizeOf66
 v53 := Tryz.zeroValue66
 t55 := Tryz.underlying48
 a55 := Tryz.isAgg48
 z55 := Tryz.sizeOf48
 v55 := Tryz.zeroValue48
 t66 := Tryz.underlying287
 a66 := Tryz.isAgg287
 z66 := Tryz.sizeOf287
 v66 := Tryz.zeroValue287
 t70 := Tryz.underlying291
 a70 := Tryz.isAgg291
 z70 := Tryz.sizeOf291
 v70 := Tryz.zeroValue291
 t76 := Tryz.underlying298
 a76 := Tryz.isAgg298
 z76 := Tryz.sizeOf298
 v76 := Tryz.zeroValue298
 t77 := Tryz.underlying299
 a77 := Tryz.isAgg299
 z77 := Tryz.sizeOf299
 v77 := Tryz.zeroValue299 }
open Go.RowKit Go.Lib Go.Sort in
theorem Tryz.pdqsortCmpFunc_all {α : Type} [Inhabited α] (enc : α → Value) (cf : α → α → Int) (g : Nat) (cb : Array Value) (hO : SWO (ltOf cf)) (blk off cap : Nat) (d0 : Array α) (w0 : World) (eg : ∀ args w, (callFunc g args).run Tryz.prog w = .ok (.enter g args) w) (hcmp : CmpLays1 Tryz.prog g cb enc cf blk off d0.size w0) (R : Row1 enc w0 blk off d0) :
  ∀ (N a b limit : Nat) (d : Array α) (w : World), b - a < N → d0.size = d.size → SW enc w0 blk off d w → a ≤ b → b ≤ d.size → d.size < 4611686018427387904 → limit < 4611686018427387904 → Below (ltOf cf) a b d →
  Calls Tryz.prog 247 #[.slice (some ⟨blk, off, none⟩) d.size cap, .int .i64 a, .int .i64 b, .int .i64 limit, .func (.func g) #[] cb] w fun e w' => e = .returned (.tuple #[]) ∧ SW enc w0 blk off (pdq (ltOf cf) d a b limit true true) w' := Any.pdqsortCmpFunc_all Tryz.laysSlF14_f247 enc cf g cb hO blk off cap d0 w0 eg hcmp R
def Tryz.laysSlF014_f247_ren : Go.Shelf.Ren := ⟨fun | 14 => 247 | 20 => 251 | 21 => 252 | 22 => 253 | 23 => 254 | 24 => 255 | 25 => 256 | 26 => 257 | 27 => 258 | 46 => 259 | 47 => 238 | 48 => 239 | 49 => 260 | 50 => 261 | 15 => 172 | 57 => 262 | 28 => 214 | 29 => 215 | n => n, fun | 24 => 53 | 22 => 87 | 3 => 3 | 25 => 233 | 4 => 4 | 0 => 0 | 46 => 269 | 45 => 268 | 50 => 120 | 66 => 287 | 39 => 160 | 55 => 48 | 70 => 291 | 76 => 298 | 77 => 299 | 53 => 66 | 5 => 5 | 9 => 9 | n => n, fun | n => n⟩
theorem Tryz.laysSlF014_f247 : Go.Proofs.SlLaysF0.n14 Tryz.prog Tryz.laysSlF014_f247_ren := {
 mixed := by kernel_rfl
 f14 := ⟨Tryz.f247.name, by decide, Tryz.func247.trans (congrArg some (by kernel_rfl))⟩
 f15 := Tryz.func172.trans (congrArg some (by kernel_rfl))
 f20 := ⟨Tryz.f251.name, by decide, Tryz.func251.trans (congrArg some (by kernel_rfl))⟩
 f21 := ⟨Tryz.f252.name, by decide, Tryz.func252.trans (congrArg some (by kernel_rfl))⟩
 f22 := ⟨Tryz.f253.name, by decide, Tryz.func253.trans (congrArg some (by kernel_rfl))⟩
 f23 := ⟨Tryz.f254.name, by decide, Tryz.func254.trans (congrArg some (by kernel_rfl))⟩
 f24 := ⟨Tryz.f255.name, by decide, Tryz.func255.trans (congrArg some (by kernel_rfl))⟩
 f25 := ⟨Tryz.f256.name, by decide, Tryz.func256.trans (congrArg some (by kernel_rfl))⟩
 f26 := ⟨Tryz.f257.name, by decide, Tryz.func257.trans (congrArg some (by kernel_rfl))⟩
 f27 := ⟨Tryz.f258.name, by decide, Tryz.func258.trans (congrArg some (by kernel_rfl))⟩
 f28 := Tryz.func214.trans (congrArg some (by kernel_rfl))
 f29 := Tryz.func215.trans (congrArg some (by kernel_rfl))
 f46 := ⟨Tryz.f259.name, by decide, Tryz.func259.trans (congrArg some (by kernel_rfl))⟩
 f47 := Tryz.func238.trans (congrArg some (by kernel_rfl))
 f48 := Tryz.func239.trans (congrArg some (by kernel_rfl))
 f49 := ⟨Tryz.f260.name, by decide, Tryz.func260.trans (congrArg some (by kernel_rfl))⟩
 f50 := ⟨Tryz.f261.name, by decide, Tryz.func261.trans (congrArg some (by kernel_rfl))⟩
 f57 := ⟨Tryz.f262.name, by decide, Tryz.func262.trans (congrArg some (by kernel_rfl))⟩
 t0 := Tryz.underlying0
 a0 := Tryz.isAgg0
 z0 := Tryz.sizeOf0
 v0 := Tryz.zeroValue0
 t3 := Tryz.underlying3
 a3 := Tryz.isAgg3
 z3 := Tryz.sizeOf3
 v3 := Tryz.zeroValue3
 t4 := Tryz.underlying4
 a4 := Tryz.isAgg4
 z4 := Tryz.sizeOf4
 v4 := Tryz.zeroValue4
 t5 := Tryz.underlying5
 a5 := Tryz.isAgg5
 z5 := Tryz.sizeOf5
 v5 := Tryz.zeroValue5
 t9 := Tryz.underlying9
 a9 := Tryz.isAgg9
 z9 := Tryz.sizeOf9
 v9 := Tryz.zeroValue9
 t22 := Tryz.underlying87
 a22 := Tryz.isAgg87
 z22 := Tryz.sizeOf87
 v22 := Tryz.zeroValue87
 t25 := Tryz.underlying233
 a25 := Tryz.isAgg233
 z25 := Tryz.sizeOf233
 v25 := Tryz.zeroValue233
 t39 := Tryz.underlying160
 a39 := Tryz.isAgg160
 z39 := Tryz.sizeOf160
 v39 := Tryz.zeroValue160
 t45 := Tryz.underlying268
 a45 := Tryz.isAgg268
 z45 := Tryz.sizeOf268
 v45 := Tryz.zeroValue268
 t46 := Tryz.underlying269
 a46 := Tryz.isAgg269
 z46 := Tryz.sizeOf269
 v46 := Tryz.zeroValue269
 t50 := Tryz.underlying120
 a50 := Tryz.isAgg120
 z50 := Tryz.sizeOf120
 v50 := Tryz.zeroValue120
 t53 := Tryz.underlying66
 a53 := Tryz.isAgg66
 z53 := Tryz.sizeOf66
 v53 := Tryz.zeroValue66
 t55 := Tryz.underlying48
 a55 := Tryz.isAgg48
 z55 := Tryz.sizeOf48
 v55 := Tryz.zeroValue48
 t66 := Tryz.underlying287
 a66 := Tryz.isAgg287
 z66 := Tryz.sizeOf287
 v66 := Tryz.zeroValue287
 t70 := Tryz.underlying291
 a70 := Tryz.isAgg291
 z70 := Tryz.sizeOf291
 v70 := Tryz.zeroValue291
 t76 := Tryz.underlying298
 a76 := Tryz.isAgg298
 z76 := Tryz.sizeOf298
 v76 := Tryz.zeroValue298
 t77 := Tryz.underlying299
 a77 := Tryz.isAgg299
 z77 := Tryz.sizeOf299
 v77 := Tryz.zeroValue299 }
open Go.RowKit Go.Lib Go.Sort in
theorem Tryz.pdqsortCmpFunc_none {α : Type} [Inhabited α] (p : Option Addr) (cap : Nat) (lim : Int) (fv : Value) (w : World) :
  Calls Tryz.prog 247 #[.slice p 0 cap, .int .i64 0, .int .i64 0, .int .i64 lim, fv] w fun e w' => e = .returned (.tuple #[]) ∧ w' = w := AnyF.pdqsortCmpFunc_none Tryz.laysSlF014_f247 p cap lim fv w
end Go.Proofs
namespace Go.Proofs.YtaooenndoopgdaaGreatDoor.ar
open Go Go.Ev Go.Proofs
def idxI (z : Int) : List Int → Int
 | [] => -1
 | a :: l => if a = z then 0 else if idxI z l < 0 then -1 else idxI z l + 1
theorem idxI_at {z : Int} : ∀ (l : List Int) (i : Nat), l[i]? = some z → (∀ (q : Nat), q < i → l[q]? ≠ some z) → idxI z l = i := by
 intro l
 induction l with
 | nil => intro i h; simp at h
 | cons a l ih =>
   intro i h hq
   cases i with
   | zero => simp at h; subst h; simp only [idxI]; rw [if_pos trivial]; rfl
   | succ i =>
     have h0 := hq 0 (by omega)
     simp at h0
     simp only [idxI]
     rw [if_neg h0, ih i (by simpa using h) fun q hlt => by have := hq (q + 1) (by omega); simpa using this, if_neg (by omega)]
     omega
theorem idxI_none {z : Int} : ∀ (l : List Int), z ∉ l → idxI z l = -1 := by
 intro l
 induction l with
 | nil => intro _; rfl
 | cons a l ih =>
   intro h
   simp only [idxI]
   rw [if_neg (fun e => h (by simp [e])), ih (fun e => h (by simp [e])), if_pos (by omega)]
theorem idxI_pos {z : Int} : ∀ (l : List Int), 0 ≤ idxI z l ↔ z ∈ l := by
 intro l
 induction l with
 | nil => simp [idxI]
 | cons a l ih =>
   simp only [idxI, List.mem_cons]
   by_cases h : a = z
   ·rw [if_pos h]; exact ⟨fun _ => .inl h.symm, fun _ => by omega⟩
   ·rw [if_neg h]
    by_cases h2 : idxI z l < 0
    ·rw [if_pos h2]; exact ⟨fun h' => absurd h' (by omega), fun h' => h'.elim (fun h3 => absurd h3.symm h) fun h3 => absurd (ih.2 h3) (by omega)⟩
    ·rw [if_neg h2]; exact ⟨fun _ => .inr (ih.1 (by omega)), fun _ => by omega⟩
theorem index_fn (m : Mem) (v : Value) (l : List Int) (z : Int) (hl : SlI m .i64 v l) : FnV Tryz.prog 78 [v, .int .i64 z] m (.int .i64 (idxI z l)) := by
 obtain ⟨A, n, c, rfl, hn, hc, hm, -⟩ := id hl
 have hcell := hl.cell.2
 have hmx : maxLen = 9223372036854775807 := rfl
 refine Fn.enter (N := 19) hX Tryz.func78 rfl rfl (by show _ ≤ _; simp) (fun w0 hL => ?_)
 conv => whnf
 refine go ?_;try(clear hL;intro w hL)
 refine LoopReq.inv hX (fun j : Nat => [(8, .int .i64 j)]) [0, 1, 7]
  (fun j w => (j ≤ n ∧ ∀ (i : Nat), i < j → l[i]? ≠ some z) ∧ Ev.Loc m [] w0 m [] w) (fun j => n - j) 0
  ⟨⟨by omega, fun i h => absurd h (by omega)⟩, hL⟩ ⟨rfl, trivial⟩ ?_
 clear hL
 rintro j w g ⟨⟨hj, hdone⟩, hL⟩
 refine go ?_;try(clear hL;intro w hL)
 refine BrReq.dec (fun hlt => ?_) (fun hlt => ?_)
 ·have hlt' : j < l.length := by omega
  have hx := List.getElem?_eq_getElem hlt'
  obtain ⟨a, ea, hc'⟩ := hcell j _ hx
  generalize l[j] = y at hx hc'
  conv => whnf
  repeat ((first | refine Idx2Req.mk j a rfl (by omega) ea ?_ | refine LdReq.one hX rfl rfl hL hc' ?_ | (refine go1 ?_;try(clear hL;intro w hL))); conv => whnf)
  by_cases hyz : z = y
  ·subst hyz
   conv => whnf
   repeat ((first | refine BrReq.yes rfl ?_ | (refine go1 ?_;try(clear hL;intro w hL))); conv => whnf)
   exact RetReq.int hL (idxI_at l j hx fun q hq => hdone q hq).symm
  ·have hd : ∀ (i : Nat), i < j + 1 → l[i]? ≠ some z := fun i hi e => by
    by_cases h1 : i = j
    ·subst h1; rw [hx] at e; cases e; exact hyz rfl
    ·exact hdone i (by omega) e
   conv => whnf
   repeat ((first | refine BrReq.no hyz ?_ | (refine go1 ?_;try(clear hL;intro w hL))); conv => whnf)
   exact rnd (j + 1) ⟨⟨by omega, hd⟩, hL⟩
 ·refine go ?_;try(clear hL;intro w hL)
  exact RetReq.int hL (idxI_none l fun h => by
   obtain ⟨i, hi, e⟩ := List.getElem_of_mem h
   exact hdone i (by omega) (by rw [List.getElem?_eq_getElem hi, e])).symm
theorem contains_fn (m : Mem) (v : Value) (l : List Int) (z : Int) (hl : SlI m .i64 v l) : FnV Tryz.prog 48 [v, .int .i64 z] m (.bool (decide (z ∈ l))) := by
 obtain ⟨A, n, c, rfl, -⟩ := id hl
 refine Fn.enter (N := 9) hX Tryz.func48 rfl rfl (by show _ ≤ _; simp) (fun w0 hL => ?_)
 conv => whnf
 refine go ?_;try(clear hL;intro w hL)
 refine CallReq.val (index_fn m _ l z hl) hL ?_
 clear hL
 intro w hL
 refine go ?_;try(clear hL;intro w hL)
 exact RetReq.bool hL (decide_eq_decide.2 (idxI_pos l))
theorem is_fn (m : Mem) (b : Nat) (z y : Int) : FnL Tryz.prog 219 [.int .i64 y, .pointer (some ⟨b, 0, none⟩)] m [(b, .cells (toArr [.int .i64 z]) 3 (0, 0))] (.bool (decide (y = z))) := by
 refine Fn.enter (N := 7) hX Tryz.func219 rfl rfl (by show _ ≤ _; simp) (fun w0 hL => ?_)
 conv => whnf
 generalize keys [(b, Obj.cells (toArr [.int .i64 z]) 3 (0, 0))] = S0 at hL ⊢
 refine go ?_;try(clear hL;intro w hL)
 exact RetReq.mk hL ⟨rfl, rfl, rfl⟩
theorem indexF_fn (m : Mem) (b : Nat) (z : Int) (v : Value) (l : List Int) (hl : SlI m .i64 v l) (hz : z ∉ l) :
  FnL Tryz.prog 128 [v, .func (.func 219) #[] #[.pointer (some ⟨b, 0, none⟩)]] m [(b, .cells (toArr [.int .i64 z]) 3 (0, 0))] (.int .i64 (-1)) := by
 obtain ⟨A, n, c, rfl, hn, hc, hm, -⟩ := id hl
 have hcell := hl.cell.2
 have hmx : maxLen = 9223372036854775807 := rfl
 refine Fn.enter (N := 19) hX Tryz.func128 rfl rfl (by show _ ≤ _; simp) (fun w0 hL => ?_)
 conv => whnf
 generalize keys [(b, Obj.cells (toArr [.int .i64 z]) 3 (0, 0))] = S0 at hL ⊢
 refine go ?_;try(clear hL;intro w hL)
 refine LoopReq.inv hX (fun j : Nat => [(8, .int .i64 j)]) [0, 1, 7]
  (fun j w => j ≤ n ∧ Ev.Loc m S0 w0 m [(b, .cells (toArr [.int .i64 z]) 3 (0, 0))] w) (fun j => n - j) 0
  ⟨by omega, hL⟩ ⟨rfl, trivial⟩ ?_
 clear hL
 rintro j w g ⟨hj, hL⟩
 refine go ?_;try(clear hL;intro w hL)
 refine BrReq.dec (fun hlt => ?_) (fun hlt => ?_)
 ·have hlt' : j < l.length := by omega
  have hx := List.getElem?_eq_getElem hlt'
  obtain ⟨a, ea, hc'⟩ := hcell j _ hx
  generalize l[j] = y at hx hc'
  have hyz : ¬ y = z := fun e => hz (e ▸ List.mem_of_getElem? hx)
  conv => whnf
  repeat ((first | refine Idx2Req.mk j a rfl (by omega) ea ?_ | refine LdReq.one hX rfl rfl hL hc' ?_ | (refine go1 ?_;try(clear hL;intro w hL))); conv => whnf)
  refine CallReq.lo (is_fn m b z y) hL ?_
  clear hL
  intro w hL
  rw [decide_eq_false hyz]
  refine go ?_;try(clear hL;intro w hL)
  exact rnd (j + 1) ⟨by omega, hL⟩
 ·refine go ?_;try(clear hL;intro w hL)
  exact RetReq.mk hL ⟨rfl, rfl, rfl⟩
theorem fn_same {P : Program} {f : Nat} {args : List Value} {m : Mem} {v : Value} (h : ∀ w, Calls P f (toArr args) w fun e w' => e = .returned v ∧ w' = w) : FnV P f args m v := by
 intro w hw
 refine (h w).mono ?_
 rintro e w' ⟨rfl, rfl⟩
 exact ⟨v, m, [], rfl, ⟨rfl, rfl, rfl, Nat.le_refl _, fun k hk _ => rfl, hw.sub, fun _ _ _ => by simp [keys], fun x hx => by simp at hx, by simp [keys], fun b hb => by simp [keys] at hb, Mem.Le.refl m, fun b o hb => .inl hb⟩, rfl, rfl⟩
theorem bitsLen_fn (m : Mem) (n : Nat) (h : n ≤ 1000000) : FnV Tryz.prog 172 [.int .u64 n] m (.int .i64 (Lib.bitLen n : Nat)) :=
 fn_same fun w => by
  have := Tryz.bits_Len n w (by omega) (by omega)
  rwa [Int.toNat_natCast] at this
end Go.Proofs.YtaooenndoopgdaaGreatDoor.ar
namespace Go.Proofs.YtaooenndoopgdaaGreatDoor.ar
open Go Go.Ev Go.Proofs Go.Sort
theorem putRow_get {w : World} {g q n : Nat} {cur : List Value} {te : TypeId} {os : Array Obj} {zs : List Int} (hg : w.heap[g]? = some (.cells (toArr cur) te (0, 0))) (hn : zs.length = n) (hc : n ≤ cur.length) :
  (grow (putRow (Value.int .i64) (Sort.ahead w q) g 0 zs.toArray) os).heap[g]? = some (.cells (toArr (ints .i64 zs ++ cur.drop n)) te (0, 0)) ∧
  ∀ k, k < w.heap.size → k ≠ g → (grow (putRow (Value.int .i64) (Sort.ahead w q) g 0 zs.toArray) os).heap[k]? = w.heap[k]? := by
 have hgl : g < w.heap.size := heap_lt hg
 have e : ∀ k, k < w.heap.size → (grow (putRow (Value.int .i64) (Sort.ahead w q) g 0 zs.toArray) os).heap[k]? = if g = k then (w.heap[k]?).map (onCells (putCells (Value.int .i64) 0 zs.toArray)) else w.heap[k]? := by
  intro k hk
  show ((w.heap.modify g (onCells (putCells (Value.int .i64) 0 zs.toArray))) ++ os)[k]? = _
  rw [Array.getElem?_append_left (by simpa using hk), Array.getElem?_modify]
 refine ⟨?_, fun k hk hne => by rw [e k hk, if_neg (fun h => hne h.symm)]⟩
 rw [e g hgl, if_pos rfl, hg]
 simp only [Option.map_some, onCells]
 congr 2
 apply Array.ext_getElem?
 intro k
 simp only [putCells, toArr, Array.getElem?_mapIdx, List.getElem?_toArray, List.size_toArray]
 by_cases hk : k < n
 ·rw [List.getElem?_append_left (by simp [ints]; omega)]
  rw [List.getElem?_eq_getElem (by omega : k < cur.length)]
  simp only [Option.map_some]
  rw [if_pos ⟨by omega, by omega⟩]
  simp only [ints, List.getElem?_map, Nat.sub_zero]
  rw [List.getElem?_eq_getElem (by omega : k < zs.length)]
  simp [getElem!_pos, show k < zs.length by omega]
 ·rw [List.getElem?_append_right (by simp [ints]; omega)]
  simp only [ints, List.length_map, List.getElem?_drop]
  rw [show n + (k - zs.length) = k by omega]
  cases cur[k]? with
  | none => rfl
  | some v => simp only [Option.map_some]; rw [if_neg (by omega)]
theorem loc_row {m : Mem} {w : World} {g q n : Nat} {cur : List Value} {te : TypeId} {os : Array Obj} {zs : List Int} (h : Pre m [(g, .cells (toArr cur) te (0, 0))] w) (hn : zs.length = n) (hc : n ≤ cur.length) :
  Ev.Loc m [g] w m [(g, .cells (toArr (ints .i64 zs ++ cur.drop n)) te (0, 0))] (grow (putRow (Value.int .i64) (Sort.ahead w q) g 0 zs.toArray) os) := by
 have hg := h.own _ List.mem_cons_self
 obtain ⟨h1, h2⟩ := putRow_get (q := q) (os := os) hg hn hc
 have hsz : w.heap.size ≤ (grow (putRow (Value.int .i64) (Sort.ahead w q) g 0 zs.toArray) os).heap.size := by simp
 refine ⟨rfl, rfl, rfl, hsz, fun k hk hs => h2 k hk (fun e => hs (by simp [e])), fun b o hb => ?_, fun b o hb => h.apart b o hb, fun x hx => ?_, h.nodup, fun b hb => .inr hb, Mem.Le.refl m, fun b o hb => .inl hb⟩
 ·have h3 := h.sub b o hb
  have hne : b ≠ g := fun e => h.apart b o hb (by simp [keys, e])
  rw [h2 b (heap_lt h3) hne]; exact h3
 ·rw [List.mem_singleton.1 hx]; exact h1
theorem holds_own {w : World} {g n : Nat} {cur : List Value} {te : TypeId} {zs : List Int} (hg : w.heap[g]? = some (.cells (toArr cur) te (0, 0))) (hn : zs.length = n) (ht : cur.take n = ints .i64 zs) : Holds (Value.int .i64) w g 0 zs.toArray := by
 intro j hj
 simp only [List.size_toArray] at hj
 have h1 : cur[j]? = some (.int .i64 zs[j]) := by
  have : (cur.take n)[j]? = (ints .i64 zs)[j]? := by rw [ht]
  rw [List.getElem?_take_of_lt (by omega)] at this
  rw [this]; simp [ints, List.getElem?_eq_getElem hj]
 refine ⟨?_, ?_⟩
 ·unfold World.cell?
  simp only [hg, Nat.zero_add]
  show (toArr cur)[j]? = _
  rw [toArr, List.getElem?_toArray, h1]
  simp [getElem!_pos, hj]
 ·unfold World.frozen?
  simp only [hg]
  simp
def sortI (zs : List Int) : List Int := zs.mergeSort fun x y => decide (x ≤ y)
theorem sortG_fn (m : Mem) (A : Option Addr) (n c : Nat) (zs : List Int) (L1 : Own) (ho : OwnS 3 1 (.slice A n c) (ints .i64 zs) L1) (hb : zs.length ≤ 1000000) :
  Ev.Fn Tryz.prog 130 [.slice A n c] m L1 fun m' L' u => m' = m ∧ u = .tuple (toArr []) ∧ OwnS 3 1 (.slice A n c) (ints .i64 (sortI zs)) L' := by
 obtain ⟨k, hk, ⟨e, h0, rfl⟩ | ⟨g, cap, cur, e, rfl, h1, h2, h3, h4⟩⟩ := ho
 ·cases e
  have hz : zs = [] := List.eq_nil_of_length_eq_zero (by simp [ints] at hk; omega)
  subst hz
  intro w hw
  refine (Tryz.slices_Sort_int_none none 0 w).mono ?_
  rintro e w' ⟨rfl, rfl⟩
  exact ⟨_, m, [], rfl, hw.loc, rfl, rfl, by rw [show sortI [] = [] from by unfold sortI; simp]; exact OwnS.nil _ _⟩
 ·cases e
  have hzl : zs.length = n := by simpa [ints] using hk
  intro w hw
  have hg := hw.own _ List.mem_cons_self
  rw [Nat.mul_one] at h4
  have hH := holds_own hg hzl h4
  have hcall := Tryz.slices_Sort_int g 0 c zs w hH (heap_lt hg) (by omega)
  rw [hzl] at hcall
  refine hcall.mono ?_
  rintro e w' ⟨rfl, q, os, rfl⟩
  have hsl : (sortI zs).length = n := by unfold sortI; rw [List.length_mergeSort]; exact hzl
  have hcl : n ≤ cur.length := by omega
  refine ⟨_, m, _, rfl, loc_row (zs := sortI zs) hw hsl hcl, rfl, rfl, n, by simp [ints, hsl], .inr ⟨g, c, _, rfl, rfl, h1, h2, ?_, ?_⟩⟩
  ·simp [ints, hsl]; omega
  ·rw [Nat.mul_one, List.take_left' (by simp [ints, hsl])]
theorem compactG_fn (m : Mem) (A : Option Addr) (n c : Nat) (zs : List Int) (L1 : Own) (ho : OwnS 3 1 (.slice A n c) (ints .i64 zs) L1) (hb : zs.length ≤ 1000000) :
  Ev.Fn Tryz.prog 131 [.slice A n c] m L1 fun m' L' u => m' = m ∧ OwnS 3 1 u (ints .i64 (Lib.compact zs)) L' := by
 obtain ⟨k, hk, ⟨e, h0, rfl⟩ | ⟨g, cap, cur, e, rfl, h1, h2, h3, h4⟩⟩ := ho
 ·cases e
  have hz : zs = [] := List.eq_nil_of_length_eq_zero (by simp [ints] at hk; omega)
  subst hz
  intro w hw
  refine (Tryz.slices_Compact_int_empty none 0 w).mono ?_
  rintro e w' ⟨rfl, rfl⟩
  exact ⟨_, m, [], rfl, hw.loc, rfl, OwnS.nil _ _⟩
 ·cases e
  have hzl : zs.length = n := by simpa [ints] using hk
  have hcl : (Lib.compact zs).length ≤ zs.length := by
   unfold Lib.compact Lib.compactUpTo
   rw [List.length_map]
   have := List.length_filter_le (Lib.keeps zs.toArray) (List.range zs.length)
   rwa [List.length_range] at this
  intro w hw
  have hg := hw.own _ List.mem_cons_self
  rw [Nat.mul_one] at h4
  have hH := holds_own hg hzl h4
  have hcall := Tryz.slices_Compact_int g 0 c zs w hH (by omega) (by omega)
  generalize Lib.compact zs = ys at hcl hcall ⊢
  rw [hzl] at hcall
  refine hcall.mono ?_
  rintro e w' ⟨rfl, q, rfl⟩
  have hsl : (ys ++ List.replicate (n - ys.length) 0).length = n := by simp; omega
  have hl := loc_row (q := q) (os := #[]) (zs := ys ++ List.replicate (n - ys.length) 0) hw hsl (by omega)
  rw [grow_empty] at hl
  refine ⟨_, m, _, rfl, hl, rfl, ys.length, by simp [ints], .inr ⟨g, c, _, rfl, rfl, by omega, h2, ?_, ?_⟩⟩
  ·simp [ints]; omega
  ·rw [Nat.mul_one, ints_append, List.append_assoc, List.take_left' (by simp [ints])]
end Go.Proofs.YtaooenndoopgdaaGreatDoor.ar
namespace Go.Proofs.YtaooenndoopgdaaGreatDoor.ar
open Go Go.Ev Go.Proofs
theorem owns_get {A : Option Addr} {n c : Nat} {l : List Int} {L1 : Own} (ho : OwnS 3 1 (.slice A n c) (ints .i64 l) L1) : n = l.length ∧ n ≤ c ∧ c ≤ maxLen ∧ (l ≠ [] → ∃ g cur, A = some ⟨g, 0, none⟩ ∧ L1 = [(g, .cells (toArr cur) 3 (0, 0))] ∧ cur.length = c ∧ cur.take n = ints .i64 l ∧ ∀ (j : Nat) (z : Int), l[j]? = some z → cur[j]? = some (.int .i64 z)) := by
 obtain ⟨k, hk, ⟨e, h0, rfl⟩ | ⟨g, cap, cur, e, rfl, h1, h2, h3, h4⟩⟩ := ho
 ·cases e
  have hz : l = [] := List.eq_nil_of_length_eq_zero (by simp [ints] at hk; omega)
  subst hz
  exact ⟨rfl, Nat.le_refl _, by decide, fun h => absurd rfl h⟩
 ·cases e
  rw [Nat.mul_one] at h3 h4
  have hl : n = l.length := by simpa [ints] using hk.symm
  refine ⟨hl, h1, h2, fun _ => ⟨g, cur, rfl, rfl, h3, h4, fun j z hz => ?_⟩⟩
  have hj := (List.getElem?_eq_some_iff.1 hz).1
  have : (cur.take n)[j]? = (ints .i64 l)[j]? := by rw [h4]
  rw [List.getElem?_take_of_lt (by omega)] at this
  rw [this]; simp [ints, hz]
theorem indexO_fn (m : Mem) (A : Option Addr) (n c : Nat) (l : List Int) (L1 : Own) (ho : OwnS 3 1 (.slice A n c) (ints .i64 l) L1) (z : Int) : FnL Tryz.prog 78 [.slice A n c, .int .i64 z] m L1 (.int .i64 (idxI z l)) := by
 obtain ⟨hn, hnc, hm, hget⟩ := owns_get ho
 have hmx : maxLen = 9223372036854775807 := rfl
 refine Fn.enter (N := 19) hX Tryz.func78 rfl rfl (by show _ ≤ _; simp) (fun w0 hL => ?_)
 conv => whnf
 generalize keys L1 = S0 at hL ⊢
 refine go ?_;try(clear hL;intro w hL)
 refine LoopReq.inv hX (fun j : Nat => [(8, .int .i64 j)]) [0, 1, 7]
  (fun j w => (j ≤ n ∧ ∀ (i : Nat), i < j → l[i]? ≠ some z) ∧ Ev.Loc m S0 w0 m L1 w) (fun j => n - j) 0
  ⟨⟨by omega, fun i h => absurd h (by omega)⟩, hL⟩ ⟨rfl, trivial⟩ ?_
 clear hL
 rintro j w g ⟨⟨hj, hdone⟩, hL⟩
 refine go ?_;try(clear hL;intro w hL)
 refine BrReq.dec (fun hlt => ?_) (fun hlt => ?_)
 ·have hlt' : j < l.length := by omega
  have hx := List.getElem?_eq_getElem hlt'
  obtain ⟨g, cur, rfl, rfl, -, -, hc⟩ := hget (fun e => by rw [e] at hlt'; simp at hlt')
  have hc' := hc j _ hx
  generalize l[j] = y at hx hc'
  conv => whnf
  repeat ((first | refine Idx2Req.mk j _ rfl (by omega) rfl ?_ | (refine LdReq.ownC hX rfl rfl hL .h (by rw [scale_eq, Nat.zero_add, Nat.mul_one]; exact hc') ?_) | (refine go1 ?_;try(clear hL;intro w hL))); conv => whnf)
  by_cases hyz : z = y
  ·subst hyz
   conv => whnf
   repeat ((first | refine BrReq.yes rfl ?_ | (refine go1 ?_;try(clear hL;intro w hL))); conv => whnf)
   refine RetReq.mk hL ⟨rfl, rfl, ?_⟩
   rw [idxI_at l j hx fun q hq => hdone q hq]; rfl
  ·have hd : ∀ (i : Nat), i < j + 1 → l[i]? ≠ some z := fun i hi e => by
    by_cases h1 : i = j
    ·subst h1; rw [hx] at e; cases e; exact hyz rfl
    ·exact hdone i (by omega) e
   conv => whnf
   repeat ((first | refine BrReq.no hyz ?_ | (refine go1 ?_;try(clear hL;intro w hL))); conv => whnf)
   exact rnd (j + 1) ⟨⟨by omega, hd⟩, hL⟩
 ·refine go ?_;try(clear hL;intro w hL)
  refine RetReq.mk hL ⟨rfl, rfl, ?_⟩
  rw [idxI_none l fun h => by
   obtain ⟨i, hi, e⟩ := List.getElem_of_mem h
   exact hdone i (by omega) (by rw [List.getElem?_eq_getElem hi, e])]; rfl
theorem containsO_fn (m : Mem) (A : Option Addr) (n c : Nat) (l : List Int) (L1 : Own) (ho : OwnS 3 1 (.slice A n c) (ints .i64 l) L1) (z : Int) : FnL Tryz.prog 48 [.slice A n c, .int .i64 z] m L1 (.bool (decide (z ∈ l))) := by
 refine Fn.enter (N := 9) hX Tryz.func48 rfl rfl (by show _ ≤ _; simp) (fun w0 hL => ?_)
 conv => whnf
 generalize keys L1 = S0 at hL ⊢
 refine go ?_;try(clear hL;intro w hL)
 refine CallReq.lo (indexO_fn m A n c l L1 ho z) hL ?_
 clear hL
 intro w hL
 refine go ?_;try(clear hL;intro w hL)
 exact RetReq.mk hL ⟨rfl, rfl, congrArg Value.bool (decide_eq_decide.2 (idxI_pos l))⟩
theorem indexFO_fn (m : Mem) (b : Nat) (z : Int) (A : Option Addr) (n c : Nat) (l : List Int) (L1 : Own) (ho : OwnS 3 1 (.slice A n c) (ints .i64 l) L1) :
  FnL Tryz.prog 128 [.slice A n c, .func (.func 219) #[] #[.pointer (some ⟨b, 0, none⟩)]] m ((b, .cells (toArr [.int .i64 z]) 3 (0, 0)) :: L1) (.int .i64 (idxI z l)) := by
 obtain ⟨hn, hnc, hm, hget⟩ := owns_get ho
 have hmx : maxLen = 9223372036854775807 := rfl
 refine Fn.enter (N := 19) hX Tryz.func128 rfl rfl (by show _ ≤ _; simp) (fun w0 hL => ?_)
 conv => whnf
 generalize keys ((b, Obj.cells (toArr [.int .i64 z]) 3 (0, 0)) :: L1) = S0 at hL ⊢
 refine go ?_;try(clear hL;intro w hL)
 refine LoopReq.inv hX (fun j : Nat => [(8, .int .i64 j)]) [0, 1, 7]
  (fun j w => (j ≤ n ∧ ∀ (i : Nat), i < j → l[i]? ≠ some z) ∧ Ev.Loc m S0 w0 m ((b, .cells (toArr [.int .i64 z]) 3 (0, 0)) :: L1) w) (fun j => n - j) 0
  ⟨⟨by omega, fun i h => absurd h (by omega)⟩, hL⟩ ⟨rfl, trivial⟩ ?_
 clear hL
 rintro j w g ⟨⟨hj, hdone⟩, hL⟩
 refine go ?_;try(clear hL;intro w hL)
 refine BrReq.dec (fun hlt => ?_) (fun hlt => ?_)
 ·have hlt' : j < l.length := by omega
  have hx := List.getElem?_eq_getElem hlt'
  obtain ⟨g, cur, rfl, rfl, -, -, hc⟩ := hget (fun e => by rw [e] at hlt'; simp at hlt')
  have hc' := hc j _ hx
  generalize l[j] = y at hx hc'
  conv => whnf
  repeat ((first | refine Idx2Req.mk j _ rfl (by omega) rfl ?_ | (refine LdReq.ownC hX rfl rfl hL (.t .h) (by rw [scale_eq, Nat.zero_add, Nat.mul_one]; exact hc') ?_) | (refine go1 ?_;try(clear hL;intro w hL))); conv => whnf)
  refine CallReq.li (L1 := [(b, .cells (toArr [.int .i64 z]) 3 (0, 0))]) (L2 := [_]) (is_fn m b z y) hL ?_
  clear hL
  intro w hL
  by_cases hyz : y = z
  ·subst hyz
   rw [decide_eq_true rfl]
   refine go ?_;try(clear hL;intro w hL)
   refine RetReq.mk hL ⟨rfl, rfl, ?_⟩
   rw [idxI_at l j hx fun q hq => hdone q hq]; rfl
  ·have hd : ∀ (i : Nat), i < j + 1 → l[i]? ≠ some z := fun i hi e => by
    by_cases h1 : i = j
    ·subst h1; rw [hx] at e; cases e; exact hyz rfl
    ·exact hdone i (by omega) e
   rw [decide_eq_false hyz]
   refine go ?_;try(clear hL;intro w hL)
   exact rnd (j + 1) ⟨⟨by omega, hd⟩, hL⟩
 ·refine go ?_;try(clear hL;intro w hL)
  refine RetReq.mk hL ⟨rfl, rfl, ?_⟩
  rw [idxI_none l fun h => by
   obtain ⟨i, hi, e⟩ := List.getElem_of_mem h
   exact hdone i (by omega) (by rw [List.getElem?_eq_getElem hi, e])]; rfl
theorem zero_rep (n : Nat) (z : Value) (hz : z.cells = #[z]) : (Builtin.zeroCells z.cells n).toList = List.replicate n z := by
 rw [hz]
 simp [Builtin.zeroCells]
 apply List.ext_getElem
 ·simp
 ·intro i h1 h2
  simp [Nat.mod_one]
theorem GenReq.clear {o : Oper} {ρ : Operand → Value} {c : Call} {m0 m : Mem} {S : List Nat} {w0 w : World} {L : Own} {t e ty : TypeId} {g off n cap : Nat} {cur : List Value} {z : Value} {K : Value → World → Prop} (ho : o.op = .call c) (hc : c.callee = .builtin .clear) (hat : c.argTypes = #[t])
  (hu : Tryz.prog.underlying t = some (.slice e)) (hz0 : ∀ w, (zeroValue e).run Tryz.prog w = .ok z w) (hz : z.cells = #[z]) (h1 : z.oneCell' = true) (ha : c.args.toList.map ρ = [.slice (some ⟨g, off, none⟩) n cap]) (hn : 0 < n) (i : Nat)
  (hL : Ev.Loc m0 S w0 m L w) (hi : Ev.look L i = some (g, .cells (toArr cur) ty (0, 0))) (hle : off + n ≤ cur.length)
  (h : ∀ w', Ev.Loc m0 S w0 m (L.set i (g, .cells (toArr (spliceL cur off (List.replicate n z))) ty (0, 0))) w' → K (.tuple #[]) w') : GenReq Tryz.prog o ρ w K := by
 constructor
 unfold OpOk
 have hargs : c.args.map ρ = #[.slice (some ⟨g, off, none⟩) n cap] := by apply Array.ext'; rw [Array.toList_map, ha]
 have hex : execOp ρ o = (do pure (.value (← Builtin.clear_ c.argTypes o.type #[.slice (some ⟨g, off, none⟩) n cap]))) := by rw [← hargs]; simp [execOp, ho, resolve, hc, invoke, builtin]
 obtain ⟨w', hst, hl⟩ := run_storeCells (P := Tryz.prog) ty (List.replicate n z) 0 hL hi (by simpa using hle) (by intro v hv; rw [List.eq_of_mem_replicate hv]; exact h1)
 obtain ⟨k, rfl⟩ : ∃ k, n = k + 1 := ⟨n - 1, by omega⟩
 have hrun : (Builtin.clear_ c.argTypes o.type #[.slice (some ⟨g, off, none⟩) (k + 1) cap]).run Tryz.prog w = .ok (.tuple #[]) w' := by
  rw [hat]
  simp [Builtin.clear_, run_underlying hu, hz0, zero_rep _ _ hz, hst]
 rw [hex]
 simp only [Sem.run_bind, hrun, Result.andThen_ok, Sem.run_pure, upon]
 exact h w' (by simpa using hl)
def dropI (z : Int) (l : List Int) : List Int := l.filter fun y => decide (y ≠ z)
theorem dropI_none {z : Int} {l : List Int} (h : z ∉ l) : dropI z l = l := by
 unfold dropI
 rw [List.filter_eq_self]
 intro y hy
 exact decide_eq_true fun e => h (e ▸ hy)
theorem dropI_take {z : Int} {l : List Int} {j : Nat} (h : j < l.length) : dropI z (l.take (j + 1)) = dropI z (l.take j) ++ (if l[j] = z then [] else [l[j]]) := by
 unfold dropI
 rw [List.take_succ_eq_append_getElem h, List.filter_append]
 congr 1
 by_cases e : l[j] = z
 ·rw [if_pos e, List.filter_cons, if_neg (by simp [e])]; rfl
 ·rw [if_neg e, List.filter_cons, if_pos (by simp [e])]; rfl
theorem idxI_spec {z : Int} : ∀ (l : List Int) (i : Nat), idxI z l = i → l[i]? = some z ∧ z ∉ l.take i
 | [], i, h => by simp only [idxI] at h; omega
 | a :: l, i, h => by
   simp only [idxI] at h
   by_cases e : a = z
   ·rw [if_pos e] at h
    obtain rfl : i = 0 := by omega
    exact ⟨by rw [e]; rfl, by simp⟩
   ·rw [if_neg e] at h
    by_cases h2 : idxI z l < 0
    ·rw [if_pos h2] at h; omega
    ·rw [if_neg h2] at h
     obtain ⟨i', rfl⟩ : ∃ i', i = i' + 1 := ⟨i - 1, by omega⟩
     obtain ⟨h3, h4⟩ := idxI_spec (z := z) l i' (by omega)
     refine ⟨by simpa using h3, ?_⟩
     rw [List.take_succ_cons, List.mem_cons]
     rintro (h5 | h5)
     ·exact e h5.symm
     ·exact h4 h5
theorem dropI_len (z : Int) (l : List Int) : (dropI z l).length ≤ l.length := List.length_filter_le _ _
theorem splice_keep : ∀ (vs cur : List Value) (off k : Nat), k ≤ off → (spliceL cur off vs).take k = cur.take k ∧ (spliceL cur off vs).length = cur.length
 | [], cur, off, k, _ => ⟨rfl, rfl⟩
 | v :: vs, cur, off, k, h => by
   obtain ⟨h1, h2⟩ := splice_keep vs (cur.set off v) (off + 1) k (by omega)
   rw [spliceL]
   refine ⟨?_, by rw [h2, List.length_set]⟩
   rw [h1, List.take_set, List.set_eq_of_length_le (by rw [List.length_take]; omega)]
set_option maxHeartbeats 1000000 in
theorem deleteG_fn (m : Mem) (b : Nat) (z : Int) (A : Option Addr) (n c : Nat) (l : List Int) (L1 : Own) (ho : OwnS 3 1 (.slice A n c) (ints .i64 l) L1) :
  Ev.Fn Tryz.prog 87 [.slice A n c, .func (.func 219) #[] #[.pointer (some ⟨b, 0, none⟩)]] m ((b, .cells (toArr [.int .i64 z]) 3 (0, 0)) :: L1)
   fun m' L' u => m' = m ∧ ∃ Lo, L' = (b, .cells (toArr [.int .i64 z]) 3 (0, 0)) :: Lo ∧ OwnS 3 1 u (ints .i64 (dropI z l)) Lo := by
 have hidx := indexFO_fn m b z A n c l L1 ho
 obtain ⟨hn, hnc, hm, hget⟩ := owns_get ho
 have hmx : maxLen = 9223372036854775807 := rfl
 refine Fn.enter (N := 42) hX Tryz.func87 rfl rfl (by show _ ≤ _; simp) (fun w0 hL => ?_)
 conv => whnf
 generalize keys ((b, Obj.cells (toArr [.int .i64 z]) 3 (0, 0)) :: L1) = S0 at hL ⊢
 refine go ?_;try(clear hL;intro w hL)
 refine CallReq.lo hidx hL ?_
 clear hL
 intro w hL
 by_cases hz : z ∈ l
 rotate_left
 ·rw [idxI_none l hz]
  refine go ?_;try(clear hL;intro w hL)
  exact RetReq.mk hL ⟨rfl, L1, rfl, by rw [dropI_none hz]; exact ho⟩
 ·obtain ⟨i0, hi0⟩ : ∃ i0 : Nat, idxI z l = i0 := ⟨(idxI z l).toNat, by have := (idxI_pos (z := z) l).2 hz; omega⟩
  rw [hi0]
  obtain ⟨hsp, hno⟩ := idxI_spec l i0 hi0
  have hil := (List.getElem?_eq_some_iff.1 hsp).1
  obtain ⟨g, cur, rfl, rfl, hcl, hct, hcg⟩ := hget (fun e => by rw [e] at hil; simp at hil)
  have hd0 : dropI z (l.take (i0 + 1)) = l.take i0 := by
   rw [dropI_take hil, if_pos (List.getElem?_eq_some_iff.1 hsp).2, List.append_nil, dropI_none hno]
  refine go ?_;try(clear hL;intro w hL)
  refine LoopReq.inv hX (fun s : Nat × Nat => [(5, .int .i64 s.1), (6, .int .i64 s.2)]) [0, 1]
   (fun s w => (s.1 < s.2 ∧ s.2 ≤ n ∧ s.1 = (dropI z (l.take s.2)).length) ∧ ∃ cur : List Value, (cur.length = c ∧ cur.take s.1 = ints .i64 (dropI z (l.take s.2)) ∧ ∀ (q : Nat) (y : Int), s.2 ≤ q → l[q]? = some y → cur[q]? = some (.int .i64 y)) ∧
    Ev.Loc m S0 w0 m [(b, .cells (toArr [.int .i64 z]) 3 (0, 0)), (g, .cells (toArr cur) 3 (0, 0))] w) (fun s => n - s.2) (i0, i0 + 1)
   ⟨⟨by simp, by simp only; omega, by simp only; rw [hd0, List.length_take]; omega⟩, cur, ⟨hcl, by
     simp only
     rw [hd0]
     have : cur.take i0 = (cur.take n).take i0 := by rw [List.take_take]; congr 1; omega
     rw [this, hct]; simp [ints, List.map_take], fun q y _ hq => hcg q y hq⟩, hL⟩ ⟨rfl, rfl, trivial⟩ ?_
  clear hL hcl hct hcg
  rintro ⟨i, j⟩ w f ⟨⟨hij, hjn, hie⟩, cur, ⟨hcl, hct, hcg⟩, hL⟩
  simp only at hij hjn hie hct hcg
  refine go ?_;try(clear hL;intro w hL)
  refine BrReq.dec (fun hlt => ?_) (fun hlt => ?_)
  ·have hlt' : j < l.length := by simp only at hlt; omega
   have hx := List.getElem?_eq_getElem hlt'
   have hc' := hcg j _ (Nat.le_refl j) hx
   have htk := dropI_take (z := z) hlt'
   generalize l[j] = y at hx hc' htk
   conv => whnf
   repeat ((first | (refine Idx2Req.mk j _ rfl (by simp only at hlt ⊢; omega) rfl ?_) | (refine LdReq.ownC hX rfl rfl hL (.t .h) (by rw [scale_eq, Nat.zero_add, Nat.mul_one]; exact hc') ?_) | (refine go1 ?_;try(clear hL;intro w hL))); conv => whnf)
   refine CallReq.li (L1 := [(b, .cells (toArr [.int .i64 z]) 3 (0, 0))]) (L2 := [_]) (is_fn m b z y) hL ?_
   clear hL
   intro w hL
   by_cases hyz : y = z
   ·rw [decide_eq_true hyz]
    rw [if_pos hyz, List.append_nil] at htk
    refine go ?_;try(clear hL;intro w hL)
    exact rnd (i, j + 1) ⟨⟨by simp only; omega, by simp only; omega, by simp only; rw [htk]; exact hie⟩, cur, ⟨hcl, by simp only; rw [htk]; exact hct, fun q y hq hy => hcg q y (by simp only at hq; omega) hy⟩, hL⟩
   ·rw [decide_eq_false hyz]
    rw [if_neg hyz] at htk
    conv => whnf
    repeat ((first | refine Idx2Req.mk i _ rfl (by omega) rfl ?_ | (refine go1 ?_;try(clear hL;intro w hL))); conv => whnf)
    refine StReq.ownAt hX rfl 1 hL rfl rfl (by rw [scale_eq, Nat.zero_add, Nat.mul_one]; show i + 1 ≤ cur.length; omega) rfl ?_
    clear hL
    intro w hL
    replace hL : Ev.Loc m S0 w0 m [(b, .cells (toArr [.int .i64 z]) 3 (0, 0)), (g, .cells (toArr (spliceL cur (0 + scale i 1) [.int .i64 y])) 3 (0, 0))] w := hL
    rw [scale_eq, Nat.zero_add, Nat.mul_one] at hL
    replace hL : Ev.Loc m S0 w0 m [(b, .cells (toArr [.int .i64 z]) 3 (0, 0)), (g, .cells (toArr (cur.set i (.int .i64 y))) 3 (0, 0))] w := hL
    have hct2 : (cur.set i (.int .i64 y)).take (i + 1) = ints .i64 (dropI z (l.take (j + 1))) := by
     rw [htk, ints_append, ← hct, List.take_set, List.take_succ_eq_append_getElem (by omega : i < cur.length), List.set_append_right _ _ (by rw [List.length_take]; omega)]
     rw [List.length_take, show i - min i cur.length = 0 by omega]; rfl
    refine go ?_;try(clear hL;intro w hL)
    exact rnd (i + 1, j + 1) ⟨⟨by simp only; omega, by simp only; omega, by simp only; rw [htk, List.length_append, ← hie]; rfl⟩, cur.set i (.int .i64 y), ⟨by rw [List.length_set]; exact hcl, hct2, fun q y' hq hy => by rw [List.getElem?_set_ne (by simp only at hq; omega)]; exact hcg q y' (by simp only at hq; omega) hy⟩, hL⟩
  ·have ej : j = n := by simp only at hlt; omega
   subst ej
   rw [hn, List.take_length] at hie hct
   have hin : i < l.length := by omega
   have hci : ¬ c = i := by omega
   have hc0 : ¬ c = 0 := by omega
   conv => whnf
   repeat ((first | refine SlReq.mk i j rfl rfl (by omega) (by omega) ?_ | (refine go1 ?_;try(clear hL;intro w hL))); conv => whnf)
   have hsl : ([Value.slice (if c = i then some ⟨g, 0, none⟩ else Option.map (fun x : Addr => x.add (scale i 1)) (some ⟨g, 0, none⟩)) (j - i) (c - i)] : List Value) = [.slice (some ⟨g, i, none⟩) (j - i) (c - i)] := by
    rw [if_neg hci]
    show [Value.slice (some ((⟨g, 0, none⟩ : Addr).add (scale i 1))) (j - i) (c - i)] = _
    rw [addr_add, scale_eq, Nat.zero_add, Nat.mul_one]
   refine GenReq.clear (z := .int .i64 0) rfl rfl rfl Tryz.underlying53 (fun w => Tryz.zeroValue3 w) rfl rfl hsl (by omega) 1 hL rfl (by omega) ?_
   clear hL
   intro w hL
   obtain ⟨k1, k2⟩ := splice_keep (List.replicate (j - i) (.int .i64 0)) cur i i (Nat.le_refl _)
   replace hL : Ev.Loc m S0 w0 m [(b, .cells (toArr [.int .i64 z]) 3 (0, 0)), (g, .cells (toArr (spliceL cur i (List.replicate (j - i) (.int .i64 0)))) 3 (0, 0))] w := hL
   generalize spliceL cur i (List.replicate (j - i) (.int .i64 0)) = cur2 at hL k1 k2
   conv => whnf
   repeat ((first | refine SlReq.mk 0 i rfl rfl (by omega) (by omega) ?_ | (refine go1 ?_;try(clear hL;intro w hL))); conv => whnf)
   refine RetReq.mk hL ⟨rfl, _, rfl, ?_⟩
   show OwnS 3 1 (.slice (if c = 0 then some ⟨g, 0, none⟩ else Option.map (fun x : Addr => x.add (scale 0 1)) (some ⟨g, 0, none⟩)) (i - 0) (c - 0)) _ _
   rw [if_neg hc0]
   have hbk := OwnS.block (te := 3) (size := 1) (g := g) (n := i) (cap := c) (cur := cur2) (by omega) hm (by omega)
   rw [Nat.mul_one, k1, hct] at hbk
   exact hbk
end Go.Proofs.YtaooenndoopgdaaGreatDoor.ar
namespace Go.Proofs.YtaooenndoopgdaaGreatDoor.ar
open Go Go.Ev Go.Proofs
def kindN (ns : List Nd) (id : Int) : Int := (nodeN ns id).1.k
def memF (ns : List Nd) (kd : Int) : Nat → List Int → List Int → List Int → Option (List Int)
 | 0, _, _, _ => none
 | _ + 1, [], out, _ => some out
 | k + 1, id :: st, out, seen => if id ∈ seen then memF ns kd k st out seen
   else if kindN ns id = kd then memF ns kd k ((nodeN ns id).1.b :: (nodeN ns id).1.a :: st) out (seen ++ [id])
   else memF ns kd k st (out ++ [id]) (seen ++ [id])
def seenW (l : List Int) : List (Value × Value) := l.map fun z => (.int .i64 z, .bool true)
theorem seenW_key {l : List Int} (h : ∀ z ∈ l, i64 z) : ∀ y ∈ seenW l, IsK Tryz.prog 3 y.1 := by
 intro y hy
 obtain ⟨z, hz, rfl⟩ := List.mem_map.1 hy
 exact isK_int z (h z hz)
theorem seenW_mem {l : List Int} {z : Int} {v : Value} (h : ((.int .i64 z, v) : Value × Value) ∈ seenW l) : z ∈ l ∧ v = .bool true := by
 obtain ⟨y, hy, e⟩ := List.mem_map.1 h
 injection e with e1 e2
 injection e1 with _ e3
 exact ⟨e3 ▸ hy, e2.symm⟩
theorem seenW_no {l : List Int} {z : Int} (h : ∀ x ∈ seenW l, x.1 ≠ .int .i64 z) : z ∉ l := fun hm => h (.int .i64 z, .bool true) (List.mem_map.2 ⟨z, hm, rfl⟩) rfl
theorem seenW_set {l : List Int} {z : Int} {q : Nat} {u : Value} (h : (seenW l)[q]? = some (.int .i64 z, u)) : (seenW l).set q (.int .i64 z, .bool true) = seenW l := by
 have h1 := (seenW_mem (List.mem_of_getElem? h)).2
 subst h1
 apply List.ext_getElem?
 intro k
 rw [List.getElem?_set]
 split
 ·rename_i e; subst e
  rw [if_pos (List.getElem?_eq_some_iff.1 h).1, h]
 ·rfl
def okId (ns : List Nd) (z : Int) : Prop := 0 ≤ z ∧ z < ns.length
theorem okId_i64 {ns : List Nd} (hn : ns.length ≤ 20000) {z : Int} (h : okId ns z) : i64 z := by unfold okId at h; unfold i64; omega
theorem nodeN_ok {ns : List Nd} {z : Int} (h : okId ns z) : ∃ x, nodeN ns z = (x, true) ∧ ns[z.toNat]? = some x := by
 unfold nodeN okId at *
 rw [if_pos h]
 have := List.getElem?_eq_getElem (l := ns) (i := z.toNat) (by omega)
 exact ⟨ns[z.toNat], by simp [List.getD, this], this⟩
theorem okId_parts {ns : List Nd} (hO : OkA ns) {z : Int} (h : okId ns z) (hk : kindN ns z = 3 ∨ kindN ns z = 4 ∨ kindN ns z = 5) : okId ns (nodeN ns z).1.a ∧ okId ns (nodeN ns z).1.b := by
 obtain ⟨x, e1, e2⟩ := nodeN_ok h
 unfold kindN at hk
 rw [e1] at hk ⊢
 simp only at hk ⊢
 have := (right_lt (hO.right _ x e2)).1 hk
 unfold okId at *
 omega
theorem cloneG_fn (m : Mem) (v : Value) (l : List Int) (hl : SlI m .i64 v l) (hb : l.length ≤ 1000000) :
  Ev.Fn Tryz.prog 227 [v] m [] fun m' L' u => m' = m ∧ OwnS 3 1 u (ints .i64 l) L' := by
 by_cases h0 : l = []
 rotate_left
 ·exact clone_fn m v l hl h0 hb
 subst h0
 obtain ⟨A, n, c, rfl, hn, hc, hm, -⟩ := id hl
 simp only [List.length_nil] at hn
 subst hn
 cases A with
 | none =>
   refine Fn.enter (N := 8) hX Tryz.func227 rfl rfl (by show _ ≤ _; simp) (fun w0 hL => ?_)
   conv => whnf
   refine go ?_;try(clear hL;intro w hL)
   exact RetReq.mk hL ⟨rfl, OwnS.nil _ _⟩
 | some a =>
   refine Fn.enter (N := 8) hX Tryz.func227 rfl rfl (by show _ ≤ _; simp) (fun w0 hL => ?_)
   conv => whnf
   refine go ?_;try(clear hL;intro w hL)
   refine NewReq.mk hL ?_
   clear hL
   intro g w hL
   conv => whnf
   replace hL : Ev.Loc m [] w0 m ([(g, .cells (toArr []) 3 (0, 0))] ++ []) w := hL
   refine RunReq.append hX 53 3 rfl rfl rfl rfl rfl (OwnS.full (n := 0) (by omega) rfl) hL (news := []) rfl (fun j u hj => by simp at hj) (fun u hu => by simp at hu) (by simp) rfl ?_
   clear hL
   intro A2 n2 c2 L2 w hn2 ho hL
   rw [List.append_nil] at hL
   refine go ?_;try(clear hL;intro w hL)
   exact RetReq.mk hL ⟨rfl, ho⟩
set_option maxHeartbeats 2000000 in
theorem membersG_fn (m : Mem) (ab : Nat) (ns : List Nd) (L : Own) (hA : Ar ab ns L) (hO : OkA ns) (kd : Int) (hkd : kd = 4 ∨ kd = 5) (v : Value) (l : List Int) (hv : SlI m .i64 v l) (hid : ∀ z ∈ l, okId ns z) (hlb : l.length ≤ 20000) (k0 : Nat) (hk0 : k0 ≤ 100000) (res : List Int) (hres : memF ns kd k0 l.reverse [] [] = some res) :
  Ev.Fn Tryz.prog 218 [.pointer (some ⟨ab, 0, none⟩), .int .i64 kd, v] m L fun m' L' u => m' = m ∧ ∃ Lo, L' = Lo ++ L ∧ OwnS 3 1 u (ints .i64 res) Lo := by
 obtain ⟨A, n, c, rfl, -⟩ := id hv
 have hlen := hO.len
 refine Fn.enter (N := 59) hX Tryz.func218 rfl rfl (by show _ ≤ _; simp) (fun w0 hL => ?_)
 conv => whnf
 generalize keys L = S0 at hL ⊢
 refine go ?_;try(clear hL;intro w hL)
 refine RunReq.makeMapW hL ?_
 clear hL
 intro kb w hL
 refine go ?_;try(clear hL;intro w hL)
 refine CallReq.mk (L1 := []) (L2 := (kb, mapW (seenW [])) :: L) (cloneG_fn m _ l hv (by omega)) hL ?_
 clear hL
 rintro u mx Lt w hL - ⟨hmx, ht⟩
 rw [hmx] at hL
 clear hmx mx
 obtain ⟨At, nt, ct, rfl, -⟩ := ht.slice
 refine go ?_;try(clear hL;intro w hL)
 refine LoopReq.inv hX (fun s : Nat × (Option Addr × Nat × Nat) × (Option Addr × Nat × Nat) => [(7, .slice s.2.1.1 s.2.1.2.1 s.2.1.2.2), (9, .slice s.2.2.1 s.2.2.2.1 s.2.2.2.2)]) [0, 1, 8]
  (fun s w => ∃ st out seen, ∃ Lo Lt : Own, (memF ns kd s.1 st out seen = some res ∧ (∀ z ∈ st, okId ns z) ∧ (∀ z ∈ seen, okId ns z) ∧ st.length + 2 * s.1 ≤ 20000 + 2 * k0 ∧ out.length + s.1 ≤ k0) ∧ OwnS 3 1 (.slice s.2.1.1 s.2.1.2.1 s.2.1.2.2) (ints .i64 out) Lo ∧ OwnS 3 1 (.slice s.2.2.1 s.2.2.2.1 s.2.2.2.2) (ints .i64 st.reverse) Lt ∧
   Ev.Loc m S0 w0 m (Lt ++ ((kb, mapW (seenW seen)) :: (Lo ++ L))) w) (fun s => s.1) (k0, (none, 0, 0), (At, nt, ct))
  ⟨l.reverse, [], [], [], Lt, ⟨hres, by simpa using hid, by simp, by simp; omega, by simp⟩, OwnS.nil _ _, by rw [List.reverse_reverse]; exact ht, hL⟩ ⟨rfl, rfl, trivial⟩ ?_
 clear hL ht
 rintro ⟨k, ⟨A1, n1, c1⟩, ⟨A2, n2, c2⟩⟩ w f ⟨st, out, seen, Lo, Lt, ⟨hmem, hst, hseen, hb1, hb2⟩, ho, ht, hL⟩
 simp only at hmem hb1 hb2 ho ht
 obtain ⟨hn2, hnc2, hm2, hget⟩ := owns_get ht
 rw [List.length_reverse] at hn2
 have hmx : maxLen = 9223372036854775807 := rfl
 cases k with
 | zero => simp [memF] at hmem
 | succ k =>
 cases st with
 | nil =>
   rw [memF] at hmem
   cases hmem
   conv => whnf
   repeat ((first | (refine BrReq.no (by simp only [List.length_nil] at hn2; simp only; omega) ?_) | (refine go1 ?_;try(clear hL;intro w hL))); conv => whnf)
   refine RetReq.mk (L := Lo ++ L) ((Loc.back (L1 := Lt) hL).sublist (.cons _ (List.sublist_append_left _ _))) ⟨rfl, Lo, rfl, ho⟩
 | cons id st =>
   simp only [List.length_cons] at hn2 hb1
   obtain ⟨gt, cur, rfl, rfl, hcl, hct, hcg⟩ := hget (by simp)
   have hc' := hcg st.length id (by simp)
   have hidk := hst id (by simp)
   obtain ⟨x, hx1, hx2⟩ := nodeN_ok hidk
   have hnode := Node_fn m ab ns L hA id
   rw [hx1] at hnode
   simp only at hnode
   have hkx : kindN ns id = x.k := by unfold kindN; rw [hx1]
   have hIK := isK_int id (okId_i64 hlen hidk)
   have hks := seenW_key (fun z hz => okId_i64 hlen (hseen z hz))
   have hc0 : ¬ c2 = 0 := by omega
   have ht2 : OwnS 3 1 (.slice (if c2 = 0 then some ⟨gt, 0, none⟩ else Option.map (fun x : Addr => x.add (scale 0 1)) (some ⟨gt, 0, none⟩)) (n2 - 1 - 0) (c2 - 0)) (ints .i64 st.reverse) [(gt, .cells (toArr cur) 3 (0, 0))] := by
    rw [if_neg hc0]
    have hbk := OwnS.block (te := 3) (size := 1) (g := gt) (n := n2 - 1) (cap := c2) (cur := cur) (by omega) hm2 (by omega)
    have e : cur.take ((n2 - 1) * 1) = ints .i64 st.reverse := by
     rw [Nat.mul_one, show cur.take (n2 - 1) = (cur.take n2).take (n2 - 1) by rw [List.take_take]; congr 1; omega, hct, List.reverse_cons, ints_append, List.take_left' (by simp [ints]; omega)]
    rw [e] at hbk
    exact hbk
   replace hL : Ev.Loc m S0 w0 m ((gt, .cells (toArr cur) 3 (0, 0)) :: (kb, mapW (seenW seen)) :: (Lo ++ L)) w := hL
   conv => whnf
   repeat ((first | (refine BrReq.yes (by simp only; omega) ?_) | (refine Idx2Req.mk st.length _ (by simp only; omega) (by simp only; omega) rfl ?_) | (refine LdReq.ownC hX rfl rfl hL .h (by rw [scale_eq, Nat.zero_add, Nat.mul_one]; exact hc') ?_) | (refine SlReq.mk 0 (n2 - 1) rfl (by simp only; omega) (by omega) (by simp only; omega) ?_) | (refine ArReq.i64 (by simp only; omega) (by simp only; omega) ?_) | (refine go1 ?_;try(clear hL;intro w hL))); conv => whnf)
   refine CallReq.li (L1 := L) hnode (Loc.back (L1 := (gt, .cells (toArr cur) 3 (0, 0)) :: (kb, mapW (seenW seen)) :: Lo) hL) ?_
   clear hL
   intro w hL
   have hL := Loc.back (L1 := L) hL
   refine go ?_;try(clear hL;intro w hL)
   refine NewReq.mk hL ?_
   clear hL
   intro b11 w hL
   conv => whnf
   replace hL : Ev.Loc m S0 w0 m ((b11, .cells (toArr (ndC nd0)) 146 (0, 0)) :: (gt, .cells (toArr cur) 3 (0, 0)) :: (kb, mapW (seenW seen)) :: (Lo ++ L)) w := hL
   refine go ?_;try(clear hL;intro w hL)
   refine RunReq.lookW hX rfl rfl key_int (z := .bool false) (by kernel_rfl) hL (.t (.t .h)) hIK hks (fun hno => ?_) (fun v hv => ?_)
   ·have hns := seenW_no hno
    by_cases hk : x.k = kd
    ·have hpt := okId_parts hO hidk (by rw [hkx]; omega)
     rw [hx1] at hpt
     simp only at hpt
     rw [memF, if_neg hns, if_pos (by rw [hkx]; exact hk), hx1] at hmem
     conv => whnf
     repeat ((first | refine BrReq.yes hk ?_ | (refine go1 ?_;try(clear hL;intro w hL))); conv => whnf)
     refine NewReq.mk hL ?_
     clear hL
     intro g2 w hL
     conv => whnf
     replace hL : Ev.Loc m S0 w0 m ((g2, .cells (toArr [.int .i64 x.a, .int .i64 x.b]) 3 (0, 0)) :: (b11, .cells (toArr (ndC x)) 146 (0, 0)) :: (gt, .cells (toArr cur) 3 (0, 0)) :: (kb, mapW (seenW seen)) :: (Lo ++ L)) w := hL
     have hy : OwnS 3 1 (.slice (some ⟨g2, 0, none⟩) 2 2) (ints .i64 [x.a, x.b]) [(g2, .cells (toArr [.int .i64 x.a, .int .i64 x.b]) 3 (0, 0))] := OwnS.full (n := 2) (by omega) rfl
     refine RunReq.cat hX 53 3 rfl rfl rfl rfl rfl ht2 hy (L2 := (b11, .cells (toArr (ndC x)) 146 (0, 0)) :: (kb, mapW (seenW seen)) :: (Lo ++ L)) (hL.perm (List.Perm.cons _ (List.Perm.swap _ _ _))) (by simp [ints]; exact ⟨rfl, rfl⟩) (by simp [ints]; omega) rfl ?_
     clear hL
     intro A3 n3 c3 L3 w hn3 ho3 hL
     rw [← ints_append] at ho3
     refine go ?_;try(clear hL;intro w hL)
     refine RunUReq.updW hX rfl rfl key_int (k := .int .i64 id) (v := .bool true) 1 (hL.perm (List.perm_append_comm)) rfl hIK hks (fun _ w hL => ?_) (fun q u hq w hL => ?_)
     ·have hL := Loc.back (L1 := (b11, .cells (toArr (ndC x)) 146 (0, 0)) :: (kb, mapW (seenW seen ++ [(.int .i64 id, .bool true)])) :: (Lo ++ L)) (L2 := L3) hL
      replace hL : Ev.Loc m S0 w0 m (L3 ++ ((b11, .cells (toArr (ndC x)) 146 (0, 0)) :: (kb, mapW (seenW (seen ++ [id]))) :: (Lo ++ L))) w := by
       rw [show seenW (seen ++ [id]) = seenW seen ++ [(.int .i64 id, .bool true)] from List.map_append ..]; exact hL
      refine go ?_;try(clear hL;intro w hL)
      refine ⟨(k, (A1, n1, c1), (A3, n3, c3)), ⟨x.b :: x.a :: st, out, seen ++ [id], Lo, L3, ⟨hmem, fun z hz => (List.mem_cons.1 hz).elim (fun h => h ▸ hpt.2) fun h => (List.mem_cons.1 h).elim (fun h => h ▸ hpt.1) fun h => hst z (List.mem_cons_of_mem _ h), fun z hz => (List.mem_append.1 hz).elim (hseen z) fun h => (List.mem_singleton.1 h) ▸ hidk, by simp only [List.length_cons]; omega, by simp only; omega⟩, ho, by rw [List.reverse_cons, List.reverse_cons, List.append_assoc]; exact ho3, hL.sublist (List.Sublist.append_left (List.sublist_cons_self _ _) _)⟩, by first | omega | (simp only; omega) | (simp only [List.length_cons, List.length_append]; omega), ?_, ?_⟩
      ·repeat (first | exact trivial | (refine And.intro (by (conv => lhs; whnf) <;> (conv => rhs; whnf) <;> (first | rfl | (rfl))) ?_))
      ·repeat (first | exact trivial | (refine And.intro (by (conv => lhs; whnf) <;> (conv => rhs; whnf) <;> (first | rfl | (rfl))) ?_))
     ·exact absurd (List.mem_of_getElem? hq) (fun h => hns (seenW_mem h).1)
    ·rw [memF, if_neg hns, if_neg (by rw [hkx]; exact hk)] at hmem
     conv => whnf
     repeat ((first | refine BrReq.no hk ?_ | (refine go1 ?_;try(clear hL;intro w hL))); conv => whnf)
     refine NewReq.mk hL ?_
     clear hL
     intro g2 w hL
     conv => whnf
     replace hL : Ev.Loc m S0 w0 m ((g2, .cells (toArr [.int .i64 id]) 3 (0, 0)) :: (b11, .cells (toArr (ndC x)) 146 (0, 0)) :: (gt, .cells (toArr cur) 3 (0, 0)) :: (kb, mapW (seenW seen)) :: (Lo ++ L)) w := hL
     refine go ?_;try(clear hL;intro w hL)
     refine RunReq.push hX 53 3 rfl rfl rfl rfl rfl ho (L2 := L ++ [_, _, _]) (by rw [← List.append_assoc]; exact hL.perm (List.Perm.cons _ (List.perm_append_comm (l₁ := [_, _, _]) (l₂ := Lo ++ L)))) rfl rfl (by simp [ints]; omega) rfl ?_
     clear hL
     intro A3 n3 c3 L3 w hn3 ho3 hL
     rw [← List.append_assoc] at hL
     have hL := Loc.back (L1 := L3 ++ L) (L2 := [_, _, _]) hL
     replace hL : Ev.Loc m S0 w0 m ((b11, .cells (toArr (ndC x)) 146 (0, 0)) :: (gt, .cells (toArr cur) 3 (0, 0)) :: (kb, mapW (seenW seen)) :: (L3 ++ L)) w := hL
     rw [← show ints .i64 (out ++ [id]) = ints .i64 out ++ [Value.int .i64 id] from ints_append ..] at ho3
     refine go ?_;try(clear hL;intro w hL)
     refine RunUReq.updW hX rfl rfl key_int (k := .int .i64 id) (v := .bool true) 2 hL rfl hIK hks (fun _ w hL => ?_) (fun q u hq w hL => ?_)
     ·replace hL : Ev.Loc m S0 w0 m ((b11, .cells (toArr (ndC x)) 146 (0, 0)) :: (gt, .cells (toArr cur) 3 (0, 0)) :: (kb, mapW (seenW (seen ++ [id]))) :: (L3 ++ L)) w := by
       rw [show seenW (seen ++ [id]) = seenW seen ++ [(.int .i64 id, .bool true)] from List.map_append ..]; exact hL
      refine go ?_;try(clear hL;intro w hL)
      refine ⟨(k, (A3, n3, c3), (some ⟨gt, 0, none⟩, n2 - 1, c2)), ⟨st, out ++ [id], seen ++ [id], L3, [_], ⟨hmem, fun z hz => hst z (List.mem_cons_of_mem _ hz), fun z hz => (List.mem_append.1 hz).elim (hseen z) fun h => (List.mem_singleton.1 h) ▸ hidk, by simp only; omega, by simp only [List.length_append, List.length_singleton]; omega⟩, ho3, by rw [if_neg hc0] at ht2; exact ht2, hL.drop⟩, by first | omega | (simp only; omega) | (simp only [List.length_cons, List.length_append]; omega), ?_, ?_⟩
      ·repeat (first | exact trivial | (refine And.intro (by (conv => lhs; whnf) <;> (conv => rhs; whnf) <;> (first | rfl | (rw [if_neg hc0]; rfl))) ?_))
      ·repeat (first | exact trivial | (refine And.intro (by (conv => lhs; whnf) <;> (conv => rhs; whnf) <;> (first | rfl | (rw [if_neg hc0]; rfl))) ?_))
     ·exact absurd (List.mem_of_getElem? hq) (fun h => hns (seenW_mem h).1)
   ·have hm := (seenW_mem hv)
    obtain ⟨hm, rfl⟩ := hm
    rw [memF, if_pos hm] at hmem
    refine go ?_;try(clear hL;intro w hL)
    refine RunUReq.updW hX rfl rfl key_int (k := .int .i64 id) (v := .bool true) 2 hL rfl hIK hks (fun hno _ _ => absurd hm (seenW_no hno)) (fun q u hq w hL => ?_)
    rw [seenW_set hq] at hL
    replace hL : Ev.Loc m S0 w0 m ((b11, .cells (toArr (ndC x)) 146 (0, 0)) :: (gt, .cells (toArr cur) 3 (0, 0)) :: (kb, mapW (seenW seen)) :: (Lo ++ L)) w := hL
    refine go ?_;try(clear hL;intro w hL)
    refine ⟨(k, (A1, n1, c1), (some ⟨gt, 0, none⟩, n2 - 1, c2)), ⟨st, out, seen, Lo, [_], ⟨hmem, fun z hz => hst z (List.mem_cons_of_mem _ hz), hseen, by simp only; omega, by simp only; omega⟩, ho, by rw [if_neg hc0] at ht2; exact ht2, hL.drop⟩, by first | omega | (simp only; omega) | (simp only [List.length_cons, List.length_append]; omega), ?_, ?_⟩
    ·repeat (first | exact trivial | (refine And.intro (by (conv => lhs; whnf) <;> (conv => rhs; whnf) <;> (first | rfl | (rw [if_neg hc0]; rfl))) ?_))
    ·repeat (first | exact trivial | (refine And.intro (by (conv => lhs; whnf) <;> (conv => rhs; whnf) <;> (first | rfl | (rw [if_neg hc0]; rfl))) ?_))
end Go.Proofs.YtaooenndoopgdaaGreatDoor.ar
namespace Go.Proofs.YtaooenndoopgdaaGreatDoor.ar
open Go Go.Ev Go.Proofs
theorem ofInt_nat {n : Nat} (a : Nat) : BitVec.ofInt n (a : Int) = BitVec.ofNat n a := by
 apply BitVec.eq_of_toNat_eq
 rw [BitVec.toNat_ofInt, BitVec.toNat_ofNat]
 omega
structure S4 where
 x0 : Int
 x1 : Int
 x2 : Int
 x3 : Int
 deriving DecidableEq
def S4.get (s : S4) (q : Nat) : Int := if q = 0 then s.x0 else if q = 1 then s.x1 else if q = 2 then s.x2 else s.x3
structure InS (s : S4) : Prop where
 h0 : u64 s.x0
 h1 : u64 s.x1
 h2 : u64 s.x2
 h3 : u64 s.x3
def stC (s : S4) : List Value := [.int .u64 s.x0, .int .u64 s.x1, .int .u64 s.x2, .int .u64 s.x3]
def z4 : S4 := ⟨0, 0, 0, 0⟩
def orI (a b : Int) : Int := ((a.toNat ||| b.toNat : Nat) : Int)
def andI (a b : Int) : Int := ((a.toNat &&& b.toNat : Nat) : Int)
def un4 (s t : S4) : S4 := ⟨orI s.x0 t.x0, orI s.x1 t.x1, orI s.x2 t.x2, orI s.x3 t.x3⟩
def in4 (s t : S4) : S4 := ⟨andI s.x0 t.x0, andI s.x1 t.x1, andI s.x2 t.x2, andI s.x3 t.x3⟩
theorem inS_get {s : S4} (h : InS s) (q : Nat) : u64 (s.get q) := by
 unfold S4.get
 split
 ·exact h.h0
 split
 ·exact h.h1
 split
 ·exact h.h2
 ·exact h.h3
theorem stC_get (s : S4) {q : Nat} (h : q < 4) : (stC s)[q]? = some (.int .u64 (s.get q)) := by
 have : q = 0 ∨ q = 1 ∨ q = 2 ∨ q = 3 := by omega
 rcases this with rfl | rfl | rfl | rfl <;> rfl
def upd4 (s : S4) (q : Nat) (x : Int) : S4 := if q = 0 then { s with x0 := x } else if q = 1 then { s with x1 := x } else if q = 2 then { s with x2 := x } else { s with x3 := x }
theorem stC_set (s : S4) {q : Nat} (h : q < 4) (x : Int) : spliceL (stC s) q [.int .u64 x] = stC (upd4 s q x) := by
 have : q = 0 ∨ q = 1 ∨ q = 2 ∨ q = 3 := by omega
 rcases this with rfl | rfl | rfl | rfl <;> rfl
theorem u64_or {a b : Int} (ha : u64 a) (hb : u64 b) : u64 (orI a b) := by
 unfold u64 orI at *
 have := Nat.or_lt_two_pow (n := 64) (x := a.toNat) (y := b.toNat) (by omega) (by omega)
 omega
theorem u64_and {a b : Int} (ha : u64 a) (hb : u64 b) : u64 (andI a b) := by
 unfold u64 andI at *
 have : a.toNat &&& b.toNat ≤ a.toNat := Nat.and_le_left
 omega
theorem inS_un {s t : S4} (h : InS s) (k : InS t) : InS (un4 s t) := ⟨u64_or h.h0 k.h0, u64_or h.h1 k.h1, u64_or h.h2 k.h2, u64_or h.h3 k.h3⟩
theorem inS_in {s t : S4} (h : InS s) (k : InS t) : InS (in4 s t) := ⟨u64_and h.h0 k.h0, u64_and h.h1 k.h1, u64_and h.h2 k.h2, u64_and h.h3 k.h3⟩
theorem or_u64 {a b : Int} (ha : u64 a) (hb : u64 b) : bitsOf .or .u64 a b = orI a b := by
 have hr := u64_or ha hb
 unfold u64 at ha hb hr
 obtain ⟨a, rfl⟩ : ∃ n : Nat, a = n := ⟨a.toNat, by omega⟩
 obtain ⟨b, rfl⟩ : ∃ n : Nat, b = n := ⟨b.toNat, by omega⟩
 have h : (BitVec.ofInt 64 (a : Int) ||| BitVec.ofInt 64 (b : Int)).toNat = a ||| b := by
  rw [ofInt_nat, ofInt_nat, BitVec.toNat_or, BitVec.toNat_ofNat, BitVec.toNat_ofNat, Nat.mod_eq_of_lt (by omega), Nat.mod_eq_of_lt (by omega)]
 show IntKind.wrap .u64 ((BitVec.ofInt 64 (a : Int) ||| BitVec.ofInt 64 (b : Int)).toNat : Int) = _
 rw [h]
 unfold orI at hr ⊢
 simp only [Int.toNat_natCast] at hr ⊢
 exact wrap_keep _ (by show (0 : Int) ≤ _; omega) (by show _ ≤ (18446744073709551615 : Int); omega)
theorem and_u64 {a b : Int} (ha : u64 a) (hb : u64 b) : bitsOf .and .u64 a b = andI a b := by
 have hr := u64_and ha hb
 unfold u64 at ha hb hr
 obtain ⟨a, rfl⟩ : ∃ n : Nat, a = n := ⟨a.toNat, by omega⟩
 obtain ⟨b, rfl⟩ : ∃ n : Nat, b = n := ⟨b.toNat, by omega⟩
 have h : (BitVec.ofInt 64 (a : Int) &&& BitVec.ofInt 64 (b : Int)).toNat = a &&& b := by
  rw [ofInt_nat, ofInt_nat, BitVec.toNat_and, BitVec.toNat_ofNat, BitVec.toNat_ofNat, Nat.mod_eq_of_lt (by omega), Nat.mod_eq_of_lt (by omega)]
 show IntKind.wrap .u64 ((BitVec.ofInt 64 (a : Int) &&& BitVec.ofInt 64 (b : Int)).toNat : Int) = _
 rw [h]
 unfold andI at hr ⊢
 simp only [Int.toNat_natCast] at hr ⊢
 exact wrap_keep _ (by show (0 : Int) ≤ _; omega) (by show _ ≤ (18446744073709551615 : Int); omega)
def upto (j : Nat) (r s : S4) : S4 := ⟨if 0 < j then r.x0 else s.x0, if 1 < j then r.x1 else s.x1, if 2 < j then r.x2 else s.x2, if 3 < j then r.x3 else s.x3⟩
theorem upto_get {j : Nat} (h : j < 4) (r s : S4) : (upto j r s).get j = s.get j := by
 have : j = 0 ∨ j = 1 ∨ j = 2 ∨ j = 3 := by omega
 rcases this with rfl | rfl | rfl | rfl <;> rfl
theorem upto_succ {j : Nat} (h : j < 4) (r s : S4) : upd4 (upto j r s) j (r.get j) = upto (j + 1) r s := by
 have : j = 0 ∨ j = 1 ∨ j = 2 ∨ j = 3 := by omega
 rcases this with rfl | rfl | rfl | rfl <;> rfl
theorem get_un (s t : S4) (j : Nat) : (un4 s t).get j = orI (s.get j) (t.get j) := by
 unfold S4.get un4; split; rfl; split; rfl; split <;> rfl
theorem get_in (s t : S4) (j : Nat) : (in4 s t).get j = andI (s.get j) (t.get j) := by
 unfold S4.get in4; split; rfl; split; rfl; split <;> rfl
theorem QLdReq.ownAt' {P : Program} {X : Tab} {m0 m : Mem} {S : List Nat} {w0 : World} (hX : TabsOk P X) {t : Nat} {ti : TI} {L : Ev.Own} (ht : Ev.look X.T t = some (some ti)) (hd : ti.d.isAgg = false) (i : Nat) {b o j : Nat} {cs : List Value} {te : TypeId} {fz : Nat × Nat} {v : Value} {K : Value → Prop}
  (hi : Ev.look L i = some (b, .cells (toArr cs) te fz)) (hv : cs[o + j]? = some v) (h : K v) : QLdReq P t (fun w => Ev.Loc m0 S w0 m L w) ((⟨b, o, none⟩ : Addr).add j) K := by
 rw [addr_add]
 exact QLdReq.own1 hX ht hd i hi (by rw [look_eq]; exact hv) h
theorem Union_fn (m : Mem) (s t : S4) (hs : InS s) (ht : InS t) : FnV Tryz.prog 126 [.agg (toArr (stC s)), .agg (toArr (stC t))] m (.agg (toArr (stC (un4 s t)))) := by
 refine Fn.enter (N := 19) hX Tryz.func126 rfl rfl (by show _ ≤ _; simp) (fun w0 hL => ?_)
 conv => whnf
 refine NewReq.mk hL ?_
 clear hL
 intro b2 w hL
 conv => whnf
 refine NewReq.mk hL ?_
 clear hL
 intro b3 w hL
 conv => whnf
 refine NewReq.mk hL ?_
 clear hL
 intro b4 w hL
 conv => whnf
 replace hL : Ev.Loc m [] w0 m [(b4, .cells (toArr (stC z4)) 50 (0, 0)), (b3, .cells (toArr (stC t)) 50 (0, 0)), (b2, .cells (toArr (stC s)) 50 (0, 0))] w := hL
 refine go ?_;try(clear hL;intro w hL)
 refine LoopReq.inv hX (fun j : Nat => [(6, .int .i64 j)]) [2, 3, 4]
  (fun j w => j ≤ 4 ∧ Ev.Loc m [] w0 m [(b4, .cells (toArr (stC z4)) 50 (0, 0)), (b3, .cells (toArr (stC t)) 50 (0, 0)), (b2, .cells (toArr (stC (upto j (un4 s t) s))) 50 (0, 0))] w) (fun j => 4 - j) 0
  ⟨by omega, hL⟩ ⟨rfl, trivial⟩ ?_
 clear hL
 rintro j w e ⟨hj, hL⟩
 refine go ?_;try(clear hL;intro w hL)
 refine BrReq.dec (fun hlt => ?_) (fun hlt => ?_)
 ·have hj4 : j < 4 := by omega
  have h1 : (stC (upto j (un4 s t) s))[j]? = some (.int .u64 (s.get j)) := by rw [stC_get _ hj4, upto_get hj4]
  have h2 : (stC t)[j]? = some (.int .u64 (t.get j)) := stC_get _ hj4
  refine go ?_;try(clear hL;intro w hL)
  refine DrawReq.plan hX (.fst 0 (.fst 1 (.fst 3 (.fst 4 (.fst 5 (.alt 2 (.fst 6 (.fst 7 (.alt 8 (.done) (.stop)))) (.stop))))))) [(b3, .cells (toArr (stC t)) 50 (0, 0))] (by kernel_rfl) (by kernel_rfl) hL (fun h => h.one 1 rfl) ?_
  clear hL
  intro w hL
  conv => whnf
  repeat ((first | refine IdxReq.mk j rfl (by omega) ?_ | (refine LdReq.ownAt hX rfl rfl 2 hL rfl (v := .int .u64 (s.get j)) (by rw [scale_eq, Nat.zero_add, Nat.mul_one]; exact h1) ?_) | (refine QLdReq.ownAt' hX rfl rfl 0 rfl (v := .int .u64 (t.get j)) (by rw [scale_eq, Nat.zero_add, Nat.mul_one]; exact h2) ?_) | refine SReq.mk (hL.one 1 rfl) ?_ | refine BitReq.mk (or_u64 (inS_get hs _) (inS_get ht _)) ?_ | (refine goq1 ?_;try(clear hL;intro w hL))); conv => whnf)
  refine StReq.ownAt hX rfl 2 hL rfl rfl (by rw [scale_eq, Nat.zero_add, Nat.mul_one]; show j + 1 ≤ 4; omega) rfl ?_; clear hL; intro w hL
  replace hL : Ev.Loc m [] w0 m [(b4, .cells (toArr (stC z4)) 50 (0, 0)), (b3, .cells (toArr (stC t)) 50 (0, 0)), (b2, .cells (toArr (spliceL (stC (upto j (un4 s t) s)) (0 + scale j 1) [.int .u64 (orI (s.get j) (t.get j))])) 50 (0, 0))] w := hL
  rw [scale_eq, Nat.zero_add, Nat.mul_one, stC_set _ hj4, ← get_un, upto_succ hj4] at hL
  conv => whnf
  repeat ((first | refine SReq.mk (hL.one 1 rfl) ?_ | (refine goq1 ?_;try(clear hL;intro w hL))); conv => whnf)
  exact rnd (j + 1) ⟨by omega, hL⟩
 ·obtain rfl : j = 4 := by omega
  refine go ?_;try(clear hL;intro w hL)
  exact RetReq.mk (hL.sublist (List.nil_sublist _)) ⟨rfl, rfl⟩
theorem Inter_fn (m : Mem) (s t : S4) (hs : InS s) (ht : InS t) : FnV Tryz.prog 179 [.agg (toArr (stC s)), .agg (toArr (stC t))] m (.agg (toArr (stC (in4 s t)))) := by
 refine Fn.enter (N := 19) hX Tryz.func179 rfl rfl (by show _ ≤ _; simp) (fun w0 hL => ?_)
 conv => whnf
 refine NewReq.mk hL ?_
 clear hL
 intro b2 w hL
 conv => whnf
 refine NewReq.mk hL ?_
 clear hL
 intro b3 w hL
 conv => whnf
 refine NewReq.mk hL ?_
 clear hL
 intro b4 w hL
 conv => whnf
 replace hL : Ev.Loc m [] w0 m [(b4, .cells (toArr (stC z4)) 50 (0, 0)), (b3, .cells (toArr (stC t)) 50 (0, 0)), (b2, .cells (toArr (stC s)) 50 (0, 0))] w := hL
 refine go ?_;try(clear hL;intro w hL)
 refine LoopReq.inv hX (fun j : Nat => [(6, .int .i64 j)]) [2, 3, 4]
  (fun j w => j ≤ 4 ∧ Ev.Loc m [] w0 m [(b4, .cells (toArr (stC z4)) 50 (0, 0)), (b3, .cells (toArr (stC t)) 50 (0, 0)), (b2, .cells (toArr (stC (upto j (in4 s t) s))) 50 (0, 0))] w) (fun j => 4 - j) 0
  ⟨by omega, hL⟩ ⟨rfl, trivial⟩ ?_
 clear hL
 rintro j w e ⟨hj, hL⟩
 refine go ?_;try(clear hL;intro w hL)
 refine BrReq.dec (fun hlt => ?_) (fun hlt => ?_)
 ·have hj4 : j < 4 := by omega
  have h1 : (stC (upto j (in4 s t) s))[j]? = some (.int .u64 (s.get j)) := by rw [stC_get _ hj4, upto_get hj4]
  have h2 : (stC t)[j]? = some (.int .u64 (t.get j)) := stC_get _ hj4
  refine go ?_;try(clear hL;intro w hL)
  refine DrawReq.plan hX (.fst 0 (.fst 1 (.fst 3 (.fst 4 (.fst 5 (.alt 2 (.fst 6 (.fst 7 (.alt 8 (.done) (.stop)))) (.stop))))))) [(b3, .cells (toArr (stC t)) 50 (0, 0))] (by kernel_rfl) (by kernel_rfl) hL (fun h => h.one 1 rfl) ?_
  clear hL
  intro w hL
  conv => whnf
  repeat ((first | refine IdxReq.mk j rfl (by omega) ?_ | (refine LdReq.ownAt hX rfl rfl 2 hL rfl (v := .int .u64 (s.get j)) (by rw [scale_eq, Nat.zero_add, Nat.mul_one]; exact h1) ?_) | (refine QLdReq.ownAt' hX rfl rfl 0 rfl (v := .int .u64 (t.get j)) (by rw [scale_eq, Nat.zero_add, Nat.mul_one]; exact h2) ?_) | refine SReq.mk (hL.one 1 rfl) ?_ | refine BitReq.mk (and_u64 (inS_get hs _) (inS_get ht _)) ?_ | (refine goq1 ?_;try(clear hL;intro w hL))); conv => whnf)
  refine StReq.ownAt hX rfl 2 hL rfl rfl (by rw [scale_eq, Nat.zero_add, Nat.mul_one]; show j + 1 ≤ 4; omega) rfl ?_; clear hL; intro w hL
  replace hL : Ev.Loc m [] w0 m [(b4, .cells (toArr (stC z4)) 50 (0, 0)), (b3, .cells (toArr (stC t)) 50 (0, 0)), (b2, .cells (toArr (spliceL (stC (upto j (in4 s t) s)) (0 + scale j 1) [.int .u64 (andI (s.get j) (t.get j))])) 50 (0, 0))] w := hL
  rw [scale_eq, Nat.zero_add, Nat.mul_one, stC_set _ hj4, ← get_in, upto_succ hj4] at hL
  conv => whnf
  repeat ((first | refine SReq.mk (hL.one 1 rfl) ?_ | (refine goq1 ?_;try(clear hL;intro w hL))); conv => whnf)
  exact rnd (j + 1) ⟨by omega, hL⟩
 ·obtain rfl : j = 4 := by omega
  refine go ?_;try(clear hL;intro w hL)
  exact RetReq.mk (hL.sublist (List.nil_sublist _)) ⟨rfl, rfl⟩
end Go.Proofs.YtaooenndoopgdaaGreatDoor.ar
