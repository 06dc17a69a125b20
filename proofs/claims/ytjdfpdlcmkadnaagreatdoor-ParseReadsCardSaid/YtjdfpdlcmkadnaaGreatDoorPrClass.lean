/- A set's text, as the program and as the document write it. Conditions: none. -/
import Derived.Test.YtjdfpdlcmkadnaaGreatDoorPrSet

namespace Go.Proofs.YtjdfpdlcmkadnaaGreatDoor.tabs
open Go Go.Ev Go.Proofs

theorem and15_u8 {a : Nat} (ha : a < 256) : bitsOf .and .u8 (a : Int) 15 = ((a % 16 : Nat) : Int) := by
  have h : (BitVec.ofInt 8 (a : Int) &&& BitVec.ofInt 8 ((15 : Nat) : Int)).toNat = a % 16 := by
    rw [ofInt_nat, ofInt_nat, BitVec.toNat_and, BitVec.toNat_ofNat, BitVec.toNat_ofNat, Nat.mod_eq_of_lt (by omega), Nat.mod_eq_of_lt (by omega)]
    exact Nat.and_two_pow_sub_one_eq_mod (n := 4) a
  show IntKind.wrap .u8 ((BitVec.ofInt 8 (a : Int) &&& BitVec.ofInt 8 ((15 : Nat) : Int)).toNat : Int) = _
  rw [h]
  exact wrap_nat (by decide) (by show _ ≤ (255 : Int); omega)

def digL : List UInt8 := [48, 49, 50, 51, 52, 53, 54, 55, 56, 57, 97, 98, 99, 100, 101, 102]
def digT (k : Nat) : List UInt8 := (digL.take (k + 1)).drop k
theorem digT_len (k : Nat) : (digT k).length ≤ 1 := by unfold digT; rw [List.length_drop, List.length_take]; omega
def oneT (b : Nat) : List UInt8 := [92, 120] ++ digT (b / 16) ++ digT (b % 16)
theorem oneT_len (b : Nat) : (oneT b).length ≤ 4 := by
  have h1 := digT_len (b / 16)
  have h2 := digT_len (b % 16)
  unfold oneT
  simp only [List.length_append, List.length_cons, List.length_nil]; omega

theorem Hex_fn (m : Mem) (b : Nat) (hb : b < 256) : FnV Tryz.prog 40 [.int .i64 b] m (.string (bs (digT (b / 16) ++ digT (b % 16)))) := by
  have h1 := digT_len (b / 16)
  have h2 := digT_len (b % 16)
  refine Fn.enter (N := 19) hX Tryz.func40 rfl rfl (by show _ ≤ _; simp) (fun w0 hL => ?_)
  conv => whnf
  conv => whnf
  repeat ((first | refine BrReq.tt ?_ | refine BrReq.ff ?_ | (refine' zl hX rfl rfl hL ?_ ?_ ?_; rotate_left 4; (repeat first | exact .h | refine .t ?_); exact rfl) | (refine' zm hX rfl rfl hL ?_ ?_ ?_; rotate_left 3; (repeat first | exact .h | refine .t ?_); exact rfl) | (refine' zs hX rfl rfl rfl hL ?_ ?_ ?_; rotate_left 3; (repeat first | exact .h | apply Sets.t); exact rfl; clear hL; intro w hL) | refine ArReq.i64 (by omega) (by omega) ?_ | refine SeqReq.go hX ?_ | refine OptReq.mk rfl ?_); conv => whnf)
  refine DrawReq.plan hX (.fst 0 (.fst 1 (.fst 2 (.fst 3 (.fst 4 (.fst 5 (.fst 6 (.fst 7 (.fst 8 (.fst 9 (.fst 10 (.fst 11 (.fst 12 (.fst 13 (.fst 14 (.fst 15 (.done))))))))))))))))) [] (by kernel_rfl) (by kernel_rfl) hL id ?_
  clear hL
  intro w hL
  conv => whnf
  repeat ((first | refine DivReq.i64 (k := 16) rfl (by omega) (by omega) ?_ | refine RemReq.nat (k := 16) rfl (by omega) ?_ | (refine SlReq.mk (b / 16) (b / 16 + 1) rfl (by omega) (by omega) (by show _ ≤ 16; omega) ?_) | (refine SlReq.mk (b % 16) (b % 16 + 1) rfl (by omega) (by omega) (by show _ ≤ 16; omega) ?_) | refine UGenReq.strB (digT (b / 16)) (digT (b % 16)) rfl rfl rfl (bs_extract digL _ _) (bs_extract digL _ _) (by omega) ?_ | (refine' zq hX rfl rfl ?_ ?_ ?_; rotate_left 4; (repeat first | exact .h | refine .t ?_); exact rfl) | (refine' zr hX rfl rfl ?_ ?_ ?_; rotate_left 3; (repeat first | exact .h | refine .t ?_); exact rfl) | refine AltReq.one ?_ | refine BrReq.tt ?_ | refine BrReq.ff ?_ | (refine' zl hX rfl rfl hL ?_ ?_ ?_; rotate_left 4; (repeat first | exact .h | refine .t ?_); exact rfl) | (refine' zm hX rfl rfl hL ?_ ?_ ?_; rotate_left 3; (repeat first | exact .h | refine .t ?_); exact rfl) | (refine' zs hX rfl rfl rfl hL ?_ ?_ ?_; rotate_left 3; (repeat first | exact .h | apply Sets.t); exact rfl; clear hL; intro w hL) | refine ArReq.i64 (by omega) (by omega) ?_ | refine SeqReq.go hX ?_ | refine OptReq.mk rfl ?_); conv => whnf)
  exact RetReq.mk hL ⟨rfl, rfl⟩

/-- A range's text; a set's. -/
def rT (x : Nat × Nat) : List UInt8 := oneT x.1 ++ (if x.1 < x.2 then [45] ++ oneT x.2 else [])
def clsT (l : List (Nat × Nat)) : List UInt8 := (l.map rT).flatten
theorem clsT_take {l : List (Nat × Nat)} {j : Nat} (h : j < l.length) : clsT (l.take (j + 1)) = clsT (l.take j) ++ rT l[j] := by
  rw [List.take_succ_eq_append_getElem h]; unfold clsT; rw [List.map_append, List.flatten_append]; simp
theorem rT_len (x : Nat × Nat) : (rT x).length ≤ 9 := by
  have h1 := oneT_len x.1
  have h2 := oneT_len x.2
  unfold rT
  split
  · simp only [List.length_append, List.length_cons, List.length_nil]; omega
  · simp only [List.length_append, List.length_nil]; omega
theorem clsT_len : ∀ (l : List (Nat × Nat)), (clsT l).length ≤ l.length * 9
  | [] => by simp [clsT]
  | x :: l => by
    have h1 := rT_len x
    have h2 := clsT_len l
    simp only [clsT, List.map_cons, List.flatten_cons, List.length_append, List.length_cons] at h2 ⊢
    omega
def classT (f : Nat → Bool) : List UInt8 := [91] ++ clsT (rngL (allT f 256)) ++ [93]
theorem rng_len (f : Nat → Bool) : (rngL (allT f 256)).length ≤ 256 := by
  have h1 := rngL_len (allT f 256) (allT f 256).length
  rw [List.take_length] at h1
  have h2 := allT_len f 256
  omega
theorem classT_len (f : Nat → Bool) : (classT f).length ≤ 2306 := by
  have h1 := clsT_len (rngL (allT f 256))
  have h2 := rng_len f
  unfold classT
  simp only [List.length_append, List.length_cons, List.length_nil]; omega

/-- What a scan of all bytes has written ahead of a byte, where no range is open. -/
theorem rngL_snoc (l : List Nat) (b : Nat) : rngL (l ++ [b]) = stepR (rngL l) b := by unfold rngL; rw [List.foldl_append]; rfl
theorem last_mem {l : List Nat} {x : Nat × Nat} (h : (rngL l).getLast? = some x) : ∃ b, l.getLast? = some b ∧ x.2 = b := by
  rcases List.eq_nil_or_concat l with rfl | ⟨l, b, rfl⟩
  · simp [rngL] at h
  · rw [List.concat_eq_append] at h ⊢
    rw [rngL_snoc] at h
    refine ⟨b, by simp, ?_⟩
    unfold stepR at h
    split at h
    · rename_i y hy
      split at h
      · have hp : 0 < (rngL l).length := List.length_pos_iff.2 (fun e => by rw [e] at hy; cases hy)
        rw [List.getLast?_eq_getElem?, List.length_set, List.getElem?_set_self (by omega)] at h
        cases h; rfl
      · simp at h; rw [← h]
    · simp at h; rw [← h]
/-- A run of bytes that begins behind one that isn't in the set. -/
theorem rng_run {f : Nat → Bool} {b : Nat} (hb : f b = true) (h0 : b = 0 ∨ f (b - 1) = false) : ∀ (k : Nat), (∀ i, i ≤ k → f (b + i) = true) → rngL (allT f (b + k + 1)) = rngL (allT f b) ++ [(b, b + k)]
  | 0, _ => by
    rw [Nat.add_zero, allT_succ, if_pos hb, rngL_snoc]
    unfold stepR
    split
    · rename_i x hx
      obtain ⟨c, hc, e⟩ := last_mem hx
      have hm := List.mem_of_getLast? hc
      have hc2 := allT_lt hm
      rw [if_neg]
      · rfl
      · intro e2
        rcases h0 with h0 | h0
        · omega
        · rw [show b - 1 = c by omega, hc2.2] at h0; cases h0
    · rename_i hx
      rw [List.getLast?_eq_none_iff] at hx
      rw [hx]; rfl
  | k + 1, h => by
    have ih := rng_run hb h0 k fun i hi => h i (by omega)
    rw [show b + (k + 1) + 1 = (b + k + 1) + 1 by omega, allT_succ, if_pos (by have := h (k + 1) (Nat.le_refl _); rwa [show b + (k + 1) = b + k + 1 by omega] at this), rngL_snoc, ih]
    unfold stepR
    simp only [List.getLast?_append, List.getLast?_singleton, Option.some_or]
    rw [if_pos trivial]
    rw [List.length_append, List.length_singleton, Nat.add_sub_cancel, List.set_append_right _ _ (Nat.le_refl _), Nat.sub_self]
    rfl
theorem clsT_app (a b : List (Nat × Nat)) : clsT (a ++ b) = clsT a ++ clsT b := by unfold clsT; rw [List.map_append, List.flatten_append]

set_option maxRecDepth 100000 in
set_option maxHeartbeats 2000000 in
theorem refClass_fn (m : Mem) (s0 s1 s2 s3 : Int) (h0 : in64 s0) (h1 : in64 s1) (h2 : in64 s2) (h3 : in64 s3) :
    FnV Tryz.prog 26 [.agg (toArr [.int .u64 s0, .int .u64 s1, .int .u64 s2, .int .u64 s3])] m (.string (bs (classT (hasR s0 s1 s2 s3)))) := by
  have hfn := fun (mm : Mem) (b : Nat) (hb : b < 256) => Has_fn mm s0 s1 s2 s3 h0 h1 h2 h3 b hb
  generalize hf : hasR s0 s1 s2 s3 = f at hfn
  have hlen : ∀ j, j ≤ 256 → ([91] ++ clsT (rngL (allT f j))).length ≤ 1 + 256 * 9 := fun j hj => by
    have h1 := clsT_len (rngL (allT f j))
    have h2 := rngL_len (allT f j) (allT f j).length
    rw [List.take_length] at h2
    have h3 := allT_len f j
    simp only [List.length_append, List.length_cons, List.length_nil]
    omega
  refine Fn.enter (N := 41) hX Tryz.func26 rfl rfl (by show _ ≤ _; simp) (fun w0 hL => ?_)
  conv => whnf
  refine NewReq.mk hL ?_
  clear hL
  intro b1 w hL
  conv => whnf
  replace hL : Ev.Loc m [] w0 m [(b1, .cells (toArr [.int .u64 s0, .int .u64 s1, .int .u64 s2, .int .u64 s3]) 25 (0, 0))] w := hL
  conv => whnf
  repeat ((first | refine BrReq.tt ?_ | refine BrReq.ff ?_ | (refine' zl hX rfl rfl hL ?_ ?_ ?_; rotate_left 4; (repeat first | exact .h | refine .t ?_); exact rfl) | (refine' zm hX rfl rfl hL ?_ ?_ ?_; rotate_left 3; (repeat first | exact .h | refine .t ?_); exact rfl) | (refine' zs hX rfl rfl rfl hL ?_ ?_ ?_; rotate_left 3; (repeat first | exact .h | apply Sets.t); exact rfl; clear hL; intro w hL) | refine ArReq.i64 (by omega) (by omega) ?_ | refine SeqReq.go hX ?_ | refine OptReq.mk rfl ?_); conv => whnf)
  refine LoopReq.inv hX (fun j : Nat => [(3, .string (bs ([91] ++ clsT (rngL (allT f j))))), (4, .int .i64 j)]) [1]
    (fun j w => (j ≤ 256 ∧ (j = 0 ∨ f (j - 1) = false ∨ j = 256 ∨ f j = false)) ∧ Ev.Loc m [] w0 m [(b1, .cells (toArr [.int .u64 s0, .int .u64 s1, .int .u64 s2, .int .u64 s3]) 25 (0, 0))] w) (fun j => 256 - j) 0
    ⟨⟨by omega, .inl rfl⟩, hL⟩ ⟨rfl, rfl, trivial⟩ ?_
  clear hL
  rintro j w g ⟨⟨hj, hopen⟩, hL⟩
  have hlj := hlen j hj
  conv => whnf
  repeat ((first | refine BrReq.tt ?_ | refine BrReq.ff ?_ | (refine' zl hX rfl rfl hL ?_ ?_ ?_; rotate_left 4; (repeat first | exact .h | refine .t ?_); exact rfl) | (refine' zm hX rfl rfl hL ?_ ?_ ?_; rotate_left 3; (repeat first | exact .h | refine .t ?_); exact rfl) | (refine' zs hX rfl rfl rfl hL ?_ ?_ ?_; rotate_left 3; (repeat first | exact .h | apply Sets.t); exact rfl; clear hL; intro w hL) | refine ArReq.i64 (by omega) (by omega) ?_ | refine SeqReq.go hX ?_ | refine OptReq.mk rfl ?_); conv => whnf)
  refine BrReq.dec (fun hlt => ?_) (fun hlt => ?_)
  · have hj1 : j < 256 := by omega
    conv => whnf
    repeat ((first | refine BrReq.tt ?_ | refine BrReq.ff ?_ | (refine' zl hX rfl rfl hL ?_ ?_ ?_; rotate_left 4; (repeat first | exact .h | refine .t ?_); exact rfl) | (refine' zm hX rfl rfl hL ?_ ?_ ?_; rotate_left 3; (repeat first | exact .h | refine .t ?_); exact rfl) | (refine' zs hX rfl rfl rfl hL ?_ ?_ ?_; rotate_left 3; (repeat first | exact .h | apply Sets.t); exact rfl; clear hL; intro w hL) | refine ArReq.i64 (by omega) (by omega) ?_ | refine SeqReq.go hX ?_ | refine OptReq.mk rfl ?_); conv => whnf)
    refine CallReq.val (hfn m j hj1) hL ?_
    clear hL
    intro w hL
    conv => whnf
    repeat ((first | refine BrReq.tt ?_ | refine BrReq.ff ?_ | (refine' zl hX rfl rfl hL ?_ ?_ ?_; rotate_left 4; (repeat first | exact .h | refine .t ?_); exact rfl) | (refine' zm hX rfl rfl hL ?_ ?_ ?_; rotate_left 3; (repeat first | exact .h | refine .t ?_); exact rfl) | (refine' zs hX rfl rfl rfl hL ?_ ?_ ?_; rotate_left 3; (repeat first | exact .h | apply Sets.t); exact rfl; clear hL; intro w hL) | refine ArReq.i64 (by omega) (by omega) ?_ | refine SeqReq.go hX ?_ | refine OptReq.mk rfl ?_); conv => whnf)
    refine BrReq.not ?_
    refine BrReq.bool (fun hb => ?_) (fun hb => ?_)
    · have hprev : j = 0 ∨ f (j - 1) = false := by
        rcases hopen with h | h | h | h
        · exact .inl h
        · exact .inr h
        · omega
        · rw [hb] at h; cases h
      conv => whnf
      repeat ((first | refine BrReq.tt ?_ | refine BrReq.ff ?_ | (refine' zl hX rfl rfl hL ?_ ?_ ?_; rotate_left 4; (repeat first | exact .h | refine .t ?_); exact rfl) | (refine' zm hX rfl rfl hL ?_ ?_ ?_; rotate_left 3; (repeat first | exact .h | refine .t ?_); exact rfl) | (refine' zs hX rfl rfl rfl hL ?_ ?_ ?_; rotate_left 3; (repeat first | exact .h | apply Sets.t); exact rfl; clear hL; intro w hL) | refine ArReq.i64 (by omega) (by omega) ?_ | refine SeqReq.go hX ?_ | refine OptReq.mk rfl ?_); conv => whnf)
      refine LoopReq.inv hX (fun e : Nat => [(5, .int .i64 e)]) [1, 3, 4]
        (fun e w => (j ≤ e ∧ e < 256 ∧ ∀ i, i ≤ e - j → f (j + i) = true) ∧ Ev.Loc m [] w0 m [(b1, .cells (toArr [.int .u64 s0, .int .u64 s1, .int .u64 s2, .int .u64 s3]) 25 (0, 0))] w) (fun e => 256 - e) j
        ⟨⟨by omega, by omega, fun i hi => by rw [show i = 0 by omega]; exact hb⟩, hL⟩ ⟨rfl, trivial⟩ ?_
      clear hL
      rintro e w g2 ⟨⟨he1, he2, hall⟩, hL⟩
      have hrun : rngL (allT f (e + 1)) = rngL (allT f j) ++ [(j, e)] := by
        have := rng_run hb hprev (e - j) hall
        rwa [show j + (e - j) = e by omega] at this
      have ho1 := oneT_len j
      have ho2 := oneT_len e
      have hle := hlen (e + 1) (by omega)
      have hcut : clsT (rngL (allT f (e + 1))) = clsT (rngL (allT f j)) ++ rT (j, e) := by rw [hrun, clsT_app]; simp [clsT]
      have hone : ∀ q : Nat, oneT q = [92, 120] ++ (digT (q / 16) ++ digT (q % 16)) := fun q => by unfold oneT; simp only [List.append_assoc]
      conv => whnf
      repeat ((first | refine BrReq.tt ?_ | refine BrReq.ff ?_ | (refine' zl hX rfl rfl hL ?_ ?_ ?_; rotate_left 4; (repeat first | exact .h | refine .t ?_); exact rfl) | (refine' zm hX rfl rfl hL ?_ ?_ ?_; rotate_left 3; (repeat first | exact .h | refine .t ?_); exact rfl) | (refine' zs hX rfl rfl rfl hL ?_ ?_ ?_; rotate_left 3; (repeat first | exact .h | apply Sets.t); exact rfl; clear hL; intro w hL) | refine ArReq.i64 (by omega) (by omega) ?_ | refine SeqReq.go hX ?_ | refine OptReq.mk rfl ?_); conv => whnf)
      refine BrReq.dec (fun hlt2 => ?_) (fun hlt2 => ?_)
      · conv => whnf
        repeat ((first | refine BrReq.tt ?_ | refine BrReq.ff ?_ | (refine' zl hX rfl rfl hL ?_ ?_ ?_; rotate_left 4; (repeat first | exact .h | refine .t ?_); exact rfl) | (refine' zm hX rfl rfl hL ?_ ?_ ?_; rotate_left 3; (repeat first | exact .h | refine .t ?_); exact rfl) | (refine' zs hX rfl rfl rfl hL ?_ ?_ ?_; rotate_left 3; (repeat first | exact .h | apply Sets.t); exact rfl; clear hL; intro w hL) | refine ArReq.i64 (by omega) (by omega) ?_ | refine SeqReq.go hX ?_ | refine OptReq.mk rfl ?_); conv => whnf)
        refine CallReq.val (hfn m (e + 1) (by omega)) hL ?_
        clear hL
        intro w hL
        conv => whnf
        repeat ((first | refine BrReq.tt ?_ | refine BrReq.ff ?_ | (refine' zl hX rfl rfl hL ?_ ?_ ?_; rotate_left 4; (repeat first | exact .h | refine .t ?_); exact rfl) | (refine' zm hX rfl rfl hL ?_ ?_ ?_; rotate_left 3; (repeat first | exact .h | refine .t ?_); exact rfl) | (refine' zs hX rfl rfl rfl hL ?_ ?_ ?_; rotate_left 3; (repeat first | exact .h | apply Sets.t); exact rfl; clear hL; intro w hL) | refine ArReq.i64 (by omega) (by omega) ?_ | refine SeqReq.go hX ?_ | refine OptReq.mk rfl ?_); conv => whnf)
        refine BrReq.bool (fun hb2 => ?_) (fun hb2 => ?_)
        · have hall2 : ∀ i, i ≤ e + 1 - j → f (j + i) = true := fun i hi => by
            by_cases h : i ≤ e - j
            · exact hall i h
            · rw [show j + i = e + 1 by omega]; exact hb2
          conv => whnf
          repeat ((first | refine BrReq.tt ?_ | refine BrReq.ff ?_ | (refine' zl hX rfl rfl hL ?_ ?_ ?_; rotate_left 4; (repeat first | exact .h | refine .t ?_); exact rfl) | (refine' zm hX rfl rfl hL ?_ ?_ ?_; rotate_left 3; (repeat first | exact .h | refine .t ?_); exact rfl) | (refine' zs hX rfl rfl rfl hL ?_ ?_ ?_; rotate_left 3; (repeat first | exact .h | apply Sets.t); exact rfl; clear hL; intro w hL) | refine ArReq.i64 (by omega) (by omega) ?_ | refine SeqReq.go hX ?_ | refine OptReq.mk rfl ?_); conv => whnf)
          refine ⟨e + 1, ⟨⟨by omega, by omega, hall2⟩, hL⟩, by first | omega | (simp only; omega), ?_, ?_⟩
          · repeat (first | exact trivial | (refine And.intro (by (conv => lhs; whnf) <;> (conv => rhs; whnf) <;> (first | rfl)) ?_))
          · repeat (first | exact trivial | (refine And.intro (by (conv => lhs; whnf) <;> (conv => rhs; whnf) <;> (first | rfl)) ?_))
        · have hend : e + 1 = 0 ∨ f (e + 1 - 1) = false ∨ e + 1 = 256 ∨ f (e + 1) = false := .inr (.inr (.inr hb2))
          conv => whnf
          repeat ((first | refine BrReq.tt ?_ | refine BrReq.ff ?_ | (refine' zl hX rfl rfl hL ?_ ?_ ?_; rotate_left 4; (repeat first | exact .h | refine .t ?_); exact rfl) | (refine' zm hX rfl rfl hL ?_ ?_ ?_; rotate_left 3; (repeat first | exact .h | refine .t ?_); exact rfl) | (refine' zs hX rfl rfl rfl hL ?_ ?_ ?_; rotate_left 3; (repeat first | exact .h | apply Sets.t); exact rfl; clear hL; intro w hL) | refine ArReq.i64 (by omega) (by omega) ?_ | refine SeqReq.go hX ?_ | refine OptReq.mk rfl ?_); conv => whnf)
          refine CallReq.val (Hex_fn m j (by omega)) hL ?_
          clear hL
          intro w hL
          conv => whnf
          repeat ((first | (refine UGenReq.strB [92, 120] (digT (j / 16) ++ digT (j % 16)) rfl rfl rfl rfl rfl (by have := hone j; have h9 := congrArg List.length this; simp only [List.length_append, List.length_cons, List.length_nil] at h9 ⊢; omega) ?_) | (refine UGenReq.strB ([91] ++ clsT (rngL (allT f j))) ([92, 120] ++ (digT (j / 16) ++ digT (j % 16))) rfl rfl rfl rfl rfl (by rw [← hone]; omega) ?_) | refine BrReq.tt ?_ | refine BrReq.ff ?_ | (refine' zl hX rfl rfl hL ?_ ?_ ?_; rotate_left 4; (repeat first | exact .h | refine .t ?_); exact rfl) | (refine' zm hX rfl rfl hL ?_ ?_ ?_; rotate_left 3; (repeat first | exact .h | refine .t ?_); exact rfl) | (refine' zs hX rfl rfl rfl hL ?_ ?_ ?_; rotate_left 3; (repeat first | exact .h | apply Sets.t); exact rfl; clear hL; intro w hL) | refine ArReq.i64 (by omega) (by omega) ?_ | refine SeqReq.go hX ?_ | refine OptReq.mk rfl ?_); conv => whnf)
          refine BrReq.dec (fun hgt => ?_) (fun hgt => ?_)
          · have hrt : rT (j, e) = oneT j ++ ([45] ++ oneT e) := by show oneT j ++ (if j < e then _ else _) = _; rw [if_pos (by omega)]
            conv => whnf
            repeat ((first | refine BrReq.tt ?_ | refine BrReq.ff ?_ | (refine' zl hX rfl rfl hL ?_ ?_ ?_; rotate_left 4; (repeat first | exact .h | refine .t ?_); exact rfl) | (refine' zm hX rfl rfl hL ?_ ?_ ?_; rotate_left 3; (repeat first | exact .h | refine .t ?_); exact rfl) | (refine' zs hX rfl rfl rfl hL ?_ ?_ ?_; rotate_left 3; (repeat first | exact .h | apply Sets.t); exact rfl; clear hL; intro w hL) | refine ArReq.i64 (by omega) (by omega) ?_ | refine SeqReq.go hX ?_ | refine OptReq.mk rfl ?_); conv => whnf)
            refine CallReq.val (Hex_fn m e he2) hL ?_
            clear hL
            intro w hL
            conv => whnf
            repeat ((first | (refine UGenReq.strB [45, 92, 120] (digT (e / 16) ++ digT (e % 16)) rfl rfl rfl rfl rfl (by have := hone e; have h9 := congrArg List.length this; simp only [List.length_append, List.length_cons, List.length_nil] at h9 ⊢; omega) ?_) | (refine UGenReq.strB ([91] ++ clsT (rngL (allT f j)) ++ ([92, 120] ++ (digT (j / 16) ++ digT (j % 16)))) ([45, 92, 120] ++ (digT (e / 16) ++ digT (e % 16))) rfl rfl rfl rfl rfl (by rw [← hone, show [45, 92, 120] ++ (digT (e / 16) ++ digT (e % 16)) = [45] ++ oneT e from by rw [hone]; rfl]; simp only [List.length_append, List.length_cons, List.length_nil] at hlj ⊢; omega) ?_) | refine BrReq.tt ?_ | refine BrReq.ff ?_ | (refine' zl hX rfl rfl hL ?_ ?_ ?_; rotate_left 4; (repeat first | exact .h | refine .t ?_); exact rfl) | (refine' zm hX rfl rfl hL ?_ ?_ ?_; rotate_left 3; (repeat first | exact .h | refine .t ?_); exact rfl) | (refine' zs hX rfl rfl rfl hL ?_ ?_ ?_; rotate_left 3; (repeat first | exact .h | apply Sets.t); exact rfl; clear hL; intro w hL) | refine ArReq.i64 (by omega) (by omega) ?_ | refine SeqReq.go hX ?_ | refine OptReq.mk rfl ?_); conv => whnf)
            refine ⟨e + 1, ⟨⟨by omega, hend⟩, hL⟩, by first | omega | (simp only; omega), ?_, ?_⟩
            · repeat (first | exact trivial | (refine And.intro (by (conv => lhs; whnf) <;> (conv => rhs; whnf) <;> (first | rfl | ((rw [hcut, hrt, hone j, hone e]; simp only [List.append_assoc, List.cons_append, List.nil_append])))) ?_))
            · repeat (first | exact trivial | (refine And.intro (by (conv => lhs; whnf) <;> (conv => rhs; whnf) <;> (first | rfl | ((rw [hcut, hrt, hone j, hone e]; simp only [List.append_assoc, List.cons_append, List.nil_append])))) ?_))
          · have hrt : rT (j, e) = oneT j := by show oneT j ++ (if j < e then _ else _) = _; rw [if_neg (by omega), List.append_nil]
            conv => whnf
            repeat ((first | refine BrReq.tt ?_ | refine BrReq.ff ?_ | (refine' zl hX rfl rfl hL ?_ ?_ ?_; rotate_left 4; (repeat first | exact .h | refine .t ?_); exact rfl) | (refine' zm hX rfl rfl hL ?_ ?_ ?_; rotate_left 3; (repeat first | exact .h | refine .t ?_); exact rfl) | (refine' zs hX rfl rfl rfl hL ?_ ?_ ?_; rotate_left 3; (repeat first | exact .h | apply Sets.t); exact rfl; clear hL; intro w hL) | refine ArReq.i64 (by omega) (by omega) ?_ | refine SeqReq.go hX ?_ | refine OptReq.mk rfl ?_); conv => whnf)
            refine ⟨e + 1, ⟨⟨by omega, hend⟩, hL⟩, by first | omega | (simp only; omega), ?_, ?_⟩
            · repeat (first | exact trivial | (refine And.intro (by (conv => lhs; whnf) <;> (conv => rhs; whnf) <;> (first | rfl | ((rw [hcut, hrt, hone j]; simp only [List.append_assoc, List.cons_append, List.nil_append])))) ?_))
            · repeat (first | exact trivial | (refine And.intro (by (conv => lhs; whnf) <;> (conv => rhs; whnf) <;> (first | rfl | ((rw [hcut, hrt, hone j]; simp only [List.append_assoc, List.cons_append, List.nil_append])))) ?_))
      · have hend : e + 1 = 0 ∨ f (e + 1 - 1) = false ∨ e + 1 = 256 ∨ f (e + 1) = false := .inr (.inr (.inl (by omega)))
        conv => whnf
        repeat ((first | refine BrReq.tt ?_ | refine BrReq.ff ?_ | (refine' zl hX rfl rfl hL ?_ ?_ ?_; rotate_left 4; (repeat first | exact .h | refine .t ?_); exact rfl) | (refine' zm hX rfl rfl hL ?_ ?_ ?_; rotate_left 3; (repeat first | exact .h | refine .t ?_); exact rfl) | (refine' zs hX rfl rfl rfl hL ?_ ?_ ?_; rotate_left 3; (repeat first | exact .h | apply Sets.t); exact rfl; clear hL; intro w hL) | refine ArReq.i64 (by omega) (by omega) ?_ | refine SeqReq.go hX ?_ | refine OptReq.mk rfl ?_); conv => whnf)
        refine CallReq.val (Hex_fn m j (by omega)) hL ?_
        clear hL
        intro w hL
        conv => whnf
        repeat ((first | (refine UGenReq.strB [92, 120] (digT (j / 16) ++ digT (j % 16)) rfl rfl rfl rfl rfl (by have := hone j; have h9 := congrArg List.length this; simp only [List.length_append, List.length_cons, List.length_nil] at h9 ⊢; omega) ?_) | (refine UGenReq.strB ([91] ++ clsT (rngL (allT f j))) ([92, 120] ++ (digT (j / 16) ++ digT (j % 16))) rfl rfl rfl rfl rfl (by rw [← hone]; omega) ?_) | refine BrReq.tt ?_ | refine BrReq.ff ?_ | (refine' zl hX rfl rfl hL ?_ ?_ ?_; rotate_left 4; (repeat first | exact .h | refine .t ?_); exact rfl) | (refine' zm hX rfl rfl hL ?_ ?_ ?_; rotate_left 3; (repeat first | exact .h | refine .t ?_); exact rfl) | (refine' zs hX rfl rfl rfl hL ?_ ?_ ?_; rotate_left 3; (repeat first | exact .h | apply Sets.t); exact rfl; clear hL; intro w hL) | refine ArReq.i64 (by omega) (by omega) ?_ | refine SeqReq.go hX ?_ | refine OptReq.mk rfl ?_); conv => whnf)
        refine BrReq.dec (fun hgt => ?_) (fun hgt => ?_)
        · have hrt : rT (j, e) = oneT j ++ ([45] ++ oneT e) := by show oneT j ++ (if j < e then _ else _) = _; rw [if_pos (by omega)]
          conv => whnf
          repeat ((first | refine BrReq.tt ?_ | refine BrReq.ff ?_ | (refine' zl hX rfl rfl hL ?_ ?_ ?_; rotate_left 4; (repeat first | exact .h | refine .t ?_); exact rfl) | (refine' zm hX rfl rfl hL ?_ ?_ ?_; rotate_left 3; (repeat first | exact .h | refine .t ?_); exact rfl) | (refine' zs hX rfl rfl rfl hL ?_ ?_ ?_; rotate_left 3; (repeat first | exact .h | apply Sets.t); exact rfl; clear hL; intro w hL) | refine ArReq.i64 (by omega) (by omega) ?_ | refine SeqReq.go hX ?_ | refine OptReq.mk rfl ?_); conv => whnf)
          refine CallReq.val (Hex_fn m e he2) hL ?_
          clear hL
          intro w hL
          conv => whnf
          repeat ((first | (refine UGenReq.strB [45, 92, 120] (digT (e / 16) ++ digT (e % 16)) rfl rfl rfl rfl rfl (by have := hone e; have h9 := congrArg List.length this; simp only [List.length_append, List.length_cons, List.length_nil] at h9 ⊢; omega) ?_) | (refine UGenReq.strB ([91] ++ clsT (rngL (allT f j)) ++ ([92, 120] ++ (digT (j / 16) ++ digT (j % 16)))) ([45, 92, 120] ++ (digT (e / 16) ++ digT (e % 16))) rfl rfl rfl rfl rfl (by rw [← hone, show [45, 92, 120] ++ (digT (e / 16) ++ digT (e % 16)) = [45] ++ oneT e from by rw [hone]; rfl]; simp only [List.length_append, List.length_cons, List.length_nil] at hlj ⊢; omega) ?_) | refine BrReq.tt ?_ | refine BrReq.ff ?_ | (refine' zl hX rfl rfl hL ?_ ?_ ?_; rotate_left 4; (repeat first | exact .h | refine .t ?_); exact rfl) | (refine' zm hX rfl rfl hL ?_ ?_ ?_; rotate_left 3; (repeat first | exact .h | refine .t ?_); exact rfl) | (refine' zs hX rfl rfl rfl hL ?_ ?_ ?_; rotate_left 3; (repeat first | exact .h | apply Sets.t); exact rfl; clear hL; intro w hL) | refine ArReq.i64 (by omega) (by omega) ?_ | refine SeqReq.go hX ?_ | refine OptReq.mk rfl ?_); conv => whnf)
          refine ⟨e + 1, ⟨⟨by omega, hend⟩, hL⟩, by first | omega | (simp only; omega), ?_, ?_⟩
          · repeat (first | exact trivial | (refine And.intro (by (conv => lhs; whnf) <;> (conv => rhs; whnf) <;> (first | rfl | ((rw [hcut, hrt, hone j, hone e]; simp only [List.append_assoc, List.cons_append, List.nil_append])))) ?_))
          · repeat (first | exact trivial | (refine And.intro (by (conv => lhs; whnf) <;> (conv => rhs; whnf) <;> (first | rfl | ((rw [hcut, hrt, hone j, hone e]; simp only [List.append_assoc, List.cons_append, List.nil_append])))) ?_))
        · have hrt : rT (j, e) = oneT j := by show oneT j ++ (if j < e then _ else _) = _; rw [if_neg (by omega), List.append_nil]
          conv => whnf
          repeat ((first | refine BrReq.tt ?_ | refine BrReq.ff ?_ | (refine' zl hX rfl rfl hL ?_ ?_ ?_; rotate_left 4; (repeat first | exact .h | refine .t ?_); exact rfl) | (refine' zm hX rfl rfl hL ?_ ?_ ?_; rotate_left 3; (repeat first | exact .h | refine .t ?_); exact rfl) | (refine' zs hX rfl rfl rfl hL ?_ ?_ ?_; rotate_left 3; (repeat first | exact .h | apply Sets.t); exact rfl; clear hL; intro w hL) | refine ArReq.i64 (by omega) (by omega) ?_ | refine SeqReq.go hX ?_ | refine OptReq.mk rfl ?_); conv => whnf)
          refine ⟨e + 1, ⟨⟨by omega, hend⟩, hL⟩, by first | omega | (simp only; omega), ?_, ?_⟩
          · repeat (first | exact trivial | (refine And.intro (by (conv => lhs; whnf) <;> (conv => rhs; whnf) <;> (first | rfl | ((rw [hcut, hrt, hone j]; simp only [List.append_assoc, List.cons_append, List.nil_append])))) ?_))
          · repeat (first | exact trivial | (refine And.intro (by (conv => lhs; whnf) <;> (conv => rhs; whnf) <;> (first | rfl | ((rw [hcut, hrt, hone j]; simp only [List.append_assoc, List.cons_append, List.nil_append])))) ?_))
    · have hnx : rngL (allT f (j + 1)) = rngL (allT f j) := by rw [allT_succ, if_neg (by rw [hb]; decide)]
      conv => whnf
      repeat ((first | refine BrReq.tt ?_ | refine BrReq.ff ?_ | (refine' zl hX rfl rfl hL ?_ ?_ ?_; rotate_left 4; (repeat first | exact .h | refine .t ?_); exact rfl) | (refine' zm hX rfl rfl hL ?_ ?_ ?_; rotate_left 3; (repeat first | exact .h | refine .t ?_); exact rfl) | (refine' zs hX rfl rfl rfl hL ?_ ?_ ?_; rotate_left 3; (repeat first | exact .h | apply Sets.t); exact rfl; clear hL; intro w hL) | refine ArReq.i64 (by omega) (by omega) ?_ | refine SeqReq.go hX ?_ | refine OptReq.mk rfl ?_); conv => whnf)
      refine ⟨j + 1, ⟨⟨by omega, .inr (.inl (by rw [Nat.add_sub_cancel]; exact hb))⟩, hL⟩, by first | omega | (simp only; omega), ?_, ?_⟩
      · repeat (first | exact trivial | (refine And.intro (by (conv => lhs; whnf) <;> (conv => rhs; whnf) <;> (first | rfl | ((rw [hnx])))) ?_))
      · repeat (first | exact trivial | (refine And.intro (by (conv => lhs; whnf) <;> (conv => rhs; whnf) <;> (first | rfl | ((rw [hnx])))) ?_))
  · have ej : j = 256 := by omega
    subst ej
    conv => whnf
    repeat ((first | (refine UGenReq.strB ([91] ++ clsT (rngL (allT f 256))) [93] rfl rfl rfl rfl rfl (by simp only [List.length_append, List.length_cons, List.length_nil] at hlj ⊢; omega) ?_) | refine BrReq.tt ?_ | refine BrReq.ff ?_ | (refine' zl hX rfl rfl hL ?_ ?_ ?_; rotate_left 4; (repeat first | exact .h | refine .t ?_); exact rfl) | (refine' zm hX rfl rfl hL ?_ ?_ ?_; rotate_left 3; (repeat first | exact .h | refine .t ?_); exact rfl) | (refine' zs hX rfl rfl rfl hL ?_ ?_ ?_; rotate_left 3; (repeat first | exact .h | apply Sets.t); exact rfl; clear hL; intro w hL) | refine ArReq.i64 (by omega) (by omega) ?_ | refine SeqReq.go hX ?_ | refine OptReq.mk rfl ?_); conv => whnf)
    exact RetReq.mk hL.drop ⟨rfl, rfl⟩
end Go.Proofs.YtjdfpdlcmkadnaaGreatDoor.tabs
