/- The document's words: a word; all words. Conditions: none. -/
import Derived.Test.YtemdkfohlppckaaGreatDoorLxRefD

namespace Go.Proofs.YtemdkfohlppckaaGreatDoor.lx
open Go Go.Ev Go.Proofs

/-- What opens a look, told by its bytes. -/
def look3 (d : UInt8) (r : List UInt8) : Int × Nat :=
  if d.toNat = 61 then (12, 3) else if d.toNat = 33 then (13, 3) else if d.toNat = 60 then (match r with | [] => (0, 0) | e :: _ => if e.toNat = 61 then (14, 4) else if e.toNat = 33 then (15, 4) else (0, 0)) else (0, 0)
theorem u8_eq {a b : UInt8} : (a == b) = decide (b.toNat = a.toNat) := by
  by_cases h : a = b
  · subst h; simp
  · have : ¬ b.toNat = a.toNat := fun e => h (UInt8.toNat_inj.1 e.symm)
    simp [h, this]
theorem lookT_cons (a b d : UInt8) (r : List UInt8) : lookT (a :: b :: d :: r) = if a.toNat = 40 ∧ b.toNat = 63 then look3 d r else (0, 0) := by
  unfold lookT look3
  simp only [List.isPrefixOf, u8_eq, Bool.and_eq_true, decide_eq_true_eq, Bool.and_true]
  have h40 : (40 : UInt8).toNat = 40 := rfl
  have h63 : (63 : UInt8).toNat = 63 := rfl
  have h61 : (61 : UInt8).toNat = 61 := rfl
  have h33 : (33 : UInt8).toNat = 33 := rfl
  have h60 : (60 : UInt8).toNat = 60 := rfl
  rw [h40, h63, h61, h33, h60]
  by_cases h1 : a.toNat = 40 ∧ b.toNat = 63
  · obtain ⟨h1, h2⟩ := h1
    simp only [h1, h2, true_and, and_self, if_true]
    cases r with
    | nil =>
      simp only [List.isPrefixOf, Bool.false_eq_true, and_false, if_false]
      split
      · rfl
      · split
        · rfl
        · split <;> rfl
    | cons e r =>
      simp only [List.isPrefixOf, u8_eq, Bool.and_true, decide_eq_true_eq, h61, h33]
      split
      · rfl
      · split
        · rfl
        · by_cases h60 : d.toNat = 60
          · simp only [h60, true_and, if_true]
          · simp only [h60, false_and, if_false]
  · rw [if_neg h1, if_neg (fun h => h1 ⟨h.1, h.2.1⟩), if_neg (fun h => h1 ⟨h.1, h.2.1⟩), if_neg (fun h => h1 ⟨h.1, h.2.1⟩), if_neg (fun h => h1 ⟨h.1, h.2.1⟩)]
theorem lookT_short {r : List UInt8} (h : r.length ≤ 2) : lookT r = (0, 0) := by
  match r, h with
  | [], _ => rfl
  | [a], _ => unfold lookT; simp [List.isPrefixOf]
  | [a, b], _ => unfold lookT; simp [List.isPrefixOf]
theorem dotF : ∀ q, q < 4 → ((List.range 256).filter (fun b => decide (b ≠ 10))).foldl putF zeroF q = notF (putF zeroF 10) q := by decide +kernel
theorem stepT_cons (c : UInt8) (r : List UInt8) (h : lookT (c :: r) = (0, 0)) : stepT (c :: r) = if c.toNat = 92 then (if (escT r).2 = 0 then (wK 0, 0) else (wB (putF zeroF (escT r).1), (escT r).2 + 1))
      else if c.toNat = 91 then (match classT r with | none => (wK 0, 0) | some x => (wB x.1, x.2 + 1))
      else if c.toNat = 123 then (if (braceT r).2 = 0 then (wK 0, 0) else ((braceT r).1, (braceT r).2 + 1))
      else if c.toNat = 46 then (wB (notF (putF zeroF 10)), 1)
      else if 0 < signT c.toNat then (wK (signT c.toNat), 1)
      else if c.toNat = 93 ∨ c.toNat = 125 then (wK 0, 0) else (wB (putF zeroF c.toNat), 1) := by
  unfold stepT; rw [h, if_neg (by decide)]; rfl
theorem stepT_look (r : List UInt8) (h : 0 < (lookT r).1) : stepT r = (wK (lookT r).1, (lookT r).2) := by unfold stepT; rw [if_pos h]

/-- What the document answers of a word. -/
def WordOut (r : List UInt8) (u : Value) : Prop := ∃ (x : W) (n : Nat), u = .tuple (toArr [.agg (toArr (wC 0 x)), .int .i64 n]) ∧ n = (stepT r).2 ∧ (n ≠ 0 → x = (stepT r).1)

set_option maxRecDepth 100000 in
set_option maxHeartbeats 8000000 in
theorem refWord_fn (m : Mem) (s : List UInt8) (i : Nat) (hi : i < s.length) (hl : s.length ≤ 1000000) :
    Fn0 Tryz.prog 37 [.string (bs s), .int .i64 i] m fun m' u => m' = m ∧ WordOut (s.drop i) u := by
  have hsz := bs_size s
  have hrl : (s.drop i).length = s.length - i := List.length_drop
  have hrz := bs_size (s.drop i)
  have hext : (bs s).extract i s.length = bs (s.drop i) := by rw [bs_extract, List.take_length]
  have hget : ∀ k, (bs (s.drop i)).data[k]? = (s.drop i)[k]? := fun k => bs_get _ k
  obtain ⟨c, r, hd⟩ : ∃ c r, s.drop i = c :: r := ⟨_, _, List.drop_eq_getElem_cons hi⟩
  have hcls := refClass_fn m s i hi hl
  have hbrc := refBraces_fn m s i hi hl
  have hd1 : s.drop (i + 1) = r := by rw [← List.drop_drop, hd]; rfl
  have hch := char_fn m s [93, 125] i (by omega) hl (by decide)
  rw [hd1] at hcls hbrc
  rw [hd] at hch hrl hrz hext hget ⊢
  clear hd hd1
  have hc := c.toNat_lt
  have hg0 : (bs (c :: r)).data[0]? = some c := hget 0
  have hsg := signs_fn m c.toNat hc
  have hchl := charT_lt [93, 125] (c :: r)
  have own2 : c ∈ ([93, 125] : List UInt8) ↔ (c.toNat = 93 ∨ c.toNat = 125) := by
    simp only [List.mem_cons, List.not_mem_nil, or_false]
    constructor
    · rintro (h | h) <;> subst h
      · exact .inl rfl
      · exact .inr rfl
    · rintro (h | h)
      · exact .inl (UInt8.toNat_inj.1 h)
      · exact .inr (UInt8.toNat_inj.1 h)
  by_cases hshort : r.length ≤ 1
  · have hstep := stepT_cons c r (lookT_short (by simp only [List.length_cons]; omega))
    simp only [List.length_cons] at hrz hrl
    refine Fn.enter (N := 110) hX Tryz.func37 rfl rfl (by show _ ≤ _; simp) (fun w0 hL => ?_)
    conv => whnf
    refine NewReq.mk hL ?_
    clear hL
    intro b4 w hL
    conv => whnf
    replace hL : Ev.Loc m [] w0 m [(b4, .cells (toArr (wC 0 (wK 0))) 57 (0, 0))] w := hL
    conv => whnf
    repeat ((first | refine SlReq.mk i s.length rfl (by rw [hsz]) (by omega) (by omega) ?_ | refine zT ?_ | refine zF ?_ | refine zL hX hL ?_ | refine zB hX hL ?_ | (refine zS hX hL ?_; clear hL; intro w hL) | refine zI ?_ | refine zG hX ?_ | refine zO ?_); conv => whnf)
    rw [hext]
    conv => whnf
    repeat ((first | refine BrReq.no (by omega) ?_ | refine StrIdxReq.mk 0 c rfl hg0 ?_ | refine zT ?_ | refine zF ?_ | refine zL hX hL ?_ | refine zB hX hL ?_ | (refine zS hX hL ?_; clear hL; intro w hL) | refine zI ?_ | refine zG hX ?_ | refine zO ?_); conv => whnf)
    by_cases k2 : c.toNat = 91
    · conv => whnf
      repeat ((first | refine BrReq.yes (by omega) ?_ | refine zT ?_ | refine zF ?_ | refine zL hX hL ?_ | refine zB hX hL ?_ | (refine zS hX hL ?_; clear hL; intro w hL) | refine zI ?_ | refine zG hX ?_ | refine zO ?_); conv => whnf)
      refine CallReq.val hcls hL ?_
      clear hL
      intro w hL
      rw [if_neg (by omega), if_pos k2] at hstep
      conv => whnf
      repeat ((first | refine zT ?_ | refine zF ?_ | refine zL hX hL ?_ | refine zB hX hL ?_ | (refine zS hX hL ?_; clear hL; intro w hL) | refine zI ?_ | refine zG hX ?_ | refine zO ?_); conv => whnf)
      refine NewReq.mk hL ?_
      clear hL
      intro b10 w hL
      conv => whnf
      conv => whnf
      repeat ((first | refine zT ?_ | refine zF ?_ | refine zL hX hL ?_ | refine zB hX hL ?_ | (refine zS hX hL ?_; clear hL; intro w hL) | refine zI ?_ | refine zG hX ?_ | refine zO ?_); conv => whnf)
      refine RetReq.mk (hL.sublist (List.nil_sublist _)) ⟨rfl, rfl, wB (clsF (classT r)), clsN (classT r), rfl, ?_, fun h => ?_⟩
      · rw [hstep]; cases classT r <;> rfl
      · rw [hstep]
        cases hx : classT r with
        | none => rw [hx] at h; exact absurd rfl h
        | some x => rfl
    by_cases k3 : c.toNat = 123
    · conv => whnf
      repeat ((first | refine BrReq.yes (by omega) ?_ | refine BrReq.no (by omega) ?_ | refine zT ?_ | refine zF ?_ | refine zL hX hL ?_ | refine zB hX hL ?_ | (refine zS hX hL ?_; clear hL; intro w hL) | refine zI ?_ | refine zG hX ?_ | refine zO ?_); conv => whnf)
      refine CallReq.val hbrc hL ?_
      clear hL
      intro w hL
      rw [if_neg (by omega), if_neg (by omega), if_pos k3] at hstep
      conv => whnf
      repeat ((first | refine zT ?_ | refine zF ?_ | refine zL hX hL ?_ | refine zB hX hL ?_ | (refine zS hX hL ?_; clear hL; intro w hL) | refine zI ?_ | refine zG hX ?_ | refine zO ?_); conv => whnf)
      refine RetReq.mk (hL.sublist (List.nil_sublist _)) ⟨rfl, rfl, (braceT r).1, nUp (braceT r).2, rfl, ?_, fun h => ?_⟩
      · rw [hstep]; unfold nUp; split <;> rfl
      · rw [hstep]
        unfold nUp at h
        split at h
        · exact absurd rfl h
        · rename_i hne; rw [if_neg hne]
    by_cases k5 : 0 < signT c.toNat
    · have k1 : c.toNat ≠ 92 := fun e => by rw [e] at k5; exact absurd k5 (by decide)
      have k4 : c.toNat ≠ 46 := fun e => by rw [e] at k5; exact absurd k5 (by decide)
      rw [if_neg k1, if_neg k2, if_neg k3, if_neg k4, if_pos k5] at hstep
      conv => whnf
      repeat ((first | refine BrReq.yes (by omega) ?_ | refine BrReq.no (by omega) ?_ | refine zT ?_ | refine zF ?_ | refine zL hX hL ?_ | refine zB hX hL ?_ | (refine zS hX hL ?_; clear hL; intro w hL) | refine zI ?_ | refine zG hX ?_ | refine zO ?_); conv => whnf)
      refine CallReq.val hsg hL ?_
      clear hL
      intro w hL
      conv => whnf
      repeat ((first | refine BrReq.yes k5 ?_ | refine zT ?_ | refine zF ?_ | refine zL hX hL ?_ | refine zB hX hL ?_ | (refine zS hX hL ?_; clear hL; intro w hL) | refine zI ?_ | refine zG hX ?_ | refine zO ?_); conv => whnf)
      refine CallReq.val hsg hL ?_
      clear hL
      intro w hL
      conv => whnf
      repeat ((first | refine zT ?_ | refine zF ?_ | refine zL hX hL ?_ | refine zB hX hL ?_ | (refine zS hX hL ?_; clear hL; intro w hL) | refine zI ?_ | refine zG hX ?_ | refine zO ?_); conv => whnf)
      exact RetReq.mk (hL.sublist (List.nil_sublist _)) ⟨rfl, rfl, wK (signT c.toNat), 1, rfl, by rw [hstep], fun _ => by rw [hstep]⟩
    conv => whnf
    repeat ((first | refine BrReq.yes (by omega) ?_ | refine BrReq.no (by omega) ?_ | refine zT ?_ | refine zF ?_ | refine zL hX hL ?_ | refine zB hX hL ?_ | (refine zS hX hL ?_; clear hL; intro w hL) | refine zI ?_ | refine zG hX ?_ | refine zO ?_); conv => whnf)
    refine CallReq.val hsg hL ?_
    clear hL
    intro w hL
    conv => whnf
    repeat ((first | refine BrReq.no k5 ?_ | refine zT ?_ | refine zF ?_ | refine zL hX hL ?_ | refine zB hX hL ?_ | (refine zS hX hL ?_; clear hL; intro w hL) | refine zI ?_ | refine zG hX ?_ | refine zO ?_); conv => whnf)
    by_cases k4 : c.toNat = 46
    · rw [if_neg (by omega), if_neg k2, if_neg k3, if_pos k4] at hstep
      conv => whnf
      repeat ((first | refine BrReq.yes (by omega) ?_ | refine zT ?_ | refine zF ?_ | refine zL hX hL ?_ | refine zB hX hL ?_ | (refine zS hX hL ?_; clear hL; intro w hL) | refine zI ?_ | refine zG hX ?_ | refine zO ?_); conv => whnf)
      refine NewReq.mk hL ?_
      clear hL
      intro b12 w hL
      conv => whnf
      replace hL : Ev.Loc m [] w0 m [(b12, .cells (toArr (setC zeroF)) 33 (0, 0)), (b4, .cells (toArr (wC 0 (wK 0))) 57 (0, 0))] w := hL
      conv => whnf
      repeat ((first | refine zT ?_ | refine zF ?_ | refine zL hX hL ?_ | refine zB hX hL ?_ | (refine zS hX hL ?_; clear hL; intro w hL) | refine zI ?_ | refine zG hX ?_ | refine zO ?_); conv => whnf)
      refine LoopReq.inv hX (fun j : Nat => [(87, .int .i64 j)]) [4, 12]
        (fun j w => j ≤ 256 ∧ Ev.Loc m [] w0 m [(b12, .cells (toArr (setC (((List.range j).filter (fun b => decide (b ≠ 10))).foldl putF zeroF))) 33 (0, 0)), (b4, .cells (toArr (wC 0 (wK 0))) 57 (0, 0))] w) (fun j => 256 - j) 0
        ⟨by omega, hL⟩ ⟨rfl, trivial⟩ ?_
      clear hL
      rintro j w e ⟨hj, hL⟩
      have hrs : (List.range (j + 1)).filter (fun b => decide (b ≠ 10)) = (List.range j).filter (fun b => decide (b ≠ 10)) ++ (if j = 10 then [] else [j]) := by
        rw [List.range_succ, List.filter_append]
        congr 1
        by_cases h : j = 10 <;> simp [h]
      conv => whnf
      repeat ((first | refine zT ?_ | refine zF ?_ | refine zL hX hL ?_ | refine zB hX hL ?_ | (refine zS hX hL ?_; clear hL; intro w hL) | refine zI ?_ | refine zG hX ?_ | refine zO ?_); conv => whnf)
      refine BrReq.dec (fun hlt => ?_) (fun hlt => ?_)
      · by_cases h10 : j = 10
        · rw [if_pos h10, List.append_nil] at hrs
          rw [← hrs] at hL
          conv => whnf
          repeat ((first | refine BrReq.no (by omega) ?_ | refine zT ?_ | refine zF ?_ | refine zL hX hL ?_ | refine zB hX hL ?_ | (refine zS hX hL ?_; clear hL; intro w hL) | refine zI ?_ | refine zG hX ?_ | refine zO ?_); conv => whnf)
          refine ⟨j + 1, ⟨by omega, hL⟩, by first | omega | (simp only; omega) | (simp only [List.length_cons, List.length_append]; omega), ?_, ?_⟩
          · repeat (first | exact trivial | (refine And.intro (by (conv => lhs; whnf) <;> (conv => rhs; whnf) <;> (first | rfl)) ?_))
          · repeat (first | exact trivial | (refine And.intro (by (conv => lhs; whnf) <;> (conv => rhs; whnf) <;> (first | rfl)) ?_))
        · rw [if_neg h10] at hrs
          have hp := Put_fn m _ (inF_fold ((List.range j).filter (fun b => decide (b ≠ 10))) inF_zero) j (by omega)
          rw [show putF (((List.range j).filter (fun b => decide (b ≠ 10))).foldl putF zeroF) j = ((List.range (j + 1)).filter (fun b => decide (b ≠ 10))).foldl putF zeroF by rw [hrs, List.foldl_append]; rfl] at hp
          conv => whnf
          repeat ((first | refine BrReq.yes (by omega) ?_ | refine zT ?_ | refine zF ?_ | refine zL hX hL ?_ | refine zB hX hL ?_ | (refine zS hX hL ?_; clear hL; intro w hL) | refine zI ?_ | refine zG hX ?_ | refine zO ?_); conv => whnf)
          refine CallReq.val hp hL ?_
          clear hL
          intro w hL
          conv => whnf
          repeat ((first | refine zT ?_ | refine zF ?_ | refine zL hX hL ?_ | refine zB hX hL ?_ | (refine zS hX hL ?_; clear hL; intro w hL) | refine zI ?_ | refine zG hX ?_ | refine zO ?_); conv => whnf)
          refine ⟨j + 1, ⟨by omega, hL⟩, by first | omega | (simp only; omega) | (simp only [List.length_cons, List.length_append]; omega), ?_, ?_⟩
          · repeat (first | exact trivial | (refine And.intro (by (conv => lhs; whnf) <;> (conv => rhs; whnf) <;> (first | rfl)) ?_))
          · repeat (first | exact trivial | (refine And.intro (by (conv => lhs; whnf) <;> (conv => rhs; whnf) <;> (first | rfl)) ?_))
      · obtain rfl : j = 256 := by omega
        rw [setC_ext (g := notF (putF zeroF 10)) dotF] at hL
        conv => whnf
        repeat ((first | refine zT ?_ | refine zF ?_ | refine zL hX hL ?_ | refine zB hX hL ?_ | (refine zS hX hL ?_; clear hL; intro w hL) | refine zI ?_ | refine zG hX ?_ | refine zO ?_); conv => whnf)
        exact RetReq.mk (hL.sublist (List.nil_sublist _)) ⟨rfl, rfl, wB (notF (putF zeroF 10)), 1, rfl, by rw [hstep], fun _ => by rw [hstep]⟩
    conv => whnf
    repeat ((first | refine BrReq.no (by omega) ?_ | refine zT ?_ | refine zF ?_ | refine zL hX hL ?_ | refine zB hX hL ?_ | (refine zS hX hL ?_; clear hL; intro w hL) | refine zI ?_ | refine zG hX ?_ | refine zO ?_); conv => whnf)
    refine CallReq.val hch hL ?_
    clear hL
    intro w hL
    conv => whnf
    repeat ((first | refine zT ?_ | refine zF ?_ | refine zL hX hL ?_ | refine zB hX hL ?_ | (refine zS hX hL ?_; clear hL; intro w hL) | refine zI ?_ | refine zG hX ?_ | refine zO ?_); conv => whnf)
    refine CallReq.val (Put_fn m zeroF inF_zero (charT [93, 125] (c :: r)).1 hchl.1) hL ?_
    clear hL
    intro w hL
    conv => whnf
    repeat ((first | refine zT ?_ | refine zF ?_ | refine zL hX hL ?_ | refine zB hX hL ?_ | (refine zS hX hL ?_; clear hL; intro w hL) | refine zI ?_ | refine zG hX ?_ | refine zO ?_); conv => whnf)
    refine RetReq.mk (hL.sublist (List.nil_sublist _)) ⟨rfl, rfl, wB (putF zeroF (charT [93, 125] (c :: r)).1), (charT [93, 125] (c :: r)).2, rfl, ?_, fun h => ?_⟩
    · rw [hstep]
      simp only [charT]
      by_cases k1 : c.toNat = 92
      · rw [if_pos k1, if_pos k1]; split <;> rfl
      · rw [if_neg k1, if_neg k1, if_neg k2, if_neg k3, if_neg k4, if_neg k5]
        by_cases k6 : c.toNat = 93 ∨ c.toNat = 125
        · rw [if_pos k6, if_pos (own2.2 k6)]
        · rw [if_neg k6, if_neg (fun h => k6 (own2.1 h))]
    · rw [hstep]
      simp only [charT] at h ⊢
      by_cases k1 : c.toNat = 92
      · rw [if_pos k1] at h
        rw [if_pos k1, if_pos k1]
        split at h
        · exact absurd rfl h
        · rename_i hne; rw [if_neg hne, if_neg hne]
      · rw [if_neg k1] at h
        rw [if_neg k1, if_neg k1, if_neg k2, if_neg k3, if_neg k4, if_neg k5]
        by_cases k6 : c.toNat = 93 ∨ c.toNat = 125
        · rw [if_pos (own2.2 k6)] at h; exact absurd rfl h
        · rw [if_neg k6, if_neg (fun h => k6 (own2.1 h))]
  have hlk : ∃ b d r3, r = b :: d :: r3 := by
    match r, hshort with
    | [], h => simp at h
    | [a], h => simp at h
    | b :: d :: r3, _ => exact ⟨b, d, r3, rfl⟩
  by_cases hq : c.toNat = 40 ∧ r.head? = some 63
  · obtain ⟨b, d, r3, rfl⟩ := hlk
    have hb63 : b = 63 := Option.some.inj hq.2
    have hlkT := lookT_cons c b d r3
    rw [if_pos ⟨hq.1, by rw [hb63]; rfl⟩] at hlkT
    have hc40 : c = 40 := UInt8.toNat_inj.1 hq.1
    have he2 : (bs (c :: b :: d :: r3)).extract 0 2 = bs ((c :: b :: d :: r3).take 2) := by rw [bs_extract]; rfl
    have hne : (bs ((c :: b :: d :: r3).take 2) == bs [40, 63]) = true := by
      rw [bs_beq]
      exact decide_eq_true (by rw [hc40, hb63]; rfl)
    have hg2 : (bs (c :: b :: d :: r3)).data[2]? = some d := hget 2
    have k5 : 0 < signT c.toNat := by rw [hq.1]; decide
    simp only [List.length_cons] at hrz hrl
    unfold look3 at hlkT
    by_cases d61 : d.toNat = 61
    · rw [if_pos d61] at hlkT
      refine Fn.enter (N := 110) hX Tryz.func37 rfl rfl (by show _ ≤ _; simp) (fun w0 hL => ?_)
      conv => whnf
      refine NewReq.mk hL ?_
      clear hL
      intro b4 w hL
      conv => whnf
      replace hL : Ev.Loc m [] w0 m [(b4, .cells (toArr (wC 0 (wK 0))) 57 (0, 0))] w := hL
      conv => whnf
      repeat ((first | refine SlReq.mk i s.length rfl (by rw [hsz]) (by omega) (by omega) ?_ | refine zT ?_ | refine zF ?_ | refine zL hX hL ?_ | refine zB hX hL ?_ | (refine zS hX hL ?_; clear hL; intro w hL) | refine zI ?_ | refine zG hX ?_ | refine zO ?_); conv => whnf)
      rw [hext]
      conv => whnf
      repeat ((first | refine BrReq.yes (by omega) ?_ | refine BrReq.no (by omega) ?_ | refine SlReq.mk 0 2 rfl rfl (by omega) (by omega) ?_ | refine zT ?_ | refine zF ?_ | refine zL hX hL ?_ | refine zB hX hL ?_ | (refine zS hX hL ?_; clear hL; intro w hL) | refine zI ?_ | refine zG hX ?_ | refine zO ?_); conv => whnf)
      rw [he2]
      conv => whnf
      repeat ((first | refine UGenReq.strEq rfl rfl rfl ?_ | refine zT ?_ | refine zF ?_ | refine zL hX hL ?_ | refine zB hX hL ?_ | (refine zS hX hL ?_; clear hL; intro w hL) | refine zI ?_ | refine zG hX ?_ | refine zO ?_); conv => whnf)
      rw [hne]
      conv => whnf
      repeat ((first | refine StrIdxReq.mk 2 d rfl hg2 ?_ | refine BrReq.yes (by omega) ?_ | refine BrReq.no (by omega) ?_ | refine StrIdxReq.mk 0 c rfl hg0 ?_ | refine zT ?_ | refine zF ?_ | refine zL hX hL ?_ | refine zB hX hL ?_ | (refine zS hX hL ?_; clear hL; intro w hL) | refine zI ?_ | refine zG hX ?_ | refine zO ?_); conv => whnf)
      have hst := stepT_look _ (show 0 < (lookT (c :: b :: d :: r3)).1 by rw [hlkT]; decide)
      rw [hlkT] at hst
      exact RetReq.mk (hL.sublist (List.nil_sublist _)) ⟨rfl, rfl, wK 12, 3, rfl, by rw [hst], fun _ => by rw [hst]⟩
    rw [if_neg d61] at hlkT
    by_cases d33 : d.toNat = 33
    · rw [if_pos d33] at hlkT
      refine Fn.enter (N := 110) hX Tryz.func37 rfl rfl (by show _ ≤ _; simp) (fun w0 hL => ?_)
      conv => whnf
      refine NewReq.mk hL ?_
      clear hL
      intro b4 w hL
      conv => whnf
      replace hL : Ev.Loc m [] w0 m [(b4, .cells (toArr (wC 0 (wK 0))) 57 (0, 0))] w := hL
      conv => whnf
      repeat ((first | refine SlReq.mk i s.length rfl (by rw [hsz]) (by omega) (by omega) ?_ | refine zT ?_ | refine zF ?_ | refine zL hX hL ?_ | refine zB hX hL ?_ | (refine zS hX hL ?_; clear hL; intro w hL) | refine zI ?_ | refine zG hX ?_ | refine zO ?_); conv => whnf)
      rw [hext]
      conv => whnf
      repeat ((first | refine BrReq.yes (by omega) ?_ | refine BrReq.no (by omega) ?_ | refine SlReq.mk 0 2 rfl rfl (by omega) (by omega) ?_ | refine zT ?_ | refine zF ?_ | refine zL hX hL ?_ | refine zB hX hL ?_ | (refine zS hX hL ?_; clear hL; intro w hL) | refine zI ?_ | refine zG hX ?_ | refine zO ?_); conv => whnf)
      rw [he2]
      conv => whnf
      repeat ((first | refine UGenReq.strEq rfl rfl rfl ?_ | refine zT ?_ | refine zF ?_ | refine zL hX hL ?_ | refine zB hX hL ?_ | (refine zS hX hL ?_; clear hL; intro w hL) | refine zI ?_ | refine zG hX ?_ | refine zO ?_); conv => whnf)
      rw [hne]
      conv => whnf
      repeat ((first | refine StrIdxReq.mk 2 d rfl hg2 ?_ | refine BrReq.yes (by omega) ?_ | refine BrReq.no (by omega) ?_ | refine StrIdxReq.mk 0 c rfl hg0 ?_ | refine zT ?_ | refine zF ?_ | refine zL hX hL ?_ | refine zB hX hL ?_ | (refine zS hX hL ?_; clear hL; intro w hL) | refine zI ?_ | refine zG hX ?_ | refine zO ?_); conv => whnf)
      have hst := stepT_look _ (show 0 < (lookT (c :: b :: d :: r3)).1 by rw [hlkT]; decide)
      rw [hlkT] at hst
      exact RetReq.mk (hL.sublist (List.nil_sublist _)) ⟨rfl, rfl, wK 13, 3, rfl, by rw [hst], fun _ => by rw [hst]⟩
    rw [if_neg d33] at hlkT
    by_cases d60 : d.toNat = 60
    · rw [if_pos d60] at hlkT
      cases r3 with
      | nil =>
        have hlk0 : lookT [c, b, d] = (0, 0) := hlkT
        simp only [List.length_nil] at hrz
        refine Fn.enter (N := 110) hX Tryz.func37 rfl rfl (by show _ ≤ _; simp) (fun w0 hL => ?_)
        conv => whnf
        refine NewReq.mk hL ?_
        clear hL
        intro b4 w hL
        conv => whnf
        replace hL : Ev.Loc m [] w0 m [(b4, .cells (toArr (wC 0 (wK 0))) 57 (0, 0))] w := hL
        conv => whnf
        repeat ((first | refine SlReq.mk i s.length rfl (by rw [hsz]) (by omega) (by omega) ?_ | refine zT ?_ | refine zF ?_ | refine zL hX hL ?_ | refine zB hX hL ?_ | (refine zS hX hL ?_; clear hL; intro w hL) | refine zI ?_ | refine zG hX ?_ | refine zO ?_); conv => whnf)
        rw [hext]
        conv => whnf
        repeat ((first | refine BrReq.yes (by omega) ?_ | refine BrReq.no (by omega) ?_ | refine SlReq.mk 0 2 rfl rfl (by omega) (by omega) ?_ | refine zT ?_ | refine zF ?_ | refine zL hX hL ?_ | refine zB hX hL ?_ | (refine zS hX hL ?_; clear hL; intro w hL) | refine zI ?_ | refine zG hX ?_ | refine zO ?_); conv => whnf)
        rw [he2]
        conv => whnf
        repeat ((first | refine UGenReq.strEq rfl rfl rfl ?_ | refine zT ?_ | refine zF ?_ | refine zL hX hL ?_ | refine zB hX hL ?_ | (refine zS hX hL ?_; clear hL; intro w hL) | refine zI ?_ | refine zG hX ?_ | refine zO ?_); conv => whnf)
        rw [hne]
        conv => whnf
        repeat ((first | refine StrIdxReq.mk 2 d rfl hg2 ?_ | refine BrReq.yes (by omega) ?_ | refine BrReq.no (by omega) ?_ | refine StrIdxReq.mk 0 c rfl hg0 ?_ | refine zT ?_ | refine zF ?_ | refine zL hX hL ?_ | refine zB hX hL ?_ | (refine zS hX hL ?_; clear hL; intro w hL) | refine zI ?_ | refine zG hX ?_ | refine zO ?_); conv => whnf)
        have hstep := stepT_cons c [b, d] hlk0
        rw [if_neg (by omega), if_neg (by omega), if_neg (by omega), if_neg (by omega), if_pos k5] at hstep
        refine CallReq.val hsg hL ?_
        clear hL
        intro w hL
        conv => whnf
        repeat ((first | refine BrReq.yes k5 ?_ | refine zT ?_ | refine zF ?_ | refine zL hX hL ?_ | refine zB hX hL ?_ | (refine zS hX hL ?_; clear hL; intro w hL) | refine zI ?_ | refine zG hX ?_ | refine zO ?_); conv => whnf)
        refine CallReq.val hsg hL ?_
        clear hL
        intro w hL
        conv => whnf
        repeat ((first | refine zT ?_ | refine zF ?_ | refine zL hX hL ?_ | refine zB hX hL ?_ | (refine zS hX hL ?_; clear hL; intro w hL) | refine zI ?_ | refine zG hX ?_ | refine zO ?_); conv => whnf)
        exact RetReq.mk (hL.sublist (List.nil_sublist _)) ⟨rfl, rfl, wK (signT c.toNat), 1, rfl, by rw [hstep], fun _ => by rw [hstep]⟩
      | cons e r4 =>
        have hg3 : (bs (c :: b :: d :: e :: r4)).data[3]? = some e := hget 3
        simp only [List.length_cons] at hrz
        simp only at hlkT
        by_cases e61 : e.toNat = 61
        · rw [if_pos e61] at hlkT
          refine Fn.enter (N := 110) hX Tryz.func37 rfl rfl (by show _ ≤ _; simp) (fun w0 hL => ?_)
          conv => whnf
          refine NewReq.mk hL ?_
          clear hL
          intro b4 w hL
          conv => whnf
          replace hL : Ev.Loc m [] w0 m [(b4, .cells (toArr (wC 0 (wK 0))) 57 (0, 0))] w := hL
          conv => whnf
          repeat ((first | refine SlReq.mk i s.length rfl (by rw [hsz]) (by omega) (by omega) ?_ | refine zT ?_ | refine zF ?_ | refine zL hX hL ?_ | refine zB hX hL ?_ | (refine zS hX hL ?_; clear hL; intro w hL) | refine zI ?_ | refine zG hX ?_ | refine zO ?_); conv => whnf)
          rw [hext]
          conv => whnf
          repeat ((first | refine BrReq.yes (by omega) ?_ | refine BrReq.no (by omega) ?_ | refine SlReq.mk 0 2 rfl rfl (by omega) (by omega) ?_ | refine zT ?_ | refine zF ?_ | refine zL hX hL ?_ | refine zB hX hL ?_ | (refine zS hX hL ?_; clear hL; intro w hL) | refine zI ?_ | refine zG hX ?_ | refine zO ?_); conv => whnf)
          rw [he2]
          conv => whnf
          repeat ((first | refine UGenReq.strEq rfl rfl rfl ?_ | refine zT ?_ | refine zF ?_ | refine zL hX hL ?_ | refine zB hX hL ?_ | (refine zS hX hL ?_; clear hL; intro w hL) | refine zI ?_ | refine zG hX ?_ | refine zO ?_); conv => whnf)
          rw [hne]
          conv => whnf
          repeat ((first | refine StrIdxReq.mk 2 d rfl hg2 ?_ | refine BrReq.yes (by omega) ?_ | refine BrReq.no (by omega) ?_ | refine StrIdxReq.mk 0 c rfl hg0 ?_ | refine StrIdxReq.mk 3 e rfl hg3 ?_ | refine zT ?_ | refine zF ?_ | refine zL hX hL ?_ | refine zB hX hL ?_ | (refine zS hX hL ?_; clear hL; intro w hL) | refine zI ?_ | refine zG hX ?_ | refine zO ?_); conv => whnf)
          have hst := stepT_look _ (show 0 < (lookT (c :: b :: d :: e :: r4)).1 by rw [hlkT]; decide)
          rw [hlkT] at hst
          exact RetReq.mk (hL.sublist (List.nil_sublist _)) ⟨rfl, rfl, wK 14, 4, rfl, by rw [hst], fun _ => by rw [hst]⟩
        rw [if_neg e61] at hlkT
        by_cases e33 : e.toNat = 33
        · rw [if_pos e33] at hlkT
          refine Fn.enter (N := 110) hX Tryz.func37 rfl rfl (by show _ ≤ _; simp) (fun w0 hL => ?_)
          conv => whnf
          refine NewReq.mk hL ?_
          clear hL
          intro b4 w hL
          conv => whnf
          replace hL : Ev.Loc m [] w0 m [(b4, .cells (toArr (wC 0 (wK 0))) 57 (0, 0))] w := hL
          conv => whnf
          repeat ((first | refine SlReq.mk i s.length rfl (by rw [hsz]) (by omega) (by omega) ?_ | refine zT ?_ | refine zF ?_ | refine zL hX hL ?_ | refine zB hX hL ?_ | (refine zS hX hL ?_; clear hL; intro w hL) | refine zI ?_ | refine zG hX ?_ | refine zO ?_); conv => whnf)
          rw [hext]
          conv => whnf
          repeat ((first | refine BrReq.yes (by omega) ?_ | refine BrReq.no (by omega) ?_ | refine SlReq.mk 0 2 rfl rfl (by omega) (by omega) ?_ | refine zT ?_ | refine zF ?_ | refine zL hX hL ?_ | refine zB hX hL ?_ | (refine zS hX hL ?_; clear hL; intro w hL) | refine zI ?_ | refine zG hX ?_ | refine zO ?_); conv => whnf)
          rw [he2]
          conv => whnf
          repeat ((first | refine UGenReq.strEq rfl rfl rfl ?_ | refine zT ?_ | refine zF ?_ | refine zL hX hL ?_ | refine zB hX hL ?_ | (refine zS hX hL ?_; clear hL; intro w hL) | refine zI ?_ | refine zG hX ?_ | refine zO ?_); conv => whnf)
          rw [hne]
          conv => whnf
          repeat ((first | refine StrIdxReq.mk 2 d rfl hg2 ?_ | refine BrReq.yes (by omega) ?_ | refine BrReq.no (by omega) ?_ | refine StrIdxReq.mk 0 c rfl hg0 ?_ | refine StrIdxReq.mk 3 e rfl hg3 ?_ | refine zT ?_ | refine zF ?_ | refine zL hX hL ?_ | refine zB hX hL ?_ | (refine zS hX hL ?_; clear hL; intro w hL) | refine zI ?_ | refine zG hX ?_ | refine zO ?_); conv => whnf)
          have hst := stepT_look _ (show 0 < (lookT (c :: b :: d :: e :: r4)).1 by rw [hlkT]; decide)
          rw [hlkT] at hst
          exact RetReq.mk (hL.sublist (List.nil_sublist _)) ⟨rfl, rfl, wK 15, 4, rfl, by rw [hst], fun _ => by rw [hst]⟩
        rw [if_neg e33] at hlkT
        refine Fn.enter (N := 110) hX Tryz.func37 rfl rfl (by show _ ≤ _; simp) (fun w0 hL => ?_)
        conv => whnf
        refine NewReq.mk hL ?_
        clear hL
        intro b4 w hL
        conv => whnf
        replace hL : Ev.Loc m [] w0 m [(b4, .cells (toArr (wC 0 (wK 0))) 57 (0, 0))] w := hL
        conv => whnf
        repeat ((first | refine SlReq.mk i s.length rfl (by rw [hsz]) (by omega) (by omega) ?_ | refine zT ?_ | refine zF ?_ | refine zL hX hL ?_ | refine zB hX hL ?_ | (refine zS hX hL ?_; clear hL; intro w hL) | refine zI ?_ | refine zG hX ?_ | refine zO ?_); conv => whnf)
        rw [hext]
        conv => whnf
        repeat ((first | refine BrReq.yes (by omega) ?_ | refine BrReq.no (by omega) ?_ | refine SlReq.mk 0 2 rfl rfl (by omega) (by omega) ?_ | refine zT ?_ | refine zF ?_ | refine zL hX hL ?_ | refine zB hX hL ?_ | (refine zS hX hL ?_; clear hL; intro w hL) | refine zI ?_ | refine zG hX ?_ | refine zO ?_); conv => whnf)
        rw [he2]
        conv => whnf
        repeat ((first | refine UGenReq.strEq rfl rfl rfl ?_ | refine zT ?_ | refine zF ?_ | refine zL hX hL ?_ | refine zB hX hL ?_ | (refine zS hX hL ?_; clear hL; intro w hL) | refine zI ?_ | refine zG hX ?_ | refine zO ?_); conv => whnf)
        rw [hne]
        conv => whnf
        repeat ((first | refine StrIdxReq.mk 2 d rfl hg2 ?_ | refine BrReq.yes (by omega) ?_ | refine BrReq.no (by omega) ?_ | refine StrIdxReq.mk 0 c rfl hg0 ?_ | refine StrIdxReq.mk 3 e rfl hg3 ?_ | refine zT ?_ | refine zF ?_ | refine zL hX hL ?_ | refine zB hX hL ?_ | (refine zS hX hL ?_; clear hL; intro w hL) | refine zI ?_ | refine zG hX ?_ | refine zO ?_); conv => whnf)
        have hstep := stepT_cons c (b :: d :: e :: r4) hlkT
        rw [if_neg (by omega), if_neg (by omega), if_neg (by omega), if_neg (by omega), if_pos k5] at hstep
        refine CallReq.val hsg hL ?_
        clear hL
        intro w hL
        conv => whnf
        repeat ((first | refine BrReq.yes k5 ?_ | refine zT ?_ | refine zF ?_ | refine zL hX hL ?_ | refine zB hX hL ?_ | (refine zS hX hL ?_; clear hL; intro w hL) | refine zI ?_ | refine zG hX ?_ | refine zO ?_); conv => whnf)
        refine CallReq.val hsg hL ?_
        clear hL
        intro w hL
        conv => whnf
        repeat ((first | refine zT ?_ | refine zF ?_ | refine zL hX hL ?_ | refine zB hX hL ?_ | (refine zS hX hL ?_; clear hL; intro w hL) | refine zI ?_ | refine zG hX ?_ | refine zO ?_); conv => whnf)
        exact RetReq.mk (hL.sublist (List.nil_sublist _)) ⟨rfl, rfl, wK (signT c.toNat), 1, rfl, by rw [hstep], fun _ => by rw [hstep]⟩
    rw [if_neg d60] at hlkT
    have hlk0 := hlkT
    refine Fn.enter (N := 110) hX Tryz.func37 rfl rfl (by show _ ≤ _; simp) (fun w0 hL => ?_)
    conv => whnf
    refine NewReq.mk hL ?_
    clear hL
    intro b4 w hL
    conv => whnf
    replace hL : Ev.Loc m [] w0 m [(b4, .cells (toArr (wC 0 (wK 0))) 57 (0, 0))] w := hL
    conv => whnf
    repeat ((first | refine SlReq.mk i s.length rfl (by rw [hsz]) (by omega) (by omega) ?_ | refine zT ?_ | refine zF ?_ | refine zL hX hL ?_ | refine zB hX hL ?_ | (refine zS hX hL ?_; clear hL; intro w hL) | refine zI ?_ | refine zG hX ?_ | refine zO ?_); conv => whnf)
    rw [hext]
    conv => whnf
    repeat ((first | refine BrReq.yes (by omega) ?_ | refine BrReq.no (by omega) ?_ | refine SlReq.mk 0 2 rfl rfl (by omega) (by omega) ?_ | refine zT ?_ | refine zF ?_ | refine zL hX hL ?_ | refine zB hX hL ?_ | (refine zS hX hL ?_; clear hL; intro w hL) | refine zI ?_ | refine zG hX ?_ | refine zO ?_); conv => whnf)
    rw [he2]
    conv => whnf
    repeat ((first | refine UGenReq.strEq rfl rfl rfl ?_ | refine zT ?_ | refine zF ?_ | refine zL hX hL ?_ | refine zB hX hL ?_ | (refine zS hX hL ?_; clear hL; intro w hL) | refine zI ?_ | refine zG hX ?_ | refine zO ?_); conv => whnf)
    rw [hne]
    conv => whnf
    repeat ((first | refine StrIdxReq.mk 2 d rfl hg2 ?_ | refine BrReq.yes (by omega) ?_ | refine BrReq.no (by omega) ?_ | refine StrIdxReq.mk 0 c rfl hg0 ?_ | refine zT ?_ | refine zF ?_ | refine zL hX hL ?_ | refine zB hX hL ?_ | (refine zS hX hL ?_; clear hL; intro w hL) | refine zI ?_ | refine zG hX ?_ | refine zO ?_); conv => whnf)
    have hstep := stepT_cons c (b :: d :: r3) hlk0
    rw [if_neg (by omega), if_neg (by omega), if_neg (by omega), if_neg (by omega), if_pos k5] at hstep
    refine CallReq.val hsg hL ?_
    clear hL
    intro w hL
    conv => whnf
    repeat ((first | refine BrReq.yes k5 ?_ | refine zT ?_ | refine zF ?_ | refine zL hX hL ?_ | refine zB hX hL ?_ | (refine zS hX hL ?_; clear hL; intro w hL) | refine zI ?_ | refine zG hX ?_ | refine zO ?_); conv => whnf)
    refine CallReq.val hsg hL ?_
    clear hL
    intro w hL
    conv => whnf
    repeat ((first | refine zT ?_ | refine zF ?_ | refine zL hX hL ?_ | refine zB hX hL ?_ | (refine zS hX hL ?_; clear hL; intro w hL) | refine zI ?_ | refine zG hX ?_ | refine zO ?_); conv => whnf)
    exact RetReq.mk (hL.sublist (List.nil_sublist _)) ⟨rfl, rfl, wK (signT c.toNat), 1, rfl, by rw [hstep], fun _ => by rw [hstep]⟩
  · have hlk0 : lookT (c :: r) = (0, 0) := by
      obtain ⟨b, d, r3, rfl⟩ := hlk
      rw [lookT_cons, if_neg (fun h => hq ⟨h.1, by rw [List.head?_cons]; congr 1; exact UInt8.toNat_inj.1 h.2⟩)]
    have hstep := stepT_cons c r hlk0
    have he2 : (bs (c :: r)).extract 0 2 = bs ((c :: r).take 2) := by rw [bs_extract]; rfl
    have hne : (bs ((c :: r).take 2) == bs [40, 63]) = false := by
      rw [bs_beq]
      refine decide_eq_false fun h => hq ?_
      obtain ⟨b, d, r3, rfl⟩ := hlk
      simp only [List.take_succ_cons, List.take_zero, List.cons.injEq, and_true] at h
      exact ⟨by rw [h.1]; rfl, by rw [List.head?_cons, h.2]⟩
    simp only [List.length_cons] at hrz hrl
    refine Fn.enter (N := 110) hX Tryz.func37 rfl rfl (by show _ ≤ _; simp) (fun w0 hL => ?_)
    conv => whnf
    refine NewReq.mk hL ?_
    clear hL
    intro b4 w hL
    conv => whnf
    replace hL : Ev.Loc m [] w0 m [(b4, .cells (toArr (wC 0 (wK 0))) 57 (0, 0))] w := hL
    conv => whnf
    repeat ((first | refine SlReq.mk i s.length rfl (by rw [hsz]) (by omega) (by omega) ?_ | refine zT ?_ | refine zF ?_ | refine zL hX hL ?_ | refine zB hX hL ?_ | (refine zS hX hL ?_; clear hL; intro w hL) | refine zI ?_ | refine zG hX ?_ | refine zO ?_); conv => whnf)
    rw [hext]
    conv => whnf
    repeat ((first | refine BrReq.yes (by omega) ?_ | refine BrReq.no (by omega) ?_ | refine SlReq.mk 0 2 rfl rfl (by omega) (by omega) ?_ | refine zT ?_ | refine zF ?_ | refine zL hX hL ?_ | refine zB hX hL ?_ | (refine zS hX hL ?_; clear hL; intro w hL) | refine zI ?_ | refine zG hX ?_ | refine zO ?_); conv => whnf)
    rw [he2]
    conv => whnf
    repeat ((first | refine UGenReq.strEq rfl rfl rfl ?_ | refine zT ?_ | refine zF ?_ | refine zL hX hL ?_ | refine zB hX hL ?_ | (refine zS hX hL ?_; clear hL; intro w hL) | refine zI ?_ | refine zG hX ?_ | refine zO ?_); conv => whnf)
    rw [hne]
    conv => whnf
    repeat ((first | refine StrIdxReq.mk 0 c rfl hg0 ?_ | refine zT ?_ | refine zF ?_ | refine zL hX hL ?_ | refine zB hX hL ?_ | (refine zS hX hL ?_; clear hL; intro w hL) | refine zI ?_ | refine zG hX ?_ | refine zO ?_); conv => whnf)
    by_cases k2 : c.toNat = 91
    · conv => whnf
      repeat ((first | refine BrReq.yes (by omega) ?_ | refine zT ?_ | refine zF ?_ | refine zL hX hL ?_ | refine zB hX hL ?_ | (refine zS hX hL ?_; clear hL; intro w hL) | refine zI ?_ | refine zG hX ?_ | refine zO ?_); conv => whnf)
      refine CallReq.val hcls hL ?_
      clear hL
      intro w hL
      rw [if_neg (by omega), if_pos k2] at hstep
      conv => whnf
      repeat ((first | refine zT ?_ | refine zF ?_ | refine zL hX hL ?_ | refine zB hX hL ?_ | (refine zS hX hL ?_; clear hL; intro w hL) | refine zI ?_ | refine zG hX ?_ | refine zO ?_); conv => whnf)
      refine NewReq.mk hL ?_
      clear hL
      intro b10 w hL
      conv => whnf
      conv => whnf
      repeat ((first | refine zT ?_ | refine zF ?_ | refine zL hX hL ?_ | refine zB hX hL ?_ | (refine zS hX hL ?_; clear hL; intro w hL) | refine zI ?_ | refine zG hX ?_ | refine zO ?_); conv => whnf)
      refine RetReq.mk (hL.sublist (List.nil_sublist _)) ⟨rfl, rfl, wB (clsF (classT r)), clsN (classT r), rfl, ?_, fun h => ?_⟩
      · rw [hstep]; cases classT r <;> rfl
      · rw [hstep]
        cases hx : classT r with
        | none => rw [hx] at h; exact absurd rfl h
        | some x => rfl
    by_cases k3 : c.toNat = 123
    · conv => whnf
      repeat ((first | refine BrReq.yes (by omega) ?_ | refine BrReq.no (by omega) ?_ | refine zT ?_ | refine zF ?_ | refine zL hX hL ?_ | refine zB hX hL ?_ | (refine zS hX hL ?_; clear hL; intro w hL) | refine zI ?_ | refine zG hX ?_ | refine zO ?_); conv => whnf)
      refine CallReq.val hbrc hL ?_
      clear hL
      intro w hL
      rw [if_neg (by omega), if_neg (by omega), if_pos k3] at hstep
      conv => whnf
      repeat ((first | refine zT ?_ | refine zF ?_ | refine zL hX hL ?_ | refine zB hX hL ?_ | (refine zS hX hL ?_; clear hL; intro w hL) | refine zI ?_ | refine zG hX ?_ | refine zO ?_); conv => whnf)
      refine RetReq.mk (hL.sublist (List.nil_sublist _)) ⟨rfl, rfl, (braceT r).1, nUp (braceT r).2, rfl, ?_, fun h => ?_⟩
      · rw [hstep]; unfold nUp; split <;> rfl
      · rw [hstep]
        unfold nUp at h
        split at h
        · exact absurd rfl h
        · rename_i hne; rw [if_neg hne]
    by_cases k5 : 0 < signT c.toNat
    · have k1 : c.toNat ≠ 92 := fun e => by rw [e] at k5; exact absurd k5 (by decide)
      have k4 : c.toNat ≠ 46 := fun e => by rw [e] at k5; exact absurd k5 (by decide)
      rw [if_neg k1, if_neg k2, if_neg k3, if_neg k4, if_pos k5] at hstep
      conv => whnf
      repeat ((first | refine BrReq.yes (by omega) ?_ | refine BrReq.no (by omega) ?_ | refine zT ?_ | refine zF ?_ | refine zL hX hL ?_ | refine zB hX hL ?_ | (refine zS hX hL ?_; clear hL; intro w hL) | refine zI ?_ | refine zG hX ?_ | refine zO ?_); conv => whnf)
      refine CallReq.val hsg hL ?_
      clear hL
      intro w hL
      conv => whnf
      repeat ((first | refine BrReq.yes k5 ?_ | refine zT ?_ | refine zF ?_ | refine zL hX hL ?_ | refine zB hX hL ?_ | (refine zS hX hL ?_; clear hL; intro w hL) | refine zI ?_ | refine zG hX ?_ | refine zO ?_); conv => whnf)
      refine CallReq.val hsg hL ?_
      clear hL
      intro w hL
      conv => whnf
      repeat ((first | refine zT ?_ | refine zF ?_ | refine zL hX hL ?_ | refine zB hX hL ?_ | (refine zS hX hL ?_; clear hL; intro w hL) | refine zI ?_ | refine zG hX ?_ | refine zO ?_); conv => whnf)
      exact RetReq.mk (hL.sublist (List.nil_sublist _)) ⟨rfl, rfl, wK (signT c.toNat), 1, rfl, by rw [hstep], fun _ => by rw [hstep]⟩
    conv => whnf
    repeat ((first | refine BrReq.yes (by omega) ?_ | refine BrReq.no (by omega) ?_ | refine zT ?_ | refine zF ?_ | refine zL hX hL ?_ | refine zB hX hL ?_ | (refine zS hX hL ?_; clear hL; intro w hL) | refine zI ?_ | refine zG hX ?_ | refine zO ?_); conv => whnf)
    refine CallReq.val hsg hL ?_
    clear hL
    intro w hL
    conv => whnf
    repeat ((first | refine BrReq.no k5 ?_ | refine zT ?_ | refine zF ?_ | refine zL hX hL ?_ | refine zB hX hL ?_ | (refine zS hX hL ?_; clear hL; intro w hL) | refine zI ?_ | refine zG hX ?_ | refine zO ?_); conv => whnf)
    by_cases k4 : c.toNat = 46
    · rw [if_neg (by omega), if_neg k2, if_neg k3, if_pos k4] at hstep
      conv => whnf
      repeat ((first | refine BrReq.yes (by omega) ?_ | refine zT ?_ | refine zF ?_ | refine zL hX hL ?_ | refine zB hX hL ?_ | (refine zS hX hL ?_; clear hL; intro w hL) | refine zI ?_ | refine zG hX ?_ | refine zO ?_); conv => whnf)
      refine NewReq.mk hL ?_
      clear hL
      intro b12 w hL
      conv => whnf
      replace hL : Ev.Loc m [] w0 m [(b12, .cells (toArr (setC zeroF)) 33 (0, 0)), (b4, .cells (toArr (wC 0 (wK 0))) 57 (0, 0))] w := hL
      conv => whnf
      repeat ((first | refine zT ?_ | refine zF ?_ | refine zL hX hL ?_ | refine zB hX hL ?_ | (refine zS hX hL ?_; clear hL; intro w hL) | refine zI ?_ | refine zG hX ?_ | refine zO ?_); conv => whnf)
      refine LoopReq.inv hX (fun j : Nat => [(87, .int .i64 j)]) [4, 12]
        (fun j w => j ≤ 256 ∧ Ev.Loc m [] w0 m [(b12, .cells (toArr (setC (((List.range j).filter (fun b => decide (b ≠ 10))).foldl putF zeroF))) 33 (0, 0)), (b4, .cells (toArr (wC 0 (wK 0))) 57 (0, 0))] w) (fun j => 256 - j) 0
        ⟨by omega, hL⟩ ⟨rfl, trivial⟩ ?_
      clear hL
      rintro j w e ⟨hj, hL⟩
      have hrs : (List.range (j + 1)).filter (fun b => decide (b ≠ 10)) = (List.range j).filter (fun b => decide (b ≠ 10)) ++ (if j = 10 then [] else [j]) := by
        rw [List.range_succ, List.filter_append]
        congr 1
        by_cases h : j = 10 <;> simp [h]
      conv => whnf
      repeat ((first | refine zT ?_ | refine zF ?_ | refine zL hX hL ?_ | refine zB hX hL ?_ | (refine zS hX hL ?_; clear hL; intro w hL) | refine zI ?_ | refine zG hX ?_ | refine zO ?_); conv => whnf)
      refine BrReq.dec (fun hlt => ?_) (fun hlt => ?_)
      · by_cases h10 : j = 10
        · rw [if_pos h10, List.append_nil] at hrs
          rw [← hrs] at hL
          conv => whnf
          repeat ((first | refine BrReq.no (by omega) ?_ | refine zT ?_ | refine zF ?_ | refine zL hX hL ?_ | refine zB hX hL ?_ | (refine zS hX hL ?_; clear hL; intro w hL) | refine zI ?_ | refine zG hX ?_ | refine zO ?_); conv => whnf)
          refine ⟨j + 1, ⟨by omega, hL⟩, by first | omega | (simp only; omega) | (simp only [List.length_cons, List.length_append]; omega), ?_, ?_⟩
          · repeat (first | exact trivial | (refine And.intro (by (conv => lhs; whnf) <;> (conv => rhs; whnf) <;> (first | rfl)) ?_))
          · repeat (first | exact trivial | (refine And.intro (by (conv => lhs; whnf) <;> (conv => rhs; whnf) <;> (first | rfl)) ?_))
        · rw [if_neg h10] at hrs
          have hp := Put_fn m _ (inF_fold ((List.range j).filter (fun b => decide (b ≠ 10))) inF_zero) j (by omega)
          rw [show putF (((List.range j).filter (fun b => decide (b ≠ 10))).foldl putF zeroF) j = ((List.range (j + 1)).filter (fun b => decide (b ≠ 10))).foldl putF zeroF by rw [hrs, List.foldl_append]; rfl] at hp
          conv => whnf
          repeat ((first | refine BrReq.yes (by omega) ?_ | refine zT ?_ | refine zF ?_ | refine zL hX hL ?_ | refine zB hX hL ?_ | (refine zS hX hL ?_; clear hL; intro w hL) | refine zI ?_ | refine zG hX ?_ | refine zO ?_); conv => whnf)
          refine CallReq.val hp hL ?_
          clear hL
          intro w hL
          conv => whnf
          repeat ((first | refine zT ?_ | refine zF ?_ | refine zL hX hL ?_ | refine zB hX hL ?_ | (refine zS hX hL ?_; clear hL; intro w hL) | refine zI ?_ | refine zG hX ?_ | refine zO ?_); conv => whnf)
          refine ⟨j + 1, ⟨by omega, hL⟩, by first | omega | (simp only; omega) | (simp only [List.length_cons, List.length_append]; omega), ?_, ?_⟩
          · repeat (first | exact trivial | (refine And.intro (by (conv => lhs; whnf) <;> (conv => rhs; whnf) <;> (first | rfl)) ?_))
          · repeat (first | exact trivial | (refine And.intro (by (conv => lhs; whnf) <;> (conv => rhs; whnf) <;> (first | rfl)) ?_))
      · obtain rfl : j = 256 := by omega
        rw [setC_ext (g := notF (putF zeroF 10)) dotF] at hL
        conv => whnf
        repeat ((first | refine zT ?_ | refine zF ?_ | refine zL hX hL ?_ | refine zB hX hL ?_ | (refine zS hX hL ?_; clear hL; intro w hL) | refine zI ?_ | refine zG hX ?_ | refine zO ?_); conv => whnf)
        exact RetReq.mk (hL.sublist (List.nil_sublist _)) ⟨rfl, rfl, wB (notF (putF zeroF 10)), 1, rfl, by rw [hstep], fun _ => by rw [hstep]⟩
    conv => whnf
    repeat ((first | refine BrReq.no (by omega) ?_ | refine zT ?_ | refine zF ?_ | refine zL hX hL ?_ | refine zB hX hL ?_ | (refine zS hX hL ?_; clear hL; intro w hL) | refine zI ?_ | refine zG hX ?_ | refine zO ?_); conv => whnf)
    refine CallReq.val hch hL ?_
    clear hL
    intro w hL
    conv => whnf
    repeat ((first | refine zT ?_ | refine zF ?_ | refine zL hX hL ?_ | refine zB hX hL ?_ | (refine zS hX hL ?_; clear hL; intro w hL) | refine zI ?_ | refine zG hX ?_ | refine zO ?_); conv => whnf)
    refine CallReq.val (Put_fn m zeroF inF_zero (charT [93, 125] (c :: r)).1 hchl.1) hL ?_
    clear hL
    intro w hL
    conv => whnf
    repeat ((first | refine zT ?_ | refine zF ?_ | refine zL hX hL ?_ | refine zB hX hL ?_ | (refine zS hX hL ?_; clear hL; intro w hL) | refine zI ?_ | refine zG hX ?_ | refine zO ?_); conv => whnf)
    refine RetReq.mk (hL.sublist (List.nil_sublist _)) ⟨rfl, rfl, wB (putF zeroF (charT [93, 125] (c :: r)).1), (charT [93, 125] (c :: r)).2, rfl, ?_, fun h => ?_⟩
    · rw [hstep]
      simp only [charT]
      by_cases k1 : c.toNat = 92
      · rw [if_pos k1, if_pos k1]; split <;> rfl
      · rw [if_neg k1, if_neg k1, if_neg k2, if_neg k3, if_neg k4, if_neg k5]
        by_cases k6 : c.toNat = 93 ∨ c.toNat = 125
        · rw [if_pos k6, if_pos (own2.2 k6)]
        · rw [if_neg k6, if_neg (fun h => k6 (own2.1 h))]
    · rw [hstep]
      simp only [charT] at h ⊢
      by_cases k1 : c.toNat = 92
      · rw [if_pos k1] at h
        rw [if_pos k1, if_pos k1]
        split at h
        · exact absurd rfl h
        · rename_i hne; rw [if_neg hne, if_neg hne]
      · rw [if_neg k1] at h
        rw [if_neg k1, if_neg k1, if_neg k2, if_neg k3, if_neg k4, if_neg k5]
        by_cases k6 : c.toNat = 93 ∨ c.toNat = 125
        · rw [if_pos (own2.2 k6)] at h; exact absurd rfl h
        · rw [if_neg k6, if_neg (fun h => k6 (own2.1 h))]
end Go.Proofs.YtemdkfohlppckaaGreatDoor.lx
