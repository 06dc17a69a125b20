/- Tables: so many times, looks; is a byte in a set. Conditions: none. -/
import Derived.Test.YtpdiljdklllmjaaGreatTabsThen
import Derived.Test.YtpdiljdklllmjaaGreatTree

namespace Go.Proofs.YtpdiljdklllmjaaGreat.tabs
open Go Go.Ev Go.Proofs Go.Proofs.YtpdiljdklllmjaaGreat.tree

/-- So many times. -/
def powK (n : Nat) (f : Nat → Nat → Bool) : Nat → Nat → Nat → Bool
  | 0 => fun i j => decide (i = j)
  | k + 1 => thenT n (powK n f k) f
/-- From so many times, up to so many more. -/
def outK (n : Nat) (f : Nat → Nat → Bool) (lo : Nat) : Nat → Nat → Nat → Bool
  | 0 => powK n f lo
  | d + 1 => fun i j => outK n f lo d i j || powK n f (lo + d + 1) i j
def timesT (n : Nat) (lo hi : Int) (f : Nat → Nat → Bool) : Nat → Nat → Bool :=
  if hi < 0 then thenT n (powK n f lo.toNat) (anyT n f) else outK n f lo.toNat (hi - lo).toNat

theorem times_fn (m : Mem) (kd s0 s1 s2 s3 lo hi : Int) (neg : Bool) (P : Option Addr) (np cp : Nat) (va : Value) (n : Nat) (fa : Nat → Nat → Bool) (ha : RepTab m va n fa) (hn : n ≤ 1000) (hlo : 0 ≤ lo) (hlo2 : lo ≤ 1000) (hhi : hi ≤ 1000) (hhl : hi < 0 ∨ lo ≤ hi) :
    Fn0 Tryz.prog 34 [.agg (toArr (reC kd s0 s1 s2 s3 (.slice P np cp) lo hi neg)), va] m fun m' u => RepTab m' u n (timesT n lo hi fa) := by
  have hmx : maxLen = 9223372036854775807 := rfl
  obtain ⟨A, c, rfl⟩ := ha.form
  obtain ⟨l, rfl⟩ : ∃ l : Nat, lo = l := ⟨lo.toNat, by omega⟩
  refine Fn.enter (N := 42) hX Tryz.func34 rfl rfl (by show _ ≤ _; simp) (fun w0 hL => ?_)
  conv => whnf
  refine NewReq.mk hL ?_
  clear hL
  intro b2 w hL
  conv => whnf
  conv => whnf
  repeat ((first | refine zT ?_ | refine zF ?_ | refine zL hX hL ?_ | refine zB hX hL ?_ | (refine zS hX hL ?_; clear hL; intro w hL) | refine zI ?_ | refine zG hX ?_ | refine zO ?_); conv => whnf)
  refine CallReq.pure (One_fn m n hn) hL ?_
  clear hL
  intro v m1 w hL hm1 ht
  obtain ⟨A1, c1, rfl⟩ := ht.form
  conv => whnf
  repeat ((first | refine zT ?_ | refine zF ?_ | refine zL hX hL ?_ | refine zB hX hL ?_ | (refine zS hX hL ?_; clear hL; intro w hL) | refine zI ?_ | refine zG hX ?_ | refine zO ?_); conv => whnf)
  refine LoopReq.inv hX (fun s : Nat × Option Addr × Nat => [(5, .slice s.2.1 n s.2.2), (13, .int .i64 s.1)]) [1, 2, 12]
    (fun s w => s.1 ≤ l ∧ ∃ m1, Mem.Le m m1 ∧ RepTab m1 (.slice s.2.1 n s.2.2) n (powK n fa s.1) ∧ Ev.Loc m [] w0 m1 [(b2, .cells (toArr (reC kd s0 s1 s2 s3 (.slice P np cp) l hi neg)) 27 (0, 0))] w) (fun s => l - s.1) (0, A1, c1)
    ⟨by simp, m1, hm1, ht, hL⟩ ⟨rfl, rfl, trivial⟩ ?_
  clear hL ht hm1 m1
  rintro ⟨j, A2, c2⟩ w f ⟨hj, m1, hm1, ht, hL⟩
  simp only at hj ht
  conv => whnf
  repeat ((first | refine zT ?_ | refine zF ?_ | refine zL hX hL ?_ | refine zB hX hL ?_ | (refine zS hX hL ?_; clear hL; intro w hL) | refine zI ?_ | refine zG hX ?_ | refine zO ?_); conv => whnf)
  refine BrReq.dec (fun hlt => ?_) (fun hlt => ?_)
  · conv => whnf
    repeat ((first | refine zT ?_ | refine zF ?_ | refine zL hX hL ?_ | refine zB hX hL ?_ | (refine zS hX hL ?_; clear hL; intro w hL) | refine zI ?_ | refine zG hX ?_ | refine zO ?_); conv => whnf)
    refine CallReq.pure (Then_fn m1 _ _ n _ _ ht (ha.le hm1) hn) hL ?_
    clear hL
    intro v m2 w hL hm2 ht2
    obtain ⟨A3, c3, rfl⟩ := ht2.form
    conv => whnf
    repeat ((first | refine zT ?_ | refine zF ?_ | refine zL hX hL ?_ | refine zB hX hL ?_ | (refine zS hX hL ?_; clear hL; intro w hL) | refine zI ?_ | refine zG hX ?_ | refine zO ?_); conv => whnf)
    refine ⟨(j + 1, A3, c3), ⟨by simp only; omega, m2, hm1.trans hm2, ht2, hL⟩, by first | omega | (simp only; omega), ?_, ?_⟩
    · repeat (first | exact trivial | (refine And.intro (by (conv => lhs; whnf) <;> (conv => rhs; whnf) <;> (first | rfl)) ?_))
    · repeat (first | exact trivial | (refine And.intro (by (conv => lhs; whnf) <;> (conv => rhs; whnf) <;> (first | rfl)) ?_))
  have ej : j = l := by simp only at hlt; omega
  subst ej
  conv => whnf
  repeat ((first | refine zT ?_ | refine zF ?_ | refine zL hX hL ?_ | refine zB hX hL ?_ | (refine zS hX hL ?_; clear hL; intro w hL) | refine zI ?_ | refine zG hX ?_ | refine zO ?_); conv => whnf)
  refine BrReq.dec (fun hh => ?_) (fun hh => ?_)
  · have e : timesT n j hi fa = thenT n (powK n fa j) (anyT n fa) := by unfold timesT; rw [if_pos hh]; rfl
    conv => whnf
    repeat ((first | refine zT ?_ | refine zF ?_ | refine zL hX hL ?_ | refine zB hX hL ?_ | (refine zS hX hL ?_; clear hL; intro w hL) | refine zI ?_ | refine zG hX ?_ | refine zO ?_); conv => whnf)
    refine CallReq.pure (Any_fn m1 _ n _ (ha.le hm1) hn) hL ?_
    clear hL
    intro v m2 w hL hm2 ht2
    obtain ⟨A3, c3, rfl⟩ := ht2.form
    conv => whnf
    repeat ((first | refine zT ?_ | refine zF ?_ | refine zL hX hL ?_ | refine zB hX hL ?_ | (refine zS hX hL ?_; clear hL; intro w hL) | refine zI ?_ | refine zG hX ?_ | refine zO ?_); conv => whnf)
    refine CallReq.pure (Then_fn m2 _ _ n _ _ (ht.le hm2) ht2 hn) hL ?_
    clear hL
    intro v m3 w hL hm3 ht3
    obtain ⟨A4, c4, rfl⟩ := ht3.form
    conv => whnf
    repeat ((first | refine zT ?_ | refine zF ?_ | refine zL hX hL ?_ | refine zB hX hL ?_ | (refine zS hX hL ?_; clear hL; intro w hL) | refine zI ?_ | refine zG hX ?_ | refine zO ?_); conv => whnf)
    exact RetReq.mk hL.drop ⟨rfl, by rw [e]; exact ht3⟩
  · have hle : (j : Int) ≤ hi := by omega
    have e : timesT n j hi fa = outK n fa j (hi - j).toNat := by unfold timesT; rw [if_neg hh]; rfl
    conv => whnf
    repeat ((first | refine zT ?_ | refine zF ?_ | refine zL hX hL ?_ | refine zB hX hL ?_ | (refine zS hX hL ?_; clear hL; intro w hL) | refine zI ?_ | refine zG hX ?_ | refine zO ?_); conv => whnf)
    refine LoopReq.inv hX (fun s : Nat × (Option Addr × Nat) × (Option Addr × Nat) => [(5, .slice s.2.1.1 n s.2.1.2), (6, .slice s.2.2.1 n s.2.2.2), (7, .int .i64 (j + s.1 : Nat))]) [1, 2]
      (fun s w => (j : Int) + s.1 ≤ hi ∧ ∃ m1, Mem.Le m m1 ∧ RepTab m1 (.slice s.2.1.1 n s.2.1.2) n (powK n fa (j + s.1)) ∧ RepTab m1 (.slice s.2.2.1 n s.2.2.2) n (outK n fa j s.1) ∧ Ev.Loc m [] w0 m1 [(b2, .cells (toArr (reC kd s0 s1 s2 s3 (.slice P np cp) j hi neg)) 27 (0, 0))] w) (fun s => (hi - j).toNat - s.1) (0, (A2, c2), (A2, c2))
      ⟨by simp only; omega, m1, hm1, ht, ht, hL⟩ ⟨rfl, rfl, rfl, trivial⟩ ?_
    clear hL ht hm1 m1
    rintro ⟨q, ⟨A3, c3⟩, ⟨A4, c4⟩⟩ w f ⟨hq, m1, hm1, ht, ho, hL⟩
    simp only at hq ht ho
    conv => whnf
    repeat ((first | refine zT ?_ | refine zF ?_ | refine zL hX hL ?_ | refine zB hX hL ?_ | (refine zS hX hL ?_; clear hL; intro w hL) | refine zI ?_ | refine zG hX ?_ | refine zO ?_); conv => whnf)
    refine BrReq.dec (fun hlt2 => ?_) (fun hlt2 => ?_)
    · simp only at hlt2
      conv => whnf
      repeat ((first | refine zT ?_ | refine zF ?_ | refine zL hX hL ?_ | refine zB hX hL ?_ | (refine zS hX hL ?_; clear hL; intro w hL) | refine zI ?_ | refine zG hX ?_ | refine zO ?_); conv => whnf)
      refine CallReq.pure (Then_fn m1 _ _ n _ _ ht (ha.le hm1) hn) hL ?_
      clear hL
      intro v m2 w hL hm2 ht2
      obtain ⟨A5, c5, rfl⟩ := ht2.form
      conv => whnf
      repeat ((first | refine zT ?_ | refine zF ?_ | refine zL hX hL ?_ | refine zB hX hL ?_ | (refine zS hX hL ?_; clear hL; intro w hL) | refine zI ?_ | refine zG hX ?_ | refine zO ?_); conv => whnf)
      refine CallReq.pure (Either_fn m2 _ _ n _ _ (ho.le hm2) ht2 hn) hL ?_
      clear hL
      intro v m3 w hL hm3 ht3
      obtain ⟨A6, c6, rfl⟩ := ht3.form
      conv => whnf
      repeat ((first | refine zT ?_ | refine zF ?_ | refine zL hX hL ?_ | refine zB hX hL ?_ | (refine zS hX hL ?_; clear hL; intro w hL) | refine zI ?_ | refine zG hX ?_ | refine zO ?_); conv => whnf)
      refine ⟨(q + 1, (A5, c5), (A6, c6)), ⟨by simp only; omega, m3, hm1.trans (hm2.trans hm3), ht2.le hm3, ht3, hL⟩, by first | omega | (simp only; omega), ?_, ?_⟩
      · repeat (first | exact trivial | (refine And.intro (by (conv => lhs; whnf) <;> (conv => rhs; whnf) <;> (first | rfl | ((refine congrArg (Value.int .i64) ?_; (try simp only); omega)))) ?_))
      · repeat (first | exact trivial | (refine And.intro (by (conv => lhs; whnf) <;> (conv => rhs; whnf) <;> (first | rfl | ((refine congrArg (Value.int .i64) ?_; (try simp only); omega)))) ?_))
    · simp only at hlt2
      have eq : q = (hi - j).toNat := by omega
      subst eq
      conv => whnf
      repeat ((first | refine zT ?_ | refine zF ?_ | refine zL hX hL ?_ | refine zB hX hL ?_ | (refine zS hX hL ?_; clear hL; intro w hL) | refine zI ?_ | refine zG hX ?_ | refine zO ?_); conv => whnf)
      exact RetReq.mk hL.drop ⟨rfl, by rw [e]; exact ho⟩

/-- What a look sees at a place. -/
def lookS (n : Nat) (kind : Int) (f : Nat → Nat → Bool) (i : Nat) : Bool := (List.range n).any fun k => (decide (kind = 8) && f i k) || (decide (kind = 9) && f k i)
def lookT (n : Nat) (kind : Int) (neg : Bool) (f : Nat → Nat → Bool) (i j : Nat) : Bool := decide (i = j) && (lookS n kind f i != neg)
def lookTo (k : Nat) (kind : Int) (f : Nat → Nat → Bool) (i : Nat) : Bool := (List.range k).any fun k => (decide (kind = 8) && f i k) || (decide (kind = 9) && f k i)
theorem lookTo_succ {k : Nat} {kind : Int} {f : Nat → Nat → Bool} {i : Nat} : lookTo (k + 1) kind f i = (lookTo k kind f i || ((decide (kind = 8) && f i k) || (decide (kind = 9) && f k i))) := by
  unfold lookTo; rw [List.range_succ, List.any_append]; simp

set_option maxHeartbeats 2000000 in
theorem look_fn (m : Mem) (kd s0 s1 s2 s3 lo hh : Int) (neg : Bool) (P : Option Addr) (np cp : Nat) (va : Value) (n : Nat) (fa : Nat → Nat → Bool) (ha : RepTab m va n fa) (hn : n ≤ 1000) :
    Fn0 Tryz.prog 35 [.agg (toArr (reC kd s0 s1 s2 s3 (.slice P np cp) lo hh neg)), va] m fun m' u => RepTab m' u n (lookT n kd neg fa) := by
  have hmx : maxLen = 9223372036854775807 := rfl
  obtain ⟨A, c, rfl, hac, hacm, hcell⟩ := ha
  refine Fn.enter (N := 64) hX Tryz.func35 rfl rfl (by show _ ≤ _; simp) (fun w0 hL => ?_)
  conv => whnf
  refine NewReq.mk hL ?_
  clear hL
  intro b2 w hL
  conv => whnf
  conv => whnf
  repeat ((first | refine zT ?_ | refine zF ?_ | refine zL hX hL ?_ | refine zB hX hL ?_ | (refine zS hX hL ?_; clear hL; intro w hL) | refine zI ?_ | refine zG hX ?_ | refine zO ?_); conv => whnf)
  refine CallReq.mk (L1 := []) (Blank_fn m n hn) hL ?_
  clear hL
  rintro v m1 L1 w hL hm1 ⟨g0, bs, rfl, hmax, hout, rfl⟩
  replace hL := hL.back
  replace hL : Ev.Loc m [] w0 m1 ((b2, .cells (toArr (reC kd s0 s1 s2 s3 (.slice P np cp) lo hh neg)) 27 (0, 0)) :: rowsL bs n (fun _ _ => false) n) w := hL
  conv => whnf
  repeat ((first | refine zT ?_ | refine zF ?_ | refine zL hX hL ?_ | refine zB hX hL ?_ | (refine zS hX hL ?_; clear hL; intro w hL) | refine zI ?_ | refine zG hX ?_ | refine zO ?_); conv => whnf)
  refine LoopReq.inv hX (fun i : Nat => [(14, .int .i64 i)]) [1, 2, 5, 13]
    (fun i w => i ≤ n ∧ ∃ F, (∀ a b, a < n → b < n → F a b = (decide (a < i) && lookT n kd neg fa a b)) ∧ Ev.Loc m [] w0 m1 ((b2, .cells (toArr (reC kd s0 s1 s2 s3 (.slice P np cp) lo hh neg)) 27 (0, 0)) :: rowsL bs n F n) w) (fun i => n - i) 0
    ⟨by omega, _, fun a b _ _ => by simp, hL⟩ ⟨rfl, trivial⟩ ?_
  clear hL
  rintro i w f ⟨hi, F, hF, hL⟩
  conv => whnf
  repeat ((first | refine zT ?_ | refine zF ?_ | refine zL hX hL ?_ | refine zB hX hL ?_ | (refine zS hX hL ?_; clear hL; intro w hL) | refine zI ?_ | refine zG hX ?_ | refine zO ?_); conv => whnf)
  refine BrReq.dec (fun hlt => ?_) (fun hlt => ?_)
  · have hin : i < n := by omega
    obtain ⟨a0, rfl, A', c', hrow, hcols⟩ := hcell i hin
    conv => whnf
    repeat ((first | refine zT ?_ | refine zF ?_ | refine zL hX hL ?_ | refine zB hX hL ?_ | (refine zS hX hL ?_; clear hL; intro w hL) | refine zI ?_ | refine zG hX ?_ | refine zO ?_); conv => whnf)
    refine LoopReq.inv hX (fun k : Nat => [(7, .bool (lookTo k kd fa i)), (19, .int .i64 k)]) [1, 2, 5, 6, 13, 14, 18]
      (fun k w => k ≤ n ∧ Ev.Loc m [] w0 m1 ((b2, .cells (toArr (reC kd s0 s1 s2 s3 (.slice P np cp) lo hh neg)) 27 (0, 0)) :: rowsL bs n F n) w) (fun k => n - k) 0
      ⟨by omega, hL⟩ ⟨rfl, rfl, trivial⟩ ?_
    clear hL
    rintro k w g ⟨hk, hL⟩
    conv => whnf
    repeat ((first | refine zT ?_ | refine zF ?_ | refine zL hX hL ?_ | refine zB hX hL ?_ | (refine zS hX hL ?_; clear hL; intro w hL) | refine zI ?_ | refine zG hX ?_ | refine zO ?_); conv => whnf)
    refine BrReq.dec (fun hlt2 => ?_) (fun hlt2 => ?_)
    · have hkn : k < n := by omega
      obtain ⟨a1, rfl, hval⟩ := hcols k hkn
      obtain ⟨a2, e2, A2, c2, hrow2, hcols2⟩ := hcell k hkn
      cases e2
      obtain ⟨a3, rfl, hval2⟩ := hcols2 i hin
      have hs := lookTo_succ (k := k) (kind := kd) (f := fa) (i := i)
      conv => whnf
      repeat' (first | ((first | refine Idx2Req.mk i _ rfl (by omega) rfl ?_ | refine Idx2Req.mk k _ rfl (by omega) rfl ?_ | refine LdReq.one hX rfl rfl hL (mcell_le hm1 hrow) ?_ | refine LdReq.one hX rfl rfl hL (mcell_le hm1 hval) ?_ | refine LdReq.one hX rfl rfl hL (mcell_le hm1 hrow2) ?_ | refine LdReq.one hX rfl rfl hL (mcell_le hm1 hval2) ?_ | refine zT ?_ | refine zF ?_ | refine zL hX hL ?_ | refine zB hX hL ?_ | (refine zS hX hL ?_; clear hL; intro w hL) | refine zI ?_ | refine zG hX ?_ | refine zO ?_); conv => whnf) | (refine BrReq.dec (fun _ => ?_) (fun _ => ?_) <;> (conv => whnf)) | (refine BrReq.not ?_; refine BrReq.dec (fun _ => ?_) (fun _ => ?_) <;> (conv => whnf)) | (refine BrReq.bool (fun _ => ?_) (fun _ => ?_) <;> (conv => whnf)))
      all_goals (refine ⟨k + 1, ⟨by omega, hL⟩, by omega, ?_, ?_⟩ <;> repeat (first | exact trivial | (refine And.intro (by (conv => lhs; whnf) <;> (conv => rhs; whnf) <;> (first | rfl | (refine congrArg Value.bool ?_; rw [hs]; clear hs hL hval hval2 hrow hrow2 hcols hcols2 hcell hF hout; generalize lookTo k kd fa i = x at *; generalize fa i k = y at *; generalize fa k i = z at *; simp_all; done))) ?_)))
    · have ek : k = n := by omega
      subst ek
      obtain ⟨a1, rfl, hval⟩ := hcols i hin
      conv => whnf
      repeat ((first | refine zT ?_ | refine zF ?_ | refine zL hX hL ?_ | refine zB hX hL ?_ | (refine zS hX hL ?_; clear hL; intro w hL) | refine zI ?_ | refine zG hX ?_ | refine zO ?_); conv => whnf)
      refine DrawReq.plan hX (.fst 0 (.fst 1 (.fst 2 (.fst 3 (.fst 4 (.fst 5 (.fst 6 (.fst 7 (.fst 8 (.fst 9 (.alt 10 (.done) (.stop)))))))))))) [(b2, .cells (toArr (reC kd s0 s1 s2 s3 (.slice P np cp) lo hh neg)) 27 (0, 0))] (by kernel_rfl) (by kernel_rfl) hL (fun h => h.one 0 rfl) ?_
      clear hL
      intro w hL
      conv => whnf
      repeat ((first | refine Idx2Req.mk i _ rfl (by omega) rfl ?_ | refine QLdReq.one hX rfl rfl (hout i hin) ?_ | refine zQ hX ?_ | refine zR hX ?_ | refine zA ?_ | refine zT ?_ | refine zF ?_ | refine zL hX hL ?_ | refine zB hX hL ?_ | (refine zS hX hL ?_; clear hL; intro w hL) | refine zI ?_ | refine zG hX ?_ | refine zO ?_); conv => whnf)
      refine StReq.tabc rfl rfl (i + 1) hL (rowsL_get hin) hin ?_
      clear hL
      intro w hL
      replace hL : Ev.Loc m [] w0 m1 ((b2, .cells (toArr (reC kd s0 s1 s2 s3 (.slice P np cp) lo hh neg)) 27 (0, 0)) :: (rowsL bs k F k).set i _) w := hL
      rw [rowsL_set] at hL
      have hF' : ∀ a b, a < k → b < k → upd F i i (!(lookTo k kd fa i == neg)) a b = (decide (a < i + 1) && lookT k kd neg fa a b) := by
        intro a b ha hb
        by_cases e : a = i ∧ b = i
        · obtain ⟨rfl, rfl⟩ := e
          rw [upd_same, decide_eq_true (by omega), Bool.true_and]
          unfold lookT
          rw [decide_eq_true rfl, Bool.true_and]; rfl
        · rw [upd_other e, hF a b ha hb]
          by_cases e2 : a = b
          · congr 1; exact decide_eq_decide.2 (by omega)
          · unfold lookT; rw [decide_eq_false e2]; simp
      conv => whnf
      repeat ((first | refine SReq.mk (hL.one 0 rfl) ?_ | refine zQ hX ?_ | refine zR hX ?_ | refine zA ?_ | refine zT ?_ | refine zF ?_ | refine zL hX hL ?_ | refine zB hX hL ?_ | (refine zS hX hL ?_; clear hL; intro w hL) | refine zI ?_ | refine zG hX ?_ | refine zO ?_); conv => whnf)
      refine ⟨i + 1, ⟨by omega, _, hF', hL⟩, by first | omega | (simp only; omega), ?_, ?_⟩
      · repeat (first | exact trivial | (refine And.intro (by (conv => lhs; whnf) <;> (conv => rhs; whnf) <;> (first | rfl)) ?_))
      · repeat (first | exact trivial | (refine And.intro (by (conv => lhs; whnf) <;> (conv => rhs; whnf) <;> (first | rfl)) ?_))
  · conv => whnf
    repeat ((first | refine zT ?_ | refine zF ?_ | refine zL hX hL ?_ | refine zB hX hL ?_ | (refine zS hX hL ?_; clear hL; intro w hL) | refine zI ?_ | refine zG hX ?_ | refine zO ?_); conv => whnf)
    obtain ⟨m2, hL, hm2, hrep⟩ := OwnTab.freeze (L2 := []) ⟨g0, bs, rfl, hmax, hout, rfl⟩ (by rw [List.append_nil]; exact hL.drop)
    exact RetReq.mk hL ⟨rfl, hrep.congr fun a b ha hb => by rw [hF a b ha hb, decide_eq_true (by omega), Bool.true_and]⟩
end Go.Proofs.YtpdiljdklllmjaaGreat.tabs
