/- The document's words: braces, classes. Conditions: none. -/
import Derived.Test.YtemdkfohlppckaaGreatDoorLxRefB

namespace Go.Proofs.YtemdkfohlppckaaGreatDoor.lx
open Go Go.Ev Go.Proofs

theorem tw_at {c : UInt8} : ∀ {r : List UInt8} {j : Nat}, j < (tw c r).length → ∃ d, r[j]? = some d ∧ d ≠ c
  | [], j, h => by simp [tw] at h
  | b :: r, j, h => by
    unfold tw at h
    rw [List.takeWhile_cons] at h
    by_cases hb : b = c
    · subst hb; simp at h
    · cases j with
      | zero => exact ⟨b, rfl, hb⟩
      | succ j =>
        have h1 : (b == c) = false := by simp [hb]
        rw [h1] at h
        simp at h
        exact tw_at (r := r) (j := j) h
theorem tw_end {c : UInt8} : ∀ {r : List UInt8}, (tw c r).length < r.length → r[(tw c r).length]? = some c ∧ c ∈ r
  | [], h => by simp [tw] at h
  | b :: r, h => by
    by_cases hb : b = c
    · subst hb
      have : (tw b (b :: r)).length = 0 := by unfold tw; rw [List.takeWhile_cons]; simp
      rw [this]; simp
    · have h1 : (b == c) = false := by simp [hb]
      have e : (tw c (b :: r)).length = (tw c r).length + 1 := by unfold tw; rw [List.takeWhile_cons, h1]; simp
      rw [e] at h ⊢
      simp only [List.length_cons] at h
      have := tw_end (c := c) (r := r) (by omega)
      exact ⟨by simpa using this.1, List.mem_cons_of_mem _ this.2⟩
theorem tw_mem {c : UInt8} {r : List UInt8} : (tw c r).length < r.length ↔ c ∈ r := ⟨fun h => (tw_end h).2, tw_lt⟩
theorem cnt_le (s : List UInt8) : -1 ≤ cntT s ∧ cntT s ≤ 20 := by
  rcases cnt_spec s with h | ⟨v, h1, h2, -⟩ <;> omega

def nUp (n : Nat) : Nat := if n = 0 then 0 else n + 1
set_option maxHeartbeats 4000000 in
theorem refBraces_fn (m : Mem) (s : List UInt8) (i : Nat) (hi : i < s.length) (hl : s.length ≤ 1000000) :
    FnV Tryz.prog 57 [.string (bs s), .int .i64 i] m (.tuple (toArr [.agg (toArr (wC 0 (braceT (s.drop (i + 1))).1)), .int .i64 (nUp (braceT (s.drop (i + 1))).2 : Nat)])) := by
  have hsz := bs_size s
  have hdl : (s.drop (i + 1)).length = s.length - (i + 1) := List.length_drop
  have hget : ∀ k, (bs s).data[i + 1 + k]? = (s.drop (i + 1))[k]? := fun k => by rw [bs_get, List.getElem?_drop]
  have htk := tw_take 125 (s.drop (i + 1))
  have hext : ∀ k, (bs s).extract (i + 1) (i + 1 + k) = bs ((s.drop (i + 1)).take k) := fun k => by rw [bs_extract, List.drop_take]; congr 2; omega
  unfold braceT
  generalize s.drop (i + 1) = r at *
  have hle := tw_le 125 r
  have hat := fun j => tw_at (c := 125) (r := r) (j := j)
  have hend := tw_end (c := 125) (r := r)
  have hmem := tw_mem (c := 125) (r := r)
  have hnm := refNamed_fn m (tw 125 r) (by omega)
  have hextT := hext (tw 125 r).length
  rw [htk] at hextT
  generalize tw 125 r = t at *
  refine Fn.enter (N := 107) hX Tryz.func57 rfl rfl (by show _ ≤ _; simp) (fun w0 hL => ?_)
  conv => whnf
  refine NewReq.mk hL ?_
  clear hL
  intro b4 w hL
  conv => whnf
  replace hL : Ev.Loc m [] w0 m [(b4, .cells (toArr (wC 0 (wK 0))) 57 (0, 0))] w := hL
  conv => whnf
  repeat ((first | refine zT ?_ | refine zF ?_ | refine zL hX hL ?_ | refine zB hX hL ?_ | (refine zS hX hL ?_; clear hL; intro w hL) | refine zI ?_ | refine zG hX ?_ | refine zO ?_); conv => whnf)
  refine LoopReq.inv hX (fun j : Nat => [(6, .int .i64 (i + 1 + j : Nat))]) [0, 1, 4]
    (fun j w => j ≤ t.length ∧ Ev.Loc m [] w0 m [(b4, .cells (toArr (wC 0 (wK 0))) 57 (0, 0))] w) (fun j => t.length - j) 0
    ⟨by omega, hL⟩ ⟨rfl, trivial⟩ ?_
  clear hL
  rintro j w e ⟨hj, hL⟩
  conv => whnf
  repeat ((first | refine zT ?_ | refine zF ?_ | refine zL hX hL ?_ | refine zB hX hL ?_ | (refine zS hX hL ?_; clear hL; intro w hL) | refine zI ?_ | refine zG hX ?_ | refine zO ?_); conv => whnf)
  by_cases hjt : j < t.length
  · obtain ⟨d, hd, hdc⟩ := hat j hjt
    have hdn : ¬ d.toNat = 125 := fun h => hdc (UInt8.toNat_inj.1 h)
    have hg := (hget j).trans hd
    conv => whnf
    repeat ((first | refine BrReq.yes (by omega) ?_ | refine BrReq.no (by omega) ?_ | refine StrIdxReq.mk (i + 1 + j) d rfl hg ?_ | refine zT ?_ | refine zF ?_ | refine zL hX hL ?_ | refine zB hX hL ?_ | (refine zS hX hL ?_; clear hL; intro w hL) | refine zI ?_ | refine zG hX ?_ | refine zO ?_); conv => whnf)
    refine ⟨j + 1, ⟨by omega, hL⟩, by first | omega | (simp only; omega) | (simp only [List.length_cons, List.length_append]; omega), ?_, ?_⟩
    · repeat (first | exact trivial | (refine And.intro (by (conv => lhs; whnf) <;> (conv => rhs; whnf) <;> (first | rfl)) ?_))
    · repeat (first | exact trivial | (refine And.intro (by (conv => lhs; whnf) <;> (conv => rhs; whnf) <;> (first | rfl)) ?_))
  have ej : j = t.length := by omega
  subst ej
  by_cases h125 : 125 ∈ r
  · have hlt := hmem.2 h125
    rw [if_neg (fun h => h h125)]
    have hg := (hget t.length).trans (hend hlt).1
    conv => whnf
    repeat ((first | refine BrReq.yes (by omega) ?_ | refine BrReq.no (by omega) ?_ | refine StrIdxReq.mk (i + 1 + t.length) 125 rfl hg ?_ | refine SlReq.mk (i + 1) (i + 1 + t.length) rfl rfl (by omega) (by omega) ?_ | refine zT ?_ | refine zF ?_ | refine zL hX hL ?_ | refine zB hX hL ?_ | (refine zS hX hL ?_; clear hL; intro w hL) | refine zI ?_ | refine zG hX ?_ | refine zO ?_); conv => whnf)
    rw [hextT]
    conv => whnf
    repeat ((first | refine zT ?_ | refine zF ?_ | refine zL hX hL ?_ | refine zB hX hL ?_ | (refine zS hX hL ?_; clear hL; intro w hL) | refine zI ?_ | refine zG hX ?_ | refine zO ?_); conv => whnf)
    refine CallReq.val hnm hL ?_
    clear hL
    intro w hL
    have hup : nUp (t.length + 1) = t.length + 2 := by unfold nUp; rw [if_neg (by omega)]
    have hdiff : ((i + 1 + t.length : Nat) : Int) + 1 - i = (t.length + 2 : Nat) := by omega
    have htz := bs_size t
    cases hn : namedT t with
    | true =>
      rw [if_pos rfl, hup]
      conv => whnf
      repeat ((first | refine zT ?_ | refine zF ?_ | refine zL hX hL ?_ | refine zB hX hL ?_ | (refine zS hX hL ?_; clear hL; intro w hL) | refine zI ?_ | refine zG hX ?_ | refine zO ?_); conv => whnf)
      refine RetReq.mk hL.drop ⟨rfl, ?_⟩
      exact congrArg (fun z : Int => Value.tuple (toArr [.agg (toArr (wC 0 ⟨11, zeroF, t, 0, 0⟩)), .int .i64 z])) hdiff
    | false =>
      rw [if_neg (by decide)]
      have h2le := tw_le 44 t
      have h2at := fun j => tw_at (c := 44) (r := t) (j := j)
      have h2end := tw_end (c := 44) (r := t)
      have h2mem := tw_mem (c := 44) (r := t)
      have h2tk := tw_take 44 t
      unfold repT
      have h2all := fun h => tw_all (c := 44) (s := t) h
      have hc1 := count_fn m (tw 44 t) (by omega)
      generalize tw 44 t = a at *
      have hcl := cnt_le a
      have hx1 : (bs t).extract 0 a.length = bs a := by rw [bs_extract, h2tk]; rfl
      have hx2 : (bs t).extract (a.length + 1) t.length = bs (t.drop (a.length + 1)) := by rw [bs_extract, List.take_length]
      have hc2 := count_fn m (t.drop (a.length + 1)) (by rw [List.length_drop]; omega)
      have hc2l := cnt_le (t.drop (a.length + 1))
      have hg2 : ∀ k, (bs t).data[k]? = t[k]? := fun k => bs_get t k
      conv => whnf
      repeat ((first | refine zT ?_ | refine zF ?_ | refine zL hX hL ?_ | refine zB hX hL ?_ | (refine zS hX hL ?_; clear hL; intro w hL) | refine zI ?_ | refine zG hX ?_ | refine zO ?_); conv => whnf)
      refine LoopReq.inv hX (fun j : Nat => [(9, .int .i64 j)]) [4, 7, 8]
        (fun j w => j ≤ a.length ∧ Ev.Loc m [] w0 m [(b4, .cells (toArr (wC 0 (wK 0))) 57 (0, 0))] w) (fun j => a.length - j) 0
        ⟨by omega, hL⟩ ⟨rfl, trivial⟩ ?_
      clear hL
      rintro j w e2 ⟨hj2, hL⟩
      conv => whnf
      repeat ((first | refine zT ?_ | refine zF ?_ | refine zL hX hL ?_ | refine zB hX hL ?_ | (refine zS hX hL ?_; clear hL; intro w hL) | refine zI ?_ | refine zG hX ?_ | refine zO ?_); conv => whnf)
      by_cases hjt2 : j < a.length
      · obtain ⟨d, hd, hdc⟩ := h2at j hjt2
        have hdn : ¬ d.toNat = 44 := fun h => hdc (UInt8.toNat_inj.1 h)
        have hg := (hg2 j).trans hd
        conv => whnf
        repeat ((first | refine BrReq.yes (by omega) ?_ | refine BrReq.no (by omega) ?_ | refine StrIdxReq.mk j d rfl hg ?_ | refine zT ?_ | refine zF ?_ | refine zL hX hL ?_ | refine zB hX hL ?_ | (refine zS hX hL ?_; clear hL; intro w hL) | refine zI ?_ | refine zG hX ?_ | refine zO ?_); conv => whnf)
        refine ⟨j + 1, ⟨by omega, hL⟩, by first | omega | (simp only; omega) | (simp only [List.length_cons, List.length_append]; omega), ?_, ?_⟩
        · repeat (first | exact trivial | (refine And.intro (by (conv => lhs; whnf) <;> (conv => rhs; whnf) <;> (first | rfl)) ?_))
        · repeat (first | exact trivial | (refine And.intro (by (conv => lhs; whnf) <;> (conv => rhs; whnf) <;> (first | rfl)) ?_))
      have ej2 : j = a.length := by omega
      subst ej2
      by_cases h44 : 44 ∈ t
      · have hlt2 := h2mem.2 h44
        rw [if_neg (fun h => h h44)]
        have hg := (hg2 a.length).trans (h2end hlt2).1
        conv => whnf
        repeat ((first | refine BrReq.yes (by omega) ?_ | refine BrReq.no (by omega) ?_ | refine StrIdxReq.mk a.length 44 rfl hg ?_ | refine SlReq.mk 0 a.length rfl rfl (by omega) (by omega) ?_ | refine zT ?_ | refine zF ?_ | refine zL hX hL ?_ | refine zB hX hL ?_ | (refine zS hX hL ?_; clear hL; intro w hL) | refine zI ?_ | refine zG hX ?_ | refine zO ?_); conv => whnf)
        rw [hx1]
        refine CallReq.val hc1 hL ?_
        clear hL
        intro w hL
        by_cases hb : t.drop (a.length + 1) = []
        · have hbl : t.length ≤ a.length + 1 := by
            have := congrArg List.length hb
            rw [List.length_drop] at this
            simp only [List.length_nil] at this
            omega
          rw [if_pos hb]
          generalize cntT a = lo at *
          by_cases h0 : 0 ≤ lo
          · rw [if_pos h0]
            simp only
            rw [hup]
            conv => whnf
            repeat ((first | refine zT ?_ | refine zF ?_ | refine zL hX hL ?_ | refine zB hX hL ?_ | (refine zS hX hL ?_; clear hL; intro w hL) | refine zI ?_ | refine zG hX ?_ | refine zO ?_); conv => whnf)
            refine NewReq.mk hL ?_
            clear hL
            intro b10 w hL
            conv => whnf
            conv => whnf
            repeat ((first | refine BrReq.yes (by omega) ?_ | refine BrReq.no (by omega) ?_ | refine zT ?_ | refine zF ?_ | refine zL hX hL ?_ | refine zB hX hL ?_ | (refine zS hX hL ?_; clear hL; intro w hL) | refine zI ?_ | refine zG hX ?_ | refine zO ?_); conv => whnf)
            refine RetReq.mk (hL.sublist (List.nil_sublist _)) ⟨rfl, ?_⟩
            exact congrArg (fun z : Int => Value.tuple (toArr [.agg (toArr (wC 0 ⟨10, zeroF, [], lo, (-1)⟩)), .int .i64 z])) hdiff
          · rw [if_neg h0]
            conv => whnf
            repeat ((first | refine zT ?_ | refine zF ?_ | refine zL hX hL ?_ | refine zB hX hL ?_ | (refine zS hX hL ?_; clear hL; intro w hL) | refine zI ?_ | refine zG hX ?_ | refine zO ?_); conv => whnf)
            refine NewReq.mk hL ?_
            clear hL
            intro b10 w hL
            conv => whnf
            conv => whnf
            repeat ((first | refine BrReq.yes (by omega) ?_ | refine BrReq.no (by omega) ?_ | refine zT ?_ | refine zF ?_ | refine zL hX hL ?_ | refine zB hX hL ?_ | (refine zS hX hL ?_; clear hL; intro w hL) | refine zI ?_ | refine zG hX ?_ | refine zO ?_); conv => whnf)
            refine RetReq.mk (hL.sublist (List.nil_sublist _)) ⟨rfl, ?_⟩
            rfl
        · have hbl : a.length + 1 < t.length := by
            by_cases h : a.length + 1 < t.length
            · exact h
            · exact absurd (List.drop_eq_nil_of_le (by omega)) hb
          rw [if_neg hb]
          generalize cntT a = lo at *
          conv => whnf
          repeat ((first | refine zT ?_ | refine zF ?_ | refine zL hX hL ?_ | refine zB hX hL ?_ | (refine zS hX hL ?_; clear hL; intro w hL) | refine zI ?_ | refine zG hX ?_ | refine zO ?_); conv => whnf)
          refine NewReq.mk hL ?_
          clear hL
          intro b10 w hL
          conv => whnf
          conv => whnf
          repeat ((first | refine BrReq.yes (by omega) ?_ | refine BrReq.no (by omega) ?_ | refine SlReq.mk (a.length + 1) t.length rfl (by rw [htz]) (by omega) (by omega) ?_ | refine zT ?_ | refine zF ?_ | refine zL hX hL ?_ | refine zB hX hL ?_ | (refine zS hX hL ?_; clear hL; intro w hL) | refine zI ?_ | refine zG hX ?_ | refine zO ?_); conv => whnf)
          rw [hx2]
          refine CallReq.val hc2 hL ?_
          clear hL
          intro w hL
          generalize cntT (t.drop (a.length + 1)) = hi at *
          by_cases c1 : hi < 0
          · rw [if_neg (by omega)]
            conv => whnf
            repeat ((first | refine BrReq.yes (by omega) ?_ | refine BrReq.no (by omega) ?_ | refine zT ?_ | refine zF ?_ | refine zL hX hL ?_ | refine zB hX hL ?_ | (refine zS hX hL ?_; clear hL; intro w hL) | refine zI ?_ | refine zG hX ?_ | refine zO ?_); conv => whnf)
            refine RetReq.mk (hL.sublist (List.nil_sublist _)) ⟨rfl, ?_⟩
            rfl
          by_cases c2 : lo < 0
          · rw [if_neg (by omega)]
            conv => whnf
            repeat ((first | refine BrReq.yes (by omega) ?_ | refine BrReq.no (by omega) ?_ | refine zT ?_ | refine zF ?_ | refine zL hX hL ?_ | refine zB hX hL ?_ | (refine zS hX hL ?_; clear hL; intro w hL) | refine zI ?_ | refine zG hX ?_ | refine zO ?_); conv => whnf)
            refine RetReq.mk (hL.sublist (List.nil_sublist _)) ⟨rfl, ?_⟩
            rfl
          by_cases c3 : hi = 0
          · rw [if_neg (by omega)]
            conv => whnf
            repeat ((first | refine BrReq.yes (by omega) ?_ | refine BrReq.no (by omega) ?_ | refine zT ?_ | refine zF ?_ | refine zL hX hL ?_ | refine zB hX hL ?_ | (refine zS hX hL ?_; clear hL; intro w hL) | refine zI ?_ | refine zG hX ?_ | refine zO ?_); conv => whnf)
            refine RetReq.mk (hL.sublist (List.nil_sublist _)) ⟨rfl, ?_⟩
            rfl
          by_cases c4 : hi < lo
          · rw [if_neg (by omega)]
            conv => whnf
            repeat ((first | refine BrReq.yes (by omega) ?_ | refine BrReq.no (by omega) ?_ | refine zT ?_ | refine zF ?_ | refine zL hX hL ?_ | refine zB hX hL ?_ | (refine zS hX hL ?_; clear hL; intro w hL) | refine zI ?_ | refine zG hX ?_ | refine zO ?_); conv => whnf)
            refine RetReq.mk (hL.sublist (List.nil_sublist _)) ⟨rfl, ?_⟩
            rfl
          · rw [if_pos (by omega)]
            simp only
            rw [hup]
            conv => whnf
            repeat ((first | refine BrReq.yes (by omega) ?_ | refine BrReq.no (by omega) ?_ | refine zT ?_ | refine zF ?_ | refine zL hX hL ?_ | refine zB hX hL ?_ | (refine zS hX hL ?_; clear hL; intro w hL) | refine zI ?_ | refine zG hX ?_ | refine zO ?_); conv => whnf)
            refine RetReq.mk (hL.sublist (List.nil_sublist _)) ⟨rfl, ?_⟩
            exact congrArg (fun z : Int => Value.tuple (toArr [.agg (toArr (wC 0 ⟨10, zeroF, [], lo, hi⟩)), .int .i64 z])) hdiff
      · have hnlt2 : ¬ a.length < t.length := fun h => h44 (h2mem.1 h)
        rw [if_pos h44]
        conv => whnf
        repeat ((first | refine BrReq.yes (by omega) ?_ | refine BrReq.no (by omega) ?_ | refine SlReq.mk 0 a.length rfl rfl (by omega) (by omega) ?_ | refine zT ?_ | refine zF ?_ | refine zL hX hL ?_ | refine zB hX hL ?_ | (refine zS hX hL ?_; clear hL; intro w hL) | refine zI ?_ | refine zG hX ?_ | refine zO ?_); conv => whnf)
        rw [hx1]
        refine CallReq.val hc1 hL ?_
        clear hL
        intro w hL
        have hat2 : a = t := h2all h44
        rw [hat2] at hcl ⊢
        generalize cntT t = lo at *
        by_cases h1 : 1 ≤ lo
        · rw [if_pos h1]
          simp only
          rw [hup]
          conv => whnf
          repeat ((first | refine zT ?_ | refine zF ?_ | refine zL hX hL ?_ | refine zB hX hL ?_ | (refine zS hX hL ?_; clear hL; intro w hL) | refine zI ?_ | refine zG hX ?_ | refine zO ?_); conv => whnf)
          refine NewReq.mk hL ?_
          clear hL
          intro b10 w hL
          conv => whnf
          conv => whnf
          repeat ((first | refine BrReq.yes (by omega) ?_ | refine BrReq.no (by omega) ?_ | refine zT ?_ | refine zF ?_ | refine zL hX hL ?_ | refine zB hX hL ?_ | (refine zS hX hL ?_; clear hL; intro w hL) | refine zI ?_ | refine zG hX ?_ | refine zO ?_); conv => whnf)
          refine RetReq.mk (hL.sublist (List.nil_sublist _)) ⟨rfl, ?_⟩
          exact congrArg (fun z : Int => Value.tuple (toArr [.agg (toArr (wC 0 ⟨10, zeroF, [], lo, lo⟩)), .int .i64 z])) hdiff
        · rw [if_neg h1]
          by_cases h0 : lo < 0
          · conv => whnf
            repeat ((first | refine zT ?_ | refine zF ?_ | refine zL hX hL ?_ | refine zB hX hL ?_ | (refine zS hX hL ?_; clear hL; intro w hL) | refine zI ?_ | refine zG hX ?_ | refine zO ?_); conv => whnf)
            refine NewReq.mk hL ?_
            clear hL
            intro b10 w hL
            conv => whnf
            conv => whnf
            repeat ((first | refine BrReq.yes (by omega) ?_ | refine BrReq.no (by omega) ?_ | refine zT ?_ | refine zF ?_ | refine zL hX hL ?_ | refine zB hX hL ?_ | (refine zS hX hL ?_; clear hL; intro w hL) | refine zI ?_ | refine zG hX ?_ | refine zO ?_); conv => whnf)
            refine RetReq.mk (hL.sublist (List.nil_sublist _)) ⟨rfl, ?_⟩
            rfl
          · conv => whnf
            repeat ((first | refine zT ?_ | refine zF ?_ | refine zL hX hL ?_ | refine zB hX hL ?_ | (refine zS hX hL ?_; clear hL; intro w hL) | refine zI ?_ | refine zG hX ?_ | refine zO ?_); conv => whnf)
            refine NewReq.mk hL ?_
            clear hL
            intro b10 w hL
            conv => whnf
            conv => whnf
            repeat ((first | refine BrReq.yes (by omega) ?_ | refine BrReq.no (by omega) ?_ | refine zT ?_ | refine zF ?_ | refine zL hX hL ?_ | refine zB hX hL ?_ | (refine zS hX hL ?_; clear hL; intro w hL) | refine zI ?_ | refine zG hX ?_ | refine zO ?_); conv => whnf)
            refine RetReq.mk (hL.sublist (List.nil_sublist _)) ⟨rfl, ?_⟩
            rfl
  · have hnlt : ¬ t.length < r.length := fun h => h125 (hmem.1 h)
    rw [if_pos h125]
    conv => whnf
    repeat ((first | refine BrReq.yes (by omega) ?_ | refine BrReq.no (by omega) ?_ | refine zT ?_ | refine zF ?_ | refine zL hX hL ?_ | refine zB hX hL ?_ | (refine zS hX hL ?_; clear hL; intro w hL) | refine zI ?_ | refine zG hX ?_ | refine zO ?_); conv => whnf)
    exact RetReq.mk hL.drop ⟨rfl, rfl⟩
end Go.Proofs.YtemdkfohlppckaaGreatDoor.lx
