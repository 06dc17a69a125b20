/- A word; all words. Conditions: the laid variables are what they are. -/
import Derived.Test.YtemdkfohlppckaaGreatDoorLxBrace

namespace Go.Proofs.YtemdkfohlppckaaGreatDoor.lx
open Go Go.Ev Go.Proofs

theorem pre_len {p r : List UInt8} (h : p.isPrefixOf r = true) : p.length ≤ r.length := (List.isPrefixOf_iff_prefix.1 h).length_le
theorem lookT_pos (r : List UInt8) : (0 < (lookT r).1 → 0 < (lookT r).2 ∧ (lookT r).2 ≤ r.length) ∧ (¬ 0 < (lookT r).1 → lookT r = (0, 0)) := by
  unfold lookT
  split
  · rename_i h; have := pre_len h; exact ⟨fun _ => ⟨by decide, this⟩, fun h => absurd (by decide) h⟩
  split
  · rename_i h; have := pre_len h; exact ⟨fun _ => ⟨by decide, this⟩, fun h => absurd (by decide) h⟩
  split
  · rename_i h; have := pre_len h; exact ⟨fun _ => ⟨by decide, this⟩, fun h => absurd (by decide) h⟩
  split
  · rename_i h; have := pre_len h; exact ⟨fun _ => ⟨by decide, this⟩, fun h => absurd (by decide) h⟩
  · exact ⟨fun h => absurd h (by decide), fun _ => rfl⟩

def specL : List UInt8 := [92, 91, 93, 40, 41, 123, 125, 46, 42, 43, 63, 124, 38, 126, 94, 36]
theorem spec_in0 : ∀ n, n < 256 → (n == 92 || n == 91 || n == 123 || n == 46 || decide (0 < signT n) || (decide (UInt8.ofNat n ∈ specL) == (n == 93 || n == 125))) = true := by decide +kernel
theorem spec_in (c : UInt8) (h1 : c.toNat ≠ 92) (h2 : c.toNat ≠ 91) (h3 : c.toNat ≠ 123) (h4 : c.toNat ≠ 46) (h5 : ¬ 0 < signT c.toNat) : c ∈ specL ↔ (c.toNat = 93 ∨ c.toNat = 125) := by
  have h := spec_in0 c.toNat c.toNat_lt
  have e : UInt8.ofNat c.toNat = c := by simp
  rw [e] at h
  simp only [h1, h2, h3, h4, h5, Bool.or_eq_true, beq_iff_eq, decide_eq_true_eq, false_or] at h
  by_cases hc : c ∈ specL
  · rw [decide_eq_true hc] at h
    have h := h.symm
    simp only [Bool.or_eq_true, beq_iff_eq] at h
    exact ⟨fun _ => h, fun _ => hc⟩
  · rw [decide_eq_false hc] at h
    have h := h.symm
    simp only [Bool.or_eq_false_iff, beq_eq_false_iff_ne] at h
    exact ⟨fun h => absurd h hc, fun hh => by omega⟩

set_option maxHeartbeats 2000000 in
theorem word_fn (m : Mem) (hQ : LibMem m) (b : Nat) (s : List UInt8) (i : Nat) (hi : i < s.length) (hl : s.length ≤ 1000000) :
    Ev.Fn Tryz.prog 40 [.pointer (some ⟨b, 0, none⟩)] m [(b, scO s i)] fun m' L' u => m' = m ∧ ∃ (x : W) (ok : Bool) (j : Nat), j ≤ s.length ∧ L' = [(b, scO s j)] ∧ u = .tuple (toArr [.agg (toArr (wC 0 x)), .bool ok]) ∧
      (ok = true → i < j ∧ stepT (s.drop i) = (x, j - i)) ∧ (ok = false → (stepT (s.drop i)).2 = 0) := by
  have hdl : (s.drop i).length = s.length - i := List.length_drop
  have hlook := look_fn m b s i (by omega) hl
  have hlp := lookT_pos (s.drop i)
  have hgc : (bs s).data[i]? = some s[i] := by rw [bs_get, List.getElem?_eq_getElem hi]
  have hdr : s.drop i = s[i] :: s.drop (i + 1) := List.drop_eq_getElem_cons hi
  have hesc := escape_fn m b s (i + 1) (by omega) hl
  have hcls := class_fn m b s (i + 1) (by omega) hl
  have hbrc := braces_fn m hQ b s (i + 1) (by omega) hl
  obtain ⟨i1, hi1⟩ : ∃ i1, i1 = i + 1 := ⟨_, rfl⟩
  rw [← hi1] at hdr hesc hcls hbrc
  have hic : (i : Int) + 1 = (i1 : Nat) := by omega
  generalize s.drop i1 = r at hdr hesc hcls hbrc
  generalize s[i] = c at hgc hdr
  rw [hdr] at hlook hlp hdl ⊢
  have hc := c.toNat_lt
  have hstep : ¬ 0 < (lookT (c :: r)).1 → stepT (c :: r) = if c.toNat = 92 then (if (escT r).2 = 0 then (wK 0, 0) else (wB (putF zeroF (escT r).1), (escT r).2 + 1))
      else if c.toNat = 91 then (match classT r with | none => (wK 0, 0) | some x => (wB x.1, x.2 + 1))
      else if c.toNat = 123 then (if (braceT r).2 = 0 then (wK 0, 0) else ((braceT r).1, (braceT r).2 + 1))
      else if c.toNat = 46 then (wB (notF (putF zeroF 10)), 1)
      else if 0 < signT c.toNat then (wK (signT c.toNat), 1)
      else if c.toNat = 93 ∨ c.toNat = 125 then (wK 0, 0) else (wB (putF zeroF c.toNat), 1) := fun h => by unfold stepT; rw [if_neg h]; rfl
  have hstep1 : 0 < (lookT (c :: r)).1 → stepT (c :: r) = (wK (lookT (c :: r)).1, (lookT (c :: r)).2) := fun h => by unfold stepT; rw [if_pos h]
  have hsg := sign_fn m c
  refine Fn.enter (N := 84) hX Tryz.func40 rfl rfl (by show _ ≤ _; simp) (fun w0 hL => ?_)
  conv => whnf
  generalize keys [(b, scO s i)] = S0 at hL ⊢
  refine NewReq.mk hL ?_
  clear hL
  intro b2 w hL
  conv => whnf
  replace hL : Ev.Loc m S0 w0 m ((b, scO s i) :: [(b2, .cells (toArr (wC 0 (wK 0))) 57 (0, 0))]) w := hL.perm (List.perm_append_comm (l₁ := [_]) (l₂ := [_]))
  conv => whnf
  repeat ((first | refine zT ?_ | refine zF ?_ | refine zL hX hL ?_ | refine zB hX hL ?_ | (refine zS hX hL ?_; clear hL; intro w hL) | refine zI ?_ | refine zG hX ?_ | refine zO ?_); conv => whnf)
  refine CallReq.sc hlook hL ?_
  clear hL
  intro w hL
  by_cases hk : 0 < (lookT (c :: r)).1
  · obtain ⟨g1, g2⟩ := hlp.1 hk
    have hst := hstep1 hk
    generalize lookT (c :: r) = lk at *
    simp only [List.length_cons] at hdl g2
    conv => whnf
    repeat ((first | refine BrReq.yes hk ?_ | refine zT ?_ | refine zF ?_ | refine zL hX hL ?_ | refine zB hX hL ?_ | (refine zS hX hL ?_; clear hL; intro w hL) | refine zI ?_ | refine zG hX ?_ | refine zO ?_); conv => whnf)
    exact RetReq.mk (hL.one 0 rfl) ⟨rfl, wK lk.1, true, i + lk.2, by omega, rfl, rfl, fun _ => ⟨by omega, by rw [hst]; congr 1; omega⟩, fun h => by cases h⟩
  have hst := hstep hk
  have hl0 := hlp.2 hk
  generalize stepT (c :: r) = st at hst ⊢
  rw [hl0] at hL ⊢
  replace hL : Ev.Loc m S0 w0 m ((b, .cells (toArr [.string (bs s), .int .i64 i]) 83 (0, 0)) :: [(b2, .cells (toArr (wC 0 (wK 0))) 57 (0, 0))]) w := hL
  conv => whnf
  repeat ((first | refine zT ?_ | refine zF ?_ | refine zL hX hL ?_ | refine zB hX hL ?_ | (refine zS hX hL ?_; clear hL; intro w hL) | refine zI ?_ | refine zG hX ?_ | refine zO ?_); conv => whnf)
  refine DrawReq.plan hX (.fst 0 (.fst 1 (.fst 2 (.fst 3 (.fst 4 (.fst 5 (.fst 6 (.fst 7 (.fst 8 (.fst 9 (.done))))))))))) [(b, .cells (toArr [.string (bs s), .int .i64 i]) 83 (0, 0))] (by kernel_rfl) (by kernel_rfl) hL (fun h => h.one 0 rfl) ?_
  clear hL
  intro w hL
  conv => whnf
  repeat ((first | refine StrIdxReq.mk i c rfl hgc ?_ | refine zQ hX ?_ | refine zR hX ?_ | refine zA ?_ | refine zT ?_ | refine zF ?_ | refine zL hX hL ?_ | refine zB hX hL ?_ | (refine zS hX hL ?_; clear hL; intro w hL) | refine zI ?_ | refine zG hX ?_ | refine zO ?_); conv => whnf)
  replace hL : Ev.Loc m S0 w0 m ((b, .cells (toArr [.string (bs s), .int .i64 ((i : Int) + 1)]) 83 (0, 0)) :: [(b2, .cells (toArr (wC 0 (wK 0))) 57 (0, 0))]) w := hL
  rw [hic] at hL
  replace hL : Ev.Loc m S0 w0 m ([(b, scO s i1)] ++ [(b2, .cells (toArr (wC 0 (wK 0))) 57 (0, 0))]) w := hL
  by_cases k1 : c.toNat = 92
  · rw [if_pos k1] at hst
    conv => whnf
    repeat ((first | refine BrReq.yes (by omega) ?_ | refine zT ?_ | refine zF ?_ | refine zL hX hL ?_ | refine zB hX hL ?_ | (refine zS hX hL ?_; clear hL; intro w hL) | refine zI ?_ | refine zG hX ?_ | refine zO ?_); conv => whnf)
    refine CallReq.mk hesc hL ?_
    clear hL
    rintro u m1 L' w hL - ⟨rfl, x, ok, j, hx, hj, rfl, rfl, h1, h2⟩
    replace hL : Ev.Loc m1 S0 w0 m1 ((b, scO s j) :: [(b2, .cells (toArr (wC 0 (wK 0))) 57 (0, 0))]) w := hL
    conv => whnf
    repeat ((first | refine zT ?_ | refine zF ?_ | refine zL hX hL ?_ | refine zB hX hL ?_ | (refine zS hX hL ?_; clear hL; intro w hL) | refine zI ?_ | refine zG hX ?_ | refine zO ?_); conv => whnf)
    refine NewReq.mk hL ?_
    clear hL
    intro g w hL
    conv => whnf
    refine CallReq.mk (L1 := [_]) (L2 := [_, _]) (Of_fn m1 g x hx (0, 0)) hL ?_
    clear hL
    rintro u m2 L' w hL - ⟨rfl, rfl, rfl⟩
    conv => whnf
    repeat ((first | refine zT ?_ | refine zF ?_ | refine zL hX hL ?_ | refine zB hX hL ?_ | (refine zS hX hL ?_; clear hL; intro w hL) | refine zI ?_ | refine zG hX ?_ | refine zO ?_); conv => whnf)
    cases ok with
    | true =>
      obtain ⟨g1, g2, g3⟩ := h1 rfl
      rw [if_neg g1] at hst
      exact RetReq.mk (hL.one 0 rfl) ⟨rfl, wB (putF zeroF x), true, j, hj, rfl, rfl, fun _ => ⟨by omega, by rw [hst, g2]; congr 1; omega⟩, fun h => by cases h⟩
    | false =>
      rw [if_pos (h2 rfl)] at hst
      exact RetReq.mk (hL.one 0 rfl) ⟨rfl, wB (putF zeroF x), false, j, hj, rfl, rfl, fun h => (by cases h), fun _ => by rw [hst]⟩
  rw [if_neg k1] at hst
  by_cases k2 : c.toNat = 91
  · rw [if_pos k2] at hst
    conv => whnf
    repeat ((first | refine BrReq.yes (by omega) ?_ | refine BrReq.no (by omega) ?_ | refine zT ?_ | refine zF ?_ | refine zL hX hL ?_ | refine zB hX hL ?_ | (refine zS hX hL ?_; clear hL; intro w hL) | refine zI ?_ | refine zG hX ?_ | refine zO ?_); conv => whnf)
    refine CallReq.mk hcls hL ?_
    clear hL
    rintro u m1 L' w hL - ⟨rfl, f, ok, j, hf, hj, rfl, rfl, h1, h2⟩
    replace hL : Ev.Loc m1 S0 w0 m1 ((b, scO s j) :: [(b2, .cells (toArr (wC 0 (wK 0))) 57 (0, 0))]) w := hL
    conv => whnf
    repeat ((first | refine zT ?_ | refine zF ?_ | refine zL hX hL ?_ | refine zB hX hL ?_ | (refine zS hX hL ?_; clear hL; intro w hL) | refine zI ?_ | refine zG hX ?_ | refine zO ?_); conv => whnf)
    refine NewReq.mk hL ?_
    clear hL
    intro g w hL
    conv => whnf
    conv => whnf
    repeat ((first | refine zT ?_ | refine zF ?_ | refine zL hX hL ?_ | refine zB hX hL ?_ | (refine zS hX hL ?_; clear hL; intro w hL) | refine zI ?_ | refine zG hX ?_ | refine zO ?_); conv => whnf)
    cases ok with
    | true =>
      obtain ⟨g1, g2⟩ := h1 rfl
      rw [g2] at hst
      have hj3 : j - i1 + 1 = j - i := by omega
      exact RetReq.mk (hL.one 1 rfl) ⟨rfl, wB f, true, j, hj, rfl, rfl, fun _ => ⟨by omega, by rw [hst, ← hj3]⟩, fun h => by cases h⟩
    | false =>
      rw [h2 rfl] at hst
      exact RetReq.mk (hL.one 1 rfl) ⟨rfl, wB f, false, j, hj, rfl, rfl, fun h => (by cases h), fun _ => by rw [hst]⟩
  rw [if_neg k2] at hst
  by_cases k3 : c.toNat = 123
  · rw [if_pos k3] at hst
    conv => whnf
    repeat ((first | refine BrReq.yes (by omega) ?_ | refine BrReq.no (by omega) ?_ | refine zT ?_ | refine zF ?_ | refine zL hX hL ?_ | refine zB hX hL ?_ | (refine zS hX hL ?_; clear hL; intro w hL) | refine zI ?_ | refine zG hX ?_ | refine zO ?_); conv => whnf)
    refine CallReq.mk hbrc hL ?_
    clear hL
    rintro u m1 L' w hL - ⟨rfl, x, ok, j, hj, rfl, rfl, h1, h2⟩
    replace hL : Ev.Loc m1 S0 w0 m1 ((b, scO s j) :: [(b2, .cells (toArr (wC 0 (wK 0))) 57 (0, 0))]) w := hL
    conv => whnf
    repeat ((first | refine zT ?_ | refine zF ?_ | refine zL hX hL ?_ | refine zB hX hL ?_ | (refine zS hX hL ?_; clear hL; intro w hL) | refine zI ?_ | refine zG hX ?_ | refine zO ?_); conv => whnf)
    cases ok with
    | true =>
      obtain ⟨g1, g2⟩ := h1 rfl
      rw [g2, if_neg (by simp only; omega)] at hst
      exact RetReq.mk (hL.one 0 rfl) ⟨rfl, x, true, j, hj, rfl, rfl, fun _ => ⟨by omega, by rw [hst]; congr 1; simp only; omega⟩, fun h => by cases h⟩
    | false =>
      rw [if_pos (h2 rfl)] at hst
      exact RetReq.mk (hL.one 0 rfl) ⟨rfl, x, false, j, hj, rfl, rfl, fun h => (by cases h), fun _ => by rw [hst]⟩
  rw [if_neg k3] at hst
  have hj1 : i1 ≤ s.length := by omega
  replace hL : Ev.Loc m S0 w0 m ((b, scO s i1) :: [(b2, .cells (toArr (wC 0 (wK 0))) 57 (0, 0))]) w := hL
  by_cases k4 : c.toNat = 46
  · rw [if_pos k4] at hst
    conv => whnf
    repeat ((first | refine BrReq.yes (by omega) ?_ | refine BrReq.no (by omega) ?_ | refine zT ?_ | refine zF ?_ | refine zL hX hL ?_ | refine zB hX hL ?_ | (refine zS hX hL ?_; clear hL; intro w hL) | refine zI ?_ | refine zG hX ?_ | refine zO ?_); conv => whnf)
    refine NewReq.mk hL ?_
    clear hL
    intro g w hL
    conv => whnf
    refine CallReq.mk (L1 := [_]) (L2 := [_, _]) (Of_fn m g 10 (by decide) (0, 0)) hL ?_
    clear hL
    rintro u m2 L' w hL - ⟨rfl, rfl, rfl⟩
    conv => whnf
    repeat ((first | refine zT ?_ | refine zF ?_ | refine zL hX hL ?_ | refine zB hX hL ?_ | (refine zS hX hL ?_; clear hL; intro w hL) | refine zI ?_ | refine zG hX ?_ | refine zO ?_); conv => whnf)
    refine CallReq.val (Not_fn m2 (putF zeroF 10) (inF_put inF_zero 10)) hL ?_
    clear hL
    intro w hL
    conv => whnf
    repeat ((first | refine zT ?_ | refine zF ?_ | refine zL hX hL ?_ | refine zB hX hL ?_ | (refine zS hX hL ?_; clear hL; intro w hL) | refine zI ?_ | refine zG hX ?_ | refine zO ?_); conv => whnf)
    exact RetReq.mk (hL.one 0 rfl) ⟨rfl, wB (notF (putF zeroF 10)), true, i1, hj1, rfl, rfl, fun _ => ⟨by omega, by rw [hst]; congr 1; omega⟩, fun h => by cases h⟩
  rw [if_neg k4] at hst
  by_cases k5 : 0 < signT c.toNat
  · rw [if_pos k5] at hst
    conv => whnf
    repeat ((first | refine BrReq.yes (by omega) ?_ | refine BrReq.no (by omega) ?_ | refine zT ?_ | refine zF ?_ | refine zL hX hL ?_ | refine zB hX hL ?_ | (refine zS hX hL ?_; clear hL; intro w hL) | refine zI ?_ | refine zG hX ?_ | refine zO ?_); conv => whnf)
    refine CallReq.val hsg hL ?_
    clear hL
    intro w hL
    conv => whnf
    repeat ((first | refine BrReq.yes (by omega) ?_ | refine zT ?_ | refine zF ?_ | refine zL hX hL ?_ | refine zB hX hL ?_ | (refine zS hX hL ?_; clear hL; intro w hL) | refine zI ?_ | refine zG hX ?_ | refine zO ?_); conv => whnf)
    refine CallReq.val hsg hL ?_
    clear hL
    intro w hL
    conv => whnf
    repeat ((first | refine zT ?_ | refine zF ?_ | refine zL hX hL ?_ | refine zB hX hL ?_ | (refine zS hX hL ?_; clear hL; intro w hL) | refine zI ?_ | refine zG hX ?_ | refine zO ?_); conv => whnf)
    exact RetReq.mk (hL.one 0 rfl) ⟨rfl, wK (signT c.toNat), true, i1, hj1, rfl, rfl, fun _ => ⟨by omega, by rw [hst]; congr 1; omega⟩, fun h => by cases h⟩
  rw [if_neg k5] at hst
  have hsp := spec_in c k1 k2 k3 k4 k5
  have hix := ix_in specL c
  conv => whnf
  repeat ((first | refine BrReq.yes (by omega) ?_ | refine BrReq.no (by omega) ?_ | refine zT ?_ | refine zF ?_ | refine zL hX hL ?_ | refine zB hX hL ?_ | (refine zS hX hL ?_; clear hL; intro w hL) | refine zI ?_ | refine zG hX ?_ | refine zO ?_); conv => whnf)
  refine CallReq.val hsg hL ?_
  clear hL
  intro w hL
  conv => whnf
  repeat ((first | refine BrReq.no (by omega) ?_ | refine zT ?_ | refine zF ?_ | refine zL hX hL ?_ | refine zB hX hL ?_ | (refine zS hX hL ?_; clear hL; intro w hL) | refine zI ?_ | refine zG hX ?_ | refine zO ?_); conv => whnf)
  refine NewReq.mk hL ?_
  clear hL
  intro g w hL
  conv => whnf
  refine CallReq.mk (L1 := [_]) (L2 := [_, _]) (Of_fn m g c.toNat hc (0, 0)) hL ?_
  clear hL
  rintro u m2 L' w hL - ⟨rfl, rfl, rfl⟩
  conv => whnf
  repeat ((first | refine zT ?_ | refine zF ?_ | refine zL hX hL ?_ | refine zB hX hL ?_ | (refine zS hX hL ?_; clear hL; intro w hL) | refine zI ?_ | refine zG hX ?_ | refine zO ?_); conv => whnf)
  refine CallReq.val (indexByte_fn m2 specL c) hL ?_
  clear hL
  intro w hL
  conv => whnf
  repeat ((first | refine zT ?_ | refine zF ?_ | refine zL hX hL ?_ | refine zB hX hL ?_ | (refine zS hX hL ?_; clear hL; intro w hL) | refine zI ?_ | refine zG hX ?_ | refine zO ?_); conv => whnf)
  by_cases k6 : c.toNat = 93 ∨ c.toNat = 125
  · rw [if_pos k6] at hst
    refine RetReq.mk (hL.one 0 rfl) ⟨rfl, wB (putF zeroF c.toNat), false, i1, hj1, rfl, ?_, fun h => (by cases h), fun _ => by rw [hst]⟩
    have := hix.1.2 (hsp.2 k6)
    rw [← decide_eq_false (show ¬ Lib.indexByte specL c < 0 by omega)]; rfl
  · rw [if_neg k6] at hst
    refine RetReq.mk (hL.one 0 rfl) ⟨rfl, wB (putF zeroF c.toNat), true, i1, hj1, rfl, ?_, fun _ => ⟨by omega, by rw [hst]; congr 1; omega⟩, fun h => by cases h⟩
    have hn : ¬ 0 ≤ Lib.indexByte specL c := fun h => k6 (hsp.1 (hix.1.1 h))
    rw [← decide_eq_true (show Lib.indexByte specL c < 0 by omega)]; rfl
end Go.Proofs.YtemdkfohlppckaaGreatDoor.lx
