/- A machine's bytes: packed. Conditions: none. -/
import Derived.Test.YtcofkjameibeoaaTabBody

namespace Go.Proofs.Ytcofkjameibeoaa.mach
open Go Go.Ev Go.Proofs Go.Proofs.Ytcofkjameibeoaa.crc

def okM (M : Mc) : Bool := rightM M && (decide (M.states.length ≤ 2000) && decide (M.begins.length ≤ 255))
noncomputable def sealR (b : List Int) : List Int := [66, 76, 84, 49] ++ wideR 4 (12 + b.length) ++ wideR 4 (crcR b : Nat) ++ b
noncomputable def packR (M : Mc) : List Int := sealR (bodyR M)

theorem clsGo_pos : ∀ (l : List Int) (n : Int), 0 < l.length → (∀ z ∈ l, 0 ≤ z) → clsGo l 0 = some n → 1 ≤ n
  | [], _, h, _, _ => by simp at h
  | x :: l, n, _, hb, h => by
    have h0 := hb x (by simp)
    simp only [clsGo] at h
    split at h
    · cases h
    · rw [if_pos (by omega)] at h
      have := clsGo_lt l _ _ h
      omega

structure Fits (M : Mc) : Prop where
  looks : 0 ≤ M.looks ∧ M.looks ≤ 4
  n : 1 ≤ M.n ∧ M.n ≤ 256
  states : 1 ≤ M.states.length ∧ M.states.length ≤ 2000
  begins : 1 ≤ M.begins.length ∧ M.begins.length ≤ 255
  next : ∀ s ∈ M.states, (s.next.length : Int) = 2 ^ M.looks.toNat * M.n ∧ 0 < s.next.length ∧ s.next.length ≤ 10000
  rule : ∀ s ∈ M.states, (s.rule.length : Int) = 2 ^ M.looks.toNat ∧ s.rule.length ≤ 16
  rules : ∀ s ∈ M.states, ∀ r ∈ s.rule, -1 ≤ r ∧ r < 30
  nexts : ∀ s ∈ M.states, ∀ k ∈ s.next, 0 ≤ k ∧ k < 2000
  begin_ : ∀ k ∈ M.begins, 0 ≤ k ∧ k < 2000
theorem Fits.of {M : Mc} (hlen : M.of.length = 256) (hb : ∀ z ∈ M.of, 0 ≤ z ∧ z ≤ 255) (h : okM M = true) : Fits M := by
  unfold okM rightM at h
  simp only [Bool.and_eq_true, decide_eq_true_eq, List.all_eq_true] at h
  obtain ⟨⟨⟨⟨h1, h2, h3⟩, h4, h5⟩, h6, h7⟩, h8, h9⟩ := h
  have hc := of_decide_eq_true h1
  have hn1 := clsGo_pos _ _ (by omega) (fun z hz => (hb z hz).1) hc
  have hn2 := clsGo_lt _ _ _ hc
  obtain ⟨p1, p2, -⟩ := pow_looks h2 h3
  generalize hpw : (2 : Int) ^ M.looks.toNat = pw at p1 p2
  have hm1 : 1 * 1 ≤ pw * M.n := Int.mul_le_mul p1 hn1 (by omega) (by omega)
  have hm2 : pw * M.n ≤ 16 * 256 := Int.mul_le_mul p2 (by omega) (by omega) (by omega)
  have hs : ∀ s ∈ M.states, ((s.rule.length : Int) = pw ∧ (s.next.length : Int) = pw * M.n) ∧ (∀ r ∈ s.rule, -1 ≤ r ∧ r < 30) ∧ ∀ k ∈ s.next, 0 ≤ k ∧ k < (M.states.length : Int) := by
    intro s hs
    have := h6 s hs
    unfold rightSt at this
    simp only [Bool.and_eq_true, decide_eq_true_eq, List.all_eq_true, hpw] at this
    exact this
  refine ⟨⟨h2, h3⟩, ⟨hn1, by omega⟩, ⟨h4, h8⟩, ⟨h5, h9⟩, fun s hs' => ?_, fun s hs' => ?_, fun s hs' => (hs s hs').2.1, fun s hs' k hk => ?_, fun k hk => ?_⟩
  · obtain ⟨⟨a, b⟩, _⟩ := hs s hs'
    rw [hpw]
    exact ⟨b, by omega, by omega⟩
  · obtain ⟨⟨a, b⟩, _⟩ := hs s hs'
    rw [hpw]
    exact ⟨a, by omega⟩
  · have := (hs s hs').2.2 k hk; omega
  · have := h7 k hk; omega

theorem mem_flat_byte {α : Type} {l : List α} {f : α → List Int} (h : ∀ x ∈ l, ∀ z ∈ f x, 0 ≤ z ∧ z ≤ 255) : ∀ z ∈ (l.map f).flatten, 0 ≤ z ∧ z ≤ 255 := by
  intro z hz
  obtain ⟨r, hr, hz⟩ := List.mem_flatten.1 hz
  obtain ⟨x, hx, rfl⟩ := List.mem_map.1 hr
  exact h x hx z hz
theorem two_bytes {a b : List Int} (h : ∀ z ∈ a, 0 ≤ z ∧ z ≤ 255) (k : ∀ z ∈ b, 0 ≤ z ∧ z ≤ 255) : ∀ z ∈ a ++ b, 0 ≤ z ∧ z ≤ 255 := fun z hz => (List.mem_append.1 hz).elim (h z) (k z)
theorem bodyR_byte (M : Mc) (hb : ∀ z ∈ M.of, 0 ≤ z ∧ z ≤ 255) : ∀ z ∈ bodyR M, 0 ≤ z ∧ z ≤ 255 := by
  unfold bodyR
  refine two_bytes (two_bytes (two_bytes (two_bytes (two_bytes (two_bytes (two_bytes (two_bytes (two_bytes (wideR_byte _ _) (wideR_byte _ _)) hb) (wideR_byte _ _)) ?_) ?_) ?_) (wideR_byte _ _)) ?_) ?_
  · intro z hz; simp only [List.mem_singleton] at hz; omega
  · exact mem_flat_byte fun x _ => wideR_byte 2 x
  · refine mem_flat_byte fun s _ z hz => ?_
    obtain ⟨r, _, rfl⟩ := List.mem_map.1 hz
    omega
  · exact mem_flat_byte fun x _ => two_bytes (wideR_byte _ _) (wideR_byte _ _)
  · exact mem_flat_byte fun x _ => two_bytes (wideR_byte _ _) (wideR_byte _ _)
theorem bodyR_len (M : Mc) (hl : M.of.length = 256) (h : Fits M) : (bodyR M).length ≤ 100000000 := by
  obtain ⟨h1, h2, h3⟩ := packTo_len (fun s hs => (h.next s hs).2.2) M.states.length (Nat.le_refl _)
  have h4 := ruleW_len fun s hs => (h.rule s hs).2
  have h5 := h.states
  have h6 := h.begins
  unfold bodyR
  simp only [List.length_append, wideR_len, bytesW_len, cellW_len, headW_len _ _ (h2.trans h3.symm), hl, List.length_cons, List.length_nil]
  rw [h2]
  omega
theorem crcR_range (l : List Int) (h : ∀ z ∈ l, 0 ≤ z ∧ z ≤ 255) : crcR l < 4294967296 := by
  unfold crcR
  exact Nat.xor_lt_two_pow (n := 32) (fold_lt l _ (by decide) h) (by decide)

set_option maxHeartbeats 2000000 in
set_option maxRecDepth 100000 in
theorem pack_fn (m : Mem) (cs : List Value) (M : Mc) (hM : McV m cs M) :
    Ev.Fn Try.prog 14 [.agg (toArr cs)] m [] fun m' L' u => m' = m ∧ ((okM M = true ∧ ∃ v, u = .tuple (toArr [v, .int .i64 0]) ∧ OwnS 5 1 v (ints .u8 (packR M)) L') ∨ (okM M = false ∧ u = .tuple (toArr [.slice none 0 0, .int .i64 1]) ∧ L' = [])) := by
  have hmx : maxLen = 9223372036854775807 := rfl
  have hlen := hM.len
  have hsz := hM.size
  refine Fn.enter (N := 39) hX Try.func14 rfl rfl (by show _ ≤ _; simp) (fun w0 hL => ?_)
  conv => whnf
  refine NewReq.mk hL ?_
  clear hL
  intro b1 w hL
  replace hL : Ev.Loc m [] w0 m [(b1, .cells (toArr cs) 30 (0, 0))] w := hL
  have hle := hL.le_add
  have hB := McB.freeze hM hL
  replace hL := hL.freeze
  generalize Mem.add m b1 _ = m1 at hL hB hle
  obtain ⟨st, be, hsts, hbes, c1, c2, c3, c4, hcl, hMv, hMc⟩ := hB.at_
  obtain ⟨A1, n1, k1, rfl, hn1, hk1, hm1, -⟩ := hsts
  obtain ⟨A2, n2, k2, rfl, hn2, hk2, hm2, -⟩ := hbes
  conv => whnf
  conv => whnf
  repeat ((first | refine LdReq.agg hX rfl rfl hL hMv.size hMc ?_ | refine BrReq.tt ?_ | refine BrReq.ff ?_ | refine LdReq.own1 hX rfl rfl 0 hL rfl rfl ?_ | refine LdReq.own1 hX rfl rfl 1 hL rfl rfl ?_ | refine LdReq.own1 hX rfl rfl 2 hL rfl rfl ?_ | refine LdReq.own1 hX rfl rfl 3 hL rfl rfl ?_ | refine LdReq.own1 hX rfl rfl 4 hL rfl rfl ?_ | refine LdReq.own1 hX rfl rfl 5 hL rfl rfl ?_ | refine LdReq.own1 hX rfl rfl 6 hL rfl rfl ?_ | refine LdReq.ownA hX rfl rfl 0 hL rfl rfl ?_ | refine LdReq.ownA hX rfl rfl 1 hL rfl rfl ?_ | refine LdReq.ownA hX rfl rfl 2 hL rfl rfl ?_ | refine LdReq.ownA hX rfl rfl 3 hL rfl rfl ?_ | refine LdReq.ownA hX rfl rfl 4 hL rfl rfl ?_ | refine LdReq.ownA hX rfl rfl 5 hL rfl rfl ?_ | refine LdReq.ownA hX rfl rfl 6 hL rfl rfl ?_ | (refine StReq.own hX rfl 0 hL rfl rfl rfl rfl ?_; clear hL; intro w hL) | (refine StReq.own hX rfl 1 hL rfl rfl rfl rfl ?_; clear hL; intro w hL) | (refine StReq.own hX rfl 2 hL rfl rfl rfl rfl ?_; clear hL; intro w hL) | (refine StReq.own hX rfl 3 hL rfl rfl rfl rfl ?_; clear hL; intro w hL) | (refine StReq.own hX rfl 4 hL rfl rfl rfl rfl ?_; clear hL; intro w hL) | (refine StReq.own hX rfl 5 hL rfl rfl rfl rfl ?_; clear hL; intro w hL) | (refine StReq.own hX rfl 6 hL rfl rfl rfl rfl ?_; clear hL; intro w hL) | refine ArReq.i64 (by omega) (by omega) ?_ | refine SeqReq.go hX ?_ | refine OptReq.mk rfl ?_); conv => whnf)
  refine CallReq.val (right_fn m1 _ M hMv) hL ?_
  clear hL
  intro w hL
  conv => whnf
  repeat ((first | refine BrReq.tt ?_ | refine BrReq.ff ?_ | refine LdReq.own1 hX rfl rfl 0 hL rfl rfl ?_ | refine LdReq.own1 hX rfl rfl 1 hL rfl rfl ?_ | refine LdReq.own1 hX rfl rfl 2 hL rfl rfl ?_ | refine LdReq.own1 hX rfl rfl 3 hL rfl rfl ?_ | refine LdReq.own1 hX rfl rfl 4 hL rfl rfl ?_ | refine LdReq.own1 hX rfl rfl 5 hL rfl rfl ?_ | refine LdReq.own1 hX rfl rfl 6 hL rfl rfl ?_ | refine LdReq.ownA hX rfl rfl 0 hL rfl rfl ?_ | refine LdReq.ownA hX rfl rfl 1 hL rfl rfl ?_ | refine LdReq.ownA hX rfl rfl 2 hL rfl rfl ?_ | refine LdReq.ownA hX rfl rfl 3 hL rfl rfl ?_ | refine LdReq.ownA hX rfl rfl 4 hL rfl rfl ?_ | refine LdReq.ownA hX rfl rfl 5 hL rfl rfl ?_ | refine LdReq.ownA hX rfl rfl 6 hL rfl rfl ?_ | (refine StReq.own hX rfl 0 hL rfl rfl rfl rfl ?_; clear hL; intro w hL) | (refine StReq.own hX rfl 1 hL rfl rfl rfl rfl ?_; clear hL; intro w hL) | (refine StReq.own hX rfl 2 hL rfl rfl rfl rfl ?_; clear hL; intro w hL) | (refine StReq.own hX rfl 3 hL rfl rfl rfl rfl ?_; clear hL; intro w hL) | (refine StReq.own hX rfl 4 hL rfl rfl rfl rfl ?_; clear hL; intro w hL) | (refine StReq.own hX rfl 5 hL rfl rfl rfl rfl ?_; clear hL; intro w hL) | (refine StReq.own hX rfl 6 hL rfl rfl rfl rfl ?_; clear hL; intro w hL) | refine ArReq.i64 (by omega) (by omega) ?_ | refine SeqReq.go hX ?_ | refine OptReq.mk rfl ?_); conv => whnf)
  have bad : okM M = false → RetReq m [] w0 (fun m' L' u => m' = m ∧ ((okM M = true ∧ ∃ v, u = .tuple (toArr [v, .int .i64 0]) ∧ OwnS 5 1 v (ints .u8 (packR M)) L') ∨ (okM M = false ∧ u = .tuple (toArr [.slice none 0 0, .int .i64 1]) ∧ L' = []))) (.tuple (toArr [.slice none 0 0, .int .i64 1])) w :=
    fun h => RetReq.mk (hL.weaken hle (Mem.Le.refl m)) ⟨rfl, .inr ⟨h, rfl, rfl⟩⟩
  refine BrReq.not ?_
  refine BrReq.bool (fun h1 => ?_) (fun h1 => ?_)
  · conv => whnf
    repeat ((first | (refine LdReq.one hX rfl rfl hL (by rw [addr_add]; exact c3) ?_) | refine BrReq.tt ?_ | refine BrReq.ff ?_ | refine LdReq.own1 hX rfl rfl 0 hL rfl rfl ?_ | refine LdReq.own1 hX rfl rfl 1 hL rfl rfl ?_ | refine LdReq.own1 hX rfl rfl 2 hL rfl rfl ?_ | refine LdReq.own1 hX rfl rfl 3 hL rfl rfl ?_ | refine LdReq.own1 hX rfl rfl 4 hL rfl rfl ?_ | refine LdReq.own1 hX rfl rfl 5 hL rfl rfl ?_ | refine LdReq.own1 hX rfl rfl 6 hL rfl rfl ?_ | refine LdReq.ownA hX rfl rfl 0 hL rfl rfl ?_ | refine LdReq.ownA hX rfl rfl 1 hL rfl rfl ?_ | refine LdReq.ownA hX rfl rfl 2 hL rfl rfl ?_ | refine LdReq.ownA hX rfl rfl 3 hL rfl rfl ?_ | refine LdReq.ownA hX rfl rfl 4 hL rfl rfl ?_ | refine LdReq.ownA hX rfl rfl 5 hL rfl rfl ?_ | refine LdReq.ownA hX rfl rfl 6 hL rfl rfl ?_ | (refine StReq.own hX rfl 0 hL rfl rfl rfl rfl ?_; clear hL; intro w hL) | (refine StReq.own hX rfl 1 hL rfl rfl rfl rfl ?_; clear hL; intro w hL) | (refine StReq.own hX rfl 2 hL rfl rfl rfl rfl ?_; clear hL; intro w hL) | (refine StReq.own hX rfl 3 hL rfl rfl rfl rfl ?_; clear hL; intro w hL) | (refine StReq.own hX rfl 4 hL rfl rfl rfl rfl ?_; clear hL; intro w hL) | (refine StReq.own hX rfl 5 hL rfl rfl rfl rfl ?_; clear hL; intro w hL) | (refine StReq.own hX rfl 6 hL rfl rfl rfl rfl ?_; clear hL; intro w hL) | refine ArReq.i64 (by omega) (by omega) ?_ | refine SeqReq.go hX ?_ | refine OptReq.mk rfl ?_); conv => whnf)
    refine BrReq.dec (fun h2 => ?_) (fun h2 => ?_)
    · conv => whnf
      repeat ((first | refine BrReq.tt ?_ | refine BrReq.ff ?_ | refine LdReq.own1 hX rfl rfl 0 hL rfl rfl ?_ | refine LdReq.own1 hX rfl rfl 1 hL rfl rfl ?_ | refine LdReq.own1 hX rfl rfl 2 hL rfl rfl ?_ | refine LdReq.own1 hX rfl rfl 3 hL rfl rfl ?_ | refine LdReq.own1 hX rfl rfl 4 hL rfl rfl ?_ | refine LdReq.own1 hX rfl rfl 5 hL rfl rfl ?_ | refine LdReq.own1 hX rfl rfl 6 hL rfl rfl ?_ | refine LdReq.ownA hX rfl rfl 0 hL rfl rfl ?_ | refine LdReq.ownA hX rfl rfl 1 hL rfl rfl ?_ | refine LdReq.ownA hX rfl rfl 2 hL rfl rfl ?_ | refine LdReq.ownA hX rfl rfl 3 hL rfl rfl ?_ | refine LdReq.ownA hX rfl rfl 4 hL rfl rfl ?_ | refine LdReq.ownA hX rfl rfl 5 hL rfl rfl ?_ | refine LdReq.ownA hX rfl rfl 6 hL rfl rfl ?_ | (refine StReq.own hX rfl 0 hL rfl rfl rfl rfl ?_; clear hL; intro w hL) | (refine StReq.own hX rfl 1 hL rfl rfl rfl rfl ?_; clear hL; intro w hL) | (refine StReq.own hX rfl 2 hL rfl rfl rfl rfl ?_; clear hL; intro w hL) | (refine StReq.own hX rfl 3 hL rfl rfl rfl rfl ?_; clear hL; intro w hL) | (refine StReq.own hX rfl 4 hL rfl rfl rfl rfl ?_; clear hL; intro w hL) | (refine StReq.own hX rfl 5 hL rfl rfl rfl rfl ?_; clear hL; intro w hL) | (refine StReq.own hX rfl 6 hL rfl rfl rfl rfl ?_; clear hL; intro w hL) | refine ArReq.i64 (by omega) (by omega) ?_ | refine SeqReq.go hX ?_ | refine OptReq.mk rfl ?_); conv => whnf)
      exact bad (by unfold okM; rw [h1, decide_eq_false (show ¬ M.states.length ≤ 2000 by omega)]; rfl)
    · conv => whnf
      repeat ((first | (refine LdReq.one hX rfl rfl hL (by rw [addr_add]; exact c4) ?_) | refine BrReq.tt ?_ | refine BrReq.ff ?_ | refine LdReq.own1 hX rfl rfl 0 hL rfl rfl ?_ | refine LdReq.own1 hX rfl rfl 1 hL rfl rfl ?_ | refine LdReq.own1 hX rfl rfl 2 hL rfl rfl ?_ | refine LdReq.own1 hX rfl rfl 3 hL rfl rfl ?_ | refine LdReq.own1 hX rfl rfl 4 hL rfl rfl ?_ | refine LdReq.own1 hX rfl rfl 5 hL rfl rfl ?_ | refine LdReq.own1 hX rfl rfl 6 hL rfl rfl ?_ | refine LdReq.ownA hX rfl rfl 0 hL rfl rfl ?_ | refine LdReq.ownA hX rfl rfl 1 hL rfl rfl ?_ | refine LdReq.ownA hX rfl rfl 2 hL rfl rfl ?_ | refine LdReq.ownA hX rfl rfl 3 hL rfl rfl ?_ | refine LdReq.ownA hX rfl rfl 4 hL rfl rfl ?_ | refine LdReq.ownA hX rfl rfl 5 hL rfl rfl ?_ | refine LdReq.ownA hX rfl rfl 6 hL rfl rfl ?_ | (refine StReq.own hX rfl 0 hL rfl rfl rfl rfl ?_; clear hL; intro w hL) | (refine StReq.own hX rfl 1 hL rfl rfl rfl rfl ?_; clear hL; intro w hL) | (refine StReq.own hX rfl 2 hL rfl rfl rfl rfl ?_; clear hL; intro w hL) | (refine StReq.own hX rfl 3 hL rfl rfl rfl rfl ?_; clear hL; intro w hL) | (refine StReq.own hX rfl 4 hL rfl rfl rfl rfl ?_; clear hL; intro w hL) | (refine StReq.own hX rfl 5 hL rfl rfl rfl rfl ?_; clear hL; intro w hL) | (refine StReq.own hX rfl 6 hL rfl rfl rfl rfl ?_; clear hL; intro w hL) | refine ArReq.i64 (by omega) (by omega) ?_ | refine SeqReq.go hX ?_ | refine OptReq.mk rfl ?_); conv => whnf)
      refine BrReq.dec (fun h3 => ?_) (fun h3 => ?_)
      · conv => whnf
        repeat ((first | refine BrReq.tt ?_ | refine BrReq.ff ?_ | refine LdReq.own1 hX rfl rfl 0 hL rfl rfl ?_ | refine LdReq.own1 hX rfl rfl 1 hL rfl rfl ?_ | refine LdReq.own1 hX rfl rfl 2 hL rfl rfl ?_ | refine LdReq.own1 hX rfl rfl 3 hL rfl rfl ?_ | refine LdReq.own1 hX rfl rfl 4 hL rfl rfl ?_ | refine LdReq.own1 hX rfl rfl 5 hL rfl rfl ?_ | refine LdReq.own1 hX rfl rfl 6 hL rfl rfl ?_ | refine LdReq.ownA hX rfl rfl 0 hL rfl rfl ?_ | refine LdReq.ownA hX rfl rfl 1 hL rfl rfl ?_ | refine LdReq.ownA hX rfl rfl 2 hL rfl rfl ?_ | refine LdReq.ownA hX rfl rfl 3 hL rfl rfl ?_ | refine LdReq.ownA hX rfl rfl 4 hL rfl rfl ?_ | refine LdReq.ownA hX rfl rfl 5 hL rfl rfl ?_ | refine LdReq.ownA hX rfl rfl 6 hL rfl rfl ?_ | (refine StReq.own hX rfl 0 hL rfl rfl rfl rfl ?_; clear hL; intro w hL) | (refine StReq.own hX rfl 1 hL rfl rfl rfl rfl ?_; clear hL; intro w hL) | (refine StReq.own hX rfl 2 hL rfl rfl rfl rfl ?_; clear hL; intro w hL) | (refine StReq.own hX rfl 3 hL rfl rfl rfl rfl ?_; clear hL; intro w hL) | (refine StReq.own hX rfl 4 hL rfl rfl rfl rfl ?_; clear hL; intro w hL) | (refine StReq.own hX rfl 5 hL rfl rfl rfl rfl ?_; clear hL; intro w hL) | (refine StReq.own hX rfl 6 hL rfl rfl rfl rfl ?_; clear hL; intro w hL) | refine ArReq.i64 (by omega) (by omega) ?_ | refine SeqReq.go hX ?_ | refine OptReq.mk rfl ?_); conv => whnf)
        exact bad (by unfold okM; rw [h1, decide_eq_false (show ¬ M.begins.length ≤ 255 by omega), Bool.and_false]; rfl)
      · have hok : okM M = true := by unfold okM; rw [h1, decide_eq_true (show M.states.length ≤ 2000 by omega), decide_eq_true (show M.begins.length ≤ 255 by omega)]; rfl
        have hF := Fits.of hlen hM.byt hok
        have hbl := bodyR_len M hlen hF
        have hbb := bodyR_byte M hM.byt
        have hcr := crcR_range _ hbb
        clear bad
        conv => whnf
        repeat ((first | refine LdReq.agg hX rfl rfl hL hMv.size hMc ?_ | refine BrReq.tt ?_ | refine BrReq.ff ?_ | refine LdReq.own1 hX rfl rfl 0 hL rfl rfl ?_ | refine LdReq.own1 hX rfl rfl 1 hL rfl rfl ?_ | refine LdReq.own1 hX rfl rfl 2 hL rfl rfl ?_ | refine LdReq.own1 hX rfl rfl 3 hL rfl rfl ?_ | refine LdReq.own1 hX rfl rfl 4 hL rfl rfl ?_ | refine LdReq.own1 hX rfl rfl 5 hL rfl rfl ?_ | refine LdReq.own1 hX rfl rfl 6 hL rfl rfl ?_ | refine LdReq.ownA hX rfl rfl 0 hL rfl rfl ?_ | refine LdReq.ownA hX rfl rfl 1 hL rfl rfl ?_ | refine LdReq.ownA hX rfl rfl 2 hL rfl rfl ?_ | refine LdReq.ownA hX rfl rfl 3 hL rfl rfl ?_ | refine LdReq.ownA hX rfl rfl 4 hL rfl rfl ?_ | refine LdReq.ownA hX rfl rfl 5 hL rfl rfl ?_ | refine LdReq.ownA hX rfl rfl 6 hL rfl rfl ?_ | (refine StReq.own hX rfl 0 hL rfl rfl rfl rfl ?_; clear hL; intro w hL) | (refine StReq.own hX rfl 1 hL rfl rfl rfl rfl ?_; clear hL; intro w hL) | (refine StReq.own hX rfl 2 hL rfl rfl rfl rfl ?_; clear hL; intro w hL) | (refine StReq.own hX rfl 3 hL rfl rfl rfl rfl ?_; clear hL; intro w hL) | (refine StReq.own hX rfl 4 hL rfl rfl rfl rfl ?_; clear hL; intro w hL) | (refine StReq.own hX rfl 5 hL rfl rfl rfl rfl ?_; clear hL; intro w hL) | (refine StReq.own hX rfl 6 hL rfl rfl rfl rfl ?_; clear hL; intro w hL) | refine ArReq.i64 (by omega) (by omega) ?_ | refine SeqReq.go hX ?_ | refine OptReq.mk rfl ?_); conv => whnf)
        refine callO (body_fn m1 _ M hMv hF.states.2 hF.begins.2 (fun s hs => (hF.next s hs).2) (fun s hs => (hF.rule s hs).2)) hL ?_
        clear hL
        intro A3 n3 k3 L1 w hn3 ho1 hL
        have hn3' : n3 = (bodyR M).length := by simp [ints] at hn3; omega
        obtain ⟨m2, hL, hm2', hsb⟩ := ho1.freeze hL
        conv => whnf
        repeat ((first | refine BrReq.tt ?_ | refine BrReq.ff ?_ | refine LdReq.own1 hX rfl rfl 0 hL rfl rfl ?_ | refine LdReq.own1 hX rfl rfl 1 hL rfl rfl ?_ | refine LdReq.own1 hX rfl rfl 2 hL rfl rfl ?_ | refine LdReq.own1 hX rfl rfl 3 hL rfl rfl ?_ | refine LdReq.own1 hX rfl rfl 4 hL rfl rfl ?_ | refine LdReq.own1 hX rfl rfl 5 hL rfl rfl ?_ | refine LdReq.own1 hX rfl rfl 6 hL rfl rfl ?_ | refine LdReq.ownA hX rfl rfl 0 hL rfl rfl ?_ | refine LdReq.ownA hX rfl rfl 1 hL rfl rfl ?_ | refine LdReq.ownA hX rfl rfl 2 hL rfl rfl ?_ | refine LdReq.ownA hX rfl rfl 3 hL rfl rfl ?_ | refine LdReq.ownA hX rfl rfl 4 hL rfl rfl ?_ | refine LdReq.ownA hX rfl rfl 5 hL rfl rfl ?_ | refine LdReq.ownA hX rfl rfl 6 hL rfl rfl ?_ | (refine StReq.own hX rfl 0 hL rfl rfl rfl rfl ?_; clear hL; intro w hL) | (refine StReq.own hX rfl 1 hL rfl rfl rfl rfl ?_; clear hL; intro w hL) | (refine StReq.own hX rfl 2 hL rfl rfl rfl rfl ?_; clear hL; intro w hL) | (refine StReq.own hX rfl 3 hL rfl rfl rfl rfl ?_; clear hL; intro w hL) | (refine StReq.own hX rfl 4 hL rfl rfl rfl rfl ?_; clear hL; intro w hL) | (refine StReq.own hX rfl 5 hL rfl rfl rfl rfl ?_; clear hL; intro w hL) | (refine StReq.own hX rfl 6 hL rfl rfl rfl rfl ?_; clear hL; intro w hL) | refine ArReq.i64 (by omega) (by omega) ?_ | refine SeqReq.go hX ?_ | refine OptReq.mk rfl ?_); conv => whnf)
        refine NewReq.mk hL ?_
        clear hL
        intro g w hL
        conv => whnf
        replace hL : Ev.Loc m [] w0 m2 [(g, .cells (toArr (ints .u8 [66, 76, 84, 49])) 5 (0, 0))] w := hL
        conv => whnf
        repeat ((first | refine BrReq.tt ?_ | refine BrReq.ff ?_ | refine LdReq.own1 hX rfl rfl 0 hL rfl rfl ?_ | refine LdReq.own1 hX rfl rfl 1 hL rfl rfl ?_ | refine LdReq.own1 hX rfl rfl 2 hL rfl rfl ?_ | refine LdReq.own1 hX rfl rfl 3 hL rfl rfl ?_ | refine LdReq.own1 hX rfl rfl 4 hL rfl rfl ?_ | refine LdReq.own1 hX rfl rfl 5 hL rfl rfl ?_ | refine LdReq.own1 hX rfl rfl 6 hL rfl rfl ?_ | refine LdReq.ownA hX rfl rfl 0 hL rfl rfl ?_ | refine LdReq.ownA hX rfl rfl 1 hL rfl rfl ?_ | refine LdReq.ownA hX rfl rfl 2 hL rfl rfl ?_ | refine LdReq.ownA hX rfl rfl 3 hL rfl rfl ?_ | refine LdReq.ownA hX rfl rfl 4 hL rfl rfl ?_ | refine LdReq.ownA hX rfl rfl 5 hL rfl rfl ?_ | refine LdReq.ownA hX rfl rfl 6 hL rfl rfl ?_ | (refine StReq.own hX rfl 0 hL rfl rfl rfl rfl ?_; clear hL; intro w hL) | (refine StReq.own hX rfl 1 hL rfl rfl rfl rfl ?_; clear hL; intro w hL) | (refine StReq.own hX rfl 2 hL rfl rfl rfl rfl ?_; clear hL; intro w hL) | (refine StReq.own hX rfl 3 hL rfl rfl rfl rfl ?_; clear hL; intro w hL) | (refine StReq.own hX rfl 4 hL rfl rfl rfl rfl ?_; clear hL; intro w hL) | (refine StReq.own hX rfl 5 hL rfl rfl rfl rfl ?_; clear hL; intro w hL) | (refine StReq.own hX rfl 6 hL rfl rfl rfl rfl ?_; clear hL; intro w hL) | refine ArReq.i64 (by omega) (by omega) ?_ | refine SeqReq.go hX ?_ | refine OptReq.mk rfl ?_); conv => whnf)
        refine RunReq.bytesConst hX rfl rfl rfl rfl 0 hL rfl ?_
        clear hL
        intro w hL
        replace hL : Ev.Loc m [] w0 m2 [(g, .cells (toArr (ints .u8 [66, 76, 84, 49])) 5 (4, 5))] w := hL
        conv => whnf
        repeat ((first | refine BrReq.tt ?_ | refine BrReq.ff ?_ | refine LdReq.own1 hX rfl rfl 0 hL rfl rfl ?_ | refine LdReq.own1 hX rfl rfl 1 hL rfl rfl ?_ | refine LdReq.own1 hX rfl rfl 2 hL rfl rfl ?_ | refine LdReq.own1 hX rfl rfl 3 hL rfl rfl ?_ | refine LdReq.own1 hX rfl rfl 4 hL rfl rfl ?_ | refine LdReq.own1 hX rfl rfl 5 hL rfl rfl ?_ | refine LdReq.own1 hX rfl rfl 6 hL rfl rfl ?_ | refine LdReq.ownA hX rfl rfl 0 hL rfl rfl ?_ | refine LdReq.ownA hX rfl rfl 1 hL rfl rfl ?_ | refine LdReq.ownA hX rfl rfl 2 hL rfl rfl ?_ | refine LdReq.ownA hX rfl rfl 3 hL rfl rfl ?_ | refine LdReq.ownA hX rfl rfl 4 hL rfl rfl ?_ | refine LdReq.ownA hX rfl rfl 5 hL rfl rfl ?_ | refine LdReq.ownA hX rfl rfl 6 hL rfl rfl ?_ | (refine StReq.own hX rfl 0 hL rfl rfl rfl rfl ?_; clear hL; intro w hL) | (refine StReq.own hX rfl 1 hL rfl rfl rfl rfl ?_; clear hL; intro w hL) | (refine StReq.own hX rfl 2 hL rfl rfl rfl rfl ?_; clear hL; intro w hL) | (refine StReq.own hX rfl 3 hL rfl rfl rfl rfl ?_; clear hL; intro w hL) | (refine StReq.own hX rfl 4 hL rfl rfl rfl rfl ?_; clear hL; intro w hL) | (refine StReq.own hX rfl 5 hL rfl rfl rfl rfl ?_; clear hL; intro w hL) | (refine StReq.own hX rfl 6 hL rfl rfl rfl rfl ?_; clear hL; intro w hL) | refine ArReq.i64 (by omega) (by omega) ?_ | refine SeqReq.go hX ?_ | refine OptReq.mk rfl ?_); conv => whnf)
        refine callO (wide_fn m2 _ 4 (by omega)) hL ?_
        clear hL
        intro Aw nw kw Lw w hnw how hL
        rw [show (ints .u8 (wideR 4 _)).length = 4 from by simp [ints, wideR_len]] at hnw
        conv => whnf
        repeat ((first | refine BrReq.tt ?_ | refine BrReq.ff ?_ | refine LdReq.own1 hX rfl rfl 0 hL rfl rfl ?_ | refine LdReq.own1 hX rfl rfl 1 hL rfl rfl ?_ | refine LdReq.own1 hX rfl rfl 2 hL rfl rfl ?_ | refine LdReq.own1 hX rfl rfl 3 hL rfl rfl ?_ | refine LdReq.own1 hX rfl rfl 4 hL rfl rfl ?_ | refine LdReq.own1 hX rfl rfl 5 hL rfl rfl ?_ | refine LdReq.own1 hX rfl rfl 6 hL rfl rfl ?_ | refine LdReq.ownA hX rfl rfl 0 hL rfl rfl ?_ | refine LdReq.ownA hX rfl rfl 1 hL rfl rfl ?_ | refine LdReq.ownA hX rfl rfl 2 hL rfl rfl ?_ | refine LdReq.ownA hX rfl rfl 3 hL rfl rfl ?_ | refine LdReq.ownA hX rfl rfl 4 hL rfl rfl ?_ | refine LdReq.ownA hX rfl rfl 5 hL rfl rfl ?_ | refine LdReq.ownA hX rfl rfl 6 hL rfl rfl ?_ | (refine StReq.own hX rfl 0 hL rfl rfl rfl rfl ?_; clear hL; intro w hL) | (refine StReq.own hX rfl 1 hL rfl rfl rfl rfl ?_; clear hL; intro w hL) | (refine StReq.own hX rfl 2 hL rfl rfl rfl rfl ?_; clear hL; intro w hL) | (refine StReq.own hX rfl 3 hL rfl rfl rfl rfl ?_; clear hL; intro w hL) | (refine StReq.own hX rfl 4 hL rfl rfl rfl rfl ?_; clear hL; intro w hL) | (refine StReq.own hX rfl 5 hL rfl rfl rfl rfl ?_; clear hL; intro w hL) | (refine StReq.own hX rfl 6 hL rfl rfl rfl rfl ?_; clear hL; intro w hL) | refine ArReq.i64 (by omega) (by omega) ?_ | refine SeqReq.go hX ?_ | refine OptReq.mk rfl ?_); conv => whnf)
        refine RunReq.appendNew hX (t := 22) (te := 5) rfl rfl rfl rfl rfl rfl hL (olds := ints .u8 [66, 76, 84, 49]) rfl (fun j u hu => by
            obtain ⟨a, e, h⟩ := hL.dropN.src 0 rfl j u hu
            cases e; exact h) (by simp [ints, wideR_len]; omega) (how.src hL) (by omega) (by omega) (by omega) ?_
        clear hL
        intro A4 n4 k4 L1 w hn4 ho1 hL
        replace hL := (Loc.back hL).dropN
        rw [← ints_append] at ho1
        conv => whnf
        repeat ((first | refine BrReq.tt ?_ | refine BrReq.ff ?_ | refine LdReq.own1 hX rfl rfl 0 hL rfl rfl ?_ | refine LdReq.own1 hX rfl rfl 1 hL rfl rfl ?_ | refine LdReq.own1 hX rfl rfl 2 hL rfl rfl ?_ | refine LdReq.own1 hX rfl rfl 3 hL rfl rfl ?_ | refine LdReq.own1 hX rfl rfl 4 hL rfl rfl ?_ | refine LdReq.own1 hX rfl rfl 5 hL rfl rfl ?_ | refine LdReq.own1 hX rfl rfl 6 hL rfl rfl ?_ | refine LdReq.ownA hX rfl rfl 0 hL rfl rfl ?_ | refine LdReq.ownA hX rfl rfl 1 hL rfl rfl ?_ | refine LdReq.ownA hX rfl rfl 2 hL rfl rfl ?_ | refine LdReq.ownA hX rfl rfl 3 hL rfl rfl ?_ | refine LdReq.ownA hX rfl rfl 4 hL rfl rfl ?_ | refine LdReq.ownA hX rfl rfl 5 hL rfl rfl ?_ | refine LdReq.ownA hX rfl rfl 6 hL rfl rfl ?_ | (refine StReq.own hX rfl 0 hL rfl rfl rfl rfl ?_; clear hL; intro w hL) | (refine StReq.own hX rfl 1 hL rfl rfl rfl rfl ?_; clear hL; intro w hL) | (refine StReq.own hX rfl 2 hL rfl rfl rfl rfl ?_; clear hL; intro w hL) | (refine StReq.own hX rfl 3 hL rfl rfl rfl rfl ?_; clear hL; intro w hL) | (refine StReq.own hX rfl 4 hL rfl rfl rfl rfl ?_; clear hL; intro w hL) | (refine StReq.own hX rfl 5 hL rfl rfl rfl rfl ?_; clear hL; intro w hL) | (refine StReq.own hX rfl 6 hL rfl rfl rfl rfl ?_; clear hL; intro w hL) | refine ArReq.i64 (by omega) (by omega) ?_ | refine SeqReq.go hX ?_ | refine OptReq.mk rfl ?_); conv => whnf)
        refine CallReq.val (CRC_fn m2 _ _ hsb hbb) hL ?_
        clear hL
        intro w hL
        conv => whnf
        repeat ((first | refine BrReq.tt ?_ | refine BrReq.ff ?_ | refine LdReq.own1 hX rfl rfl 0 hL rfl rfl ?_ | refine LdReq.own1 hX rfl rfl 1 hL rfl rfl ?_ | refine LdReq.own1 hX rfl rfl 2 hL rfl rfl ?_ | refine LdReq.own1 hX rfl rfl 3 hL rfl rfl ?_ | refine LdReq.own1 hX rfl rfl 4 hL rfl rfl ?_ | refine LdReq.own1 hX rfl rfl 5 hL rfl rfl ?_ | refine LdReq.own1 hX rfl rfl 6 hL rfl rfl ?_ | refine LdReq.ownA hX rfl rfl 0 hL rfl rfl ?_ | refine LdReq.ownA hX rfl rfl 1 hL rfl rfl ?_ | refine LdReq.ownA hX rfl rfl 2 hL rfl rfl ?_ | refine LdReq.ownA hX rfl rfl 3 hL rfl rfl ?_ | refine LdReq.ownA hX rfl rfl 4 hL rfl rfl ?_ | refine LdReq.ownA hX rfl rfl 5 hL rfl rfl ?_ | refine LdReq.ownA hX rfl rfl 6 hL rfl rfl ?_ | (refine StReq.own hX rfl 0 hL rfl rfl rfl rfl ?_; clear hL; intro w hL) | (refine StReq.own hX rfl 1 hL rfl rfl rfl rfl ?_; clear hL; intro w hL) | (refine StReq.own hX rfl 2 hL rfl rfl rfl rfl ?_; clear hL; intro w hL) | (refine StReq.own hX rfl 3 hL rfl rfl rfl rfl ?_; clear hL; intro w hL) | (refine StReq.own hX rfl 4 hL rfl rfl rfl rfl ?_; clear hL; intro w hL) | (refine StReq.own hX rfl 5 hL rfl rfl rfl rfl ?_; clear hL; intro w hL) | (refine StReq.own hX rfl 6 hL rfl rfl rfl rfl ?_; clear hL; intro w hL) | refine ArReq.i64 (by omega) (by omega) ?_ | refine SeqReq.go hX ?_ | refine OptReq.mk rfl ?_); conv => whnf)
        refine callO (wide_fn m2 _ 4 (by omega)) hL ?_
        clear hL
        intro Ax nx kx Lx w hnx hox hL
        rw [← List.append_nil L1] at hL
        conv => whnf
        repeat ((first | refine BrReq.tt ?_ | refine BrReq.ff ?_ | refine LdReq.own1 hX rfl rfl 0 hL rfl rfl ?_ | refine LdReq.own1 hX rfl rfl 1 hL rfl rfl ?_ | refine LdReq.own1 hX rfl rfl 2 hL rfl rfl ?_ | refine LdReq.own1 hX rfl rfl 3 hL rfl rfl ?_ | refine LdReq.own1 hX rfl rfl 4 hL rfl rfl ?_ | refine LdReq.own1 hX rfl rfl 5 hL rfl rfl ?_ | refine LdReq.own1 hX rfl rfl 6 hL rfl rfl ?_ | refine LdReq.ownA hX rfl rfl 0 hL rfl rfl ?_ | refine LdReq.ownA hX rfl rfl 1 hL rfl rfl ?_ | refine LdReq.ownA hX rfl rfl 2 hL rfl rfl ?_ | refine LdReq.ownA hX rfl rfl 3 hL rfl rfl ?_ | refine LdReq.ownA hX rfl rfl 4 hL rfl rfl ?_ | refine LdReq.ownA hX rfl rfl 5 hL rfl rfl ?_ | refine LdReq.ownA hX rfl rfl 6 hL rfl rfl ?_ | (refine StReq.own hX rfl 0 hL rfl rfl rfl rfl ?_; clear hL; intro w hL) | (refine StReq.own hX rfl 1 hL rfl rfl rfl rfl ?_; clear hL; intro w hL) | (refine StReq.own hX rfl 2 hL rfl rfl rfl rfl ?_; clear hL; intro w hL) | (refine StReq.own hX rfl 3 hL rfl rfl rfl rfl ?_; clear hL; intro w hL) | (refine StReq.own hX rfl 4 hL rfl rfl rfl rfl ?_; clear hL; intro w hL) | (refine StReq.own hX rfl 5 hL rfl rfl rfl rfl ?_; clear hL; intro w hL) | (refine StReq.own hX rfl 6 hL rfl rfl rfl rfl ?_; clear hL; intro w hL) | refine ArReq.i64 (by omega) (by omega) ?_ | refine SeqReq.go hX ?_ | refine OptReq.mk rfl ?_); conv => whnf)
        refine RunReq.cat hX 22 5 rfl rfl rfl rfl rfl ho1 hox hL (byte_cells _) (by simp [ints, wideR_len]) rfl ?_
        clear hL ho1 hox
        intro A5 n5 k5 L1 w hn5 ho1 hL
        rw [← ints_append] at ho1
        conv => whnf
        repeat ((first | refine BrReq.tt ?_ | refine BrReq.ff ?_ | refine LdReq.own1 hX rfl rfl 0 hL rfl rfl ?_ | refine LdReq.own1 hX rfl rfl 1 hL rfl rfl ?_ | refine LdReq.own1 hX rfl rfl 2 hL rfl rfl ?_ | refine LdReq.own1 hX rfl rfl 3 hL rfl rfl ?_ | refine LdReq.own1 hX rfl rfl 4 hL rfl rfl ?_ | refine LdReq.own1 hX rfl rfl 5 hL rfl rfl ?_ | refine LdReq.own1 hX rfl rfl 6 hL rfl rfl ?_ | refine LdReq.ownA hX rfl rfl 0 hL rfl rfl ?_ | refine LdReq.ownA hX rfl rfl 1 hL rfl rfl ?_ | refine LdReq.ownA hX rfl rfl 2 hL rfl rfl ?_ | refine LdReq.ownA hX rfl rfl 3 hL rfl rfl ?_ | refine LdReq.ownA hX rfl rfl 4 hL rfl rfl ?_ | refine LdReq.ownA hX rfl rfl 5 hL rfl rfl ?_ | refine LdReq.ownA hX rfl rfl 6 hL rfl rfl ?_ | (refine StReq.own hX rfl 0 hL rfl rfl rfl rfl ?_; clear hL; intro w hL) | (refine StReq.own hX rfl 1 hL rfl rfl rfl rfl ?_; clear hL; intro w hL) | (refine StReq.own hX rfl 2 hL rfl rfl rfl rfl ?_; clear hL; intro w hL) | (refine StReq.own hX rfl 3 hL rfl rfl rfl rfl ?_; clear hL; intro w hL) | (refine StReq.own hX rfl 4 hL rfl rfl rfl rfl ?_; clear hL; intro w hL) | (refine StReq.own hX rfl 5 hL rfl rfl rfl rfl ?_; clear hL; intro w hL) | (refine StReq.own hX rfl 6 hL rfl rfl rfl rfl ?_; clear hL; intro w hL) | refine ArReq.i64 (by omega) (by omega) ?_ | refine SeqReq.go hX ?_ | refine OptReq.mk rfl ?_); conv => whnf)
        refine RunReq.append hX 22 5 rfl rfl rfl rfl rfl ho1 hL (k := n3) (news := ints .u8 (bodyR M)) (by simp [ints]; omega) (hsb.src hL).2 (byte_cells _) (by simp [ints, wideR_len]; omega) rfl ?_
        clear hL ho1
        intro A6 n6 k6 L1 w hn6 ho1 hL
        rw [← ints_append, hn3'] at ho1
        rw [List.append_nil] at hL
        conv => whnf
        repeat ((first | refine BrReq.tt ?_ | refine BrReq.ff ?_ | refine LdReq.own1 hX rfl rfl 0 hL rfl rfl ?_ | refine LdReq.own1 hX rfl rfl 1 hL rfl rfl ?_ | refine LdReq.own1 hX rfl rfl 2 hL rfl rfl ?_ | refine LdReq.own1 hX rfl rfl 3 hL rfl rfl ?_ | refine LdReq.own1 hX rfl rfl 4 hL rfl rfl ?_ | refine LdReq.own1 hX rfl rfl 5 hL rfl rfl ?_ | refine LdReq.own1 hX rfl rfl 6 hL rfl rfl ?_ | refine LdReq.ownA hX rfl rfl 0 hL rfl rfl ?_ | refine LdReq.ownA hX rfl rfl 1 hL rfl rfl ?_ | refine LdReq.ownA hX rfl rfl 2 hL rfl rfl ?_ | refine LdReq.ownA hX rfl rfl 3 hL rfl rfl ?_ | refine LdReq.ownA hX rfl rfl 4 hL rfl rfl ?_ | refine LdReq.ownA hX rfl rfl 5 hL rfl rfl ?_ | refine LdReq.ownA hX rfl rfl 6 hL rfl rfl ?_ | (refine StReq.own hX rfl 0 hL rfl rfl rfl rfl ?_; clear hL; intro w hL) | (refine StReq.own hX rfl 1 hL rfl rfl rfl rfl ?_; clear hL; intro w hL) | (refine StReq.own hX rfl 2 hL rfl rfl rfl rfl ?_; clear hL; intro w hL) | (refine StReq.own hX rfl 3 hL rfl rfl rfl rfl ?_; clear hL; intro w hL) | (refine StReq.own hX rfl 4 hL rfl rfl rfl rfl ?_; clear hL; intro w hL) | (refine StReq.own hX rfl 5 hL rfl rfl rfl rfl ?_; clear hL; intro w hL) | (refine StReq.own hX rfl 6 hL rfl rfl rfl rfl ?_; clear hL; intro w hL) | refine ArReq.i64 (by omega) (by omega) ?_ | refine SeqReq.go hX ?_ | refine OptReq.mk rfl ?_); conv => whnf)
        exact RetReq.mk (hL.weaken (hle.trans hm2') (Mem.Le.refl m)) ⟨rfl, .inl ⟨hok, _, rfl, ho1⟩⟩
  · conv => whnf
    repeat ((first | refine BrReq.tt ?_ | refine BrReq.ff ?_ | refine LdReq.own1 hX rfl rfl 0 hL rfl rfl ?_ | refine LdReq.own1 hX rfl rfl 1 hL rfl rfl ?_ | refine LdReq.own1 hX rfl rfl 2 hL rfl rfl ?_ | refine LdReq.own1 hX rfl rfl 3 hL rfl rfl ?_ | refine LdReq.own1 hX rfl rfl 4 hL rfl rfl ?_ | refine LdReq.own1 hX rfl rfl 5 hL rfl rfl ?_ | refine LdReq.own1 hX rfl rfl 6 hL rfl rfl ?_ | refine LdReq.ownA hX rfl rfl 0 hL rfl rfl ?_ | refine LdReq.ownA hX rfl rfl 1 hL rfl rfl ?_ | refine LdReq.ownA hX rfl rfl 2 hL rfl rfl ?_ | refine LdReq.ownA hX rfl rfl 3 hL rfl rfl ?_ | refine LdReq.ownA hX rfl rfl 4 hL rfl rfl ?_ | refine LdReq.ownA hX rfl rfl 5 hL rfl rfl ?_ | refine LdReq.ownA hX rfl rfl 6 hL rfl rfl ?_ | (refine StReq.own hX rfl 0 hL rfl rfl rfl rfl ?_; clear hL; intro w hL) | (refine StReq.own hX rfl 1 hL rfl rfl rfl rfl ?_; clear hL; intro w hL) | (refine StReq.own hX rfl 2 hL rfl rfl rfl rfl ?_; clear hL; intro w hL) | (refine StReq.own hX rfl 3 hL rfl rfl rfl rfl ?_; clear hL; intro w hL) | (refine StReq.own hX rfl 4 hL rfl rfl rfl rfl ?_; clear hL; intro w hL) | (refine StReq.own hX rfl 5 hL rfl rfl rfl rfl ?_; clear hL; intro w hL) | (refine StReq.own hX rfl 6 hL rfl rfl rfl rfl ?_; clear hL; intro w hL) | refine ArReq.i64 (by omega) (by omega) ?_ | refine SeqReq.go hX ?_ | refine OptReq.mk rfl ?_); conv => whnf)
    exact bad (by unfold okM; rw [h1]; rfl)
end Go.Proofs.Ytcofkjameibeoaa.mach
