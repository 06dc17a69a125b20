/- Of bytes of which one is another one, or that are cut off, or go on, nothing is unpacked. Conditions: none. -/
import Derived.Test.YtcofkjameibeoaaTabLaw
import Derived.Test.YtcofkjameibeoaaRows
import Derived.ProofKit
import Derived.SizedLaws

namespace Go.Proofs.Ytcofkjameibeoaa.tableTurned
open Go Go.Ev Go.Proofs Go.Proofs.Ytcofkjameibeoaa.crc Go.Proofs.Ytcofkjameibeoaa.mach

theorem xor_u8 {a b : Int} (ha : 0 ≤ a ∧ a ≤ 255) (hb : 0 ≤ b ∧ b ≤ 255) : ∃ z : Int, bitsOf .xor .u8 a b = z ∧ (0 ≤ z ∧ z ≤ 255) ∧ (b ≠ 0 → z ≠ a) := by
  obtain ⟨x, rfl⟩ : ∃ x : Nat, a = (x : Int) := ⟨a.toNat, by omega⟩
  obtain ⟨y, rfl⟩ : ∃ y : Nat, b = (y : Int) := ⟨b.toNat, by omega⟩
  have hx : x ^^^ y < 2 ^ 8 := Nat.xor_lt_two_pow (by omega) (by omega)
  refine ⟨((x ^^^ y : Nat) : Int), ?_, by omega, fun h e => h ?_⟩
  · have h : (BitVec.ofInt 8 (x : Int) ^^^ BitVec.ofInt 8 (y : Int)).toNat = x ^^^ y := by
      rw [ofInt_nat, ofInt_nat, BitVec.toNat_xor, BitVec.toNat_ofNat, BitVec.toNat_ofNat, Nat.mod_eq_of_lt (by omega), Nat.mod_eq_of_lt (by omega)]
    show IntKind.wrap .u8 ((BitVec.ofInt 8 (x : Int) ^^^ BitVec.ofInt 8 (y : Int)).toNat : Int) = _
    rw [h]
    exact wrap_nat (by decide) (by show _ ≤ (255 : Int); omega)
  · have e : x ^^^ y = x := by omega
    have := congrArg (x ^^^ ·) e
    simp [← Nat.xor_assoc] at this
    omega

theorem unp_err {m' : Mem} {l : List Int} {a : Value} {e : Int} (h : UnpR m' l (.tuple (toArr [a, .int .i64 e]))) : (∃ M, e = 0 ∧ packR M = l) ∨ e = 2 ∨ (e = 14 ∧ 12 ≤ l.length ∧ numR ((l.drop 4).take 4) = l.length) := by
  obtain ⟨c, M, e', h1, h2, h3⟩ := h
  have h4 : [a, Value.int .i64 e] = [.agg (toArr c), .int .i64 e'] := by
    injection h1 with h1
    have := congrArg Array.toList h1
    simpa [toArr] using this
  injection h4 with h5 h6
  injection h6 with h6 h7
  injection h6 with h8 h9
  subst h9
  rcases h3 with ⟨h, _, k⟩ | ⟨h, _⟩ | ⟨h, _, k, k2, _⟩
  · exact .inl ⟨M, h, k⟩
  · exact .inr (.inl h)
  · exact .inr (.inr ⟨h, k, k2⟩)
theorem told1 {B : List Int} {m1 : Mem} {a : Value} {e : Int} {i : Nat} {z : Int} (hB : Byt B) (hBl : B.length ≤ 100000000) (hz : 0 ≤ z ∧ z ≤ 255) (hi : (sealR B)[i]? ≠ some z) (hil : i < (sealR B).length)
    (h1 : UnpR m1 ((sealR B).set i z) (.tuple (toArr [a, .int .i64 e]))) : e ≠ 0 := by
  rcases unp_err h1 with ⟨M, _, h⟩ | h | ⟨h, _⟩
  · exfalso
    have := seal_turned (c := bodyR M) hB hz (by omega) h
    apply hi
    rw [← this, List.getElem?_set_self (by exact hil)]
  · omega
  · omega
theorem told2 {B x : List Int} {m1 : Mem} {a : Value} {e : Int} (hBl : B.length ≤ 100000000) (hxl : x.length ≤ 1000000001) (hx : x.length ≠ (sealR B).length) (h8 : 12 ≤ x.length → (x.drop 4).take 4 = ((sealR B).drop 4).take 4)
    (h1 : UnpR m1 x (.tuple (toArr [a, .int .i64 e]))) : e = 2 := by
  rcases unp_err h1 with ⟨M, _, h⟩ | h | ⟨_, h5, h6⟩
  · exact absurd h (seal_cut (b := B) (c := bodyR M) (x := x) (by omega) hxl hx h8).1
  · exact h
  · exact absurd ⟨h5, h6⟩ (seal_cut (b := B) (c := []) (x := x) (by omega) hxl hx h8).2

theorem list_bytes : ∀ (n : Nat) (cs : List Value), (∀ i, i < n → ∃ z : Int, (cs.drop i).take 1 = [.int .u8 z] ∧ 0 ≤ z ∧ z ≤ 255) → cs.length = n → ∃ l : List Int, cs = ints .u8 l ∧ l.length = n ∧ ∀ z ∈ l, 0 ≤ z ∧ z ≤ 255
  | 0, cs, _, h => ⟨[], List.eq_nil_of_length_eq_zero h, rfl, by simp⟩
  | n + 1, [], _, h => by simp at h
  | n + 1, c :: cs, hi, h => by
    obtain ⟨z, h1, h2⟩ := hi 0 (by omega)
    have h1 : [c] = [Value.int .u8 z] := h1
    injection h1 with h1
    subst h1
    obtain ⟨l, rfl, h3, h4⟩ := list_bytes n cs (fun i hn => by simpa using hi (i + 1) (by omega)) (by simpa using h)
    exact ⟨z :: l, rfl, by simp [h3], fun y hy => (List.mem_cons.1 hy).elim (fun e => by subst e; exact h2) (h4 y)⟩
theorem two_parts {α : Type} {cs : List α} {x y : α} (h : cs.length = 2) (h0 : cs.take 1 = [x]) (h1 : (cs.drop 1).take 1 = [y]) : cs = [x, y] := by
  match cs, h with
  | [a, b], _ => simp at h0 h1; rw [h0, h1]

set_option maxRecDepth 100000 in
theorem rdf_st {m : Mem} {n : Nat} {cs : List Value} (h : Rdf X m n 55 cs) : ∃ s, stV m cs s := by
  obtain ⟨hl, n1, _, hf⟩ := rdf_structL rfl rfl h
  obtain ⟨A1, k1, c1, l1, e1, hs1, _⟩ := rdf_sliceL (α := Int) (R := isI .i64) rfl rfl rfl (fun n' cs _ _ hr => by obtain ⟨z, e, _⟩ := rdf_int (k := .i64) rfl rfl hr; exact ⟨z, e⟩) (hf 0 _ _ rfl rfl)
  obtain ⟨A2, k2, c2, l2, e2, hs2, _⟩ := rdf_sliceL (α := Int) (R := isI .i64) rfl rfl rfl (fun n' cs _ _ hr => by obtain ⟨z, e, _⟩ := rdf_int (k := .i64) rfl rfl hr; exact ⟨z, e⟩) (hf 1 _ _ rfl rfl)
  exact ⟨⟨l1, l2⟩, _, _, two_parts hl e1 e2, hs1, hs2⟩

set_option maxRecDepth 100000 in
theorem given_mc {m : Mem} {v : Value} (h : Given X m 30 v) : ∃ cs M, v = .agg (toArr cs) ∧ McV m cs M := by
  obtain ⟨cs, n, rfl, hr⟩ := h.agg rfl rfl
  clear h
  obtain ⟨hl, n1, _, hf⟩ := rdf_structL rfl rfl hr
  obtain ⟨hl2, n2, _, hf2⟩ := rdf_structL rfl rfl (hf 0 _ _ rfl rfl)
  obtain ⟨hl3, n3, _, hf3⟩ := rdf_arrayL rfl rfl rfl (hf2 0 _ _ rfl rfl)
  obtain ⟨N, eN, _⟩ := rdf_int (k := .i64) rfl rfl (hf2 1 _ _ rfl rfl)
  obtain ⟨lk, eL, _⟩ := rdf_int (k := .i64) rfl rfl (hf 1 _ _ rfl rfl)
  obtain ⟨A1, k1, c1, l1, e1, hs1, _⟩ := rdf_sliceL (α := St) (R := stV m) rfl rfl rfl (fun n' cs _ _ hr => rdf_st hr) (hf 2 _ _ rfl rfl)
  obtain ⟨A2, k2, c2, l2, e2, hs2, _⟩ := rdf_sliceL (α := Int) (R := isI .i64) rfl rfl rfl (fun n' cs _ _ hr => by obtain ⟨z, e, _⟩ := rdf_int (k := .i64) rfl rfl hr; exact ⟨z, e⟩) (hf 3 _ _ rfl rfl)
  replace hl : cs.length = 260 := hl
  replace eN : (((cs.drop 0).take 257).drop 256).take 1 = [Value.int .i64 N] := eN
  replace eL : (cs.drop 257).take 1 = [Value.int .i64 lk] := eL
  replace e1 : (cs.drop 258).take 1 = [Value.slice A1 k1 c1] := e1
  replace e2 : (cs.drop 259).take 1 = [Value.slice A2 k2 c2] := e2
  obtain ⟨of, hof, hofl, hofb⟩ := list_bytes 256 (cs.take 256) (fun i hi => by
    obtain ⟨z, e, hz⟩ := rdf_int (k := .u8) rfl rfl (hf3 i hi)
    replace e : (((((cs.drop 0).take 257).drop 0).take 256).drop (i * 1)).take 1 = [Value.int .u8 z] := e
    rw [List.drop_zero, List.drop_zero, List.take_take, Nat.min_eq_left (by omega), Nat.mul_one] at e
    exact ⟨z, e, hz⟩) (by rw [List.length_take]; omega)
  rw [List.drop_zero, List.drop_take] at eN
  have hD : ∀ D : List Value, D.length = 4 → D.take 1 = [Value.int .i64 N] → (D.drop 1).take 1 = [Value.int .i64 lk] → (D.drop 2).take 1 = [Value.slice A1 k1 c1] → (D.drop 3).take 1 = [Value.slice A2 k2 c2] → D = [.int .i64 N, .int .i64 lk, .slice A1 k1 c1, .slice A2 k2 c2] := by
    intro D h h0 h1 h2 h3
    match D, h with
    | [a, b, c, d], _ => simp at h0 h1 h2 h3; rw [h0, h1, h2, h3]
  have hd := hD (cs.drop 256) (by rw [List.length_drop]; omega) (by rw [List.take_take] at eN; exact eN) (by rw [List.drop_drop]; exact eL) (by rw [List.drop_drop]; exact e1) (by rw [List.drop_drop]; exact e2)
  refine ⟨cs, ⟨of, N, lk, l1, l2⟩, rfl, ⟨⟨_, _, ?_, hs1, hs2⟩, hofl, hofb⟩⟩
  rw [← hof, ← hd, List.take_append_drop]

set_option maxHeartbeats 8000000 in
set_option maxRecDepth 100000 in
theorem walk (m : Mem) (cs : List Value) (M : Mc) (hM : McV m cs M) (at_ by_ cut : Int) (hat : 0 ≤ at_ ∧ at_ ≤ 65535) (hby : 0 ≤ by_ ∧ by_ ≤ 255) (hcut : 0 ≤ cut ∧ cut ≤ 65535) :
    Fn0 Try.prog 5 [.agg (toArr cs), .int .u16 at_, .int .u8 by_, .int .u16 cut] m fun _ u => u = .bool true := by
  have hmx : maxLen = 9223372036854775807 := rfl
  obtain ⟨at_, rfl⟩ : ∃ q : Nat, at_ = (q : Int) := ⟨at_.toNat, by omega⟩
  obtain ⟨cut, rfl⟩ : ∃ q : Nat, cut = (q : Int) := ⟨cut.toNat, by omega⟩
  refine Fn.enter (N := 96) hX Try.func5 rfl rfl (by show _ ≤ _; simp) (fun w0 hL => ?_)
  conv => whnf
  refine NewReq.mk hL ?_
  clear hL
  intro b4 w hL
  replace hL : Ev.Loc m [] w0 m [(b4, .cells (toArr cs) 30 (0, 0))] w := hL
  conv => whnf
  repeat ((first | refine BrReq.tt ?_ | refine BrReq.ff ?_ | refine LdReq.own1 hX rfl rfl 0 hL rfl rfl ?_ | refine LdReq.own1 hX rfl rfl 1 hL rfl rfl ?_ | refine LdReq.own1 hX rfl rfl 2 hL rfl rfl ?_ | refine LdReq.own1 hX rfl rfl 3 hL rfl rfl ?_ | refine LdReq.own1 hX rfl rfl 4 hL rfl rfl ?_ | refine LdReq.own1 hX rfl rfl 5 hL rfl rfl ?_ | refine LdReq.own1 hX rfl rfl 6 hL rfl rfl ?_ | refine LdReq.ownA hX rfl rfl 0 hL rfl rfl ?_ | refine LdReq.ownA hX rfl rfl 1 hL rfl rfl ?_ | refine LdReq.ownA hX rfl rfl 2 hL rfl rfl ?_ | refine LdReq.ownA hX rfl rfl 3 hL rfl rfl ?_ | refine LdReq.ownA hX rfl rfl 4 hL rfl rfl ?_ | refine LdReq.ownA hX rfl rfl 5 hL rfl rfl ?_ | refine LdReq.ownA hX rfl rfl 6 hL rfl rfl ?_ | (refine StReq.own hX rfl 0 hL rfl rfl rfl rfl ?_; clear hL; intro w hL) | (refine StReq.own hX rfl 1 hL rfl rfl rfl rfl ?_; clear hL; intro w hL) | (refine StReq.own hX rfl 2 hL rfl rfl rfl rfl ?_; clear hL; intro w hL) | (refine StReq.own hX rfl 3 hL rfl rfl rfl rfl ?_; clear hL; intro w hL) | (refine StReq.own hX rfl 4 hL rfl rfl rfl rfl ?_; clear hL; intro w hL) | (refine StReq.own hX rfl 5 hL rfl rfl rfl rfl ?_; clear hL; intro w hL) | (refine StReq.own hX rfl 6 hL rfl rfl rfl rfl ?_; clear hL; intro w hL) | refine ArReq.i64 (by omega) (by omega) ?_ | refine SeqReq.go hX ?_ | refine OptReq.mk rfl ?_); conv => whnf)
  refine CallReq.val (awake_fn m) hL ?_
  clear hL
  intro w hL
  conv => whnf
  repeat ((first | refine BrReq.tt ?_ | refine BrReq.ff ?_ | refine LdReq.own1 hX rfl rfl 0 hL rfl rfl ?_ | refine LdReq.own1 hX rfl rfl 1 hL rfl rfl ?_ | refine LdReq.own1 hX rfl rfl 2 hL rfl rfl ?_ | refine LdReq.own1 hX rfl rfl 3 hL rfl rfl ?_ | refine LdReq.own1 hX rfl rfl 4 hL rfl rfl ?_ | refine LdReq.own1 hX rfl rfl 5 hL rfl rfl ?_ | refine LdReq.own1 hX rfl rfl 6 hL rfl rfl ?_ | refine LdReq.ownA hX rfl rfl 0 hL rfl rfl ?_ | refine LdReq.ownA hX rfl rfl 1 hL rfl rfl ?_ | refine LdReq.ownA hX rfl rfl 2 hL rfl rfl ?_ | refine LdReq.ownA hX rfl rfl 3 hL rfl rfl ?_ | refine LdReq.ownA hX rfl rfl 4 hL rfl rfl ?_ | refine LdReq.ownA hX rfl rfl 5 hL rfl rfl ?_ | refine LdReq.ownA hX rfl rfl 6 hL rfl rfl ?_ | (refine StReq.own hX rfl 0 hL rfl rfl rfl rfl ?_; clear hL; intro w hL) | (refine StReq.own hX rfl 1 hL rfl rfl rfl rfl ?_; clear hL; intro w hL) | (refine StReq.own hX rfl 2 hL rfl rfl rfl rfl ?_; clear hL; intro w hL) | (refine StReq.own hX rfl 3 hL rfl rfl rfl rfl ?_; clear hL; intro w hL) | (refine StReq.own hX rfl 4 hL rfl rfl rfl rfl ?_; clear hL; intro w hL) | (refine StReq.own hX rfl 5 hL rfl rfl rfl rfl ?_; clear hL; intro w hL) | (refine StReq.own hX rfl 6 hL rfl rfl rfl rfl ?_; clear hL; intro w hL) | refine ArReq.i64 (by omega) (by omega) ?_ | refine SeqReq.go hX ?_ | refine OptReq.mk rfl ?_); conv => whnf)
  refine LdReq.whole hX rfl rfl 0 hL rfl hM.size ?_
  conv => whnf
  repeat ((first | refine BrReq.tt ?_ | refine BrReq.ff ?_ | refine LdReq.own1 hX rfl rfl 0 hL rfl rfl ?_ | refine LdReq.own1 hX rfl rfl 1 hL rfl rfl ?_ | refine LdReq.own1 hX rfl rfl 2 hL rfl rfl ?_ | refine LdReq.own1 hX rfl rfl 3 hL rfl rfl ?_ | refine LdReq.own1 hX rfl rfl 4 hL rfl rfl ?_ | refine LdReq.own1 hX rfl rfl 5 hL rfl rfl ?_ | refine LdReq.own1 hX rfl rfl 6 hL rfl rfl ?_ | refine LdReq.ownA hX rfl rfl 0 hL rfl rfl ?_ | refine LdReq.ownA hX rfl rfl 1 hL rfl rfl ?_ | refine LdReq.ownA hX rfl rfl 2 hL rfl rfl ?_ | refine LdReq.ownA hX rfl rfl 3 hL rfl rfl ?_ | refine LdReq.ownA hX rfl rfl 4 hL rfl rfl ?_ | refine LdReq.ownA hX rfl rfl 5 hL rfl rfl ?_ | refine LdReq.ownA hX rfl rfl 6 hL rfl rfl ?_ | (refine StReq.own hX rfl 0 hL rfl rfl rfl rfl ?_; clear hL; intro w hL) | (refine StReq.own hX rfl 1 hL rfl rfl rfl rfl ?_; clear hL; intro w hL) | (refine StReq.own hX rfl 2 hL rfl rfl rfl rfl ?_; clear hL; intro w hL) | (refine StReq.own hX rfl 3 hL rfl rfl rfl rfl ?_; clear hL; intro w hL) | (refine StReq.own hX rfl 4 hL rfl rfl rfl rfl ?_; clear hL; intro w hL) | (refine StReq.own hX rfl 5 hL rfl rfl rfl rfl ?_; clear hL; intro w hL) | (refine StReq.own hX rfl 6 hL rfl rfl rfl rfl ?_; clear hL; intro w hL) | refine ArReq.i64 (by omega) (by omega) ?_ | refine SeqReq.go hX ?_ | refine OptReq.mk rfl ?_); conv => whnf)
  refine CallReq.pure (few_fn m cs M hM) hL ?_
  clear hL
  rintro u m1 w hL hm1 ⟨b, rfl⟩
  replace hM := hM.le hm1
  conv => whnf
  repeat ((first | refine BrReq.tt ?_ | refine BrReq.ff ?_ | refine LdReq.own1 hX rfl rfl 0 hL rfl rfl ?_ | refine LdReq.own1 hX rfl rfl 1 hL rfl rfl ?_ | refine LdReq.own1 hX rfl rfl 2 hL rfl rfl ?_ | refine LdReq.own1 hX rfl rfl 3 hL rfl rfl ?_ | refine LdReq.own1 hX rfl rfl 4 hL rfl rfl ?_ | refine LdReq.own1 hX rfl rfl 5 hL rfl rfl ?_ | refine LdReq.own1 hX rfl rfl 6 hL rfl rfl ?_ | refine LdReq.ownA hX rfl rfl 0 hL rfl rfl ?_ | refine LdReq.ownA hX rfl rfl 1 hL rfl rfl ?_ | refine LdReq.ownA hX rfl rfl 2 hL rfl rfl ?_ | refine LdReq.ownA hX rfl rfl 3 hL rfl rfl ?_ | refine LdReq.ownA hX rfl rfl 4 hL rfl rfl ?_ | refine LdReq.ownA hX rfl rfl 5 hL rfl rfl ?_ | refine LdReq.ownA hX rfl rfl 6 hL rfl rfl ?_ | (refine StReq.own hX rfl 0 hL rfl rfl rfl rfl ?_; clear hL; intro w hL) | (refine StReq.own hX rfl 1 hL rfl rfl rfl rfl ?_; clear hL; intro w hL) | (refine StReq.own hX rfl 2 hL rfl rfl rfl rfl ?_; clear hL; intro w hL) | (refine StReq.own hX rfl 3 hL rfl rfl rfl rfl ?_; clear hL; intro w hL) | (refine StReq.own hX rfl 4 hL rfl rfl rfl rfl ?_; clear hL; intro w hL) | (refine StReq.own hX rfl 5 hL rfl rfl rfl rfl ?_; clear hL; intro w hL) | (refine StReq.own hX rfl 6 hL rfl rfl rfl rfl ?_; clear hL; intro w hL) | refine ArReq.i64 (by omega) (by omega) ?_ | refine SeqReq.go hX ?_ | refine OptReq.mk rfl ?_); conv => whnf)
  refine BrReq.not ?_
  refine BrReq.bool (fun h1 => ?_) (fun h1 => ?_)
  rotate_left 1
  · conv => whnf
    repeat ((first | refine BrReq.tt ?_ | refine BrReq.ff ?_ | refine LdReq.own1 hX rfl rfl 0 hL rfl rfl ?_ | refine LdReq.own1 hX rfl rfl 1 hL rfl rfl ?_ | refine LdReq.own1 hX rfl rfl 2 hL rfl rfl ?_ | refine LdReq.own1 hX rfl rfl 3 hL rfl rfl ?_ | refine LdReq.own1 hX rfl rfl 4 hL rfl rfl ?_ | refine LdReq.own1 hX rfl rfl 5 hL rfl rfl ?_ | refine LdReq.own1 hX rfl rfl 6 hL rfl rfl ?_ | refine LdReq.ownA hX rfl rfl 0 hL rfl rfl ?_ | refine LdReq.ownA hX rfl rfl 1 hL rfl rfl ?_ | refine LdReq.ownA hX rfl rfl 2 hL rfl rfl ?_ | refine LdReq.ownA hX rfl rfl 3 hL rfl rfl ?_ | refine LdReq.ownA hX rfl rfl 4 hL rfl rfl ?_ | refine LdReq.ownA hX rfl rfl 5 hL rfl rfl ?_ | refine LdReq.ownA hX rfl rfl 6 hL rfl rfl ?_ | (refine StReq.own hX rfl 0 hL rfl rfl rfl rfl ?_; clear hL; intro w hL) | (refine StReq.own hX rfl 1 hL rfl rfl rfl rfl ?_; clear hL; intro w hL) | (refine StReq.own hX rfl 2 hL rfl rfl rfl rfl ?_; clear hL; intro w hL) | (refine StReq.own hX rfl 3 hL rfl rfl rfl rfl ?_; clear hL; intro w hL) | (refine StReq.own hX rfl 4 hL rfl rfl rfl rfl ?_; clear hL; intro w hL) | (refine StReq.own hX rfl 5 hL rfl rfl rfl rfl ?_; clear hL; intro w hL) | (refine StReq.own hX rfl 6 hL rfl rfl rfl rfl ?_; clear hL; intro w hL) | refine ArReq.i64 (by omega) (by omega) ?_ | refine SeqReq.go hX ?_ | refine OptReq.mk rfl ?_); conv => whnf)
    refine CallReq.val (awake_fn m1) hL ?_
    clear hL
    intro w hL
    conv => whnf
    repeat ((first | refine BrReq.tt ?_ | refine BrReq.ff ?_ | refine LdReq.own1 hX rfl rfl 0 hL rfl rfl ?_ | refine LdReq.own1 hX rfl rfl 1 hL rfl rfl ?_ | refine LdReq.own1 hX rfl rfl 2 hL rfl rfl ?_ | refine LdReq.own1 hX rfl rfl 3 hL rfl rfl ?_ | refine LdReq.own1 hX rfl rfl 4 hL rfl rfl ?_ | refine LdReq.own1 hX rfl rfl 5 hL rfl rfl ?_ | refine LdReq.own1 hX rfl rfl 6 hL rfl rfl ?_ | refine LdReq.ownA hX rfl rfl 0 hL rfl rfl ?_ | refine LdReq.ownA hX rfl rfl 1 hL rfl rfl ?_ | refine LdReq.ownA hX rfl rfl 2 hL rfl rfl ?_ | refine LdReq.ownA hX rfl rfl 3 hL rfl rfl ?_ | refine LdReq.ownA hX rfl rfl 4 hL rfl rfl ?_ | refine LdReq.ownA hX rfl rfl 5 hL rfl rfl ?_ | refine LdReq.ownA hX rfl rfl 6 hL rfl rfl ?_ | (refine StReq.own hX rfl 0 hL rfl rfl rfl rfl ?_; clear hL; intro w hL) | (refine StReq.own hX rfl 1 hL rfl rfl rfl rfl ?_; clear hL; intro w hL) | (refine StReq.own hX rfl 2 hL rfl rfl rfl rfl ?_; clear hL; intro w hL) | (refine StReq.own hX rfl 3 hL rfl rfl rfl rfl ?_; clear hL; intro w hL) | (refine StReq.own hX rfl 4 hL rfl rfl rfl rfl ?_; clear hL; intro w hL) | (refine StReq.own hX rfl 5 hL rfl rfl rfl rfl ?_; clear hL; intro w hL) | (refine StReq.own hX rfl 6 hL rfl rfl rfl rfl ?_; clear hL; intro w hL) | refine ArReq.i64 (by omega) (by omega) ?_ | refine SeqReq.go hX ?_ | refine OptReq.mk rfl ?_); conv => whnf)
    exact RetReq.mk hL.drop ⟨rfl, rfl⟩
  · conv => whnf
    repeat ((first | refine BrReq.tt ?_ | refine BrReq.ff ?_ | refine LdReq.own1 hX rfl rfl 0 hL rfl rfl ?_ | refine LdReq.own1 hX rfl rfl 1 hL rfl rfl ?_ | refine LdReq.own1 hX rfl rfl 2 hL rfl rfl ?_ | refine LdReq.own1 hX rfl rfl 3 hL rfl rfl ?_ | refine LdReq.own1 hX rfl rfl 4 hL rfl rfl ?_ | refine LdReq.own1 hX rfl rfl 5 hL rfl rfl ?_ | refine LdReq.own1 hX rfl rfl 6 hL rfl rfl ?_ | refine LdReq.ownA hX rfl rfl 0 hL rfl rfl ?_ | refine LdReq.ownA hX rfl rfl 1 hL rfl rfl ?_ | refine LdReq.ownA hX rfl rfl 2 hL rfl rfl ?_ | refine LdReq.ownA hX rfl rfl 3 hL rfl rfl ?_ | refine LdReq.ownA hX rfl rfl 4 hL rfl rfl ?_ | refine LdReq.ownA hX rfl rfl 5 hL rfl rfl ?_ | refine LdReq.ownA hX rfl rfl 6 hL rfl rfl ?_ | (refine StReq.own hX rfl 0 hL rfl rfl rfl rfl ?_; clear hL; intro w hL) | (refine StReq.own hX rfl 1 hL rfl rfl rfl rfl ?_; clear hL; intro w hL) | (refine StReq.own hX rfl 2 hL rfl rfl rfl rfl ?_; clear hL; intro w hL) | (refine StReq.own hX rfl 3 hL rfl rfl rfl rfl ?_; clear hL; intro w hL) | (refine StReq.own hX rfl 4 hL rfl rfl rfl rfl ?_; clear hL; intro w hL) | (refine StReq.own hX rfl 5 hL rfl rfl rfl rfl ?_; clear hL; intro w hL) | (refine StReq.own hX rfl 6 hL rfl rfl rfl rfl ?_; clear hL; intro w hL) | refine ArReq.i64 (by omega) (by omega) ?_ | refine SeqReq.go hX ?_ | refine OptReq.mk rfl ?_); conv => whnf)
    refine BrReq.dec (fun h2 => ?_) (fun h2 => ?_)
    · conv => whnf
      repeat ((first | refine BrReq.tt ?_ | refine BrReq.ff ?_ | refine LdReq.own1 hX rfl rfl 0 hL rfl rfl ?_ | refine LdReq.own1 hX rfl rfl 1 hL rfl rfl ?_ | refine LdReq.own1 hX rfl rfl 2 hL rfl rfl ?_ | refine LdReq.own1 hX rfl rfl 3 hL rfl rfl ?_ | refine LdReq.own1 hX rfl rfl 4 hL rfl rfl ?_ | refine LdReq.own1 hX rfl rfl 5 hL rfl rfl ?_ | refine LdReq.own1 hX rfl rfl 6 hL rfl rfl ?_ | refine LdReq.ownA hX rfl rfl 0 hL rfl rfl ?_ | refine LdReq.ownA hX rfl rfl 1 hL rfl rfl ?_ | refine LdReq.ownA hX rfl rfl 2 hL rfl rfl ?_ | refine LdReq.ownA hX rfl rfl 3 hL rfl rfl ?_ | refine LdReq.ownA hX rfl rfl 4 hL rfl rfl ?_ | refine LdReq.ownA hX rfl rfl 5 hL rfl rfl ?_ | refine LdReq.ownA hX rfl rfl 6 hL rfl rfl ?_ | (refine StReq.own hX rfl 0 hL rfl rfl rfl rfl ?_; clear hL; intro w hL) | (refine StReq.own hX rfl 1 hL rfl rfl rfl rfl ?_; clear hL; intro w hL) | (refine StReq.own hX rfl 2 hL rfl rfl rfl rfl ?_; clear hL; intro w hL) | (refine StReq.own hX rfl 3 hL rfl rfl rfl rfl ?_; clear hL; intro w hL) | (refine StReq.own hX rfl 4 hL rfl rfl rfl rfl ?_; clear hL; intro w hL) | (refine StReq.own hX rfl 5 hL rfl rfl rfl rfl ?_; clear hL; intro w hL) | (refine StReq.own hX rfl 6 hL rfl rfl rfl rfl ?_; clear hL; intro w hL) | refine ArReq.i64 (by omega) (by omega) ?_ | refine SeqReq.go hX ?_ | refine OptReq.mk rfl ?_); conv => whnf)
      refine CallReq.val (awake_fn m1) hL ?_
      clear hL
      intro w hL
      conv => whnf
      repeat ((first | refine BrReq.tt ?_ | refine BrReq.ff ?_ | refine LdReq.own1 hX rfl rfl 0 hL rfl rfl ?_ | refine LdReq.own1 hX rfl rfl 1 hL rfl rfl ?_ | refine LdReq.own1 hX rfl rfl 2 hL rfl rfl ?_ | refine LdReq.own1 hX rfl rfl 3 hL rfl rfl ?_ | refine LdReq.own1 hX rfl rfl 4 hL rfl rfl ?_ | refine LdReq.own1 hX rfl rfl 5 hL rfl rfl ?_ | refine LdReq.own1 hX rfl rfl 6 hL rfl rfl ?_ | refine LdReq.ownA hX rfl rfl 0 hL rfl rfl ?_ | refine LdReq.ownA hX rfl rfl 1 hL rfl rfl ?_ | refine LdReq.ownA hX rfl rfl 2 hL rfl rfl ?_ | refine LdReq.ownA hX rfl rfl 3 hL rfl rfl ?_ | refine LdReq.ownA hX rfl rfl 4 hL rfl rfl ?_ | refine LdReq.ownA hX rfl rfl 5 hL rfl rfl ?_ | refine LdReq.ownA hX rfl rfl 6 hL rfl rfl ?_ | (refine StReq.own hX rfl 0 hL rfl rfl rfl rfl ?_; clear hL; intro w hL) | (refine StReq.own hX rfl 1 hL rfl rfl rfl rfl ?_; clear hL; intro w hL) | (refine StReq.own hX rfl 2 hL rfl rfl rfl rfl ?_; clear hL; intro w hL) | (refine StReq.own hX rfl 3 hL rfl rfl rfl rfl ?_; clear hL; intro w hL) | (refine StReq.own hX rfl 4 hL rfl rfl rfl rfl ?_; clear hL; intro w hL) | (refine StReq.own hX rfl 5 hL rfl rfl rfl rfl ?_; clear hL; intro w hL) | (refine StReq.own hX rfl 6 hL rfl rfl rfl rfl ?_; clear hL; intro w hL) | refine ArReq.i64 (by omega) (by omega) ?_ | refine SeqReq.go hX ?_ | refine OptReq.mk rfl ?_); conv => whnf)
      exact RetReq.mk hL.drop ⟨rfl, rfl⟩
    · conv => whnf
      repeat ((first | refine BrReq.tt ?_ | refine BrReq.ff ?_ | refine LdReq.own1 hX rfl rfl 0 hL rfl rfl ?_ | refine LdReq.own1 hX rfl rfl 1 hL rfl rfl ?_ | refine LdReq.own1 hX rfl rfl 2 hL rfl rfl ?_ | refine LdReq.own1 hX rfl rfl 3 hL rfl rfl ?_ | refine LdReq.own1 hX rfl rfl 4 hL rfl rfl ?_ | refine LdReq.own1 hX rfl rfl 5 hL rfl rfl ?_ | refine LdReq.own1 hX rfl rfl 6 hL rfl rfl ?_ | refine LdReq.ownA hX rfl rfl 0 hL rfl rfl ?_ | refine LdReq.ownA hX rfl rfl 1 hL rfl rfl ?_ | refine LdReq.ownA hX rfl rfl 2 hL rfl rfl ?_ | refine LdReq.ownA hX rfl rfl 3 hL rfl rfl ?_ | refine LdReq.ownA hX rfl rfl 4 hL rfl rfl ?_ | refine LdReq.ownA hX rfl rfl 5 hL rfl rfl ?_ | refine LdReq.ownA hX rfl rfl 6 hL rfl rfl ?_ | (refine StReq.own hX rfl 0 hL rfl rfl rfl rfl ?_; clear hL; intro w hL) | (refine StReq.own hX rfl 1 hL rfl rfl rfl rfl ?_; clear hL; intro w hL) | (refine StReq.own hX rfl 2 hL rfl rfl rfl rfl ?_; clear hL; intro w hL) | (refine StReq.own hX rfl 3 hL rfl rfl rfl rfl ?_; clear hL; intro w hL) | (refine StReq.own hX rfl 4 hL rfl rfl rfl rfl ?_; clear hL; intro w hL) | (refine StReq.own hX rfl 5 hL rfl rfl rfl rfl ?_; clear hL; intro w hL) | (refine StReq.own hX rfl 6 hL rfl rfl rfl rfl ?_; clear hL; intro w hL) | refine ArReq.i64 (by omega) (by omega) ?_ | refine SeqReq.go hX ?_ | refine OptReq.mk rfl ?_); conv => whnf)
      refine LdReq.whole hX rfl rfl 0 hL rfl hM.size ?_
      conv => whnf
      repeat ((first | refine BrReq.tt ?_ | refine BrReq.ff ?_ | refine LdReq.own1 hX rfl rfl 0 hL rfl rfl ?_ | refine LdReq.own1 hX rfl rfl 1 hL rfl rfl ?_ | refine LdReq.own1 hX rfl rfl 2 hL rfl rfl ?_ | refine LdReq.own1 hX rfl rfl 3 hL rfl rfl ?_ | refine LdReq.own1 hX rfl rfl 4 hL rfl rfl ?_ | refine LdReq.own1 hX rfl rfl 5 hL rfl rfl ?_ | refine LdReq.own1 hX rfl rfl 6 hL rfl rfl ?_ | refine LdReq.ownA hX rfl rfl 0 hL rfl rfl ?_ | refine LdReq.ownA hX rfl rfl 1 hL rfl rfl ?_ | refine LdReq.ownA hX rfl rfl 2 hL rfl rfl ?_ | refine LdReq.ownA hX rfl rfl 3 hL rfl rfl ?_ | refine LdReq.ownA hX rfl rfl 4 hL rfl rfl ?_ | refine LdReq.ownA hX rfl rfl 5 hL rfl rfl ?_ | refine LdReq.ownA hX rfl rfl 6 hL rfl rfl ?_ | (refine StReq.own hX rfl 0 hL rfl rfl rfl rfl ?_; clear hL; intro w hL) | (refine StReq.own hX rfl 1 hL rfl rfl rfl rfl ?_; clear hL; intro w hL) | (refine StReq.own hX rfl 2 hL rfl rfl rfl rfl ?_; clear hL; intro w hL) | (refine StReq.own hX rfl 3 hL rfl rfl rfl rfl ?_; clear hL; intro w hL) | (refine StReq.own hX rfl 4 hL rfl rfl rfl rfl ?_; clear hL; intro w hL) | (refine StReq.own hX rfl 5 hL rfl rfl rfl rfl ?_; clear hL; intro w hL) | (refine StReq.own hX rfl 6 hL rfl rfl rfl rfl ?_; clear hL; intro w hL) | refine ArReq.i64 (by omega) (by omega) ?_ | refine SeqReq.go hX ?_ | refine OptReq.mk rfl ?_); conv => whnf)
      refine CallReq.mk (L1 := []) (pack_fn m1 cs M hM) hL ?_
      clear hL
      rintro u m2 L' w hL hm2 ⟨rfl, hp⟩
      rcases hp with ⟨hok, v4, rfl, ho4⟩ | ⟨hbad, rfl, rfl⟩
      rotate_left 1
      · conv => whnf
        repeat ((first | refine BrReq.tt ?_ | refine BrReq.ff ?_ | refine LdReq.own1 hX rfl rfl 0 hL rfl rfl ?_ | refine LdReq.own1 hX rfl rfl 1 hL rfl rfl ?_ | refine LdReq.own1 hX rfl rfl 2 hL rfl rfl ?_ | refine LdReq.own1 hX rfl rfl 3 hL rfl rfl ?_ | refine LdReq.own1 hX rfl rfl 4 hL rfl rfl ?_ | refine LdReq.own1 hX rfl rfl 5 hL rfl rfl ?_ | refine LdReq.own1 hX rfl rfl 6 hL rfl rfl ?_ | refine LdReq.ownA hX rfl rfl 0 hL rfl rfl ?_ | refine LdReq.ownA hX rfl rfl 1 hL rfl rfl ?_ | refine LdReq.ownA hX rfl rfl 2 hL rfl rfl ?_ | refine LdReq.ownA hX rfl rfl 3 hL rfl rfl ?_ | refine LdReq.ownA hX rfl rfl 4 hL rfl rfl ?_ | refine LdReq.ownA hX rfl rfl 5 hL rfl rfl ?_ | refine LdReq.ownA hX rfl rfl 6 hL rfl rfl ?_ | (refine StReq.own hX rfl 0 hL rfl rfl rfl rfl ?_; clear hL; intro w hL) | (refine StReq.own hX rfl 1 hL rfl rfl rfl rfl ?_; clear hL; intro w hL) | (refine StReq.own hX rfl 2 hL rfl rfl rfl rfl ?_; clear hL; intro w hL) | (refine StReq.own hX rfl 3 hL rfl rfl rfl rfl ?_; clear hL; intro w hL) | (refine StReq.own hX rfl 4 hL rfl rfl rfl rfl ?_; clear hL; intro w hL) | (refine StReq.own hX rfl 5 hL rfl rfl rfl rfl ?_; clear hL; intro w hL) | (refine StReq.own hX rfl 6 hL rfl rfl rfl rfl ?_; clear hL; intro w hL) | refine ArReq.i64 (by omega) (by omega) ?_ | refine SeqReq.go hX ?_ | refine OptReq.mk rfl ?_); conv => whnf)
        exact RetReq.mk (hL.sublist (List.nil_sublist _)) ⟨rfl, rfl⟩
      · have hF := Fits.of hM.len hM.byt hok
        have hbl := bodyR_len M hM.len hF
        have hbb : Byt (bodyR M) := bodyR_byte M hM.byt
        have hsb := seal_byte _ hbb
        have hsl := seal_len (bodyR M)
        obtain ⟨m3, hL, hm3, hs4⟩ := ho4.freeze hL
        replace hL := hL.drop
        have hs4' := hs4
        obtain ⟨A4, n4, c4, rfl, hn4, hc4, -⟩ := hs4'
        replace hn4 : n4 = (sealR (bodyR M)).length := hn4
        conv => whnf
        repeat ((first | refine BrReq.tt ?_ | refine BrReq.ff ?_ | refine LdReq.own1 hX rfl rfl 0 hL rfl rfl ?_ | refine LdReq.own1 hX rfl rfl 1 hL rfl rfl ?_ | refine LdReq.own1 hX rfl rfl 2 hL rfl rfl ?_ | refine LdReq.own1 hX rfl rfl 3 hL rfl rfl ?_ | refine LdReq.own1 hX rfl rfl 4 hL rfl rfl ?_ | refine LdReq.own1 hX rfl rfl 5 hL rfl rfl ?_ | refine LdReq.own1 hX rfl rfl 6 hL rfl rfl ?_ | refine LdReq.ownA hX rfl rfl 0 hL rfl rfl ?_ | refine LdReq.ownA hX rfl rfl 1 hL rfl rfl ?_ | refine LdReq.ownA hX rfl rfl 2 hL rfl rfl ?_ | refine LdReq.ownA hX rfl rfl 3 hL rfl rfl ?_ | refine LdReq.ownA hX rfl rfl 4 hL rfl rfl ?_ | refine LdReq.ownA hX rfl rfl 5 hL rfl rfl ?_ | refine LdReq.ownA hX rfl rfl 6 hL rfl rfl ?_ | (refine StReq.own hX rfl 0 hL rfl rfl rfl rfl ?_; clear hL; intro w hL) | (refine StReq.own hX rfl 1 hL rfl rfl rfl rfl ?_; clear hL; intro w hL) | (refine StReq.own hX rfl 2 hL rfl rfl rfl rfl ?_; clear hL; intro w hL) | (refine StReq.own hX rfl 3 hL rfl rfl rfl rfl ?_; clear hL; intro w hL) | (refine StReq.own hX rfl 4 hL rfl rfl rfl rfl ?_; clear hL; intro w hL) | (refine StReq.own hX rfl 5 hL rfl rfl rfl rfl ?_; clear hL; intro w hL) | (refine StReq.own hX rfl 6 hL rfl rfl rfl rfl ?_; clear hL; intro w hL) | refine ArReq.i64 (by omega) (by omega) ?_ | refine SeqReq.go hX ?_ | refine OptReq.mk rfl ?_); conv => whnf)
        refine NewReq.mk hL ?_
        clear hL
        intro g w hL
        conv => whnf
        replace hL : Ev.Loc m [] w0 m3 ([(g, .cells (toArr []) 5 (0, 0))] ++ []) w := hL
        conv => whnf
        repeat ((first | refine BrReq.tt ?_ | refine BrReq.ff ?_ | refine LdReq.own1 hX rfl rfl 0 hL rfl rfl ?_ | refine LdReq.own1 hX rfl rfl 1 hL rfl rfl ?_ | refine LdReq.own1 hX rfl rfl 2 hL rfl rfl ?_ | refine LdReq.own1 hX rfl rfl 3 hL rfl rfl ?_ | refine LdReq.own1 hX rfl rfl 4 hL rfl rfl ?_ | refine LdReq.own1 hX rfl rfl 5 hL rfl rfl ?_ | refine LdReq.own1 hX rfl rfl 6 hL rfl rfl ?_ | refine LdReq.ownA hX rfl rfl 0 hL rfl rfl ?_ | refine LdReq.ownA hX rfl rfl 1 hL rfl rfl ?_ | refine LdReq.ownA hX rfl rfl 2 hL rfl rfl ?_ | refine LdReq.ownA hX rfl rfl 3 hL rfl rfl ?_ | refine LdReq.ownA hX rfl rfl 4 hL rfl rfl ?_ | refine LdReq.ownA hX rfl rfl 5 hL rfl rfl ?_ | refine LdReq.ownA hX rfl rfl 6 hL rfl rfl ?_ | (refine StReq.own hX rfl 0 hL rfl rfl rfl rfl ?_; clear hL; intro w hL) | (refine StReq.own hX rfl 1 hL rfl rfl rfl rfl ?_; clear hL; intro w hL) | (refine StReq.own hX rfl 2 hL rfl rfl rfl rfl ?_; clear hL; intro w hL) | (refine StReq.own hX rfl 3 hL rfl rfl rfl rfl ?_; clear hL; intro w hL) | (refine StReq.own hX rfl 4 hL rfl rfl rfl rfl ?_; clear hL; intro w hL) | (refine StReq.own hX rfl 5 hL rfl rfl rfl rfl ?_; clear hL; intro w hL) | (refine StReq.own hX rfl 6 hL rfl rfl rfl rfl ?_; clear hL; intro w hL) | refine ArReq.i64 (by omega) (by omega) ?_ | refine SeqReq.go hX ?_ | refine OptReq.mk rfl ?_); conv => whnf)
        refine RunReq.append hX 22 5 rfl rfl rfl rfl rfl (OwnS.full (g := g) (n := 0) (cur := []) (by decide) rfl) hL (k := n4) (news := ints .u8 (packR M)) (by simp [ints]; exact hn4.symm) (hs4.src hL).2 (byte_cells _) (by simp [ints]; show (sealR (bodyR M)).length ≤ _; omega) rfl ?_
        clear hL
        intro A5 n5 c5 L1 w hn5 ho5 hL
        replace ho5 : OwnS 5 1 (.slice A5 n5 c5) (ints .u8 (sealR (bodyR M))) L1 := ho5
        replace hn5 : n5 = (sealR (bodyR M)).length := by simp [ints] at hn5; exact hn5.symm
        obtain ⟨n5', hn5', hh⟩ := ho5
        rcases hh with ⟨e, h0, -⟩ | ⟨gg, cap, cur, e, rfl, q1, q2, q3, q4⟩
        · injection e with e1 e2 e3; simp [ints] at hn5'; omega
        injection e with e1 e2 e3
        subst e1 e2 e3
        have hpos : 0 < n5 := by omega
        have hil : at_ % n5 < n5 := Nat.mod_lt _ hpos
        have hil' : at_ % n5 < (sealR (bodyR M)).length := by omega
        generalize hi : at_ % n5 = i at hil hil'
        have hxb := hsb _ (List.getElem_mem hil')
        obtain ⟨z, hz1, hz2, hz3⟩ := xor_u8 hxb hby
        have hcur : cur[i]? = some (.int .u8 (sealR (bodyR M))[i]) := by
          have : (cur.take (n5 * 1))[i]? = some (.int .u8 (sealR (bodyR M))[i]) := by
            rw [q4]; simp [ints, List.getElem?_map, List.getElem?_eq_getElem hil']
          rw [List.getElem?_take_of_lt (by omega)] at this; exact this
        conv => whnf
        repeat ((first | refine BrReq.tt ?_ | refine BrReq.ff ?_ | refine LdReq.own1 hX rfl rfl 0 hL rfl rfl ?_ | refine LdReq.own1 hX rfl rfl 1 hL rfl rfl ?_ | refine LdReq.own1 hX rfl rfl 2 hL rfl rfl ?_ | refine LdReq.own1 hX rfl rfl 3 hL rfl rfl ?_ | refine LdReq.own1 hX rfl rfl 4 hL rfl rfl ?_ | refine LdReq.own1 hX rfl rfl 5 hL rfl rfl ?_ | refine LdReq.own1 hX rfl rfl 6 hL rfl rfl ?_ | refine LdReq.ownA hX rfl rfl 0 hL rfl rfl ?_ | refine LdReq.ownA hX rfl rfl 1 hL rfl rfl ?_ | refine LdReq.ownA hX rfl rfl 2 hL rfl rfl ?_ | refine LdReq.ownA hX rfl rfl 3 hL rfl rfl ?_ | refine LdReq.ownA hX rfl rfl 4 hL rfl rfl ?_ | refine LdReq.ownA hX rfl rfl 5 hL rfl rfl ?_ | refine LdReq.ownA hX rfl rfl 6 hL rfl rfl ?_ | (refine StReq.own hX rfl 0 hL rfl rfl rfl rfl ?_; clear hL; intro w hL) | (refine StReq.own hX rfl 1 hL rfl rfl rfl rfl ?_; clear hL; intro w hL) | (refine StReq.own hX rfl 2 hL rfl rfl rfl rfl ?_; clear hL; intro w hL) | (refine StReq.own hX rfl 3 hL rfl rfl rfl rfl ?_; clear hL; intro w hL) | (refine StReq.own hX rfl 4 hL rfl rfl rfl rfl ?_; clear hL; intro w hL) | (refine StReq.own hX rfl 5 hL rfl rfl rfl rfl ?_; clear hL; intro w hL) | (refine StReq.own hX rfl 6 hL rfl rfl rfl rfl ?_; clear hL; intro w hL) | refine ArReq.i64 (by omega) (by omega) ?_ | refine SeqReq.go hX ?_ | refine OptReq.mk rfl ?_); conv => whnf)
        refine DrawReq.plan hX (.fst 0 (.fst 1 (.fst 2 (.fst 3 (.fst 4 (.fst 5 (.fst 6 (.fst 7 (.fst 8 (.fst 9 (.fst 10 (.fst 11 (.fst 12 (.fst 14 (.alt 13 (.fst 15 (.fst 16 (.alt 17 (.done) (.stop)))) (.stop)))))))))))))))) [] (by kernel_rfl) (by kernel_rfl) hL (fun h => h.sublist (List.nil_sublist _)) ?_
        clear hL
        intro w hL
        conv => whnf
        repeat ((first | refine RemReq.nat (k := n5) rfl hpos ?_ | refine Idx2Req.mk i _ (by rw [hi]) (by omega) rfl ?_ | (refine LdReq.ownAt hX rfl rfl 0 hL rfl (v := .int .u8 (sealR (bodyR M))[i]) (by rw [scale_eq, Nat.zero_add, Nat.mul_one]; exact hcur) ?_) | refine SReq.mk (hL.sublist (List.nil_sublist _)) ?_ | refine BitReq.mk hz1 ?_ | refine QLdReq.own1 hX rfl rfl 0 rfl rfl ?_ | refine QLdReq.own1 hX rfl rfl 1 rfl rfl ?_ | refine QLdReq.own1 hX rfl rfl 2 rfl rfl ?_ | refine QLdReq.own1 hX rfl rfl 3 rfl rfl ?_ | refine QLdReq.ownA hX rfl rfl 0 rfl rfl ?_ | refine QLdReq.ownA hX rfl rfl 1 rfl rfl ?_ | refine QLdReq.ownA hX rfl rfl 2 rfl rfl ?_ | refine QLdReq.ownA hX rfl rfl 3 rfl rfl ?_ | refine AltReq.one ?_ | refine BrReq.tt ?_ | refine BrReq.ff ?_ | refine LdReq.own1 hX rfl rfl 0 hL rfl rfl ?_ | refine LdReq.own1 hX rfl rfl 1 hL rfl rfl ?_ | refine LdReq.own1 hX rfl rfl 2 hL rfl rfl ?_ | refine LdReq.own1 hX rfl rfl 3 hL rfl rfl ?_ | refine LdReq.own1 hX rfl rfl 4 hL rfl rfl ?_ | refine LdReq.own1 hX rfl rfl 5 hL rfl rfl ?_ | refine LdReq.own1 hX rfl rfl 6 hL rfl rfl ?_ | refine LdReq.ownA hX rfl rfl 0 hL rfl rfl ?_ | refine LdReq.ownA hX rfl rfl 1 hL rfl rfl ?_ | refine LdReq.ownA hX rfl rfl 2 hL rfl rfl ?_ | refine LdReq.ownA hX rfl rfl 3 hL rfl rfl ?_ | refine LdReq.ownA hX rfl rfl 4 hL rfl rfl ?_ | refine LdReq.ownA hX rfl rfl 5 hL rfl rfl ?_ | refine LdReq.ownA hX rfl rfl 6 hL rfl rfl ?_ | (refine StReq.own hX rfl 0 hL rfl rfl rfl rfl ?_; clear hL; intro w hL) | (refine StReq.own hX rfl 1 hL rfl rfl rfl rfl ?_; clear hL; intro w hL) | (refine StReq.own hX rfl 2 hL rfl rfl rfl rfl ?_; clear hL; intro w hL) | (refine StReq.own hX rfl 3 hL rfl rfl rfl rfl ?_; clear hL; intro w hL) | (refine StReq.own hX rfl 4 hL rfl rfl rfl rfl ?_; clear hL; intro w hL) | (refine StReq.own hX rfl 5 hL rfl rfl rfl rfl ?_; clear hL; intro w hL) | (refine StReq.own hX rfl 6 hL rfl rfl rfl rfl ?_; clear hL; intro w hL) | refine ArReq.i64 (by omega) (by omega) ?_ | refine SeqReq.go hX ?_ | refine OptReq.mk rfl ?_); conv => whnf)
        refine StReq.ownAt hX rfl 0 hL rfl rfl (by rw [q3]; show 0 + scale i 1 + 1 ≤ _; rw [scale_eq]; omega) rfl ?_
        clear hL
        intro w hL
        have hset := OwnS.set (te := 5) (g := gg) (k := .u8) (l := sealR (bodyR M)) q1 q2 q3 q4 hn5' i z
        have e1 : spliceL cur (0 + scale i 1) (Value.int .u8 z).cells.toList = cur.set i (.int .u8 z) := by
          show cur.set (0 + scale i 1) (.int .u8 z) = _
          rw [scale_eq, Nat.zero_add, Nat.mul_one]
        replace hL : Ev.Loc m [] w0 m3 ([(gg, .cells (toArr (spliceL cur (0 + scale i 1) (Value.int .u8 z).cells.toList)) 5 (0, 0))] ++ []) w := hL
        rw [e1] at hL
        conv => whnf
        repeat ((first | refine SReq.mk (hL.sublist (List.nil_sublist _)) ?_ | refine QLdReq.own1 hX rfl rfl 0 rfl rfl ?_ | refine QLdReq.own1 hX rfl rfl 1 rfl rfl ?_ | refine QLdReq.own1 hX rfl rfl 2 rfl rfl ?_ | refine QLdReq.own1 hX rfl rfl 3 rfl rfl ?_ | refine QLdReq.ownA hX rfl rfl 0 rfl rfl ?_ | refine QLdReq.ownA hX rfl rfl 1 rfl rfl ?_ | refine QLdReq.ownA hX rfl rfl 2 rfl rfl ?_ | refine QLdReq.ownA hX rfl rfl 3 rfl rfl ?_ | refine AltReq.one ?_ | refine BrReq.tt ?_ | refine BrReq.ff ?_ | refine LdReq.own1 hX rfl rfl 0 hL rfl rfl ?_ | refine LdReq.own1 hX rfl rfl 1 hL rfl rfl ?_ | refine LdReq.own1 hX rfl rfl 2 hL rfl rfl ?_ | refine LdReq.own1 hX rfl rfl 3 hL rfl rfl ?_ | refine LdReq.own1 hX rfl rfl 4 hL rfl rfl ?_ | refine LdReq.own1 hX rfl rfl 5 hL rfl rfl ?_ | refine LdReq.own1 hX rfl rfl 6 hL rfl rfl ?_ | refine LdReq.ownA hX rfl rfl 0 hL rfl rfl ?_ | refine LdReq.ownA hX rfl rfl 1 hL rfl rfl ?_ | refine LdReq.ownA hX rfl rfl 2 hL rfl rfl ?_ | refine LdReq.ownA hX rfl rfl 3 hL rfl rfl ?_ | refine LdReq.ownA hX rfl rfl 4 hL rfl rfl ?_ | refine LdReq.ownA hX rfl rfl 5 hL rfl rfl ?_ | refine LdReq.ownA hX rfl rfl 6 hL rfl rfl ?_ | (refine StReq.own hX rfl 0 hL rfl rfl rfl rfl ?_; clear hL; intro w hL) | (refine StReq.own hX rfl 1 hL rfl rfl rfl rfl ?_; clear hL; intro w hL) | (refine StReq.own hX rfl 2 hL rfl rfl rfl rfl ?_; clear hL; intro w hL) | (refine StReq.own hX rfl 3 hL rfl rfl rfl rfl ?_; clear hL; intro w hL) | (refine StReq.own hX rfl 4 hL rfl rfl rfl rfl ?_; clear hL; intro w hL) | (refine StReq.own hX rfl 5 hL rfl rfl rfl rfl ?_; clear hL; intro w hL) | (refine StReq.own hX rfl 6 hL rfl rfl rfl rfl ?_; clear hL; intro w hL) | refine ArReq.i64 (by omega) (by omega) ?_ | refine SeqReq.go hX ?_ | refine OptReq.mk rfl ?_); conv => whnf)
        obtain ⟨m4, hL, hm4, hsx⟩ := hset.freeze hL
        have hzne : (sealR (bodyR M))[i]? ≠ some z := by
          rw [List.getElem?_eq_getElem hil']
          intro h
          injection h with h
          exact hz3 (fun e => h2 (by rw [e])) h.symm
        have hbx : Byt ((sealR (bodyR M)).set i z) := fun y hy => (List.mem_or_eq_of_mem_set hy).elim (hsb y) fun h => by subst h; exact hz2
        conv => whnf
        repeat ((first | refine BrReq.tt ?_ | refine BrReq.ff ?_ | refine LdReq.own1 hX rfl rfl 0 hL rfl rfl ?_ | refine LdReq.own1 hX rfl rfl 1 hL rfl rfl ?_ | refine LdReq.own1 hX rfl rfl 2 hL rfl rfl ?_ | refine LdReq.own1 hX rfl rfl 3 hL rfl rfl ?_ | refine LdReq.own1 hX rfl rfl 4 hL rfl rfl ?_ | refine LdReq.own1 hX rfl rfl 5 hL rfl rfl ?_ | refine LdReq.own1 hX rfl rfl 6 hL rfl rfl ?_ | refine LdReq.ownA hX rfl rfl 0 hL rfl rfl ?_ | refine LdReq.ownA hX rfl rfl 1 hL rfl rfl ?_ | refine LdReq.ownA hX rfl rfl 2 hL rfl rfl ?_ | refine LdReq.ownA hX rfl rfl 3 hL rfl rfl ?_ | refine LdReq.ownA hX rfl rfl 4 hL rfl rfl ?_ | refine LdReq.ownA hX rfl rfl 5 hL rfl rfl ?_ | refine LdReq.ownA hX rfl rfl 6 hL rfl rfl ?_ | (refine StReq.own hX rfl 0 hL rfl rfl rfl rfl ?_; clear hL; intro w hL) | (refine StReq.own hX rfl 1 hL rfl rfl rfl rfl ?_; clear hL; intro w hL) | (refine StReq.own hX rfl 2 hL rfl rfl rfl rfl ?_; clear hL; intro w hL) | (refine StReq.own hX rfl 3 hL rfl rfl rfl rfl ?_; clear hL; intro w hL) | (refine StReq.own hX rfl 4 hL rfl rfl rfl rfl ?_; clear hL; intro w hL) | (refine StReq.own hX rfl 5 hL rfl rfl rfl rfl ?_; clear hL; intro w hL) | (refine StReq.own hX rfl 6 hL rfl rfl rfl rfl ?_; clear hL; intro w hL) | refine ArReq.i64 (by omega) (by omega) ?_ | refine SeqReq.go hX ?_ | refine OptReq.mk rfl ?_); conv => whnf)
        refine CallReq.pure (unpack_fn m4 _ _ hsx hbx (by rw [List.length_set]; omega)) hL ?_
        clear hL
        rintro u m5 w hL hm5 hu
        have hu1 := hu
        obtain ⟨c1, M1, e1', rfl, hM1, -⟩ := hu
        have ht1 := told1 hbb hbl hz2 hzne hil' hu1
        clear hu1
        conv => whnf
        repeat ((first | refine BrReq.tt ?_ | refine BrReq.ff ?_ | refine LdReq.own1 hX rfl rfl 0 hL rfl rfl ?_ | refine LdReq.own1 hX rfl rfl 1 hL rfl rfl ?_ | refine LdReq.own1 hX rfl rfl 2 hL rfl rfl ?_ | refine LdReq.own1 hX rfl rfl 3 hL rfl rfl ?_ | refine LdReq.own1 hX rfl rfl 4 hL rfl rfl ?_ | refine LdReq.own1 hX rfl rfl 5 hL rfl rfl ?_ | refine LdReq.own1 hX rfl rfl 6 hL rfl rfl ?_ | refine LdReq.ownA hX rfl rfl 0 hL rfl rfl ?_ | refine LdReq.ownA hX rfl rfl 1 hL rfl rfl ?_ | refine LdReq.ownA hX rfl rfl 2 hL rfl rfl ?_ | refine LdReq.ownA hX rfl rfl 3 hL rfl rfl ?_ | refine LdReq.ownA hX rfl rfl 4 hL rfl rfl ?_ | refine LdReq.ownA hX rfl rfl 5 hL rfl rfl ?_ | refine LdReq.ownA hX rfl rfl 6 hL rfl rfl ?_ | (refine StReq.own hX rfl 0 hL rfl rfl rfl rfl ?_; clear hL; intro w hL) | (refine StReq.own hX rfl 1 hL rfl rfl rfl rfl ?_; clear hL; intro w hL) | (refine StReq.own hX rfl 2 hL rfl rfl rfl rfl ?_; clear hL; intro w hL) | (refine StReq.own hX rfl 3 hL rfl rfl rfl rfl ?_; clear hL; intro w hL) | (refine StReq.own hX rfl 4 hL rfl rfl rfl rfl ?_; clear hL; intro w hL) | (refine StReq.own hX rfl 5 hL rfl rfl rfl rfl ?_; clear hL; intro w hL) | (refine StReq.own hX rfl 6 hL rfl rfl rfl rfl ?_; clear hL; intro w hL) | refine ArReq.i64 (by omega) (by omega) ?_ | refine SeqReq.go hX ?_ | refine OptReq.mk rfl ?_); conv => whnf)
        refine NewReq.mk hL ?_
        clear hL
        intro b12 w hL
        conv => whnf
        refine StReq.whole hX rfl 0 hL rfl rfl hM1.size hM1.one ?_
        clear hL
        intro w hL
        replace hL := hL.drop
        have hs5 := hs4.le' (hm4.trans hm5)
        have hk : cut % n4 < n4 := Nat.mod_lt _ (by omega)
        generalize hkk : cut % n4 = k at hk
        have hsub := hs5.sub (lo := 0) (hi := k) (by omega) (by omega)
        rw [List.drop_zero] at hsub
        have hbt : Byt ((packR M).take k) := fun y hy => hsb y (List.mem_of_mem_take hy)
        conv => whnf
        repeat ((first | refine RemReq.nat (k := n4) rfl (by omega) ?_ | refine SlReq.mk 0 k rfl (by rw [hkk]) (by omega) (by omega) ?_ | refine BrReq.tt ?_ | refine BrReq.ff ?_ | refine LdReq.own1 hX rfl rfl 0 hL rfl rfl ?_ | refine LdReq.own1 hX rfl rfl 1 hL rfl rfl ?_ | refine LdReq.own1 hX rfl rfl 2 hL rfl rfl ?_ | refine LdReq.own1 hX rfl rfl 3 hL rfl rfl ?_ | refine LdReq.own1 hX rfl rfl 4 hL rfl rfl ?_ | refine LdReq.own1 hX rfl rfl 5 hL rfl rfl ?_ | refine LdReq.own1 hX rfl rfl 6 hL rfl rfl ?_ | refine LdReq.ownA hX rfl rfl 0 hL rfl rfl ?_ | refine LdReq.ownA hX rfl rfl 1 hL rfl rfl ?_ | refine LdReq.ownA hX rfl rfl 2 hL rfl rfl ?_ | refine LdReq.ownA hX rfl rfl 3 hL rfl rfl ?_ | refine LdReq.ownA hX rfl rfl 4 hL rfl rfl ?_ | refine LdReq.ownA hX rfl rfl 5 hL rfl rfl ?_ | refine LdReq.ownA hX rfl rfl 6 hL rfl rfl ?_ | (refine StReq.own hX rfl 0 hL rfl rfl rfl rfl ?_; clear hL; intro w hL) | (refine StReq.own hX rfl 1 hL rfl rfl rfl rfl ?_; clear hL; intro w hL) | (refine StReq.own hX rfl 2 hL rfl rfl rfl rfl ?_; clear hL; intro w hL) | (refine StReq.own hX rfl 3 hL rfl rfl rfl rfl ?_; clear hL; intro w hL) | (refine StReq.own hX rfl 4 hL rfl rfl rfl rfl ?_; clear hL; intro w hL) | (refine StReq.own hX rfl 5 hL rfl rfl rfl rfl ?_; clear hL; intro w hL) | (refine StReq.own hX rfl 6 hL rfl rfl rfl rfl ?_; clear hL; intro w hL) | refine ArReq.i64 (by omega) (by omega) ?_ | refine SeqReq.go hX ?_ | refine OptReq.mk rfl ?_); conv => whnf)
        refine CallReq.pure (unpack_fn m5 _ _ hsub hbt (by rw [List.length_take]; omega)) hL ?_
        clear hL
        rintro u m6 w hL hm6 hu
        have hu2 := hu
        obtain ⟨c2, M2, e2', rfl, hM1, -⟩ := hu
        have ht2 := told2 (B := bodyR M) hbl (by rw [List.length_take]; omega) (by rw [List.length_take]; show min k (sealR (bodyR M)).length ≠ _; omega) (fun h => by
          rw [List.length_take] at h
          show (((sealR (bodyR M)).take k).drop 4).take 4 = _
          rw [List.drop_take, List.take_take, Nat.min_eq_left (by omega)]) hu2
        clear hu2
        conv => whnf
        repeat ((first | refine BrReq.tt ?_ | refine BrReq.ff ?_ | refine LdReq.own1 hX rfl rfl 0 hL rfl rfl ?_ | refine LdReq.own1 hX rfl rfl 1 hL rfl rfl ?_ | refine LdReq.own1 hX rfl rfl 2 hL rfl rfl ?_ | refine LdReq.own1 hX rfl rfl 3 hL rfl rfl ?_ | refine LdReq.own1 hX rfl rfl 4 hL rfl rfl ?_ | refine LdReq.own1 hX rfl rfl 5 hL rfl rfl ?_ | refine LdReq.own1 hX rfl rfl 6 hL rfl rfl ?_ | refine LdReq.ownA hX rfl rfl 0 hL rfl rfl ?_ | refine LdReq.ownA hX rfl rfl 1 hL rfl rfl ?_ | refine LdReq.ownA hX rfl rfl 2 hL rfl rfl ?_ | refine LdReq.ownA hX rfl rfl 3 hL rfl rfl ?_ | refine LdReq.ownA hX rfl rfl 4 hL rfl rfl ?_ | refine LdReq.ownA hX rfl rfl 5 hL rfl rfl ?_ | refine LdReq.ownA hX rfl rfl 6 hL rfl rfl ?_ | (refine StReq.own hX rfl 0 hL rfl rfl rfl rfl ?_; clear hL; intro w hL) | (refine StReq.own hX rfl 1 hL rfl rfl rfl rfl ?_; clear hL; intro w hL) | (refine StReq.own hX rfl 2 hL rfl rfl rfl rfl ?_; clear hL; intro w hL) | (refine StReq.own hX rfl 3 hL rfl rfl rfl rfl ?_; clear hL; intro w hL) | (refine StReq.own hX rfl 4 hL rfl rfl rfl rfl ?_; clear hL; intro w hL) | (refine StReq.own hX rfl 5 hL rfl rfl rfl rfl ?_; clear hL; intro w hL) | (refine StReq.own hX rfl 6 hL rfl rfl rfl rfl ?_; clear hL; intro w hL) | refine ArReq.i64 (by omega) (by omega) ?_ | refine SeqReq.go hX ?_ | refine OptReq.mk rfl ?_); conv => whnf)
        refine NewReq.mk hL ?_
        clear hL
        intro b12 w hL
        conv => whnf
        refine StReq.whole hX rfl 0 hL rfl rfl hM1.size hM1.one ?_
        clear hL
        intro w hL
        replace hL := hL.drop
        have hs6 := hs5.le' hm6
        replace hs6 : SlI m6 .u8 (.slice A4 n4 c4) (packR M) := hs6
        conv => whnf
        repeat ((first | refine BrReq.tt ?_ | refine BrReq.ff ?_ | refine LdReq.own1 hX rfl rfl 0 hL rfl rfl ?_ | refine LdReq.own1 hX rfl rfl 1 hL rfl rfl ?_ | refine LdReq.own1 hX rfl rfl 2 hL rfl rfl ?_ | refine LdReq.own1 hX rfl rfl 3 hL rfl rfl ?_ | refine LdReq.own1 hX rfl rfl 4 hL rfl rfl ?_ | refine LdReq.own1 hX rfl rfl 5 hL rfl rfl ?_ | refine LdReq.own1 hX rfl rfl 6 hL rfl rfl ?_ | refine LdReq.ownA hX rfl rfl 0 hL rfl rfl ?_ | refine LdReq.ownA hX rfl rfl 1 hL rfl rfl ?_ | refine LdReq.ownA hX rfl rfl 2 hL rfl rfl ?_ | refine LdReq.ownA hX rfl rfl 3 hL rfl rfl ?_ | refine LdReq.ownA hX rfl rfl 4 hL rfl rfl ?_ | refine LdReq.ownA hX rfl rfl 5 hL rfl rfl ?_ | refine LdReq.ownA hX rfl rfl 6 hL rfl rfl ?_ | (refine StReq.own hX rfl 0 hL rfl rfl rfl rfl ?_; clear hL; intro w hL) | (refine StReq.own hX rfl 1 hL rfl rfl rfl rfl ?_; clear hL; intro w hL) | (refine StReq.own hX rfl 2 hL rfl rfl rfl rfl ?_; clear hL; intro w hL) | (refine StReq.own hX rfl 3 hL rfl rfl rfl rfl ?_; clear hL; intro w hL) | (refine StReq.own hX rfl 4 hL rfl rfl rfl rfl ?_; clear hL; intro w hL) | (refine StReq.own hX rfl 5 hL rfl rfl rfl rfl ?_; clear hL; intro w hL) | (refine StReq.own hX rfl 6 hL rfl rfl rfl rfl ?_; clear hL; intro w hL) | refine ArReq.i64 (by omega) (by omega) ?_ | refine SeqReq.go hX ?_ | refine OptReq.mk rfl ?_); conv => whnf)
        refine NewReq.mk hL ?_
        clear hL
        intro g w hL
        conv => whnf
        replace hL : Ev.Loc m [] w0 m6 ([(g, .cells (toArr []) 5 (0, 0))] ++ []) w := hL
        conv => whnf
        repeat ((first | refine BrReq.tt ?_ | refine BrReq.ff ?_ | refine LdReq.own1 hX rfl rfl 0 hL rfl rfl ?_ | refine LdReq.own1 hX rfl rfl 1 hL rfl rfl ?_ | refine LdReq.own1 hX rfl rfl 2 hL rfl rfl ?_ | refine LdReq.own1 hX rfl rfl 3 hL rfl rfl ?_ | refine LdReq.own1 hX rfl rfl 4 hL rfl rfl ?_ | refine LdReq.own1 hX rfl rfl 5 hL rfl rfl ?_ | refine LdReq.own1 hX rfl rfl 6 hL rfl rfl ?_ | refine LdReq.ownA hX rfl rfl 0 hL rfl rfl ?_ | refine LdReq.ownA hX rfl rfl 1 hL rfl rfl ?_ | refine LdReq.ownA hX rfl rfl 2 hL rfl rfl ?_ | refine LdReq.ownA hX rfl rfl 3 hL rfl rfl ?_ | refine LdReq.ownA hX rfl rfl 4 hL rfl rfl ?_ | refine LdReq.ownA hX rfl rfl 5 hL rfl rfl ?_ | refine LdReq.ownA hX rfl rfl 6 hL rfl rfl ?_ | (refine StReq.own hX rfl 0 hL rfl rfl rfl rfl ?_; clear hL; intro w hL) | (refine StReq.own hX rfl 1 hL rfl rfl rfl rfl ?_; clear hL; intro w hL) | (refine StReq.own hX rfl 2 hL rfl rfl rfl rfl ?_; clear hL; intro w hL) | (refine StReq.own hX rfl 3 hL rfl rfl rfl rfl ?_; clear hL; intro w hL) | (refine StReq.own hX rfl 4 hL rfl rfl rfl rfl ?_; clear hL; intro w hL) | (refine StReq.own hX rfl 5 hL rfl rfl rfl rfl ?_; clear hL; intro w hL) | (refine StReq.own hX rfl 6 hL rfl rfl rfl rfl ?_; clear hL; intro w hL) | refine ArReq.i64 (by omega) (by omega) ?_ | refine SeqReq.go hX ?_ | refine OptReq.mk rfl ?_); conv => whnf)
        refine RunReq.append hX 22 5 rfl rfl rfl rfl rfl (OwnS.full (g := g) (n := 0) (cur := []) (by decide) rfl) hL (k := n4) (news := ints .u8 (packR M)) (by simp [ints]; exact hn4.symm) (hs6.src hL).2 (byte_cells _) (by simp [ints]; show (sealR (bodyR M)).length ≤ _; omega) rfl ?_
        clear hL
        intro A5 n5 c5 L1 w hn5 ho5 hL
        replace ho5 : OwnS 5 1 (.slice A5 n5 c5) (ints .u8 (sealR (bodyR M))) L1 := ho5
        replace hn5 : n5 = (sealR (bodyR M)).length := by simp [ints] at hn5; exact hn5.symm
        conv => whnf
        repeat ((first | refine BrReq.tt ?_ | refine BrReq.ff ?_ | refine LdReq.own1 hX rfl rfl 0 hL rfl rfl ?_ | refine LdReq.own1 hX rfl rfl 1 hL rfl rfl ?_ | refine LdReq.own1 hX rfl rfl 2 hL rfl rfl ?_ | refine LdReq.own1 hX rfl rfl 3 hL rfl rfl ?_ | refine LdReq.own1 hX rfl rfl 4 hL rfl rfl ?_ | refine LdReq.own1 hX rfl rfl 5 hL rfl rfl ?_ | refine LdReq.own1 hX rfl rfl 6 hL rfl rfl ?_ | refine LdReq.ownA hX rfl rfl 0 hL rfl rfl ?_ | refine LdReq.ownA hX rfl rfl 1 hL rfl rfl ?_ | refine LdReq.ownA hX rfl rfl 2 hL rfl rfl ?_ | refine LdReq.ownA hX rfl rfl 3 hL rfl rfl ?_ | refine LdReq.ownA hX rfl rfl 4 hL rfl rfl ?_ | refine LdReq.ownA hX rfl rfl 5 hL rfl rfl ?_ | refine LdReq.ownA hX rfl rfl 6 hL rfl rfl ?_ | (refine StReq.own hX rfl 0 hL rfl rfl rfl rfl ?_; clear hL; intro w hL) | (refine StReq.own hX rfl 1 hL rfl rfl rfl rfl ?_; clear hL; intro w hL) | (refine StReq.own hX rfl 2 hL rfl rfl rfl rfl ?_; clear hL; intro w hL) | (refine StReq.own hX rfl 3 hL rfl rfl rfl rfl ?_; clear hL; intro w hL) | (refine StReq.own hX rfl 4 hL rfl rfl rfl rfl ?_; clear hL; intro w hL) | (refine StReq.own hX rfl 5 hL rfl rfl rfl rfl ?_; clear hL; intro w hL) | (refine StReq.own hX rfl 6 hL rfl rfl rfl rfl ?_; clear hL; intro w hL) | refine ArReq.i64 (by omega) (by omega) ?_ | refine SeqReq.go hX ?_ | refine OptReq.mk rfl ?_); conv => whnf)
        refine NewReq.mk hL ?_
        clear hL
        intro g2 w hL
        conv => whnf
        replace hL : Ev.Loc m [] w0 m6 ((g2, .cells (toArr [.int .u8 by_]) 5 (0, 0)) :: (L1 ++ [])) w := hL
        conv => whnf
        repeat ((first | refine BrReq.tt ?_ | refine BrReq.ff ?_ | refine LdReq.own1 hX rfl rfl 0 hL rfl rfl ?_ | refine LdReq.own1 hX rfl rfl 1 hL rfl rfl ?_ | refine LdReq.own1 hX rfl rfl 2 hL rfl rfl ?_ | refine LdReq.own1 hX rfl rfl 3 hL rfl rfl ?_ | refine LdReq.own1 hX rfl rfl 4 hL rfl rfl ?_ | refine LdReq.own1 hX rfl rfl 5 hL rfl rfl ?_ | refine LdReq.own1 hX rfl rfl 6 hL rfl rfl ?_ | refine LdReq.ownA hX rfl rfl 0 hL rfl rfl ?_ | refine LdReq.ownA hX rfl rfl 1 hL rfl rfl ?_ | refine LdReq.ownA hX rfl rfl 2 hL rfl rfl ?_ | refine LdReq.ownA hX rfl rfl 3 hL rfl rfl ?_ | refine LdReq.ownA hX rfl rfl 4 hL rfl rfl ?_ | refine LdReq.ownA hX rfl rfl 5 hL rfl rfl ?_ | refine LdReq.ownA hX rfl rfl 6 hL rfl rfl ?_ | (refine StReq.own hX rfl 0 hL rfl rfl rfl rfl ?_; clear hL; intro w hL) | (refine StReq.own hX rfl 1 hL rfl rfl rfl rfl ?_; clear hL; intro w hL) | (refine StReq.own hX rfl 2 hL rfl rfl rfl rfl ?_; clear hL; intro w hL) | (refine StReq.own hX rfl 3 hL rfl rfl rfl rfl ?_; clear hL; intro w hL) | (refine StReq.own hX rfl 4 hL rfl rfl rfl rfl ?_; clear hL; intro w hL) | (refine StReq.own hX rfl 5 hL rfl rfl rfl rfl ?_; clear hL; intro w hL) | (refine StReq.own hX rfl 6 hL rfl rfl rfl rfl ?_; clear hL; intro w hL) | refine ArReq.i64 (by omega) (by omega) ?_ | refine SeqReq.go hX ?_ | refine OptReq.mk rfl ?_); conv => whnf)
        refine RunReq.push hX 22 5 rfl rfl rfl rfl rfl ho5 hL rfl rfl (by simp [ints]; omega) rfl ?_
        clear hL
        intro A6 n6 c6 L2 w hn6 ho6 hL
        replace ho6 : OwnS 5 1 (.slice A6 n6 c6) (ints .u8 (sealR (bodyR M)) ++ ints .u8 [by_]) L2 := ho6
        rw [← ints_append] at ho6
        obtain ⟨m7, hL, hm7, hs7⟩ := ho6.freeze hL
        have hby7 : Byt (sealR (bodyR M) ++ [by_]) := two_bytes hsb (by intro y hy; simp at hy; subst hy; exact hby)
        conv => whnf
        repeat ((first | refine BrReq.tt ?_ | refine BrReq.ff ?_ | refine LdReq.own1 hX rfl rfl 0 hL rfl rfl ?_ | refine LdReq.own1 hX rfl rfl 1 hL rfl rfl ?_ | refine LdReq.own1 hX rfl rfl 2 hL rfl rfl ?_ | refine LdReq.own1 hX rfl rfl 3 hL rfl rfl ?_ | refine LdReq.own1 hX rfl rfl 4 hL rfl rfl ?_ | refine LdReq.own1 hX rfl rfl 5 hL rfl rfl ?_ | refine LdReq.own1 hX rfl rfl 6 hL rfl rfl ?_ | refine LdReq.ownA hX rfl rfl 0 hL rfl rfl ?_ | refine LdReq.ownA hX rfl rfl 1 hL rfl rfl ?_ | refine LdReq.ownA hX rfl rfl 2 hL rfl rfl ?_ | refine LdReq.ownA hX rfl rfl 3 hL rfl rfl ?_ | refine LdReq.ownA hX rfl rfl 4 hL rfl rfl ?_ | refine LdReq.ownA hX rfl rfl 5 hL rfl rfl ?_ | refine LdReq.ownA hX rfl rfl 6 hL rfl rfl ?_ | (refine StReq.own hX rfl 0 hL rfl rfl rfl rfl ?_; clear hL; intro w hL) | (refine StReq.own hX rfl 1 hL rfl rfl rfl rfl ?_; clear hL; intro w hL) | (refine StReq.own hX rfl 2 hL rfl rfl rfl rfl ?_; clear hL; intro w hL) | (refine StReq.own hX rfl 3 hL rfl rfl rfl rfl ?_; clear hL; intro w hL) | (refine StReq.own hX rfl 4 hL rfl rfl rfl rfl ?_; clear hL; intro w hL) | (refine StReq.own hX rfl 5 hL rfl rfl rfl rfl ?_; clear hL; intro w hL) | (refine StReq.own hX rfl 6 hL rfl rfl rfl rfl ?_; clear hL; intro w hL) | refine ArReq.i64 (by omega) (by omega) ?_ | refine SeqReq.go hX ?_ | refine OptReq.mk rfl ?_); conv => whnf)
        refine CallReq.pure (unpack_fn m7 _ _ hs7 hby7 (by simp; omega)) hL ?_
        clear hL
        rintro u m8 w hL hm8 hu
        have hu3 := hu
        obtain ⟨c3, M3, e3', rfl, hM1, -⟩ := hu
        have ht3 := told2 (B := bodyR M) hbl (by simp; omega) (by simp) (fun h => by
          rw [List.drop_append_of_le_length (by omega), List.take_append_of_le_length (by rw [List.length_drop]; omega)]) hu3
        clear hu3
        conv => whnf
        repeat ((first | refine BrReq.tt ?_ | refine BrReq.ff ?_ | refine LdReq.own1 hX rfl rfl 0 hL rfl rfl ?_ | refine LdReq.own1 hX rfl rfl 1 hL rfl rfl ?_ | refine LdReq.own1 hX rfl rfl 2 hL rfl rfl ?_ | refine LdReq.own1 hX rfl rfl 3 hL rfl rfl ?_ | refine LdReq.own1 hX rfl rfl 4 hL rfl rfl ?_ | refine LdReq.own1 hX rfl rfl 5 hL rfl rfl ?_ | refine LdReq.own1 hX rfl rfl 6 hL rfl rfl ?_ | refine LdReq.ownA hX rfl rfl 0 hL rfl rfl ?_ | refine LdReq.ownA hX rfl rfl 1 hL rfl rfl ?_ | refine LdReq.ownA hX rfl rfl 2 hL rfl rfl ?_ | refine LdReq.ownA hX rfl rfl 3 hL rfl rfl ?_ | refine LdReq.ownA hX rfl rfl 4 hL rfl rfl ?_ | refine LdReq.ownA hX rfl rfl 5 hL rfl rfl ?_ | refine LdReq.ownA hX rfl rfl 6 hL rfl rfl ?_ | (refine StReq.own hX rfl 0 hL rfl rfl rfl rfl ?_; clear hL; intro w hL) | (refine StReq.own hX rfl 1 hL rfl rfl rfl rfl ?_; clear hL; intro w hL) | (refine StReq.own hX rfl 2 hL rfl rfl rfl rfl ?_; clear hL; intro w hL) | (refine StReq.own hX rfl 3 hL rfl rfl rfl rfl ?_; clear hL; intro w hL) | (refine StReq.own hX rfl 4 hL rfl rfl rfl rfl ?_; clear hL; intro w hL) | (refine StReq.own hX rfl 5 hL rfl rfl rfl rfl ?_; clear hL; intro w hL) | (refine StReq.own hX rfl 6 hL rfl rfl rfl rfl ?_; clear hL; intro w hL) | refine ArReq.i64 (by omega) (by omega) ?_ | refine SeqReq.go hX ?_ | refine OptReq.mk rfl ?_); conv => whnf)
        refine NewReq.mk hL ?_
        clear hL
        intro b12 w hL
        conv => whnf
        refine StReq.whole hX rfl 0 hL rfl rfl hM1.size hM1.one ?_
        clear hL
        intro w hL
        replace hL := hL.drop
        subst ht2 ht3
        conv => whnf
        repeat ((first | refine BrReq.tt ?_ | refine BrReq.ff ?_ | refine LdReq.own1 hX rfl rfl 0 hL rfl rfl ?_ | refine LdReq.own1 hX rfl rfl 1 hL rfl rfl ?_ | refine LdReq.own1 hX rfl rfl 2 hL rfl rfl ?_ | refine LdReq.own1 hX rfl rfl 3 hL rfl rfl ?_ | refine LdReq.own1 hX rfl rfl 4 hL rfl rfl ?_ | refine LdReq.own1 hX rfl rfl 5 hL rfl rfl ?_ | refine LdReq.own1 hX rfl rfl 6 hL rfl rfl ?_ | refine LdReq.ownA hX rfl rfl 0 hL rfl rfl ?_ | refine LdReq.ownA hX rfl rfl 1 hL rfl rfl ?_ | refine LdReq.ownA hX rfl rfl 2 hL rfl rfl ?_ | refine LdReq.ownA hX rfl rfl 3 hL rfl rfl ?_ | refine LdReq.ownA hX rfl rfl 4 hL rfl rfl ?_ | refine LdReq.ownA hX rfl rfl 5 hL rfl rfl ?_ | refine LdReq.ownA hX rfl rfl 6 hL rfl rfl ?_ | (refine StReq.own hX rfl 0 hL rfl rfl rfl rfl ?_; clear hL; intro w hL) | (refine StReq.own hX rfl 1 hL rfl rfl rfl rfl ?_; clear hL; intro w hL) | (refine StReq.own hX rfl 2 hL rfl rfl rfl rfl ?_; clear hL; intro w hL) | (refine StReq.own hX rfl 3 hL rfl rfl rfl rfl ?_; clear hL; intro w hL) | (refine StReq.own hX rfl 4 hL rfl rfl rfl rfl ?_; clear hL; intro w hL) | (refine StReq.own hX rfl 5 hL rfl rfl rfl rfl ?_; clear hL; intro w hL) | (refine StReq.own hX rfl 6 hL rfl rfl rfl rfl ?_; clear hL; intro w hL) | refine ArReq.i64 (by omega) (by omega) ?_ | refine SeqReq.go hX ?_ | refine OptReq.mk rfl ?_); conv => whnf)
        refine BrReq.dec (fun h9 => ?_) (fun h9 => absurd ht1 h9)
        conv => whnf
        repeat ((first | refine BrReq.tt ?_ | refine BrReq.ff ?_ | refine LdReq.own1 hX rfl rfl 0 hL rfl rfl ?_ | refine LdReq.own1 hX rfl rfl 1 hL rfl rfl ?_ | refine LdReq.own1 hX rfl rfl 2 hL rfl rfl ?_ | refine LdReq.own1 hX rfl rfl 3 hL rfl rfl ?_ | refine LdReq.own1 hX rfl rfl 4 hL rfl rfl ?_ | refine LdReq.own1 hX rfl rfl 5 hL rfl rfl ?_ | refine LdReq.own1 hX rfl rfl 6 hL rfl rfl ?_ | refine LdReq.ownA hX rfl rfl 0 hL rfl rfl ?_ | refine LdReq.ownA hX rfl rfl 1 hL rfl rfl ?_ | refine LdReq.ownA hX rfl rfl 2 hL rfl rfl ?_ | refine LdReq.ownA hX rfl rfl 3 hL rfl rfl ?_ | refine LdReq.ownA hX rfl rfl 4 hL rfl rfl ?_ | refine LdReq.ownA hX rfl rfl 5 hL rfl rfl ?_ | refine LdReq.ownA hX rfl rfl 6 hL rfl rfl ?_ | (refine StReq.own hX rfl 0 hL rfl rfl rfl rfl ?_; clear hL; intro w hL) | (refine StReq.own hX rfl 1 hL rfl rfl rfl rfl ?_; clear hL; intro w hL) | (refine StReq.own hX rfl 2 hL rfl rfl rfl rfl ?_; clear hL; intro w hL) | (refine StReq.own hX rfl 3 hL rfl rfl rfl rfl ?_; clear hL; intro w hL) | (refine StReq.own hX rfl 4 hL rfl rfl rfl rfl ?_; clear hL; intro w hL) | (refine StReq.own hX rfl 5 hL rfl rfl rfl rfl ?_; clear hL; intro w hL) | (refine StReq.own hX rfl 6 hL rfl rfl rfl rfl ?_; clear hL; intro w hL) | refine ArReq.i64 (by omega) (by omega) ?_ | refine SeqReq.go hX ?_ | refine OptReq.mk rfl ?_); conv => whnf)
        exact RetReq.mk hL ⟨rfl, rfl⟩

theorem contract (m : Mem) (vs : List Value) (hl : vs.length = Try.f5.params.size) (hg : ∀ (j : Nat) t v, Try.f5.params.toList[j]? = some t → vs[j]? = some v → Given X m t v) :
    Ev.Fn Try.prog 5 vs m [] fun _ _ v => v = .bool true := by
  match vs, hl with
  | [vm, va, vb, vc], _ =>
    obtain ⟨cs, M, rfl, hM⟩ := given_mc (hg 0 30 vm rfl rfl)
    obtain ⟨a, rfl, ha⟩ := (hg 1 41 va rfl rfl).int (k := .u16) rfl rfl
    obtain ⟨b, rfl, hb⟩ := (hg 2 5 vb rfl rfl).int (k := .u8) rfl rfl
    obtain ⟨c, rfl, hc⟩ := (hg 3 41 vc rfl rfl).int (k := .u16) rfl rfl
    exact (walk m cs M hM a b c ha hb hc).mono fun _ _ _ _ h => h.2

theorem spec (H : Type) (ds : List (DataW H)) (h : ds.length = Try.f5.params.size) : Rows.tableTurnedSpec.fn H ds = { results := [.lit (.bool true)], args := ds } := by
  match ds, h with
  | [_, _, _, _], _ => rfl

set_option maxRecDepth 100000 in
theorem lifted (os : Os) (started : os.Started) (H : Type) (enc : TypeId × Value → H) :
    ReturnsInHanded {} Try.checked os 5 .any (Rows.tableTurnedSpec.pre6 enc Try.prog Try.f5 Rows.tableTurnedRow.domain false) (Rows.tableTurnedSpec.post enc Try.prog Try.f5 false true false false) := by
  refine returnsInHanded_of_change_sized (C := Try.checked) (by kernel_rfl) started (by kernel_rfl) Try.func5
    (ChangeSpec.witness6 (enc := enc) (C := Try.checked) false ⟨#[], #[.agg (toArr (mcC zof 0 0 (.slice none 0 0) (.slice none 0 0))), .int .u16 0, .int .u8 0, .int .u16 0], []⟩ 8 (by kernel_rfl) (by kernel_rfl) (by kernel_rfl) (by kernel_rfl)) ?_
  intro W base args ds gs before hval hW _ hsz _
  exact law_core hX (by kernel_rfl) rfl rfl Try.underlying4 (by decide +kernel) (fun H ds h => spec H ds h) contract W base args ds gs before hval hW hsz

set_option maxRecDepth 100000 in
theorem proved : Rows.TableTurnedSaid :=
  OpenClaim.holds_of_wide 5 Try.f5 rfl rfl rfl rfl rfl rfl rfl ⟨rfl, rfl, rfl, rfl, rfl⟩ rfl rfl rfl rfl rfl (by kernel_rfl) Try.func5 (by kernel_rfl)
    (of_decide_eq_true (by kernel_rfl)) (by unfold Func.isWrapper; first | (rw [if_pos (by decide +kernel)]; kernel_rfl) | (rw [if_neg (by decide +kernel)]; exact ⟨rfl, rfl⟩))
    (fun os started H enc _ => lifted os started H enc)
end Go.Proofs.Ytcofkjameibeoaa.tableTurned
