/- bolterlaw21.ScanPlaces: a place behind bytes is told by their line feeds. Conditions: none. -/
import Derived.Test.YtglkkjgjfgmlaaaTab
import Derived.Test.YtglkkjgjfgmlaaaRows
import Derived.ProofKit
import Derived.SizedLaws

namespace Go.Proofs.Ytglkkjgjfgmlaaa.scanPlaces
open Go Go.Ev Go.Proofs Go.ChangeShapes Go.WideShapes Go.ChangeAt Go.RowKit

/-- behind some bytes -/
def plc : List Int → Nat × Nat × Nat → Nat × Nat × Nat
  | [], p => p
  | b :: l, (a, i, c) => if b = 10 then plc l (a + 1, i + 1, 1) else plc l (a + 1, i, c + 1)

theorem plc_append (l r : List Int) : ∀ p, plc (l ++ r) p = plc r (plc l p) := by
  induction l with
  | nil => intro ⟨a, i, c⟩; simp [plc]
  | cons x l ih => intro ⟨a, i, c⟩; simp only [List.cons_append, plc]; split <;> exact ih _

theorem plc_snoc (l : List Int) (b : Int) (p : Nat × Nat × Nat) : plc (l ++ [b]) p = if b = 10 then ((plc l p).1 + 1, (plc l p).2.1 + 1, 1) else ((plc l p).1 + 1, (plc l p).2.1, (plc l p).2.2 + 1) := by
  rw [plc_append]; simp only [plc]

theorem plc_bound (l : List Int) : ∀ p, (plc l p).1 = p.1 + l.length ∧ (plc l p).2.1 ≤ p.2.1 + l.length ∧ (plc l p).2.2 ≤ p.2.2 + l.length + 1 := by
  induction l with
  | nil => intro ⟨a, i, c⟩; simp [plc]
  | cons x l ih =>
    intro ⟨a, i, c⟩; simp only [plc]
    split
    · have := ih (a + 1, i + 1, 1); simp at *; omega
    · have := ih (a + 1, i, c + 1); simp at *; omega

def pv (p : Nat × Nat × Nat) : List Value := [.int .i64 p.1, .int .i64 p.2.1, .int .i64 p.2.2]

theorem eq_i (a b c : Int) : eqB X 9 25 [.int .i64 a, .int .i64 b, .int .i64 c] [.int .i64 a, .int .i64 b, .int .i64 c] = some true := by
  (conv => lhs; whnf)
  simp

theorem start_fn (m : Mem) : FnV Try.prog 14 [] m (.agg (toArr (pv (0, 1, 1)))) := by
  refine Fn.enter (N := 2) hX Try.func14 rfl rfl (by show _ ≤ _; simp) (fun w0 hL => ?_)
  conv => whnf
  refine NewReq.mk hL ?_
  clear hL
  intro b0 w hL
  conv => whnf
  conv => whnf
  repeat (first
    | (refine BrReq.tt ?_; conv => whnf)
    | (refine BrReq.ff ?_; conv => whnf)
    | (refine LdReq.own1 hX rfl rfl 0 hL rfl rfl ?_; conv => whnf)
    | (refine LdReq.own1 hX rfl rfl 1 hL rfl rfl ?_; conv => whnf)
    | (refine LdReq.own1 hX rfl rfl 2 hL rfl rfl ?_; conv => whnf)
    | (refine LdReq.own1 hX rfl rfl 3 hL rfl rfl ?_; conv => whnf)
    | (refine LdReq.own1 hX rfl rfl 4 hL rfl rfl ?_; conv => whnf)
    | (refine LdReq.own1 hX rfl rfl 5 hL rfl rfl ?_; conv => whnf)
    | (refine LdReq.own1 hX rfl rfl 6 hL rfl rfl ?_; conv => whnf)
    | (refine LdReq.ownA hX rfl rfl 0 hL rfl rfl ?_; conv => whnf)
    | (refine LdReq.ownA hX rfl rfl 1 hL rfl rfl ?_; conv => whnf)
    | (refine LdReq.ownA hX rfl rfl 2 hL rfl rfl ?_; conv => whnf)
    | (refine LdReq.ownA hX rfl rfl 3 hL rfl rfl ?_; conv => whnf)
    | (refine LdReq.ownA hX rfl rfl 4 hL rfl rfl ?_; conv => whnf)
    | (refine LdReq.ownA hX rfl rfl 5 hL rfl rfl ?_; conv => whnf)
    | (refine LdReq.ownA hX rfl rfl 6 hL rfl rfl ?_; conv => whnf)
    | (refine StReq.own hX rfl 0 hL rfl rfl rfl rfl ?_; clear hL; intro w hL; conv => whnf)
    | (refine StReq.own hX rfl 1 hL rfl rfl rfl rfl ?_; clear hL; intro w hL; conv => whnf)
    | (refine StReq.own hX rfl 2 hL rfl rfl rfl rfl ?_; clear hL; intro w hL; conv => whnf)
    | (refine StReq.own hX rfl 3 hL rfl rfl rfl rfl ?_; clear hL; intro w hL; conv => whnf)
    | (refine StReq.own hX rfl 4 hL rfl rfl rfl rfl ?_; clear hL; intro w hL; conv => whnf)
    | (refine StReq.own hX rfl 5 hL rfl rfl rfl rfl ?_; clear hL; intro w hL; conv => whnf)
    | (refine StReq.own hX rfl 6 hL rfl rfl rfl rfl ?_; clear hL; intro w hL; conv => whnf)
    | (refine ArReq.i64 (by omega) (by omega) ?_; conv => whnf)
    | (refine SeqReq.go hX ?_; conv => whnf)
    | (refine OptReq.mk rfl ?_; conv => whnf))
  exact RetReq.mk hL.drop ⟨rfl, rfl⟩

theorem awake_fn (m : Mem) : FnV Try.prog 13 [] m (.bool true) := by
  refine Fn.enter (N := 4) hX Try.func13 rfl rfl (by show _ ≤ _; simp) (fun w0 hL => ?_)
  conv => whnf
  conv => whnf
  repeat (first
    | (refine CallReq.val (start_fn m) hL ?_; clear hL; intro w hL; conv => whnf)
    | (refine UGenReq.eqA hX rfl rfl rfl Try.eqGuardType25 rfl rfl rfl ?_; conv => whnf)
    | (refine BrReq.tt ?_; conv => whnf)
    | (refine BrReq.ff ?_; conv => whnf)
    | (refine LdReq.own1 hX rfl rfl 0 hL rfl rfl ?_; conv => whnf)
    | (refine LdReq.own1 hX rfl rfl 1 hL rfl rfl ?_; conv => whnf)
    | (refine LdReq.own1 hX rfl rfl 2 hL rfl rfl ?_; conv => whnf)
    | (refine LdReq.own1 hX rfl rfl 3 hL rfl rfl ?_; conv => whnf)
    | (refine LdReq.own1 hX rfl rfl 4 hL rfl rfl ?_; conv => whnf)
    | (refine LdReq.own1 hX rfl rfl 5 hL rfl rfl ?_; conv => whnf)
    | (refine LdReq.own1 hX rfl rfl 6 hL rfl rfl ?_; conv => whnf)
    | (refine LdReq.ownA hX rfl rfl 0 hL rfl rfl ?_; conv => whnf)
    | (refine LdReq.ownA hX rfl rfl 1 hL rfl rfl ?_; conv => whnf)
    | (refine LdReq.ownA hX rfl rfl 2 hL rfl rfl ?_; conv => whnf)
    | (refine LdReq.ownA hX rfl rfl 3 hL rfl rfl ?_; conv => whnf)
    | (refine LdReq.ownA hX rfl rfl 4 hL rfl rfl ?_; conv => whnf)
    | (refine LdReq.ownA hX rfl rfl 5 hL rfl rfl ?_; conv => whnf)
    | (refine LdReq.ownA hX rfl rfl 6 hL rfl rfl ?_; conv => whnf)
    | (refine StReq.own hX rfl 0 hL rfl rfl rfl rfl ?_; clear hL; intro w hL; conv => whnf)
    | (refine StReq.own hX rfl 1 hL rfl rfl rfl rfl ?_; clear hL; intro w hL; conv => whnf)
    | (refine StReq.own hX rfl 2 hL rfl rfl rfl rfl ?_; clear hL; intro w hL; conv => whnf)
    | (refine StReq.own hX rfl 3 hL rfl rfl rfl rfl ?_; clear hL; intro w hL; conv => whnf)
    | (refine StReq.own hX rfl 4 hL rfl rfl rfl rfl ?_; clear hL; intro w hL; conv => whnf)
    | (refine StReq.own hX rfl 5 hL rfl rfl rfl rfl ?_; clear hL; intro w hL; conv => whnf)
    | (refine StReq.own hX rfl 6 hL rfl rfl rfl rfl ?_; clear hL; intro w hL; conv => whnf)
    | (refine ArReq.i64 (by omega) (by omega) ?_; conv => whnf)
    | (refine SeqReq.go hX ?_; conv => whnf)
    | (refine OptReq.mk rfl ?_; conv => whnf))
  exact RetReq.mk hL ⟨rfl, rfl⟩

theorem behind_fn (m : Mem) (p : Nat × Nat × Nat) (v : Value) (zs : List Int) (hr : SlI m .u8 v zs)
   (h1 : p.1 ≤ 1000000) (h2 : p.2.1 ≤ 1000000) (h3 : p.2.2 ≤ 1000000) (h4 : zs.length ≤ 1000000) :
    FnV Try.prog 15 [.agg (toArr (pv p)), v] m (.agg (toArr (pv (plc zs p)))) := by
  obtain ⟨A, len, cap, rfl, _⟩ := id hr
  obtain ⟨hl, hcell⟩ := hr.cell
  refine Fn.enter (N := 30) hX Try.func15 rfl rfl (by show _ ≤ _; simp) (fun w0 hL => ?_)
  conv => whnf
  refine NewReq.mk hL ?_
  clear hL
  intro b0 w hL
  conv => whnf
  refine NewReq.mk hL ?_
  clear hL
  intro b1 w hL
  conv => whnf
  refine SeqReq.go hX ?_
  conv => whnf
  refine LoopReq.inv hX (fun k : Nat => [(9, .int .i64 k)]) [2, 4, 7, 8]
    (fun k w => k ≤ len ∧ Ev.Loc m [] w0 m [(b1, .cells (toArr (pv (0, 0, 0))) 25 (0, 0)), (b0, .cells (toArr (pv (plc (zs.take k) p))) 25 (0, 0))] w) (fun k => len - k) 0 ⟨by omega, hL⟩ ⟨rfl, trivial⟩ ?_
  clear hL
  rintro k w f ⟨hk, hL⟩
  have hb1 := plc_bound (zs.take k) p
  have hl1 : (zs.take k).length ≤ k := List.length_take_le _ _
  conv => whnf
  repeat (first
    | (refine BrReq.tt ?_; conv => whnf)
    | (refine BrReq.ff ?_; conv => whnf)
    | (refine LdReq.own1 hX rfl rfl 0 hL rfl rfl ?_; conv => whnf)
    | (refine LdReq.own1 hX rfl rfl 1 hL rfl rfl ?_; conv => whnf)
    | (refine LdReq.own1 hX rfl rfl 2 hL rfl rfl ?_; conv => whnf)
    | (refine LdReq.own1 hX rfl rfl 3 hL rfl rfl ?_; conv => whnf)
    | (refine LdReq.own1 hX rfl rfl 4 hL rfl rfl ?_; conv => whnf)
    | (refine LdReq.own1 hX rfl rfl 5 hL rfl rfl ?_; conv => whnf)
    | (refine LdReq.own1 hX rfl rfl 6 hL rfl rfl ?_; conv => whnf)
    | (refine LdReq.ownA hX rfl rfl 0 hL rfl rfl ?_; conv => whnf)
    | (refine LdReq.ownA hX rfl rfl 1 hL rfl rfl ?_; conv => whnf)
    | (refine LdReq.ownA hX rfl rfl 2 hL rfl rfl ?_; conv => whnf)
    | (refine LdReq.ownA hX rfl rfl 3 hL rfl rfl ?_; conv => whnf)
    | (refine LdReq.ownA hX rfl rfl 4 hL rfl rfl ?_; conv => whnf)
    | (refine LdReq.ownA hX rfl rfl 5 hL rfl rfl ?_; conv => whnf)
    | (refine LdReq.ownA hX rfl rfl 6 hL rfl rfl ?_; conv => whnf)
    | (refine StReq.own hX rfl 0 hL rfl rfl rfl rfl ?_; clear hL; intro w hL; conv => whnf)
    | (refine StReq.own hX rfl 1 hL rfl rfl rfl rfl ?_; clear hL; intro w hL; conv => whnf)
    | (refine StReq.own hX rfl 2 hL rfl rfl rfl rfl ?_; clear hL; intro w hL; conv => whnf)
    | (refine StReq.own hX rfl 3 hL rfl rfl rfl rfl ?_; clear hL; intro w hL; conv => whnf)
    | (refine StReq.own hX rfl 4 hL rfl rfl rfl rfl ?_; clear hL; intro w hL; conv => whnf)
    | (refine StReq.own hX rfl 5 hL rfl rfl rfl rfl ?_; clear hL; intro w hL; conv => whnf)
    | (refine StReq.own hX rfl 6 hL rfl rfl rfl rfl ?_; clear hL; intro w hL; conv => whnf)
    | (refine ArReq.i64 (by omega) (by omega) ?_; conv => whnf)
    | (refine SeqReq.go hX ?_; conv => whnf)
    | (refine OptReq.mk rfl ?_; conv => whnf))
  refine BrReq.dec (fun hlt => ?_) (fun hlt => ?_)
  · have hlt' : k < len := by omega
    have hz : zs[k]? = some zs[k] := List.getElem?_eq_getElem (by omega)
    have e : zs.take (k + 1) = zs.take k ++ [zs[k]] := List.take_succ_eq_append_getElem (by omega)
    have hp := plc_snoc (zs.take k) zs[k] p
    rw [← e] at hp
    obtain ⟨a, rfl, hc⟩ := hcell k _ hz
    conv => whnf
    repeat (first
      | (refine Idx2Req.mk k a rfl hlt' rfl ?_; conv => whnf)
      | (refine LdReq.one hX rfl rfl hL hc ?_; conv => whnf)
      | (refine BrReq.tt ?_; conv => whnf)
      | (refine BrReq.ff ?_; conv => whnf)
      | (refine LdReq.own1 hX rfl rfl 0 hL rfl rfl ?_; conv => whnf)
      | (refine LdReq.own1 hX rfl rfl 1 hL rfl rfl ?_; conv => whnf)
      | (refine LdReq.own1 hX rfl rfl 2 hL rfl rfl ?_; conv => whnf)
      | (refine LdReq.own1 hX rfl rfl 3 hL rfl rfl ?_; conv => whnf)
      | (refine LdReq.own1 hX rfl rfl 4 hL rfl rfl ?_; conv => whnf)
      | (refine LdReq.own1 hX rfl rfl 5 hL rfl rfl ?_; conv => whnf)
      | (refine LdReq.own1 hX rfl rfl 6 hL rfl rfl ?_; conv => whnf)
      | (refine LdReq.ownA hX rfl rfl 0 hL rfl rfl ?_; conv => whnf)
      | (refine LdReq.ownA hX rfl rfl 1 hL rfl rfl ?_; conv => whnf)
      | (refine LdReq.ownA hX rfl rfl 2 hL rfl rfl ?_; conv => whnf)
      | (refine LdReq.ownA hX rfl rfl 3 hL rfl rfl ?_; conv => whnf)
      | (refine LdReq.ownA hX rfl rfl 4 hL rfl rfl ?_; conv => whnf)
      | (refine LdReq.ownA hX rfl rfl 5 hL rfl rfl ?_; conv => whnf)
      | (refine LdReq.ownA hX rfl rfl 6 hL rfl rfl ?_; conv => whnf)
      | (refine StReq.own hX rfl 0 hL rfl rfl rfl rfl ?_; clear hL; intro w hL; conv => whnf)
      | (refine StReq.own hX rfl 1 hL rfl rfl rfl rfl ?_; clear hL; intro w hL; conv => whnf)
      | (refine StReq.own hX rfl 2 hL rfl rfl rfl rfl ?_; clear hL; intro w hL; conv => whnf)
      | (refine StReq.own hX rfl 3 hL rfl rfl rfl rfl ?_; clear hL; intro w hL; conv => whnf)
      | (refine StReq.own hX rfl 4 hL rfl rfl rfl rfl ?_; clear hL; intro w hL; conv => whnf)
      | (refine StReq.own hX rfl 5 hL rfl rfl rfl rfl ?_; clear hL; intro w hL; conv => whnf)
      | (refine StReq.own hX rfl 6 hL rfl rfl rfl rfl ?_; clear hL; intro w hL; conv => whnf)
      | (refine ArReq.i64 (by omega) (by omega) ?_; conv => whnf)
      | (refine SeqReq.go hX ?_; conv => whnf)
      | (refine OptReq.mk rfl ?_; conv => whnf))
    refine BrReq.dec (fun h10 => ?_) (fun h10 => ?_)
    · rw [if_pos h10] at hp
      conv => whnf
      repeat (first
        | (refine BrReq.tt ?_; conv => whnf)
        | (refine BrReq.ff ?_; conv => whnf)
        | (refine LdReq.own1 hX rfl rfl 0 hL rfl rfl ?_; conv => whnf)
        | (refine LdReq.own1 hX rfl rfl 1 hL rfl rfl ?_; conv => whnf)
        | (refine LdReq.own1 hX rfl rfl 2 hL rfl rfl ?_; conv => whnf)
        | (refine LdReq.own1 hX rfl rfl 3 hL rfl rfl ?_; conv => whnf)
        | (refine LdReq.own1 hX rfl rfl 4 hL rfl rfl ?_; conv => whnf)
        | (refine LdReq.own1 hX rfl rfl 5 hL rfl rfl ?_; conv => whnf)
        | (refine LdReq.own1 hX rfl rfl 6 hL rfl rfl ?_; conv => whnf)
        | (refine LdReq.ownA hX rfl rfl 0 hL rfl rfl ?_; conv => whnf)
        | (refine LdReq.ownA hX rfl rfl 1 hL rfl rfl ?_; conv => whnf)
        | (refine LdReq.ownA hX rfl rfl 2 hL rfl rfl ?_; conv => whnf)
        | (refine LdReq.ownA hX rfl rfl 3 hL rfl rfl ?_; conv => whnf)
        | (refine LdReq.ownA hX rfl rfl 4 hL rfl rfl ?_; conv => whnf)
        | (refine LdReq.ownA hX rfl rfl 5 hL rfl rfl ?_; conv => whnf)
        | (refine LdReq.ownA hX rfl rfl 6 hL rfl rfl ?_; conv => whnf)
        | (refine StReq.own hX rfl 0 hL rfl rfl rfl rfl ?_; clear hL; intro w hL; conv => whnf)
        | (refine StReq.own hX rfl 1 hL rfl rfl rfl rfl ?_; clear hL; intro w hL; conv => whnf)
        | (refine StReq.own hX rfl 2 hL rfl rfl rfl rfl ?_; clear hL; intro w hL; conv => whnf)
        | (refine StReq.own hX rfl 3 hL rfl rfl rfl rfl ?_; clear hL; intro w hL; conv => whnf)
        | (refine StReq.own hX rfl 4 hL rfl rfl rfl rfl ?_; clear hL; intro w hL; conv => whnf)
        | (refine StReq.own hX rfl 5 hL rfl rfl rfl rfl ?_; clear hL; intro w hL; conv => whnf)
        | (refine StReq.own hX rfl 6 hL rfl rfl rfl rfl ?_; clear hL; intro w hL; conv => whnf)
        | (refine ArReq.i64 (by omega) (by omega) ?_; conv => whnf)
        | (refine SeqReq.go hX ?_; conv => whnf)
        | (refine OptReq.mk rfl ?_; conv => whnf))
      refine ⟨k + 1, ⟨by omega, ?_⟩, by omega, ⟨rfl, trivial⟩, rfl, rfl, rfl, rfl, trivial⟩
      rw [hp]
      exact hL
    · rw [if_neg h10] at hp
      conv => whnf
      repeat (first
        | (refine BrReq.tt ?_; conv => whnf)
        | (refine BrReq.ff ?_; conv => whnf)
        | (refine LdReq.own1 hX rfl rfl 0 hL rfl rfl ?_; conv => whnf)
        | (refine LdReq.own1 hX rfl rfl 1 hL rfl rfl ?_; conv => whnf)
        | (refine LdReq.own1 hX rfl rfl 2 hL rfl rfl ?_; conv => whnf)
        | (refine LdReq.own1 hX rfl rfl 3 hL rfl rfl ?_; conv => whnf)
        | (refine LdReq.own1 hX rfl rfl 4 hL rfl rfl ?_; conv => whnf)
        | (refine LdReq.own1 hX rfl rfl 5 hL rfl rfl ?_; conv => whnf)
        | (refine LdReq.own1 hX rfl rfl 6 hL rfl rfl ?_; conv => whnf)
        | (refine LdReq.ownA hX rfl rfl 0 hL rfl rfl ?_; conv => whnf)
        | (refine LdReq.ownA hX rfl rfl 1 hL rfl rfl ?_; conv => whnf)
        | (refine LdReq.ownA hX rfl rfl 2 hL rfl rfl ?_; conv => whnf)
        | (refine LdReq.ownA hX rfl rfl 3 hL rfl rfl ?_; conv => whnf)
        | (refine LdReq.ownA hX rfl rfl 4 hL rfl rfl ?_; conv => whnf)
        | (refine LdReq.ownA hX rfl rfl 5 hL rfl rfl ?_; conv => whnf)
        | (refine LdReq.ownA hX rfl rfl 6 hL rfl rfl ?_; conv => whnf)
        | (refine StReq.own hX rfl 0 hL rfl rfl rfl rfl ?_; clear hL; intro w hL; conv => whnf)
        | (refine StReq.own hX rfl 1 hL rfl rfl rfl rfl ?_; clear hL; intro w hL; conv => whnf)
        | (refine StReq.own hX rfl 2 hL rfl rfl rfl rfl ?_; clear hL; intro w hL; conv => whnf)
        | (refine StReq.own hX rfl 3 hL rfl rfl rfl rfl ?_; clear hL; intro w hL; conv => whnf)
        | (refine StReq.own hX rfl 4 hL rfl rfl rfl rfl ?_; clear hL; intro w hL; conv => whnf)
        | (refine StReq.own hX rfl 5 hL rfl rfl rfl rfl ?_; clear hL; intro w hL; conv => whnf)
        | (refine StReq.own hX rfl 6 hL rfl rfl rfl rfl ?_; clear hL; intro w hL; conv => whnf)
        | (refine ArReq.i64 (by omega) (by omega) ?_; conv => whnf)
        | (refine SeqReq.go hX ?_; conv => whnf)
        | (refine OptReq.mk rfl ?_; conv => whnf))
      refine ⟨k + 1, ⟨by omega, ?_⟩, by omega, ⟨rfl, trivial⟩, rfl, rfl, rfl, rfl, trivial⟩
      rw [hp]
      exact hL
  · have : k = zs.length := by omega
    subst this
    rw [List.take_length] at hL
    conv => whnf
    repeat (first
      | (refine BrReq.tt ?_; conv => whnf)
      | (refine BrReq.ff ?_; conv => whnf)
      | (refine LdReq.own1 hX rfl rfl 0 hL rfl rfl ?_; conv => whnf)
      | (refine LdReq.own1 hX rfl rfl 1 hL rfl rfl ?_; conv => whnf)
      | (refine LdReq.own1 hX rfl rfl 2 hL rfl rfl ?_; conv => whnf)
      | (refine LdReq.own1 hX rfl rfl 3 hL rfl rfl ?_; conv => whnf)
      | (refine LdReq.own1 hX rfl rfl 4 hL rfl rfl ?_; conv => whnf)
      | (refine LdReq.own1 hX rfl rfl 5 hL rfl rfl ?_; conv => whnf)
      | (refine LdReq.own1 hX rfl rfl 6 hL rfl rfl ?_; conv => whnf)
      | (refine LdReq.ownA hX rfl rfl 0 hL rfl rfl ?_; conv => whnf)
      | (refine LdReq.ownA hX rfl rfl 1 hL rfl rfl ?_; conv => whnf)
      | (refine LdReq.ownA hX rfl rfl 2 hL rfl rfl ?_; conv => whnf)
      | (refine LdReq.ownA hX rfl rfl 3 hL rfl rfl ?_; conv => whnf)
      | (refine LdReq.ownA hX rfl rfl 4 hL rfl rfl ?_; conv => whnf)
      | (refine LdReq.ownA hX rfl rfl 5 hL rfl rfl ?_; conv => whnf)
      | (refine LdReq.ownA hX rfl rfl 6 hL rfl rfl ?_; conv => whnf)
      | (refine StReq.own hX rfl 0 hL rfl rfl rfl rfl ?_; clear hL; intro w hL; conv => whnf)
      | (refine StReq.own hX rfl 1 hL rfl rfl rfl rfl ?_; clear hL; intro w hL; conv => whnf)
      | (refine StReq.own hX rfl 2 hL rfl rfl rfl rfl ?_; clear hL; intro w hL; conv => whnf)
      | (refine StReq.own hX rfl 3 hL rfl rfl rfl rfl ?_; clear hL; intro w hL; conv => whnf)
      | (refine StReq.own hX rfl 4 hL rfl rfl rfl rfl ?_; clear hL; intro w hL; conv => whnf)
      | (refine StReq.own hX rfl 5 hL rfl rfl rfl rfl ?_; clear hL; intro w hL; conv => whnf)
      | (refine StReq.own hX rfl 6 hL rfl rfl rfl rfl ?_; clear hL; intro w hL; conv => whnf)
      | (refine ArReq.i64 (by omega) (by omega) ?_; conv => whnf)
      | (refine SeqReq.go hX ?_; conv => whnf)
      | (refine OptReq.mk rfl ?_; conv => whnf))
    exact RetReq.mk hL.drop.drop ⟨rfl, rfl⟩

set_option maxHeartbeats 4000000 in
theorem walk (m : Mem) (va vb : Value) (xs ys : List Int) (ha : SlI m .u8 va xs) (hb : SlI m .u8 vb ys)
   (ra : xs.length ≤ 140737488351232) (rb : ys.length ≤ 140737488351232) :
    FnV Try.prog 3 [va, vb] m (.bool true) := by
  obtain ⟨A, na, ca, rfl, _⟩ := id ha
  obtain ⟨B, nb, cb, rfl, _⟩ := id hb
  obtain ⟨la, la1, la2⟩ := ha.len
  obtain ⟨lb, lb1, lb2⟩ := hb.len
  have hmx : maxLen = 9223372036854775807 := rfl
  refine Fn.enter (N := 60) hX Try.func3 rfl rfl (by show _ ≤ _; simp) (fun w0 hL => ?_)
  conv => whnf
  conv => whnf
  repeat (first
    | (refine CallReq.val (awake_fn m) hL ?_; clear hL; intro w hL; conv => whnf)
    | (refine BrReq.tt ?_; conv => whnf)
    | (refine BrReq.ff ?_; conv => whnf)
    | (refine LdReq.own1 hX rfl rfl 0 hL rfl rfl ?_; conv => whnf)
    | (refine LdReq.own1 hX rfl rfl 1 hL rfl rfl ?_; conv => whnf)
    | (refine LdReq.own1 hX rfl rfl 2 hL rfl rfl ?_; conv => whnf)
    | (refine LdReq.own1 hX rfl rfl 3 hL rfl rfl ?_; conv => whnf)
    | (refine LdReq.own1 hX rfl rfl 4 hL rfl rfl ?_; conv => whnf)
    | (refine LdReq.own1 hX rfl rfl 5 hL rfl rfl ?_; conv => whnf)
    | (refine LdReq.own1 hX rfl rfl 6 hL rfl rfl ?_; conv => whnf)
    | (refine LdReq.ownA hX rfl rfl 0 hL rfl rfl ?_; conv => whnf)
    | (refine LdReq.ownA hX rfl rfl 1 hL rfl rfl ?_; conv => whnf)
    | (refine LdReq.ownA hX rfl rfl 2 hL rfl rfl ?_; conv => whnf)
    | (refine LdReq.ownA hX rfl rfl 3 hL rfl rfl ?_; conv => whnf)
    | (refine LdReq.ownA hX rfl rfl 4 hL rfl rfl ?_; conv => whnf)
    | (refine LdReq.ownA hX rfl rfl 5 hL rfl rfl ?_; conv => whnf)
    | (refine LdReq.ownA hX rfl rfl 6 hL rfl rfl ?_; conv => whnf)
    | (refine StReq.own hX rfl 0 hL rfl rfl rfl rfl ?_; clear hL; intro w hL; conv => whnf)
    | (refine StReq.own hX rfl 1 hL rfl rfl rfl rfl ?_; clear hL; intro w hL; conv => whnf)
    | (refine StReq.own hX rfl 2 hL rfl rfl rfl rfl ?_; clear hL; intro w hL; conv => whnf)
    | (refine StReq.own hX rfl 3 hL rfl rfl rfl rfl ?_; clear hL; intro w hL; conv => whnf)
    | (refine StReq.own hX rfl 4 hL rfl rfl rfl rfl ?_; clear hL; intro w hL; conv => whnf)
    | (refine StReq.own hX rfl 5 hL rfl rfl rfl rfl ?_; clear hL; intro w hL; conv => whnf)
    | (refine StReq.own hX rfl 6 hL rfl rfl rfl rfl ?_; clear hL; intro w hL; conv => whnf)
    | (refine ArReq.i64 (by omega) (by omega) ?_; conv => whnf)
    | (refine SeqReq.go hX ?_; conv => whnf)
    | (refine OptReq.mk rfl ?_; conv => whnf))
  refine BrReq.dec (fun hlt => ?_) (fun hlt => ?_)
  · conv => whnf
    repeat (first
      | (refine CallReq.val (awake_fn m) hL ?_; clear hL; intro w hL; conv => whnf)
      | (refine BrReq.tt ?_; conv => whnf)
      | (refine BrReq.ff ?_; conv => whnf)
      | (refine LdReq.own1 hX rfl rfl 0 hL rfl rfl ?_; conv => whnf)
      | (refine LdReq.own1 hX rfl rfl 1 hL rfl rfl ?_; conv => whnf)
      | (refine LdReq.own1 hX rfl rfl 2 hL rfl rfl ?_; conv => whnf)
      | (refine LdReq.own1 hX rfl rfl 3 hL rfl rfl ?_; conv => whnf)
      | (refine LdReq.own1 hX rfl rfl 4 hL rfl rfl ?_; conv => whnf)
      | (refine LdReq.own1 hX rfl rfl 5 hL rfl rfl ?_; conv => whnf)
      | (refine LdReq.own1 hX rfl rfl 6 hL rfl rfl ?_; conv => whnf)
      | (refine LdReq.ownA hX rfl rfl 0 hL rfl rfl ?_; conv => whnf)
      | (refine LdReq.ownA hX rfl rfl 1 hL rfl rfl ?_; conv => whnf)
      | (refine LdReq.ownA hX rfl rfl 2 hL rfl rfl ?_; conv => whnf)
      | (refine LdReq.ownA hX rfl rfl 3 hL rfl rfl ?_; conv => whnf)
      | (refine LdReq.ownA hX rfl rfl 4 hL rfl rfl ?_; conv => whnf)
      | (refine LdReq.ownA hX rfl rfl 5 hL rfl rfl ?_; conv => whnf)
      | (refine LdReq.ownA hX rfl rfl 6 hL rfl rfl ?_; conv => whnf)
      | (refine StReq.own hX rfl 0 hL rfl rfl rfl rfl ?_; clear hL; intro w hL; conv => whnf)
      | (refine StReq.own hX rfl 1 hL rfl rfl rfl rfl ?_; clear hL; intro w hL; conv => whnf)
      | (refine StReq.own hX rfl 2 hL rfl rfl rfl rfl ?_; clear hL; intro w hL; conv => whnf)
      | (refine StReq.own hX rfl 3 hL rfl rfl rfl rfl ?_; clear hL; intro w hL; conv => whnf)
      | (refine StReq.own hX rfl 4 hL rfl rfl rfl rfl ?_; clear hL; intro w hL; conv => whnf)
      | (refine StReq.own hX rfl 5 hL rfl rfl rfl rfl ?_; clear hL; intro w hL; conv => whnf)
      | (refine StReq.own hX rfl 6 hL rfl rfl rfl rfl ?_; clear hL; intro w hL; conv => whnf)
      | (refine ArReq.i64 (by omega) (by omega) ?_; conv => whnf)
      | (refine SeqReq.go hX ?_; conv => whnf)
      | (refine OptReq.mk rfl ?_; conv => whnf))
    exact RetReq.mk hL ⟨rfl, rfl⟩
  refine NewReq.mk hL ?_
  clear hL
  intro b w hL
  conv => whnf
  refine RunReq.append hX 22 5 rfl rfl rfl rfl rfl (L2 := []) (OwnS.full (n := 0) (cur := []) (by omega) rfl) hL (ha.src hL).1 (ha.src hL).2 (ints_one _ _) (by simp [ints]; omega) rfl ?_
  clear hL
  intro A1 n1 c1 L1 w _ h1 hL
  conv => whnf
  refine RunReq.append hX 22 5 rfl rfl rfl rfl rfl (L2 := []) h1 hL (hb.src hL).1 (hb.src hL).2 (ints_one _ _) (by simp [ints]; omega) rfl ?_
  clear hL h1
  intro A2 n2 c2 L2 w _ h2 hL
  have hf := OwnS.freeze (l := xs ++ ys) (L2 := []) (by simpa [ints] using h2) hL
  clear hL
  obtain ⟨m', hL, hm, hall⟩ := hf
  obtain ⟨lc, lc1, lc2⟩ := hall.len
  obtain ⟨_, hcell⟩ := hall.cell
  have hlen : (xs ++ ys).length = n2 := lc.symm
  have hsum : n2 = na + nb := by rw [lc, List.length_append]; omega
  conv => whnf
  repeat (first
    | (refine BrReq.tt ?_; conv => whnf)
    | (refine BrReq.ff ?_; conv => whnf)
    | (refine LdReq.own1 hX rfl rfl 0 hL rfl rfl ?_; conv => whnf)
    | (refine LdReq.own1 hX rfl rfl 1 hL rfl rfl ?_; conv => whnf)
    | (refine LdReq.own1 hX rfl rfl 2 hL rfl rfl ?_; conv => whnf)
    | (refine LdReq.own1 hX rfl rfl 3 hL rfl rfl ?_; conv => whnf)
    | (refine LdReq.own1 hX rfl rfl 4 hL rfl rfl ?_; conv => whnf)
    | (refine LdReq.own1 hX rfl rfl 5 hL rfl rfl ?_; conv => whnf)
    | (refine LdReq.own1 hX rfl rfl 6 hL rfl rfl ?_; conv => whnf)
    | (refine LdReq.ownA hX rfl rfl 0 hL rfl rfl ?_; conv => whnf)
    | (refine LdReq.ownA hX rfl rfl 1 hL rfl rfl ?_; conv => whnf)
    | (refine LdReq.ownA hX rfl rfl 2 hL rfl rfl ?_; conv => whnf)
    | (refine LdReq.ownA hX rfl rfl 3 hL rfl rfl ?_; conv => whnf)
    | (refine LdReq.ownA hX rfl rfl 4 hL rfl rfl ?_; conv => whnf)
    | (refine LdReq.ownA hX rfl rfl 5 hL rfl rfl ?_; conv => whnf)
    | (refine LdReq.ownA hX rfl rfl 6 hL rfl rfl ?_; conv => whnf)
    | (refine StReq.own hX rfl 0 hL rfl rfl rfl rfl ?_; clear hL; intro w hL; conv => whnf)
    | (refine StReq.own hX rfl 1 hL rfl rfl rfl rfl ?_; clear hL; intro w hL; conv => whnf)
    | (refine StReq.own hX rfl 2 hL rfl rfl rfl rfl ?_; clear hL; intro w hL; conv => whnf)
    | (refine StReq.own hX rfl 3 hL rfl rfl rfl rfl ?_; clear hL; intro w hL; conv => whnf)
    | (refine StReq.own hX rfl 4 hL rfl rfl rfl rfl ?_; clear hL; intro w hL; conv => whnf)
    | (refine StReq.own hX rfl 5 hL rfl rfl rfl rfl ?_; clear hL; intro w hL; conv => whnf)
    | (refine StReq.own hX rfl 6 hL rfl rfl rfl rfl ?_; clear hL; intro w hL; conv => whnf)
    | (refine ArReq.i64 (by omega) (by omega) ?_; conv => whnf)
    | (refine SeqReq.go hX ?_; conv => whnf)
    | (refine OptReq.mk rfl ?_; conv => whnf))
  refine LoopReq.inv hX (fun k : Nat => [(6, .int .i64 ((plc ((xs ++ ys).take k) (0, 1, 1)).2.1 : Nat)), (7, .int .i64 ((plc ((xs ++ ys).take k) (0, 1, 1)).2.2 : Nat)), (28, .int .i64 k)]) [0, 1, 5, 27]
    (fun k w => k ≤ n2 ∧ Ev.Loc m [] w0 m' [] w) (fun k => n2 - k) 0 ⟨by omega, hL⟩ ⟨rfl, rfl, rfl, trivial⟩ ?_
  clear hL
  rintro k w f ⟨hk, hL⟩
  have hb1 := plc_bound ((xs ++ ys).take k) (0, 1, 1)
  have hl1 : ((xs ++ ys).take k).length ≤ k := List.length_take_le _ _
  simp only at hb1
  conv => whnf
  repeat (first
    | (refine BrReq.tt ?_; conv => whnf)
    | (refine BrReq.ff ?_; conv => whnf)
    | (refine LdReq.own1 hX rfl rfl 0 hL rfl rfl ?_; conv => whnf)
    | (refine LdReq.own1 hX rfl rfl 1 hL rfl rfl ?_; conv => whnf)
    | (refine LdReq.own1 hX rfl rfl 2 hL rfl rfl ?_; conv => whnf)
    | (refine LdReq.own1 hX rfl rfl 3 hL rfl rfl ?_; conv => whnf)
    | (refine LdReq.own1 hX rfl rfl 4 hL rfl rfl ?_; conv => whnf)
    | (refine LdReq.own1 hX rfl rfl 5 hL rfl rfl ?_; conv => whnf)
    | (refine LdReq.own1 hX rfl rfl 6 hL rfl rfl ?_; conv => whnf)
    | (refine LdReq.ownA hX rfl rfl 0 hL rfl rfl ?_; conv => whnf)
    | (refine LdReq.ownA hX rfl rfl 1 hL rfl rfl ?_; conv => whnf)
    | (refine LdReq.ownA hX rfl rfl 2 hL rfl rfl ?_; conv => whnf)
    | (refine LdReq.ownA hX rfl rfl 3 hL rfl rfl ?_; conv => whnf)
    | (refine LdReq.ownA hX rfl rfl 4 hL rfl rfl ?_; conv => whnf)
    | (refine LdReq.ownA hX rfl rfl 5 hL rfl rfl ?_; conv => whnf)
    | (refine LdReq.ownA hX rfl rfl 6 hL rfl rfl ?_; conv => whnf)
    | (refine StReq.own hX rfl 0 hL rfl rfl rfl rfl ?_; clear hL; intro w hL; conv => whnf)
    | (refine StReq.own hX rfl 1 hL rfl rfl rfl rfl ?_; clear hL; intro w hL; conv => whnf)
    | (refine StReq.own hX rfl 2 hL rfl rfl rfl rfl ?_; clear hL; intro w hL; conv => whnf)
    | (refine StReq.own hX rfl 3 hL rfl rfl rfl rfl ?_; clear hL; intro w hL; conv => whnf)
    | (refine StReq.own hX rfl 4 hL rfl rfl rfl rfl ?_; clear hL; intro w hL; conv => whnf)
    | (refine StReq.own hX rfl 5 hL rfl rfl rfl rfl ?_; clear hL; intro w hL; conv => whnf)
    | (refine StReq.own hX rfl 6 hL rfl rfl rfl rfl ?_; clear hL; intro w hL; conv => whnf)
    | (refine ArReq.i64 (by omega) (by omega) ?_; conv => whnf)
    | (refine SeqReq.go hX ?_; conv => whnf)
    | (refine OptReq.mk rfl ?_; conv => whnf))
  refine BrReq.dec (fun hlt => ?_) (fun hlt => ?_)
  · have hlt' : k < n2 := by omega
    have hz : (xs ++ ys)[k]? = some (xs ++ ys)[k] := List.getElem?_eq_getElem (by omega)
    have e : (xs ++ ys).take (k + 1) = (xs ++ ys).take k ++ [(xs ++ ys)[k]] := List.take_succ_eq_append_getElem (by omega)
    have hp := plc_snoc ((xs ++ ys).take k) (xs ++ ys)[k] (0, 1, 1)
    rw [← e] at hp
    obtain ⟨a, rfl, hc⟩ := hcell k _ hz
    conv => whnf
    repeat (first
      | (refine Idx2Req.mk k a rfl hlt' rfl ?_; conv => whnf)
      | (refine LdReq.one hX rfl rfl hL hc ?_; conv => whnf)
      | (refine BrReq.tt ?_; conv => whnf)
      | (refine BrReq.ff ?_; conv => whnf)
      | (refine LdReq.own1 hX rfl rfl 0 hL rfl rfl ?_; conv => whnf)
      | (refine LdReq.own1 hX rfl rfl 1 hL rfl rfl ?_; conv => whnf)
      | (refine LdReq.own1 hX rfl rfl 2 hL rfl rfl ?_; conv => whnf)
      | (refine LdReq.own1 hX rfl rfl 3 hL rfl rfl ?_; conv => whnf)
      | (refine LdReq.own1 hX rfl rfl 4 hL rfl rfl ?_; conv => whnf)
      | (refine LdReq.own1 hX rfl rfl 5 hL rfl rfl ?_; conv => whnf)
      | (refine LdReq.own1 hX rfl rfl 6 hL rfl rfl ?_; conv => whnf)
      | (refine LdReq.ownA hX rfl rfl 0 hL rfl rfl ?_; conv => whnf)
      | (refine LdReq.ownA hX rfl rfl 1 hL rfl rfl ?_; conv => whnf)
      | (refine LdReq.ownA hX rfl rfl 2 hL rfl rfl ?_; conv => whnf)
      | (refine LdReq.ownA hX rfl rfl 3 hL rfl rfl ?_; conv => whnf)
      | (refine LdReq.ownA hX rfl rfl 4 hL rfl rfl ?_; conv => whnf)
      | (refine LdReq.ownA hX rfl rfl 5 hL rfl rfl ?_; conv => whnf)
      | (refine LdReq.ownA hX rfl rfl 6 hL rfl rfl ?_; conv => whnf)
      | (refine StReq.own hX rfl 0 hL rfl rfl rfl rfl ?_; clear hL; intro w hL; conv => whnf)
      | (refine StReq.own hX rfl 1 hL rfl rfl rfl rfl ?_; clear hL; intro w hL; conv => whnf)
      | (refine StReq.own hX rfl 2 hL rfl rfl rfl rfl ?_; clear hL; intro w hL; conv => whnf)
      | (refine StReq.own hX rfl 3 hL rfl rfl rfl rfl ?_; clear hL; intro w hL; conv => whnf)
      | (refine StReq.own hX rfl 4 hL rfl rfl rfl rfl ?_; clear hL; intro w hL; conv => whnf)
      | (refine StReq.own hX rfl 5 hL rfl rfl rfl rfl ?_; clear hL; intro w hL; conv => whnf)
      | (refine StReq.own hX rfl 6 hL rfl rfl rfl rfl ?_; clear hL; intro w hL; conv => whnf)
      | (refine ArReq.i64 (by omega) (by omega) ?_; conv => whnf)
      | (refine SeqReq.go hX ?_; conv => whnf)
      | (refine OptReq.mk rfl ?_; conv => whnf))
    refine BrReq.dec (fun h10 => ?_) (fun h10 => ?_)
    · rw [if_pos h10] at hp
      conv => whnf
      repeat (first
        | (refine BrReq.tt ?_; conv => whnf)
        | (refine BrReq.ff ?_; conv => whnf)
        | (refine LdReq.own1 hX rfl rfl 0 hL rfl rfl ?_; conv => whnf)
        | (refine LdReq.own1 hX rfl rfl 1 hL rfl rfl ?_; conv => whnf)
        | (refine LdReq.own1 hX rfl rfl 2 hL rfl rfl ?_; conv => whnf)
        | (refine LdReq.own1 hX rfl rfl 3 hL rfl rfl ?_; conv => whnf)
        | (refine LdReq.own1 hX rfl rfl 4 hL rfl rfl ?_; conv => whnf)
        | (refine LdReq.own1 hX rfl rfl 5 hL rfl rfl ?_; conv => whnf)
        | (refine LdReq.own1 hX rfl rfl 6 hL rfl rfl ?_; conv => whnf)
        | (refine LdReq.ownA hX rfl rfl 0 hL rfl rfl ?_; conv => whnf)
        | (refine LdReq.ownA hX rfl rfl 1 hL rfl rfl ?_; conv => whnf)
        | (refine LdReq.ownA hX rfl rfl 2 hL rfl rfl ?_; conv => whnf)
        | (refine LdReq.ownA hX rfl rfl 3 hL rfl rfl ?_; conv => whnf)
        | (refine LdReq.ownA hX rfl rfl 4 hL rfl rfl ?_; conv => whnf)
        | (refine LdReq.ownA hX rfl rfl 5 hL rfl rfl ?_; conv => whnf)
        | (refine LdReq.ownA hX rfl rfl 6 hL rfl rfl ?_; conv => whnf)
        | (refine StReq.own hX rfl 0 hL rfl rfl rfl rfl ?_; clear hL; intro w hL; conv => whnf)
        | (refine StReq.own hX rfl 1 hL rfl rfl rfl rfl ?_; clear hL; intro w hL; conv => whnf)
        | (refine StReq.own hX rfl 2 hL rfl rfl rfl rfl ?_; clear hL; intro w hL; conv => whnf)
        | (refine StReq.own hX rfl 3 hL rfl rfl rfl rfl ?_; clear hL; intro w hL; conv => whnf)
        | (refine StReq.own hX rfl 4 hL rfl rfl rfl rfl ?_; clear hL; intro w hL; conv => whnf)
        | (refine StReq.own hX rfl 5 hL rfl rfl rfl rfl ?_; clear hL; intro w hL; conv => whnf)
        | (refine StReq.own hX rfl 6 hL rfl rfl rfl rfl ?_; clear hL; intro w hL; conv => whnf)
        | (refine ArReq.i64 (by omega) (by omega) ?_; conv => whnf)
        | (refine SeqReq.go hX ?_; conv => whnf)
        | (refine OptReq.mk rfl ?_; conv => whnf))
      refine ⟨k + 1, ⟨by omega, hL⟩, by omega, ?_, ?_⟩
      · repeat (first | exact trivial | (refine And.intro (by (conv => lhs; whnf) <;> (conv => rhs; whnf) <;> (first | rfl | (rw [hp] <;> rfl))) ?_))
      · repeat (first | exact trivial | (refine And.intro (by (conv => lhs; whnf) <;> (conv => rhs; whnf) <;> (first | rfl | (rw [hp] <;> rfl))) ?_))
    · rw [if_neg h10] at hp
      conv => whnf
      repeat (first
        | (refine BrReq.tt ?_; conv => whnf)
        | (refine BrReq.ff ?_; conv => whnf)
        | (refine LdReq.own1 hX rfl rfl 0 hL rfl rfl ?_; conv => whnf)
        | (refine LdReq.own1 hX rfl rfl 1 hL rfl rfl ?_; conv => whnf)
        | (refine LdReq.own1 hX rfl rfl 2 hL rfl rfl ?_; conv => whnf)
        | (refine LdReq.own1 hX rfl rfl 3 hL rfl rfl ?_; conv => whnf)
        | (refine LdReq.own1 hX rfl rfl 4 hL rfl rfl ?_; conv => whnf)
        | (refine LdReq.own1 hX rfl rfl 5 hL rfl rfl ?_; conv => whnf)
        | (refine LdReq.own1 hX rfl rfl 6 hL rfl rfl ?_; conv => whnf)
        | (refine LdReq.ownA hX rfl rfl 0 hL rfl rfl ?_; conv => whnf)
        | (refine LdReq.ownA hX rfl rfl 1 hL rfl rfl ?_; conv => whnf)
        | (refine LdReq.ownA hX rfl rfl 2 hL rfl rfl ?_; conv => whnf)
        | (refine LdReq.ownA hX rfl rfl 3 hL rfl rfl ?_; conv => whnf)
        | (refine LdReq.ownA hX rfl rfl 4 hL rfl rfl ?_; conv => whnf)
        | (refine LdReq.ownA hX rfl rfl 5 hL rfl rfl ?_; conv => whnf)
        | (refine LdReq.ownA hX rfl rfl 6 hL rfl rfl ?_; conv => whnf)
        | (refine StReq.own hX rfl 0 hL rfl rfl rfl rfl ?_; clear hL; intro w hL; conv => whnf)
        | (refine StReq.own hX rfl 1 hL rfl rfl rfl rfl ?_; clear hL; intro w hL; conv => whnf)
        | (refine StReq.own hX rfl 2 hL rfl rfl rfl rfl ?_; clear hL; intro w hL; conv => whnf)
        | (refine StReq.own hX rfl 3 hL rfl rfl rfl rfl ?_; clear hL; intro w hL; conv => whnf)
        | (refine StReq.own hX rfl 4 hL rfl rfl rfl rfl ?_; clear hL; intro w hL; conv => whnf)
        | (refine StReq.own hX rfl 5 hL rfl rfl rfl rfl ?_; clear hL; intro w hL; conv => whnf)
        | (refine StReq.own hX rfl 6 hL rfl rfl rfl rfl ?_; clear hL; intro w hL; conv => whnf)
        | (refine ArReq.i64 (by omega) (by omega) ?_; conv => whnf)
        | (refine SeqReq.go hX ?_; conv => whnf)
        | (refine OptReq.mk rfl ?_; conv => whnf))
      refine ⟨k + 1, ⟨by omega, hL⟩, by omega, ?_, ?_⟩
      · repeat (first | exact trivial | (refine And.intro (by (conv => lhs; whnf) <;> (conv => rhs; whnf) <;> (first | rfl | (rw [hp] <;> rfl))) ?_))
      · repeat (first | exact trivial | (refine And.intro (by (conv => lhs; whnf) <;> (conv => rhs; whnf) <;> (first | rfl | (rw [hp] <;> rfl))) ?_))
  have hkn : k = (xs ++ ys).length := by omega
  subst hkn
  rw [List.take_length] at *
  have hpx := plc_bound xs (0, 1, 1)
  have hpy := plc_bound (xs ++ ys) (0, 1, 1)
  simp only at hpx hpy
  have hc1 := behind_fn m' (0, 1, 1) _ _ (ha.le' hm) (Nat.le_of_ble_eq_true rfl) (Nat.le_of_ble_eq_true rfl) (Nat.le_of_ble_eq_true rfl) (by omega)
  have hc2 := behind_fn m' (plc xs (0, 1, 1)) _ _ (hb.le' hm) (by omega) (by omega) (by omega) (by omega)
  have hc3 := behind_fn m' (0, 1, 1) _ _ hall (Nat.le_of_ble_eq_true rfl) (Nat.le_of_ble_eq_true rfl) (Nat.le_of_ble_eq_true rfl) (by omega)
  conv => whnf
  repeat (first
    | (refine CallReq.val (start_fn m') hL ?_; clear hL; intro w hL; conv => whnf)
    | (refine BrReq.tt ?_; conv => whnf)
    | (refine BrReq.ff ?_; conv => whnf)
    | (refine LdReq.own1 hX rfl rfl 0 hL rfl rfl ?_; conv => whnf)
    | (refine LdReq.own1 hX rfl rfl 1 hL rfl rfl ?_; conv => whnf)
    | (refine LdReq.own1 hX rfl rfl 2 hL rfl rfl ?_; conv => whnf)
    | (refine LdReq.own1 hX rfl rfl 3 hL rfl rfl ?_; conv => whnf)
    | (refine LdReq.own1 hX rfl rfl 4 hL rfl rfl ?_; conv => whnf)
    | (refine LdReq.own1 hX rfl rfl 5 hL rfl rfl ?_; conv => whnf)
    | (refine LdReq.own1 hX rfl rfl 6 hL rfl rfl ?_; conv => whnf)
    | (refine LdReq.ownA hX rfl rfl 0 hL rfl rfl ?_; conv => whnf)
    | (refine LdReq.ownA hX rfl rfl 1 hL rfl rfl ?_; conv => whnf)
    | (refine LdReq.ownA hX rfl rfl 2 hL rfl rfl ?_; conv => whnf)
    | (refine LdReq.ownA hX rfl rfl 3 hL rfl rfl ?_; conv => whnf)
    | (refine LdReq.ownA hX rfl rfl 4 hL rfl rfl ?_; conv => whnf)
    | (refine LdReq.ownA hX rfl rfl 5 hL rfl rfl ?_; conv => whnf)
    | (refine LdReq.ownA hX rfl rfl 6 hL rfl rfl ?_; conv => whnf)
    | (refine StReq.own hX rfl 0 hL rfl rfl rfl rfl ?_; clear hL; intro w hL; conv => whnf)
    | (refine StReq.own hX rfl 1 hL rfl rfl rfl rfl ?_; clear hL; intro w hL; conv => whnf)
    | (refine StReq.own hX rfl 2 hL rfl rfl rfl rfl ?_; clear hL; intro w hL; conv => whnf)
    | (refine StReq.own hX rfl 3 hL rfl rfl rfl rfl ?_; clear hL; intro w hL; conv => whnf)
    | (refine StReq.own hX rfl 4 hL rfl rfl rfl rfl ?_; clear hL; intro w hL; conv => whnf)
    | (refine StReq.own hX rfl 5 hL rfl rfl rfl rfl ?_; clear hL; intro w hL; conv => whnf)
    | (refine StReq.own hX rfl 6 hL rfl rfl rfl rfl ?_; clear hL; intro w hL; conv => whnf)
    | (refine ArReq.i64 (by omega) (by omega) ?_; conv => whnf)
    | (refine SeqReq.go hX ?_; conv => whnf)
    | (refine OptReq.mk rfl ?_; conv => whnf))
  refine CallReq.val hc1 hL ?_; clear hL; intro w hL
  conv => whnf
  repeat (first
    | (refine BrReq.tt ?_; conv => whnf)
    | (refine BrReq.ff ?_; conv => whnf)
    | (refine LdReq.own1 hX rfl rfl 0 hL rfl rfl ?_; conv => whnf)
    | (refine LdReq.own1 hX rfl rfl 1 hL rfl rfl ?_; conv => whnf)
    | (refine LdReq.own1 hX rfl rfl 2 hL rfl rfl ?_; conv => whnf)
    | (refine LdReq.own1 hX rfl rfl 3 hL rfl rfl ?_; conv => whnf)
    | (refine LdReq.own1 hX rfl rfl 4 hL rfl rfl ?_; conv => whnf)
    | (refine LdReq.own1 hX rfl rfl 5 hL rfl rfl ?_; conv => whnf)
    | (refine LdReq.own1 hX rfl rfl 6 hL rfl rfl ?_; conv => whnf)
    | (refine LdReq.ownA hX rfl rfl 0 hL rfl rfl ?_; conv => whnf)
    | (refine LdReq.ownA hX rfl rfl 1 hL rfl rfl ?_; conv => whnf)
    | (refine LdReq.ownA hX rfl rfl 2 hL rfl rfl ?_; conv => whnf)
    | (refine LdReq.ownA hX rfl rfl 3 hL rfl rfl ?_; conv => whnf)
    | (refine LdReq.ownA hX rfl rfl 4 hL rfl rfl ?_; conv => whnf)
    | (refine LdReq.ownA hX rfl rfl 5 hL rfl rfl ?_; conv => whnf)
    | (refine LdReq.ownA hX rfl rfl 6 hL rfl rfl ?_; conv => whnf)
    | (refine StReq.own hX rfl 0 hL rfl rfl rfl rfl ?_; clear hL; intro w hL; conv => whnf)
    | (refine StReq.own hX rfl 1 hL rfl rfl rfl rfl ?_; clear hL; intro w hL; conv => whnf)
    | (refine StReq.own hX rfl 2 hL rfl rfl rfl rfl ?_; clear hL; intro w hL; conv => whnf)
    | (refine StReq.own hX rfl 3 hL rfl rfl rfl rfl ?_; clear hL; intro w hL; conv => whnf)
    | (refine StReq.own hX rfl 4 hL rfl rfl rfl rfl ?_; clear hL; intro w hL; conv => whnf)
    | (refine StReq.own hX rfl 5 hL rfl rfl rfl rfl ?_; clear hL; intro w hL; conv => whnf)
    | (refine StReq.own hX rfl 6 hL rfl rfl rfl rfl ?_; clear hL; intro w hL; conv => whnf)
    | (refine ArReq.i64 (by omega) (by omega) ?_; conv => whnf)
    | (refine SeqReq.go hX ?_; conv => whnf)
    | (refine OptReq.mk rfl ?_; conv => whnf))
  refine CallReq.val hc2 hL ?_; clear hL; intro w hL
  conv => whnf
  repeat (first
    | (refine BrReq.tt ?_; conv => whnf)
    | (refine BrReq.ff ?_; conv => whnf)
    | (refine LdReq.own1 hX rfl rfl 0 hL rfl rfl ?_; conv => whnf)
    | (refine LdReq.own1 hX rfl rfl 1 hL rfl rfl ?_; conv => whnf)
    | (refine LdReq.own1 hX rfl rfl 2 hL rfl rfl ?_; conv => whnf)
    | (refine LdReq.own1 hX rfl rfl 3 hL rfl rfl ?_; conv => whnf)
    | (refine LdReq.own1 hX rfl rfl 4 hL rfl rfl ?_; conv => whnf)
    | (refine LdReq.own1 hX rfl rfl 5 hL rfl rfl ?_; conv => whnf)
    | (refine LdReq.own1 hX rfl rfl 6 hL rfl rfl ?_; conv => whnf)
    | (refine LdReq.ownA hX rfl rfl 0 hL rfl rfl ?_; conv => whnf)
    | (refine LdReq.ownA hX rfl rfl 1 hL rfl rfl ?_; conv => whnf)
    | (refine LdReq.ownA hX rfl rfl 2 hL rfl rfl ?_; conv => whnf)
    | (refine LdReq.ownA hX rfl rfl 3 hL rfl rfl ?_; conv => whnf)
    | (refine LdReq.ownA hX rfl rfl 4 hL rfl rfl ?_; conv => whnf)
    | (refine LdReq.ownA hX rfl rfl 5 hL rfl rfl ?_; conv => whnf)
    | (refine LdReq.ownA hX rfl rfl 6 hL rfl rfl ?_; conv => whnf)
    | (refine StReq.own hX rfl 0 hL rfl rfl rfl rfl ?_; clear hL; intro w hL; conv => whnf)
    | (refine StReq.own hX rfl 1 hL rfl rfl rfl rfl ?_; clear hL; intro w hL; conv => whnf)
    | (refine StReq.own hX rfl 2 hL rfl rfl rfl rfl ?_; clear hL; intro w hL; conv => whnf)
    | (refine StReq.own hX rfl 3 hL rfl rfl rfl rfl ?_; clear hL; intro w hL; conv => whnf)
    | (refine StReq.own hX rfl 4 hL rfl rfl rfl rfl ?_; clear hL; intro w hL; conv => whnf)
    | (refine StReq.own hX rfl 5 hL rfl rfl rfl rfl ?_; clear hL; intro w hL; conv => whnf)
    | (refine StReq.own hX rfl 6 hL rfl rfl rfl rfl ?_; clear hL; intro w hL; conv => whnf)
    | (refine ArReq.i64 (by omega) (by omega) ?_; conv => whnf)
    | (refine SeqReq.go hX ?_; conv => whnf)
    | (refine OptReq.mk rfl ?_; conv => whnf))
  refine NewReq.mk hL ?_
  clear hL
  intro b9 w hL
  conv => whnf
  conv => whnf
  repeat (first
    | (refine BrReq.tt ?_; conv => whnf)
    | (refine BrReq.ff ?_; conv => whnf)
    | (refine LdReq.own1 hX rfl rfl 0 hL rfl rfl ?_; conv => whnf)
    | (refine LdReq.own1 hX rfl rfl 1 hL rfl rfl ?_; conv => whnf)
    | (refine LdReq.own1 hX rfl rfl 2 hL rfl rfl ?_; conv => whnf)
    | (refine LdReq.own1 hX rfl rfl 3 hL rfl rfl ?_; conv => whnf)
    | (refine LdReq.own1 hX rfl rfl 4 hL rfl rfl ?_; conv => whnf)
    | (refine LdReq.own1 hX rfl rfl 5 hL rfl rfl ?_; conv => whnf)
    | (refine LdReq.own1 hX rfl rfl 6 hL rfl rfl ?_; conv => whnf)
    | (refine LdReq.ownA hX rfl rfl 0 hL rfl rfl ?_; conv => whnf)
    | (refine LdReq.ownA hX rfl rfl 1 hL rfl rfl ?_; conv => whnf)
    | (refine LdReq.ownA hX rfl rfl 2 hL rfl rfl ?_; conv => whnf)
    | (refine LdReq.ownA hX rfl rfl 3 hL rfl rfl ?_; conv => whnf)
    | (refine LdReq.ownA hX rfl rfl 4 hL rfl rfl ?_; conv => whnf)
    | (refine LdReq.ownA hX rfl rfl 5 hL rfl rfl ?_; conv => whnf)
    | (refine LdReq.ownA hX rfl rfl 6 hL rfl rfl ?_; conv => whnf)
    | (refine StReq.own hX rfl 0 hL rfl rfl rfl rfl ?_; clear hL; intro w hL; conv => whnf)
    | (refine StReq.own hX rfl 1 hL rfl rfl rfl rfl ?_; clear hL; intro w hL; conv => whnf)
    | (refine StReq.own hX rfl 2 hL rfl rfl rfl rfl ?_; clear hL; intro w hL; conv => whnf)
    | (refine StReq.own hX rfl 3 hL rfl rfl rfl rfl ?_; clear hL; intro w hL; conv => whnf)
    | (refine StReq.own hX rfl 4 hL rfl rfl rfl rfl ?_; clear hL; intro w hL; conv => whnf)
    | (refine StReq.own hX rfl 5 hL rfl rfl rfl rfl ?_; clear hL; intro w hL; conv => whnf)
    | (refine StReq.own hX rfl 6 hL rfl rfl rfl rfl ?_; clear hL; intro w hL; conv => whnf)
    | (refine ArReq.i64 (by omega) (by omega) ?_; conv => whnf)
    | (refine SeqReq.go hX ?_; conv => whnf)
    | (refine OptReq.mk rfl ?_; conv => whnf))
  rw [← plc_append] at hL
  have hL : Ev.Loc m [] w0 m' [(b9, .cells (toArr (pv (plc (xs ++ ys) (0, 1, 1)))) 25 (0, 0))] w := hL
  refine DrawReq.plan hX (.fst 0 (.fst 2 (.alt 1 (.alt 3 (.fst 4 (.fst 5 (.fst 6 (.fst 7 (.fst 8 (.fst 9 (.fst 10 (.fst 11 (.fst 12 (.fst 13 (.fst 14 (.done)))))))))))) (.stop)) (.stop)))) _ (by kernel_rfl) (by kernel_rfl) hL id ?_
  clear hL
  intro w hL
  conv => whnf
  repeat (first
    | (refine QLdReq.ownA hX rfl rfl 0 rfl rfl ?_; conv => whnf)
    | (refine AltReq.one ?_; conv => whnf)
    | (refine CallReq.val (start_fn m') hL ?_; clear hL; intro w hL; conv => whnf)
    | (refine SReq.mk hL ?_; conv => whnf)
    | (refine BrReq.tt ?_; conv => whnf)
    | (refine BrReq.ff ?_; conv => whnf)
    | (refine LdReq.own1 hX rfl rfl 0 hL rfl rfl ?_; conv => whnf)
    | (refine LdReq.own1 hX rfl rfl 1 hL rfl rfl ?_; conv => whnf)
    | (refine LdReq.own1 hX rfl rfl 2 hL rfl rfl ?_; conv => whnf)
    | (refine LdReq.own1 hX rfl rfl 3 hL rfl rfl ?_; conv => whnf)
    | (refine LdReq.own1 hX rfl rfl 4 hL rfl rfl ?_; conv => whnf)
    | (refine LdReq.own1 hX rfl rfl 5 hL rfl rfl ?_; conv => whnf)
    | (refine LdReq.own1 hX rfl rfl 6 hL rfl rfl ?_; conv => whnf)
    | (refine LdReq.ownA hX rfl rfl 0 hL rfl rfl ?_; conv => whnf)
    | (refine LdReq.ownA hX rfl rfl 1 hL rfl rfl ?_; conv => whnf)
    | (refine LdReq.ownA hX rfl rfl 2 hL rfl rfl ?_; conv => whnf)
    | (refine LdReq.ownA hX rfl rfl 3 hL rfl rfl ?_; conv => whnf)
    | (refine LdReq.ownA hX rfl rfl 4 hL rfl rfl ?_; conv => whnf)
    | (refine LdReq.ownA hX rfl rfl 5 hL rfl rfl ?_; conv => whnf)
    | (refine LdReq.ownA hX rfl rfl 6 hL rfl rfl ?_; conv => whnf)
    | (refine StReq.own hX rfl 0 hL rfl rfl rfl rfl ?_; clear hL; intro w hL; conv => whnf)
    | (refine StReq.own hX rfl 1 hL rfl rfl rfl rfl ?_; clear hL; intro w hL; conv => whnf)
    | (refine StReq.own hX rfl 2 hL rfl rfl rfl rfl ?_; clear hL; intro w hL; conv => whnf)
    | (refine StReq.own hX rfl 3 hL rfl rfl rfl rfl ?_; clear hL; intro w hL; conv => whnf)
    | (refine StReq.own hX rfl 4 hL rfl rfl rfl rfl ?_; clear hL; intro w hL; conv => whnf)
    | (refine StReq.own hX rfl 5 hL rfl rfl rfl rfl ?_; clear hL; intro w hL; conv => whnf)
    | (refine StReq.own hX rfl 6 hL rfl rfl rfl rfl ?_; clear hL; intro w hL; conv => whnf)
    | (refine ArReq.i64 (by omega) (by omega) ?_; conv => whnf)
    | (refine SeqReq.go hX ?_; conv => whnf)
    | (refine OptReq.mk rfl ?_; conv => whnf))
  refine CallReq.val hc3 hL ?_
  clear hL
  intro w hL
  conv => whnf
  repeat (first
    | (refine SReq.mk hL ?_; conv => whnf)
    | (refine BrReq.tt ?_; conv => whnf)
    | (refine BrReq.ff ?_; conv => whnf)
    | (refine LdReq.own1 hX rfl rfl 0 hL rfl rfl ?_; conv => whnf)
    | (refine LdReq.own1 hX rfl rfl 1 hL rfl rfl ?_; conv => whnf)
    | (refine LdReq.own1 hX rfl rfl 2 hL rfl rfl ?_; conv => whnf)
    | (refine LdReq.own1 hX rfl rfl 3 hL rfl rfl ?_; conv => whnf)
    | (refine LdReq.own1 hX rfl rfl 4 hL rfl rfl ?_; conv => whnf)
    | (refine LdReq.own1 hX rfl rfl 5 hL rfl rfl ?_; conv => whnf)
    | (refine LdReq.own1 hX rfl rfl 6 hL rfl rfl ?_; conv => whnf)
    | (refine LdReq.ownA hX rfl rfl 0 hL rfl rfl ?_; conv => whnf)
    | (refine LdReq.ownA hX rfl rfl 1 hL rfl rfl ?_; conv => whnf)
    | (refine LdReq.ownA hX rfl rfl 2 hL rfl rfl ?_; conv => whnf)
    | (refine LdReq.ownA hX rfl rfl 3 hL rfl rfl ?_; conv => whnf)
    | (refine LdReq.ownA hX rfl rfl 4 hL rfl rfl ?_; conv => whnf)
    | (refine LdReq.ownA hX rfl rfl 5 hL rfl rfl ?_; conv => whnf)
    | (refine LdReq.ownA hX rfl rfl 6 hL rfl rfl ?_; conv => whnf)
    | (refine StReq.own hX rfl 0 hL rfl rfl rfl rfl ?_; clear hL; intro w hL; conv => whnf)
    | (refine StReq.own hX rfl 1 hL rfl rfl rfl rfl ?_; clear hL; intro w hL; conv => whnf)
    | (refine StReq.own hX rfl 2 hL rfl rfl rfl rfl ?_; clear hL; intro w hL; conv => whnf)
    | (refine StReq.own hX rfl 3 hL rfl rfl rfl rfl ?_; clear hL; intro w hL; conv => whnf)
    | (refine StReq.own hX rfl 4 hL rfl rfl rfl rfl ?_; clear hL; intro w hL; conv => whnf)
    | (refine StReq.own hX rfl 5 hL rfl rfl rfl rfl ?_; clear hL; intro w hL; conv => whnf)
    | (refine StReq.own hX rfl 6 hL rfl rfl rfl rfl ?_; clear hL; intro w hL; conv => whnf)
    | (refine ArReq.i64 (by omega) (by omega) ?_; conv => whnf)
    | (refine SeqReq.go hX ?_; conv => whnf)
    | (refine OptReq.mk rfl ?_; conv => whnf))
  refine UGenReq.eqA hX rfl rfl rfl Try.eqGuardType25 rfl rfl (eq_i _ _ _) ?_
  conv => whnf
  repeat (first
    | (refine QLdReq.ownA hX rfl rfl 0 rfl rfl ?_; conv => whnf)
    | (refine BrReq.tt ?_; conv => whnf)
    | (refine BrReq.ff ?_; conv => whnf)
    | (refine LdReq.own1 hX rfl rfl 0 hL rfl rfl ?_; conv => whnf)
    | (refine LdReq.own1 hX rfl rfl 1 hL rfl rfl ?_; conv => whnf)
    | (refine LdReq.own1 hX rfl rfl 2 hL rfl rfl ?_; conv => whnf)
    | (refine LdReq.own1 hX rfl rfl 3 hL rfl rfl ?_; conv => whnf)
    | (refine LdReq.own1 hX rfl rfl 4 hL rfl rfl ?_; conv => whnf)
    | (refine LdReq.own1 hX rfl rfl 5 hL rfl rfl ?_; conv => whnf)
    | (refine LdReq.own1 hX rfl rfl 6 hL rfl rfl ?_; conv => whnf)
    | (refine LdReq.ownA hX rfl rfl 0 hL rfl rfl ?_; conv => whnf)
    | (refine LdReq.ownA hX rfl rfl 1 hL rfl rfl ?_; conv => whnf)
    | (refine LdReq.ownA hX rfl rfl 2 hL rfl rfl ?_; conv => whnf)
    | (refine LdReq.ownA hX rfl rfl 3 hL rfl rfl ?_; conv => whnf)
    | (refine LdReq.ownA hX rfl rfl 4 hL rfl rfl ?_; conv => whnf)
    | (refine LdReq.ownA hX rfl rfl 5 hL rfl rfl ?_; conv => whnf)
    | (refine LdReq.ownA hX rfl rfl 6 hL rfl rfl ?_; conv => whnf)
    | (refine StReq.own hX rfl 0 hL rfl rfl rfl rfl ?_; clear hL; intro w hL; conv => whnf)
    | (refine StReq.own hX rfl 1 hL rfl rfl rfl rfl ?_; clear hL; intro w hL; conv => whnf)
    | (refine StReq.own hX rfl 2 hL rfl rfl rfl rfl ?_; clear hL; intro w hL; conv => whnf)
    | (refine StReq.own hX rfl 3 hL rfl rfl rfl rfl ?_; clear hL; intro w hL; conv => whnf)
    | (refine StReq.own hX rfl 4 hL rfl rfl rfl rfl ?_; clear hL; intro w hL; conv => whnf)
    | (refine StReq.own hX rfl 5 hL rfl rfl rfl rfl ?_; clear hL; intro w hL; conv => whnf)
    | (refine StReq.own hX rfl 6 hL rfl rfl rfl rfl ?_; clear hL; intro w hL; conv => whnf)
    | (refine ArReq.i64 (by omega) (by omega) ?_; conv => whnf)
    | (refine SeqReq.go hX ?_; conv => whnf)
    | (refine OptReq.mk rfl ?_; conv => whnf))
  refine UGenReq.eqA hX rfl rfl rfl Try.eqGuardType25 rfl rfl (b := true) (by (conv => lhs; whnf); rw [hpy.1, hlen]; simp) ?_
  conv => whnf
  repeat (first
    | (refine BrReq.tt ?_; conv => whnf)
    | (refine BrReq.ff ?_; conv => whnf)
    | (refine LdReq.own1 hX rfl rfl 0 hL rfl rfl ?_; conv => whnf)
    | (refine LdReq.own1 hX rfl rfl 1 hL rfl rfl ?_; conv => whnf)
    | (refine LdReq.own1 hX rfl rfl 2 hL rfl rfl ?_; conv => whnf)
    | (refine LdReq.own1 hX rfl rfl 3 hL rfl rfl ?_; conv => whnf)
    | (refine LdReq.own1 hX rfl rfl 4 hL rfl rfl ?_; conv => whnf)
    | (refine LdReq.own1 hX rfl rfl 5 hL rfl rfl ?_; conv => whnf)
    | (refine LdReq.own1 hX rfl rfl 6 hL rfl rfl ?_; conv => whnf)
    | (refine LdReq.ownA hX rfl rfl 0 hL rfl rfl ?_; conv => whnf)
    | (refine LdReq.ownA hX rfl rfl 1 hL rfl rfl ?_; conv => whnf)
    | (refine LdReq.ownA hX rfl rfl 2 hL rfl rfl ?_; conv => whnf)
    | (refine LdReq.ownA hX rfl rfl 3 hL rfl rfl ?_; conv => whnf)
    | (refine LdReq.ownA hX rfl rfl 4 hL rfl rfl ?_; conv => whnf)
    | (refine LdReq.ownA hX rfl rfl 5 hL rfl rfl ?_; conv => whnf)
    | (refine LdReq.ownA hX rfl rfl 6 hL rfl rfl ?_; conv => whnf)
    | (refine StReq.own hX rfl 0 hL rfl rfl rfl rfl ?_; clear hL; intro w hL; conv => whnf)
    | (refine StReq.own hX rfl 1 hL rfl rfl rfl rfl ?_; clear hL; intro w hL; conv => whnf)
    | (refine StReq.own hX rfl 2 hL rfl rfl rfl rfl ?_; clear hL; intro w hL; conv => whnf)
    | (refine StReq.own hX rfl 3 hL rfl rfl rfl rfl ?_; clear hL; intro w hL; conv => whnf)
    | (refine StReq.own hX rfl 4 hL rfl rfl rfl rfl ?_; clear hL; intro w hL; conv => whnf)
    | (refine StReq.own hX rfl 5 hL rfl rfl rfl rfl ?_; clear hL; intro w hL; conv => whnf)
    | (refine StReq.own hX rfl 6 hL rfl rfl rfl rfl ?_; clear hL; intro w hL; conv => whnf)
    | (refine ArReq.i64 (by omega) (by omega) ?_; conv => whnf)
    | (refine SeqReq.go hX ?_; conv => whnf)
    | (refine OptReq.mk rfl ?_; conv => whnf))
  exact RetReq.mk hL.drop ⟨rfl, rfl⟩

theorem contract (m : Mem) (vs : List Value) (hl : vs.length = Try.f3.params.size) (hg : ∀ (j : Nat) t v, Try.f3.params.toList[j]? = some t → vs[j]? = some v → Given X m t v) :
    Ev.Fn Try.prog 3 vs m [] fun _ _ v => v = .bool true := by
  match vs, hl with
  | [va, vb], _ =>
    obtain ⟨xs, h1, h2, _⟩ := (hg 0 22 va rfl rfl).ints (k := .u8) rfl rfl rfl rfl rfl
    obtain ⟨ys, h3, h4, _⟩ := (hg 1 22 vb rfl rfl).ints (k := .u8) rfl rfl rfl rfl rfl
    have e : reachBytes = 140737488351232 := rfl
    exact (walk m va vb xs ys h1 h3 (by simpa [e] using h2) (by simpa [e] using h4)).mono fun _ _ _ _ h => h.2

theorem spec (H : Type) (ds : List (DataW H)) (h : ds.length = Try.f3.params.size) : Rows.scanPlacesSpec.fn H ds = { results := [.lit (.bool true)], args := ds } := by
  match ds, h with
  | [_, _], _ => rfl

set_option maxRecDepth 100000 in
theorem lifted (os : Os) (started : os.Started) (H : Type) (enc : TypeId × Value → H) :
    ReturnsInHanded {} Try.checked os 3 .any (Rows.scanPlacesSpec.pre6 enc Try.prog Try.f3 Rows.scanPlacesRow.domain false) (Rows.scanPlacesSpec.post enc Try.prog Try.f3 false true false false) := by
  refine returnsInHanded_of_change_sized (C := Try.checked) (by kernel_rfl) started (by kernel_rfl) Try.func3
    (ChangeSpec.witness6 (enc := enc) (C := Try.checked) false ⟨#[], #[.slice none 0 0, .slice none 0 0], []⟩ 8 (by kernel_rfl) (by kernel_rfl) (by kernel_rfl) (by kernel_rfl)) ?_
  intro W base args ds gs before hval hW _ hsz _
  exact law_core hX (by kernel_rfl) rfl rfl Try.underlying4 (by decide +kernel) (fun H ds h => spec H ds h) contract W base args ds gs before hval hW hsz

set_option maxRecDepth 100000 in
theorem proved : Rows.ScanPlacesSaid :=
  OpenClaim.holds_of_wide 3 Try.f3 rfl rfl rfl rfl rfl rfl rfl ⟨rfl, rfl, rfl, rfl, rfl⟩ rfl rfl rfl rfl rfl (by kernel_rfl) Try.func3 (by kernel_rfl)
    (of_decide_eq_true (by kernel_rfl)) (by unfold Func.isWrapper; first | (rw [if_pos (by decide +kernel)]; kernel_rfl) | (rw [if_neg (by decide +kernel)]; exact ⟨rfl, rfl⟩))
    (fun os started H enc _ => lifted os started H enc)
end Go.Proofs.Ytglkkjgjfgmlaaa.scanPlaces
