/- Patterns turned round. Conditions: none. -/
import Derived.Test.YtmgfcckboncecaaTreeOwn

namespace Go.Proofs.Ytmgfcckboncecaa.tree
open Go Go.Ev Go.Proofs

def turnK (k : Int) : Int := if k = 8 then 9 else if k = 9 then 8 else if k = 10 then 11 else if k = 11 then 10 else k
mutual
/-- A pattern turned round. -/
def turnR : Re → Re
  | .mk k s0 s1 s2 s3 rs lo hi neg => .mk (turnK k) s0 s1 s2 s3 (if k = 3 then (turnL rs).reverse else turnL rs) lo hi neg
def turnL : List Re → List Re
  | [] => []
  | p :: l => turnR p :: turnL l
end
theorem turnL_eq (l : List Re) : turnL l = l.map turnR := by
  induction l with
  | nil => rfl
  | cons p l ih => simp only [turnL, List.map_cons, ih]
theorem turnR_eq (k s0 s1 s2 s3 : Int) (rs : List Re) (lo hi : Int) (neg : Bool) : turnR (.mk k s0 s1 s2 s3 rs lo hi neg) = .mk (turnK k) s0 s1 s2 s3 (if k = 3 then (rs.map turnR).reverse else rs.map turnR) lo hi neg := by
  simp only [turnR, turnL_eq]

theorem perm_x {X A B : Ev.Own} : (X ++ (A ++ B)).Perm (A ++ (X ++ B)) := by
  rw [← List.append_assoc, ← List.append_assoc]; exact List.Perm.append_right _ List.perm_append_comm

set_option maxHeartbeats 2000000 in
theorem turn_fn (r : Re) : ∀ (m : Mem) (cs : List Value) (L : Ev.Own), OwnT r cs L → Ev.Fn Try.prog 36 [.agg (toArr cs)] m L fun _ L' u => ∃ cs', u = .agg (toArr cs') ∧ OwnT (turnR r) cs' L' := by
  induction r using Re.ind with
  | h kd s0 s1 s2 s3 rs lo hi neg ih =>
    intro m cs L h
    cases h with
    | mk _ _ _ _ _ _ _ _ g _ blk0 Ls0 h1 h2 h3 hr hs =>
    have hmx : maxLen = 9223372036854775807 := rfl
    have h9 := rows9 h1 h2 hs
    refine Fn.enter (N := 40) hX Try.func36 rfl rfl (by show _ ≤ _; simp) (fun w0 hL => ?_)
    conv => whnf
    refine NewReq.mk hL ?_
    clear hL
    intro b1 w hL
    conv => whnf
    refine NewReq.mk hL ?_
    clear hL
    intro b2 w hL
    conv => whnf
    obtain ⟨S0, hS0⟩ : ∃ S0, S0 = keys ((g, Obj.cells (toArr blk0.flatten) 27 (0, 0)) :: Ls0.flatten) := ⟨_, rfl⟩
    rw [← hS0] at hL ⊢
    conv => whnf
    repeat (first
      | (refine BrReq.tt ?_; conv => whnf)
      | (refine BrReq.ff ?_; conv => whnf)
      | (refine LdReq.own1 hX rfl rfl 0 hL rfl rfl ?_; conv => whnf)
      | (refine LdReq.own1 hX rfl rfl 1 hL rfl rfl ?_; conv => whnf)
      | (refine LdReq.own1 hX rfl rfl 2 hL rfl rfl ?_; conv => whnf)
      | (refine LdReq.own1 hX rfl rfl 3 hL rfl rfl ?_; conv => whnf)
      | (refine LdReq.own1 hX rfl rfl 4 hL rfl rfl ?_; conv => whnf)
      | (refine LdReq.own1 hX rfl rfl 5 hL rfl rfl ?_; conv => whnf)
      | (refine LdReq.own1 hX rfl rfl 6 hL rfl rfl ?_; conv => whnf)
      | (refine LdReq.ownA hX rfl rfl 0 hL rfl rfl ?_; conv => whnf)
      | (refine LdReq.ownA hX rfl rfl 1 hL rfl rfl ?_; conv => whnf)
      | (refine LdReq.ownA hX rfl rfl 2 hL rfl rfl ?_; conv => whnf)
      | (refine LdReq.ownA hX rfl rfl 3 hL rfl rfl ?_; conv => whnf)
      | (refine LdReq.ownA hX rfl rfl 4 hL rfl rfl ?_; conv => whnf)
      | (refine LdReq.ownA hX rfl rfl 5 hL rfl rfl ?_; conv => whnf)
      | (refine LdReq.ownA hX rfl rfl 6 hL rfl rfl ?_; conv => whnf)
      | (refine StReq.own hX rfl 0 hL rfl rfl rfl rfl ?_; clear hL; intro w hL; conv => whnf)
      | (refine StReq.own hX rfl 1 hL rfl rfl rfl rfl ?_; clear hL; intro w hL; conv => whnf)
      | (refine StReq.own hX rfl 2 hL rfl rfl rfl rfl ?_; clear hL; intro w hL; conv => whnf)
      | (refine StReq.own hX rfl 3 hL rfl rfl rfl rfl ?_; clear hL; intro w hL; conv => whnf)
      | (refine StReq.own hX rfl 4 hL rfl rfl rfl rfl ?_; clear hL; intro w hL; conv => whnf)
      | (refine StReq.own hX rfl 5 hL rfl rfl rfl rfl ?_; clear hL; intro w hL; conv => whnf)
      | (refine StReq.own hX rfl 6 hL rfl rfl rfl rfl ?_; clear hL; intro w hL; conv => whnf)
      | (refine ArReq.i64 (by omega) (by omega) ?_; conv => whnf)
      | (refine SeqReq.go hX ?_; conv => whnf)
      | (refine OptReq.mk rfl ?_; conv => whnf))
    refine LoopReq.inv hX (fun j : Nat => [(8, .int .i64 j)]) [1, 2, 6, 7]
      (fun j w => j ≤ rs.length ∧ ∃ m1 blk Ls, Mem.Le m m1 ∧ List.length blk = rs.length ∧ List.length Ls = rs.length ∧ (∀ (i : Nat) (r : Re) (cs : List Value) (L : Ev.Own), rs[i]? = some r → blk[i]? = some cs → Ls[i]? = some L → OwnT (if i < j then turnR r else r) cs L) ∧
        Ev.Loc m S0 w0 m1 ((b2, .cells (toArr (reC 0 0 0 0 0 (.slice none 0 0) 0 0 false)) 27 (0, 0)) :: (b1, .cells (toArr (reC kd s0 s1 s2 s3 (.slice (some ⟨g, 0, none⟩) rs.length rs.length) lo hi neg)) 27 (0, 0)) :: (g, .cells (toArr (List.flatten blk)) 27 (0, 0)) :: List.flatten Ls) w) (fun j => rs.length - j) 0
      ⟨by omega, m, blk0, Ls0, Mem.Le.refl m, h1, h2, fun i r cs L a b c => by rw [if_neg (by omega)]; exact hs i r cs L a b c, hL⟩ ⟨rfl, trivial⟩ ?_
    clear hL hs h9 h1 h2
    rintro j w f ⟨hj, m1, blk, Ls, hm1, h1, h2, hs, hL⟩
    have h9 : ∀ r ∈ blk, r.length = 9 := by
      intro r hr
      obtain ⟨i, hi, rfl⟩ := List.getElem_of_mem hr
      exact (hs i _ _ _ (List.getElem?_eq_getElem (by omega)) (List.getElem?_eq_getElem hi) (List.getElem?_eq_getElem (by omega))).len
    conv => whnf
    repeat (first
      | (refine BrReq.tt ?_; conv => whnf)
      | (refine BrReq.ff ?_; conv => whnf)
      | (refine LdReq.own1 hX rfl rfl 0 hL rfl rfl ?_; conv => whnf)
      | (refine LdReq.own1 hX rfl rfl 1 hL rfl rfl ?_; conv => whnf)
      | (refine LdReq.own1 hX rfl rfl 2 hL rfl rfl ?_; conv => whnf)
      | (refine LdReq.own1 hX rfl rfl 3 hL rfl rfl ?_; conv => whnf)
      | (refine LdReq.own1 hX rfl rfl 4 hL rfl rfl ?_; conv => whnf)
      | (refine LdReq.own1 hX rfl rfl 5 hL rfl rfl ?_; conv => whnf)
      | (refine LdReq.own1 hX rfl rfl 6 hL rfl rfl ?_; conv => whnf)
      | (refine LdReq.ownA hX rfl rfl 0 hL rfl rfl ?_; conv => whnf)
      | (refine LdReq.ownA hX rfl rfl 1 hL rfl rfl ?_; conv => whnf)
      | (refine LdReq.ownA hX rfl rfl 2 hL rfl rfl ?_; conv => whnf)
      | (refine LdReq.ownA hX rfl rfl 3 hL rfl rfl ?_; conv => whnf)
      | (refine LdReq.ownA hX rfl rfl 4 hL rfl rfl ?_; conv => whnf)
      | (refine LdReq.ownA hX rfl rfl 5 hL rfl rfl ?_; conv => whnf)
      | (refine LdReq.ownA hX rfl rfl 6 hL rfl rfl ?_; conv => whnf)
      | (refine StReq.own hX rfl 0 hL rfl rfl rfl rfl ?_; clear hL; intro w hL; conv => whnf)
      | (refine StReq.own hX rfl 1 hL rfl rfl rfl rfl ?_; clear hL; intro w hL; conv => whnf)
      | (refine StReq.own hX rfl 2 hL rfl rfl rfl rfl ?_; clear hL; intro w hL; conv => whnf)
      | (refine StReq.own hX rfl 3 hL rfl rfl rfl rfl ?_; clear hL; intro w hL; conv => whnf)
      | (refine StReq.own hX rfl 4 hL rfl rfl rfl rfl ?_; clear hL; intro w hL; conv => whnf)
      | (refine StReq.own hX rfl 5 hL rfl rfl rfl rfl ?_; clear hL; intro w hL; conv => whnf)
      | (refine StReq.own hX rfl 6 hL rfl rfl rfl rfl ?_; clear hL; intro w hL; conv => whnf)
      | (refine ArReq.i64 (by omega) (by omega) ?_; conv => whnf)
      | (refine SeqReq.go hX ?_; conv => whnf)
      | (refine OptReq.mk rfl ?_; conv => whnf))
    refine BrReq.dec (fun hlt => ?_) (fun hlt => ?_)
    · have hlt' : j < rs.length := by omega
      have hx0 := List.getElem?_eq_getElem (l := rs) hlt'
      obtain ⟨cs, hcs⟩ : ∃ cs, blk[j]? = some cs := ⟨_, List.getElem?_eq_getElem (by omega)⟩
      obtain ⟨Lj, hLj⟩ : ∃ Lj, Ls[j]? = some Lj := ⟨_, List.getElem?_eq_getElem (by omega)⟩
      have hown := hs j _ _ _ hx0 hcs hLj
      rw [if_neg (by omega)] at hown
      obtain ⟨k1, u0, u1, u2, u3, g1, n1, lo1, hi1, neg1, rfl⟩ := hown.form
      conv => whnf
      repeat (first
        | (refine Idx2Req.mk j _ rfl (by omega) rfl ?_; conv => whnf)
        | (refine rows_load hX rfl rfl 2 hL rfl h9 hcs ?_; conv => whnf)
        | (refine BrReq.tt ?_; conv => whnf)
        | (refine BrReq.ff ?_; conv => whnf)
        | (refine LdReq.own1 hX rfl rfl 0 hL rfl rfl ?_; conv => whnf)
        | (refine LdReq.own1 hX rfl rfl 1 hL rfl rfl ?_; conv => whnf)
        | (refine LdReq.own1 hX rfl rfl 2 hL rfl rfl ?_; conv => whnf)
        | (refine LdReq.own1 hX rfl rfl 3 hL rfl rfl ?_; conv => whnf)
        | (refine LdReq.own1 hX rfl rfl 4 hL rfl rfl ?_; conv => whnf)
        | (refine LdReq.own1 hX rfl rfl 5 hL rfl rfl ?_; conv => whnf)
        | (refine LdReq.own1 hX rfl rfl 6 hL rfl rfl ?_; conv => whnf)
        | (refine LdReq.ownA hX rfl rfl 0 hL rfl rfl ?_; conv => whnf)
        | (refine LdReq.ownA hX rfl rfl 1 hL rfl rfl ?_; conv => whnf)
        | (refine LdReq.ownA hX rfl rfl 2 hL rfl rfl ?_; conv => whnf)
        | (refine LdReq.ownA hX rfl rfl 3 hL rfl rfl ?_; conv => whnf)
        | (refine LdReq.ownA hX rfl rfl 4 hL rfl rfl ?_; conv => whnf)
        | (refine LdReq.ownA hX rfl rfl 5 hL rfl rfl ?_; conv => whnf)
        | (refine LdReq.ownA hX rfl rfl 6 hL rfl rfl ?_; conv => whnf)
        | (refine StReq.own hX rfl 0 hL rfl rfl rfl rfl ?_; clear hL; intro w hL; conv => whnf)
        | (refine StReq.own hX rfl 1 hL rfl rfl rfl rfl ?_; clear hL; intro w hL; conv => whnf)
        | (refine StReq.own hX rfl 2 hL rfl rfl rfl rfl ?_; clear hL; intro w hL; conv => whnf)
        | (refine StReq.own hX rfl 3 hL rfl rfl rfl rfl ?_; clear hL; intro w hL; conv => whnf)
        | (refine StReq.own hX rfl 4 hL rfl rfl rfl rfl ?_; clear hL; intro w hL; conv => whnf)
        | (refine StReq.own hX rfl 5 hL rfl rfl rfl rfl ?_; clear hL; intro w hL; conv => whnf)
        | (refine StReq.own hX rfl 6 hL rfl rfl rfl rfl ?_; clear hL; intro w hL; conv => whnf)
        | (refine ArReq.i64 (by omega) (by omega) ?_; conv => whnf)
        | (refine SeqReq.go hX ?_; conv => whnf)
        | (refine OptReq.mk rfl ?_; conv => whnf))
      refine NewReq.mk hL ?_
      clear hL
      intro b4 w hL
      conv => whnf
      conv => whnf
      repeat (first
        | (refine BrReq.tt ?_; conv => whnf)
        | (refine BrReq.ff ?_; conv => whnf)
        | (refine LdReq.own1 hX rfl rfl 0 hL rfl rfl ?_; conv => whnf)
        | (refine LdReq.own1 hX rfl rfl 1 hL rfl rfl ?_; conv => whnf)
        | (refine LdReq.own1 hX rfl rfl 2 hL rfl rfl ?_; conv => whnf)
        | (refine LdReq.own1 hX rfl rfl 3 hL rfl rfl ?_; conv => whnf)
        | (refine LdReq.own1 hX rfl rfl 4 hL rfl rfl ?_; conv => whnf)
        | (refine LdReq.own1 hX rfl rfl 5 hL rfl rfl ?_; conv => whnf)
        | (refine LdReq.own1 hX rfl rfl 6 hL rfl rfl ?_; conv => whnf)
        | (refine LdReq.ownA hX rfl rfl 0 hL rfl rfl ?_; conv => whnf)
        | (refine LdReq.ownA hX rfl rfl 1 hL rfl rfl ?_; conv => whnf)
        | (refine LdReq.ownA hX rfl rfl 2 hL rfl rfl ?_; conv => whnf)
        | (refine LdReq.ownA hX rfl rfl 3 hL rfl rfl ?_; conv => whnf)
        | (refine LdReq.ownA hX rfl rfl 4 hL rfl rfl ?_; conv => whnf)
        | (refine LdReq.ownA hX rfl rfl 5 hL rfl rfl ?_; conv => whnf)
        | (refine LdReq.ownA hX rfl rfl 6 hL rfl rfl ?_; conv => whnf)
        | (refine StReq.own hX rfl 0 hL rfl rfl rfl rfl ?_; clear hL; intro w hL; conv => whnf)
        | (refine StReq.own hX rfl 1 hL rfl rfl rfl rfl ?_; clear hL; intro w hL; conv => whnf)
        | (refine StReq.own hX rfl 2 hL rfl rfl rfl rfl ?_; clear hL; intro w hL; conv => whnf)
        | (refine StReq.own hX rfl 3 hL rfl rfl rfl rfl ?_; clear hL; intro w hL; conv => whnf)
        | (refine StReq.own hX rfl 4 hL rfl rfl rfl rfl ?_; clear hL; intro w hL; conv => whnf)
        | (refine StReq.own hX rfl 5 hL rfl rfl rfl rfl ?_; clear hL; intro w hL; conv => whnf)
        | (refine StReq.own hX rfl 6 hL rfl rfl rfl rfl ?_; clear hL; intro w hL; conv => whnf)
        | (refine ArReq.i64 (by omega) (by omega) ?_; conv => whnf)
        | (refine SeqReq.go hX ?_; conv => whnf)
        | (refine OptReq.mk rfl ?_; conv => whnf))
      refine DrawReq.plan hX (.fst 0 (.fst 1 (.fst 2 (.fst 3 (.alt 4 (.fst 5 (.alt 6 (.done) (.stop))) (.stop)))))) [(b4, .cells (toArr (reC k1 u0 u1 u2 u3 (.slice (some ⟨g1, 0, none⟩) n1 n1) lo1 hi1 neg1)) 27 (0, 0)), (b2, .cells (toArr (reC 0 0 0 0 0 (.slice none 0 0) 0 0 false)) 27 (0, 0)), (b1, .cells (toArr (reC kd s0 s1 s2 s3 (.slice (some ⟨g, 0, none⟩) rs.length rs.length) lo hi neg)) 27 (0, 0))] (by kernel_rfl) (by kernel_rfl) hL (fun h => h.sublist (.cons_cons _ (.cons_cons _ (.cons_cons _ (List.nil_sublist _))))) ?_
      clear hL
      intro w hL
      conv => whnf
      repeat (first
        | (refine QLdReq.own1 hX rfl rfl 0 rfl rfl ?_; conv => whnf)
        | (refine QLdReq.own1 hX rfl rfl 1 rfl rfl ?_; conv => whnf)
        | (refine QLdReq.own1 hX rfl rfl 2 rfl rfl ?_; conv => whnf)
        | (refine QLdReq.own1 hX rfl rfl 3 rfl rfl ?_; conv => whnf)
        | (refine QLdReq.ownA hX rfl rfl 0 rfl rfl ?_; conv => whnf)
        | (refine QLdReq.ownA hX rfl rfl 1 rfl rfl ?_; conv => whnf)
        | (refine QLdReq.ownA hX rfl rfl 2 rfl rfl ?_; conv => whnf)
        | (refine QLdReq.ownA hX rfl rfl 3 rfl rfl ?_; conv => whnf)
        | (refine AltReq.one ?_; conv => whnf)
        | (refine BrReq.tt ?_; conv => whnf)
        | (refine BrReq.ff ?_; conv => whnf)
        | (refine LdReq.own1 hX rfl rfl 0 hL rfl rfl ?_; conv => whnf)
        | (refine LdReq.own1 hX rfl rfl 1 hL rfl rfl ?_; conv => whnf)
        | (refine LdReq.own1 hX rfl rfl 2 hL rfl rfl ?_; conv => whnf)
        | (refine LdReq.own1 hX rfl rfl 3 hL rfl rfl ?_; conv => whnf)
        | (refine LdReq.own1 hX rfl rfl 4 hL rfl rfl ?_; conv => whnf)
        | (refine LdReq.own1 hX rfl rfl 5 hL rfl rfl ?_; conv => whnf)
        | (refine LdReq.own1 hX rfl rfl 6 hL rfl rfl ?_; conv => whnf)
        | (refine LdReq.ownA hX rfl rfl 0 hL rfl rfl ?_; conv => whnf)
        | (refine LdReq.ownA hX rfl rfl 1 hL rfl rfl ?_; conv => whnf)
        | (refine LdReq.ownA hX rfl rfl 2 hL rfl rfl ?_; conv => whnf)
        | (refine LdReq.ownA hX rfl rfl 3 hL rfl rfl ?_; conv => whnf)
        | (refine LdReq.ownA hX rfl rfl 4 hL rfl rfl ?_; conv => whnf)
        | (refine LdReq.ownA hX rfl rfl 5 hL rfl rfl ?_; conv => whnf)
        | (refine LdReq.ownA hX rfl rfl 6 hL rfl rfl ?_; conv => whnf)
        | (refine StReq.own hX rfl 0 hL rfl rfl rfl rfl ?_; clear hL; intro w hL; conv => whnf)
        | (refine StReq.own hX rfl 1 hL rfl rfl rfl rfl ?_; clear hL; intro w hL; conv => whnf)
        | (refine StReq.own hX rfl 2 hL rfl rfl rfl rfl ?_; clear hL; intro w hL; conv => whnf)
        | (refine StReq.own hX rfl 3 hL rfl rfl rfl rfl ?_; clear hL; intro w hL; conv => whnf)
        | (refine StReq.own hX rfl 4 hL rfl rfl rfl rfl ?_; clear hL; intro w hL; conv => whnf)
        | (refine StReq.own hX rfl 5 hL rfl rfl rfl rfl ?_; clear hL; intro w hL; conv => whnf)
        | (refine StReq.own hX rfl 6 hL rfl rfl rfl rfl ?_; clear hL; intro w hL; conv => whnf)
        | (refine ArReq.i64 (by omega) (by omega) ?_; conv => whnf)
        | (refine SeqReq.go hX ?_; conv => whnf)
        | (refine OptReq.mk rfl ?_; conv => whnf))
      have hL : Ev.Loc m S0 w0 m1 ([_, _, _, _] ++ Ls.flatten) w := hL
      refine CallReq.mk (L1 := Lj) (ih _ (List.getElem_mem hlt') m1 _ _ hown) ((hL.perm (List.Perm.append_left _ (flat_pick hLj))).perm perm_x) ?_
      clear hL
      rintro v m2 L1 w hL hm2 ⟨cs3, rfl, ho⟩
      obtain ⟨k3, v0, v1, v2, v3, g3, n3, lo3, hi3, neg3, rfl⟩ := ho.form
      replace hL := (hL.perm perm_x).perm (List.Perm.append_left _ (flat_put (L2 := L1) hLj).symm)
      replace hL : Ev.Loc m S0 w0 m2 ((b4, .cells (toArr (reC k1 u0 u1 u2 u3 (.slice (some ⟨g1, 0, none⟩) n1 n1) lo1 hi1 neg1)) 27 (0, 0)) :: (b2, .cells (toArr (reC 0 0 0 0 0 (.slice none 0 0) 0 0 false)) 27 (0, 0)) :: (b1, .cells (toArr (reC kd s0 s1 s2 s3 (.slice (some ⟨g, 0, none⟩) rs.length rs.length) lo hi neg)) 27 (0, 0)) :: (g, .cells (toArr (List.flatten blk)) 27 (0, 0)) :: (Ls.set j L1).flatten) w := hL
      conv => whnf
      repeat (first
        | (refine SReq.mk ((hL.sublist (.cons_cons _ (.cons_cons _ (.cons_cons _ (List.nil_sublist _))))).weaken hm2 hm1) ?_; conv => whnf)
        | (refine Idx2Req.mk j _ rfl (by omega) rfl ?_; conv => whnf)
        | (refine QLdReq.own1 hX rfl rfl 0 rfl rfl ?_; conv => whnf)
        | (refine QLdReq.own1 hX rfl rfl 1 rfl rfl ?_; conv => whnf)
        | (refine QLdReq.own1 hX rfl rfl 2 rfl rfl ?_; conv => whnf)
        | (refine QLdReq.own1 hX rfl rfl 3 rfl rfl ?_; conv => whnf)
        | (refine QLdReq.ownA hX rfl rfl 0 rfl rfl ?_; conv => whnf)
        | (refine QLdReq.ownA hX rfl rfl 1 rfl rfl ?_; conv => whnf)
        | (refine QLdReq.ownA hX rfl rfl 2 rfl rfl ?_; conv => whnf)
        | (refine QLdReq.ownA hX rfl rfl 3 rfl rfl ?_; conv => whnf)
        | (refine AltReq.one ?_; conv => whnf)
        | (refine BrReq.tt ?_; conv => whnf)
        | (refine BrReq.ff ?_; conv => whnf)
        | (refine LdReq.own1 hX rfl rfl 0 hL rfl rfl ?_; conv => whnf)
        | (refine LdReq.own1 hX rfl rfl 1 hL rfl rfl ?_; conv => whnf)
        | (refine LdReq.own1 hX rfl rfl 2 hL rfl rfl ?_; conv => whnf)
        | (refine LdReq.own1 hX rfl rfl 3 hL rfl rfl ?_; conv => whnf)
        | (refine LdReq.own1 hX rfl rfl 4 hL rfl rfl ?_; conv => whnf)
        | (refine LdReq.own1 hX rfl rfl 5 hL rfl rfl ?_; conv => whnf)
        | (refine LdReq.own1 hX rfl rfl 6 hL rfl rfl ?_; conv => whnf)
        | (refine LdReq.ownA hX rfl rfl 0 hL rfl rfl ?_; conv => whnf)
        | (refine LdReq.ownA hX rfl rfl 1 hL rfl rfl ?_; conv => whnf)
        | (refine LdReq.ownA hX rfl rfl 2 hL rfl rfl ?_; conv => whnf)
        | (refine LdReq.ownA hX rfl rfl 3 hL rfl rfl ?_; conv => whnf)
        | (refine LdReq.ownA hX rfl rfl 4 hL rfl rfl ?_; conv => whnf)
        | (refine LdReq.ownA hX rfl rfl 5 hL rfl rfl ?_; conv => whnf)
        | (refine LdReq.ownA hX rfl rfl 6 hL rfl rfl ?_; conv => whnf)
        | (refine StReq.own hX rfl 0 hL rfl rfl rfl rfl ?_; clear hL; intro w hL; conv => whnf)
        | (refine StReq.own hX rfl 1 hL rfl rfl rfl rfl ?_; clear hL; intro w hL; conv => whnf)
        | (refine StReq.own hX rfl 2 hL rfl rfl rfl rfl ?_; clear hL; intro w hL; conv => whnf)
        | (refine StReq.own hX rfl 3 hL rfl rfl rfl rfl ?_; clear hL; intro w hL; conv => whnf)
        | (refine StReq.own hX rfl 4 hL rfl rfl rfl rfl ?_; clear hL; intro w hL; conv => whnf)
        | (refine StReq.own hX rfl 5 hL rfl rfl rfl rfl ?_; clear hL; intro w hL; conv => whnf)
        | (refine StReq.own hX rfl 6 hL rfl rfl rfl rfl ?_; clear hL; intro w hL; conv => whnf)
        | (refine ArReq.i64 (by omega) (by omega) ?_; conv => whnf)
        | (refine SeqReq.go hX ?_; conv => whnf)
        | (refine OptReq.mk rfl ?_; conv => whnf))
      refine rows_store hX rfl 3 hL rfl h9 (by omega) rfl rfl ?_
      clear hL
      intro w hL
      replace hL : Ev.Loc m S0 w0 m2 (_ :: _ :: _ :: _ :: (Ls.set j L1).flatten) w := hL
      have hs' : ∀ (i : Nat) (r : Re) (cs : List Value) (L : Ev.Own), rs[i]? = some r → (blk.set j (reC k3 v0 v1 v2 v3 (.slice (some ⟨g3, 0, none⟩) n3 n3) lo3 hi3 neg3))[i]? = some cs → (Ls.set j L1)[i]? = some L → OwnT (if i < j + 1 then turnR r else r) cs L := by
        intro i x cs L hx hc hl
        by_cases e : i = j
        · subst e
          have ex : x = rs[i] := by rw [List.getElem?_eq_getElem hlt'] at hx; exact (Option.some.inj hx).symm
          subst ex
          rw [List.getElem?_set_self (by omega)] at hc; cases hc
          rw [List.getElem?_set_self (by omega)] at hl; cases hl
          rw [if_pos (Nat.lt_succ_self _)]
          exact ho
        · rw [List.getElem?_set_ne (Ne.symm e)] at hc
          rw [List.getElem?_set_ne (Ne.symm e)] at hl
          have := hs i x cs L hx hc hl
          by_cases hij : i < j
          · rw [if_pos hij] at this; rw [if_pos (by omega)]; exact this
          · rw [if_neg hij] at this; rw [if_neg (by omega)]; exact this
      conv => whnf
      repeat (first
        | (refine SReq.mk ((hL.sublist (.cons_cons _ (.cons_cons _ (.cons_cons _ (List.nil_sublist _))))).weaken hm2 hm1) ?_; conv => whnf)
        | (refine QLdReq.own1 hX rfl rfl 0 rfl rfl ?_; conv => whnf)
        | (refine QLdReq.own1 hX rfl rfl 1 rfl rfl ?_; conv => whnf)
        | (refine QLdReq.own1 hX rfl rfl 2 rfl rfl ?_; conv => whnf)
        | (refine QLdReq.own1 hX rfl rfl 3 rfl rfl ?_; conv => whnf)
        | (refine QLdReq.ownA hX rfl rfl 0 rfl rfl ?_; conv => whnf)
        | (refine QLdReq.ownA hX rfl rfl 1 rfl rfl ?_; conv => whnf)
        | (refine QLdReq.ownA hX rfl rfl 2 rfl rfl ?_; conv => whnf)
        | (refine QLdReq.ownA hX rfl rfl 3 rfl rfl ?_; conv => whnf)
        | (refine AltReq.one ?_; conv => whnf)
        | (refine BrReq.tt ?_; conv => whnf)
        | (refine BrReq.ff ?_; conv => whnf)
        | (refine LdReq.own1 hX rfl rfl 0 hL rfl rfl ?_; conv => whnf)
        | (refine LdReq.own1 hX rfl rfl 1 hL rfl rfl ?_; conv => whnf)
        | (refine LdReq.own1 hX rfl rfl 2 hL rfl rfl ?_; conv => whnf)
        | (refine LdReq.own1 hX rfl rfl 3 hL rfl rfl ?_; conv => whnf)
        | (refine LdReq.own1 hX rfl rfl 4 hL rfl rfl ?_; conv => whnf)
        | (refine LdReq.own1 hX rfl rfl 5 hL rfl rfl ?_; conv => whnf)
        | (refine LdReq.own1 hX rfl rfl 6 hL rfl rfl ?_; conv => whnf)
        | (refine LdReq.ownA hX rfl rfl 0 hL rfl rfl ?_; conv => whnf)
        | (refine LdReq.ownA hX rfl rfl 1 hL rfl rfl ?_; conv => whnf)
        | (refine LdReq.ownA hX rfl rfl 2 hL rfl rfl ?_; conv => whnf)
        | (refine LdReq.ownA hX rfl rfl 3 hL rfl rfl ?_; conv => whnf)
        | (refine LdReq.ownA hX rfl rfl 4 hL rfl rfl ?_; conv => whnf)
        | (refine LdReq.ownA hX rfl rfl 5 hL rfl rfl ?_; conv => whnf)
        | (refine LdReq.ownA hX rfl rfl 6 hL rfl rfl ?_; conv => whnf)
        | (refine StReq.own hX rfl 0 hL rfl rfl rfl rfl ?_; clear hL; intro w hL; conv => whnf)
        | (refine StReq.own hX rfl 1 hL rfl rfl rfl rfl ?_; clear hL; intro w hL; conv => whnf)
        | (refine StReq.own hX rfl 2 hL rfl rfl rfl rfl ?_; clear hL; intro w hL; conv => whnf)
        | (refine StReq.own hX rfl 3 hL rfl rfl rfl rfl ?_; clear hL; intro w hL; conv => whnf)
        | (refine StReq.own hX rfl 4 hL rfl rfl rfl rfl ?_; clear hL; intro w hL; conv => whnf)
        | (refine StReq.own hX rfl 5 hL rfl rfl rfl rfl ?_; clear hL; intro w hL; conv => whnf)
        | (refine StReq.own hX rfl 6 hL rfl rfl rfl rfl ?_; clear hL; intro w hL; conv => whnf)
        | (refine ArReq.i64 (by omega) (by omega) ?_; conv => whnf)
        | (refine SeqReq.go hX ?_; conv => whnf)
        | (refine OptReq.mk rfl ?_; conv => whnf))
      refine ⟨j + 1, ⟨by omega, m2, _, Ls.set j L1, hm1.trans hm2, by rw [List.length_set]; exact h1, by rw [List.length_set]; exact h2, hs', hL.drop⟩, by omega, ?_, ?_⟩
      · repeat (first | exact trivial | (refine And.intro (by (conv => lhs; whnf) <;> (conv => rhs; whnf) <;> (first | rfl)) ?_))
      · repeat (first | exact trivial | (refine And.intro (by (conv => lhs; whnf) <;> (conv => rhs; whnf) <;> (first | rfl)) ?_))
    have hjn : j = rs.length := by omega
    subst hjn
    have hs' : ∀ (i : Nat) (r : Re) (cs : List Value) (L : Ev.Own), (rs.map turnR)[i]? = some r → blk[i]? = some cs → Ls[i]? = some L → OwnT r cs L := by
      intro i x cs L hx hc hl
      rw [List.getElem?_map, Option.map_eq_some_iff] at hx
      obtain ⟨y, hy, rfl⟩ := hx
      have := hs i y cs L hy hc hl
      rw [if_pos (by have := (List.getElem?_eq_some_iff.1 hy).1; omega)] at this
      exact this
    have e1 : rs.length = (rs.map turnR).length := by rw [List.length_map]
    have h9 : ∀ r ∈ blk, r.length = 9 := by
      intro r hr
      obtain ⟨i, hi, rfl⟩ := List.getElem_of_mem hr
      exact (hs i _ _ _ (List.getElem?_eq_getElem (by omega)) (List.getElem?_eq_getElem hi) (List.getElem?_eq_getElem (by omega))).len
    have hone : ∀ r ∈ blk, r.all Value.oneCell' = true := by
      intro r hr
      obtain ⟨i, hi, rfl⟩ := List.getElem_of_mem hr
      obtain ⟨k1, u0, u1, u2, u3, g1, n1, lo1, hi1, neg1, e⟩ := (hs i _ _ _ (List.getElem?_eq_getElem (by omega)) (List.getElem?_eq_getElem hi) (List.getElem?_eq_getElem (by omega))).form
      rw [e]; rfl
    conv => whnf
    repeat (first
      | (refine BrReq.tt ?_; conv => whnf)
      | (refine BrReq.ff ?_; conv => whnf)
      | (refine LdReq.own1 hX rfl rfl 0 hL rfl rfl ?_; conv => whnf)
      | (refine LdReq.own1 hX rfl rfl 1 hL rfl rfl ?_; conv => whnf)
      | (refine LdReq.own1 hX rfl rfl 2 hL rfl rfl ?_; conv => whnf)
      | (refine LdReq.own1 hX rfl rfl 3 hL rfl rfl ?_; conv => whnf)
      | (refine LdReq.own1 hX rfl rfl 4 hL rfl rfl ?_; conv => whnf)
      | (refine LdReq.own1 hX rfl rfl 5 hL rfl rfl ?_; conv => whnf)
      | (refine LdReq.own1 hX rfl rfl 6 hL rfl rfl ?_; conv => whnf)
      | (refine LdReq.ownA hX rfl rfl 0 hL rfl rfl ?_; conv => whnf)
      | (refine LdReq.ownA hX rfl rfl 1 hL rfl rfl ?_; conv => whnf)
      | (refine LdReq.ownA hX rfl rfl 2 hL rfl rfl ?_; conv => whnf)
      | (refine LdReq.ownA hX rfl rfl 3 hL rfl rfl ?_; conv => whnf)
      | (refine LdReq.ownA hX rfl rfl 4 hL rfl rfl ?_; conv => whnf)
      | (refine LdReq.ownA hX rfl rfl 5 hL rfl rfl ?_; conv => whnf)
      | (refine LdReq.ownA hX rfl rfl 6 hL rfl rfl ?_; conv => whnf)
      | (refine StReq.own hX rfl 0 hL rfl rfl rfl rfl ?_; clear hL; intro w hL; conv => whnf)
      | (refine StReq.own hX rfl 1 hL rfl rfl rfl rfl ?_; clear hL; intro w hL; conv => whnf)
      | (refine StReq.own hX rfl 2 hL rfl rfl rfl rfl ?_; clear hL; intro w hL; conv => whnf)
      | (refine StReq.own hX rfl 3 hL rfl rfl rfl rfl ?_; clear hL; intro w hL; conv => whnf)
      | (refine StReq.own hX rfl 4 hL rfl rfl rfl rfl ?_; clear hL; intro w hL; conv => whnf)
      | (refine StReq.own hX rfl 5 hL rfl rfl rfl rfl ?_; clear hL; intro w hL; conv => whnf)
      | (refine StReq.own hX rfl 6 hL rfl rfl rfl rfl ?_; clear hL; intro w hL; conv => whnf)
      | (refine ArReq.i64 (by omega) (by omega) ?_; conv => whnf)
      | (refine SeqReq.go hX ?_; conv => whnf)
      | (refine OptReq.mk rfl ?_; conv => whnf))
    refine BrReq.dec (fun k3 => ?_) (fun k3 => ?_)
    · have e2 := e1
      conv => whnf
      repeat (first
        | (refine BrReq.tt ?_; conv => whnf)
        | (refine BrReq.ff ?_; conv => whnf)
        | (refine LdReq.own1 hX rfl rfl 0 hL rfl rfl ?_; conv => whnf)
        | (refine LdReq.own1 hX rfl rfl 1 hL rfl rfl ?_; conv => whnf)
        | (refine LdReq.own1 hX rfl rfl 2 hL rfl rfl ?_; conv => whnf)
        | (refine LdReq.own1 hX rfl rfl 3 hL rfl rfl ?_; conv => whnf)
        | (refine LdReq.own1 hX rfl rfl 4 hL rfl rfl ?_; conv => whnf)
        | (refine LdReq.own1 hX rfl rfl 5 hL rfl rfl ?_; conv => whnf)
        | (refine LdReq.own1 hX rfl rfl 6 hL rfl rfl ?_; conv => whnf)
        | (refine LdReq.ownA hX rfl rfl 0 hL rfl rfl ?_; conv => whnf)
        | (refine LdReq.ownA hX rfl rfl 1 hL rfl rfl ?_; conv => whnf)
        | (refine LdReq.ownA hX rfl rfl 2 hL rfl rfl ?_; conv => whnf)
        | (refine LdReq.ownA hX rfl rfl 3 hL rfl rfl ?_; conv => whnf)
        | (refine LdReq.ownA hX rfl rfl 4 hL rfl rfl ?_; conv => whnf)
        | (refine LdReq.ownA hX rfl rfl 5 hL rfl rfl ?_; conv => whnf)
        | (refine LdReq.ownA hX rfl rfl 6 hL rfl rfl ?_; conv => whnf)
        | (refine StReq.own hX rfl 0 hL rfl rfl rfl rfl ?_; clear hL; intro w hL; conv => whnf)
        | (refine StReq.own hX rfl 1 hL rfl rfl rfl rfl ?_; clear hL; intro w hL; conv => whnf)
        | (refine StReq.own hX rfl 2 hL rfl rfl rfl rfl ?_; clear hL; intro w hL; conv => whnf)
        | (refine StReq.own hX rfl 3 hL rfl rfl rfl rfl ?_; clear hL; intro w hL; conv => whnf)
        | (refine StReq.own hX rfl 4 hL rfl rfl rfl rfl ?_; clear hL; intro w hL; conv => whnf)
        | (refine StReq.own hX rfl 5 hL rfl rfl rfl rfl ?_; clear hL; intro w hL; conv => whnf)
        | (refine StReq.own hX rfl 6 hL rfl rfl rfl rfl ?_; clear hL; intro w hL; conv => whnf)
        | (refine ArReq.i64 (by omega) (by omega) ?_; conv => whnf)
        | (refine SeqReq.go hX ?_; conv => whnf)
        | (refine OptReq.mk rfl ?_; conv => whnf))
      have hL : Ev.Loc m S0 w0 m1 ([_, _] ++ ([(g, .cells (toArr blk.flatten) 27 (0, 0))] ++ Ls.flatten)) w := hL
      have hrev := reverse_fn m1 g blk h9 hone (by omega)
      rw [h1] at hrev
      refine CallReq.mk (L1 := [(g, .cells (toArr blk.flatten) 27 (0, 0))]) hrev (hL.perm perm_x) ?_
      clear hL
      rintro v m2 L1 w hL hm2 ⟨⟨rfl, rfl⟩, rfl⟩
      replace hL := hL.perm perm_x
      have hL : Ev.Loc m S0 w0 m2 (_ :: _ :: _ :: Ls.flatten) w := hL
      have fin : OwnT (turnR (.mk kd s0 s1 s2 s3 rs lo hi neg)) (reC kd s0 s1 s2 s3 (.slice (some ⟨g, 0, none⟩) rs.length rs.length) lo hi neg) ((g, .cells (toArr blk.reverse.flatten) 27 (0, 0)) :: Ls.reverse.flatten) := by
        have e3 : rs.length = (rs.map turnR).reverse.length := by rw [List.length_reverse, List.length_map]
        have ek : turnK kd = kd := by unfold turnK; rw [if_neg (by omega), if_neg (by omega), if_neg (by omega), if_neg (by omega)]
        rw [turnR_eq, if_pos k3, e3, ek]
        refine .mk _ s0 s1 s2 s3 lo hi neg g (rs.map turnR).reverse blk.reverse Ls.reverse (by rw [List.length_reverse]; omega) (by rw [List.length_reverse]; omega) (by omega) hr ?_
        intro i x cs L hx hc hl
        have hi : i < rs.length := by rw [e3]; exact (List.getElem?_eq_some_iff.1 hx).1
        rw [List.getElem?_reverse (by rw [← e1]; exact hi), ← e1] at hx
        rw [List.getElem?_reverse (by omega), h1] at hc
        rw [List.getElem?_reverse (by omega), h2] at hl
        exact hs' _ x cs L hx hc hl
      conv => whnf
      repeat (first
        | (refine BrReq.tt ?_; conv => whnf)
        | (refine BrReq.ff ?_; conv => whnf)
        | (refine LdReq.own1 hX rfl rfl 0 hL rfl rfl ?_; conv => whnf)
        | (refine LdReq.own1 hX rfl rfl 1 hL rfl rfl ?_; conv => whnf)
        | (refine LdReq.own1 hX rfl rfl 2 hL rfl rfl ?_; conv => whnf)
        | (refine LdReq.own1 hX rfl rfl 3 hL rfl rfl ?_; conv => whnf)
        | (refine LdReq.own1 hX rfl rfl 4 hL rfl rfl ?_; conv => whnf)
        | (refine LdReq.own1 hX rfl rfl 5 hL rfl rfl ?_; conv => whnf)
        | (refine LdReq.own1 hX rfl rfl 6 hL rfl rfl ?_; conv => whnf)
        | (refine LdReq.ownA hX rfl rfl 0 hL rfl rfl ?_; conv => whnf)
        | (refine LdReq.ownA hX rfl rfl 1 hL rfl rfl ?_; conv => whnf)
        | (refine LdReq.ownA hX rfl rfl 2 hL rfl rfl ?_; conv => whnf)
        | (refine LdReq.ownA hX rfl rfl 3 hL rfl rfl ?_; conv => whnf)
        | (refine LdReq.ownA hX rfl rfl 4 hL rfl rfl ?_; conv => whnf)
        | (refine LdReq.ownA hX rfl rfl 5 hL rfl rfl ?_; conv => whnf)
        | (refine LdReq.ownA hX rfl rfl 6 hL rfl rfl ?_; conv => whnf)
        | (refine StReq.own hX rfl 0 hL rfl rfl rfl rfl ?_; clear hL; intro w hL; conv => whnf)
        | (refine StReq.own hX rfl 1 hL rfl rfl rfl rfl ?_; clear hL; intro w hL; conv => whnf)
        | (refine StReq.own hX rfl 2 hL rfl rfl rfl rfl ?_; clear hL; intro w hL; conv => whnf)
        | (refine StReq.own hX rfl 3 hL rfl rfl rfl rfl ?_; clear hL; intro w hL; conv => whnf)
        | (refine StReq.own hX rfl 4 hL rfl rfl rfl rfl ?_; clear hL; intro w hL; conv => whnf)
        | (refine StReq.own hX rfl 5 hL rfl rfl rfl rfl ?_; clear hL; intro w hL; conv => whnf)
        | (refine StReq.own hX rfl 6 hL rfl rfl rfl rfl ?_; clear hL; intro w hL; conv => whnf)
        | (refine ArReq.i64 (by omega) (by omega) ?_; conv => whnf)
        | (refine SeqReq.go hX ?_; conv => whnf)
        | (refine OptReq.mk rfl ?_; conv => whnf))
      exact RetReq.mk (hL.drop.drop.perm (List.Perm.cons _ (List.reverse_perm Ls).symm.flatten)) ⟨_, rfl, fin⟩
    · have fin : OwnT (turnR (.mk kd s0 s1 s2 s3 rs lo hi neg)) (reC (turnK kd) s0 s1 s2 s3 (.slice (some ⟨g, 0, none⟩) rs.length rs.length) lo hi neg) ((g, .cells (toArr blk.flatten) 27 (0, 0)) :: Ls.flatten) := by
        rw [turnR_eq, if_neg k3, e1]
        exact .mk _ s0 s1 s2 s3 lo hi neg g (rs.map turnR) blk Ls (by omega) (by omega) (by omega) ⟨by unfold turnK inI; have := hr.1; unfold inI at this; repeat (split <;> try omega), hr.2⟩ hs'
      conv => whnf
      repeat' (first
        | (refine BrReq.tt ?_; conv => whnf)
        | (refine BrReq.ff ?_; conv => whnf)
        | (refine LdReq.own1 hX rfl rfl 0 hL rfl rfl ?_; conv => whnf)
        | (refine LdReq.own1 hX rfl rfl 1 hL rfl rfl ?_; conv => whnf)
        | (refine LdReq.own1 hX rfl rfl 2 hL rfl rfl ?_; conv => whnf)
        | (refine LdReq.own1 hX rfl rfl 3 hL rfl rfl ?_; conv => whnf)
        | (refine LdReq.own1 hX rfl rfl 4 hL rfl rfl ?_; conv => whnf)
        | (refine LdReq.own1 hX rfl rfl 5 hL rfl rfl ?_; conv => whnf)
        | (refine LdReq.own1 hX rfl rfl 6 hL rfl rfl ?_; conv => whnf)
        | (refine LdReq.ownA hX rfl rfl 0 hL rfl rfl ?_; conv => whnf)
        | (refine LdReq.ownA hX rfl rfl 1 hL rfl rfl ?_; conv => whnf)
        | (refine LdReq.ownA hX rfl rfl 2 hL rfl rfl ?_; conv => whnf)
        | (refine LdReq.ownA hX rfl rfl 3 hL rfl rfl ?_; conv => whnf)
        | (refine LdReq.ownA hX rfl rfl 4 hL rfl rfl ?_; conv => whnf)
        | (refine LdReq.ownA hX rfl rfl 5 hL rfl rfl ?_; conv => whnf)
        | (refine LdReq.ownA hX rfl rfl 6 hL rfl rfl ?_; conv => whnf)
        | (refine StReq.own hX rfl 0 hL rfl rfl rfl rfl ?_; clear hL; intro w hL; conv => whnf)
        | (refine StReq.own hX rfl 1 hL rfl rfl rfl rfl ?_; clear hL; intro w hL; conv => whnf)
        | (refine StReq.own hX rfl 2 hL rfl rfl rfl rfl ?_; clear hL; intro w hL; conv => whnf)
        | (refine StReq.own hX rfl 3 hL rfl rfl rfl rfl ?_; clear hL; intro w hL; conv => whnf)
        | (refine StReq.own hX rfl 4 hL rfl rfl rfl rfl ?_; clear hL; intro w hL; conv => whnf)
        | (refine StReq.own hX rfl 5 hL rfl rfl rfl rfl ?_; clear hL; intro w hL; conv => whnf)
        | (refine StReq.own hX rfl 6 hL rfl rfl rfl rfl ?_; clear hL; intro w hL; conv => whnf)
        | (refine ArReq.i64 (by omega) (by omega) ?_; conv => whnf)
        | (refine SeqReq.go hX ?_; conv => whnf)
        | (refine BrReq.dec (fun _ => ?_) (fun _ => ?_) <;> (conv => whnf))
        | (refine BrReq.not ?_; refine BrReq.dec (fun _ => ?_) (fun _ => ?_) <;> (conv => whnf))
        | (refine BrReq.bool (fun _ => ?_) (fun _ => ?_) <;> (conv => whnf))
        | (refine OptReq.mk rfl ?_; conv => whnf))
      · have ek : turnK kd = 9 := by unfold turnK; rw [if_pos (by omega)]
        rw [ek] at fin
        exact RetReq.mk hL.drop.drop ⟨_, rfl, fin⟩
      · have ek : turnK kd = 8 := by unfold turnK; rw [if_neg (by omega), if_pos (by omega)]
        rw [ek] at fin
        exact RetReq.mk hL.drop.drop ⟨_, rfl, fin⟩
      · have ek : turnK kd = 11 := by unfold turnK; rw [if_neg (by omega), if_neg (by omega), if_pos (by omega)]
        rw [ek] at fin
        exact RetReq.mk hL.drop.drop ⟨_, rfl, fin⟩
      · have ek : turnK kd = 10 := by unfold turnK; rw [if_neg (by omega), if_neg (by omega), if_neg (by omega), if_pos (by omega)]
        rw [ek] at fin
        exact RetReq.mk hL.drop.drop ⟨_, rfl, fin⟩
      · have ek : turnK kd = kd := by unfold turnK; rw [if_neg (by omega), if_neg (by omega), if_neg (by omega), if_neg (by omega)]
        rw [ek] at fin
        exact RetReq.mk hL.drop.drop ⟨_, rfl, fin⟩
end Go.Proofs.Ytmgfcckboncecaa.tree
