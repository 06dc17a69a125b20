/- LazyKeeps, proved: a lazy machine keeps no more than it may, makes nothing twice that it keeps, and forgets all at a flush. Conditions: none beyond the row its own.: part 6 of 13 of the proof. Conditions: none. -/
import Derived.Test.YtaooenndoopgdaaGreatDoorK5
import Derived.Test.YtaooenndoopgdaaGreatDoorK3
import Derived.Test.YtaooenndoopgdaaGreatDoorK2
import Derived.Test.YtaooenndoopgdaaGreatDoorK1
namespace Go.Proofs.YtaooenndoopgdaaGreatDoor.ar
open Go Go.Ev Go.Proofs
def pN (ns : List Nd) (x : Nd) : List Nd × Int := ((putN ns x).1, putI ns x)
def setOf (x : Nd) : S4 := ⟨x.s0, x.s1, x.s2, x.s3⟩
def ndB (s : S4) : Nd := ⟨2, s.x0, s.x1, s.x2, s.x3, 0, 0, false⟩
def noneN (ns : List Nd) : List Nd × Int := pN ns (ndK 0)
def emptyN (ns : List Nd) : List Nd × Int := pN ns (ndK 1)
def allN (ns : List Nd) : List Nd × Int := pN (noneN ns).1 (allX ns)
def bytesN (ns : List Nd) (s : S4) : List Nd × Int := if s = z4 then noneN ns else pN ns (ndB s)
theorem inS_of {x : Nd} (h : InN x) : InS (setOf x) := ⟨h.s0, h.s1, h.s2, h.s3⟩
theorem inN_B {s : S4} (h : InS s) : InN (ndB s) := ⟨by unfold i64 ndB; simp, h.h0, h.h1, h.h2, h.h3, by simp [i64, ndB], by simp [i64, ndB]⟩
theorem eq_st (s t : S4) : eqB X 9 50 (stC s) (stC t) = some (decide (s = t)) := by
 obtain ⟨s0, s1, s2, s3⟩ := s
 obtain ⟨t0, t1, t2, t3⟩ := t
 conv => lhs; whnf
 refine congrArg some ?_
 rw [Bool.eq_iff_iff]
 simp only [Bool.and_eq_true, decide_eq_true_eq, Bool.and_true, beq_iff_eq, S4.mk.injEq]
theorem okA_p {ns : List Nd} (h : OkA ns) {x : Nd} (hx : InN x) : OkA (pN ns x).1 := okA_put h hx
theorem okA_none {ns : List Nd} (h : OkA ns) : OkA (noneN ns).1 := okA_put h (inN_k (by omega))
theorem okA_empty {ns : List Nd} (h : OkA ns) : OkA (emptyN ns).1 := okA_put h (inN_k (by omega))
theorem inN_all {ns : List Nd} (h : OkA ns) : InN (allX ns) := inN_a (by omega) (putI_i64 ns _ h.len)
theorem okA_all {ns : List Nd} (h : OkA ns) : OkA (allN ns).1 := okA_put (okA_none h) (inN_all h)
theorem okA_bytes {ns : List Nd} (h : OkA ns) {s : S4} (hs : InS s) : OkA (bytesN ns s).1 := by
 unfold bytesN
 split
 ·exact okA_none h
 ·exact okA_p h (inN_B hs)
theorem Bytes_fn (m : Mem) (ab : Nat) (ns : List Nd) (L : Own) (hA : Ar ab ns L) (hO : OkA ns) (s : S4) (hs : InS s) :
  Ev.Fn Tryz.prog 143 [.pointer (some ⟨ab, 0, none⟩), .agg (toArr (stC s))] m L (PutQ ab (bytesN ns s).1 (bytesN ns s).2 m) := by
 refine Fn.enter (N := 14) hX Tryz.func143 rfl rfl (by show _ ≤ _; simp) (fun w0 hL => ?_)
 conv => whnf
 generalize keys L = S0 at hL ⊢
 refine NewReq.mk hL ?_
 clear hL
 intro b3 w hL
 conv => whnf
 replace hL : Ev.Loc m S0 w0 m ((b3, .cells (toArr (stC s)) 50 (0, 0)) :: L) w := hL
 conv => whnf
 repeat ((first | refine UGenReq.eqA hX (xs := stC s) (ys := stC z4) rfl rfl rfl Tryz.eqGuardType50 rfl rfl (eq_st _ _) ?_ | (refine go1 ?_;try(clear hL;intro w hL))); conv => whnf)
 unfold bytesN
 by_cases hz : s = z4
 ·rw [decide_eq_true hz, if_pos hz]
  refine go ?_;try(clear hL;intro w hL)
  refine CallReq.mk (L1 := L) (L2 := [_]) (None_fn m ab ns L hA hO) (hL.back (L1 := [_])) ?_
  clear hL
  rintro u mx L2 w hL - ⟨hmx, rfl, hA2⟩
  rw [hmx] at hL
  clear hmx mx
  have hL := hL.back (L2 := [_])
  refine go ?_;try(clear hL;intro w hL)
  exact RetReq.mk hL.drop ⟨rfl, rfl, hA2⟩
 ·rw [decide_eq_false hz, if_neg hz]
  refine go ?_;try(clear hL;intro w hL)
  refine CallReq.mk (L1 := L) (L2 := [_]) (put_fn m ab ns L hA hO (ndB s) (inN_B hs)) (hL.back (L1 := [_])) ?_
  clear hL
  rintro u mx L2 w hL - ⟨hmx, rfl, hA2⟩
  rw [hmx] at hL
  clear hmx mx
  have hL := hL.back (L2 := [_])
  refine go ?_;try(clear hL;intro w hL)
  exact RetReq.mk hL.drop ⟨rfl, rfl, hA2⟩
theorem kind_fn (m : Mem) (ab : Nat) (ns : List Nd) (L : Own) (hA : Ar ab ns L) (id : Int) :
  FnL Tryz.prog 176 [.pointer (some ⟨ab, 0, none⟩), .int .i64 id] m L (.int .i64 (kindN ns id)) := by
 have hnode := Node_fn m ab ns L hA id
 unfold kindN
 generalize (nodeN ns id).1 = x at hnode ⊢
 generalize (nodeN ns id).2 = ok at hnode ⊢
 refine Fn.enter (N := 15) hX Tryz.func176 rfl rfl (by show _ ≤ _; simp) (fun w0 hL => ?_)
 conv => whnf
 generalize keys L = S0 at hL ⊢
 refine go ?_;try(clear hL;intro w hL)
 refine CallReq.lo hnode hL ?_
 clear hL
 intro w hL
 refine go ?_;try(clear hL;intro w hL)
 refine NewReq.mk hL ?_
 clear hL
 intro b w hL
 conv => whnf
 refine go ?_;try(clear hL;intro w hL)
 exact RetReq.mk hL.drop ⟨rfl, rfl, rfl⟩
def op4 : Bool → S4 → S4 → S4 | true => in4 | false => un4
theorem inS_op (g : Bool) {s t : S4} (h : InS s) (k : InS t) : InS (op4 g s t) := by cases g; exact inS_un h k; exact inS_in h k
def stepS (g : Bool) (ns : List Nd) (p : List Int × Option S4) (z : Int) : List Int × Option S4 :=
 if (nodeN ns z).1.k ≠ 2 then (p.1 ++ [z], p.2) else match p.2 with
 | none => (p.1, some (setOf (nodeN ns z).1))
 | some s => (p.1, some (op4 g s (setOf (nodeN ns z).1)))
def splitN (g : Bool) (ns : List Nd) (l : List Int) : List Int × Option S4 := l.foldl (stepS g ns) ([], none)
def gbytesN (g : Bool) (ns : List Nd) (l : List Int) : List Nd × List Int := match (splitN g ns l).2 with
 | none => (ns, (splitN g ns l).1)
 | some s => ((bytesN ns s).1, (splitN g ns l).1 ++ [(bytesN ns s).2])
theorem splitN_take (g : Bool) (ns : List Nd) {l : List Int} {j : Nat} (h : j < l.length) : splitN g ns (l.take (j + 1)) = stepS g ns (splitN g ns (l.take j)) l[j] := by
 rw [List.take_succ_eq_append_getElem h]; unfold splitN; rw [List.foldl_append]; rfl
theorem nodeN_in {ns : List Nd} (h : OkA ns) (z : Int) : InN (nodeN ns z).1 := by
 unfold nodeN
 split
 ·rename_i hz
  have := List.getElem?_eq_getElem (l := ns) (i := z.toNat) (by omega)
  simp only [List.getD, this, Option.getD_some]
  exact h.inn _ (List.getElem_mem _)
 ·exact inN_k (k := 0) (by omega)
theorem splitN_in (g : Bool) {ns : List Nd} (hO : OkA ns) (l : List Int) : ∀ s, (splitN g ns l).2 = some s → InS s := by
 unfold splitN
 suffices h : ∀ (p : List Int × Option S4), (∀ s, p.2 = some s → InS s) → ∀ s, (l.foldl (stepS g ns) p).2 = some s → InS s from h _ (fun s h => by cases h)
 induction l with
 | nil => intro p h; exact h
 | cons z l ih =>
   intro p h
   refine ih _ fun s hs => ?_
   have hz := inS_of (nodeN_in hO z)
   unfold stepS at hs
   split at hs
   ·exact h s hs
   ·split at hs
    ·cases hs; exact hz
    ·rename_i s0 e; cases hs; exact inS_op g (h s0 e) hz
theorem splitN_len (g : Bool) (ns : List Nd) (l : List Int) : ∀ j, (splitN g ns (l.take j)).1.length ≤ j
 | 0 => by simp [splitN]
 | j + 1 => by
   have ih := splitN_len g ns l j
   by_cases h : j < l.length
   ·rw [splitN_take g ns h]
    unfold stepS
    split
    ·simp; omega
    ·split <;> (simp only; omega)
   ·rw [List.take_of_length_le (by omega)] at ih ⊢; omega
theorem okA_gbytes {ns : List Nd} (h : OkA ns) (g : Bool) (l : List Int) : OkA (gbytesN g ns l).1 := by
 unfold gbytesN
 have := splitN_in g h l
 split
 ·exact h
 ·rename_i s e; exact okA_bytes h (this s e)
def grO : List Value := [.int .i64 4, .func (.func 141) #[] #[], .func (.func 177) #[] #[], .func (.func 126) #[] #[]]
def grA : List Value := [.int .i64 5, .func (.func 177) #[] #[], .func (.func 141) #[] #[], .func (.func 179) #[] #[]]
set_option maxHeartbeats 2000000 in
theorem gbytesO_fn (m : Mem) (ab : Nat) (ns : List Nd) (L : Own) (hA : Ar ab ns L) (hO : OkA ns) (v : Value) (l : List Int) (hv : SlI m .i64 v l) (hlb : l.length ≤ 1000000) :
  Ev.Fn Tryz.prog 217 [.agg (toArr grO), .pointer (some ⟨ab, 0, none⟩), v] m L
   fun m' L' u => m' = m ∧ ∃ La Lo, L' = Lo ++ La ∧ Ar ab (gbytesN false ns l).1 La ∧ OwnS 3 1 u (ints .i64 (gbytesN false ns l).2) Lo := by
 obtain ⟨A, n, c, rfl, hn, hc, hm, -⟩ := id hv
 have hcell := hv.cell.2
 have hmx : maxLen = 9223372036854775807 := rfl
 refine Fn.enter (N := 54) hX Tryz.func217 rfl rfl (by show _ ≤ _; simp) (fun w0 hL => ?_)
 conv => whnf
 generalize keys L = S0 at hL ⊢
 refine NewReq.mk hL ?_
 clear hL
 intro b3 w hL
 conv => whnf
 refine NewReq.mk hL ?_
 clear hL
 intro b8 w hL
 conv => whnf
 replace hL : Ev.Loc m S0 w0 m ((b8, .cells (toArr (stC z4)) 50 (0, 0)) :: (b3, .cells (toArr grO) 248 (0, 0)) :: L) w := hL
 refine go ?_;try(clear hL;intro w hL)
 refine LoopReq.inv hX (fun s : Nat × Bool × Option Addr × Nat × Nat => [(7, .slice s.2.2.1 s.2.2.2.1 s.2.2.2.2), (9, .bool s.2.1), (16, .int .i64 s.1)]) [1, 3, 8, 14, 15]
  (fun s w => (s.1 ≤ n ∧ s.2.1 = (splitN false ns (l.take s.1)).2.isSome) ∧ ∃ Lo, OwnS 3 1 (.slice s.2.2.1 s.2.2.2.1 s.2.2.2.2) (ints .i64 (splitN false ns (l.take s.1)).1) Lo ∧ Ev.Loc m S0 w0 m ((b8, .cells (toArr (stC ((splitN false ns (l.take s.1)).2.getD z4))) 50 (0, 0)) :: (b3, .cells (toArr grO) 248 (0, 0)) :: (Lo ++ L)) w) (fun s => n - s.1) (0, false, none, 0, 0)
  ⟨⟨by simp, rfl⟩, [], OwnS.nil _ _, hL⟩ ⟨rfl, rfl, rfl, trivial⟩ ?_
 clear hL
 rintro ⟨j, sm, A1, n1, c1⟩ w f ⟨⟨hj, hsm⟩, Lo, ho, hL⟩
 simp only at hj hsm ho hL
 refine go ?_;try(clear hL;intro w hL)
 refine BrReq.dec (fun hlt => ?_) (fun hlt => ?_)
 ·have hlt' : j < l.length := by simp only at hlt; omega
  obtain ⟨a, ea, hc'⟩ := hcell j _ (List.getElem?_eq_getElem hlt')
  have hst := splitN_take false ns hlt'
  have hsl := splitN_len false ns l j
  have hsi := splitN_in false hO (l.take j)
  have hnode := Node_fn m ab ns L hA l[j]
  have hin := nodeN_in hO l[j]
  unfold stepS at hst
  generalize (nodeN ns l[j]).1 = x at hnode hst hin
  generalize (nodeN ns l[j]).2 = ok at hnode
  generalize l[j] = z at hnode hst hc'
  generalize splitN false ns (l.take j) = p at hsm ho hL hst hsl hsi
  obtain ⟨out, so⟩ := p
  simp only at hsm ho hL hst hsl hsi
  conv => whnf
  repeat ((first | (refine Idx2Req.mk j a rfl (by simp only at hlt ⊢; omega) ea ?_) | refine LdReq.one hX rfl rfl hL hc' ?_ | (refine go1 ?_;try(clear hL;intro w hL))); conv => whnf)
  refine CallReq.li (L1 := L) hnode (Loc.back (L1 := (b8, .cells (toArr (stC (so.getD z4))) 50 (0, 0)) :: (b3, .cells (toArr grO) 248 (0, 0)) :: Lo) hL) ?_
  clear hL
  intro w hL
  have hL := Loc.back (L1 := L) hL
  refine go ?_;try(clear hL;intro w hL)
  refine NewReq.mk hL ?_
  clear hL
  intro b12 w hL
  conv => whnf
  replace hL : Ev.Loc m S0 w0 m ((b12, .cells (toArr (ndC nd0)) 146 (0, 0)) :: (b8, .cells (toArr (stC (so.getD z4))) 50 (0, 0)) :: (b3, .cells (toArr grO) 248 (0, 0)) :: (Lo ++ L)) w := hL
  by_cases hk : x.k = 2
  rotate_left
  ·rw [if_pos hk] at hst
   conv => whnf
   repeat ((first | refine BrReq.yes hk ?_ | (refine go1 ?_;try(clear hL;intro w hL))); conv => whnf)
   refine NewReq.mk hL ?_
   clear hL
   intro g2 w hL
   conv => whnf
   replace hL : Ev.Loc m S0 w0 m ((g2, .cells (toArr [.int .i64 z]) 3 (0, 0)) :: (b12, .cells (toArr (ndC x)) 146 (0, 0)) :: (b8, .cells (toArr (stC (so.getD z4))) 50 (0, 0)) :: (b3, .cells (toArr grO) 248 (0, 0)) :: (Lo ++ L)) w := hL
   refine go ?_;try(clear hL;intro w hL)
   refine RunReq.push hX 53 3 rfl rfl rfl rfl rfl ho (L2 := L ++ [_, _, _]) (by rw [← List.append_assoc]; exact hL.perm (List.Perm.cons _ (List.perm_append_comm (l₁ := [_, _, _]) (l₂ := Lo ++ L)))) rfl rfl (by simp [ints]; omega) rfl ?_
   clear hL
   intro A2 n2 c2 L2 w hn2 ho2 hL
   rw [← List.append_assoc] at hL
   have hL := Loc.back (L1 := L2 ++ L) (L2 := [_, _, _]) hL
   rw [← show ints .i64 (out ++ [z]) = ints .i64 out ++ [Value.int .i64 z] from ints_append ..] at ho2
   refine go ?_;try(clear hL;intro w hL)
   exact rnd (j + 1, sm, A2, n2, c2) ⟨⟨by simp only at hlt ⊢; omega, by simp only [hst]; exact hsm⟩, L2, by simp only [hst]; exact ho2, by simp only [hst]; exact hL.drop⟩
  ·rw [if_neg (by simp [hk])] at hst
   cases so with
   | none =>
     simp only at hst
     obtain rfl : sm = false := hsm
     conv => whnf
     repeat ((first | refine BrReq.no (fun h => h hk) ?_ | (refine go1 ?_;try(clear hL;intro w hL))); conv => whnf)
     replace hL : Ev.Loc m S0 w0 m ((b12, .cells (toArr (ndC x)) 146 (0, 0)) :: (b8, .cells (toArr (stC (setOf x))) 50 (0, 0)) :: (b3, .cells (toArr grO) 248 (0, 0)) :: (Lo ++ L)) w := hL
     exact rnd (j + 1, true, A1, n1, c1) ⟨⟨by simp only at hlt ⊢; omega, by simp only [hst]; rfl⟩, Lo, by simp only [hst]; exact ho, by simp only [hst]; exact hL.drop⟩
   | some s =>
     simp only at hst
     obtain rfl : sm = true := hsm
     conv => whnf
     repeat ((first | refine BrReq.no (fun h => h hk) ?_ | (refine go1 ?_;try(clear hL;intro w hL))); conv => whnf)
     refine CallReq.val (Union_fn m s (setOf x) (hsi s rfl) (inS_of hin)) hL ?_
     clear hL
     intro w hL
     refine go ?_;try(clear hL;intro w hL)
     replace hL : Ev.Loc m S0 w0 m ((b12, .cells (toArr (ndC x)) 146 (0, 0)) :: (b8, .cells (toArr (stC (op4 false s (setOf x)))) 50 (0, 0)) :: (b3, .cells (toArr grO) 248 (0, 0)) :: (Lo ++ L)) w := hL
     exact rnd (j + 1, true, A1, n1, c1) ⟨⟨by simp only at hlt ⊢; omega, by simp only [hst]; rfl⟩, Lo, by simp only [hst]; exact ho, by simp only [hst]; exact hL.drop⟩
 ·have ej : j = n := by simp only at hlt; omega
  subst ej
  have hsl := splitN_len false ns l j
  rw [List.take_of_length_le (by omega)] at hsm ho hL hsl
  unfold gbytesN
  have hsi := splitN_in false hO l
  generalize splitN false ns l = p at hsm ho hL hsi hsl
  obtain ⟨out, so⟩ := p
  simp only at hsm ho hL hsi hsl
  cases so with
  | none =>
    obtain rfl : sm = false := hsm
    refine go ?_;try(clear hL;intro w hL)
    exact RetReq.mk hL.drop.drop ⟨rfl, L, Lo, rfl, hA, ho⟩
  | some s =>
    obtain rfl : sm = true := hsm
    refine go ?_;try(clear hL;intro w hL)
    refine CallReq.mk (L1 := L) (L2 := (b8, .cells (toArr (stC s)) 50 (0, 0)) :: (b3, .cells (toArr grO) 248 (0, 0)) :: Lo) (Bytes_fn m ab ns L hA hO s (hsi s rfl)) (Loc.back (L1 := (b8, .cells (toArr (stC s)) 50 (0, 0)) :: (b3, .cells (toArr grO) 248 (0, 0)) :: Lo) hL) ?_
    clear hL
    rintro u mx La w hL - ⟨hmx, rfl, hA2⟩
    rw [hmx] at hL
    clear hmx mx
    have hL := Loc.back (L1 := La) (L2 := (b8, .cells (toArr (stC s)) 50 (0, 0)) :: (b3, .cells (toArr grO) 248 (0, 0)) :: Lo) hL
    refine go ?_;try(clear hL;intro w hL)
    refine NewReq.mk hL ?_
    clear hL
    intro g2 w hL
    conv => whnf
    replace hL : Ev.Loc m S0 w0 m ((g2, .cells (toArr [.int .i64 (bytesN ns s).2]) 3 (0, 0)) :: (b8, .cells (toArr (stC s)) 50 (0, 0)) :: (b3, .cells (toArr grO) 248 (0, 0)) :: (Lo ++ La)) w := hL
    refine go ?_;try(clear hL;intro w hL)
    refine RunReq.push hX 53 3 rfl rfl rfl rfl rfl ho (L2 := La ++ [_, _]) (by rw [← List.append_assoc]; exact hL.perm (List.Perm.cons _ (List.perm_append_comm (l₁ := [_, _]) (l₂ := Lo ++ La)))) rfl rfl (by simp [ints]; omega) rfl ?_
    clear hL
    intro A2 n2 c2 L2 w hn2 ho2 hL
    rw [← List.append_assoc] at hL
    have hL := Loc.back (L1 := L2 ++ La) (L2 := [_, _]) hL
    rw [← show ints .i64 (out ++ [(bytesN ns s).2]) = ints .i64 out ++ [Value.int .i64 (bytesN ns s).2] from ints_append ..] at ho2
    refine go ?_;try(clear hL;intro w hL)
    exact RetReq.mk hL.drop.drop ⟨rfl, La, L2, rfl, hA2, ho2⟩
set_option maxHeartbeats 2000000 in
theorem gbytesA_fn (m : Mem) (ab : Nat) (ns : List Nd) (L : Own) (hA : Ar ab ns L) (hO : OkA ns) (v : Value) (l : List Int) (hv : SlI m .i64 v l) (hlb : l.length ≤ 1000000) :
  Ev.Fn Tryz.prog 217 [.agg (toArr grA), .pointer (some ⟨ab, 0, none⟩), v] m L
   fun m' L' u => m' = m ∧ ∃ La Lo, L' = Lo ++ La ∧ Ar ab (gbytesN true ns l).1 La ∧ OwnS 3 1 u (ints .i64 (gbytesN true ns l).2) Lo := by
 obtain ⟨A, n, c, rfl, hn, hc, hm, -⟩ := id hv
 have hcell := hv.cell.2
 have hmx : maxLen = 9223372036854775807 := rfl
 refine Fn.enter (N := 54) hX Tryz.func217 rfl rfl (by show _ ≤ _; simp) (fun w0 hL => ?_)
 conv => whnf
 generalize keys L = S0 at hL ⊢
 refine NewReq.mk hL ?_
 clear hL
 intro b3 w hL
 conv => whnf
 refine NewReq.mk hL ?_
 clear hL
 intro b8 w hL
 conv => whnf
 replace hL : Ev.Loc m S0 w0 m ((b8, .cells (toArr (stC z4)) 50 (0, 0)) :: (b3, .cells (toArr grA) 248 (0, 0)) :: L) w := hL
 refine go ?_;try(clear hL;intro w hL)
 refine LoopReq.inv hX (fun s : Nat × Bool × Option Addr × Nat × Nat => [(7, .slice s.2.2.1 s.2.2.2.1 s.2.2.2.2), (9, .bool s.2.1), (16, .int .i64 s.1)]) [1, 3, 8, 14, 15]
  (fun s w => (s.1 ≤ n ∧ s.2.1 = (splitN true ns (l.take s.1)).2.isSome) ∧ ∃ Lo, OwnS 3 1 (.slice s.2.2.1 s.2.2.2.1 s.2.2.2.2) (ints .i64 (splitN true ns (l.take s.1)).1) Lo ∧ Ev.Loc m S0 w0 m ((b8, .cells (toArr (stC ((splitN true ns (l.take s.1)).2.getD z4))) 50 (0, 0)) :: (b3, .cells (toArr grA) 248 (0, 0)) :: (Lo ++ L)) w) (fun s => n - s.1) (0, false, none, 0, 0)
  ⟨⟨by simp, rfl⟩, [], OwnS.nil _ _, hL⟩ ⟨rfl, rfl, rfl, trivial⟩ ?_
 clear hL
 rintro ⟨j, sm, A1, n1, c1⟩ w f ⟨⟨hj, hsm⟩, Lo, ho, hL⟩
 simp only at hj hsm ho hL
 refine go ?_;try(clear hL;intro w hL)
 refine BrReq.dec (fun hlt => ?_) (fun hlt => ?_)
 ·have hlt' : j < l.length := by simp only at hlt; omega
  obtain ⟨a, ea, hc'⟩ := hcell j _ (List.getElem?_eq_getElem hlt')
  have hst := splitN_take true ns hlt'
  have hsl := splitN_len true ns l j
  have hsi := splitN_in true hO (l.take j)
  have hnode := Node_fn m ab ns L hA l[j]
  have hin := nodeN_in hO l[j]
  unfold stepS at hst
  generalize (nodeN ns l[j]).1 = x at hnode hst hin
  generalize (nodeN ns l[j]).2 = ok at hnode
  generalize l[j] = z at hnode hst hc'
  generalize splitN true ns (l.take j) = p at hsm ho hL hst hsl hsi
  obtain ⟨out, so⟩ := p
  simp only at hsm ho hL hst hsl hsi
  conv => whnf
  repeat ((first | (refine Idx2Req.mk j a rfl (by simp only at hlt ⊢; omega) ea ?_) | refine LdReq.one hX rfl rfl hL hc' ?_ | (refine go1 ?_;try(clear hL;intro w hL))); conv => whnf)
  refine CallReq.li (L1 := L) hnode (Loc.back (L1 := (b8, .cells (toArr (stC (so.getD z4))) 50 (0, 0)) :: (b3, .cells (toArr grA) 248 (0, 0)) :: Lo) hL) ?_
  clear hL
  intro w hL
  have hL := Loc.back (L1 := L) hL
  refine go ?_;try(clear hL;intro w hL)
  refine NewReq.mk hL ?_
  clear hL
  intro b12 w hL
  conv => whnf
  replace hL : Ev.Loc m S0 w0 m ((b12, .cells (toArr (ndC nd0)) 146 (0, 0)) :: (b8, .cells (toArr (stC (so.getD z4))) 50 (0, 0)) :: (b3, .cells (toArr grA) 248 (0, 0)) :: (Lo ++ L)) w := hL
  by_cases hk : x.k = 2
  rotate_left
  ·rw [if_pos hk] at hst
   conv => whnf
   repeat ((first | refine BrReq.yes hk ?_ | (refine go1 ?_;try(clear hL;intro w hL))); conv => whnf)
   refine NewReq.mk hL ?_
   clear hL
   intro g2 w hL
   conv => whnf
   replace hL : Ev.Loc m S0 w0 m ((g2, .cells (toArr [.int .i64 z]) 3 (0, 0)) :: (b12, .cells (toArr (ndC x)) 146 (0, 0)) :: (b8, .cells (toArr (stC (so.getD z4))) 50 (0, 0)) :: (b3, .cells (toArr grA) 248 (0, 0)) :: (Lo ++ L)) w := hL
   refine go ?_;try(clear hL;intro w hL)
   refine RunReq.push hX 53 3 rfl rfl rfl rfl rfl ho (L2 := L ++ [_, _, _]) (by rw [← List.append_assoc]; exact hL.perm (List.Perm.cons _ (List.perm_append_comm (l₁ := [_, _, _]) (l₂ := Lo ++ L)))) rfl rfl (by simp [ints]; omega) rfl ?_
   clear hL
   intro A2 n2 c2 L2 w hn2 ho2 hL
   rw [← List.append_assoc] at hL
   have hL := Loc.back (L1 := L2 ++ L) (L2 := [_, _, _]) hL
   rw [← show ints .i64 (out ++ [z]) = ints .i64 out ++ [Value.int .i64 z] from ints_append ..] at ho2
   refine go ?_;try(clear hL;intro w hL)
   exact rnd (j + 1, sm, A2, n2, c2) ⟨⟨by simp only at hlt ⊢; omega, by simp only [hst]; exact hsm⟩, L2, by simp only [hst]; exact ho2, by simp only [hst]; exact hL.drop⟩
  ·rw [if_neg (by simp [hk])] at hst
   cases so with
   | none =>
     simp only at hst
     obtain rfl : sm = false := hsm
     conv => whnf
     repeat ((first | refine BrReq.no (fun h => h hk) ?_ | (refine go1 ?_;try(clear hL;intro w hL))); conv => whnf)
     replace hL : Ev.Loc m S0 w0 m ((b12, .cells (toArr (ndC x)) 146 (0, 0)) :: (b8, .cells (toArr (stC (setOf x))) 50 (0, 0)) :: (b3, .cells (toArr grA) 248 (0, 0)) :: (Lo ++ L)) w := hL
     exact rnd (j + 1, true, A1, n1, c1) ⟨⟨by simp only at hlt ⊢; omega, by simp only [hst]; rfl⟩, Lo, by simp only [hst]; exact ho, by simp only [hst]; exact hL.drop⟩
   | some s =>
     simp only at hst
     obtain rfl : sm = true := hsm
     conv => whnf
     repeat ((first | refine BrReq.no (fun h => h hk) ?_ | (refine go1 ?_;try(clear hL;intro w hL))); conv => whnf)
     refine CallReq.val (Inter_fn m s (setOf x) (hsi s rfl) (inS_of hin)) hL ?_
     clear hL
     intro w hL
     refine go ?_;try(clear hL;intro w hL)
     replace hL : Ev.Loc m S0 w0 m ((b12, .cells (toArr (ndC x)) 146 (0, 0)) :: (b8, .cells (toArr (stC (op4 true s (setOf x)))) 50 (0, 0)) :: (b3, .cells (toArr grA) 248 (0, 0)) :: (Lo ++ L)) w := hL
     exact rnd (j + 1, true, A1, n1, c1) ⟨⟨by simp only at hlt ⊢; omega, by simp only [hst]; rfl⟩, Lo, by simp only [hst]; exact ho, by simp only [hst]; exact hL.drop⟩
 ·have ej : j = n := by simp only at hlt; omega
  subst ej
  have hsl := splitN_len true ns l j
  rw [List.take_of_length_le (by omega)] at hsm ho hL hsl
  unfold gbytesN
  have hsi := splitN_in true hO l
  generalize splitN true ns l = p at hsm ho hL hsi hsl
  obtain ⟨out, so⟩ := p
  simp only at hsm ho hL hsi hsl
  cases so with
  | none =>
    obtain rfl : sm = false := hsm
    refine go ?_;try(clear hL;intro w hL)
    exact RetReq.mk hL.drop.drop ⟨rfl, L, Lo, rfl, hA, ho⟩
  | some s =>
    obtain rfl : sm = true := hsm
    refine go ?_;try(clear hL;intro w hL)
    refine CallReq.mk (L1 := L) (L2 := (b8, .cells (toArr (stC s)) 50 (0, 0)) :: (b3, .cells (toArr grA) 248 (0, 0)) :: Lo) (Bytes_fn m ab ns L hA hO s (hsi s rfl)) (Loc.back (L1 := (b8, .cells (toArr (stC s)) 50 (0, 0)) :: (b3, .cells (toArr grA) 248 (0, 0)) :: Lo) hL) ?_
    clear hL
    rintro u mx La w hL - ⟨hmx, rfl, hA2⟩
    rw [hmx] at hL
    clear hmx mx
    have hL := Loc.back (L1 := La) (L2 := (b8, .cells (toArr (stC s)) 50 (0, 0)) :: (b3, .cells (toArr grA) 248 (0, 0)) :: Lo) hL
    refine go ?_;try(clear hL;intro w hL)
    refine NewReq.mk hL ?_
    clear hL
    intro g2 w hL
    conv => whnf
    replace hL : Ev.Loc m S0 w0 m ((g2, .cells (toArr [.int .i64 (bytesN ns s).2]) 3 (0, 0)) :: (b8, .cells (toArr (stC s)) 50 (0, 0)) :: (b3, .cells (toArr grA) 248 (0, 0)) :: (Lo ++ La)) w := hL
    refine go ?_;try(clear hL;intro w hL)
    refine RunReq.push hX 53 3 rfl rfl rfl rfl rfl ho (L2 := La ++ [_, _]) (by rw [← List.append_assoc]; exact hL.perm (List.Perm.cons _ (List.perm_append_comm (l₁ := [_, _]) (l₂ := Lo ++ La)))) rfl rfl (by simp [ints]; omega) rfl ?_
    clear hL
    intro A2 n2 c2 L2 w hn2 ho2 hL
    rw [← List.append_assoc] at hL
    have hL := Loc.back (L1 := L2 ++ La) (L2 := [_, _]) hL
    rw [← show ints .i64 (out ++ [(bytesN ns s).2]) = ints .i64 out ++ [Value.int .i64 (bytesN ns s).2] from ints_append ..] at ho2
    refine go ?_;try(clear hL;intro w hL)
    exact RetReq.mk hL.drop.drop ⟨rfl, La, L2, rfl, hA2, ho2⟩
end Go.Proofs.YtaooenndoopgdaaGreatDoor.ar
namespace Go.Proofs.YtaooenndoopgdaaGreatDoor.lz
open Go Go.Ev Go.Proofs Go.Proofs.YtaooenndoopgdaaGreatDoor.ar
def bls (l : List Bool) : List Value := l.map fun b => .bool b
def seO (l : List Bool) : Obj := .cells (toArr (bls l)) 4 (0, 0)
theorem bls_len (l : List Bool) : (bls l).length = l.length := by simp [bls]
theorem bls_get {l : List Bool} {i : Nat} (h : i < l.length) : (bls l)[i]? = some (.bool l[i]) := by
 unfold bls; rw [List.getElem?_map, List.getElem?_eq_getElem h]; rfl
theorem bls_set (l : List Bool) (i : Nat) (b : Bool) : (bls l).set i (.bool b) = bls (l.set i b) := by
 unfold bls; rw [List.map_set]
def BelC (ab g : Nat) (m : Mem) (ns : List Nd) (La : Ev.Own) (k : Nat) : Prop := ∀ (l : List Bool) (z : Int), 0 ≤ z → z < k → z < ns.length → l.length = ns.length →
 Ev.Fn Tryz.prog 73 [.pointer (some ⟨ab, 0, none⟩), .int .i64 z, .slice (some ⟨g, 0, none⟩) ns.length ns.length] m ((g, seO l) :: La) fun m' L' u => m' = m ∧ u = .tuple (toArr []) ∧ ∃ l', l'.length = ns.length ∧ L' = (g, seO l') :: La
set_option maxHeartbeats 2000000 in
theorem below_fn (ab g : Nat) (m : Mem) (ns : List Nd) (La : Ev.Own) (hA : Ar ab ns La) (hO : OkA ns) : ∀ k, BelC ab g m ns La k := by
 intro k
 induction k with
 | zero => intro l z h h'; omega
 | succ k ih =>
 intro l z hz0 hk hin hl
 obtain ⟨i, rfl⟩ : ∃ i : Nat, z = i := ⟨z.toNat, by omega⟩
 replace hin : i < ns.length := by omega
 have hil : i < l.length := by omega
 have hgt := bls_get hil
 have hx2 := List.getElem?_eq_getElem hin
 have hR := right_lt (hO.right i _ hx2)
 obtain ⟨A, c, mb, L1, rfl, ho⟩ := id hA
 obtain ⟨g2, cur, rfl, rfl, hr, hle⟩ := ho.rowAt (nds_rows ns) (by omega) (i := i) (r := ndC ns[i]) (by rw [List.getElem?_map, hx2]; rfl)
 generalize ns[i] = x at hr hle hR
 refine Fn.enter (N := 45) hX Tryz.func73 rfl rfl (by show _ ≤ _; simp) (fun w0 hL => ?_)
 conv => whnf
 generalize keys ((g, seO l) :: (ab, arO (.slice (some ⟨g2, 0, none⟩) ns.length c) mb) :: (mb, mapW (ndW ns 0)) :: [(g2, .cells (toArr cur) 146 (0, 0))]) = S0 at hL ⊢
 conv => whnf
 repeat ((first | refine Idx2Req.mk i _ rfl (by omega) rfl ?_ | (refine LdReq.ownC hX rfl rfl hL .h (by rw [scale_eq, Nat.zero_add, Nat.mul_one]; exact hgt) ?_) | (refine go1 ?_;try(clear hL;intro w hL))); conv => whnf)
 cases hb : l[i] with
 | true =>
   refine go ?_;try(clear hL;intro w hL)
   exact RetReq.mk hL ⟨rfl, rfl, l, hl, rfl⟩
 | false =>
 conv => whnf
 repeat ((first | refine Idx2Req.mk i _ rfl (by omega) rfl ?_ | (refine go1 ?_;try(clear hL;intro w hL))); conv => whnf)
 refine StReq.ownAt hX rfl 0 hL rfl rfl (by rw [scale_eq, Nat.zero_add, Nat.mul_one]; show i + 1 ≤ (bls l).length; rw [bls_len]; omega) rfl ?_
 clear hL
 intro w hL
 replace hL : Ev.Loc m S0 w0 m ((g, .cells (toArr (spliceL (bls l) (0 + scale i 1) [.bool true])) 4 (0, 0)) :: (ab, arO (.slice (some ⟨g2, 0, none⟩) ns.length c) mb) :: (mb, mapW (ndW ns 0)) :: [(g2, .cells (toArr cur) 146 (0, 0))]) w := hL
 rw [scale_eq, Nat.zero_add, Nat.mul_one] at hL
 replace hL : Ev.Loc m S0 w0 m ((g, .cells (toArr ((bls l).set i (.bool true))) 4 (0, 0)) :: (ab, arO (.slice (some ⟨g2, 0, none⟩) ns.length c) mb) :: (mb, mapW (ndW ns 0)) :: [(g2, .cells (toArr cur) 146 (0, 0))]) w := hL
 rw [bls_set] at hL
 have hl1 : (l.set i true).length = ns.length := by rw [List.length_set]; exact hl
 generalize l.set i true = l1 at hL hl1
 conv => whnf
 repeat ((first | refine Idx2Req.mk i _ rfl (by omega) rfl ?_ | (refine go1 ?_;try(clear hL;intro w hL))); conv => whnf)
 refine LdReq.ownRow hX rfl rfl hL (.t (.t (.t .h))) (r := ndC x) (by rw [scale_eq, Nat.zero_add]; exact hr) (by rw [scale_eq, Nat.zero_add]; exact hle) ?_
 refine go ?_;try(clear hL;intro w hL)
 refine NewReq.mk hL ?_
 clear hL
 intro bn w hL
 conv => whnf
 refine go ?_;try(clear hL;intro w hL)
 replace hL : Ev.Loc m S0 w0 m ((bn, .cells (toArr (ndC x)) 146 (0, 0)) :: (g, seO l1) :: (ab, arO (.slice (some ⟨g2, 0, none⟩) ns.length c) mb) :: (mb, mapW (ndW ns 0)) :: [(g2, Obj.cells (toArr cur) 146 (0, 0))]) w := hL
 generalize hLa : ((ab, arO (.slice (some ⟨g2, 0, none⟩) ns.length c) mb) :: (mb, mapW (ndW ns 0)) :: [(g2, Obj.cells (toArr cur) 146 (0, 0))]) = La at hL ih ⊢
 clear hLa hr hle ho
 obtain ⟨hR2, hR1, hR0, hk0, hk8⟩ := hR
 by_cases h3 : x.k = 3
 ·have hp := hR2 (.inl h3)
  conv => whnf
  repeat ((first | refine BrReq.yes h3 ?_ | (refine go1 ?_;try(clear hL;intro w hL))); conv => whnf)
  refine CallReq.mk (L1 := (g, seO l1) :: La) (L2 := [_]) (ih l1 x.a (by have := hp; omega) (by have := hp; omega) (by have := hp; omega) hl1) (Loc.back (L1 := [_]) hL) ?_
  clear hL
  rintro u mx Lx w hL - ⟨hmx, rfl, l2, hl2, hLx⟩
  rw [hmx, hLx] at hL
  clear hmx hLx mx Lx
  have hL := Loc.back (L1 := (g, seO l2) :: La) (L2 := [_]) hL
  refine go ?_;try(clear hL;intro w hL)
  refine CallReq.mk (L1 := (g, seO l2) :: La) (L2 := [_]) (ih l2 x.b (by have := hp; omega) (by have := hp; omega) (by have := hp; omega) hl2) (Loc.back (L1 := [_]) hL) ?_
  clear hL
  rintro u mx Lx w hL - ⟨hmx, rfl, l3, hl3, hLx⟩
  rw [hmx, hLx] at hL
  clear hmx hLx mx Lx
  have hL := Loc.back (L1 := (g, seO l3) :: La) (L2 := [_]) hL
  refine go ?_;try(clear hL;intro w hL)
  exact RetReq.mk hL.drop ⟨rfl, rfl, l3, hl3, rfl⟩
 by_cases h4 : x.k = 4
 ·have hp := hR2 (.inr (.inl h4))
  conv => whnf
  repeat ((first | refine BrReq.no h3 ?_ | refine BrReq.yes h4 ?_ | (refine go1 ?_;try(clear hL;intro w hL))); conv => whnf)
  refine CallReq.mk (L1 := (g, seO l1) :: La) (L2 := [_]) (ih l1 x.a (by have := hp; omega) (by have := hp; omega) (by have := hp; omega) hl1) (Loc.back (L1 := [_]) hL) ?_
  clear hL
  rintro u mx Lx w hL - ⟨hmx, rfl, l2, hl2, hLx⟩
  rw [hmx, hLx] at hL
  clear hmx hLx mx Lx
  have hL := Loc.back (L1 := (g, seO l2) :: La) (L2 := [_]) hL
  refine go ?_;try(clear hL;intro w hL)
  refine CallReq.mk (L1 := (g, seO l2) :: La) (L2 := [_]) (ih l2 x.b (by have := hp; omega) (by have := hp; omega) (by have := hp; omega) hl2) (Loc.back (L1 := [_]) hL) ?_
  clear hL
  rintro u mx Lx w hL - ⟨hmx, rfl, l3, hl3, hLx⟩
  rw [hmx, hLx] at hL
  clear hmx hLx mx Lx
  have hL := Loc.back (L1 := (g, seO l3) :: La) (L2 := [_]) hL
  refine go ?_;try(clear hL;intro w hL)
  exact RetReq.mk hL.drop ⟨rfl, rfl, l3, hl3, rfl⟩
 by_cases h5 : x.k = 5
 ·have hp := hR2 (.inr (.inr h5))
  conv => whnf
  repeat ((first | refine BrReq.no h3 ?_ | refine BrReq.no h4 ?_ | refine BrReq.yes h5 ?_ | (refine go1 ?_;try(clear hL;intro w hL))); conv => whnf)
  refine CallReq.mk (L1 := (g, seO l1) :: La) (L2 := [_]) (ih l1 x.a (by have := hp; omega) (by have := hp; omega) (by have := hp; omega) hl1) (Loc.back (L1 := [_]) hL) ?_
  clear hL
  rintro u mx Lx w hL - ⟨hmx, rfl, l2, hl2, hLx⟩
  rw [hmx, hLx] at hL
  clear hmx hLx mx Lx
  have hL := Loc.back (L1 := (g, seO l2) :: La) (L2 := [_]) hL
  refine go ?_;try(clear hL;intro w hL)
  refine CallReq.mk (L1 := (g, seO l2) :: La) (L2 := [_]) (ih l2 x.b (by have := hp; omega) (by have := hp; omega) (by have := hp; omega) hl2) (Loc.back (L1 := [_]) hL) ?_
  clear hL
  rintro u mx Lx w hL - ⟨hmx, rfl, l3, hl3, hLx⟩
  rw [hmx, hLx] at hL
  clear hmx hLx mx Lx
  have hL := Loc.back (L1 := (g, seO l3) :: La) (L2 := [_]) hL
  refine go ?_;try(clear hL;intro w hL)
  exact RetReq.mk hL.drop ⟨rfl, rfl, l3, hl3, rfl⟩
 by_cases h6 : x.k = 6
 ·have hp := hR1 (.inl h6)
  conv => whnf
  repeat ((first | refine BrReq.no h3 ?_ | refine BrReq.no h4 ?_ | refine BrReq.no h5 ?_ | refine BrReq.yes h6 ?_ | (refine go1 ?_;try(clear hL;intro w hL))); conv => whnf)
  refine CallReq.mk (L1 := (g, seO l1) :: La) (L2 := [_]) (ih l1 x.a (by have := hp; omega) (by have := hp; omega) (by have := hp; omega) hl1) (Loc.back (L1 := [_]) hL) ?_
  clear hL
  rintro u mx Lx w hL - ⟨hmx, rfl, l2, hl2, hLx⟩
  rw [hmx, hLx] at hL
  clear hmx hLx mx Lx
  have hL := Loc.back (L1 := (g, seO l2) :: La) (L2 := [_]) hL
  refine go ?_;try(clear hL;intro w hL)
  exact RetReq.mk hL.drop ⟨rfl, rfl, l2, hl2, rfl⟩
 by_cases h7 : x.k = 7
 ·have hp := hR1 (.inr h7)
  conv => whnf
  repeat ((first | refine BrReq.no h3 ?_ | refine BrReq.no h4 ?_ | refine BrReq.no h5 ?_ | refine BrReq.no h6 ?_ | refine BrReq.yes h7 ?_ | (refine go1 ?_;try(clear hL;intro w hL))); conv => whnf)
  refine CallReq.mk (L1 := (g, seO l1) :: La) (L2 := [_]) (ih l1 x.a (by have := hp; omega) (by have := hp; omega) (by have := hp; omega) hl1) (Loc.back (L1 := [_]) hL) ?_
  clear hL
  rintro u mx Lx w hL - ⟨hmx, rfl, l2, hl2, hLx⟩
  rw [hmx, hLx] at hL
  clear hmx hLx mx Lx
  have hL := Loc.back (L1 := (g, seO l2) :: La) (L2 := [_]) hL
  refine go ?_;try(clear hL;intro w hL)
  exact RetReq.mk hL.drop ⟨rfl, rfl, l2, hl2, rfl⟩
 ·conv => whnf
  repeat ((first | refine BrReq.no h3 ?_ | refine BrReq.no h4 ?_ | refine BrReq.no h5 ?_ | refine BrReq.no h6 ?_ | refine BrReq.no h7 ?_ | (refine go1 ?_;try(clear hL;intro w hL))); conv => whnf)
  exact RetReq.mk hL.drop ⟨rfl, rfl, l1, hl1, rfl⟩
def stR (l : List S4) : List (List Value) := l.map stC
theorem stR_rows (l : List S4) : ∀ r ∈ stR l, r.length = 4 := fun r hr => by
 obtain ⟨s, -, rfl⟩ := List.mem_map.1 hr; rfl
theorem indexT_fn (m : Mem) (A : Option Addr) (n c : Nat) (l : List S4) (Lo : Ev.Own) (ho : OwnS 50 4 (.slice A n c) (stR l).flatten Lo) (s : S4) (hl : l.length ≤ 100000) :
  Ev.Fn Tryz.prog 104 [.slice A n c, .agg (toArr (stC s))] m Lo fun m' L' u => m' = m ∧ L' = Lo ∧ ∃ z : Int, u = .int .i64 z := by
 have hn : n = l.length := by
  obtain ⟨k, hk, ⟨e, h0, -⟩ | ⟨g, cap, cur, e, -⟩⟩ := id ho
  ·cases e; rw [flat_len _ (stR_rows l)] at hk; simp [stR] at hk; omega
  ·cases e; rw [flat_len _ (stR_rows l)] at hk; simp [stR] at hk; omega
 have hmx : maxLen = 9223372036854775807 := rfl
 refine Fn.enter (N := 19) hX Tryz.func104 rfl rfl (by show _ ≤ _; simp) (fun w0 hL => ?_)
 conv => whnf
 generalize keys Lo = S0 at hL ⊢
 refine NewReq.mk hL ?_
 clear hL
 intro b3 w hL
 conv => whnf
 refine go ?_;try(clear hL;intro w hL)
 refine LoopReq.inv hX (fun j : Nat => [(8, .int .i64 j)]) [0, 3, 7]
  (fun j w => j ≤ n ∧ Ev.Loc m S0 w0 m ((b3, .cells (toArr (stC s)) 50 (0, 0)) :: Lo) w) (fun j => n - j) 0
  ⟨by omega, hL⟩ ⟨rfl, trivial⟩ ?_
 clear hL
 rintro j w f ⟨hj, hL⟩
 refine go ?_;try(clear hL;intro w hL)
 refine BrReq.dec (fun hlt => ?_) (fun hlt => ?_)
 ·have hjl : j < l.length := by omega
  obtain ⟨g, cur, rfl, rfl, hr, hle⟩ := ho.rowAt (stR_rows l) (by omega) (i := j) (r := stC l[j]) (by unfold stR; rw [List.getElem?_map, List.getElem?_eq_getElem hjl]; rfl)
  generalize l[j] = t at hr
  refine go ?_;try(clear hL;intro w hL)
  refine DrawReq.plan hX (.fst 0 (.fst 1 (.fst 2 (.fst 3 (.fst 4 (.fst 5 (.done))))))) _ (by kernel_rfl) (by kernel_rfl) hL id ?_
  clear hL
  intro w hL
  conv => whnf
  repeat ((first | refine Idx2Req.mk j _ rfl (by omega) rfl ?_ | (refine QLdReq.ownRow hX rfl rfl (.t .h) (r := stC t) (by rw [scale_eq, Nat.zero_add]; exact hr) (by rw [scale_eq, Nat.zero_add]; exact hle) ?_) | refine UGenReq.eqA hX (xs := stC s) (ys := stC t) rfl rfl rfl Tryz.eqGuardType50 rfl rfl (eq_st _ _) ?_ | (refine goq1 ?_;try(clear hL;intro w hL))); conv => whnf)
  by_cases e : s = t
  ·rw [decide_eq_true e]
   refine go ?_;try(clear hL;intro w hL)
   exact RetReq.mk hL.drop ⟨rfl, rfl, j, rfl⟩
  ·rw [decide_eq_false e]
   refine go ?_;try(clear hL;intro w hL)
   exact rnd (j + 1) ⟨by omega, hL⟩
 ·refine go ?_;try(clear hL;intro w hL)
  exact RetReq.mk hL.drop ⟨rfl, rfl, -1, rfl⟩
theorem containsT_fn (m : Mem) (A : Option Addr) (n c : Nat) (l : List S4) (Lo : Ev.Own) (ho : OwnS 50 4 (.slice A n c) (stR l).flatten Lo) (s : S4) (hl : l.length ≤ 100000) :
  Ev.Fn Tryz.prog 74 [.slice A n c, .agg (toArr (stC s))] m Lo fun m' L' u => m' = m ∧ L' = Lo ∧ ∃ b, u = .bool b := by
 have hix := indexT_fn m A n c l Lo ho s hl
 refine Fn.enter (N := 9) hX Tryz.func74 rfl rfl (by show _ ≤ _; simp) (fun w0 hL => ?_)
 conv => whnf
 generalize keys Lo = S0 at hL ⊢
 refine NewReq.mk hL ?_
 clear hL
 intro b3 w hL
 conv => whnf
 refine go ?_;try(clear hL;intro w hL)
 refine CallReq.mk (L1 := Lo) (L2 := [_]) hix (Loc.back (L1 := [_]) hL) ?_
 clear hL
 rintro u mx Lx w hL - ⟨hmx, hLx, z, rfl⟩
 rw [hmx, hLx] at hL
 clear hmx hLx mx Lx
 have hL := Loc.back (L1 := Lo) (L2 := [_]) hL
 refine go ?_;try(clear hL;intro w hL)
 exact RetReq.mk hL.drop ⟨rfl, rfl, _, rfl⟩
theorem zeros_bls (n : Nat) : zerosL n [Value.bool false] = bls (List.replicate n false) := by
 rw [zeros_rows]
 unfold bls
 rw [List.map_replicate]
 induction n with
 | zero => rfl
 | succ q ih => rw [List.replicate_succ, List.flatten_cons, ih, List.replicate_succ]; rfl
def InS4 (s : S4) : Prop := u64 s.x0 ∧ u64 s.x1 ∧ u64 s.x2 ∧ u64 s.x3
set_option maxHeartbeats 2000000 in
theorem Sets_fn (m : Mem) (ab : Nat) (ns : List Nd) (La : Ev.Own) (hA : Ar ab ns La) (hO : OkA ns) (z : Int) (hz : 0 ≤ z ∧ z < ns.length) :
  Ev.Fn Tryz.prog 45 [.pointer (some ⟨ab, 0, none⟩), .int .i64 z] m La fun m' L' u => m' = m ∧ ∃ l Lo, L' = Lo ++ La ∧ OwnS 50 4 u (stR l).flatten Lo ∧ l.length ≤ 20000 ∧ ∀ s ∈ l, InS4 s := by
 have hnode := Node_fn m ab ns La hA z
 have h2 : (nodeN ns z).2 = true := by unfold nodeN; rw [if_pos hz]
 rw [h2] at hnode
 generalize (nodeN ns z).1 = x0 at hnode
 have hlen := hO.len
 have hmx : maxLen = 9223372036854775807 := rfl
 obtain ⟨A, c, mb, L1, rfl, ho⟩ := id hA
 refine Fn.enter (N := 62) hX Tryz.func45 rfl rfl (by show _ ≤ _; simp) (fun w0 hL => ?_)
 conv => whnf
 generalize keys ((ab, arO (.slice A ns.length c) mb) :: (mb, mapW (ndW ns 0)) :: L1) = S0 at hL ⊢
 refine go ?_;try(clear hL;intro w hL)
 refine CallReq.lo hnode hL ?_
 clear hL
 intro w hL
 refine go ?_;try(clear hL;intro w hL)
 refine NewReq.mk hL ?_
 clear hL
 intro bn w hL
 conv => whnf
 refine go ?_;try(clear hL;intro w hL)
 replace hL := hL.drop
 refine RunReq.make hX rfl rfl rfl rfl ns.length ns.length rfl rfl (Nat.le_refl _) (by omega) rfl hL ?_
 clear hL
 intro g w hL
 replace hL : Ev.Loc m S0 w0 m ((g, .cells (toArr (zerosL ns.length [Value.bool false])) 4 (0, 0)) :: (ab, arO (.slice A ns.length c) mb) :: (mb, mapW (ndW ns 0)) :: L1) w := hL
 rw [zeros_bls] at hL
 replace hL : Ev.Loc m S0 w0 m (((g, seO (List.replicate ns.length false)) :: (ab, arO (.slice A ns.length c) mb) :: (mb, mapW (ndW ns 0)) :: L1) ++ []) w := by rw [List.append_nil]; exact hL
 refine go ?_;try(clear hL;intro w hL)
 refine CallReq.mk (L1 := (g, seO (List.replicate ns.length false)) :: (ab, arO (.slice A ns.length c) mb) :: (mb, mapW (ndW ns 0)) :: L1) (L2 := []) (below_fn ab g m ns _ hA hO (z.toNat + 1) (List.replicate ns.length false) z hz.1 (by omega) hz.2 List.length_replicate) hL ?_
 clear hL
 rintro u mx Lx w hL - ⟨hmx, rfl, l', hl', hLx⟩
 rw [hmx, hLx, List.append_nil] at hL
 clear hmx hLx mx Lx
 generalize hLa : ((ab, arO (.slice A ns.length c) mb) :: (mb, mapW (ndW ns 0)) :: L1) = La at hA hL ⊢
 have hget : ∀ i, i < ns.length → ∃ g2 cur, A = some ⟨g2, 0, none⟩ ∧ La = [(ab, arO (.slice A ns.length c) mb), (mb, mapW (ndW ns 0)), (g2, .cells (toArr cur) 146 (0, 0))] ∧ (cur.drop (i * 8)).take 8 = ndC (ns.getD i nd0) ∧ i * 8 + 8 ≤ cur.length := fun i hi => by
  obtain ⟨g2, cur, e1, e2, hr, hle⟩ := ho.rowAt (nds_rows ns) (by omega) (i := i) (r := ndC ns[i]) (by rw [List.getElem?_map, List.getElem?_eq_getElem hi]; rfl)
  refine ⟨g2, cur, e1, by rw [← hLa, e2], ?_, hle⟩
  rw [show ns.getD i nd0 = ns[i] by simp [List.getD, List.getElem?_eq_getElem hi]]; exact hr
 have hinn : ∀ i, i < ns.length → InN (ns.getD i nd0) := fun i hi => by
  rw [show ns.getD i nd0 = ns[i] by simp [List.getD, List.getElem?_eq_getElem hi]]; exact hO.inn _ (List.getElem_mem hi)
 have hLa2 : La = (ab, arO (.slice A ns.length c) mb) :: (mb, mapW (ndW ns 0)) :: L1 := hLa.symm
 rw [hLa2] at hL
 refine go ?_;try(clear hL;intro w hL)
 rw [← hLa2] at hL
 refine LoopReq.inv hX (fun s : Nat × Option Addr × Nat × Nat => [(8, .slice s.2.1 s.2.2.1 s.2.2.2), (34, .int .i64 s.1)]) [7, 32, 33]
  (fun s w => s.1 ≤ ns.length ∧ ∃ l Lo, (OwnS 50 4 (.slice s.2.1 s.2.2.1 s.2.2.2) (stR l).flatten Lo ∧ l.length ≤ s.1 ∧ ∀ x ∈ l, InS4 x) ∧ Ev.Loc m S0 w0 m ((g, seO l') :: (Lo ++ La)) w) (fun s => ns.length - s.1) (0, none, 0, 0)
  ⟨by simp, [], [], ⟨OwnS.nil _ _, by simp, fun x hx => (by cases hx)⟩, hL⟩ ⟨rfl, rfl, trivial⟩ ?_
 clear hL
 rintro ⟨j, A2, n2, c2⟩ w f ⟨hj, l, Lo, ⟨ho2, hll, hin4⟩, hL⟩
 dsimp only at hj ho2 hll
 refine go ?_;try(clear hL;intro w hL)
 refine BrReq.dec (fun hlt => ?_) (fun hlt => ?_)
 ·have hjl : j < ns.length := by simp only at hlt; omega
  obtain ⟨g2, cur, rfl, hLa3, hr, hle⟩ := hget j hjl
  have hI := hinn j hjl
  generalize ns.getD j nd0 = x at hr hI
  have hjb : j < l'.length := by omega
  have hgt := bls_get hjb
  have hL2 := hL
  rw [hLa3] at hL2
  replace hL2 : Ev.Loc m S0 w0 m ((g, seO l') :: (Lo ++ [(ab, arO (.slice (some ⟨g2, 0, none⟩) ns.length c) mb), (mb, mapW (ndW ns 0)), (g2, .cells (toArr cur) 146 (0, 0))])) w := hL2
  replace hL2 := hL2.perm (List.Perm.cons _ (List.perm_append_comm (l₁ := Lo)))
  clear hL
  have hL := hL2
  clear hL2
  replace hL : Ev.Loc m S0 w0 m ((g, seO l') :: (ab, arO (.slice (some ⟨g2, 0, none⟩) ns.length c) mb) :: (mb, mapW (ndW ns 0)) :: (g2, .cells (toArr cur) 146 (0, 0)) :: Lo) w := hL
  conv => whnf
  repeat ((first | (refine Idx2Req.mk j _ rfl (by simp only at hlt ⊢; omega) rfl ?_) | (refine LdReq.ownRow hX rfl rfl hL (.t (.t (.t .h))) (r := ndC x) (by rw [scale_eq, Nat.zero_add]; exact hr) (by rw [scale_eq, Nat.zero_add]; exact hle) ?_) | (refine go1 ?_;try(clear hL;intro w hL))); conv => whnf)
  refine NewReq.mk hL ?_
  clear hL
  intro b10 w hL
  conv => whnf
  conv => whnf
  repeat ((first | (refine Idx2Req.mk j _ rfl (by simp only at hlt ⊢; omega) rfl ?_) | (refine LdReq.ownC hX rfl rfl hL (.t .h) (by rw [scale_eq, Nat.zero_add, Nat.mul_one]; exact hgt) ?_) | (refine go1 ?_;try(clear hL;intro w hL))); conv => whnf)
  replace hL : Ev.Loc m S0 w0 m ((b10, .cells (toArr (ndC x)) 146 (0, 0)) :: (g, seO l') :: (ab, arO (.slice (some ⟨g2, 0, none⟩) ns.length c) mb) :: (mb, mapW (ndW ns 0)) :: (g2, .cells (toArr cur) 146 (0, 0)) :: Lo) w := hL
  cases hb : l'[j] with
  | false =>
    refine go ?_;try(clear hL;intro w hL)
    replace hL : Ev.Loc m S0 w0 m ((g, seO l') :: (Lo ++ La)) w := by
     have h := hL.drop.perm (List.Perm.cons _ (List.perm_append_comm (l₁ := [_, _, _]) (l₂ := Lo)))
     rw [hLa3]; exact h
    exact rnd (j + 1, A2, n2, c2) ⟨by simp only at hlt ⊢; omega, l, Lo, ⟨ho2, by simp only; omega, hin4⟩, hL⟩
  | true =>
  by_cases hk2 : x.k = 2
  rotate_left
  ·conv => whnf
   repeat ((first | refine BrReq.yes rfl ?_ | refine BrReq.no hk2 ?_ | (refine go1 ?_;try(clear hL;intro w hL))); conv => whnf)
   replace hL : Ev.Loc m S0 w0 m ((g, seO l') :: (Lo ++ La)) w := by
    have h := hL.drop.perm (List.Perm.cons _ (List.perm_append_comm (l₁ := [_, _, _]) (l₂ := Lo)))
    rw [hLa3]; exact h
   exact rnd (j + 1, A2, n2, c2) ⟨by simp only at hlt ⊢; omega, l, Lo, ⟨ho2, by simp only; omega, hin4⟩, hL⟩
  ·conv => whnf
   repeat ((first | refine BrReq.yes rfl ?_ | refine BrReq.yes hk2 ?_ | (refine go1 ?_;try(clear hL;intro w hL))); conv => whnf)
   refine CallReq.mk (L1 := Lo) (L2 := [_, _, _, _, _]) (containsT_fn m A2 n2 c2 l Lo ho2 ⟨x.s0, x.s1, x.s2, x.s3⟩ (by omega)) (Loc.back (L1 := [_, _, _, _, _]) (L2 := Lo) hL) ?_
   clear hL
   rintro u mx Lx w hL - ⟨hmx, hLx, b, rfl⟩
   rw [hmx, hLx] at hL
   clear hmx hLx mx Lx
   have hL := Loc.back (L1 := Lo) (L2 := [_, _, _, _, _]) hL
   replace hL : Ev.Loc m S0 w0 m ((b10, .cells (toArr (ndC x)) 146 (0, 0)) :: (g, seO l') :: (ab, arO (.slice (some ⟨g2, 0, none⟩) ns.length c) mb) :: (mb, mapW (ndW ns 0)) :: (g2, .cells (toArr cur) 146 (0, 0)) :: Lo) w := hL
   cases b with
   | true =>
     refine go ?_;try(clear hL;intro w hL)
     replace hL : Ev.Loc m S0 w0 m ((g, seO l') :: (Lo ++ La)) w := by
      have h := hL.drop.perm (List.Perm.cons _ (List.perm_append_comm (l₁ := [_, _, _]) (l₂ := Lo)))
      rw [hLa3]; exact h
     exact rnd (j + 1, A2, n2, c2) ⟨by simp only at hlt ⊢; omega, l, Lo, ⟨ho2, by simp only; omega, hin4⟩, hL⟩
   | false =>
     refine go ?_;try(clear hL;intro w hL)
     refine NewReq.mk hL ?_
     clear hL
     intro gs w hL
     conv => whnf
     replace hL : Ev.Loc m S0 w0 m ((gs, .cells (toArr (stC ⟨x.s0, x.s1, x.s2, x.s3⟩)) 50 (0, 0)) :: (Lo ++ [(b10, .cells (toArr (ndC x)) 146 (0, 0)), (g, seO l'), (ab, arO (.slice (some ⟨g2, 0, none⟩) ns.length c) mb), (mb, mapW (ndW ns 0)), (g2, .cells (toArr cur) 146 (0, 0))])) w :=
      hL.perm (List.Perm.cons _ (List.perm_append_comm (l₁ := [_, _, _, _, _]) (l₂ := Lo)))
     have hfl : (stR l).flatten.length = l.length * 4 := by rw [flat_len _ (stR_rows l)]; simp [stR]
     refine go ?_;try(clear hL;intro w hL)
     refine RunReq.push hX 113 50 rfl rfl rfl rfl rfl ho2 (L2 := [_, _, _, _, _]) hL rfl rfl (by rw [hfl]; show _ + 4 ≤ _; omega) rfl ?_
     clear hL
     intro A3 n3 c3 Lo3 w hn3 ho3 hL
     rw [show (stR l).flatten ++ stC ⟨x.s0, x.s1, x.s2, x.s3⟩ = (stR (l ++ [⟨x.s0, x.s1, x.s2, x.s3⟩])).flatten by unfold stR; simp] at ho3
     have hin5 : ∀ y ∈ l ++ [(⟨x.s0, x.s1, x.s2, x.s3⟩ : S4)], InS4 y := all_snoc rfl hin4 ⟨hI.s0, hI.s1, hI.s2, hI.s3⟩
     have hll5 : (l ++ [(⟨x.s0, x.s1, x.s2, x.s3⟩ : S4)]).length ≤ j + 1 := by rw [List.length_append]; simp; omega
     generalize l ++ [(⟨x.s0, x.s1, x.s2, x.s3⟩ : S4)] = l5 at ho3 hin5 hll5
     replace hL : Ev.Loc m S0 w0 m ((g, seO l') :: (Lo3 ++ La)) w := by
      have h : Ev.Loc m S0 w0 m (Lo3 ++ [(g, seO l'), (ab, arO (.slice (some ⟨g2, 0, none⟩) ns.length c) mb), (mb, mapW (ndW ns 0)), (g2, .cells (toArr cur) 146 (0, 0))]) w := hL.sublist (List.Sublist.append_left (.cons _ (List.Sublist.refl _)) Lo3)
      have h2 := h.perm (List.perm_append_comm_assoc Lo3 [_] [_, _, _])
      rw [hLa3]; exact h2
     refine go ?_;try(clear hL;intro w hL)
     exact rnd (j + 1, A3, n3, c3) ⟨by simp only at hlt ⊢; omega, l5, Lo3, ⟨ho3, by simp only; omega, hin5⟩, hL⟩
 ·refine go ?_;try(clear hL;intro w hL)
  exact RetReq.mk hL.drop ⟨rfl, l, Lo, rfl, ho2, by omega, hin4⟩
end Go.Proofs.YtaooenndoopgdaaGreatDoor.lz
namespace Go.Proofs.YtaooenndoopgdaaGreatDoor.tree
open Go Go.Ev Go.Proofs
theorem equal_fn (m : Mem) (v v' : Value) (rs rs' : List Re) (f : Re → Re → Bool) (hs : Sl m 9 (RepRe m) v rs) (hs' : Sl m 9 (RepRe m) v' rs')
  (hf : ∀ p ∈ rs, ∀ q cs cs', RepRe m cs p → RepRe m cs' q → FnV Tryz.prog 151 [.agg (toArr cs), .agg (toArr cs')] m (.bool (f p q))) :
  FnV Tryz.prog 182 [v, v', .func (.func 151) #[] #[]] m (.bool (decide (rs.length = rs'.length) && (List.zipWith f rs rs').all id)) := by
 have hs0 := hs
 have hs0' := hs'
 obtain ⟨A, n, c, rfl, hn, hc, hm, -⟩ := hs
 obtain ⟨A', n', c', rfl, hn', hc', hm', -⟩ := hs'
 have he := hs0.elem
 have he' := hs0'.elem
 have hmx : maxLen = 9223372036854775807 := rfl
 refine Fn.enter (N := 32) hX Tryz.func182 rfl rfl (by show _ ≤ _; simp) (fun w0 hL => ?_)
 conv => whnf
 refine go ?_;try(clear hL;intro w hL)
 refine BrReq.dec (fun g6 => ?_) (fun g6 => ?_)
 ·refine go ?_;try(clear hL;intro w hL)
  exact RetReq.bool hL (by rw [decide_eq_false (by omega), Bool.false_and])
 refine go ?_;try(clear hL;intro w hL)
 have hg6 : rs.length = rs'.length := by omega
 refine LoopReq.inv hX (fun j : Nat => [(17, .int .i64 j)]) [1, 2, 15, 16]
  (fun j w => (j ≤ n ∧ ∀ (i : Nat) (x y : Re), i < j → rs[i]? = some x → rs'[i]? = some y → f x y = true) ∧ Ev.Loc m [] w0 m [] w) (fun j => n - j) 0
  ⟨⟨by omega, fun i x y h => absurd h (by omega)⟩, hL⟩ ⟨rfl, trivial⟩ ?_
 clear hL
 rintro j w g ⟨⟨hj, hdone⟩, hL⟩
 refine go ?_;try(clear hL;intro w hL)
 refine BrReq.dec (fun hlt => ?_) (fun hlt => ?_)
 ·have hlt' : j < rs.length := by omega
  have hlt2 : j < rs'.length := by omega
  obtain ⟨a, cs1, rfl, hl9, hcells, hrep⟩ := he j _ (List.getElem?_eq_getElem hlt')
  obtain ⟨k1, u0, u1, u2, u3, A1, n1, c1, lo1, hi1, neg1, rfl⟩ := hrep.form
  obtain ⟨a', cs2, rfl, hl9', hcells', hrep'⟩ := he' j _ (List.getElem?_eq_getElem hlt2)
  obtain ⟨k2, v0, v1, v2, v3, A2, n2, c2, lo2, hi2, neg2, rfl⟩ := hrep'.form
  conv => whnf
  repeat ((first | refine Idx2Req.mk j a rfl (by omega) rfl ?_ | refine LdReq.agg hX rfl rfl hL hl9 hcells ?_ | (refine go1 ?_;try(clear hL;intro w hL))); conv => whnf)
  refine NewReq.mk hL ?_
  clear hL
  intro b8 w hL
  conv => whnf
  conv => whnf
  repeat ((first | refine Idx2Req.mk j a' rfl (by omega) rfl ?_ | refine LdReq.agg hX rfl rfl hL hl9' hcells' ?_ | (refine go1 ?_;try(clear hL;intro w hL))); conv => whnf)
  refine NewReq.mk hL ?_
  clear hL
  intro b9 w hL
  conv => whnf
  refine go ?_;try(clear hL;intro w hL)
  refine CallReq.val (hf _ (List.getElem_mem hlt') _ _ _ hrep hrep') hL ?_
  clear hL
  intro w hL
  refine go ?_;try(clear hL;intro w hL)
  refine BrReq.not ?_
  refine BrReq.bool (fun hb => ?_) (fun hb => ?_)
  ·have hd : ∀ (i : Nat) (x y : Re), i < j + 1 → rs[i]? = some x → rs'[i]? = some y → f x y = true := by
    intro i x y hi hx hy
    by_cases e : i = j
    ·subst e
     rw [List.getElem?_eq_getElem hlt'] at hx; rw [List.getElem?_eq_getElem hlt2] at hy
     cases hx; cases hy; exact hb
    ·exact hdone i x y (by omega) hx hy
   refine go ?_;try(clear hL;intro w hL)
   exact rnd (j + 1) ⟨⟨by omega, hd⟩, hL.drop.drop⟩
  ·refine go ?_;try(clear hL;intro w hL)
   refine RetReq.bool hL.drop.drop ?_
   rw [decide_eq_true hg6, Bool.true_and]
   symm
   rw [Bool.eq_false_iff]
   intro hc
   have := (all_zip rs rs' hg6).1 hc j _ _ (List.getElem?_eq_getElem hlt') (List.getElem?_eq_getElem hlt2)
   rw [hb] at this; cases this
 ·refine go ?_;try(clear hL;intro w hL)
  refine RetReq.bool hL ?_
  rw [decide_eq_true hg6, Bool.true_and]
  symm
  exact (all_zip rs rs' hg6).2 fun i x y hx hy => hdone i x y (by have := (List.getElem?_eq_some_iff.1 hx).1; omega) hx hy
theorem deep_part {k : Nat} {kd s0 s1 s2 s3 lo hi : Int} {neg : Bool} {rs : List Re} (h : deepR (k + 1) (.mk kd s0 s1 s2 s3 rs lo hi neg) ≤ k + 1) : ∀ p ∈ rs, deepR k p ≤ k := by
 intro p hp
 simp only [deepR, Re.parts] at h
 have key : ∀ (l : List Nat) (a x : Nat), (x ∈ l ∨ x ≤ a) → x ≤ l.foldl max a := by
  intro l
  induction l with
  | nil => intro a x h; simpa using h
  | cons y l ih =>
    intro a x h
    refine ih _ _ ?_
    rcases h with h | h
    ·rcases List.mem_cons.1 h with rfl | h
     ·right; omega
     ·left; exact h
    ·right; omega
 have := key (rs.map (deepR k)) 0 (deepR k p) (.inl (List.mem_map.2 ⟨p, hp, rfl⟩))
 omega
theorem same_fn : ∀ (k : Nat) (m : Mem) (r r' : Re) (cs cs' : List Value), RepRe m cs r → RepRe m cs' r' → deepR k r ≤ k →
  FnV Tryz.prog 151 [.agg (toArr cs), .agg (toArr cs')] m (.bool (sameR (k + 1) r r')) := by
 intro k
 induction k with
 | zero => intro m r r' cs cs' h h' hd; simp [deepR] at hd
 | succ k ih =>
   intro m r r' cs cs' h h' hd
   obtain ⟨kd, s0, s1, s2, s3, rs, lo, hi, neg⟩ := r
   obtain ⟨A, n, c, rfl, hs, _⟩ := h.open
   obtain ⟨kd', t0, t1, t2, t3, rs', lo', hi', neg'⟩ := r'
   obtain ⟨A', n', c', rfl, hs', _⟩ := h'.open
   obtain ⟨hn, hc, hm⟩ := hs.lens
   obtain ⟨hn', hc', hm'⟩ := hs'.lens
   have hpd := deep_part hd
   have hno : ¬(kd = kd' ∧ (s0 = t0 ∧ s1 = t1 ∧ s2 = t2 ∧ s3 = t3) ∧ lo = lo' ∧ hi = hi' ∧ neg = neg') → sameR (k + 2) (.mk kd s0 s1 s2 s3 rs lo hi neg) (.mk kd' t0 t1 t2 t3 rs' lo' hi' neg') = false := by
    intro h; simp only [sameR, headEq]; rw [decide_eq_false (fun h' => h ⟨h'.1, h'.2.1, h'.2.2.1, h'.2.2.2.1, h'.2.2.2.2.1⟩), Bool.false_and]
   have hset : (decide (s0 = t0) && (decide (s1 = t1) && (decide (s2 = t2) && (decide (s3 = t3) && true)))) = false → ¬(s0 = t0 ∧ s1 = t1 ∧ s2 = t2 ∧ s3 = t3) := by
    rintro h ⟨h0, h1, h2, h3⟩; simp [h0, h1, h2, h3] at h
   have hset' : (decide (s0 = t0) && (decide (s1 = t1) && (decide (s2 = t2) && (decide (s3 = t3) && true)))) = true → (s0 = t0 ∧ s1 = t1 ∧ s2 = t2 ∧ s3 = t3) := by
    intro h; simpa using h
   refine Fn.enter (N := 45) hX Tryz.func151 rfl rfl (by show _ ≤ _; simp) (fun w0 hL => ?_)
   conv => whnf
   refine NewReq.mk hL ?_
   clear hL
   intro b2 w hL
   conv => whnf
   refine NewReq.mk hL ?_
   clear hL
   intro b3 w hL
   conv => whnf
   refine go ?_;try(clear hL;intro w hL)
   refine BrReq.dec (fun g1 => ?_) (fun g1 => ?_)
   rotate_left
   ·refine go ?_;try(clear hL;intro w hL)
    exact RetReq.bool hL.drop.drop (by rw [hno (fun h => g1 h.1)])
   conv => whnf
   repeat ((first | refine UGenReq.eqA hX rfl rfl rfl Tryz.eqGuardType50 rfl rfl rfl ?_ | (refine go1 ?_;try(clear hL;intro w hL))); conv => whnf)
   refine BrReq.bool (fun g2 => ?_) (fun g2 => ?_)
   rotate_left
   ·refine go ?_;try(clear hL;intro w hL)
    exact RetReq.bool hL.drop.drop (by rw [hno (fun h => hset g2 h.2.1)])
   refine go ?_;try(clear hL;intro w hL)
   refine BrReq.dec (fun g3 => ?_) (fun g3 => ?_)
   rotate_left
   ·refine go ?_;try(clear hL;intro w hL)
    exact RetReq.bool hL.drop.drop (by rw [hno (fun h => g3 h.2.2.1)])
   refine go ?_;try(clear hL;intro w hL)
   refine BrReq.dec (fun g4 => ?_) (fun g4 => ?_)
   rotate_left
   ·refine go ?_;try(clear hL;intro w hL)
    exact RetReq.bool hL.drop.drop (by rw [hno (fun h => g4 h.2.2.2.1)])
   refine go ?_;try(clear hL;intro w hL)
   refine BrReq.bool (fun g5 => ?_) (fun g5 => ?_)
   rotate_left
   ·refine go ?_;try(clear hL;intro w hL)
    exact RetReq.bool hL.drop.drop (by rw [hno (fun h => by rw [h.2.2.2.2] at g5; simp at g5)])
   refine go ?_;try(clear hL;intro w hL)
   refine CallReq.val (equal_fn m _ _ rs rs' (sameR (k + 1)) hs hs' fun p hp q cs1 cs2 h1 h2 => ih m p q cs1 cs2 h1 h2 (hpd p hp)) hL ?_
   clear hL
   intro w hL
   refine go ?_;try(clear hL;intro w hL)
   refine RetReq.bool hL.drop.drop ?_
   have hg5 : neg = neg' := by simpa using g5
   simp only [sameR, headEq, Re.parts]
   congr 1
   refine decide_eq_decide.2 ⟨fun h => ⟨g1, hset' g2, g3, g4, hg5, h⟩, fun h => h.2.2.2.2.2⟩
theorem Same_fn (m : Mem) (r r' : Re) (cs cs' : List Value) (h : RepRe m cs r) (h' : RepRe m cs' r') :
  FnV Tryz.prog 100 [.agg (toArr cs), .agg (toArr cs')] m (.bool (decide (deepR 40 r ≤ 40) && decide (deepR 40 r' ≤ 40) && sameR 41 r r')) := by
 obtain ⟨k1, u0, u1, u2, u3, A1, n1, c1, lo1, hi1, neg1, rfl⟩ := h.form
 obtain ⟨k2, v0, v1, v2, v3, A2, n2, c2, lo2, hi2, neg2, rfl⟩ := h'.form
 refine Fn.enter (N := 18) hX Tryz.func100 rfl rfl (by show _ ≤ _; simp) (fun w0 hL => ?_)
 conv => whnf
 refine NewReq.mk hL ?_
 clear hL
 intro b2 w hL
 conv => whnf
 refine NewReq.mk hL ?_
 clear hL
 intro b3 w hL
 conv => whnf
 refine go ?_;try(clear hL;intro w hL)
 refine CallReq.val (Deep_fn m r _ h) hL ?_
 clear hL
 intro w hL
 refine go ?_;try(clear hL;intro w hL)
 refine BrReq.dec (fun g => ?_) (fun g => ?_)
 ·refine go ?_;try(clear hL;intro w hL)
  refine CallReq.val (Deep_fn m r' _ h') hL ?_
  clear hL
  intro w hL
  refine go ?_;try(clear hL;intro w hL)
  refine BrReq.dec (fun g2 => ?_) (fun g2 => ?_)
  ·refine go ?_;try(clear hL;intro w hL)
   refine CallReq.val (same_fn 40 m r r' _ _ h h' (by omega)) hL ?_
   clear hL
   intro w hL
   refine go ?_;try(clear hL;intro w hL)
   exact RetReq.bool hL.drop.drop (by rw [decide_eq_true (by omega : deepR 40 r ≤ 40), decide_eq_true (by omega : deepR 40 r' ≤ 40)]; rfl)
  ·refine go ?_;try(clear hL;intro w hL)
   exact RetReq.bool hL.drop.drop (by rw [decide_eq_false (by omega : ¬ deepR 40 r' ≤ 40), Bool.and_false, Bool.false_and])
 ·refine go ?_;try(clear hL;intro w hL)
  exact RetReq.bool hL.drop.drop (by rw [decide_eq_false (by omega : ¬ deepR 40 r ≤ 40), Bool.false_and, Bool.false_and])
theorem sameR_refl : ∀ (k : Nat) (r : Re), deepR k r ≤ k → sameR (k + 1) r r = true := by
 intro k
 induction k with
 | zero => intro r h; simp [deepR] at h
 | succ k ih =>
   intro r h
   obtain ⟨kd, s0, s1, s2, s3, rs, lo, hi, neg⟩ := r
   have hp := deep_part h
   have e : sameR (k + 2) (.mk kd s0 s1 s2 s3 rs lo hi neg) (.mk kd s0 s1 s2 s3 rs lo hi neg) = (List.zipWith (sameR (k + 1)) rs rs).all id := by
    simp only [sameR, headEq, Re.parts]; rw [decide_eq_true (by simp), Bool.true_and]
   rw [e]
   refine (all_zip rs rs rfl).2 fun i x y hx hy => ?_
   rw [hx] at hy; cases hy
   exact ih x (hp x (List.mem_of_getElem? hx))
end Go.Proofs.YtaooenndoopgdaaGreatDoor.tree
namespace Go.Proofs.YtaooenndoopgdaaGreatDoor.tree
open Go Go.Ev Go.Proofs
inductive OwnT : Re → List Value → Ev.Own → Prop
 | mk (k s0 s1 s2 s3 lo hi : Int) (neg : Bool) (g : Nat) (rs : List Re) (blk : List (List Value)) (Ls : List Ev.Own)
   (h1 : blk.length = rs.length) (h2 : Ls.length = rs.length) (h3 : rs.length ≤ maxLen)
   (hr : inI k ∧ inU s0 ∧ inU s1 ∧ inU s2 ∧ inU s3 ∧ inI lo ∧ inI hi)
   (hs : ∀ (i : Nat) (r : Re) (cs : List Value) (L : Ev.Own), rs[i]? = some r → blk[i]? = some cs → Ls[i]? = some L → OwnT r cs L) :
   OwnT (.mk k s0 s1 s2 s3 rs lo hi neg) (reC k s0 s1 s2 s3 (.slice (some ⟨g, 0, none⟩) rs.length rs.length) lo hi neg) ((g, .cells (toArr blk.flatten) 52 (0, 0)) :: Ls.flatten)
theorem OwnT.len {r : Re} {cs : List Value} {L : Ev.Own} (h : OwnT r cs L) : cs.length = 9 := by cases h; rfl
theorem OwnT.form {r : Re} {cs : List Value} {L : Ev.Own} (h : OwnT r cs L) : ∃ k s0 s1 s2 s3 g n lo hi neg, cs = reC k s0 s1 s2 s3 (.slice (some ⟨g, 0, none⟩) n n) lo hi neg := by
 cases h; exact ⟨_, _, _, _, _, _, _, _, _, _, rfl⟩
theorem rows9 {rs : List Re} {blk : List (List Value)} {Ls : List Ev.Own} (h1 : blk.length = rs.length) (h2 : Ls.length = rs.length)
  (hs : ∀ (i : Nat) (r : Re) (cs : List Value) (L : Ev.Own), rs[i]? = some r → blk[i]? = some cs → Ls[i]? = some L → OwnT r cs L) : ∀ r ∈ blk, r.length = 9 := by
 intro r hr
 obtain ⟨i, hi, rfl⟩ := List.getElem_of_mem hr
 exact (hs i _ _ _ (List.getElem?_eq_getElem (by omega)) (List.getElem?_eq_getElem hi) (List.getElem?_eq_getElem (by omega))).len
section
variable {m0 m : Mem} {S : List Nat} {w0 w : World}
theorem OwnT.freeze {r : Re} : ∀ {cs : List Value} {L L2 : Ev.Own} {m : Mem}, OwnT r cs L → Ev.Loc m0 S w0 m (L ++ L2) w → ∃ m', Ev.Loc m0 S w0 m' L2 w ∧ Mem.Le m m' ∧ RepRe m' cs r := by
 induction r using Re.ind with
 | h k s0 s1 s2 s3 rs lo hi neg ih =>
   intro cs L L2 m h hL
   cases h with
   | mk _ _ _ _ _ _ _ _ g _ blk Ls h1 h2 h3 hr hs =>
     have h9 := rows9 h1 h2 hs
     have hL : Ev.Loc m0 S w0 m (Ls.flatten ++ ((g, .cells (toArr blk.flatten) 52 (0, 0)) :: L2)) w := hL.perm (List.perm_middle.symm)
     have key : ∀ (j : Nat) (m : Mem), j ≤ rs.length → Ev.Loc m0 S w0 m ((Ls.drop (rs.length - j)).flatten ++ ((g, .cells (toArr blk.flatten) 52 (0, 0)) :: L2)) w →
       ∃ m', Ev.Loc m0 S w0 m' ((g, .cells (toArr blk.flatten) 52 (0, 0)) :: L2) w ∧ Mem.Le m m' ∧ ∀ (i : Nat) (x : Re), rs.length - j ≤ i → rs[i]? = some x → ∃ cs, blk[i]? = some cs ∧ RepRe m' cs x := by
      intro j
      induction j with
      | zero =>
        intro m hj hL
        rw [Nat.sub_zero, ← h2, List.drop_length] at hL
        exact ⟨m, hL, Mem.Le.refl m, fun i x hi hx => absurd (List.getElem?_eq_some_iff.1 hx).1 (by omega)⟩
      | succ j ihj =>
        intro m hj hL
        have hlt : rs.length - (j + 1) < Ls.length := by omega
        rw [List.drop_eq_getElem_cons hlt, List.flatten_cons, List.append_assoc, show rs.length - (j + 1) + 1 = rs.length - j by omega] at hL
        have hx0 := List.getElem?_eq_getElem (l := rs) (i := rs.length - (j + 1)) (by omega)
        have hb0 := List.getElem?_eq_getElem (l := blk) (i := rs.length - (j + 1)) (by omega)
        obtain ⟨m1, hL1, hm1, hrep⟩ := ih _ (List.getElem_mem _) (hs _ _ _ _ hx0 hb0 (List.getElem?_eq_getElem hlt)) hL
        obtain ⟨m2, hL2, hm2, hall⟩ := ihj m1 (by omega) hL1
        refine ⟨m2, hL2, hm1.trans hm2, fun i x hi hx => ?_⟩
        by_cases e : i = rs.length - (j + 1)
        ·subst e
         rw [hx0] at hx; cases hx
         exact ⟨_, hb0, hrep.le hm2⟩
        ·exact hall i x (by omega) hx
     obtain ⟨m1, hL1, hm1, hall⟩ := key rs.length m (Nat.le_refl _) (by rw [Nat.sub_self, List.drop_zero]; exact hL)
     obtain ⟨m2, hL2, hm2, hsl⟩ := rows_freeze (L := L2) (R := RepRe m1) hL1 rfl (Nat.le_refl _) h3 h9 fun i x hx => hall i x (by omega) hx
     exact ⟨m2, hL2, hm1.trans hm2, RepRe.shut (hsl.le (Mem.Le.refl m2) fun cs x _ hx => hx.le hm2) hr⟩
end
set_option maxHeartbeats 1000000 in
theorem cloneT_fn (r : Re) : ∀ (m : Mem) (cs : List Value), RepRe m cs r → Small r → Ev.Fn Tryz.prog 140 [.agg (toArr cs)] m [] fun _ L' u => ∃ cs', u = .agg (toArr cs') ∧ OwnT r cs' L' := by
 induction r using Re.ind with
 | h kd s0 s1 s2 s3 rs lo hi neg ih =>
   intro m cs h hsm
   obtain ⟨A, n, c, rfl, hs, hrng⟩ := h.open
   obtain ⟨hn, hc, hm⟩ := hs.lens
   have hmx : maxLen = 9223372036854775807 := rfl
   have he := hs.elem
   have hsub : rs.length ≤ 2000 ∧ ∀ p ∈ rs, Small p := by cases hsm; exact ⟨by assumption, by assumption⟩
   refine Fn.enter (N := 27) hX Tryz.func140 rfl rfl (by show _ ≤ _; simp) (fun w0 hL => ?_)
   conv => whnf
   refine NewReq.mk hL ?_
   clear hL
   intro b1 w hL
   conv => whnf
   refine NewReq.mk hL ?_
   clear hL
   intro b2 w hL
   conv => whnf
   refine go ?_;try(clear hL;intro w hL)
   refine RunReq.make hX rfl rfl rfl rfl n n rfl rfl (Nat.le_refl _) (by omega) rfl hL ?_
   clear hL
   intro g w hL
   rw [zeros_rows] at hL
   refine go ?_;try(clear hL;intro w hL)
   refine LoopReq.inv hX (fun j : Nat => [(13, .int .i64 j)]) [1, 2, 3, 11, 12]
    (fun j w => j ≤ n ∧ ∃ m1 blk Ls, Mem.Le m m1 ∧ List.length blk = n ∧ List.length Ls = j ∧ (∀ r ∈ blk, r.length = 9) ∧ (∀ (i : Nat) (r : Re) (cs : List Value) (L : Ev.Own), rs[i]? = some r → blk[i]? = some cs → Ls[i]? = some L → OwnT r cs L) ∧
     Ev.Loc m [] w0 m1 ((g, .cells (toArr (List.flatten blk)) 52 (0, 0)) :: (b2, .cells (toArr (reC 0 0 0 0 0 (.slice none 0 0) 0 0 false)) 52 (0, 0)) :: (b1, .cells (toArr (reC kd s0 s1 s2 s3 (.slice A n c) lo hi neg)) 52 (0, 0)) :: List.flatten Ls) w) (fun j => n - j) 0
    ⟨by omega, m, List.replicate n (reC 0 0 0 0 0 (.slice none 0 0) 0 0 false), [], Mem.Le.refl m, by simp, rfl, by intro r hr; rw [(List.mem_replicate.1 hr).2]; rfl, fun i r cs L _ _ h => by simp at h, hL⟩ ⟨rfl, trivial⟩ ?_
   clear hL
   rintro j w f ⟨hj, m1, blk, Ls, hm1, hbl, hLs, hrows, hdone, hL⟩
   refine go ?_;try(clear hL;intro w hL)
   refine BrReq.dec (fun hlt => ?_) (fun hlt => ?_)
   ·have hlt' : j < rs.length := by omega
    obtain ⟨a, cs', rfl, hl9, hcells, hrep⟩ := he j _ (List.getElem?_eq_getElem hlt')
    obtain ⟨k1, u0, u1, u2, u3, A1, n1, c1, lo1, hi1, neg1, rfl⟩ := hrep.form
    conv => whnf
    repeat ((first | refine Idx2Req.mk j a rfl (by omega) rfl ?_ | refine LdReq.agg hX rfl rfl hL hl9 (hcells.le hm1) ?_ | (refine go1 ?_;try(clear hL;intro w hL))); conv => whnf)
    refine NewReq.mk hL ?_
    clear hL
    intro b5 w hL
    conv => whnf
    refine go ?_;try(clear hL;intro w hL)
    refine CallReq.mk (L1 := []) (ih _ (List.getElem_mem hlt') m1 _ (hrep.le hm1) (hsub.2 _ (List.getElem_mem hlt'))) hL ?_
    clear hL
    rintro v m2 L1 w hL hm2 ⟨cs3, rfl, ho⟩
    obtain ⟨k3, v0, v1, v2, v3, g3, n3, lo3, hi3, neg3, rfl⟩ := ho.form
    replace hL : Ev.Loc m [] w0 m2 ((b5, .cells (toArr (reC k1 u0 u1 u2 u3 (.slice A1 n1 c1) lo1 hi1 neg1)) 52 (0, 0)) :: (g, .cells (toArr (List.flatten blk)) 52 (0, 0)) :: (b2, .cells (toArr (reC 0 0 0 0 0 (.slice none 0 0) 0 0 false)) 52 (0, 0)) :: (b1, .cells (toArr (reC kd s0 s1 s2 s3 (.slice (some a) n c) lo hi neg)) 52 (0, 0)) :: (Ls ++ [L1]).flatten) w := by
     refine hL.perm ?_
     rw [List.flatten_append, List.flatten_cons, List.flatten_nil, List.append_nil]
     exact List.perm_append_comm
    conv => whnf
    repeat ((first | refine Idx2Req.mk j _ rfl (by omega) rfl ?_ | (refine go1 ?_;try(clear hL;intro w hL))); conv => whnf)
    refine rows_store hX rfl 1 hL rfl hrows (by omega) rfl rfl ?_
    clear hL
    intro w hL
    have hL : Ev.Loc m [] w0 m2 (_ :: _ :: _ :: _ :: (Ls ++ [L1]).flatten) w := hL
    have hrows' : ∀ r ∈ blk.set j (reC k3 v0 v1 v2 v3 (.slice (some ⟨g3, 0, none⟩) n3 n3) lo3 hi3 neg3), r.length = 9 := by
     intro r hr
     rcases List.mem_or_eq_of_mem_set hr with h | rfl
     ·exact hrows _ h
     ·rfl
    have hdone' : ∀ (i : Nat) (r : Re) (cs : List Value) (L : Ev.Own), rs[i]? = some r → (blk.set j (reC k3 v0 v1 v2 v3 (.slice (some ⟨g3, 0, none⟩) n3 n3) lo3 hi3 neg3))[i]? = some cs → (Ls ++ [L1])[i]? = some L → OwnT r cs L := by
     intro i x cs L hx hcs hl
     by_cases e : i = j
     ·subst e
      rw [List.getElem?_eq_getElem hlt'] at hx; cases hx
      rw [List.getElem?_set_self (by omega)] at hcs; cases hcs
      rw [List.getElem?_append_right (by omega), hLs, Nat.sub_self] at hl
      simp at hl; subst hl
      exact ho
     ·rw [List.getElem?_set_ne (Ne.symm e)] at hcs
      have hil : i < (Ls ++ [L1]).length := (List.getElem?_eq_some_iff.1 hl).1
      rw [List.length_append, List.length_singleton] at hil
      rw [List.getElem?_append_left (by omega)] at hl
      exact hdone i x cs L hx hcs hl
    refine go ?_;try(clear hL;intro w hL)
    exact rnd (j + 1) ⟨by omega, m2, _, Ls ++ [L1], hm1.trans hm2, by rw [List.length_set]; exact hbl, by rw [List.length_append, hLs]; rfl, hrows', hdone', hL.drop⟩
   refine go ?_;try(clear hL;intro w hL)
   subst hn
   have hjn : j = rs.length := by omega
   refine RetReq.mk (L := (g, .cells (toArr (List.flatten blk)) 52 (0, 0)) :: Ls.flatten) (hL.sublist ?_) ⟨_, rfl, ?_⟩
   ·exact List.Sublist.cons_cons _ (List.Sublist.cons _ (List.Sublist.cons _ (List.Sublist.refl _)))
   ·exact .mk kd s0 s1 s2 s3 lo hi neg g rs blk Ls hbl (by omega) (by omega) hrng hdone
end Go.Proofs.YtaooenndoopgdaaGreatDoor.tree
namespace Go.Proofs.YtaooenndoopgdaaGreatDoor.looks
open Go Go.Ev Go.Proofs Go.Proofs.YtaooenndoopgdaaGreatDoor.tree
def idxR (f : Re → Bool) : List Re → Int
 | [] => -1
 | p :: l => if f p = true then 0 else if idxR f l < 0 then -1 else idxR f l + 1
theorem idxR_at {f : Re → Bool} : ∀ (l : List Re) (i : Nat) (x : Re), l[i]? = some x → f x = true → (∀ (q : Nat) (y : Re), q < i → l[q]? = some y → f y = false) → idxR f l = i := by
 intro l
 induction l with
 | nil => intro i x h; simp at h
 | cons p l ih =>
   intro i x h hx hq
   cases i with
   | zero => simp at h; subst h; simp only [idxR]; rw [if_pos hx]; rfl
   | succ i =>
     have h0 := hq 0 p (by omega) rfl
     simp only [idxR]
     rw [if_neg (by rw [h0]; simp), ih i x (by simpa using h) hx fun q y hlt hy => hq (q + 1) y (by omega) (by simpa using hy), if_neg (by omega)]
     omega
theorem idxR_none {f : Re → Bool} : ∀ (l : List Re), (∀ x ∈ l, f x = false) → idxR f l = -1 := by
 intro l
 induction l with
 | nil => intro _; rfl
 | cons p l ih =>
   intro h
   simp only [idxR]
   rw [if_neg (by rw [h p (by simp)]; simp), ih fun x hx => h x (by simp [hx]), if_pos (by omega)]
theorem idxR_neg {f : Re → Bool} : ∀ (l : List Re), 0 ≤ idxR f l ↔ l.any f = true := by
 intro l
 induction l with
 | nil => simp [idxR]
 | cons p l ih =>
   simp only [idxR, List.any_cons, Bool.or_eq_true]
   by_cases h : f p = true
   ·rw [if_pos h]; exact ⟨fun _ => .inl h, fun _ => by omega⟩
   ·rw [if_neg h]
    by_cases h2 : idxR f l < 0
    ·rw [if_pos h2]; exact ⟨fun h' => absurd h' (by omega), fun h' => h'.elim (fun h3 => absurd h3 h) fun h3 => absurd (ih.2 h3) (by omega)⟩
    ·rw [if_neg h2]; exact ⟨fun _ => .inr (ih.1 (by omega)), fun _ => by omega⟩
theorem indexMake_fn (m : Mem) (v : Value) (rs : List Re) (f : Re → Bool) (hs : Sl m 9 (RepRe m) v rs) (hf : ∀ p ∈ rs, ∀ cs, RepRe m cs p → FnV Tryz.prog 65 ([.agg (toArr cs)] ++ []) m (.bool (f p))) :
  FnV Tryz.prog 95 [v, .func (.func 65) #[] #[]] m (.int .i64 (idxR f rs)) := by
 have hs' := hs
 obtain ⟨A, n, c, rfl, hn, hc, hm, -⟩ := hs
 have he := hs'.elem
 have hmx : maxLen = 9223372036854775807 := rfl
 refine Fn.enter (N := 19) hX Tryz.func95 rfl rfl (by show _ ≤ _; simp) (fun w0 hL => ?_)
 conv => whnf
 refine go ?_;try(clear hL;intro w hL)
 refine LoopReq.inv hX (fun j : Nat => [(8, .int .i64 j)]) [0, 1, 7]
  (fun j w => (j ≤ n ∧ ∀ (i : Nat) (x : Re), i < j → rs[i]? = some x → f x = false) ∧ Ev.Loc m [] w0 m [] w) (fun j => n - j) 0
  ⟨⟨by omega, fun i x h => absurd h (by omega)⟩, hL⟩ ⟨rfl, trivial⟩ ?_
 clear hL
 rintro j w g ⟨⟨hj, hdone⟩, hL⟩
 refine go ?_;try(clear hL;intro w hL)
 refine BrReq.dec (fun hlt => ?_) (fun hlt => ?_)
 ·have hlt' : j < rs.length := by omega
  obtain ⟨a, cs', rfl, hl9, hcells, hrep⟩ := he j _ (List.getElem?_eq_getElem hlt')
  obtain ⟨k1, u0, u1, u2, u3, A1, n1, c1, lo1, hi1, neg1, rfl⟩ := hrep.form
  conv => whnf
  repeat ((first | refine Idx2Req.mk j a rfl (by omega) rfl ?_ | refine LdReq.agg hX rfl rfl hL hl9 hcells ?_ | (refine go1 ?_;try(clear hL;intro w hL))); conv => whnf)
  refine CallReq.val (hf _ (List.getElem_mem hlt') _ hrep) hL ?_
  clear hL
  intro w hL
  refine go ?_;try(clear hL;intro w hL)
  refine BrReq.bool (fun hb => ?_) (fun hb => ?_)
  ·have e := idxR_at (f := f) rs j _ (List.getElem?_eq_getElem hlt') hb fun q y h1 h2 => hdone q y h1 h2
   refine go ?_;try(clear hL;intro w hL)
   exact RetReq.int hL e.symm
  ·have hd : ∀ (i : Nat) (x : Re), i < j + 1 → rs[i]? = some x → f x = false := by
    intro i x hi hx
    by_cases e : i = j
    ·subst e
     rw [List.getElem?_eq_getElem hlt'] at hx
     cases hx; exact hb
    ·exact hdone i x (by omega) hx
   refine go ?_;try(clear hL;intro w hL)
   exact rnd (j + 1) ⟨⟨by omega, hd⟩, hL⟩
 ·refine go ?_;try(clear hL;intro w hL)
  have e : idxR f rs = -1 := idxR_none rs fun x hx => by
   obtain ⟨i, hi, rfl⟩ := List.getElem_of_mem hx
   exact hdone i _ (by omega) (List.getElem?_eq_getElem hi)
  exact RetReq.int hL e.symm
theorem indexSame_fn (m : Mem) (v : Value) (rs : List Re) (f : Re → Bool)(b0 : Nat) (hs : Sl m 9 (RepRe m) v rs) (hf : ∀ p ∈ rs, ∀ cs, RepRe m cs p → FnV Tryz.prog 99 ([.agg (toArr cs)] ++ [.pointer (some ⟨b0, 0, none⟩)]) m (.bool (f p))) :
  FnV Tryz.prog 95 [v, .func (.func 99) #[] #[.pointer (some ⟨b0, 0, none⟩)]] m (.int .i64 (idxR f rs)) := by
 have hs' := hs
 obtain ⟨A, n, c, rfl, hn, hc, hm, -⟩ := hs
 have he := hs'.elem
 have hmx : maxLen = 9223372036854775807 := rfl
 refine Fn.enter (N := 19) hX Tryz.func95 rfl rfl (by show _ ≤ _; simp) (fun w0 hL => ?_)
 conv => whnf
 refine go ?_;try(clear hL;intro w hL)
 refine LoopReq.inv hX (fun j : Nat => [(8, .int .i64 j)]) [0, 1, 7]
  (fun j w => (j ≤ n ∧ ∀ (i : Nat) (x : Re), i < j → rs[i]? = some x → f x = false) ∧ Ev.Loc m [] w0 m [] w) (fun j => n - j) 0
  ⟨⟨by omega, fun i x h => absurd h (by omega)⟩, hL⟩ ⟨rfl, trivial⟩ ?_
 clear hL
 rintro j w g ⟨⟨hj, hdone⟩, hL⟩
 refine go ?_;try(clear hL;intro w hL)
 refine BrReq.dec (fun hlt => ?_) (fun hlt => ?_)
 ·have hlt' : j < rs.length := by omega
  obtain ⟨a, cs', rfl, hl9, hcells, hrep⟩ := he j _ (List.getElem?_eq_getElem hlt')
  obtain ⟨k1, u0, u1, u2, u3, A1, n1, c1, lo1, hi1, neg1, rfl⟩ := hrep.form
  conv => whnf
  repeat ((first | refine Idx2Req.mk j a rfl (by omega) rfl ?_ | refine LdReq.agg hX rfl rfl hL hl9 hcells ?_ | (refine go1 ?_;try(clear hL;intro w hL))); conv => whnf)
  refine CallReq.val (hf _ (List.getElem_mem hlt') _ hrep) hL ?_
  clear hL
  intro w hL
  refine go ?_;try(clear hL;intro w hL)
  refine BrReq.bool (fun hb => ?_) (fun hb => ?_)
  ·have e := idxR_at (f := f) rs j _ (List.getElem?_eq_getElem hlt') hb fun q y h1 h2 => hdone q y h1 h2
   refine go ?_;try(clear hL;intro w hL)
   exact RetReq.int hL e.symm
  ·have hd : ∀ (i : Nat) (x : Re), i < j + 1 → rs[i]? = some x → f x = false := by
    intro i x hi hx
    by_cases e : i = j
    ·subst e
     rw [List.getElem?_eq_getElem hlt'] at hx
     cases hx; exact hb
    ·exact hdone i x (by omega) hx
   refine go ?_;try(clear hL;intro w hL)
   exact rnd (j + 1) ⟨⟨by omega, hd⟩, hL⟩
 ·refine go ?_;try(clear hL;intro w hL)
  have e : idxR f rs = -1 := idxR_none rs fun x hx => by
   obtain ⟨i, hi, rfl⟩ := List.getElem_of_mem hx
   exact hdone i _ (by omega) (List.getElem?_eq_getElem hi)
  exact RetReq.int hL e.symm
theorem containsMake_fn (m : Mem) (v : Value) (rs : List Re) (f : Re → Bool) (hs : Sl m 9 (RepRe m) v rs) (hf : ∀ p ∈ rs, ∀ cs, RepRe m cs p → FnV Tryz.prog 65 ([.agg (toArr cs)] ++ []) m (.bool (f p))) :
  FnV Tryz.prog 64 [v, .func (.func 65) #[] #[]] m (.bool (rs.any f)) := by
 have hs' := hs
 obtain ⟨A, n, c, rfl, -⟩ := hs
 refine Fn.enter (N := 9) hX Tryz.func64 rfl rfl (by show _ ≤ _; simp) (fun w0 hL => ?_)
 conv => whnf
 refine go ?_;try(clear hL;intro w hL)
 refine CallReq.val (indexMake_fn m _ rs f hs' hf) hL ?_
 clear hL
 intro w hL
 refine go ?_;try(clear hL;intro w hL)
 refine RetReq.bool hL ?_
 rw [Bool.eq_iff_iff, decide_eq_true_iff]
 exact idxR_neg rs
def bareR : Re → Re
 | .mk k s0 s1 s2 s3 rs lo hi _ => .mk k s0 s1 s2 s3 rs lo hi false
theorem bare_rep {m : Mem} {k s0 s1 s2 s3 lo hi : Int} {neg : Bool} {A : Option Addr} {n c : Nat} {r : Re} (h : RepRe m (reC k s0 s1 s2 s3 (.slice A n c) lo hi neg) r) : RepRe m (reC k s0 s1 s2 s3 (.slice A n c) lo hi false) (bareR r) := by
 obtain ⟨k', t0, t1, t2, t3, rs, lo', hi', neg'⟩ := r
 obtain ⟨A', n', c', e, hs, hr⟩ := h.open
 injection e with e0 e; injection e with e1 e; injection e with e2 e; injection e with e3 e; injection e with e4 e; injection e with e5 e; injection e with e6 e; injection e with e7 e
 cases e0; cases e1; cases e2; cases e3; cases e4; cases e5; cases e6; cases e7
 exact RepRe.shut hs hr
theorem bare_fn (m : Mem) (k s0 s1 s2 s3 lo hi : Int) (neg : Bool) (A : Option Addr) (n c : Nat) :
  FnV Tryz.prog 97 [.agg (toArr (reC k s0 s1 s2 s3 (.slice A n c) lo hi neg))] m (.agg (toArr (reC k s0 s1 s2 s3 (.slice A n c) lo hi false))) := by
 refine Fn.enter (N := 5) hX Tryz.func97 rfl rfl (by show _ ≤ _; simp) (fun w0 hL => ?_)
 conv => whnf
 refine NewReq.mk hL ?_
 clear hL
 intro b1 w hL
 conv => whnf
 refine NewReq.mk hL ?_
 clear hL
 intro b2 w hL
 conv => whnf
 refine go ?_;try(clear hL;intro w hL)
 exact RetReq.mk hL.drop.drop ⟨rfl, rfl⟩
def likeR (x y : Re) : Bool := decide (deepR 40 x ≤ 40) && decide (deepR 40 (bareR y) ≤ 40) && sameR 41 x (bareR y)
theorem index1_fn (m : Mem) (b0 : Nat) (x r : Re) (cs cs0 : List Value) (hx : RepRe m cs x) (hr : RepRe m cs0 r) (hb : Cells m ⟨b0, 0, none⟩ cs0) :
  FnV Tryz.prog 99 ([.agg (toArr cs)] ++ [.pointer (some ⟨b0, 0, none⟩)]) m (.bool (likeR x r)) := by
 obtain ⟨k1, u0, u1, u2, u3, A1, n1, c1, lo1, hi1, neg1, rfl⟩ := hx.form
 obtain ⟨k2, v0, v1, v2, v3, A2, n2, c2, lo2, hi2, neg2, rfl⟩ := hr.form
 refine Fn.enter (N := 8) hX Tryz.func99 rfl rfl (by show _ ≤ _; simp) (fun w0 hL => ?_)
 conv => whnf
 refine NewReq.mk hL ?_
 clear hL
 intro b2 w hL
 conv => whnf
 refine go ?_;try(clear hL;intro w hL)
 refine DrawReq.plan hX (.fst 0 (.fst 1 (.alt 2 (.alt 3 (.fst 4 (.done)) (.stop)) (.stop)))) _ (by kernel_rfl) (by kernel_rfl) hL id ?_
 clear hL
 intro w hL
 conv => whnf
 repeat ((first | refine QLdReq.agg hX rfl rfl rfl hb ?_ | (refine goq1 ?_;try(clear hL;intro w hL))); conv => whnf)
 refine CallReq.val (bare_fn m k2 v0 v1 v2 v3 lo2 hi2 neg2 A2 n2 c2) hL ?_
 clear hL
 intro w hL
 conv => whnf
 repeat ((first | refine SReq.mk hL ?_ | (refine goq1 ?_;try(clear hL;intro w hL))); conv => whnf)
 refine CallReq.val (Same_fn m _ _ _ _ hx (bare_rep hr)) hL ?_
 clear hL
 intro w hL
 conv => whnf
 repeat ((first | refine SReq.mk hL ?_ | (refine goq1 ?_;try(clear hL;intro w hL))); conv => whnf)
 exact RetReq.bool hL.drop rfl
theorem cells_add {m : Mem} {b te : Nat} {fz : Nat × Nat} (cs : List Value) : Cells (m.add b (.cells (toArr cs) te fz)) ⟨b, 0, none⟩ cs := by
 intro j v hj
 rw [addr_add, Nat.zero_add]
 simp only [mcell, ocell, Mem.add_same, toArr, List.getElem?_toArray]
 exact hj
theorem Index_fn (m : Mem) (v : Value) (ls : List Re) (r : Re) (cs : List Value) (hs : Sl m 9 (RepRe m) v ls) (hr : RepRe m cs r) :
  FnV Tryz.prog 68 [.agg (toArr [v]), .agg (toArr cs)] m (.int .i64 (idxR (fun x => likeR x r) ls)) := by
 obtain ⟨k2, v0, v1, v2, v3, A2, n2, c2, lo2, hi2, neg2, rfl⟩ := hr.form
 have hs' := hs
 obtain ⟨A, n, c, rfl, -⟩ := hs
 refine Fn.enter (N := 9) hX Tryz.func68 rfl rfl (by show _ ≤ _; simp) (fun w0 hL => ?_)
 conv => whnf
 refine NewReq.mk hL ?_
 clear hL
 intro b2 w hL
 conv => whnf
 refine NewReq.mk hL ?_
 clear hL
 intro b3 w hL
 conv => whnf
 refine go ?_;try(clear hL;intro w hL)
 have hle := hL.le_add
 replace hL := hL.freeze
 have hix := indexSame_fn _ (.slice A n c) ls (fun x => likeR x r) b3 (hs'.le hle fun cs x _ h => h.le hle) fun p hp cs h => index1_fn _ b3 p r cs _ h (hr.le hle) (cells_add _)
 refine CallReq.val hix hL ?_
 clear hL
 intro w hL
 refine go ?_;try(clear hL;intro w hL)
 exact RetReq.int hL.drop rfl
end Go.Proofs.YtaooenndoopgdaaGreatDoor.looks
namespace Go.Proofs.YtaooenndoopgdaaGreatDoor.looks
open Go Go.Ev Go.Proofs Go.Proofs.YtaooenndoopgdaaGreatDoor.tree
mutual
def looksR : Re → List Re → List Re
 | .mk k s0 s1 s2 s3 rs lo hi neg, ls =>
   if k < 8 then looksL rs ls
   else if (looksL rs ls).any (fun x => sameR 41 x (bareR (.mk k s0 s1 s2 s3 rs lo hi neg))) then looksL rs ls
   else looksL rs ls ++ [bareR (.mk k s0 s1 s2 s3 rs lo hi neg)]
def looksL : List Re → List Re → List Re
 | [], ls => ls
 | p :: l, ls => looksL l (looksR p ls)
end
mutual
def nodesR : Re → Nat
 | .mk _ _ _ _ _ rs _ _ _ => nodesL rs + 1
def nodesL : List Re → Nat
 | [] => 0
 | p :: l => nodesR p + nodesL l
end
theorem looksL_append (a b : List Re) : ∀ ls, looksL (a ++ b) ls = looksL b (looksL a ls) := by
 induction a with
 | nil => intro ls; rfl
 | cons p a ih => intro ls; simp only [List.cons_append, looksL]; exact ih _
theorem nodesL_append (a b : List Re) : nodesL (a ++ b) = nodesL a + nodesL b := by
 induction a with
 | nil => simp [nodesL]
 | cons p a ih => simp only [List.cons_append, nodesL, ih]; omega
theorem looksL_take (rs : List Re) (j : Nat) (h : j < rs.length) (ls : List Re) : looksL (rs.take (j + 1)) ls = looksR rs[j] (looksL (rs.take j) ls) := by
 rw [List.take_succ_eq_append_getElem h, looksL_append]; rfl
theorem nodesL_take (rs : List Re) (j : Nat) (h : j < rs.length) : nodesL (rs.take (j + 1)) = nodesL (rs.take j) + nodesR rs[j] := by
 rw [List.take_succ_eq_append_getElem h, nodesL_append]; simp [nodesL]
theorem nodesL_take_le (rs : List Re) (j : Nat) : nodesL (rs.take j) ≤ nodesL rs := by
 conv => rhs; rw [← List.take_append_drop j rs]
 rw [nodesL_append]; omega
theorem deep_up : ∀ (k : Nat) (r : Re), deepR k r ≤ k → deepR (k + 1) r ≤ k + 1 := by
 intro k
 induction k with
 | zero => intro r h; simp [deepR] at h
 | succ k ih =>
   intro r h
   obtain ⟨kd, s0, s1, s2, s3, rs, lo, hi, neg⟩ := r
   have hp := deep_part h
   show (rs.map (deepR (k + 1))).foldl max 0 + 1 ≤ k + 2
   have := foldl_max_le (B := k + 1) (rs.map (deepR (k + 1))) 0 (by omega) (by intro x hx; obtain ⟨p, hp', rfl⟩ := List.mem_map.1 hx; exact ih p (hp p hp'))
   omega
theorem deep40_part {kd s0 s1 s2 s3 lo hi : Int} {neg : Bool} {rs : List Re} (h : deepR 40 (.mk kd s0 s1 s2 s3 rs lo hi neg) ≤ 40) : ∀ p ∈ rs, deepR 40 p ≤ 40 := fun p hp => deep_up 39 p (deep_part h p hp)
theorem deep_bare (k : Nat) (r : Re) : deepR k (bareR r) = deepR k r := by
 obtain ⟨kd, s0, s1, s2, s3, rs, lo, hi, neg⟩ := r
 cases k <;> rfl
theorem looks_deep (r : Re) : ∀ ls, deepR 40 r ≤ 40 → (∀ x ∈ ls, deepR 40 x ≤ 40) → ∀ x ∈ looksR r ls, deepR 40 x ≤ 40 := by
 induction r using Re.ind with
 | h k s0 s1 s2 s3 rs lo hi neg ih =>
   intro ls hd hls
   have hL : ∀ (l : List Re), (∀ p ∈ l, p ∈ rs) → ∀ ls, (∀ x ∈ ls, deepR 40 x ≤ 40) → ∀ x ∈ looksL l ls, deepR 40 x ≤ 40 := by
    intro l
    induction l with
    | nil => intro _ ls h; exact h
    | cons p l ihl =>
      intro hm ls h
      exact ihl (fun q hq => hm q (by simp [hq])) _ (ih p (hm p (by simp)) ls (deep40_part hd p (hm p (by simp))) h)
   have h1 := hL rs (fun p hp => hp) ls hls
   simp only [looksR]
   split
   ·exact h1
   ·split
    ·exact h1
    ·intro x hx
     rcases List.mem_append.1 hx with hx | hx
     ·exact h1 x hx
     ·rw [List.mem_singleton] at hx; subst hx
      rw [deep_bare]; exact hd
theorem looksL_deep : ∀ (l : List Re) (ls : List Re), (∀ p ∈ l, deepR 40 p ≤ 40) → (∀ x ∈ ls, deepR 40 x ≤ 40) → ∀ x ∈ looksL l ls, deepR 40 x ≤ 40 := by
 intro l
 induction l with
 | nil => intro ls _ h; exact h
 | cons p l ih => intro ls hl h; exact ih _ (fun q hq => hl q (by simp [hq])) (looks_deep p ls (hl p (by simp)) h)
theorem looks_len (r : Re) : ∀ ls, (looksR r ls).length ≤ ls.length + nodesR r := by
 induction r using Re.ind with
 | h k s0 s1 s2 s3 rs lo hi neg ih =>
   intro ls
   have hL : ∀ (l : List Re), (∀ p ∈ l, p ∈ rs) → ∀ ls, (looksL l ls).length ≤ ls.length + nodesL l := by
    intro l
    induction l with
    | nil => intro _ ls; simp [looksL]
    | cons p l ihl =>
      intro hm ls
      have h1 := ihl (fun q hq => hm q (by simp [hq])) (looksR p ls)
      have h2 := ih p (hm p (by simp)) ls
      simp only [looksL, nodesL]; omega
   have h1 := hL rs (fun p hp => hp) ls
   simp only [looksR, nodesR]
   split
   ·omega
   ·split
    ·omega
    ·rw [List.length_append, List.length_singleton]; omega
theorem looksL_len : ∀ (l : List Re) (ls : List Re), (looksL l ls).length ≤ ls.length + nodesL l := by
 intro l
 induction l with
 | nil => intro ls; simp [looksL]
 | cons p l ih =>
   intro ls
   have h1 := ih (looksR p ls)
   have h2 := looks_len p ls
   simp only [looksL, nodesL]; omega
theorem alt2 {A B : Prop} (a : A) (b : B) : AltReq A B := ⟨⟨a, b⟩⟩
theorem small_bare {r : Re} (h : Small r) : Small (bareR r) := by
 cases h with
 | mk k s0 s1 s2 s3 rs lo hi neg h hp => exact .mk k s0 s1 s2 s3 rs lo hi false h hp
def PlanOwn (m : Mem) (bp : Nat) (ls : List Re) (L : Ev.Own) : Prop :=
 ∃ A n c rows Lx, L = (bp, .cells (toArr [.slice A n c]) 44 (0, 0)) :: Lx ∧ OwnS 52 9 (.slice A n c) (List.flatten rows) Lx ∧ (∀ r ∈ rows, r.length = 9) ∧ rows.length = ls.length ∧ n = ls.length ∧
  ∀ (i : Nat) (x : Re), ls[i]? = some x → ∃ cs, rows[i]? = some cs ∧ RepRe m cs x
theorem PlanOwn.le {m m' : Mem} {bp : Nat} {ls : List Re} {L : Ev.Own} (hm : Mem.Le m m') (h : PlanOwn m bp ls L) : PlanOwn m' bp ls L := by
 obtain ⟨A, n, c, rows, Lx, h1, h2, h3, h4, h5, h6⟩ := h
 exact ⟨A, n, c, rows, Lx, h1, h2, h3, h4, h5, fun i x hx => by obtain ⟨cs, e1, e2⟩ := h6 i x hx; exact ⟨cs, e1, e2.le hm⟩⟩
theorem Clone_fn (m : Mem) (r : Re) (cs : List Value) (h : RepRe m cs r) (hs : Small r) (hd : deepR 40 r ≤ 40) : Fn0 Tryz.prog 96 [.agg (toArr cs)] m fun m' u => ∃ cs', u = .agg (toArr cs') ∧ RepRe m' cs' r := by
 obtain ⟨k1, u0, u1, u2, u3, A1, n1, c1, lo1, hi1, neg1, rfl⟩ := h.form
 refine Fn.enter (N := 9) hX Tryz.func96 rfl rfl (by show _ ≤ _; simp) (fun w0 hL => ?_)
 conv => whnf
 refine NewReq.mk hL ?_
 clear hL
 intro b1 w hL
 conv => whnf
 refine NewReq.mk hL ?_
 clear hL
 intro b2 w hL
 conv => whnf
 refine go ?_;try(clear hL;intro w hL)
 refine CallReq.val (Deep_fn m r _ h) hL ?_
 clear hL
 intro w hL
 refine go ?_;try(clear hL;intro w hL)
 refine BrReq.dec (fun d1 => absurd d1 (by omega)) (fun d1 => ?_)
 refine go ?_;try(clear hL;intro w hL)
 refine CallReq.mk (L1 := []) (cloneT_fn r m _ h hs) hL ?_
 clear hL
 rintro v m2 L1 w hL hm2 ⟨cs3, rfl, ho⟩
 obtain ⟨m3, hL, hm3, hrep⟩ := ho.freeze hL
 obtain ⟨k3, v0, v1, v2, v3, A3, n3, c3, lo3, hi3, neg3, rfl⟩ := hrep.form
 refine go ?_;try(clear hL;intro w hL)
 exact RetReq.mk hL.drop.drop ⟨rfl, _, rfl, hrep⟩
set_option maxHeartbeats 4000000 in
theorem gather_fn (r : Re) : ∀ (m : Mem) (cs : List Value) (bp : Nat) (ls : List Re) (L : Ev.Own), RepRe m cs r → Small r → deepR 40 r ≤ 40 → (∀ x ∈ ls, deepR 40 x ≤ 40) → ls.length + nodesR r ≤ 1000000 → PlanOwn m bp ls L →
  Ev.Fn Tryz.prog 66 [.pointer (some ⟨bp, 0, none⟩), .agg (toArr cs)] m L fun m' L' u => u = resV [] ∧ PlanOwn m' bp (looksR r ls) L' := by
 induction r using Re.ind with
 | h kd s0 s1 s2 s3 rs lo hi neg ih =>
   intro m cs bp ls L h hsm hd hld hnb hp
   obtain ⟨A, n, c, rfl, hs, hrng⟩ := h.open
   obtain ⟨hn, hc, hm⟩ := hs.lens
   have hmx : maxLen = 9223372036854775807 := rfl
   have he := hs.elem
   have hsub : rs.length ≤ 2000 ∧ ∀ p ∈ rs, Small p := by cases hsm; exact ⟨by assumption, by assumption⟩
   simp only [nodesR] at hnb
   refine Fn.enter (N := 41) hX Tryz.func66 rfl rfl (by show _ ≤ _; simp) (fun w0 hL => ?_)
   conv => whnf
   obtain ⟨S0, hS0⟩ : ∃ S0, S0 = keys L := ⟨_, rfl⟩
   rw [← hS0] at hL ⊢
   refine NewReq.mk hL ?_
   clear hL
   intro b3 w hL
   conv => whnf
   refine go ?_;try(clear hL;intro w hL)
   refine LoopReq.inv hX (fun j : Nat => [(9, .int .i64 j)]) [0, 3, 7, 8]
    (fun j w => j ≤ n ∧ ∃ m1 L1, Mem.Le m m1 ∧ PlanOwn m1 bp (looksL (rs.take j) ls) L1 ∧ Ev.Loc m S0 w0 m1 ((b3, .cells (toArr (reC kd s0 s1 s2 s3 (.slice A n c) lo hi neg)) 52 (0, 0)) :: L1) w) (fun j => n - j) 0
    ⟨by omega, m, L, Mem.Le.refl m, hp, hL⟩ ⟨rfl, trivial⟩ ?_
   clear hL hp
   rintro j w f ⟨hj, m1, L1, hm1, hp, hL⟩
   refine go ?_;try(clear hL;intro w hL)
   refine BrReq.dec (fun hlt => ?_) (fun hlt => ?_)
   ·have hlt' : j < rs.length := by omega
    obtain ⟨a, cs', rfl, hl9, hcells, hrep⟩ := he j _ (List.getElem?_eq_getElem hlt')
    obtain ⟨k1, u0, u1, u2, u3, A1, n1, c1, lo1, hi1, neg1, rfl⟩ := hrep.form
    have hln := looksL_len (rs.take j) ls
    have hnt := nodesL_take rs j hlt'
    have hnl := nodesL_take_le rs (j + 1)
    have htk := looksL_take rs j hlt' ls
    have hdj := looksL_deep (rs.take j) ls (fun p hp => deep40_part hd p (List.mem_of_mem_take hp)) hld
    conv => whnf
    repeat ((first | refine Idx2Req.mk j a rfl (by omega) rfl ?_ | refine LdReq.agg hX rfl rfl hL hl9 (hcells.le hm1) ?_ | (refine go1 ?_;try(clear hL;intro w hL))); conv => whnf)
    refine NewReq.mk hL ?_
    clear hL
    intro b5 w hL
    conv => whnf
    refine go ?_;try(clear hL;intro w hL)
    refine CallReq.mk (L1 := L1) (ih _ (List.getElem_mem hlt') m1 _ bp _ L1 (hrep.le hm1) (hsub.2 _ (List.getElem_mem hlt')) (deep40_part hd _ (List.getElem_mem hlt')) hdj (by omega) hp) (Ev.Loc.back (L1 := [_, _]) hL) ?_
    clear hL
    rintro v m2 L2 w hL hm2 ⟨rfl, hp2⟩
    rw [← htk] at hp2
    replace hL := hL.back
    have hL : Ev.Loc m S0 w0 m2 (_ :: _ :: L2) w := hL
    refine go ?_;try(clear hL;intro w hL)
    exact rnd (j + 1) ⟨by omega, m2, L2, hm1.trans hm2, hp2, hL.drop⟩
   have hjn : j = rs.length := by omega
   rw [hjn, List.take_length] at hp
   have hln := looksL_len rs ls
   have hdl := looksL_deep rs ls (fun p hp => deep40_part hd p hp) hld
   obtain ⟨A0, n0, c0, rows, Lx, rfl, hown, hrows, hrl, hn0, hrl2⟩ := hp
   refine go ?_;try(clear hL;intro w hL)
   refine DrawReq.plan hX (.fst 0 (.fst 1 (.fst 2 (.fst 3 (.fst 4 (.fst 5 (.fst 6 (.fst 7 (.alt 8 (.fst 9 (.fst 10 (.done))) (.stop)))))))))) [(b3, .cells (toArr (reC kd s0 s1 s2 s3 (.slice A n c) lo hi neg)) 52 (0, 0)), (bp, .cells (toArr [.slice A0 n0 c0]) 44 (0, 0))] (by kernel_rfl) (by kernel_rfl) hL (fun h => h.sublist (.cons_cons _ (.cons_cons _ (List.nil_sublist _)))) ?_
   clear hL
   intro w hL
   refine goq ?_;try(clear hL;intro w hL)
   have hfin : ¬ (8 ≤ kd ∧ ¬ (looksL rs ls).any (fun x => sameR 41 x (bareR (.mk kd s0 s1 s2 s3 rs lo hi neg))) = true) → looksR (.mk kd s0 s1 s2 s3 rs lo hi neg) ls = looksL rs ls := by
    intro h
    simp only [looksR]
    by_cases e : kd < 8
    ·rw [if_pos e]
    ·rw [if_neg e, if_pos]
     exact Decidable.not_not.1 fun h' => h ⟨by omega, h'⟩
   refine BrReq.dec (fun k8 => ?_) (fun k8 => ?_)
   rotate_left
   ·refine goq ?_;try(clear hL;intro w hL)
    refine RetReq.mk hL.drop ⟨rfl, ?_⟩
    rw [hfin fun h => k8 h.1]
    exact ⟨A0, n0, c0, rows, Lx, rfl, hown, hrows, hrl, hn0, hrl2⟩
   obtain ⟨mm, A', c', ev, hLf, hle, hsl, -⟩ := OwnS.freezeRows (size := 9) (l := looksL rs ls) (L2 := [_, _]) (by omega) hown (Ev.Loc.back (L1 := [_, _]) hL) hrows (by omega) hrl2
   cases ev
   replace hsl : Sl mm 9 (RepRe mm) (.slice A0 rows.length c0) (looksL rs ls) := hsl.le (Mem.Le.refl mm) fun cs x _ hx => hx.le hle
   have hrm := (h.le hm1).le hle
   have hix := Index_fn mm _ _ _ _ hsl hrm
   refine goq ?_;try(clear hL;intro w hL)
   refine CallReq.lend hix hLf.sub hL ?_
   clear hL hLf
   intro w hL
   conv => whnf
   repeat ((first | refine SReq.mk (hL.sublist (.cons_cons _ (.cons_cons _ (List.nil_sublist _)))) ?_ | (refine goq1 ?_;try(clear hL;intro w hL))); conv => whnf)
   have hlike : ∀ x ∈ looksL rs ls, likeR x (.mk kd s0 s1 s2 s3 rs lo hi neg) = sameR 41 x (bareR (.mk kd s0 s1 s2 s3 rs lo hi neg)) := by
    intro x hx
    unfold likeR
    rw [decide_eq_true (hdl x hx), decide_eq_true (by rw [deep_bare]; exact hd), Bool.true_and, Bool.true_and]
   have hany : 0 ≤ idxR (fun x => likeR x (.mk kd s0 s1 s2 s3 rs lo hi neg)) (looksL rs ls) ↔ (looksL rs ls).any (fun x => sameR 41 x (bareR (.mk kd s0 s1 s2 s3 rs lo hi neg))) = true := by
    rw [idxR_neg, List.any_eq_true, List.any_eq_true]
    exact exists_congr fun x => and_congr_right fun hx => by rw [hlike x hx]
   refine BrReq.dec (fun kn => ?_) (fun kn => ?_)
   rotate_left
   ·refine goq ?_;try(clear hL;intro w hL)
    refine RetReq.mk hL.drop ⟨rfl, ?_⟩
    rw [hfin fun h => h.2 (hany.1 (by omega))]
    exact ⟨A0, _, c0, rows, Lx, rfl, hown, hrows, hrl, hn0, hrl2⟩
   have hnew : looksR (.mk kd s0 s1 s2 s3 rs lo hi neg) ls = looksL rs ls ++ [bareR (.mk kd s0 s1 s2 s3 rs lo hi neg)] := by
    simp only [looksR]
    rw [if_neg (by omega), if_neg (fun h => absurd (hany.2 h) (by omega))]
   have hbr := bare_rep (h.le hm1)
   have hsb := small_bare hsm
   have hdb : deepR 40 (bareR (.mk kd s0 s1 s2 s3 rs lo hi neg)) ≤ 40 := by rw [deep_bare]; exact hd
   obtain ⟨zr, hzr⟩ : ∃ zr, zr = reC 0 0 0 0 0 (.slice none 0 0) 0 0 false := ⟨_, rfl⟩
   have hz9 : zr.length = 9 := by rw [hzr]; rfl
   have fin : ∀ (m3 : Mem) (row : List Value) (g6 n6 cap : Nat) (cur : List Value), Mem.Le m1 m3 → RepRe m3 row (bareR (.mk kd s0 s1 s2 s3 rs lo hi neg)) → n6 = rows.length + 1 → n6 ≤ cap → cap ≤ maxLen → cur.length = cap * 9 → cur.take (n6 * 9) = rows.flatten ++ zr →
     PlanOwn m3 bp (looksR (.mk kd s0 s1 s2 s3 rs lo hi neg) ls) [(bp, .cells (toArr [.slice (some ⟨g6, 0, none⟩) n6 cap]) 44 (0, 0)), (g6, .cells (toArr (spliceL cur (rows.length * 9) row)) 52 (0, 0))] := by
    intro m3 row g6 n6 cap cur hm3 hrow hn6 q1 q2 q3 q4
    have ef : rows.flatten ++ zr = (rows ++ [zr]).flatten := by rw [List.flatten_append, List.flatten_cons, List.flatten_nil, List.append_nil]
    rw [ef] at q4
    have hset : (rows ++ [zr]).set rows.length row = rows ++ [row] := by rw [List.set_append_right _ _ (Nat.le_refl _), Nat.sub_self]; rfl
    have ho := owns_row (te := 52) (g := g6) (row := row) rows.length q1 q2 q3 q4 (by
     intro r hr
     rcases List.mem_append.1 hr with hr | hr
     ·exact hrows r hr
     ·rw [List.mem_singleton] at hr; subst hr; exact hz9) (by rw [List.length_append, List.length_singleton]; omega) hrow.len (by rw [List.length_append, List.length_singleton]; exact hn6)
    rw [hset] at ho
    refine ⟨some ⟨g6, 0, none⟩, n6, cap, rows ++ [row], _, rfl, ho, ?_, by rw [hnew, List.length_append, List.length_append, hrl]; rfl, by rw [hnew, List.length_append, hn6, ← hrl]; rfl, ?_⟩
    ·intro r hr
     rcases List.mem_append.1 hr with hr | hr
     ·exact hrows r hr
     ·rw [List.mem_singleton] at hr; subst hr; exact hrow.len
    ·intro i x hx
     rw [hnew] at hx
     by_cases hi : i < rows.length
     ·rw [List.getElem?_append_left (by omega)] at hx
      obtain ⟨cs, e1, e2⟩ := hrl2 i x hx
      exact ⟨cs, by rw [List.getElem?_append_left hi]; exact e1, e2.le hm3⟩
     ·rw [List.getElem?_append_right (by omega)] at hx
      have hi0 : i - (looksL rs ls).length = 0 := by have := (List.getElem?_eq_some_iff.1 hx).1; simp at this; omega
      rw [hi0] at hx
      simp only [List.getElem?_cons_zero, Option.some.injEq] at hx
      subst hx
      refine ⟨row, ?_, hrow⟩
      rw [List.getElem?_append_right (by omega), show i - rows.length = 0 by omega]; rfl
   have hnodup := hrl
   refine go ?_;try(clear hL;intro w hL)
   refine DrawReq.plan hX (.fst 0 (.fst 1 (.fst 2 (.fst 4 (.alt 3 (.fst 7 (.alt 5 (.alt 6 (.alt 8 (.alt 9 (.fst 10 (.fst 12 (.fst 13 (.alt 11 (.alt 14 (.done) (.stop)) (.alt 14 (.alt 11 (.done) (.stop)) (.stop)))))) (.stop)) (.stop)) (.alt 8 (.alt 6 (.alt 9 (.fst 10 (.fst 12 (.fst 13 (.alt 11 (.alt 14 (.done) (.stop)) (.alt 14 (.alt 11 (.done) (.stop)) (.stop)))))) (.stop)) (.stop)) (.stop))) (.alt 8 (.alt 5 (.alt 6 (.alt 9 (.fst 10 (.fst 12 (.fst 13 (.alt 11 (.alt 14 (.done) (.stop)) (.alt 14 (.alt 11 (.done) (.stop)) (.stop)))))) (.stop)) (.stop)) (.stop)) (.stop)))) (.alt 5 (.alt 3 (.fst 7 (.alt 6 (.alt 8 (.alt 9 (.fst 10 (.fst 12 (.fst 13 (.alt 11 (.alt 14 (.done) (.stop)) (.alt 14 (.alt 11 (.done) (.stop)) (.stop)))))) (.stop)) (.stop)) (.alt 8 (.alt 6 (.alt 9 (.fst 10 (.fst 12 (.fst 13 (.alt 11 (.alt 14 (.done) (.stop)) (.alt 14 (.alt 11 (.done) (.stop)) (.stop)))))) (.stop)) (.stop)) (.stop)))) (.alt 6 (.alt 3 (.fst 7 (.alt 8 (.alt 9 (.fst 10 (.fst 12 (.fst 13 (.alt 11 (.alt 14 (.done) (.stop)) (.alt 14 (.alt 11 (.done) (.stop)) (.stop)))))) (.stop)) (.stop))) (.alt 8 (.alt 3 (.fst 7 (.alt 9 (.fst 10 (.fst 12 (.fst 13 (.alt 11 (.alt 14 (.done) (.stop)) (.alt 14 (.alt 11 (.done) (.stop)) (.stop)))))) (.stop))) (.stop)) (.stop))) (.alt 8 (.alt 3 (.fst 7 (.alt 6 (.alt 9 (.fst 10 (.fst 12 (.fst 13 (.alt 11 (.alt 14 (.done) (.stop)) (.alt 14 (.alt 11 (.done) (.stop)) (.stop)))))) (.stop)) (.stop))) (.alt 6 (.alt 3 (.fst 7 (.alt 9 (.fst 10 (.fst 12 (.fst 13 (.alt 11 (.alt 14 (.done) (.stop)) (.alt 14 (.alt 11 (.done) (.stop)) (.stop)))))) (.stop))) (.stop)) (.stop))) (.stop)))) (.alt 8 (.alt 3 (.fst 7 (.alt 5 (.alt 6 (.alt 9 (.fst 10 (.fst 12 (.fst 13 (.alt 11 (.alt 14 (.done) (.stop)) (.alt 14 (.alt 11 (.done) (.stop)) (.stop)))))) (.stop)) (.stop)) (.stop))) (.alt 5 (.alt 3 (.fst 7 (.alt 6 (.alt 9 (.fst 10 (.fst 12 (.fst 13 (.alt 11 (.alt 14 (.done) (.stop)) (.alt 14 (.alt 11 (.done) (.stop)) (.stop)))))) (.stop)) (.stop))) (.alt 6 (.alt 3 (.fst 7 (.alt 9 (.fst 10 (.fst 12 (.fst 13 (.alt 11 (.alt 14 (.done) (.stop)) (.alt 14 (.alt 11 (.done) (.stop)) (.stop)))))) (.stop))) (.stop)) (.stop))) (.stop))) (.stop)))))))) [(b3, .cells (toArr (reC kd s0 s1 s2 s3 (.slice A n c) lo hi neg)) 52 (0, 0))] (by kernel_rfl) (by kernel_rfl) hL (fun h => h.one 0 rfl) ?_
   clear hL
   intro w hL
   conv => whnf
   repeat' (first
    | ((first | refine BrReq.tt ?_ | refine BrReq.ff ?_ | refine QLdReq.ownA hX rfl rfl 0 rfl rfl ?_ | refine LdReq.own1 hX rfl rfl 1 hL rfl rfl ?_ | refine LdReq.own1 hX rfl rfl 2 hL rfl rfl ?_ | refine AltReq.one ?_ | refine SReq.mk (hL.one 0 rfl) ?_ | refine SReq.mk (hL.one 1 rfl) ?_ | refine SReq.mk ((hL.one 0 rfl).weaken hm3 hm1) ?_ | refine SReq.mk ((hL.one 1 rfl).weaken hm3 hm1) ?_); conv => whnf)
    | (refine NewReq.mk hL ?_; clear hL; intro b36 w hL; conv => whnf)
    | (refine CallReq.val (bare_fn _ kd s0 s1 s2 s3 lo hi neg A n c) hL ?_; clear hL; intro w hL; conv => whnf)
    | (refine CallReq.pure (Clone_fn m1 _ _ hbr hsb hdb) hL ?_; clear hL; rintro v m3 w hL hm3 ⟨csn, rfl, hrn⟩; obtain ⟨kk, x0, x1, x2, x3, A3, n3, c3, lo3, hi3, neg3, rfl⟩ := hrn.form; conv => whnf)
    | (refine alt2 ?_ ?_ <;> (conv => whnf)))
   all_goals (
    have hL : Ev.Loc m S0 w0 m3 ([(b36, .cells (toArr (reC 0 0 0 0 0 (.slice none 0 0) 0 0 false)) 52 (0, 0)), (b3, .cells (toArr (reC kd s0 s1 s2 s3 (.slice A n c) lo hi neg)) 52 (0, 0)), (bp, .cells (toArr [.slice A0 rows.length c0]) 44 (0, 0))] ++ Lx) w := hL
    rw [← hzr] at hL
    refine RunReq.append hX 42 52 rfl rfl rfl rfl rfl hown hL.back (k := 1) (news := zr) (by rw [hz9]; rfl) (hL.src 0 rfl) (by rw [hzr]; simp [reC, Value.oneCell']) (by rw [flat_len rows hrows, hz9]; omega) rfl ?_
    clear hL
    intro A6 n6 c6 L6 w hn6 ho6 hL
    replace hL := hL.back
    rw [List.length_append, flat_len rows hrows, hz9] at hn6
    have hn6 : rows.length * 9 + 9 = n6 * 9 := hn6
    have hn6' : n6 = rows.length + 1 := by omega
    obtain ⟨n', h1, h2⟩ := ho6
    rcases h2 with ⟨e, _, _⟩ | ⟨g6, cap, cur, e, rfl, q1, q2, q3, q4⟩
    ·injection e with e1 e2 e3; omega
    injection e with e1 e2 e3
    subst e1 e2 e3
    have q3 : cur.length = c6 * 9 := q3
    have q4 : cur.take (n6 * 9) = rows.flatten ++ zr := q4
    have hf := fin m3 _ g6 n6 c6 cur hm3 hrn hn6' q1 q2 q3 q4
    have hle9 : 0 + scale rows.length 9 + 9 ≤ cur.length := by rw [scale_eq, q3, Nat.zero_add]; have : (rows.length + 1) * 9 ≤ c6 * 9 := Nat.mul_le_mul_right _ (by omega); omega
    have esc : 0 + scale rows.length 9 = rows.length * 9 := by rw [scale_eq, Nat.zero_add]
    rw [← esc] at hf
    have hL : Ev.Loc m S0 w0 m3 [(b36, .cells (toArr zr) 52 (0, 0)), (b3, .cells (toArr (reC kd s0 s1 s2 s3 (.slice A n c) lo hi neg)) 52 (0, 0)), (bp, .cells (toArr [.slice A0 rows.length c0]) 44 (0, 0)), (g6, .cells (toArr cur) 52 (0, 0))] w := hL
    conv => whnf
    repeat ((first | refine SReq.mk ((hL.one 1 rfl).weaken hm3 hm1) ?_ | refine Idx2Req.mk rows.length _ rfl (by omega) rfl ?_ | (refine goq1 ?_;try(clear hL;intro w hL))); conv => whnf)
    refine alt2 ?_ ?_
    ·conv => whnf
     repeat ((first | (refine StReq.ownAt hX rfl 3 hL rfl rfl hle9 rfl ?_; clear hL; intro w hL) | refine SReq.mk ((hL.one 1 rfl).weaken hm3 hm1) ?_ | (refine goq1 ?_;try(clear hL;intro w hL))); conv => whnf)
     exact RetReq.mk hL.drop.drop ⟨rfl, hf⟩
    ·conv => whnf
     repeat ((first | (refine StReq.ownAt hX rfl 3 hL rfl rfl hle9 rfl ?_; clear hL; intro w hL) | refine SReq.mk ((hL.one 1 rfl).weaken hm3 hm1) ?_ | (refine goq1 ?_;try(clear hL;intro w hL))); conv => whnf)
     exact RetReq.mk hL.drop.drop ⟨rfl, hf⟩)
end Go.Proofs.YtaooenndoopgdaaGreatDoor.looks
namespace Go.Proofs.YtaooenndoopgdaaGreatDoor.looks
open Go Go.Ev Go.Proofs Go.Proofs.YtaooenndoopgdaaGreatDoor.tree
def makeR (l : List Re) : Int × List Re := if l.any (fun r => !formedR r) = true then (1, []) else if 4 < (looksL l []).length then (10, []) else (0, looksL l [])
theorem make1_fn (m : Mem) (p : Re) (cs : List Value) (h : RepRe m cs p) : FnV Tryz.prog 65 ([.agg (toArr cs)] ++ []) m (.bool (!formedR p)) := by
 obtain ⟨k1, u0, u1, u2, u3, A1, n1, c1, lo1, hi1, neg1, rfl⟩ := h.form
 refine Fn.enter (N := 6) hX Tryz.func65 rfl rfl (by show _ ≤ _; simp) (fun w0 hL => ?_)
 conv => whnf
 refine NewReq.mk hL ?_
 clear hL
 intro b1 w hL
 conv => whnf
 refine go ?_;try(clear hL;intro w hL)
 refine CallReq.val (Formed_fn m p _ h) hL ?_
 clear hL
 intro w hL
 refine go ?_;try(clear hL;intro w hL)
 exact RetReq.bool hL.drop rfl
theorem formed_deep {r : Re} (h : formedR r = true) : deepR 40 r ≤ 40 := by
 unfold formedR at h
 simp only [Bool.and_eq_true, decide_eq_true_eq] at h
 exact h.1.1
set_option maxHeartbeats 1000000 in
theorem Make_fn (m : Mem) (v : Value) (l : List Re) (hs : Sl m 9 (RepRe m) v l) (hsm : ∀ r ∈ l, Small r) (hnb : nodesL l ≤ 1000000) :
  Fn0 Tryz.prog 40 [v] m fun m' u => ∃ A n c, u = .tuple (toArr [.agg (toArr [.slice A n c]), .int .i64 (makeR l).1]) ∧ Sl m' 9 (RepRe m') (.slice A n c) (makeR l).2 := by
 have hs' := hs
 obtain ⟨A, n, c, rfl, hn, hc, hm, -⟩ := hs
 have he := hs'.elem
 have hmx : maxLen = 9223372036854775807 := rfl
 refine Fn.enter (N := 25) hX Tryz.func40 rfl rfl (by show _ ≤ _; simp) (fun w0 hL => ?_)
 conv => whnf
 refine NewReq.mk hL ?_
 clear hL
 intro b2 w hL
 conv => whnf
 refine go ?_;try(clear hL;intro w hL)
 refine CallReq.val (containsMake_fn m _ l (fun r => !formedR r) hs' fun p _ cs h => make1_fn m p cs h) hL ?_
 clear hL
 intro w hL
 refine go ?_;try(clear hL;intro w hL)
 refine BrReq.bool (fun hu => ?_) (fun hu => ?_)
 ·have e : makeR l = (1, []) := by unfold makeR; rw [if_pos hu]
  refine go ?_;try(clear hL;intro w hL)
  exact RetReq.mk hL.drop ⟨rfl, none, 0, 0, by rw [e]; rfl, by rw [e]; exact ⟨none, 0, 0, rfl, rfl, Nat.le_refl 0, Nat.zero_le _, fun i x hx => by simp at hx⟩⟩
 have hform : ∀ r ∈ l, formedR r = true := by
  intro r hr
  have := List.any_eq_false.1 hu r hr
  simpa using this
 refine go ?_;try(clear hL;intro w hL)
 refine NewReq.mk hL ?_
 clear hL
 intro b4 w hL
 conv => whnf
 refine go ?_;try(clear hL;intro w hL)
 refine LoopReq.inv hX (fun j : Nat => [(12, .int .i64 j)]) [2, 4, 10, 11]
  (fun j w => j ≤ n ∧ ∃ m1 L1, Mem.Le m m1 ∧ PlanOwn m1 b4 (looksL (l.take j) []) L1 ∧ Ev.Loc m [] w0 m1 ((b2, .cells (toArr [.slice none 0 0]) 44 (0, 0)) :: L1) w) (fun j => n - j) 0
  ⟨by omega, m, _, Mem.Le.refl m, ⟨none, 0, 0, [], [], rfl, OwnS.nil _ _, fun r hr => by simp at hr, rfl, rfl, fun i x hx => by simp [looksL] at hx⟩, hL.perm (List.Perm.swap _ _ _)⟩ ⟨rfl, trivial⟩ ?_
 clear hL
 rintro j w f ⟨hj, m1, L1, hm1, hp, hL⟩
 refine go ?_;try(clear hL;intro w hL)
 refine BrReq.dec (fun hlt => ?_) (fun hlt => ?_)
 ·have hlt' : j < l.length := by omega
  obtain ⟨a, cs', rfl, hl9, hcells, hrep⟩ := he j _ (List.getElem?_eq_getElem hlt')
  obtain ⟨k1, u0, u1, u2, u3, A1, n1, c1, lo1, hi1, neg1, rfl⟩ := hrep.form
  have hmem := List.getElem_mem hlt'
  have hln := looksL_len (l.take j) []
  have hnt := nodesL_take l j hlt'
  have hnl := nodesL_take_le l (j + 1)
  have htk := looksL_take l j hlt' []
  have hdj := looksL_deep (l.take j) [] (fun p hp => formed_deep (hform p (List.mem_of_mem_take hp))) (fun x hx => by simp at hx)
  simp only [List.length_nil, Nat.zero_add] at hln
  conv => whnf
  repeat ((first | refine Idx2Req.mk j a rfl (by omega) rfl ?_ | refine LdReq.agg hX rfl rfl hL hl9 (hcells.le hm1) ?_ | (refine go1 ?_;try(clear hL;intro w hL))); conv => whnf)
  refine NewReq.mk hL ?_
  clear hL
  intro b6 w hL
  conv => whnf
  refine go ?_;try(clear hL;intro w hL)
  refine CallReq.mk (L1 := L1) (gather_fn _ m1 _ b4 _ L1 (hrep.le hm1) (hsm _ hmem) (formed_deep (hform _ hmem)) hdj (by omega) hp) (Ev.Loc.back (L1 := [_, _]) hL) ?_
  clear hL
  rintro v m2 L2 w hL hm2 ⟨rfl, hp2⟩
  rw [← htk] at hp2
  replace hL := hL.back
  have hL : Ev.Loc m [] w0 m2 (_ :: _ :: L2) w := hL
  refine go ?_;try(clear hL;intro w hL)
  exact rnd (j + 1) ⟨by omega, m2, L2, hm1.trans hm2, hp2, hL.drop⟩
 have hjn : j = l.length := by omega
 rw [hjn, List.take_length] at hp
 obtain ⟨A0, n0, c0, rows, Lx, rfl, hown, hrows, hrl, hn0, hrl2⟩ := hp
 refine go ?_;try(clear hL;intro w hL)
 refine BrReq.dec (fun h4 => ?_) (fun h4 => ?_)
 ·have e : makeR l = (10, []) := by unfold makeR; rw [if_neg (by rw [hu]; simp), if_pos (by omega)]
  refine go ?_;try(clear hL;intro w hL)
  exact RetReq.mk (hL.sublist (List.nil_sublist _)) ⟨rfl, none, 0, 0, by rw [e]; rfl, by rw [e]; exact ⟨none, 0, 0, rfl, rfl, Nat.le_refl 0, Nat.zero_le _, fun i x hx => by simp at hx⟩⟩
 ·have e : makeR l = (0, looksL l []) := by unfold makeR; rw [if_neg (by rw [hu]; simp), if_neg (by omega)]
  refine go ?_;try(clear hL;intro w hL)
  have hL : Ev.Loc m [] w0 m1 (_ :: _ :: Lx) w := hL
  obtain ⟨m2, A', c', ev, hL, hle, hsl, -⟩ := OwnS.freezeRows (size := 9) (l := looksL l []) (L2 := [_, _]) (by omega) hown (Ev.Loc.back (L1 := [_, _]) hL) hrows (by omega) hrl2
  cases ev
  exact RetReq.mk hL.drop.drop ⟨rfl, A0, _, c0, by rw [e]; rfl, by rw [e]; exact hsl.le (Mem.Le.refl m2) fun cs x _ hx => hx.le hle⟩
end Go.Proofs.YtaooenndoopgdaaGreatDoor.looks
namespace Go.Proofs.YtaooenndoopgdaaGreatDoor.lz
open Go Go.Ev Go.Proofs Go.Proofs.YtaooenndoopgdaaGreatDoor.tree
set_option maxHeartbeats 1000000 in
theorem patterns_fn (m : Mem) (cs : List Value) (s : Sp) (hs : spV m cs s) (h40 : s.rules.length ≤ 40) : Fn0 Tryz.prog 41 [.agg (toArr cs)] m fun m' u => ∃ A n c, u = .slice A n c ∧ Sl m' 9 (RepRe m') u (s.rules.map fun x => x.re) := by
 obtain ⟨A, n, c, A', n', c', rfl, h1, h2⟩ := hs
 obtain ⟨hn', hc', hm'⟩ := h2.lens
 have hmx : maxLen = 9223372036854775807 := rfl
 refine Fn.enter (N := 20) hX Tryz.func41 rfl rfl (by show _ ≤ _; simp) (fun w0 hL => ?_)
 conv => whnf
 refine NewReq.mk hL ?_
 clear hL
 intro b1 w hL
 conv => whnf
 refine go ?_;try(clear hL;intro w hL)
 replace hL := hL.drop
 replace hL : Ev.Loc m [] w0 m [] w := hL
 refine LoopReq.inv hX (fun s : Nat × Option Addr × Nat × Nat => [(3, .slice s.2.1 s.2.2.1 s.2.2.2), (9, .int .i64 s.1)]) [7, 8]
  (fun q w => q.1 ≤ n' ∧ ∃ rows Lo, (OwnS 52 9 (.slice q.2.1 q.2.2.1 q.2.2.2) rows.flatten Lo ∧ (∀ r ∈ rows, r.length = 9) ∧ rows.length = q.1 ∧ ∀ (i : Nat) (x : Rl), (s.rules.take q.1)[i]? = some x → ∃ cs, rows[i]? = some cs ∧ RepRe m cs x.re) ∧
   Ev.Loc m [] w0 m (Lo ++ []) w) (fun q => n' - q.1) (0, none, 0, 0)
  ⟨by simp, [], [], ⟨OwnS.nil _ _, by simp, rfl, by simp⟩, hL⟩ ⟨rfl, rfl, trivial⟩ ?_
 clear hL
 rintro ⟨j, A2, n2, c2⟩ w f ⟨hj, rows, Lo, ⟨ho, hr9, hrl, hrep⟩, hL⟩
 dsimp only at hj ho hrl hrep
 refine go ?_;try(clear hL;intro w hL)
 refine BrReq.dec (fun hlt => ?_) (fun hlt => ?_)
 ·have hjl : j < s.rules.length := by simp only at hlt; omega
  obtain ⟨a, cs', rfl, hl12, hcells, hru⟩ := h2.elem j _ (List.getElem?_eq_getElem hjl)
  have htk := List.take_succ_eq_append_getElem hjl
  generalize s.rules[j] = x at hru htk
  obtain ⟨A3, n3, c3, k, s0, s1, s2, s3, A4, n4, c4, lo, hi, neg, rfl, -, hre⟩ := hru
  conv => whnf
  repeat ((first | (refine Idx2Req.mk j a rfl (by simp only at hlt ⊢; omega) rfl ?_) | refine LdReq.agg hX rfl rfl hL hl12 hcells ?_ | (refine go1 ?_;try(clear hL;intro w hL))); conv => whnf)
  refine NewReq.mk hL ?_
  clear hL
  intro b5 w hL
  conv => whnf
  refine go ?_;try(clear hL;intro w hL)
  refine NewReq.mk hL ?_
  clear hL
  intro b6 w hL
  conv => whnf
  replace hL : Ev.Loc m [] w0 m ((b6, .cells (toArr (reC k s0 s1 s2 s3 (.slice A4 n4 c4) lo hi neg)) 52 (0, 0)) :: (Lo ++ [])) w := hL.sublist (.cons_cons _ (.cons _ (List.Sublist.refl _)))
  have hfl := flat_len rows hr9
  refine RunReq.push hX 42 52 rfl rfl rfl rfl rfl ho (L2 := []) hL rfl rfl (by rw [hfl]; show _ + 9 ≤ _; omega) rfl ?_
  clear hL
  intro A5 n5 c5 Lo5 w hn5 ho5 hL
  rw [show rows.flatten ++ reC k s0 s1 s2 s3 (.slice A4 n4 c4) lo hi neg = (rows ++ [reC k s0 s1 s2 s3 (.slice A4 n4 c4) lo hi neg]).flatten by simp] at ho5
  have hr95 : ∀ r ∈ rows ++ [reC k s0 s1 s2 s3 (.slice A4 n4 c4) lo hi neg], r.length = 9 := all_snoc rfl hr9 rfl
  have hrl5 : (rows ++ [reC k s0 s1 s2 s3 (.slice A4 n4 c4) lo hi neg]).length = j + 1 := by rw [List.length_append, hrl]; rfl
  have hrep5 : ∀ (i : Nat) (y : Rl), (s.rules.take (j + 1))[i]? = some y → ∃ cs, (rows ++ [reC k s0 s1 s2 s3 (.slice A4 n4 c4) lo hi neg])[i]? = some cs ∧ RepRe m cs y.re := fun i y hy => by
   rw [htk] at hy
   by_cases hi : i < (s.rules.take j).length
   ·rw [List.getElem?_append_left hi] at hy
    obtain ⟨cs, e1, e2⟩ := hrep i y hy
    exact ⟨cs, by rw [List.getElem?_append_left (by rw [List.length_take] at hi; omega)]; exact e1, e2⟩
   ·have hil := (List.getElem?_eq_some_iff.1 hy).1
    rw [List.length_append, List.length_take] at hil
    rw [List.length_take] at hi
    simp only [List.length_cons, List.length_nil] at hil
    have e : i = j := by omega
    subst e
    rw [List.getElem?_append_right (by rw [List.length_take]; omega), List.length_take, show i - min i s.rules.length = 0 by omega] at hy
    cases hy
    exact ⟨_, by rw [List.getElem?_append_right (by omega), show i - rows.length = 0 by omega]; rfl, hre⟩
  generalize rows ++ [reC k s0 s1 s2 s3 (.slice A4 n4 c4) lo hi neg] = rows5 at ho5 hr95 hrl5 hrep5
  refine go ?_;try(clear hL;intro w hL)
  exact rnd (j + 1, A5, n5, c5) ⟨by simp only at hlt ⊢; omega, rows5, Lo5, ⟨ho5, hr95, hrl5, hrep5⟩, hL⟩
 ·have hjn : j = s.rules.length := by simp only at hlt; omega
  rw [hjn, List.take_length] at hrep
  have hmr : ∀ (i : Nat) (y : Re), (s.rules.map fun x => x.re)[i]? = some y → ∃ cs, rows[i]? = some cs ∧ RepRe m cs y := fun i y hy => by
   rw [List.getElem?_map] at hy
   cases hx : s.rules[i]? with
   | none => rw [hx] at hy; cases hy
   | some x => rw [hx] at hy; cases hy; exact hrep i x hx
  obtain ⟨m2, A5, c5, e5, hL, hm2, hsl, -⟩ := OwnS.freezeRows (R := RepRe m) (L2 := []) (by omega) ho hL hr9 (by rw [List.length_map]; omega) hmr
  cases e5
  refine go ?_;try(clear hL;intro w hL)
  exact RetReq.mk hL ⟨rfl, _, _, _, rfl, hsl.le (Mem.Le.refl m2) fun cs x _ hx => hx.le hm2⟩
end Go.Proofs.YtaooenndoopgdaaGreatDoor.lz
