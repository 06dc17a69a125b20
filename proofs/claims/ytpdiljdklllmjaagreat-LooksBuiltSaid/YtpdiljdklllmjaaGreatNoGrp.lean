/- norm: Bytes, Look, kind; the members of a group, all sets of bytes as one. Conditions: none. -/
import Derived.Test.YtpdiljdklllmjaaGreatNoMem
import Derived.Test.YtpdiljdklllmjaaGreatNoSet

namespace Go.Proofs.YtpdiljdklllmjaaGreat.ar
open Go Go.Ev Go.Proofs

def pN (ns : List Nd) (x : Nd) : List Nd × Int := ((putN ns x).1, putI ns x)
def setOf (x : Nd) : S4 := ⟨x.s0, x.s1, x.s2, x.s3⟩
def ndB (s : S4) : Nd := ⟨2, s.x0, s.x1, s.x2, s.x3, 0, 0, false⟩
def noneN (ns : List Nd) : List Nd × Int := pN ns (ndK 0)
def emptyN (ns : List Nd) : List Nd × Int := pN ns (ndK 1)
def allN (ns : List Nd) : List Nd × Int := pN (noneN ns).1 (allX ns)
def bytesN (ns : List Nd) (s : S4) : List Nd × Int := if s = z4 then noneN ns else pN ns (ndB s)
theorem inS_of {x : Nd} (h : InN x) : InS (setOf x) := ⟨h.s0, h.s1, h.s2, h.s3⟩
theorem inN_B {s : S4} (h : InS s) : InN (ndB s) := ⟨by unfold i64 ndB; simp, h.h0, h.h1, h.h2, h.h3, by simp [i64, ndB], by simp [i64, ndB]⟩
theorem eq_st (s t : S4) : eqB X 9 24 (stC s) (stC t) = some (decide (s = t)) := by
  obtain ⟨s0, s1, s2, s3⟩ := s
  obtain ⟨t0, t1, t2, t3⟩ := t
  conv => lhs; whnf
  refine congrArg some ?_
  rw [Bool.eq_iff_iff]
  simp only [Bool.and_eq_true, decide_eq_true_eq, Bool.and_true, beq_iff_eq, S4.mk.injEq]
theorem okA_p {ns : List Nd} (h : OkA ns) {x : Nd} (hx : InN x) : OkA (pN ns x).1 := okA_put h hx
theorem okA_none {ns : List Nd} (h : OkA ns) : OkA (noneN ns).1 := okA_put h (inN_k (by omega))
theorem okA_empty {ns : List Nd} (h : OkA ns) : OkA (emptyN ns).1 := okA_put h (inN_k (by omega))
theorem inN_all {ns : List Nd} (h : OkA ns) : InN (allX ns) := inN_a (by omega) (putI_i64 ns _ h.len)
theorem okA_all {ns : List Nd} (h : OkA ns) : OkA (allN ns).1 := okA_put (okA_none h) (inN_all h)
theorem okA_bytes {ns : List Nd} (h : OkA ns) {s : S4} (hs : InS s) : OkA (bytesN ns s).1 := by
  unfold bytesN
  split
  · exact okA_none h
  · exact okA_p h (inN_B hs)

theorem Bytes_fn (m : Mem) (ab : Nat) (ns : List Nd) (L : Own) (hA : Ar ab ns L) (hO : OkA ns) (s : S4) (hs : InS s) :
    Ev.Fn Tryz.prog 52 [.pointer (some ⟨ab, 0, none⟩), .agg (toArr (stC s))] m L (PutQ ab (bytesN ns s).1 (bytesN ns s).2 m) := by
  refine Fn.enter (N := 14) hX Tryz.func52 rfl rfl (by show _ ≤ _; simp) (fun w0 hL => ?_)
  conv => whnf
  generalize keys L = S0 at hL ⊢
  refine NewReq.mk hL ?_
  clear hL
  intro b3 w hL
  conv => whnf
  replace hL : Ev.Loc m S0 w0 m ((b3, .cells (toArr (stC s)) 24 (0, 0)) :: L) w := hL
  conv => whnf
  repeat ((first | refine UGenReq.eqA hX (xs := stC s) (ys := stC z4) rfl rfl rfl Tryz.eqGuardType24 rfl rfl (eq_st _ _) ?_ | refine zT ?_ | refine zF ?_ | refine zL hX hL ?_ | refine zB hX hL ?_ | (refine zS hX hL ?_; clear hL; intro w hL) | refine zI ?_ | refine zG hX ?_ | refine zO ?_); conv => whnf)
  unfold bytesN
  by_cases hz : s = z4
  · rw [decide_eq_true hz, if_pos hz]
    conv => whnf
    repeat ((first | refine zT ?_ | refine zF ?_ | refine zL hX hL ?_ | refine zB hX hL ?_ | (refine zS hX hL ?_; clear hL; intro w hL) | refine zI ?_ | refine zG hX ?_ | refine zO ?_); conv => whnf)
    refine CallReq.mk (L1 := L) (L2 := [_]) (None_fn m ab ns L hA hO) (hL.back (L1 := [_])) ?_
    clear hL
    rintro u mx L2 w hL - ⟨hmx, rfl, hA2⟩
    rw [hmx] at hL
    clear hmx mx
    have hL := hL.back (L2 := [_])
    conv => whnf
    repeat ((first | refine zT ?_ | refine zF ?_ | refine zL hX hL ?_ | refine zB hX hL ?_ | (refine zS hX hL ?_; clear hL; intro w hL) | refine zI ?_ | refine zG hX ?_ | refine zO ?_); conv => whnf)
    exact RetReq.mk hL.drop ⟨rfl, rfl, hA2⟩
  · rw [decide_eq_false hz, if_neg hz]
    conv => whnf
    repeat ((first | refine zT ?_ | refine zF ?_ | refine zL hX hL ?_ | refine zB hX hL ?_ | (refine zS hX hL ?_; clear hL; intro w hL) | refine zI ?_ | refine zG hX ?_ | refine zO ?_); conv => whnf)
    refine CallReq.mk (L1 := L) (L2 := [_]) (put_fn m ab ns L hA hO (ndB s) (inN_B hs)) (hL.back (L1 := [_])) ?_
    clear hL
    rintro u mx L2 w hL - ⟨hmx, rfl, hA2⟩
    rw [hmx] at hL
    clear hmx mx
    have hL := hL.back (L2 := [_])
    conv => whnf
    repeat ((first | refine zT ?_ | refine zF ?_ | refine zL hX hL ?_ | refine zB hX hL ?_ | (refine zS hX hL ?_; clear hL; intro w hL) | refine zI ?_ | refine zG hX ?_ | refine zO ?_); conv => whnf)
    exact RetReq.mk hL.drop ⟨rfl, rfl, hA2⟩
theorem kind_fn (m : Mem) (ab : Nat) (ns : List Nd) (L : Own) (hA : Ar ab ns L) (id : Int) :
    FnL Tryz.prog 64 [.pointer (some ⟨ab, 0, none⟩), .int .i64 id] m L (.int .i64 (kindN ns id)) := by
  have hnode := Node_fn m ab ns L hA id
  unfold kindN
  generalize (nodeN ns id).1 = x at hnode ⊢
  generalize (nodeN ns id).2 = ok at hnode ⊢
  refine Fn.enter (N := 15) hX Tryz.func64 rfl rfl (by show _ ≤ _; simp) (fun w0 hL => ?_)
  conv => whnf
  generalize keys L = S0 at hL ⊢
  conv => whnf
  repeat ((first | refine zT ?_ | refine zF ?_ | refine zL hX hL ?_ | refine zB hX hL ?_ | (refine zS hX hL ?_; clear hL; intro w hL) | refine zI ?_ | refine zG hX ?_ | refine zO ?_); conv => whnf)
  refine CallReq.lo hnode hL ?_
  clear hL
  intro w hL
  conv => whnf
  repeat ((first | refine zT ?_ | refine zF ?_ | refine zL hX hL ?_ | refine zB hX hL ?_ | (refine zS hX hL ?_; clear hL; intro w hL) | refine zI ?_ | refine zG hX ?_ | refine zO ?_); conv => whnf)
  refine NewReq.mk hL ?_
  clear hL
  intro b w hL
  conv => whnf
  conv => whnf
  repeat ((first | refine zT ?_ | refine zF ?_ | refine zL hX hL ?_ | refine zB hX hL ?_ | (refine zS hX hL ?_; clear hL; intro w hL) | refine zI ?_ | refine zG hX ?_ | refine zO ?_); conv => whnf)
  exact RetReq.mk hL.drop ⟨rfl, rfl, rfl⟩

/-! ### The members of a group, all sets of bytes as one -/
def op4 : Bool → S4 → S4 → S4 | true => in4 | false => un4
theorem inS_op (g : Bool) {s t : S4} (h : InS s) (k : InS t) : InS (op4 g s t) := by cases g; exact inS_un h k; exact inS_in h k
def stepS (g : Bool) (ns : List Nd) (p : List Int × Option S4) (z : Int) : List Int × Option S4 :=
  if (nodeN ns z).1.k ≠ 2 then (p.1 ++ [z], p.2) else match p.2 with
  | none => (p.1, some (setOf (nodeN ns z).1))
  | some s => (p.1, some (op4 g s (setOf (nodeN ns z).1)))
def splitN (g : Bool) (ns : List Nd) (l : List Int) : List Int × Option S4 := l.foldl (stepS g ns) ([], none)
def gbytesN (g : Bool) (ns : List Nd) (l : List Int) : List Nd × List Int := match (splitN g ns l).2 with
  | none => (ns, (splitN g ns l).1)
  | some s => ((bytesN ns s).1, (splitN g ns l).1 ++ [(bytesN ns s).2])
theorem splitN_take (g : Bool) (ns : List Nd) {l : List Int} {j : Nat} (h : j < l.length) : splitN g ns (l.take (j + 1)) = stepS g ns (splitN g ns (l.take j)) l[j] := by
  rw [List.take_succ_eq_append_getElem h]; unfold splitN; rw [List.foldl_append]; rfl
theorem nodeN_in {ns : List Nd} (h : OkA ns) (z : Int) : InN (nodeN ns z).1 := by
  unfold nodeN
  split
  · rename_i hz
    have := List.getElem?_eq_getElem (l := ns) (i := z.toNat) (by omega)
    simp only [List.getD, this, Option.getD_some]
    exact h.inn _ (List.getElem_mem _)
  · exact inN_k (k := 0) (by omega)
theorem splitN_in (g : Bool) {ns : List Nd} (hO : OkA ns) (l : List Int) : ∀ s, (splitN g ns l).2 = some s → InS s := by
  unfold splitN
  suffices h : ∀ (p : List Int × Option S4), (∀ s, p.2 = some s → InS s) → ∀ s, (l.foldl (stepS g ns) p).2 = some s → InS s from h _ (fun s h => by cases h)
  induction l with
  | nil => intro p h; exact h
  | cons z l ih =>
    intro p h
    refine ih _ fun s hs => ?_
    have hz := inS_of (nodeN_in hO z)
    unfold stepS at hs
    split at hs
    · exact h s hs
    · split at hs
      · cases hs; exact hz
      · rename_i s0 e; cases hs; exact inS_op g (h s0 e) hz
theorem splitN_len (g : Bool) (ns : List Nd) (l : List Int) : ∀ j, (splitN g ns (l.take j)).1.length ≤ j
  | 0 => by simp [splitN]
  | j + 1 => by
    have ih := splitN_len g ns l j
    by_cases h : j < l.length
    · rw [splitN_take g ns h]
      unfold stepS
      split
      · simp; omega
      · split <;> (simp only; omega)
    · rw [List.take_of_length_le (by omega)] at ih ⊢; omega
theorem okA_gbytes {ns : List Nd} (h : OkA ns) (g : Bool) (l : List Int) : OkA (gbytesN g ns l).1 := by
  unfold gbytesN
  have := splitN_in g h l
  split
  · exact h
  · rename_i s e; exact okA_bytes h (this s e)

def grO : List Value := [.int .i64 4, .func (.func 50) #[] #[], .func (.func 65) #[] #[], .func (.func 66) #[] #[]]
def grA : List Value := [.int .i64 5, .func (.func 65) #[] #[], .func (.func 50) #[] #[], .func (.func 68) #[] #[]]
set_option maxHeartbeats 2000000 in
theorem gbytesO_fn (m : Mem) (ab : Nat) (ns : List Nd) (L : Own) (hA : Ar ab ns L) (hO : OkA ns) (v : Value) (l : List Int) (hv : SlI m .i64 v l) (hlb : l.length ≤ 1000000) :
    Ev.Fn Tryz.prog 72 [.agg (toArr grO), .pointer (some ⟨ab, 0, none⟩), v] m L
      fun m' L' u => m' = m ∧ ∃ La Lo, L' = Lo ++ La ∧ Ar ab (gbytesN false ns l).1 La ∧ OwnS 3 1 u (ints .i64 (gbytesN false ns l).2) Lo := by
  obtain ⟨A, n, c, rfl, hn, hc, hm, -⟩ := id hv
  have hcell := hv.cell.2
  have hmx : maxLen = 9223372036854775807 := rfl
  refine Fn.enter (N := 54) hX Tryz.func72 rfl rfl (by show _ ≤ _; simp) (fun w0 hL => ?_)
  conv => whnf
  generalize keys L = S0 at hL ⊢
  refine NewReq.mk hL ?_
  clear hL
  intro b3 w hL
  conv => whnf
  refine NewReq.mk hL ?_
  clear hL
  intro b8 w hL
  conv => whnf
  replace hL : Ev.Loc m S0 w0 m ((b8, .cells (toArr (stC z4)) 24 (0, 0)) :: (b3, .cells (toArr grO) 90 (0, 0)) :: L) w := hL
  conv => whnf
  repeat ((first | refine zT ?_ | refine zF ?_ | refine zL hX hL ?_ | refine zB hX hL ?_ | (refine zS hX hL ?_; clear hL; intro w hL) | refine zI ?_ | refine zG hX ?_ | refine zO ?_); conv => whnf)
  refine LoopReq.inv hX (fun s : Nat × Bool × Option Addr × Nat × Nat => [(7, .slice s.2.2.1 s.2.2.2.1 s.2.2.2.2), (9, .bool s.2.1), (16, .int .i64 s.1)]) [1, 3, 8, 14, 15]
    (fun s w => (s.1 ≤ n ∧ s.2.1 = (splitN false ns (l.take s.1)).2.isSome) ∧ ∃ Lo, OwnS 3 1 (.slice s.2.2.1 s.2.2.2.1 s.2.2.2.2) (ints .i64 (splitN false ns (l.take s.1)).1) Lo ∧ Ev.Loc m S0 w0 m ((b8, .cells (toArr (stC ((splitN false ns (l.take s.1)).2.getD z4))) 24 (0, 0)) :: (b3, .cells (toArr grO) 90 (0, 0)) :: (Lo ++ L)) w) (fun s => n - s.1) (0, false, none, 0, 0)
    ⟨⟨by simp, rfl⟩, [], OwnS.nil _ _, hL⟩ ⟨rfl, rfl, rfl, trivial⟩ ?_
  clear hL
  rintro ⟨j, sm, A1, n1, c1⟩ w f ⟨⟨hj, hsm⟩, Lo, ho, hL⟩
  simp only at hj hsm ho hL
  conv => whnf
  repeat ((first | refine zT ?_ | refine zF ?_ | refine zL hX hL ?_ | refine zB hX hL ?_ | (refine zS hX hL ?_; clear hL; intro w hL) | refine zI ?_ | refine zG hX ?_ | refine zO ?_); conv => whnf)
  refine BrReq.dec (fun hlt => ?_) (fun hlt => ?_)
  · have hlt' : j < l.length := by simp only at hlt; omega
    obtain ⟨a, ea, hc'⟩ := hcell j _ (List.getElem?_eq_getElem hlt')
    have hst := splitN_take false ns hlt'
    have hsl := splitN_len false ns l j
    have hsi := splitN_in false hO (l.take j)
    have hnode := Node_fn m ab ns L hA l[j]
    have hin := nodeN_in hO l[j]
    unfold stepS at hst
    generalize (nodeN ns l[j]).1 = x at hnode hst hin
    generalize (nodeN ns l[j]).2 = ok at hnode
    generalize l[j] = z at hnode hst hc'
    generalize splitN false ns (l.take j) = p at hsm ho hL hst hsl hsi
    obtain ⟨out, so⟩ := p
    simp only at hsm ho hL hst hsl hsi
    conv => whnf
    repeat ((first | (refine Idx2Req.mk j a rfl (by simp only at hlt ⊢; omega) ea ?_) | refine LdReq.one hX rfl rfl hL hc' ?_ | refine zT ?_ | refine zF ?_ | refine zL hX hL ?_ | refine zB hX hL ?_ | (refine zS hX hL ?_; clear hL; intro w hL) | refine zI ?_ | refine zG hX ?_ | refine zO ?_); conv => whnf)
    refine CallReq.li (L1 := L) hnode (Loc.back (L1 := (b8, .cells (toArr (stC (so.getD z4))) 24 (0, 0)) :: (b3, .cells (toArr grO) 90 (0, 0)) :: Lo) hL) ?_
    clear hL
    intro w hL
    have hL := Loc.back (L1 := L) hL
    conv => whnf
    repeat ((first | refine zT ?_ | refine zF ?_ | refine zL hX hL ?_ | refine zB hX hL ?_ | (refine zS hX hL ?_; clear hL; intro w hL) | refine zI ?_ | refine zG hX ?_ | refine zO ?_); conv => whnf)
    refine NewReq.mk hL ?_
    clear hL
    intro b12 w hL
    conv => whnf
    replace hL : Ev.Loc m S0 w0 m ((b12, .cells (toArr (ndC nd0)) 61 (0, 0)) :: (b8, .cells (toArr (stC (so.getD z4))) 24 (0, 0)) :: (b3, .cells (toArr grO) 90 (0, 0)) :: (Lo ++ L)) w := hL
    by_cases hk : x.k = 2
    rotate_left
    · rw [if_pos hk] at hst
      conv => whnf
      repeat ((first | refine BrReq.yes hk ?_ | refine zT ?_ | refine zF ?_ | refine zL hX hL ?_ | refine zB hX hL ?_ | (refine zS hX hL ?_; clear hL; intro w hL) | refine zI ?_ | refine zG hX ?_ | refine zO ?_); conv => whnf)
      refine NewReq.mk hL ?_
      clear hL
      intro g2 w hL
      conv => whnf
      replace hL : Ev.Loc m S0 w0 m ((g2, .cells (toArr [.int .i64 z]) 3 (0, 0)) :: (b12, .cells (toArr (ndC x)) 61 (0, 0)) :: (b8, .cells (toArr (stC (so.getD z4))) 24 (0, 0)) :: (b3, .cells (toArr grO) 90 (0, 0)) :: (Lo ++ L)) w := hL
      conv => whnf
      repeat ((first | refine zT ?_ | refine zF ?_ | refine zL hX hL ?_ | refine zB hX hL ?_ | (refine zS hX hL ?_; clear hL; intro w hL) | refine zI ?_ | refine zG hX ?_ | refine zO ?_); conv => whnf)
      refine RunReq.push hX 79 3 rfl rfl rfl rfl rfl ho (L2 := L ++ [_, _, _]) (by rw [← List.append_assoc]; exact hL.perm (List.Perm.cons _ (List.perm_append_comm (l₁ := [_, _, _]) (l₂ := Lo ++ L)))) rfl rfl (by simp [ints]; omega) rfl ?_
      clear hL
      intro A2 n2 c2 L2 w hn2 ho2 hL
      rw [← List.append_assoc] at hL
      have hL := Loc.back (L1 := L2 ++ L) (L2 := [_, _, _]) hL
      rw [← show ints .i64 (out ++ [z]) = ints .i64 out ++ [Value.int .i64 z] from ints_append ..] at ho2
      conv => whnf
      repeat ((first | refine zT ?_ | refine zF ?_ | refine zL hX hL ?_ | refine zB hX hL ?_ | (refine zS hX hL ?_; clear hL; intro w hL) | refine zI ?_ | refine zG hX ?_ | refine zO ?_); conv => whnf)
      refine ⟨(j + 1, sm, A2, n2, c2), ⟨⟨by simp only at hlt ⊢; omega, by simp only [hst]; exact hsm⟩, L2, by simp only [hst]; exact ho2, by simp only [hst]; exact hL.drop⟩, by first | omega | (simp only; omega), ?_, ?_⟩
      · repeat (first | exact trivial | (refine And.intro (by (conv => lhs; whnf) <;> (conv => rhs; whnf) <;> (first | rfl)) ?_))
      · repeat (first | exact trivial | (refine And.intro (by (conv => lhs; whnf) <;> (conv => rhs; whnf) <;> (first | rfl)) ?_))
    · rw [if_neg (by simp [hk])] at hst
      cases so with
      | none =>
        simp only at hst
        obtain rfl : sm = false := hsm
        conv => whnf
        repeat ((first | refine BrReq.no (fun h => h hk) ?_ | refine zT ?_ | refine zF ?_ | refine zL hX hL ?_ | refine zB hX hL ?_ | (refine zS hX hL ?_; clear hL; intro w hL) | refine zI ?_ | refine zG hX ?_ | refine zO ?_); conv => whnf)
        replace hL : Ev.Loc m S0 w0 m ((b12, .cells (toArr (ndC x)) 61 (0, 0)) :: (b8, .cells (toArr (stC (setOf x))) 24 (0, 0)) :: (b3, .cells (toArr grO) 90 (0, 0)) :: (Lo ++ L)) w := hL
        refine ⟨(j + 1, true, A1, n1, c1), ⟨⟨by simp only at hlt ⊢; omega, by simp only [hst]; rfl⟩, Lo, by simp only [hst]; exact ho, by simp only [hst]; exact hL.drop⟩, by first | omega | (simp only; omega), ?_, ?_⟩
        · repeat (first | exact trivial | (refine And.intro (by (conv => lhs; whnf) <;> (conv => rhs; whnf) <;> (first | rfl)) ?_))
        · repeat (first | exact trivial | (refine And.intro (by (conv => lhs; whnf) <;> (conv => rhs; whnf) <;> (first | rfl)) ?_))
      | some s =>
        simp only at hst
        obtain rfl : sm = true := hsm
        conv => whnf
        repeat ((first | refine BrReq.no (fun h => h hk) ?_ | refine zT ?_ | refine zF ?_ | refine zL hX hL ?_ | refine zB hX hL ?_ | (refine zS hX hL ?_; clear hL; intro w hL) | refine zI ?_ | refine zG hX ?_ | refine zO ?_); conv => whnf)
        refine CallReq.val (Union_fn m s (setOf x) (hsi s rfl) (inS_of hin)) hL ?_
        clear hL
        intro w hL
        conv => whnf
        repeat ((first | refine zT ?_ | refine zF ?_ | refine zL hX hL ?_ | refine zB hX hL ?_ | (refine zS hX hL ?_; clear hL; intro w hL) | refine zI ?_ | refine zG hX ?_ | refine zO ?_); conv => whnf)
        replace hL : Ev.Loc m S0 w0 m ((b12, .cells (toArr (ndC x)) 61 (0, 0)) :: (b8, .cells (toArr (stC (op4 false s (setOf x)))) 24 (0, 0)) :: (b3, .cells (toArr grO) 90 (0, 0)) :: (Lo ++ L)) w := hL
        refine ⟨(j + 1, true, A1, n1, c1), ⟨⟨by simp only at hlt ⊢; omega, by simp only [hst]; rfl⟩, Lo, by simp only [hst]; exact ho, by simp only [hst]; exact hL.drop⟩, by first | omega | (simp only; omega), ?_, ?_⟩
        · repeat (first | exact trivial | (refine And.intro (by (conv => lhs; whnf) <;> (conv => rhs; whnf) <;> (first | rfl)) ?_))
        · repeat (first | exact trivial | (refine And.intro (by (conv => lhs; whnf) <;> (conv => rhs; whnf) <;> (first | rfl)) ?_))
  · have ej : j = n := by simp only at hlt; omega
    subst ej
    have hsl := splitN_len false ns l j
    rw [List.take_of_length_le (by omega)] at hsm ho hL hsl
    unfold gbytesN
    have hsi := splitN_in false hO l
    generalize splitN false ns l = p at hsm ho hL hsi hsl
    obtain ⟨out, so⟩ := p
    simp only at hsm ho hL hsi hsl
    cases so with
    | none =>
      obtain rfl : sm = false := hsm
      conv => whnf
      repeat ((first | refine zT ?_ | refine zF ?_ | refine zL hX hL ?_ | refine zB hX hL ?_ | (refine zS hX hL ?_; clear hL; intro w hL) | refine zI ?_ | refine zG hX ?_ | refine zO ?_); conv => whnf)
      exact RetReq.mk hL.drop.drop ⟨rfl, L, Lo, rfl, hA, ho⟩
    | some s =>
      obtain rfl : sm = true := hsm
      conv => whnf
      repeat ((first | refine zT ?_ | refine zF ?_ | refine zL hX hL ?_ | refine zB hX hL ?_ | (refine zS hX hL ?_; clear hL; intro w hL) | refine zI ?_ | refine zG hX ?_ | refine zO ?_); conv => whnf)
      refine CallReq.mk (L1 := L) (L2 := (b8, .cells (toArr (stC s)) 24 (0, 0)) :: (b3, .cells (toArr grO) 90 (0, 0)) :: Lo) (Bytes_fn m ab ns L hA hO s (hsi s rfl)) (Loc.back (L1 := (b8, .cells (toArr (stC s)) 24 (0, 0)) :: (b3, .cells (toArr grO) 90 (0, 0)) :: Lo) hL) ?_
      clear hL
      rintro u mx La w hL - ⟨hmx, rfl, hA2⟩
      rw [hmx] at hL
      clear hmx mx
      have hL := Loc.back (L1 := La) (L2 := (b8, .cells (toArr (stC s)) 24 (0, 0)) :: (b3, .cells (toArr grO) 90 (0, 0)) :: Lo) hL
      conv => whnf
      repeat ((first | refine zT ?_ | refine zF ?_ | refine zL hX hL ?_ | refine zB hX hL ?_ | (refine zS hX hL ?_; clear hL; intro w hL) | refine zI ?_ | refine zG hX ?_ | refine zO ?_); conv => whnf)
      refine NewReq.mk hL ?_
      clear hL
      intro g2 w hL
      conv => whnf
      replace hL : Ev.Loc m S0 w0 m ((g2, .cells (toArr [.int .i64 (bytesN ns s).2]) 3 (0, 0)) :: (b8, .cells (toArr (stC s)) 24 (0, 0)) :: (b3, .cells (toArr grO) 90 (0, 0)) :: (Lo ++ La)) w := hL
      conv => whnf
      repeat ((first | refine zT ?_ | refine zF ?_ | refine zL hX hL ?_ | refine zB hX hL ?_ | (refine zS hX hL ?_; clear hL; intro w hL) | refine zI ?_ | refine zG hX ?_ | refine zO ?_); conv => whnf)
      refine RunReq.push hX 79 3 rfl rfl rfl rfl rfl ho (L2 := La ++ [_, _]) (by rw [← List.append_assoc]; exact hL.perm (List.Perm.cons _ (List.perm_append_comm (l₁ := [_, _]) (l₂ := Lo ++ La)))) rfl rfl (by simp [ints]; omega) rfl ?_
      clear hL
      intro A2 n2 c2 L2 w hn2 ho2 hL
      rw [← List.append_assoc] at hL
      have hL := Loc.back (L1 := L2 ++ La) (L2 := [_, _]) hL
      rw [← show ints .i64 (out ++ [(bytesN ns s).2]) = ints .i64 out ++ [Value.int .i64 (bytesN ns s).2] from ints_append ..] at ho2
      conv => whnf
      repeat ((first | refine zT ?_ | refine zF ?_ | refine zL hX hL ?_ | refine zB hX hL ?_ | (refine zS hX hL ?_; clear hL; intro w hL) | refine zI ?_ | refine zG hX ?_ | refine zO ?_); conv => whnf)
      exact RetReq.mk hL.drop.drop ⟨rfl, La, L2, rfl, hA2, ho2⟩
set_option maxHeartbeats 2000000 in
theorem gbytesA_fn (m : Mem) (ab : Nat) (ns : List Nd) (L : Own) (hA : Ar ab ns L) (hO : OkA ns) (v : Value) (l : List Int) (hv : SlI m .i64 v l) (hlb : l.length ≤ 1000000) :
    Ev.Fn Tryz.prog 72 [.agg (toArr grA), .pointer (some ⟨ab, 0, none⟩), v] m L
      fun m' L' u => m' = m ∧ ∃ La Lo, L' = Lo ++ La ∧ Ar ab (gbytesN true ns l).1 La ∧ OwnS 3 1 u (ints .i64 (gbytesN true ns l).2) Lo := by
  obtain ⟨A, n, c, rfl, hn, hc, hm, -⟩ := id hv
  have hcell := hv.cell.2
  have hmx : maxLen = 9223372036854775807 := rfl
  refine Fn.enter (N := 54) hX Tryz.func72 rfl rfl (by show _ ≤ _; simp) (fun w0 hL => ?_)
  conv => whnf
  generalize keys L = S0 at hL ⊢
  refine NewReq.mk hL ?_
  clear hL
  intro b3 w hL
  conv => whnf
  refine NewReq.mk hL ?_
  clear hL
  intro b8 w hL
  conv => whnf
  replace hL : Ev.Loc m S0 w0 m ((b8, .cells (toArr (stC z4)) 24 (0, 0)) :: (b3, .cells (toArr grA) 90 (0, 0)) :: L) w := hL
  conv => whnf
  repeat ((first | refine zT ?_ | refine zF ?_ | refine zL hX hL ?_ | refine zB hX hL ?_ | (refine zS hX hL ?_; clear hL; intro w hL) | refine zI ?_ | refine zG hX ?_ | refine zO ?_); conv => whnf)
  refine LoopReq.inv hX (fun s : Nat × Bool × Option Addr × Nat × Nat => [(7, .slice s.2.2.1 s.2.2.2.1 s.2.2.2.2), (9, .bool s.2.1), (16, .int .i64 s.1)]) [1, 3, 8, 14, 15]
    (fun s w => (s.1 ≤ n ∧ s.2.1 = (splitN true ns (l.take s.1)).2.isSome) ∧ ∃ Lo, OwnS 3 1 (.slice s.2.2.1 s.2.2.2.1 s.2.2.2.2) (ints .i64 (splitN true ns (l.take s.1)).1) Lo ∧ Ev.Loc m S0 w0 m ((b8, .cells (toArr (stC ((splitN true ns (l.take s.1)).2.getD z4))) 24 (0, 0)) :: (b3, .cells (toArr grA) 90 (0, 0)) :: (Lo ++ L)) w) (fun s => n - s.1) (0, false, none, 0, 0)
    ⟨⟨by simp, rfl⟩, [], OwnS.nil _ _, hL⟩ ⟨rfl, rfl, rfl, trivial⟩ ?_
  clear hL
  rintro ⟨j, sm, A1, n1, c1⟩ w f ⟨⟨hj, hsm⟩, Lo, ho, hL⟩
  simp only at hj hsm ho hL
  conv => whnf
  repeat ((first | refine zT ?_ | refine zF ?_ | refine zL hX hL ?_ | refine zB hX hL ?_ | (refine zS hX hL ?_; clear hL; intro w hL) | refine zI ?_ | refine zG hX ?_ | refine zO ?_); conv => whnf)
  refine BrReq.dec (fun hlt => ?_) (fun hlt => ?_)
  · have hlt' : j < l.length := by simp only at hlt; omega
    obtain ⟨a, ea, hc'⟩ := hcell j _ (List.getElem?_eq_getElem hlt')
    have hst := splitN_take true ns hlt'
    have hsl := splitN_len true ns l j
    have hsi := splitN_in true hO (l.take j)
    have hnode := Node_fn m ab ns L hA l[j]
    have hin := nodeN_in hO l[j]
    unfold stepS at hst
    generalize (nodeN ns l[j]).1 = x at hnode hst hin
    generalize (nodeN ns l[j]).2 = ok at hnode
    generalize l[j] = z at hnode hst hc'
    generalize splitN true ns (l.take j) = p at hsm ho hL hst hsl hsi
    obtain ⟨out, so⟩ := p
    simp only at hsm ho hL hst hsl hsi
    conv => whnf
    repeat ((first | (refine Idx2Req.mk j a rfl (by simp only at hlt ⊢; omega) ea ?_) | refine LdReq.one hX rfl rfl hL hc' ?_ | refine zT ?_ | refine zF ?_ | refine zL hX hL ?_ | refine zB hX hL ?_ | (refine zS hX hL ?_; clear hL; intro w hL) | refine zI ?_ | refine zG hX ?_ | refine zO ?_); conv => whnf)
    refine CallReq.li (L1 := L) hnode (Loc.back (L1 := (b8, .cells (toArr (stC (so.getD z4))) 24 (0, 0)) :: (b3, .cells (toArr grA) 90 (0, 0)) :: Lo) hL) ?_
    clear hL
    intro w hL
    have hL := Loc.back (L1 := L) hL
    conv => whnf
    repeat ((first | refine zT ?_ | refine zF ?_ | refine zL hX hL ?_ | refine zB hX hL ?_ | (refine zS hX hL ?_; clear hL; intro w hL) | refine zI ?_ | refine zG hX ?_ | refine zO ?_); conv => whnf)
    refine NewReq.mk hL ?_
    clear hL
    intro b12 w hL
    conv => whnf
    replace hL : Ev.Loc m S0 w0 m ((b12, .cells (toArr (ndC nd0)) 61 (0, 0)) :: (b8, .cells (toArr (stC (so.getD z4))) 24 (0, 0)) :: (b3, .cells (toArr grA) 90 (0, 0)) :: (Lo ++ L)) w := hL
    by_cases hk : x.k = 2
    rotate_left
    · rw [if_pos hk] at hst
      conv => whnf
      repeat ((first | refine BrReq.yes hk ?_ | refine zT ?_ | refine zF ?_ | refine zL hX hL ?_ | refine zB hX hL ?_ | (refine zS hX hL ?_; clear hL; intro w hL) | refine zI ?_ | refine zG hX ?_ | refine zO ?_); conv => whnf)
      refine NewReq.mk hL ?_
      clear hL
      intro g2 w hL
      conv => whnf
      replace hL : Ev.Loc m S0 w0 m ((g2, .cells (toArr [.int .i64 z]) 3 (0, 0)) :: (b12, .cells (toArr (ndC x)) 61 (0, 0)) :: (b8, .cells (toArr (stC (so.getD z4))) 24 (0, 0)) :: (b3, .cells (toArr grA) 90 (0, 0)) :: (Lo ++ L)) w := hL
      conv => whnf
      repeat ((first | refine zT ?_ | refine zF ?_ | refine zL hX hL ?_ | refine zB hX hL ?_ | (refine zS hX hL ?_; clear hL; intro w hL) | refine zI ?_ | refine zG hX ?_ | refine zO ?_); conv => whnf)
      refine RunReq.push hX 79 3 rfl rfl rfl rfl rfl ho (L2 := L ++ [_, _, _]) (by rw [← List.append_assoc]; exact hL.perm (List.Perm.cons _ (List.perm_append_comm (l₁ := [_, _, _]) (l₂ := Lo ++ L)))) rfl rfl (by simp [ints]; omega) rfl ?_
      clear hL
      intro A2 n2 c2 L2 w hn2 ho2 hL
      rw [← List.append_assoc] at hL
      have hL := Loc.back (L1 := L2 ++ L) (L2 := [_, _, _]) hL
      rw [← show ints .i64 (out ++ [z]) = ints .i64 out ++ [Value.int .i64 z] from ints_append ..] at ho2
      conv => whnf
      repeat ((first | refine zT ?_ | refine zF ?_ | refine zL hX hL ?_ | refine zB hX hL ?_ | (refine zS hX hL ?_; clear hL; intro w hL) | refine zI ?_ | refine zG hX ?_ | refine zO ?_); conv => whnf)
      refine ⟨(j + 1, sm, A2, n2, c2), ⟨⟨by simp only at hlt ⊢; omega, by simp only [hst]; exact hsm⟩, L2, by simp only [hst]; exact ho2, by simp only [hst]; exact hL.drop⟩, by first | omega | (simp only; omega), ?_, ?_⟩
      · repeat (first | exact trivial | (refine And.intro (by (conv => lhs; whnf) <;> (conv => rhs; whnf) <;> (first | rfl)) ?_))
      · repeat (first | exact trivial | (refine And.intro (by (conv => lhs; whnf) <;> (conv => rhs; whnf) <;> (first | rfl)) ?_))
    · rw [if_neg (by simp [hk])] at hst
      cases so with
      | none =>
        simp only at hst
        obtain rfl : sm = false := hsm
        conv => whnf
        repeat ((first | refine BrReq.no (fun h => h hk) ?_ | refine zT ?_ | refine zF ?_ | refine zL hX hL ?_ | refine zB hX hL ?_ | (refine zS hX hL ?_; clear hL; intro w hL) | refine zI ?_ | refine zG hX ?_ | refine zO ?_); conv => whnf)
        replace hL : Ev.Loc m S0 w0 m ((b12, .cells (toArr (ndC x)) 61 (0, 0)) :: (b8, .cells (toArr (stC (setOf x))) 24 (0, 0)) :: (b3, .cells (toArr grA) 90 (0, 0)) :: (Lo ++ L)) w := hL
        refine ⟨(j + 1, true, A1, n1, c1), ⟨⟨by simp only at hlt ⊢; omega, by simp only [hst]; rfl⟩, Lo, by simp only [hst]; exact ho, by simp only [hst]; exact hL.drop⟩, by first | omega | (simp only; omega), ?_, ?_⟩
        · repeat (first | exact trivial | (refine And.intro (by (conv => lhs; whnf) <;> (conv => rhs; whnf) <;> (first | rfl)) ?_))
        · repeat (first | exact trivial | (refine And.intro (by (conv => lhs; whnf) <;> (conv => rhs; whnf) <;> (first | rfl)) ?_))
      | some s =>
        simp only at hst
        obtain rfl : sm = true := hsm
        conv => whnf
        repeat ((first | refine BrReq.no (fun h => h hk) ?_ | refine zT ?_ | refine zF ?_ | refine zL hX hL ?_ | refine zB hX hL ?_ | (refine zS hX hL ?_; clear hL; intro w hL) | refine zI ?_ | refine zG hX ?_ | refine zO ?_); conv => whnf)
        refine CallReq.val (Inter_fn m s (setOf x) (hsi s rfl) (inS_of hin)) hL ?_
        clear hL
        intro w hL
        conv => whnf
        repeat ((first | refine zT ?_ | refine zF ?_ | refine zL hX hL ?_ | refine zB hX hL ?_ | (refine zS hX hL ?_; clear hL; intro w hL) | refine zI ?_ | refine zG hX ?_ | refine zO ?_); conv => whnf)
        replace hL : Ev.Loc m S0 w0 m ((b12, .cells (toArr (ndC x)) 61 (0, 0)) :: (b8, .cells (toArr (stC (op4 true s (setOf x)))) 24 (0, 0)) :: (b3, .cells (toArr grA) 90 (0, 0)) :: (Lo ++ L)) w := hL
        refine ⟨(j + 1, true, A1, n1, c1), ⟨⟨by simp only at hlt ⊢; omega, by simp only [hst]; rfl⟩, Lo, by simp only [hst]; exact ho, by simp only [hst]; exact hL.drop⟩, by first | omega | (simp only; omega), ?_, ?_⟩
        · repeat (first | exact trivial | (refine And.intro (by (conv => lhs; whnf) <;> (conv => rhs; whnf) <;> (first | rfl)) ?_))
        · repeat (first | exact trivial | (refine And.intro (by (conv => lhs; whnf) <;> (conv => rhs; whnf) <;> (first | rfl)) ?_))
  · have ej : j = n := by simp only at hlt; omega
    subst ej
    have hsl := splitN_len true ns l j
    rw [List.take_of_length_le (by omega)] at hsm ho hL hsl
    unfold gbytesN
    have hsi := splitN_in true hO l
    generalize splitN true ns l = p at hsm ho hL hsi hsl
    obtain ⟨out, so⟩ := p
    simp only at hsm ho hL hsi hsl
    cases so with
    | none =>
      obtain rfl : sm = false := hsm
      conv => whnf
      repeat ((first | refine zT ?_ | refine zF ?_ | refine zL hX hL ?_ | refine zB hX hL ?_ | (refine zS hX hL ?_; clear hL; intro w hL) | refine zI ?_ | refine zG hX ?_ | refine zO ?_); conv => whnf)
      exact RetReq.mk hL.drop.drop ⟨rfl, L, Lo, rfl, hA, ho⟩
    | some s =>
      obtain rfl : sm = true := hsm
      conv => whnf
      repeat ((first | refine zT ?_ | refine zF ?_ | refine zL hX hL ?_ | refine zB hX hL ?_ | (refine zS hX hL ?_; clear hL; intro w hL) | refine zI ?_ | refine zG hX ?_ | refine zO ?_); conv => whnf)
      refine CallReq.mk (L1 := L) (L2 := (b8, .cells (toArr (stC s)) 24 (0, 0)) :: (b3, .cells (toArr grA) 90 (0, 0)) :: Lo) (Bytes_fn m ab ns L hA hO s (hsi s rfl)) (Loc.back (L1 := (b8, .cells (toArr (stC s)) 24 (0, 0)) :: (b3, .cells (toArr grA) 90 (0, 0)) :: Lo) hL) ?_
      clear hL
      rintro u mx La w hL - ⟨hmx, rfl, hA2⟩
      rw [hmx] at hL
      clear hmx mx
      have hL := Loc.back (L1 := La) (L2 := (b8, .cells (toArr (stC s)) 24 (0, 0)) :: (b3, .cells (toArr grA) 90 (0, 0)) :: Lo) hL
      conv => whnf
      repeat ((first | refine zT ?_ | refine zF ?_ | refine zL hX hL ?_ | refine zB hX hL ?_ | (refine zS hX hL ?_; clear hL; intro w hL) | refine zI ?_ | refine zG hX ?_ | refine zO ?_); conv => whnf)
      refine NewReq.mk hL ?_
      clear hL
      intro g2 w hL
      conv => whnf
      replace hL : Ev.Loc m S0 w0 m ((g2, .cells (toArr [.int .i64 (bytesN ns s).2]) 3 (0, 0)) :: (b8, .cells (toArr (stC s)) 24 (0, 0)) :: (b3, .cells (toArr grA) 90 (0, 0)) :: (Lo ++ La)) w := hL
      conv => whnf
      repeat ((first | refine zT ?_ | refine zF ?_ | refine zL hX hL ?_ | refine zB hX hL ?_ | (refine zS hX hL ?_; clear hL; intro w hL) | refine zI ?_ | refine zG hX ?_ | refine zO ?_); conv => whnf)
      refine RunReq.push hX 79 3 rfl rfl rfl rfl rfl ho (L2 := La ++ [_, _]) (by rw [← List.append_assoc]; exact hL.perm (List.Perm.cons _ (List.perm_append_comm (l₁ := [_, _]) (l₂ := Lo ++ La)))) rfl rfl (by simp [ints]; omega) rfl ?_
      clear hL
      intro A2 n2 c2 L2 w hn2 ho2 hL
      rw [← List.append_assoc] at hL
      have hL := Loc.back (L1 := L2 ++ La) (L2 := [_, _]) hL
      rw [← show ints .i64 (out ++ [(bytesN ns s).2]) = ints .i64 out ++ [Value.int .i64 (bytesN ns s).2] from ints_append ..] at ho2
      conv => whnf
      repeat ((first | refine zT ?_ | refine zF ?_ | refine zL hX hL ?_ | refine zB hX hL ?_ | (refine zS hX hL ?_; clear hL; intro w hL) | refine zI ?_ | refine zG hX ?_ | refine zO ?_); conv => whnf)
      exact RetReq.mk hL.drop.drop ⟨rfl, La, L2, rfl, hA2, ho2⟩
end Go.Proofs.YtpdiljdklllmjaaGreat.ar
