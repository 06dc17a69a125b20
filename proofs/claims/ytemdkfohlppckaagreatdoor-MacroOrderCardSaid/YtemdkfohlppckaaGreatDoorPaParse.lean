/- Parse: what it answers. Conditions: the laid variables are what they are. -/
import Derived.Test.YtemdkfohlppckaaGreatDoorPaAtom
import Derived.Test.YtemdkfohlppckaaGreatDoorPaTotal
import Derived.Test.YtemdkfohlppckaaGreatDoorPaWords
import Derived.Test.YtemdkfohlppckaaGreatDoorLxWords
import Derived.Test.YtemdkfohlppckaaGreatDoorMaLend

namespace Go.Proofs.YtemdkfohlppckaaGreatDoor.pa
open Go Go.Ev Go.Proofs Go.Proofs.YtemdkfohlppckaaGreatDoor.lx Go.Proofs.YtemdkfohlppckaaGreatDoor.tree

def startP (l : List (Nat × W)) : PS := ⟨l, 0, 0, 0⟩
def endP (fin : Nat) (s : PS) : PS := if kindP s ≠ 0 then failP 2 (hereP fin s) s else s
def checkP (r : Re) (s : PS) : Re × Int × Int := if s.e ≠ 0 then (leafR 0, s.at_, s.e) else if 40 < deepR 40 r then (leafR 0, 0, 8) else if 1000 < sizeR r then (leafR 0, 0, 9) else if formedR r = true then (r, 0, 0) else (leafR 0, 0, 2)
/-- What Parse answers. -/
def parseT (s : List UInt8) (defs : List (List UInt8 × Re)) : Re × Int × Int :=
  if (outT s).2.2 ≠ 0 then (leafR 0, (outT s).2.1, (outT s).2.2) else match P s.length defs (16 * (outT s).1.length + 8) .alt (startP (outT s).1) with
    | none => (leafR 0, 0, 0)
    | some x => checkP x.1 (endP s.length x.2)

theorem freezeN {m0 m : Mem} {S : List Nat} {w0 w : World} {r : Re} {cs : List Value} {L L2 : Ev.Own} (h : OwnT r cs L) (hL : Ev.Loc m0 S w0 m (L ++ L2) w) : ∃ m' mc, Ev.Loc m0 S w0 m' L2 w ∧ Mem.Le m m' ∧ NewIn m m' mc ∧ RepRe mc cs r := by
  have ha := hL.alone
  rw [← List.append_nil L] at ha
  obtain ⟨mc, h1, -, h3⟩ := OwnT.freeze (L2 := []) h ha
  rw [List.append_nil] at h1
  obtain ⟨h4, h5⟩ := hL.handed h1
  exact ⟨_, mc, h4, le_unionL _ _, h5, h3⟩
theorem cloneC_fn (m : Mem) (r : Re) (cs : List Value) (h : RepRe m cs r) (hs : Small r) (hd : deepR 40 r ≤ 40) : Fn0 Tryz.prog 27 [.agg (toArr cs)] m fun m' u => ∃ cs', u = .agg (toArr cs') ∧ ∃ mc, NewIn m m' mc ∧ RepRe mc cs' r := by
  obtain ⟨k1, u0, u1, u2, u3, A1, n1, c1, lo1, hi1, neg1, rfl⟩ := h.form
  refine Fn.enter (N := 9) hX Tryz.func27 rfl rfl (by show _ ≤ _; simp) (fun w0 hL => ?_)
  conv => whnf
  refine NewReq.mk hL ?_
  clear hL
  intro b1 w hL
  conv => whnf
  refine NewReq.mk hL ?_
  clear hL
  intro b2 w hL
  conv => whnf
  conv => whnf
  repeat ((first | refine zT ?_ | refine zF ?_ | refine zL hX hL ?_ | refine zB hX hL ?_ | (refine zS hX hL ?_; clear hL; intro w hL) | refine zI ?_ | refine zG hX ?_ | refine zO ?_); conv => whnf)
  refine CallReq.val (Deep_fn m r _ h) hL ?_
  clear hL
  intro w hL
  conv => whnf
  repeat ((first | refine BrReq.no (by omega) ?_ | refine zT ?_ | refine zF ?_ | refine zL hX hL ?_ | refine zB hX hL ?_ | (refine zS hX hL ?_; clear hL; intro w hL) | refine zI ?_ | refine zG hX ?_ | refine zO ?_); conv => whnf)
  refine CallReq.mk (L1 := []) (cloneT_fn r m _ h hs) hL ?_
  clear hL
  rintro v m2 L1 w hL hm2 ⟨cs2, rfl, ho⟩
  obtain ⟨k3, v0, v1, v2, v3, g3, n3, lo3, hi3, neg3, rfl⟩ := ho.form
  obtain ⟨m3, mc, hL3, hm3, hnw, hr3⟩ := freezeN ho hL
  clear hL
  have hL := hL3
  clear hL3
  conv => whnf
  repeat ((first | refine zT ?_ | refine zF ?_ | refine zL hX hL ?_ | refine zB hX hL ?_ | (refine zS hX hL ?_; clear hL; intro w hL) | refine zI ?_ | refine zG hX ?_ | refine zO ?_); conv => whnf)
  exact RetReq.mk hL.drop.drop ⟨rfl, _, rfl, mc, hnw.le hm2 (Mem.Le.refl _), hr3⟩

set_option maxHeartbeats 4000000 in
theorem ParseN_fn (m : Mem) (hQ : LibMem m) (s : List UInt8) (hl : s.length ≤ 1000000) (dv : Value) (defs : List (List UInt8 × Re)) (hd : Sl m 10 (isDef m) dv defs) :
    Fn0 Tryz.prog 9 [.string (bs s), dv] m fun m' u => ∃ cs, u = .tuple (toArr [.agg (toArr cs), .int .i64 (parseT s defs).2.1, .int .i64 (parseT s defs).2.2]) ∧ ∃ mc, NewIn m m' mc ∧ RepRe mc cs (parseT s defs).1 := by
  have hsz := bs_size s
  obtain ⟨Ad, nd, cd, rfl, -⟩ := id hd
  have hw := Words_fn m hQ s hl
  obtain ⟨hok, hlen⟩ := out_ok s
  unfold parseT
  refine Fn.enter (N := 70) hX Tryz.func9 rfl rfl (by show _ ≤ _; simp) (fun w0 hL => ?_)
  conv => whnf
  refine NewReq.mk hL ?_
  clear hL
  intro b4 w hL
  conv => whnf
  conv => whnf
  repeat ((first | refine zT ?_ | refine zF ?_ | refine zL hX hL ?_ | refine zB hX hL ?_ | (refine zS hX hL ?_; clear hL; intro w hL) | refine zI ?_ | refine zG hX ?_ | refine zO ?_); conv => whnf)
  refine CallReq.pure hw hL ?_
  clear hL
  rintro u m1 w hL hm1 ⟨sl, rfl, hsl⟩
  generalize hO : outT s = O at *
  obtain ⟨A1, n1, c1, rfl, hn1, hc1, hx1, -⟩ := id hsl
  by_cases he : O.2.2 = 0
  · rw [if_neg (fun h => h he)]
    conv => whnf
    repeat ((first | refine BrReq.no (fun h => h he) ?_ | refine zT ?_ | refine zF ?_ | refine zL hX hL ?_ | refine zB hX hL ?_ | (refine zS hX hL ?_; clear hL; intro w hL) | refine zI ?_ | refine zG hX ?_ | refine zO ?_); conv => whnf)
    refine NewReq.mk hL ?_
    clear hL
    intro b10 w hL
    conv => whnf
    obtain ⟨x, hx⟩ := P_total s.length defs (16 * O.1.length + 8) .alt (startP O.1) (by have := lft_le (startP O.1); simp only [startP, rank] at this ⊢; omega)
    rw [hx]
    have hK := known s.length defs (16 * O.1.length + 9) (by omega)
    have hB : Bnd (startP O.1) := ⟨by simp only [startP]; omega, hok⟩
    have ih := hK _ (by omega) .alt (startP O.1) x.1 x.2 hx hB m1 b10 (.slice A1 n1 c1) (.slice Ad nd cd) hsl (defs_le hd hm1)
    have hz : ((bs s).size : Int) = (s.length : Nat) := by omega
    rw [hz] at hL
    replace hL : Ev.Loc m [] w0 m1 ([(b10, poO (.slice A1 n1 c1) s.length (.slice Ad nd cd) (startP O.1))] ++ [(b4, .cells (toArr zRe) 36 (0, 0))]) w := hL
    conv => whnf
    repeat ((first | refine zT ?_ | refine zF ?_ | refine zL hX hL ?_ | refine zB hX hL ?_ | (refine zS hX hL ?_; clear hL; intro w hL) | refine zI ?_ | refine zG hX ?_ | refine zO ?_); conv => whnf)
    refine CallReq.mk ih hL ?_
    clear hL
    rintro u m2 L' w hL hm2 ⟨cs, sl2, rfl, hr2, hs2, rfl⟩
    obtain ⟨k1, u0, u1, u2, u3, A2, n2, c2, lo2, hi2, neg2, rfl⟩ := hr2.form
    conv => whnf
    repeat ((first | refine zT ?_ | refine zF ?_ | refine zL hX hL ?_ | refine zB hX hL ?_ | (refine zS hX hL ?_; clear hL; intro w hL) | refine zI ?_ | refine zG hX ?_ | refine zO ?_); conv => whnf)
    refine NewReq.mk hL ?_
    clear hL
    intro b11 w hL
    conv => whnf
    replace hL : Ev.Loc m [] w0 m2 ([(b11, .cells (toArr zRe) 36 (0, 0))] ++ [(b10, poO sl2 s.length (.slice Ad nd cd) x.2), (b4, .cells (toArr zRe) 36 (0, 0))]) w := hL
    conv => whnf
    repeat ((first | refine zT ?_ | refine zF ?_ | refine zL hX hL ?_ | refine zB hX hL ?_ | (refine zS hX hL ?_; clear hL; intro w hL) | refine zI ?_ | refine zO ?_); conv => whnf)
    have hL := Loc.back (L1 := [_]) (L2 := [_, _]) hL
    replace hL : Ev.Loc m [] w0 m2 ((b10, poO sl2 s.length (.slice Ad nd cd) x.2) :: [(b4, .cells (toArr zRe) 36 (0, 0)), (b11, .cells (toArr (reC k1 u0 u1 u2 u3 (.slice A2 n2 c2) lo2 hi2 neg2)) 36 (0, 0))]) w := hL
    refine SeqReq.cut hX (fun _ : Unit => []) [4, 10, 11] (fun _ w => Ev.Loc m [] w0 m2 [(b10, poO sl2 s.length (.slice Ad nd cd) (endP s.length x.2)), (b4, .cells (toArr zRe) 36 (0, 0)), (b11, .cells (toArr (reC k1 u0 u1 u2 u3 (.slice A2 n2 c2) lo2 hi2 neg2)) 36 (0, 0))] w) ?_ ?_
    · conv => whnf
      repeat ((first | refine zT ?_ | refine zF ?_ | refine zL hX hL ?_ | refine zB hX hL ?_ | (refine zS hX hL ?_; clear hL; intro w hL) | refine zI ?_ | refine zG hX ?_ | refine zO ?_); conv => whnf)
      refine CallReq.sc (kind_fn m2 b10 sl2 (.slice Ad nd cd) s.length x.2 hs2) hL ?_
      clear hL
      intro w hL
      unfold endP
      by_cases hk0 : kindP x.2 = 0
      · rw [if_neg (fun h => h hk0)]
        conv => whnf
        repeat ((first | refine BrReq.no (fun h => h hk0) ?_ | refine zT ?_ | refine zF ?_ | refine zL hX hL ?_ | refine zB hX hL ?_ | (refine zS hX hL ?_; clear hL; intro w hL) | refine zI ?_ | refine zG hX ?_ | refine zO ?_); conv => whnf)
        refine ⟨(), hL, ?_, ?_⟩
        · repeat (first | exact trivial | (refine And.intro (by (conv => lhs; whnf) <;> (conv => rhs; whnf) <;> (first | rfl)) ?_))
        · repeat (first | exact trivial | (refine And.intro (by (conv => lhs; whnf) <;> (conv => rhs; whnf) <;> (first | rfl)) ?_))
      · rw [if_pos hk0]
        conv => whnf
        repeat ((first | refine BrReq.yes (fun h => hk0 h) ?_ | refine zT ?_ | refine zF ?_ | refine zL hX hL ?_ | refine zB hX hL ?_ | (refine zS hX hL ?_; clear hL; intro w hL) | refine zI ?_ | refine zG hX ?_ | refine zO ?_); conv => whnf)
        refine CallReq.sc (here_fn m2 b10 sl2 (.slice Ad nd cd) s.length x.2 hs2) hL ?_
        clear hL
        intro w hL
        conv => whnf
        repeat ((first | refine zT ?_ | refine zF ?_ | refine zL hX hL ?_ | refine zB hX hL ?_ | (refine zS hX hL ?_; clear hL; intro w hL) | refine zI ?_ | refine zG hX ?_ | refine zO ?_); conv => whnf)
        refine CallReq.sc (fail_fn m2 b10 sl2 (.slice Ad nd cd) s.length x.2 2 (hereP s.length x.2 : Nat)) hL ?_
        clear hL
        intro w hL
        conv => whnf
        repeat ((first | refine zT ?_ | refine zF ?_ | refine zL hX hL ?_ | refine zB hX hL ?_ | (refine zS hX hL ?_; clear hL; intro w hL) | refine zI ?_ | refine zG hX ?_ | refine zO ?_); conv => whnf)
        refine ⟨(), hL, ?_, ?_⟩
        · repeat (first | exact trivial | (refine And.intro (by (conv => lhs; whnf) <;> (conv => rhs; whnf) <;> (first | rfl)) ?_))
        · repeat (first | exact trivial | (refine And.intro (by (conv => lhs; whnf) <;> (conv => rhs; whnf) <;> (first | rfl)) ?_))
    clear hL
    rintro _ w f hL
    simp only
    generalize endP s.length x.2 = z at hL ⊢
    generalize x.1 = r at hr2 ih ⊢
    replace hL : Ev.Loc m [] w0 m2 [(b10, .cells (toArr [sl2, .int .i64 s.length, (.slice Ad nd cd), .int .i64 (z.deep : Nat), .int .i64 z.at_, .int .i64 z.e]) 61 (0, 0)), (b4, .cells (toArr zRe) 36 (0, 0)), (b11, .cells (toArr (reC k1 u0 u1 u2 u3 (.slice A2 n2 c2) lo2 hi2 neg2)) 36 (0, 0))] w := hL
    unfold checkP
    by_cases hz0 : z.e = 0
    · rw [if_neg (fun h => h hz0)]
      conv => whnf
      repeat ((first | refine BrReq.no (fun h => h hz0) ?_ | refine zT ?_ | refine zF ?_ | refine zL hX hL ?_ | refine zB hX hL ?_ | (refine zS hX hL ?_; clear hL; intro w hL) | refine zI ?_ | refine zG hX ?_ | refine zO ?_); conv => whnf)
      refine CallReq.val (Deep_fn m2 r _ hr2) hL ?_
      clear hL
      intro w hL
      by_cases hd40 : 40 < deepR 40 r
      · rw [if_pos hd40]
        conv => whnf
        repeat ((first | refine BrReq.yes (by omega) ?_ | refine zT ?_ | refine zF ?_ | refine zL hX hL ?_ | refine zB hX hL ?_ | (refine zS hX hL ?_; clear hL; intro w hL) | refine zI ?_ | refine zG hX ?_ | refine zO ?_); conv => whnf)
        exact RetReq.mk (hL.sublist (List.nil_sublist _)) ⟨rfl, _, rfl, Mem.none, NewIn.none _ _, leaf_rep _ 0 (by simp [inI])⟩
      · rw [if_neg hd40]
        conv => whnf
        repeat ((first | refine BrReq.no (by omega) ?_ | refine zT ?_ | refine zF ?_ | refine zL hX hL ?_ | refine zB hX hL ?_ | (refine zS hX hL ?_; clear hL; intro w hL) | refine zI ?_ | refine zG hX ?_ | refine zO ?_); conv => whnf)
        have hsf := Size_fn m2 r _ hr2
        rw [if_neg hd40] at hsf
        refine CallReq.val hsf hL ?_
        clear hL
        intro w hL
        by_cases hs1000 : 1000 < sizeR r
        · rw [if_pos hs1000]
          conv => whnf
          repeat ((first | refine BrReq.yes (by omega) ?_ | refine zT ?_ | refine zF ?_ | refine zL hX hL ?_ | refine zB hX hL ?_ | (refine zS hX hL ?_; clear hL; intro w hL) | refine zI ?_ | refine zG hX ?_ | refine zO ?_); conv => whnf)
          exact RetReq.mk (hL.sublist (List.nil_sublist _)) ⟨rfl, _, rfl, Mem.none, NewIn.none _ _, leaf_rep _ 0 (by simp [inI])⟩
        · rw [if_neg hs1000]
          conv => whnf
          repeat ((first | refine BrReq.no (by omega) ?_ | refine zT ?_ | refine zF ?_ | refine zL hX hL ?_ | refine zB hX hL ?_ | (refine zS hX hL ?_; clear hL; intro w hL) | refine zI ?_ | refine zG hX ?_ | refine zO ?_); conv => whnf)
          refine CallReq.val (Formed_fn m2 r _ hr2) hL ?_
          clear hL
          intro w hL
          cases hf : formedR r with
          | true =>
            rw [if_pos rfl]
            conv => whnf
            repeat ((first | refine zT ?_ | refine zF ?_ | refine zL hX hL ?_ | refine zB hX hL ?_ | (refine zS hX hL ?_; clear hL; intro w hL) | refine zI ?_ | refine zG hX ?_ | refine zO ?_); conv => whnf)
            refine CallReq.pure (cloneC_fn m2 r _ hr2 (small_size r (by omega)).1 (by omega)) hL ?_
            clear hL
            rintro u m3 w hL hm3 ⟨cs3, rfl, mc, hnw, hr3⟩
            obtain ⟨k5, w0', w1', w2', w3', A5, n5, c5, lo5, hi5, neg5, rfl⟩ := hr3.form
            conv => whnf
            repeat ((first | refine zT ?_ | refine zF ?_ | refine zL hX hL ?_ | refine zB hX hL ?_ | (refine zS hX hL ?_; clear hL; intro w hL) | refine zI ?_ | refine zG hX ?_ | refine zO ?_); conv => whnf)
            exact RetReq.mk (hL.sublist (List.nil_sublist _)) ⟨rfl, _, rfl, mc, hnw.le (hm1.trans hm2) (Mem.Le.refl _), hr3⟩
          | false =>
            rw [if_neg (by decide)]
            conv => whnf
            repeat ((first | refine zT ?_ | refine zF ?_ | refine zL hX hL ?_ | refine zB hX hL ?_ | (refine zS hX hL ?_; clear hL; intro w hL) | refine zI ?_ | refine zG hX ?_ | refine zO ?_); conv => whnf)
            exact RetReq.mk (hL.sublist (List.nil_sublist _)) ⟨rfl, _, rfl, Mem.none, NewIn.none _ _, leaf_rep _ 0 (by simp [inI])⟩
    · rw [if_pos hz0]
      conv => whnf
      repeat ((first | refine BrReq.yes (fun h => hz0 h) ?_ | refine zT ?_ | refine zF ?_ | refine zL hX hL ?_ | refine zB hX hL ?_ | (refine zS hX hL ?_; clear hL; intro w hL) | refine zI ?_ | refine zG hX ?_ | refine zO ?_); conv => whnf)
      refine DrawReq.plan hX (.fst 0 (.fst 1 (.fst 2 (.fst 3 (.fst 4 (.fst 5 (.fst 6 (.fst 7 (.fst 8 (.alt 9 (.fst 10 (.fst 11 (.done))) (.stop))))))))))) [(b10, .cells (toArr [sl2, .int .i64 s.length, (.slice Ad nd cd), .int .i64 (z.deep : Nat), .int .i64 z.at_, .int .i64 z.e]) 61 (0, 0))] (by kernel_rfl) (by kernel_rfl) hL (fun h => h.one 0 rfl) ?_
      clear hL
      intro w hL
      conv => whnf
      repeat ((first | refine SReq.mk (hL.one 0 rfl) ?_ | refine zQ hX ?_ | refine zR hX ?_ | refine zA ?_ | refine zT ?_ | refine zF ?_ | refine zL hX hL ?_ | refine zB hX hL ?_ | (refine zS hX hL ?_; clear hL; intro w hL) | refine zI ?_ | refine zG hX ?_ | refine zO ?_); conv => whnf)
      exact RetReq.mk (hL.sublist (List.nil_sublist _)) ⟨rfl, _, rfl, Mem.none, NewIn.none _ _, leaf_rep _ 0 (by simp [inI])⟩
  · rw [if_pos he]
    conv => whnf
    repeat ((first | refine BrReq.yes (fun h => he h) ?_ | refine zT ?_ | refine zF ?_ | refine zL hX hL ?_ | refine zB hX hL ?_ | (refine zS hX hL ?_; clear hL; intro w hL) | refine zI ?_ | refine zG hX ?_ | refine zO ?_); conv => whnf)
    exact RetReq.mk (hL.sublist (List.nil_sublist _)) ⟨rfl, _, rfl, Mem.none, NewIn.none _ _, leaf_rep _ 0 (by simp [inI])⟩
theorem Parse_fn (m : Mem) (hQ : LibMem m) (s : List UInt8) (hl : s.length ≤ 1000000) (dv : Value) (defs : List (List UInt8 × Re)) (hd : Sl m 10 (isDef m) dv defs) :
    Fn0 Tryz.prog 9 [.string (bs s), dv] m fun m' u => ∃ cs, u = .tuple (toArr [.agg (toArr cs), .int .i64 (parseT s defs).2.1, .int .i64 (parseT s defs).2.2]) ∧ RepRe m' cs (parseT s defs).1 :=
  (ParseN_fn m hQ s hl dv defs hd).mono fun _ _ _ _ ⟨h1, cs, h2, mc, h3, h4⟩ => ⟨h1, cs, h2, h4.le h3.1⟩
end Go.Proofs.YtemdkfohlppckaaGreatDoor.pa
