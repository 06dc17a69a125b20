/- LazyKeeps, proved: a lazy machine keeps no more than it may, makes nothing twice that it keeps, and forgets all at a flush. Conditions: none beyond the row its own.: part 9 of 13 of the proof. Conditions: none. -/
import Derived.Test.YtaooenndoopgdaaGreatDoorK8
import Derived.Test.YtaooenndoopgdaaGreatDoorK3
import Derived.Test.YtaooenndoopgdaaGreatDoorK5
namespace Go.Proofs.YtaooenndoopgdaaGreatDoor.li
open Go Go.Ev Go.Proofs Go.Proofs.YtaooenndoopgdaaGreatDoor.ar
variable {ab sb b bits : Nat} {m : Mem} {ns : List Nd} {e : Int} {ma ml : Nat} {la ll : List (Value × Value)} {La : Ev.Own}
theorem Stp.grow {m' : Mem} (h : Stp ab sb b bits m ns e ma ml la ll La) (hm : Mem.Le m m') : Stp ab sb b bits m' ns e ma ml la ll La :=
 ⟨h.ar, h.ok, h.are.grow hm (Nat.le_refl _), h.left.grow hm (Nat.le_refl _), h.err⟩
theorem Stp.arena {ns' : List Nd} {La' : Ev.Own} (h : Stp ab sb b bits m ns e ma ml la ll La) (hp : ns <+: ns') (hO : OkA ns') (hA : Ar ab ns' La') : Stp ab sb b bits m ns' e ma ml la ll La' :=
 ⟨hA, hO, h.are.grow (Mem.Le.refl _) hp.length_le, h.left.grow (Mem.Le.refl _) hp.length_le, h.err⟩
theorem Stp.errs {e' : Int} (h : Stp ab sb b bits m ns e ma ml la ll La) (he : EOk e') : Stp ab sb b bits m ns e' ma ml la ll La := ⟨h.ar, h.ok, h.are, h.left, he⟩
def OfC (ab sb b bits : Nat) (ma ml : Nat) (k : Nat) : Prop := ∀ (m : Mem) (ns : List Nd) (e : Int) (la ll : List (Value × Value)) (La : Ev.Own) (id : Int), Stp ab sb b bits m ns e ma ml la ll La → ar.i64 id → (okId ns id → dep ns id < k) →
 Ev.Fn Tryz.prog 72 [.pointer (some ⟨sb, 0, none⟩), .int .i64 id] m (stL ab sb b bits e ma ml la ll La) (StQ ab sb b bits ns ma ml)
def TS (m : Mem) (S : List Nat) (w0 : World) (bn sb ab b bits ma ml : Nat) (x : Nd) (w : World) : Prop := ∃ e, Ev.Loc m S w0 m [(bn, .cells (toArr (ndC x)) 146 (0, 0)), (sb, stO ab b bits e ma ml)] w
theorem TS.gab {m : Mem} {S : List Nat} {w0 : World} {bn sb ab b bits ma ml : Nat} {x : Nd} (w : World) (h : TS m S w0 bn sb ab b bits ma ml x w) : w.cell? ⟨sb, 0, none⟩ = some (.pointer (some ⟨ab, 0, none⟩)) := by
 obtain ⟨e, h⟩ := h
 rw [h.ownCell (b := sb) (List.mem_cons_of_mem _ List.mem_cons_self)]; rfl
theorem TS.ga {m : Mem} {S : List Nat} {w0 : World} {bn sb ab b bits ma ml : Nat} {x : Nd} (w : World) (h : TS m S w0 bn sb ab b bits ma ml x w) : w.cell? ((⟨bn, 0, none⟩ : Addr).add 5) = some (.int .i64 x.a) := by
 obtain ⟨e, h⟩ := h
 rw [addr_add, h.ownCell (b := bn) List.mem_cons_self]; rfl
theorem TS.gb {m : Mem} {S : List Nat} {w0 : World} {bn sb ab b bits ma ml : Nat} {x : Nd} (w : World) (h : TS m S w0 bn sb ab b bits ma ml x w) : w.cell? ((⟨bn, 0, none⟩ : Addr).add 6) = some (.int .i64 x.b) := by
 obtain ⟨e, h⟩ := h
 rw [addr_add, h.ownCell (b := bn) List.mem_cons_self]; rfl
theorem TS.of {m m' : Mem} {S : List Nat} {w0 : World} {bn sb ab b bits ma ml : Nat} {x : Nd} {e : Int} {L : Ev.Own} {w : World} (h : Ev.Loc m S w0 m' ((bn, .cells (toArr (ndC x)) 146 (0, 0)) :: (sb, stO ab b bits e ma ml) :: L) w) (hm : Mem.Le m m') : TS m S w0 bn sb ab b bits ma ml x w :=
 ⟨e, (h.sublist (.cons_cons _ (.cons_cons _ (List.nil_sublist _)))).weaken hm (Mem.Le.refl _)⟩
set_option maxHeartbeats 4000000 in
theorem not_fn {k : Nat} (ih : OfC ab sb b bits ma ml k) (hS : Stp ab sb b bits m ns e ma ml la ll La) (i0 inner : Int) (hid : okId ns i0) (hk6 : kindN ns i0 = 6) (hin : (nodeN ns i0).1.a = inner) (hd : dep ns i0 ≤ k) :
  Ev.Fn Tryz.prog 152 [.pointer (some ⟨sb, 0, none⟩), .int .i64 i0, .int .i64 inner] m (stL ab sb b bits e ma ml la ll La) (StQ ab sb b bits ns ma ml) := by
 have hlen := hS.ok.len
 have hd1 := dep_one hS.ok hid (.inl hk6)
 obtain ⟨hi1, hi2⟩ := one_lt hS.ok hid (.inl hk6)
 rw [hin] at hd1 hi1 hi2
 obtain ⟨x, hx1, hx2⟩ := nodeN_ok hi1
 have hnode := Node_fn m ab ns La hS.ar inner
 rw [hx1] at hnode
 simp only at hnode
 have hkx : kindN ns inner = x.k := by unfold kindN; rw [hx1]
 have h2 := dep_two hS.ok hi1
 rw [hkx, hx1] at h2
 have hpt := parts_lt hS.ok hi1
 rw [hkx, hx1] at hpt
 have h0 := hid.1
 refine Fn.enter (N := 69) hX Tryz.func152 rfl rfl (by show _ ≤ _; simp) (fun w0 hL => ?_)
 conv => whnf
 generalize keys (stL ab sb b bits e ma ml la ll La) = S0 at hL ⊢
 refine go ?_;try(clear hL;intro w hL)
 refine CallReq.li (L1 := La) hnode (Loc.back (L1 := [_, _, _]) hL) ?_
 clear hL
 intro w hL
 have hL := Loc.back (L1 := La) (L2 := [_, _, _]) hL
 refine go ?_;try(clear hL;intro w hL)
 refine NewReq.mk hL ?_
 clear hL
 intro bn w hL
 conv => whnf
 obtain ⟨xk, s0, s1, s2, s3, a, b', neg⟩ := x
 simp only at h2 hpt hkx
 by_cases k0 : xk = 0
 ·subst k0
  refine go ?_;try(clear hL;intro w hL)
  refine CallReq.pure (fo.true_fn m) hL ?_
  clear hL
  rintro u m1 w hL hm1 hf
  obtain ⟨A1, n1, c1, rfl, -⟩ := id hf
  refine go ?_;try(clear hL;intro w hL)
  exact RetReq.mk hL.drop ⟨ns, e, la, ll, La, [[]], List.prefix_refl _, hS.grow hm1, rfl, hf, true_FB _⟩
 by_cases k4 : xk = 4
 ·subst k4
  have hk := h2 (by omega)
  have hp := hpt (by omega)
  refine go ?_;try(clear hL;intro w hL)
  refine DrawReq.planS hX (.fst 0 (.fst 1 (.fst 2 (.fst 3 (.fst 4 (.fst 5 (.fst 6 (.fst 7 (.fst 10 (.fst 11 (.fst 12 (.fst 13 (.fst 14 (.fst 15 (.fst 16 (.alt 8 (.alt 9 (.alt 17 (.alt 18 (.alt 19 (.fst 20 (.done)) (.stop)) (.stop)) (.stop)) (.stop)) (.stop))))))))))))))))) (TS m S0 w0 bn sb ab b bits ma ml ⟨4, s0, s1, s2, s3, a, b', neg⟩) (by kernel_rfl) (by kernel_rfl) hL (fun w h => TS.of h (Mem.Le.refl _)) ?_
  clear hL
  intro w hL
  conv => whnf
  repeat ((first | refine QLdReq.told hX rfl rfl TS.gab ?_ | refine QLdReq.told hX rfl rfl TS.ga ?_ | refine QLdReq.told hX rfl rfl TS.gb ?_ | (refine goq1 ?_;try(clear hL;intro w hL))); conv => whnf)
  have hO1 := notN_ok hS.ok (okId_i64 hlen hp.1.1)
  have hp1 := notN_pre ns a
  have hd1' := fun hy => dep_not hS.ok hp.1.1 hy
  refine CallReq.mk (L1 := _) (L2 := [_, _, _, _]) (NotG_fn _ ab _ _ hS.ar hS.ok _) (Loc.back (L1 := [_, _, _, _]) hL) ?_
  clear hL
  rintro u m1 L1 w hL hm1 ⟨rfl, hA1⟩
  have hL := Loc.back (L2 := [_, _, _, _]) hL
  have hS1 := (hS.grow hm1).arena hp1 hO1 hA1
  refine SReq.mk (TS.of hL hm1) ?_
  refine goq ?_;try(clear hL;intro w hL)
  have hi64 := (okB_not hS.ok (okId_i64 hlen hp.1.1)).2
  refine CallReq.mk (L1 := stL ab sb b bits _ ma ml _ _ _) (L2 := [_]) (ih _ _ _ _ _ _ _ hS1 hi64 (fun hy => Nat.lt_of_le_of_lt (hd1' hy) (by omega))) (Loc.back (L1 := [_]) hL) ?_
  clear hL
  rintro u m2 L2 w hL hm2 ⟨ns2, e2, la2, ll2, La2, f2, hp2, hS2, rfl, hf2, hb2⟩
  obtain ⟨A2, n2, c2, rfl, -⟩ := id hf2
  have hL := Loc.back (L1 := stL ab sb b bits e2 ma ml la2 ll2 La2) (L2 := [_]) hL
  refine SReq.mk (TS.of hL (hm1.trans hm2)) ?_
  refine goq ?_;try(clear hL;intro w hL)
  have hq2 := hp1.trans hp2
  have hbk := okId_pre hq2 hp.2.1
  have hO3 := notN_ok hS2.ok (okId_i64 hS2.ok.len hbk)
  have hp3 := notN_pre ns2 b'
  have hd3 := fun hy => dep_not hS2.ok hbk hy
  rw [dep_grow hS.ok hS2.ok hq2 hp.2.1] at hd3
  have hi3 := (okB_not hS2.ok (okId_i64 hS2.ok.len hbk)).2
  refine CallReq.mk (L1 := _) (L2 := [_, _, _, _]) (NotG_fn _ ab _ _ hS2.ar hS2.ok _) (Loc.back (L1 := [_, _, _, _]) hL) ?_
  clear hL
  rintro u m3 L3 w hL hm3 ⟨rfl, hA3⟩
  have hL := Loc.back (L2 := [_, _, _, _]) hL
  have hS3 := (hS2.grow hm3).arena hp3 hO3 hA3
  refine SReq.mk (TS.of hL (hm1.trans (hm2.trans hm3))) ?_
  refine goq ?_;try(clear hL;intro w hL)
  refine CallReq.mk (L1 := stL ab sb b bits _ ma ml _ _ _) (L2 := [_]) (ih _ _ _ _ _ _ _ hS3 hi3 (fun hy => Nat.lt_of_le_of_lt (hd3 hy) (by omega))) (Loc.back (L1 := [_]) hL) ?_
  clear hL
  rintro u m4 L4 w hL hm4 ⟨ns4, e4, la4, ll4, La4, f4, hp4, hS4, rfl, hf4, hb4⟩
  obtain ⟨A4, n4, c4, rfl, -⟩ := id hf4
  have hL := Loc.back (L1 := stL ab sb b bits e4 ma ml la4 ll4 La4) (L2 := [_]) hL
  refine SReq.mk (TS.of hL (hm1.trans (hm2.trans (hm3.trans hm4)))) ?_
  refine goq ?_;try(clear hL;intro w hL)
  refine CallReq.mk (L1 := [_]) (L2 := _ :: (ma, mapW _) :: (ml, mapW _) :: _) (and_fn _ ab sb b bits e4 ma ml _ _ f2 f4 ns4.length hS4.ok.len hS4.err (hf2.le (hm3.trans hm4)) hf4 (hb2.mono (hp3.trans hp4).length_le) hb4) (hL.perm (List.Perm.swap _ _ _)) ?_
  clear hL
  rintro u m5 L5 w hL hm5 ⟨e5, r5, he5, rfl, hr5, hb5⟩
  obtain ⟨A5, n5, c5, rfl, -⟩ := id hr5
  have hL := hL.perm (List.Perm.swap _ _ _)
  refine SReq.mk (TS.of hL (hm1.trans (hm2.trans (hm3.trans (hm4.trans hm5))))) ?_
  refine goq ?_;try(clear hL;intro w hL)
  exact RetReq.mk hL.drop ⟨ns4, e5, la4, ll4, La4, r5, hq2.trans (hp3.trans hp4), (hS4.grow hm5).errs he5, rfl, hr5, hb5⟩
 by_cases k5 : xk = 5
 ·subst k5
  have hk := h2 (by omega)
  have hp := hpt (by omega)
  refine go ?_;try(clear hL;intro w hL)
  refine DrawReq.planS hX (.fst 0 (.fst 1 (.fst 2 (.fst 3 (.fst 4 (.fst 5 (.fst 6 (.fst 7 (.fst 10 (.fst 11 (.fst 12 (.fst 13 (.fst 14 (.fst 15 (.fst 16 (.alt 8 (.alt 9 (.alt 17 (.alt 18 (.alt 19 (.fst 20 (.done)) (.stop)) (.stop)) (.stop)) (.stop)) (.stop))))))))))))))))) (TS m S0 w0 bn sb ab b bits ma ml ⟨5, s0, s1, s2, s3, a, b', neg⟩) (by kernel_rfl) (by kernel_rfl) hL (fun w h => TS.of h (Mem.Le.refl _)) ?_
  clear hL
  intro w hL
  conv => whnf
  repeat ((first | refine QLdReq.told hX rfl rfl TS.gab ?_ | refine QLdReq.told hX rfl rfl TS.ga ?_ | refine QLdReq.told hX rfl rfl TS.gb ?_ | (refine goq1 ?_;try(clear hL;intro w hL))); conv => whnf)
  have hO1 := notN_ok hS.ok (okId_i64 hlen hp.1.1)
  have hp1 := notN_pre ns a
  have hd1' := fun hy => dep_not hS.ok hp.1.1 hy
  refine CallReq.mk (L1 := _) (L2 := [_, _, _, _]) (NotG_fn _ ab _ _ hS.ar hS.ok _) (Loc.back (L1 := [_, _, _, _]) hL) ?_
  clear hL
  rintro u m1 L1 w hL hm1 ⟨rfl, hA1⟩
  have hL := Loc.back (L2 := [_, _, _, _]) hL
  have hS1 := (hS.grow hm1).arena hp1 hO1 hA1
  refine SReq.mk (TS.of hL hm1) ?_
  refine goq ?_;try(clear hL;intro w hL)
  have hi64 := (okB_not hS.ok (okId_i64 hlen hp.1.1)).2
  refine CallReq.mk (L1 := stL ab sb b bits _ ma ml _ _ _) (L2 := [_]) (ih _ _ _ _ _ _ _ hS1 hi64 (fun hy => Nat.lt_of_le_of_lt (hd1' hy) (by omega))) (Loc.back (L1 := [_]) hL) ?_
  clear hL
  rintro u m2 L2 w hL hm2 ⟨ns2, e2, la2, ll2, La2, f2, hp2, hS2, rfl, hf2, hb2⟩
  obtain ⟨A2, n2, c2, rfl, -⟩ := id hf2
  have hL := Loc.back (L1 := stL ab sb b bits e2 ma ml la2 ll2 La2) (L2 := [_]) hL
  refine SReq.mk (TS.of hL (hm1.trans hm2)) ?_
  refine goq ?_;try(clear hL;intro w hL)
  have hq2 := hp1.trans hp2
  have hbk := okId_pre hq2 hp.2.1
  have hO3 := notN_ok hS2.ok (okId_i64 hS2.ok.len hbk)
  have hp3 := notN_pre ns2 b'
  have hd3 := fun hy => dep_not hS2.ok hbk hy
  rw [dep_grow hS.ok hS2.ok hq2 hp.2.1] at hd3
  have hi3 := (okB_not hS2.ok (okId_i64 hS2.ok.len hbk)).2
  refine CallReq.mk (L1 := _) (L2 := [_, _, _, _]) (NotG_fn _ ab _ _ hS2.ar hS2.ok _) (Loc.back (L1 := [_, _, _, _]) hL) ?_
  clear hL
  rintro u m3 L3 w hL hm3 ⟨rfl, hA3⟩
  have hL := Loc.back (L2 := [_, _, _, _]) hL
  have hS3 := (hS2.grow hm3).arena hp3 hO3 hA3
  refine SReq.mk (TS.of hL (hm1.trans (hm2.trans hm3))) ?_
  refine goq ?_;try(clear hL;intro w hL)
  refine CallReq.mk (L1 := stL ab sb b bits _ ma ml _ _ _) (L2 := [_]) (ih _ _ _ _ _ _ _ hS3 hi3 (fun hy => Nat.lt_of_le_of_lt (hd3 hy) (by omega))) (Loc.back (L1 := [_]) hL) ?_
  clear hL
  rintro u m4 L4 w hL hm4 ⟨ns4, e4, la4, ll4, La4, f4, hp4, hS4, rfl, hf4, hb4⟩
  obtain ⟨A4, n4, c4, rfl, -⟩ := id hf4
  have hL := Loc.back (L1 := stL ab sb b bits e4 ma ml la4 ll4 La4) (L2 := [_]) hL
  refine SReq.mk (TS.of hL (hm1.trans (hm2.trans (hm3.trans hm4)))) ?_
  refine goq ?_;try(clear hL;intro w hL)
  refine CallReq.mk (L1 := [_]) (L2 := _ :: (ma, mapW _) :: (ml, mapW _) :: _) (or_fn _ ab sb b bits e4 ma ml _ _ f2 f4 ns4.length hS4.ok.len hS4.err (hf2.le (hm3.trans hm4)) hf4 (hb2.mono (hp3.trans hp4).length_le) hb4) (hL.perm (List.Perm.swap _ _ _)) ?_
  clear hL
  rintro u m5 L5 w hL hm5 ⟨e5, r5, he5, rfl, hr5, hb5⟩
  obtain ⟨A5, n5, c5, rfl, -⟩ := id hr5
  have hL := hL.perm (List.Perm.swap _ _ _)
  refine SReq.mk (TS.of hL (hm1.trans (hm2.trans (hm3.trans (hm4.trans hm5))))) ?_
  refine goq ?_;try(clear hL;intro w hL)
  exact RetReq.mk hL.drop ⟨ns4, e5, la4, ll4, La4, r5, hq2.trans (hp3.trans hp4), (hS4.grow hm5).errs he5, rfl, hr5, hb5⟩
 conv => whnf
 repeat ((first | refine BrReq.no (by omega) ?_ | (refine go1 ?_;try(clear hL;intro w hL))); conv => whnf)
 refine CallReq.pure (atomG_fn m i0 h0) hL ?_
 clear hL
 rintro u m1 w hL hm1 hf
 obtain ⟨A1, n1, c1, rfl, -⟩ := id hf
 refine go ?_;try(clear hL;intro w hL)
 exact RetReq.mk hL.drop ⟨ns, e, la, ll, La, [[i0]], List.prefix_refl _, hS.grow hm1, rfl, hf, atom_FB h0 hid.2⟩
set_option maxHeartbeats 4000000 in
theorem make_fn {k : Nat} (ih : OfC ab sb b bits ma ml k) (hS : Stp ab sb b bits m ns e ma ml la ll La) (i0 : Int) (x : Nd) (hid : okId ns i0) (hx : nodeN ns i0 = (x, true)) (hd : dep ns i0 ≤ k) :
  Ev.Fn Tryz.prog 103 [.pointer (some ⟨sb, 0, none⟩), .int .i64 i0, .agg (toArr (ndC x))] m (stL ab sb b bits e ma ml la ll La) (StQ ab sb b bits ns ma ml) := by
 have hlen := hS.ok.len
 have hkx : kindN ns i0 = x.k := by unfold kindN; rw [hx]
 have h2 := dep_two hS.ok hid
 rw [hkx, hx] at h2
 have hpt := parts_lt hS.ok hid
 rw [hkx, hx] at hpt
 have h0 := hid.1
 refine Fn.enter (N := 45) hX Tryz.func103 rfl rfl (by show _ ≤ _; simp) (fun w0 hL => ?_)
 conv => whnf
 generalize keys (stL ab sb b bits e ma ml la ll La) = S0 at hL ⊢
 refine NewReq.mk hL ?_
 clear hL
 intro bn w hL
 conv => whnf
 obtain ⟨xk, s0, s1, s2, s3, a, b', neg⟩ := x
 simp only at h2 hpt hkx
 by_cases k0 : xk = 0
 ·subst k0
  refine go ?_;try(clear hL;intro w hL)
  refine CallReq.val (fo.false_fn m) hL ?_
  clear hL
  intro w hL
  refine go ?_;try(clear hL;intro w hL)
  exact RetReq.mk hL.drop ⟨ns, e, la, ll, La, [], List.prefix_refl _, hS, rfl, Sl.nil _ _ _, fo.FB.nil _⟩
 by_cases k4 : xk = 4
 ·subst k4
  have hk := h2 (by omega)
  have hp := hpt (by omega)
  refine go ?_;try(clear hL;intro w hL)
  refine DrawReq.planS hX (.fst 0 (.fst 1 (.fst 2 (.fst 3 (.fst 5 (.fst 6 (.fst 7 (.alt 4 (.alt 8 (.alt 9 (.fst 10 (.done)) (.stop)) (.stop)) (.stop))))))))) (TS m S0 w0 bn sb ab b bits ma ml ⟨4, s0, s1, s2, s3, a, b', neg⟩) (by kernel_rfl) (by kernel_rfl) hL (fun w h => TS.of h (Mem.Le.refl _)) ?_
  clear hL
  intro w hL
  conv => whnf
  repeat ((first | refine QLdReq.told hX rfl rfl TS.gab ?_ | refine QLdReq.told hX rfl rfl TS.ga ?_ | refine QLdReq.told hX rfl rfl TS.gb ?_ | (refine goq1 ?_;try(clear hL;intro w hL))); conv => whnf)
  refine CallReq.mk (L1 := stL ab sb b bits _ ma ml _ _ _) (L2 := [_]) (ih _ _ _ _ _ _ _ hS (okId_i64 hlen hp.1.1) (fun _ => Nat.lt_of_lt_of_le hk.1 hd)) (Loc.back (L1 := [_]) hL) ?_
  clear hL
  rintro u m2 L2 w hL hm2 ⟨ns2, e2, la2, ll2, La2, f2, hp2, hS2, rfl, hf2, hb2⟩
  obtain ⟨A2, n2, c2, rfl, -⟩ := id hf2
  have hL := Loc.back (L1 := stL ab sb b bits e2 ma ml la2 ll2 La2) (L2 := [_]) hL
  refine SReq.mk (TS.of hL hm2) ?_
  refine goq ?_;try(clear hL;intro w hL)
  have hbk := okId_pre hp2 hp.2.1
  have hdb := dep_grow hS.ok hS2.ok hp2 hp.2.1
  refine CallReq.mk (L1 := stL ab sb b bits _ ma ml _ _ _) (L2 := [_]) (ih _ _ _ _ _ _ _ hS2 (okId_i64 hS2.ok.len hbk) (fun _ => by rw [hdb]; exact Nat.lt_of_lt_of_le hk.2 hd)) (Loc.back (L1 := [_]) hL) ?_
  clear hL
  rintro u m4 L4 w hL hm4 ⟨ns4, e4, la4, ll4, La4, f4, hp4, hS4, rfl, hf4, hb4⟩
  obtain ⟨A4, n4, c4, rfl, -⟩ := id hf4
  have hL := Loc.back (L1 := stL ab sb b bits e4 ma ml la4 ll4 La4) (L2 := [_]) hL
  refine SReq.mk (TS.of hL (hm2.trans hm4)) ?_
  refine goq ?_;try(clear hL;intro w hL)
  refine CallReq.mk (L1 := [_]) (L2 := _ :: (ma, mapW _) :: (ml, mapW _) :: _) (or_fn _ ab sb b bits e4 ma ml _ _ f2 f4 ns4.length hS4.ok.len hS4.err (hf2.le hm4) hf4 (hb2.mono hp4.length_le) hb4) (hL.perm (List.Perm.swap _ _ _)) ?_
  clear hL
  rintro u m5 L5 w hL hm5 ⟨e5, r5, he5, rfl, hr5, hb5⟩
  obtain ⟨A5, n5, c5, rfl, -⟩ := id hr5
  have hL := hL.perm (List.Perm.swap _ _ _)
  refine SReq.mk (TS.of hL (hm2.trans (hm4.trans hm5))) ?_
  refine goq ?_;try(clear hL;intro w hL)
  exact RetReq.mk hL.drop ⟨ns4, e5, la4, ll4, La4, r5, hp2.trans hp4, (hS4.grow hm5).errs he5, rfl, hr5, hb5⟩
 by_cases k5 : xk = 5
 ·subst k5
  have hk := h2 (by omega)
  have hp := hpt (by omega)
  refine go ?_;try(clear hL;intro w hL)
  refine DrawReq.planS hX (.fst 0 (.fst 1 (.fst 2 (.fst 3 (.fst 5 (.fst 6 (.fst 7 (.alt 4 (.alt 8 (.alt 9 (.fst 10 (.done)) (.stop)) (.stop)) (.stop))))))))) (TS m S0 w0 bn sb ab b bits ma ml ⟨5, s0, s1, s2, s3, a, b', neg⟩) (by kernel_rfl) (by kernel_rfl) hL (fun w h => TS.of h (Mem.Le.refl _)) ?_
  clear hL
  intro w hL
  conv => whnf
  repeat ((first | refine QLdReq.told hX rfl rfl TS.gab ?_ | refine QLdReq.told hX rfl rfl TS.ga ?_ | refine QLdReq.told hX rfl rfl TS.gb ?_ | (refine goq1 ?_;try(clear hL;intro w hL))); conv => whnf)
  refine CallReq.mk (L1 := stL ab sb b bits _ ma ml _ _ _) (L2 := [_]) (ih _ _ _ _ _ _ _ hS (okId_i64 hlen hp.1.1) (fun _ => Nat.lt_of_lt_of_le hk.1 hd)) (Loc.back (L1 := [_]) hL) ?_
  clear hL
  rintro u m2 L2 w hL hm2 ⟨ns2, e2, la2, ll2, La2, f2, hp2, hS2, rfl, hf2, hb2⟩
  obtain ⟨A2, n2, c2, rfl, -⟩ := id hf2
  have hL := Loc.back (L1 := stL ab sb b bits e2 ma ml la2 ll2 La2) (L2 := [_]) hL
  refine SReq.mk (TS.of hL hm2) ?_
  refine goq ?_;try(clear hL;intro w hL)
  have hbk := okId_pre hp2 hp.2.1
  have hdb := dep_grow hS.ok hS2.ok hp2 hp.2.1
  refine CallReq.mk (L1 := stL ab sb b bits _ ma ml _ _ _) (L2 := [_]) (ih _ _ _ _ _ _ _ hS2 (okId_i64 hS2.ok.len hbk) (fun _ => by rw [hdb]; exact Nat.lt_of_lt_of_le hk.2 hd)) (Loc.back (L1 := [_]) hL) ?_
  clear hL
  rintro u m4 L4 w hL hm4 ⟨ns4, e4, la4, ll4, La4, f4, hp4, hS4, rfl, hf4, hb4⟩
  obtain ⟨A4, n4, c4, rfl, -⟩ := id hf4
  have hL := Loc.back (L1 := stL ab sb b bits e4 ma ml la4 ll4 La4) (L2 := [_]) hL
  refine SReq.mk (TS.of hL (hm2.trans hm4)) ?_
  refine goq ?_;try(clear hL;intro w hL)
  refine CallReq.mk (L1 := [_]) (L2 := _ :: (ma, mapW _) :: (ml, mapW _) :: _) (and_fn _ ab sb b bits e4 ma ml _ _ f2 f4 ns4.length hS4.ok.len hS4.err (hf2.le hm4) hf4 (hb2.mono hp4.length_le) hb4) (hL.perm (List.Perm.swap _ _ _)) ?_
  clear hL
  rintro u m5 L5 w hL hm5 ⟨e5, r5, he5, rfl, hr5, hb5⟩
  obtain ⟨A5, n5, c5, rfl, -⟩ := id hr5
  have hL := hL.perm (List.Perm.swap _ _ _)
  refine SReq.mk (TS.of hL (hm2.trans (hm4.trans hm5))) ?_
  refine goq ?_;try(clear hL;intro w hL)
  exact RetReq.mk hL.drop ⟨ns4, e5, la4, ll4, La4, r5, hp2.trans hp4, (hS4.grow hm5).errs he5, rfl, hr5, hb5⟩
 by_cases k6 : xk = 6
 ·subst k6
  refine go ?_;try(clear hL;intro w hL)
  refine CallReq.mk (L1 := stL ab sb b bits _ ma ml _ _ _) (L2 := [_]) (not_fn ih hS i0 a hid hkx (by rw [hx]) hd) (Loc.back (L1 := [_]) hL) ?_
  clear hL
  rintro u m2 L2 w hL hm2 ⟨ns2, e2, la2, ll2, La2, f2, hp2, hS2, rfl, hf2, hb2⟩
  obtain ⟨A2, n2, c2, rfl, -⟩ := id hf2
  have hL := Loc.back (L1 := stL ab sb b bits e2 ma ml la2 ll2 La2) (L2 := [_]) hL
  refine go ?_;try(clear hL;intro w hL)
  exact RetReq.mk hL.drop ⟨ns2, e2, la2, ll2, La2, f2, hp2, hS2, rfl, hf2, hb2⟩
 conv => whnf
 repeat ((first | refine BrReq.no (by omega) ?_ | (refine go1 ?_;try(clear hL;intro w hL))); conv => whnf)
 refine CallReq.pure (atomG_fn m i0 h0) hL ?_
 clear hL
 rintro u m1 w hL hm1 hf
 obtain ⟨A1, n1, c1, rfl, -⟩ := id hf
 refine go ?_;try(clear hL;intro w hL)
 exact RetReq.mk hL.drop ⟨ns, e, la, ll, La, [[i0]], List.prefix_refl _, hS.grow hm1, rfl, hf, atom_FB h0 hid.2⟩
set_option maxHeartbeats 4000000 in
theorem of_fn (ab sb b bits ma ml : Nat) : ∀ k, OfC ab sb b bits ma ml k := by
 intro k
 induction k with
 | zero =>
   intro m ns e la ll La i0 hS hi hd
   have hno : ¬ okId ns i0 := fun h => absurd (hd h) (Nat.not_lt_zero _)
   have hnode := Node_fn m ab ns La hS.ar i0
   rw [show nodeN ns i0 = (nd0, false) by unfold nodeN; exact if_neg hno] at hnode
   refine Fn.enter (N := 51) hX Tryz.func72 rfl rfl (by show _ ≤ _; simp) (fun w0 hL => ?_)
   conv => whnf
   generalize keys (stL ab sb b bits e ma ml la ll La) = S0 at hL ⊢
   refine go ?_;try(clear hL;intro w hL)
   refine CallReq.li (L1 := La) hnode (Loc.back (L1 := [_, _, _]) hL) ?_
   clear hL
   intro w hL
   have hL := Loc.back (L1 := La) (L2 := [_, _, _]) hL
   refine go ?_;try(clear hL;intro w hL)
   refine NewReq.mk hL ?_
   clear hL
   intro bn w hL
   conv => whnf
   refine go ?_;try(clear hL;intro w hL)
   refine CallReq.mk (L1 := [_]) (L2 := _ :: (ma, mapW _) :: (ml, mapW _) :: _) (keep_fn m ab sb b bits e 4 ma ml (.slice none 0 0) [] (Sl.nil _ _ _)) (hL.perm (List.Perm.swap _ _ _)) ?_
   clear hL
   rintro u m5 L5 w hL - ⟨rfl, rfl, rfl⟩
   have hL := hL.perm (List.Perm.swap _ _ _)
   refine go ?_;try(clear hL;intro w hL)
   exact RetReq.mk hL.drop ⟨ns, _, la, ll, La, [], List.prefix_refl _, hS.errs (keepOk hS.err (.inr rfl)), rfl, Sl.nil _ _ _, fo.FB.nil _⟩
 | succ k ih =>
   intro m ns e la ll La i0 hS hi hd
   by_cases hid : okId ns i0
   rotate_left
   ·have hnode := Node_fn m ab ns La hS.ar i0
    rw [show nodeN ns i0 = (nd0, false) by unfold nodeN; exact if_neg hid] at hnode
    refine Fn.enter (N := 51) hX Tryz.func72 rfl rfl (by show _ ≤ _; simp) (fun w0 hL => ?_)
    conv => whnf
    generalize keys (stL ab sb b bits e ma ml la ll La) = S0 at hL ⊢
    refine go ?_;try(clear hL;intro w hL)
    refine CallReq.li (L1 := La) hnode (Loc.back (L1 := [_, _, _]) hL) ?_
    clear hL
    intro w hL
    have hL := Loc.back (L1 := La) (L2 := [_, _, _]) hL
    refine go ?_;try(clear hL;intro w hL)
    refine NewReq.mk hL ?_
    clear hL
    intro bn w hL
    conv => whnf
    refine go ?_;try(clear hL;intro w hL)
    refine CallReq.mk (L1 := [_]) (L2 := _ :: (ma, mapW _) :: (ml, mapW _) :: _) (keep_fn m ab sb b bits e 4 ma ml (.slice none 0 0) [] (Sl.nil _ _ _)) (hL.perm (List.Perm.swap _ _ _)) ?_
    clear hL
    rintro u m5 L5 w hL - ⟨rfl, rfl, rfl⟩
    have hL := hL.perm (List.Perm.swap _ _ _)
    refine go ?_;try(clear hL;intro w hL)
    exact RetReq.mk hL.drop ⟨ns, _, la, ll, La, [], List.prefix_refl _, hS.errs (keepOk hS.err (.inr rfl)), rfl, Sl.nil _ _ _, fo.FB.nil _⟩
   obtain ⟨x, hx1, hx2⟩ := nodeN_ok hid
   have hnode := Node_fn m ab ns La hS.ar i0
   rw [hx1] at hnode
   simp only at hnode
   have hks := hS.are.keys
   have hmk := fun hd => make_fn (m := m) ih hS i0 x hid hx1 hd
   refine Fn.enter (N := 51) hX Tryz.func72 rfl rfl (by show _ ≤ _; simp) (fun w0 hL => ?_)
   conv => whnf
   generalize keys (stL ab sb b bits e ma ml la ll La) = S0 at hL ⊢
   refine go ?_;try(clear hL;intro w hL)
   refine CallReq.li (L1 := La) hnode (Loc.back (L1 := [_, _, _]) hL) ?_
   clear hL
   intro w hL
   have hL := Loc.back (L1 := La) (L2 := [_, _, _]) hL
   refine go ?_;try(clear hL;intro w hL)
   refine NewReq.mk hL ?_
   clear hL
   intro bn w hL
   conv => whnf
   refine go ?_;try(clear hL;intro w hL)
   refine RunReq.lookW hX rfl rfl key_int (z := .slice none 0 0) (by kernel_rfl) hL (.t (.t .h)) (isK_int _ hi) hks (fun hno => ?_) (fun v hv => ?_)
   rotate_left
   ·obtain ⟨kk, f, -, -, hf, hb⟩ := hS.are _ hv
    obtain ⟨A1, n1, c1, rfl, -⟩ := id hf
    refine go ?_;try(clear hL;intro w hL)
    exact RetReq.mk hL.drop ⟨ns, e, la, ll, La, f, List.prefix_refl _, hS, rfl, hf, hb⟩
   by_cases h0 : e = 0
   rotate_left
   ·conv => whnf
    repeat ((first | refine BrReq.no (by omega) ?_ | (refine go1 ?_;try(clear hL;intro w hL))); conv => whnf)
    exact RetReq.mk hL.drop ⟨ns, e, la, ll, La, [], List.prefix_refl _, hS, rfl, Sl.nil _ _ _, fo.FB.nil _⟩
   subst h0
   refine go ?_;try(clear hL;intro w hL)
   refine CallReq.mk (L1 := stL ab sb b bits _ ma ml _ _ _) (L2 := [_]) (hmk (by have := hd hid; omega)) (Loc.back (L1 := [_]) hL) ?_
   clear hL
   rintro u m2 L2 w hL hm2 ⟨ns2, e2, la2, ll2, La2, f2, hp2, hS2, rfl, hf2, hb2⟩
   obtain ⟨A2, n2, c2, rfl, -⟩ := id hf2
   have hL := Loc.back (L1 := stL ab sb b bits e2 ma ml la2 ll2 La2) (L2 := [_]) hL
   have hnew : isF m2 ns2.length (.int .i64 i0, .slice A2 n2 c2) := ⟨i0, f2, rfl, hi, hf2, hb2⟩
   refine go ?_;try(clear hL;intro w hL)
   refine RunUReq.updW hX rfl rfl key_int (k := .int .i64 i0) (v := .slice A2 n2 c2) 2 hL rfl (isK_int _ hi) hS2.are.keys (fun _ w hL => ?_) (fun q u hq w hL => ?_)
   ·refine go ?_;try(clear hL;intro w hL)
    exact RetReq.mk hL.drop ⟨ns2, e2, _, ll2, La2, f2, hp2, ⟨hS2.ar, hS2.ok, hS2.are.app hnew, hS2.left, hS2.err⟩, rfl, hf2, hb2⟩
   ·refine go ?_;try(clear hL;intro w hL)
    exact RetReq.mk hL.drop ⟨ns2, e2, _, ll2, La2, f2, hp2, ⟨hS2.ar, hS2.ok, hS2.are.set hnew q, hS2.left, hS2.err⟩, rfl, hf2, hb2⟩
end Go.Proofs.YtaooenndoopgdaaGreatDoor.li
namespace Go.Proofs.YtaooenndoopgdaaGreatDoor.li
open Go Go.Ev Go.Proofs Go.Proofs.YtaooenndoopgdaaGreatDoor.ar
def StR (ab sb b bits : Nat) (ns : List Nd) (ma ml : Nat) (Lc : Ev.Own) : Mem → Ev.Own → Value → Prop := fun m' L' u => ∃ ns' e' la' ll' La' f, ns <+: ns' ∧ Stp ab sb b bits m' ns' e' ma ml la' ll' La' ∧ L' = Lc ++ stL ab sb b bits e' ma ml la' ll' La' ∧ fo.FmV m' u f ∧ fo.FB ns'.length f
def CalC (ab sb b bits ma ml : Nat) (F : Nat) (args : Int → List Value) (Lc : Ev.Own) (ns0 : List Nd) : Prop := ∀ (m : Mem) (ns : List Nd) (e : Int) (la ll : List (Value × Value)) (La : Ev.Own) (z : Int), ns0 <+: ns → okId ns0 z → Stp ab sb b bits m ns e ma ml la ll La →
 Ev.Fn Tryz.prog F (args z) m (Lc ++ stL ab sb b bits e ma ml la ll La) (StR ab sb b bits ns ma ml Lc)
theorem p1 {m0 m : Mem} {S : List Nat} {w0 w : World} {x y : Nat × Obj} {L : Ev.Own} (h : Ev.Loc m0 S w0 m ([x] ++ (y :: L)) w) : Ev.Loc m0 S w0 m ([y] ++ ([x] ++ L)) w := h.perm (List.Perm.swap _ _ _)
theorem p2 {m0 m : Mem} {S : List Nat} {w0 w : World} {x z y : Nat × Obj} {L : Ev.Own} (h : Ev.Loc m0 S w0 m ([x, z] ++ (y :: L)) w) : Ev.Loc m0 S w0 m ([y] ++ ([x, z] ++ L)) w := h.perm ((List.Perm.cons _ (List.Perm.swap _ _ _)).trans (List.Perm.swap _ _ _))
theorem q1 {m0 m : Mem} {S : List Nat} {w0 w : World} {x y : Nat × Obj} {L : Ev.Own} (h : Ev.Loc m0 S w0 m ([y] ++ ([x] ++ L)) w) : Ev.Loc m0 S w0 m ([x] ++ (y :: L)) w := h.perm (List.Perm.swap _ _ _)
theorem q2 {m0 m : Mem} {S : List Nat} {w0 w : World} {x z y : Nat × Obj} {L : Ev.Own} (h : Ev.Loc m0 S w0 m ([y] ++ ([x, z] ++ L)) w) : Ev.Loc m0 S w0 m ([x, z] ++ (y :: L)) w := h.perm ((List.Perm.swap _ _ _).trans (List.Perm.cons _ (List.Perm.swap _ _ _)))
set_option maxHeartbeats 4000000 in
theorem put0_fn {ab sb b bits : Nat} {m : Mem} {ns : List Nd} {e : Int} {ma ml : Nat} {la ll : List (Value × Value)} {La : Ev.Own} (v : Value) (f : fo.Fml)  (hS : Stp ab sb b bits m ns e ma ml la ll La) (hv : fo.FmV m v f) (hf : fo.FB ns.length f)
  (hcal : CalC ab sb b bits ma ml 82 (fun z => [.pointer (some ⟨sb, 0, none⟩), .int .i64 z]) ([] : Ev.Own) ns) :
  Ev.Fn Tryz.prog 81 [.pointer (some ⟨sb, 0, none⟩), v, .func (.func 82) (toArr [.pointer (some ⟨sb, 0, none⟩)]) (toArr [])] m (([] : Ev.Own) ++ stL ab sb b bits e ma ml la ll La) (StR ab sb b bits ns ma ml ([] : Ev.Own)) := by
 have hmx : maxLen = 9223372036854775807 := rfl
 have hfl := hf.len
 have hnl := hS.ok.len
 have hv' := hv
 obtain ⟨A0, n0, c0, rfl, hn0, -⟩ := id hv
 subst hn0
 generalize hns : ns = ns0 at hf hcal hnl
 refine Fn.enter (N := 45) hX Tryz.func81 rfl rfl (by show _ ≤ _; simp) (fun w0 hL => ?_)
 conv => whnf
 generalize keys (([] : Ev.Own) ++ stL ab sb b bits e ma ml la ll La) = S0 at hL ⊢
 refine go ?_;try(clear hL;intro w hL)
 refine CallReq.val (fo.false_fn m) hL ?_
 clear hL
 intro w hL
 refine go ?_;try(clear hL;intro w hL)
 refine LoopReq.inv hX (fun s : Nat × Option Addr × Nat × Nat => [(7, .slice s.2.1 s.2.2.1 s.2.2.2), (16, .int .i64 s.1)]) [0, 2, 14, 15]
  (fun s w => s.1 ≤ f.length ∧ ∃ m1 ns1 e1 la1 ll1 La1 r, Mem.Le m m1 ∧ ns0 <+: ns1 ∧ Stp ab sb b bits m1 ns1 e1 ma ml la1 ll1 La1 ∧ fo.FmV m1 (.slice s.2.1 s.2.2.1 s.2.2.2) r ∧ fo.FB ns1.length r ∧ Ev.Loc m S0 w0 m1 (([] : Ev.Own) ++ stL ab sb b bits e1 ma ml la1 ll1 La1) w) (fun s => f.length - s.1) (0, none, 0, 0)
  ⟨Nat.zero_le _, m, ns, e, la, ll, La, [], Mem.Le.refl m, hns ▸ List.prefix_refl _, hS, Sl.nil _ _ _, fo.FB.nil _, hL⟩ ⟨rfl, rfl, trivial⟩ ?_
 clear hL hS hns e la ll La ns
 rintro ⟨j, A1, n1, c1⟩ w g ⟨hj, m1, ns, e, la, ll, La, r, hm1, hpre, hS, hr, hrb, hL⟩
 simp only at hj hr
 refine go ?_;try(clear hL;intro w hL)
 refine BrReq.dec (fun hlt => ?_) (fun hlt => ?_)
 rotate_left
 ·refine go ?_;try(clear hL;intro w hL)
  exact RetReq.mk hL ⟨ns, e, la, ll, La, r, hpre, hS, rfl, hr, hrb⟩
 have hj1 : j < f.length := by simp only at hlt; omega
 have hjm := List.getElem_mem hj1
 have hpl := hf.lt _ hjm
 have hpr := hf.formed.rises _ hjm
 have hplen := hf.part hjm
 obtain ⟨a5, A5, n5, c5, ea, hcell, hpq⟩ := (hv'.le hm1).at_ hj1
 generalize f[j] = p at hpl hpr hpq hplen
 obtain ⟨hpn, he5⟩ := hpq.cell
 conv => whnf
 repeat ((first | (refine Idx2Req.mk j a5 rfl (by simp only at hlt; omega) ea ?_) | refine LdReq.one hX rfl rfl hL hcell ?_ | (refine go1 ?_;try(clear hL;intro w hL))); conv => whnf)
 refine CallReq.pure (fo.true_fn m1) hL ?_
 clear hL
 rintro u m2 w hL hm2 ht
 obtain ⟨At, nt, ct, rfl, -⟩ := id ht
 refine go ?_;try(clear hL;intro w hL)
 refine LoopReq.inv hX (fun s : Nat × Option Addr × Nat × Nat => [(10, .slice s.2.1 s.2.2.1 s.2.2.2), (23, .int .i64 s.1)]) [0, 2, 7, 14, 15, 16, 21, 22]
  (fun s w => s.1 ≤ p.length ∧ ∃ m3 ns1 e1 la1 ll1 La1 q, Mem.Le m2 m3 ∧ ns <+: ns1 ∧ Stp ab sb b bits m3 ns1 e1 ma ml la1 ll1 La1 ∧ fo.FmV m3 (.slice s.2.1 s.2.2.1 s.2.2.2) q ∧ fo.FB ns1.length q ∧ Ev.Loc m S0 w0 m3 (([] : Ev.Own) ++ stL ab sb b bits e1 ma ml la1 ll1 La1) w) (fun s => p.length - s.1) (0, At, nt, ct)
  ⟨Nat.zero_le _, m2, ns, e, la, ll, La, [[]], Mem.Le.refl m2, List.prefix_refl _, hS.grow hm2, ht, true_FB _, hL⟩ ⟨rfl, rfl, trivial⟩ ?_
 clear hL ht
 rintro ⟨i, A3, n3, c3⟩ w g2 ⟨hi, m3, ns1, e1, la1, ll1, La1, q, hm3, hpre1, hS1, hq, hqb, hL⟩
 simp only at hi hq
 refine go ?_;try(clear hL;intro w hL)
 refine BrReq.dec (fun hlt2 => ?_) (fun hlt2 => ?_)
 ·have hi1 : i < p.length := by simp only at hlt2; omega
  obtain ⟨a6, ea6, hc6⟩ := he5 i _ (List.getElem?_eq_getElem hi1)
  have hz : okId ns0 p[i] := ⟨hpr.1 _ (List.getElem_mem hi1), hpl _ (List.getElem_mem hi1)⟩
  conv => whnf
  repeat ((first | (refine Idx2Req.mk i a6 rfl (by simp only at hlt2; omega) ea6 ?_) | (refine LdReq.one hX rfl rfl hL (by rw [scale_eq, Nat.mul_one]; exact mcell_le (hm2.trans hm3) hc6) ?_) | (refine go1 ?_;try(clear hL;intro w hL))); conv => whnf)
  refine CallReq.mk (L1 := ([] : Ev.Own) ++ stL ab sb b bits _ ma ml _ _ _) (L2 := []) (hcal m3 ns1 e1 la1 ll1 La1 p[i] (hpre.trans hpre1) hz hS1) (by rw [List.append_nil]; exact hL) ?_
  clear hL
  rintro u m4 L4 w hL hm4 ⟨ns4, e4, la4, ll4, La4, f4, hp4, hS4, rfl, hf4, hb4⟩
  rw [List.append_nil] at hL
  obtain ⟨A4, n4, c4, rfl, -⟩ := id hf4
  refine go ?_;try(clear hL;intro w hL)
  refine CallReq.mk (L1 := [(sb, stO ab b bits e4 ma ml)]) (L2 := ([] : Ev.Own) ++ (ma, mapW la4) :: (ml, mapW ll4) :: La4) (and_fn m4 ab sb b bits e4 ma ml _ _ q f4 ns4.length hS4.ok.len hS4.err (hq.le hm4) hf4 (hqb.mono hp4.length_le) hb4) (hL) ?_
  clear hL
  rintro u m5 L5 w hL hm5 ⟨e5, r5, he5', rfl, hr5, hb5⟩
  obtain ⟨A6, n6, c6, rfl, -⟩ := id hr5
  replace hL : Ev.Loc m S0 w0 m5 (([] : Ev.Own) ++ stL ab sb b bits e5 ma ml la4 ll4 La4) w := hL
  refine go ?_;try(clear hL;intro w hL)
  exact rnd (i + 1, A6, n6, c6) ⟨by simp only; omega, m5, ns4, e5, la4, ll4, La4, r5, hm3.trans (hm4.trans hm5), hpre1.trans hp4, (hS4.grow hm5).errs he5', hr5, hb5, hL⟩
 refine go ?_;try(clear hL;intro w hL)
 refine CallReq.mk (L1 := [(sb, stO ab b bits e1 ma ml)]) (L2 := ([] : Ev.Own) ++ (ma, mapW la1) :: (ml, mapW ll1) :: La1) (or_fn m3 ab sb b bits e1 ma ml _ _ r q ns1.length hS1.ok.len hS1.err (hr.le (hm2.trans hm3)) hq (hrb.mono hpre1.length_le) hqb) (hL) ?_
 clear hL
 rintro u m5 L5 w hL hm5 ⟨e5, r5, he5', rfl, hr5, hb5⟩
 obtain ⟨A6, n6, c6, rfl, -⟩ := id hr5
 replace hL : Ev.Loc m S0 w0 m5 (([] : Ev.Own) ++ stL ab sb b bits e5 ma ml la1 ll1 La1) w := hL
 by_cases h0 : e5 = 0
 ·subst h0
  refine go ?_;try(clear hL;intro w hL)
  exact rnd (j + 1, A6, n6, c6) ⟨by simp only; omega, m5, ns1, 0, la1, ll1, La1, r5, hm1.trans (hm2.trans (hm3.trans hm5)), hpre.trans hpre1, (hS1.grow hm5).errs he5', hr5, hb5, hL⟩
 ·conv => whnf
  repeat ((first | refine BrReq.yes (by omega) ?_ | (refine go1 ?_;try(clear hL;intro w hL))); conv => whnf)
  exact RetReq.mk hL ⟨ns1, e5, la1, ll1, La1, [], hpre.trans hpre1, (hS1.grow hm5).errs he5', rfl, Sl.nil _ _ _, fo.FB.nil _⟩
set_option maxHeartbeats 4000000 in
theorem put1_fn {ab sb b bits : Nat} {m : Mem} {ns : List Nd} {e : Int} {ma ml : Nat} {la ll : List (Value × Value)} {La : Ev.Own} (v : Value) (f : fo.Fml) (b3 : Nat) (hS : Stp ab sb b bits m ns e ma ml la ll La) (hv : fo.FmV m v f) (hf : fo.FB ns.length f)
  (hcal : CalC ab sb b bits ma ml 165 (fun z => [.int .i64 z, .pointer (some ⟨b3, 0, none⟩)]) [(b3, .cells (toArr [.pointer (some ⟨sb, 0, none⟩)]) 149 (0, 0))] ns) :
  Ev.Fn Tryz.prog 81 [.pointer (some ⟨sb, 0, none⟩), v, .func (.func 165) (toArr []) (toArr [.pointer (some ⟨b3, 0, none⟩)])] m ([(b3, .cells (toArr [.pointer (some ⟨sb, 0, none⟩)]) 149 (0, 0))] ++ stL ab sb b bits e ma ml la ll La) (StR ab sb b bits ns ma ml [(b3, .cells (toArr [.pointer (some ⟨sb, 0, none⟩)]) 149 (0, 0))]) := by
 have hmx : maxLen = 9223372036854775807 := rfl
 have hfl := hf.len
 have hnl := hS.ok.len
 have hv' := hv
 obtain ⟨A0, n0, c0, rfl, hn0, -⟩ := id hv
 subst hn0
 generalize hns : ns = ns0 at hf hcal hnl
 refine Fn.enter (N := 45) hX Tryz.func81 rfl rfl (by show _ ≤ _; simp) (fun w0 hL => ?_)
 conv => whnf
 generalize keys ([(b3, .cells (toArr [.pointer (some ⟨sb, 0, none⟩)]) 149 (0, 0))] ++ stL ab sb b bits e ma ml la ll La) = S0 at hL ⊢
 refine go ?_;try(clear hL;intro w hL)
 refine CallReq.val (fo.false_fn m) hL ?_
 clear hL
 intro w hL
 refine go ?_;try(clear hL;intro w hL)
 refine LoopReq.inv hX (fun s : Nat × Option Addr × Nat × Nat => [(7, .slice s.2.1 s.2.2.1 s.2.2.2), (16, .int .i64 s.1)]) [0, 2, 14, 15]
  (fun s w => s.1 ≤ f.length ∧ ∃ m1 ns1 e1 la1 ll1 La1 r, Mem.Le m m1 ∧ ns0 <+: ns1 ∧ Stp ab sb b bits m1 ns1 e1 ma ml la1 ll1 La1 ∧ fo.FmV m1 (.slice s.2.1 s.2.2.1 s.2.2.2) r ∧ fo.FB ns1.length r ∧ Ev.Loc m S0 w0 m1 ([(b3, .cells (toArr [.pointer (some ⟨sb, 0, none⟩)]) 149 (0, 0))] ++ stL ab sb b bits e1 ma ml la1 ll1 La1) w) (fun s => f.length - s.1) (0, none, 0, 0)
  ⟨Nat.zero_le _, m, ns, e, la, ll, La, [], Mem.Le.refl m, hns ▸ List.prefix_refl _, hS, Sl.nil _ _ _, fo.FB.nil _, hL⟩ ⟨rfl, rfl, trivial⟩ ?_
 clear hL hS hns e la ll La ns
 rintro ⟨j, A1, n1, c1⟩ w g ⟨hj, m1, ns, e, la, ll, La, r, hm1, hpre, hS, hr, hrb, hL⟩
 simp only at hj hr
 refine go ?_;try(clear hL;intro w hL)
 refine BrReq.dec (fun hlt => ?_) (fun hlt => ?_)
 rotate_left
 ·refine go ?_;try(clear hL;intro w hL)
  exact RetReq.mk hL ⟨ns, e, la, ll, La, r, hpre, hS, rfl, hr, hrb⟩
 have hj1 : j < f.length := by simp only at hlt; omega
 have hjm := List.getElem_mem hj1
 have hpl := hf.lt _ hjm
 have hpr := hf.formed.rises _ hjm
 have hplen := hf.part hjm
 obtain ⟨a5, A5, n5, c5, ea, hcell, hpq⟩ := (hv'.le hm1).at_ hj1
 generalize f[j] = p at hpl hpr hpq hplen
 obtain ⟨hpn, he5⟩ := hpq.cell
 conv => whnf
 repeat ((first | (refine Idx2Req.mk j a5 rfl (by simp only at hlt; omega) ea ?_) | refine LdReq.one hX rfl rfl hL hcell ?_ | (refine go1 ?_;try(clear hL;intro w hL))); conv => whnf)
 refine CallReq.pure (fo.true_fn m1) hL ?_
 clear hL
 rintro u m2 w hL hm2 ht
 obtain ⟨At, nt, ct, rfl, -⟩ := id ht
 refine go ?_;try(clear hL;intro w hL)
 refine LoopReq.inv hX (fun s : Nat × Option Addr × Nat × Nat => [(10, .slice s.2.1 s.2.2.1 s.2.2.2), (23, .int .i64 s.1)]) [0, 2, 7, 14, 15, 16, 21, 22]
  (fun s w => s.1 ≤ p.length ∧ ∃ m3 ns1 e1 la1 ll1 La1 q, Mem.Le m2 m3 ∧ ns <+: ns1 ∧ Stp ab sb b bits m3 ns1 e1 ma ml la1 ll1 La1 ∧ fo.FmV m3 (.slice s.2.1 s.2.2.1 s.2.2.2) q ∧ fo.FB ns1.length q ∧ Ev.Loc m S0 w0 m3 ([(b3, .cells (toArr [.pointer (some ⟨sb, 0, none⟩)]) 149 (0, 0))] ++ stL ab sb b bits e1 ma ml la1 ll1 La1) w) (fun s => p.length - s.1) (0, At, nt, ct)
  ⟨Nat.zero_le _, m2, ns, e, la, ll, La, [[]], Mem.Le.refl m2, List.prefix_refl _, hS.grow hm2, ht, true_FB _, hL⟩ ⟨rfl, rfl, trivial⟩ ?_
 clear hL ht
 rintro ⟨i, A3, n3, c3⟩ w g2 ⟨hi, m3, ns1, e1, la1, ll1, La1, q, hm3, hpre1, hS1, hq, hqb, hL⟩
 simp only at hi hq
 refine go ?_;try(clear hL;intro w hL)
 refine BrReq.dec (fun hlt2 => ?_) (fun hlt2 => ?_)
 ·have hi1 : i < p.length := by simp only at hlt2; omega
  obtain ⟨a6, ea6, hc6⟩ := he5 i _ (List.getElem?_eq_getElem hi1)
  have hz : okId ns0 p[i] := ⟨hpr.1 _ (List.getElem_mem hi1), hpl _ (List.getElem_mem hi1)⟩
  conv => whnf
  repeat ((first | (refine Idx2Req.mk i a6 rfl (by simp only at hlt2; omega) ea6 ?_) | (refine LdReq.one hX rfl rfl hL (by rw [scale_eq, Nat.mul_one]; exact mcell_le (hm2.trans hm3) hc6) ?_) | (refine go1 ?_;try(clear hL;intro w hL))); conv => whnf)
  refine CallReq.mk (L1 := [(b3, .cells (toArr [.pointer (some ⟨sb, 0, none⟩)]) 149 (0, 0))] ++ stL ab sb b bits _ ma ml _ _ _) (L2 := []) (hcal m3 ns1 e1 la1 ll1 La1 p[i] (hpre.trans hpre1) hz hS1) (by rw [List.append_nil]; exact hL) ?_
  clear hL
  rintro u m4 L4 w hL hm4 ⟨ns4, e4, la4, ll4, La4, f4, hp4, hS4, rfl, hf4, hb4⟩
  rw [List.append_nil] at hL
  obtain ⟨A4, n4, c4, rfl, -⟩ := id hf4
  refine go ?_;try(clear hL;intro w hL)
  refine CallReq.mk (L1 := [(sb, stO ab b bits e4 ma ml)]) (L2 := [(b3, .cells (toArr [.pointer (some ⟨sb, 0, none⟩)]) 149 (0, 0))] ++ (ma, mapW la4) :: (ml, mapW ll4) :: La4) (and_fn m4 ab sb b bits e4 ma ml _ _ q f4 ns4.length hS4.ok.len hS4.err (hq.le hm4) hf4 (hqb.mono hp4.length_le) hb4) (p1 hL) ?_
  clear hL
  rintro u m5 L5 w hL hm5 ⟨e5, r5, he5', rfl, hr5, hb5⟩
  obtain ⟨A6, n6, c6, rfl, -⟩ := id hr5
  replace hL : Ev.Loc m S0 w0 m5 ([(b3, .cells (toArr [.pointer (some ⟨sb, 0, none⟩)]) 149 (0, 0))] ++ stL ab sb b bits e5 ma ml la4 ll4 La4) w := q1 hL
  refine go ?_;try(clear hL;intro w hL)
  exact rnd (i + 1, A6, n6, c6) ⟨by simp only; omega, m5, ns4, e5, la4, ll4, La4, r5, hm3.trans (hm4.trans hm5), hpre1.trans hp4, (hS4.grow hm5).errs he5', hr5, hb5, hL⟩
 refine go ?_;try(clear hL;intro w hL)
 refine CallReq.mk (L1 := [(sb, stO ab b bits e1 ma ml)]) (L2 := [(b3, .cells (toArr [.pointer (some ⟨sb, 0, none⟩)]) 149 (0, 0))] ++ (ma, mapW la1) :: (ml, mapW ll1) :: La1) (or_fn m3 ab sb b bits e1 ma ml _ _ r q ns1.length hS1.ok.len hS1.err (hr.le (hm2.trans hm3)) hq (hrb.mono hpre1.length_le) hqb) (p1 hL) ?_
 clear hL
 rintro u m5 L5 w hL hm5 ⟨e5, r5, he5', rfl, hr5, hb5⟩
 obtain ⟨A6, n6, c6, rfl, -⟩ := id hr5
 replace hL : Ev.Loc m S0 w0 m5 ([(b3, .cells (toArr [.pointer (some ⟨sb, 0, none⟩)]) 149 (0, 0))] ++ stL ab sb b bits e5 ma ml la1 ll1 La1) w := q1 hL
 by_cases h0 : e5 = 0
 ·subst h0
  refine go ?_;try(clear hL;intro w hL)
  exact rnd (j + 1, A6, n6, c6) ⟨by simp only; omega, m5, ns1, 0, la1, ll1, La1, r5, hm1.trans (hm2.trans (hm3.trans hm5)), hpre.trans hpre1, (hS1.grow hm5).errs he5', hr5, hb5, hL⟩
 ·conv => whnf
  repeat ((first | refine BrReq.yes (by omega) ?_ | (refine go1 ?_;try(clear hL;intro w hL))); conv => whnf)
  exact RetReq.mk hL ⟨ns1, e5, la1, ll1, La1, [], hpre.trans hpre1, (hS1.grow hm5).errs he5', rfl, Sl.nil _ _ _, fo.FB.nil _⟩
set_option maxHeartbeats 4000000 in
theorem put2_fn {ab sb b bits : Nat} {m : Mem} {ns : List Nd} {e : Int} {ma ml : Nat} {la ll : List (Value × Value)} {La : Ev.Own} (v : Value) (f : fo.Fml) (b3 b5 : Nat) (y : Int) (hS : Stp ab sb b bits m ns e ma ml la ll La) (hv : fo.FmV m v f) (hf : fo.FB ns.length f)
  (hcal : CalC ab sb b bits ma ml 195 (fun z => [.int .i64 z, .pointer (some ⟨b3, 0, none⟩), .pointer (some ⟨b5, 0, none⟩)]) [(b5, .cells (toArr [.int .i64 y]) 3 (0, 0)), (b3, .cells (toArr [.pointer (some ⟨sb, 0, none⟩)]) 149 (0, 0))] ns) :
  Ev.Fn Tryz.prog 81 [.pointer (some ⟨sb, 0, none⟩), v, .func (.func 195) (toArr []) (toArr [.pointer (some ⟨b3, 0, none⟩), .pointer (some ⟨b5, 0, none⟩)])] m ([(b5, .cells (toArr [.int .i64 y]) 3 (0, 0)), (b3, .cells (toArr [.pointer (some ⟨sb, 0, none⟩)]) 149 (0, 0))] ++ stL ab sb b bits e ma ml la ll La) (StR ab sb b bits ns ma ml [(b5, .cells (toArr [.int .i64 y]) 3 (0, 0)), (b3, .cells (toArr [.pointer (some ⟨sb, 0, none⟩)]) 149 (0, 0))]) := by
 have hmx : maxLen = 9223372036854775807 := rfl
 have hfl := hf.len
 have hnl := hS.ok.len
 have hv' := hv
 obtain ⟨A0, n0, c0, rfl, hn0, -⟩ := id hv
 subst hn0
 generalize hns : ns = ns0 at hf hcal hnl
 refine Fn.enter (N := 45) hX Tryz.func81 rfl rfl (by show _ ≤ _; simp) (fun w0 hL => ?_)
 conv => whnf
 generalize keys ([(b5, .cells (toArr [.int .i64 y]) 3 (0, 0)), (b3, .cells (toArr [.pointer (some ⟨sb, 0, none⟩)]) 149 (0, 0))] ++ stL ab sb b bits e ma ml la ll La) = S0 at hL ⊢
 refine go ?_;try(clear hL;intro w hL)
 refine CallReq.val (fo.false_fn m) hL ?_
 clear hL
 intro w hL
 refine go ?_;try(clear hL;intro w hL)
 refine LoopReq.inv hX (fun s : Nat × Option Addr × Nat × Nat => [(7, .slice s.2.1 s.2.2.1 s.2.2.2), (16, .int .i64 s.1)]) [0, 2, 14, 15]
  (fun s w => s.1 ≤ f.length ∧ ∃ m1 ns1 e1 la1 ll1 La1 r, Mem.Le m m1 ∧ ns0 <+: ns1 ∧ Stp ab sb b bits m1 ns1 e1 ma ml la1 ll1 La1 ∧ fo.FmV m1 (.slice s.2.1 s.2.2.1 s.2.2.2) r ∧ fo.FB ns1.length r ∧ Ev.Loc m S0 w0 m1 ([(b5, .cells (toArr [.int .i64 y]) 3 (0, 0)), (b3, .cells (toArr [.pointer (some ⟨sb, 0, none⟩)]) 149 (0, 0))] ++ stL ab sb b bits e1 ma ml la1 ll1 La1) w) (fun s => f.length - s.1) (0, none, 0, 0)
  ⟨Nat.zero_le _, m, ns, e, la, ll, La, [], Mem.Le.refl m, hns ▸ List.prefix_refl _, hS, Sl.nil _ _ _, fo.FB.nil _, hL⟩ ⟨rfl, rfl, trivial⟩ ?_
 clear hL hS hns e la ll La ns
 rintro ⟨j, A1, n1, c1⟩ w g ⟨hj, m1, ns, e, la, ll, La, r, hm1, hpre, hS, hr, hrb, hL⟩
 simp only at hj hr
 refine go ?_;try(clear hL;intro w hL)
 refine BrReq.dec (fun hlt => ?_) (fun hlt => ?_)
 rotate_left
 ·refine go ?_;try(clear hL;intro w hL)
  exact RetReq.mk hL ⟨ns, e, la, ll, La, r, hpre, hS, rfl, hr, hrb⟩
 have hj1 : j < f.length := by simp only at hlt; omega
 have hjm := List.getElem_mem hj1
 have hpl := hf.lt _ hjm
 have hpr := hf.formed.rises _ hjm
 have hplen := hf.part hjm
 obtain ⟨a5, A5, n5, c5, ea, hcell, hpq⟩ := (hv'.le hm1).at_ hj1
 generalize f[j] = p at hpl hpr hpq hplen
 obtain ⟨hpn, he5⟩ := hpq.cell
 conv => whnf
 repeat ((first | (refine Idx2Req.mk j a5 rfl (by simp only at hlt; omega) ea ?_) | refine LdReq.one hX rfl rfl hL hcell ?_ | (refine go1 ?_;try(clear hL;intro w hL))); conv => whnf)
 refine CallReq.pure (fo.true_fn m1) hL ?_
 clear hL
 rintro u m2 w hL hm2 ht
 obtain ⟨At, nt, ct, rfl, -⟩ := id ht
 refine go ?_;try(clear hL;intro w hL)
 refine LoopReq.inv hX (fun s : Nat × Option Addr × Nat × Nat => [(10, .slice s.2.1 s.2.2.1 s.2.2.2), (23, .int .i64 s.1)]) [0, 2, 7, 14, 15, 16, 21, 22]
  (fun s w => s.1 ≤ p.length ∧ ∃ m3 ns1 e1 la1 ll1 La1 q, Mem.Le m2 m3 ∧ ns <+: ns1 ∧ Stp ab sb b bits m3 ns1 e1 ma ml la1 ll1 La1 ∧ fo.FmV m3 (.slice s.2.1 s.2.2.1 s.2.2.2) q ∧ fo.FB ns1.length q ∧ Ev.Loc m S0 w0 m3 ([(b5, .cells (toArr [.int .i64 y]) 3 (0, 0)), (b3, .cells (toArr [.pointer (some ⟨sb, 0, none⟩)]) 149 (0, 0))] ++ stL ab sb b bits e1 ma ml la1 ll1 La1) w) (fun s => p.length - s.1) (0, At, nt, ct)
  ⟨Nat.zero_le _, m2, ns, e, la, ll, La, [[]], Mem.Le.refl m2, List.prefix_refl _, hS.grow hm2, ht, true_FB _, hL⟩ ⟨rfl, rfl, trivial⟩ ?_
 clear hL ht
 rintro ⟨i, A3, n3, c3⟩ w g2 ⟨hi, m3, ns1, e1, la1, ll1, La1, q, hm3, hpre1, hS1, hq, hqb, hL⟩
 simp only at hi hq
 refine go ?_;try(clear hL;intro w hL)
 refine BrReq.dec (fun hlt2 => ?_) (fun hlt2 => ?_)
 ·have hi1 : i < p.length := by simp only at hlt2; omega
  obtain ⟨a6, ea6, hc6⟩ := he5 i _ (List.getElem?_eq_getElem hi1)
  have hz : okId ns0 p[i] := ⟨hpr.1 _ (List.getElem_mem hi1), hpl _ (List.getElem_mem hi1)⟩
  conv => whnf
  repeat ((first | (refine Idx2Req.mk i a6 rfl (by simp only at hlt2; omega) ea6 ?_) | (refine LdReq.one hX rfl rfl hL (by rw [scale_eq, Nat.mul_one]; exact mcell_le (hm2.trans hm3) hc6) ?_) | (refine go1 ?_;try(clear hL;intro w hL))); conv => whnf)
  refine CallReq.mk (L1 := [(b5, .cells (toArr [.int .i64 y]) 3 (0, 0)), (b3, .cells (toArr [.pointer (some ⟨sb, 0, none⟩)]) 149 (0, 0))] ++ stL ab sb b bits _ ma ml _ _ _) (L2 := []) (hcal m3 ns1 e1 la1 ll1 La1 p[i] (hpre.trans hpre1) hz hS1) (by rw [List.append_nil]; exact hL) ?_
  clear hL
  rintro u m4 L4 w hL hm4 ⟨ns4, e4, la4, ll4, La4, f4, hp4, hS4, rfl, hf4, hb4⟩
  rw [List.append_nil] at hL
  obtain ⟨A4, n4, c4, rfl, -⟩ := id hf4
  refine go ?_;try(clear hL;intro w hL)
  refine CallReq.mk (L1 := [(sb, stO ab b bits e4 ma ml)]) (L2 := [(b5, .cells (toArr [.int .i64 y]) 3 (0, 0)), (b3, .cells (toArr [.pointer (some ⟨sb, 0, none⟩)]) 149 (0, 0))] ++ (ma, mapW la4) :: (ml, mapW ll4) :: La4) (and_fn m4 ab sb b bits e4 ma ml _ _ q f4 ns4.length hS4.ok.len hS4.err (hq.le hm4) hf4 (hqb.mono hp4.length_le) hb4) (p2 hL) ?_
  clear hL
  rintro u m5 L5 w hL hm5 ⟨e5, r5, he5', rfl, hr5, hb5⟩
  obtain ⟨A6, n6, c6, rfl, -⟩ := id hr5
  replace hL : Ev.Loc m S0 w0 m5 ([(b5, .cells (toArr [.int .i64 y]) 3 (0, 0)), (b3, .cells (toArr [.pointer (some ⟨sb, 0, none⟩)]) 149 (0, 0))] ++ stL ab sb b bits e5 ma ml la4 ll4 La4) w := q2 hL
  refine go ?_;try(clear hL;intro w hL)
  exact rnd (i + 1, A6, n6, c6) ⟨by simp only; omega, m5, ns4, e5, la4, ll4, La4, r5, hm3.trans (hm4.trans hm5), hpre1.trans hp4, (hS4.grow hm5).errs he5', hr5, hb5, hL⟩
 refine go ?_;try(clear hL;intro w hL)
 refine CallReq.mk (L1 := [(sb, stO ab b bits e1 ma ml)]) (L2 := [(b5, .cells (toArr [.int .i64 y]) 3 (0, 0)), (b3, .cells (toArr [.pointer (some ⟨sb, 0, none⟩)]) 149 (0, 0))] ++ (ma, mapW la1) :: (ml, mapW ll1) :: La1) (or_fn m3 ab sb b bits e1 ma ml _ _ r q ns1.length hS1.ok.len hS1.err (hr.le (hm2.trans hm3)) hq (hrb.mono hpre1.length_le) hqb) (p2 hL) ?_
 clear hL
 rintro u m5 L5 w hL hm5 ⟨e5, r5, he5', rfl, hr5, hb5⟩
 obtain ⟨A6, n6, c6, rfl, -⟩ := id hr5
 replace hL : Ev.Loc m S0 w0 m5 ([(b5, .cells (toArr [.int .i64 y]) 3 (0, 0)), (b3, .cells (toArr [.pointer (some ⟨sb, 0, none⟩)]) 149 (0, 0))] ++ stL ab sb b bits e5 ma ml la1 ll1 La1) w := q2 hL
 by_cases h0 : e5 = 0
 ·subst h0
  refine go ?_;try(clear hL;intro w hL)
  exact rnd (j + 1, A6, n6, c6) ⟨by simp only; omega, m5, ns1, 0, la1, ll1, La1, r5, hm1.trans (hm2.trans (hm3.trans hm5)), hpre.trans hpre1, (hS1.grow hm5).errs he5', hr5, hb5, hL⟩
 ·conv => whnf
  repeat ((first | refine BrReq.yes (by omega) ?_ | (refine go1 ?_;try(clear hL;intro w hL))); conv => whnf)
  exact RetReq.mk hL ⟨ns1, e5, la1, ll1, La1, [], hpre.trans hpre1, (hS1.grow hm5).errs he5', rfl, Sl.nil _ _ _, fo.FB.nil _⟩
end Go.Proofs.YtaooenndoopgdaaGreatDoor.li
namespace Go.Proofs.YtaooenndoopgdaaGreatDoor.li
open Go Go.Ev Go.Proofs Go.Proofs.YtaooenndoopgdaaGreatDoor.ar
theorem closed_fn (m : Mem) (ab : Nat) (ns : List Nd) (La : Ev.Own) (hA : Ar ab ns La) (hO : OkA ns) (v : Value) (f : fo.Fml) (hv : fo.FmV m v f) (hf : fo.FB ns.length f) :
  Ev.Fn Tryz.prog 194 [.pointer (some ⟨ab, 0, none⟩), v] m La fun m' L' u => ∃ ns' z, u = .int .i64 z ∧ i64 z ∧ ns <+: ns' ∧ OkA ns' ∧ Ar ab ns' L' := by
 have hmx : maxLen = 9223372036854775807 := rfl
 have hfl := hf.len
 have hnl := hO.len
 have hv' := hv
 obtain ⟨A0, n0, c0, rfl, hn0, -⟩ := id hv
 subst hn0
 refine Fn.enter (N := 24) hX Tryz.func194 rfl rfl (by show _ ≤ _; simp) (fun w0 hL => ?_)
 conv => whnf
 generalize keys La = S0 at hL ⊢
 refine go ?_;try(clear hL;intro w hL)
 refine LoopReq.inv hX (fun s : Nat × Option Addr × Nat × Nat => [(5, .slice s.2.1 s.2.2.1 s.2.2.2), (10, .int .i64 s.1)]) [0, 8, 9]
  (fun s w => s.1 ≤ f.length ∧ ∃ m1 ns1 La1 l Lo, Mem.Le m m1 ∧ ns <+: ns1 ∧ OkA ns1 ∧ Ar ab ns1 La1 ∧ l.length = s.1 ∧ OwnS 3 1 (.slice s.2.1 s.2.2.1 s.2.2.2) (ints .i64 l) Lo ∧ Ev.Loc m S0 w0 m1 (Lo ++ La1) w) (fun s => f.length - s.1) (0, none, 0, 0)
  ⟨Nat.zero_le _, m, ns, La, [], [], Mem.Le.refl m, List.prefix_refl _, hO, hA, rfl, OwnS.nil _ _, hL⟩ ⟨rfl, rfl, trivial⟩ ?_
 clear hL
 rintro ⟨j, A1, n1, c1⟩ w g ⟨hj, m1, ns1, La1, l, Lo, hm1, hp1, hO1, hA1, hll, ho, hL⟩
 simp only at hj ho hll
 refine go ?_;try(clear hL;intro w hL)
 refine BrReq.dec (fun hlt => ?_) (fun hlt => ?_)
 ·have hj1 : j < f.length := by simp only at hlt; omega
  have hjm := List.getElem_mem hj1
  have hpl := hf.part hjm
  obtain ⟨a5, A5, n5, c5, ea, hcell, hpq⟩ := (hv'.le hm1).at_ hj1
  conv => whnf
  repeat ((first | (refine Idx2Req.mk j a5 rfl (by simp only at hlt; omega) ea ?_) | refine LdReq.one hX rfl rfl hL hcell ?_ | (refine go1 ?_;try(clear hL;intro w hL))); conv => whnf)
  refine CallReq.mk (L1 := La1) (L2 := Lo) (AndG_fn m1 ab ns1 La1 hA1 hO1 _ f[j] hpq (by omega)) (Loc.back (L1 := Lo) hL) ?_
  clear hL
  rintro u m2 L2 w hL hm2 ⟨rfl, hA2⟩
  have hO2 := okA_gput hO1 true f[j]
  have hp2 := gput_pre true ns1 f[j]
  generalize gputN true ns1 f[j] = q at hA2 hO2 hp2 ⊢
  refine go ?_;try(clear hL;intro w hL)
  refine NewReq.mk hL ?_
  clear hL
  intro b18 w hL
  conv => whnf
  replace hL : Ev.Loc m S0 w0 m2 ((b18, .cells (toArr [.int .i64 q.2]) 3 (0, 0)) :: (Lo ++ L2)) w := (hL.perm (List.Perm.cons _ List.perm_append_comm))
  refine go ?_;try(clear hL;intro w hL)
  refine RunReq.push hX 53 3 rfl rfl rfl rfl rfl ho (L2 := L2) hL rfl rfl (by simp only [ints, List.length_map]; omega) rfl ?_
  clear hL
  intro A4 n4 c4 L4 w hn4 ho4 hL
  have ho5 : OwnS 3 1 (.slice A4 n4 c4) (ints .i64 (l ++ [q.2])) L4 := by rw [ints_append]; exact ho4
  refine go ?_;try(clear hL;intro w hL)
  exact rnd (j + 1, A4, n4, c4) ⟨by simp only; omega, m2, q.1, L2, l ++ [q.2], L4, hm1.trans hm2, hp1.trans hp2, hO2, hA2, by rw [List.length_append, hll]; rfl, ho5, hL⟩
 ·obtain ⟨m2, hL2, hm2, hs⟩ := OwnS.freeze ho hL
  clear hL
  have hL := hL2
  clear hL2
  refine go ?_;try(clear hL;intro w hL)
  refine CallReq.mk (L1 := La1) (L2 := []) (OrG_fn m2 ab ns1 La1 hA1 hO1 _ l hs (by omega)) (by rw [List.append_nil]; exact hL) ?_
  clear hL
  rintro u m3 L3 w hL hm3 ⟨rfl, hA3⟩
  rw [List.append_nil] at hL
  have hB := okB_or hO1 false l
  have hp3 := gput_pre false ns1 l
  generalize gputN false ns1 l = q at hA3 hB hp3 ⊢
  refine go ?_;try(clear hL;intro w hL)
  exact RetReq.mk hL ⟨q.1, q.2, rfl, hB.2, hp1.trans hp3, hB.1, hA3⟩
def TG (m : Mem) (S : List Nat) (w0 : World) (Ls : Ev.Own) (sb ab b bits ma ml : Nat) (w : World) : Prop := ∃ e, Ev.Loc m S w0 m (Ls ++ [(sb, stO ab b bits e ma ml)]) w
theorem TG.own {m : Mem} {S : List Nat} {w0 : World} {Ls : Ev.Own} {sb ab b bits ma ml bk i te : Nat} {fz : Nat × Nat} {cs : List Value} {v : Value} (hx : (bk, .cells (toArr cs) te fz) ∈ Ls) (hv : cs[i]? = some v) (w : World) (h : TG m S w0 Ls sb ab b bits ma ml w) : w.cell? ((⟨bk, 0, none⟩ : Addr).add i) = some v := by
 obtain ⟨e, h⟩ := h
 rw [addr_add, Nat.zero_add, h.ownCell (List.mem_append_left _ hx)]
 simpa [toArr] using hv
theorem TG.own0 {m : Mem} {S : List Nat} {w0 : World} {Ls : Ev.Own} {sb ab b bits ma ml bk te : Nat} {fz : Nat × Nat} {cs : List Value} {v : Value} (hx : (bk, .cells (toArr cs) te fz) ∈ Ls) (hv : cs[0]? = some v) (w : World) (h : TG m S w0 Ls sb ab b bits ma ml w) : w.cell? ⟨bk, 0, none⟩ = some v := by
 have := TG.own (i := 0) hx hv w h
 rwa [addr_add] at this
theorem TG.st {m : Mem} {S : List Nat} {w0 : World} {Ls : Ev.Own} {sb ab b bits ma ml i : Nat} {v : Value} (hv : ∀ e, (([.pointer (some ⟨ab, 0, none⟩), .int .u8 b, .int .u8 bits, .int .i64 e, .map (some ma), .map (some ml)] : List Value))[i]? = some v) (w : World) (h : TG m S w0 Ls sb ab b bits ma ml w) : w.cell? ((⟨sb, 0, none⟩ : Addr).add i) = some v := by
 obtain ⟨e, h⟩ := h
 rw [addr_add, Nat.zero_add, h.ownCell (List.mem_append_right _ List.mem_cons_self)]
 simpa [toArr] using hv e
theorem TG.st0 {m : Mem} {S : List Nat} {w0 : World} {Ls : Ev.Own} {sb ab b bits ma ml : Nat} (w : World) (h : TG m S w0 Ls sb ab b bits ma ml w) : w.cell? ⟨sb, 0, none⟩ = some (.pointer (some ⟨ab, 0, none⟩)) := by
 have := TG.st (i := 0) (v := .pointer (some ⟨ab, 0, none⟩)) (fun _ => rfl) w h
 rwa [addr_add] at this
theorem TG.of {m m' : Mem} {S : List Nat} {w0 : World} {Ls : Ev.Own} {sb ab b bits ma ml : Nat} {e : Int} {L : Ev.Own} {w : World} (h : Ev.Loc m S w0 m' (Ls ++ (sb, stO ab b bits e ma ml) :: L) w) (hm : Mem.Le m m') : TG m S w0 Ls sb ab b bits ma ml w :=
 ⟨e, (h.sublist (List.Sublist.append_left (.cons_cons _ (List.nil_sublist _)) _)).weaken hm (Mem.Le.refl _)⟩
theorem containsA_fn (m : Mem) (v : Value) (f : fo.Fml) (hv : fo.FmV m v f) (hfl : f.length ≤ 200) : Fn0 Tryz.prog 134 [v, .func (.func 193) #[] #[]] m fun _ u => ∃ b, u = .bool b := by
 have hv' := hv
 obtain ⟨A0, n0, c0, rfl, hn0, -, hm0, -⟩ := id hv
 subst hn0
 have hmx : maxLen = 9223372036854775807 := rfl
 have hix : Fn0 Tryz.prog 173 [.slice A0 f.length c0, .func (.func 193) #[] #[]] m fun _ u => ∃ z, u = .int .i64 z := by
  refine Fn.enter (N := 19) hX Tryz.func173 rfl rfl (by show _ ≤ _; simp) (fun w0 hL => ?_)
  conv => whnf
  refine go ?_;try(clear hL;intro w hL)
  refine LoopReq.inv hX (fun j : Nat => [(8, .int .i64 j)]) [0, 1, 7]
   (fun j w => j ≤ f.length ∧ Ev.Loc m [] w0 m [] w) (fun j => f.length - j) 0 ⟨Nat.zero_le _, hL⟩ ⟨rfl, trivial⟩ ?_
  clear hL
  rintro j w g ⟨hj, hL⟩
  refine go ?_;try(clear hL;intro w hL)
  refine BrReq.dec (fun hlt => ?_) (fun hlt => ?_)
  ·have hj1 : j < f.length := by omega
   obtain ⟨a5, A5, n5, c5, ea, hcell, hpq⟩ := hv'.at_ hj1
   have ha1 : FnV Tryz.prog 193 [.slice A5 n5 c5] m (.bool (decide ((n5 : Int) ≠ 1))) := by
    refine Fn.enter (N := 6) hX Tryz.func193 rfl rfl (by show _ ≤ _; simp) (fun w0 hL => ?_)
    conv => whnf
    refine go ?_;try(clear hL;intro w hL)
    exact RetReq.bool hL rfl
   conv => whnf
   repeat ((first | refine Idx2Req.mk j a5 rfl (by omega) ea ?_ | refine LdReq.one hX rfl rfl hL hcell ?_ | (refine go1 ?_;try(clear hL;intro w hL))); conv => whnf)
   refine CallReq.val ha1 hL ?_
   clear hL
   intro w hL
   refine go ?_;try(clear hL;intro w hL)
   refine BrReq.bool (fun hb => ?_) (fun hb => ?_)
   ·refine go ?_;try(clear hL;intro w hL)
    exact RetReq.mk hL ⟨rfl, _, rfl⟩
   ·refine go ?_;try(clear hL;intro w hL)
    exact rnd (j + 1) ⟨by omega, hL⟩
  ·refine go ?_;try(clear hL;intro w hL)
   exact RetReq.mk hL ⟨rfl, _, rfl⟩
 refine Fn.enter (N := 9) hX Tryz.func134 rfl rfl (by show _ ≤ _; simp) (fun w0 hL => ?_)
 conv => whnf
 refine go ?_;try(clear hL;intro w hL)
 refine CallReq.pure hix hL ?_
 clear hL
 rintro u m1 w hL hm1 ⟨z, rfl⟩
 refine go ?_;try(clear hL;intro w hL)
 exact RetReq.mk hL ⟨rfl, _, rfl⟩
theorem ahead2_cal {ab sb b bits ma ml : Nat} (b3 b5 : Nat) (y : Int) (hy : i64 y) (ns0 : List Nd) :
  CalC ab sb b bits ma ml 195 (fun z => [.int .i64 z, .pointer (some ⟨b3, 0, none⟩), .pointer (some ⟨b5, 0, none⟩)]) [(b5, .cells (toArr [.int .i64 y]) 3 (0, 0)), (b3, .cells (toArr [.pointer (some ⟨sb, 0, none⟩)]) 149 (0, 0))] ns0 := by
 intro m ns e la ll La z hpre hz hS
 have hzk := okId_pre hpre hz
 refine Fn.enter (N := 14) hX Tryz.func195 rfl rfl (by show _ ≤ _; simp) (fun w0 hL => ?_)
 conv => whnf
 generalize keys ([(b5, Obj.cells (toArr [.int .i64 y]) 3 (0, 0)), (b3, .cells (toArr [.pointer (some ⟨sb, 0, none⟩)]) 149 (0, 0))] ++ stL ab sb b bits e ma ml la ll La) = S0 at hL ⊢
 refine go ?_;try(clear hL;intro w hL)
 refine DrawReq.planS hX (.fst 0 (.fst 1 (.fst 2 (.fst 3 (.fst 4 (.fst 5 (.fst 6 (.alt 7 (.alt 8 (.fst 9 (.done)) (.stop)) (.stop))))))))) (TG m S0 w0 [(b5, .cells (toArr [.int .i64 y]) 3 (0, 0)), (b3, .cells (toArr [.pointer (some ⟨sb, 0, none⟩)]) 149 (0, 0))] sb ab b bits ma ml) (by kernel_rfl) (by kernel_rfl) hL (fun w h => TG.of (Ls := [_, _]) h (Mem.Le.refl _)) ?_
 clear hL
 intro w hL
 conv => whnf
 repeat ((first | refine QLdReq.told hX rfl rfl TG.st0 ?_ | refine QLdReq.told hX rfl rfl (TG.own0 (bk := b3) (List.mem_cons_of_mem _ List.mem_cons_self) rfl) ?_ | refine QLdReq.told hX rfl rfl (TG.own0 (bk := b5) List.mem_cons_self rfl) ?_ | (refine goq1 ?_;try(clear hL;intro w hL))); conv => whnf)
 refine CallReq.mk (L1 := La) (L2 := [_, _, _, _, _]) (CatF_fn ab (z.toNat + 1) m ns La hS.ar hS.ok z y (okId_i64 hS.ok.len hzk) hy (fun _ => Nat.lt_succ_self _) (Nat.succ_pos _)) (Loc.back (L1 := [_, _, _, _, _]) hL) ?_
 clear hL
 rintro u m1 L1 w hL hm1 ⟨rfl, hA1⟩
 have hL := Loc.back (L1 := L1) (L2 := [_, _, _, _, _]) hL
 have hB := catF_i64 (z.toNat + 1) hS.ok (okId_i64 hS.ok.len hzk) hy
 have hp1 := catF_pre (z.toNat + 1) ns z y
 generalize catF (z.toNat + 1) ns z y = q at hA1 hB hp1 hL ⊢
 have hS1 := (hS.grow hm1).arena hp1 hB.1 hA1
 refine SReq.mk (TG.of (Ls := [_, _]) hL hm1) ?_
 refine goq ?_;try(clear hL;intro w hL)
 refine CallReq.mk (L1 := stL ab sb b bits _ ma ml _ _ _) (L2 := [_, _]) (of_fn ab sb b bits ma ml _ _ _ _ _ _ _ _ hS1 hB.2 (fun _ => Nat.lt_succ_self _)) (Loc.back (L1 := [_, _]) hL) ?_
 clear hL
 rintro u m2 L2 w hL hm2 ⟨ns2, e2, la2, ll2, La2, f2, hp2, hS2, rfl, hf2, hb2⟩
 obtain ⟨A2, n2, c2, rfl, -⟩ := id hf2
 have hL := Loc.back (L1 := stL ab sb b bits e2 ma ml la2 ll2 La2) (L2 := [_, _]) hL
 refine SReq.mk (TG.of (Ls := [_, _]) hL (hm1.trans hm2)) ?_
 refine goq ?_;try(clear hL;intro w hL)
 exact RetReq.mk hL ⟨ns2, e2, la2, ll2, La2, f2, hp1.trans hp2, hS2, rfl, hf2, hb2⟩
theorem behind1_cal {ab sb b bits ma ml : Nat} (b3 : Nat) (ns0 : List Nd) :
  CalC ab sb b bits ma ml 165 (fun z => [.int .i64 z, .pointer (some ⟨b3, 0, none⟩)]) [(b3, .cells (toArr [.pointer (some ⟨sb, 0, none⟩)]) 149 (0, 0))] ns0 := by
 intro m ns e la ll La z hpre hz hS
 have hzk := okId_pre hpre hz
 refine Fn.enter (N := 12) hX Tryz.func165 rfl rfl (by show _ ≤ _; simp) (fun w0 hL => ?_)
 conv => whnf
 generalize keys ([(b3, Obj.cells (toArr [.pointer (some ⟨sb, 0, none⟩)]) 149 (0, 0))] ++ stL ab sb b bits e ma ml la ll La) = S0 at hL ⊢
 refine go ?_;try(clear hL;intro w hL)
 refine DrawReq.planS hX (.fst 0 (.fst 1 (.fst 2 (.fst 3 (.fst 4 (.fst 5 (.alt 6 (.alt 7 (.fst 8 (.done)) (.stop)) (.stop)))))))) (TG m S0 w0 [(b3, .cells (toArr [.pointer (some ⟨sb, 0, none⟩)]) 149 (0, 0))] sb ab b bits ma ml) (by kernel_rfl) (by kernel_rfl) hL (fun w h => TG.of (Ls := [_]) h (Mem.Le.refl _)) ?_
 clear hL
 intro w hL
 conv => whnf
 repeat ((first | refine QLdReq.told hX rfl rfl TG.st0 ?_ | refine QLdReq.told hX rfl rfl (TG.own0 (bk := b3) List.mem_cons_self rfl) ?_ | (refine goq1 ?_;try(clear hL;intro w hL))); conv => whnf)
 refine CallReq.mk (L1 := La) (L2 := [_, _, _, _]) (NotG_fn m ab ns La hS.ar hS.ok z) (Loc.back (L1 := [_, _, _, _]) hL) ?_
 clear hL
 rintro u m1 L1 w hL hm1 ⟨rfl, hA1⟩
 have hL := Loc.back (L1 := L1) (L2 := [_, _, _, _]) hL
 have hB := okB_not hS.ok (okId_i64 hS.ok.len hzk)
 have hp1 := notN_pre ns z
 generalize notN ns z = q at hA1 hB hp1 hL ⊢
 have hS1 := (hS.grow hm1).arena hp1 hB.1 hA1
 refine SReq.mk (TG.of (Ls := [_]) hL hm1) ?_
 refine goq ?_;try(clear hL;intro w hL)
 refine CallReq.mk (L1 := stL ab sb b bits _ ma ml _ _ _) (L2 := [_]) (of_fn ab sb b bits ma ml _ _ _ _ _ _ _ _ hS1 hB.2 (fun _ => Nat.lt_succ_self _)) (Loc.back (L1 := [_]) hL) ?_
 clear hL
 rintro u m2 L2 w hL hm2 ⟨ns2, e2, la2, ll2, La2, f2, hp2, hS2, rfl, hf2, hb2⟩
 obtain ⟨A2, n2, c2, rfl, -⟩ := id hf2
 have hL := Loc.back (L1 := stL ab sb b bits e2 ma ml la2 ll2 La2) (L2 := [_]) hL
 refine SReq.mk (TG.of (Ls := [_]) hL (hm1.trans hm2)) ?_
 refine goq ?_;try(clear hL;intro w hL)
 exact RetReq.mk hL ⟨ns2, e2, la2, ll2, La2, f2, hp1.trans hp2, hS2, rfl, hf2, hb2⟩
set_option maxHeartbeats 4000000 in
theorem ahead_fn {ab sb b bits : Nat} {m : Mem} {ns : List Nd} {e : Int} {ma ml : Nat} {la ll : List (Value × Value)} {La : Ev.Own} (hS : Stp ab sb b bits m ns e ma ml la ll La) (v : Value) (f : fo.Fml) (hv : fo.FmV m v f) (hf : fo.FB ns.length f) (y : Int) (hy : i64 y) :
  Ev.Fn Tryz.prog 163 [.pointer (some ⟨sb, 0, none⟩), v, .int .i64 y] m (stL ab sb b bits e ma ml la ll La) (StQ ab sb b bits ns ma ml) := by
 have hcon := containsA_fn m v f hv hf.len
 have hcl := closed_fn m ab ns La hS.ar hS.ok v f hv hf
 obtain ⟨A0, n0, c0, rfl, -⟩ := id hv
 refine Fn.enter (N := 27) hX Tryz.func163 rfl rfl (by show _ ≤ _; simp) (fun w0 hL => ?_)
 conv => whnf
 generalize keys (stL ab sb b bits e ma ml la ll La) = S0 at hL ⊢
 refine NewReq.mk hL ?_
 clear hL
 intro b3 w hL
 conv => whnf
 refine NewReq.mk hL ?_
 clear hL
 intro b5 w hL
 conv => whnf
 refine go ?_;try(clear hL;intro w hL)
 refine CallReq.pure hcon hL ?_
 clear hL
 rintro u m' w hL hm' ⟨bo, rfl⟩
 replace hL := hL.weaken hm' (Mem.Le.refl _)
 refine go ?_;try(clear hL;intro w hL)
 refine BrReq.bool (fun hb => ?_) (fun hb => ?_)
 ·refine go ?_;try(clear hL;intro w hL)
  refine DrawReq.planS hX (.fst 0 (.fst 1 (.fst 2 (.fst 3 (.fst 4 (.fst 5 (.fst 6 (.fst 7 (.fst 8 (.fst 9 (.fst 11 (.alt 10 (.alt 12 (.alt 13 (.fst 14 (.done)) (.stop)) (.stop)) (.stop))))))))))))) (TG m S0 w0 [(b5, .cells (toArr [.int .i64 y]) 3 (0, 0)), (b3, .cells (toArr [.pointer (some ⟨sb, 0, none⟩)]) 149 (0, 0))] sb ab b bits ma ml) (by kernel_rfl) (by kernel_rfl) hL (fun w h => TG.of (Ls := [_, _]) h (Mem.Le.refl _)) ?_
  clear hL
  intro w hL
  conv => whnf
  repeat ((first | refine QLdReq.told hX rfl rfl TG.st0 ?_ | refine QLdReq.told hX rfl rfl (TG.own0 (bk := b3) (List.mem_cons_of_mem _ List.mem_cons_self) rfl) ?_ | refine QLdReq.told hX rfl rfl (TG.own0 (bk := b5) List.mem_cons_self rfl) ?_ | (refine goq1 ?_;try(clear hL;intro w hL))); conv => whnf)
  refine CallReq.mk (L1 := La) (L2 := [_, _, _, _, _]) hcl (Loc.back (L1 := [_, _, _, _, _]) hL) ?_
  clear hL
  rintro u m1 L1 w hL hm1 ⟨ns1, z, rfl, hz, hp1, hO1, hA1⟩
  have hL := Loc.back (L1 := L1) (L2 := [_, _, _, _, _]) hL
  have hS1 := (hS.grow hm1).arena hp1 hO1 hA1
  refine SReq.mk (TG.of (Ls := [_, _]) hL hm1) ?_
  refine goq ?_;try(clear hL;intro w hL)
  refine CallReq.mk (L1 := L1) (L2 := [_, _, _, _, _]) (CatF_fn ab (z.toNat + 1) m1 ns1 L1 hA1 hO1 z y hz hy (fun _ => Nat.lt_succ_self _) (Nat.succ_pos _)) (Loc.back (L1 := [_, _, _, _, _]) hL) ?_
  clear hL
  rintro u m2 L2 w hL hm2 ⟨rfl, hA2⟩
  have hL := Loc.back (L1 := L2) (L2 := [_, _, _, _, _]) hL
  have hB := catF_i64 (z.toNat + 1) hO1 hz hy
  have hp2 := catF_pre (z.toNat + 1) ns1 z y
  generalize catF (z.toNat + 1) ns1 z y = q at hA2 hB hp2 hL ⊢
  have hS2 := (hS1.grow hm2).arena hp2 hB.1 hA2
  refine SReq.mk (TG.of (Ls := [_, _]) hL (hm1.trans hm2)) ?_
  refine goq ?_;try(clear hL;intro w hL)
  refine CallReq.mk (L1 := stL ab sb b bits _ ma ml _ _ _) (L2 := [_, _]) (of_fn ab sb b bits ma ml _ _ _ _ _ _ _ _ hS2 hB.2 (fun _ => Nat.lt_succ_self _)) (Loc.back (L1 := [_, _]) hL) ?_
  clear hL
  rintro u m3 L3 w hL hm3 ⟨ns3, e3, la3, ll3, La3, f3, hp3, hS3, rfl, hf3, hb3⟩
  obtain ⟨A3, n3, c3, rfl, -⟩ := id hf3
  have hL := Loc.back (L1 := stL ab sb b bits e3 ma ml la3 ll3 La3) (L2 := [_, _]) hL
  refine SReq.mk (TG.of (Ls := [_, _]) hL (hm1.trans (hm2.trans hm3))) ?_
  refine goq ?_;try(clear hL;intro w hL)
  exact RetReq.mk hL.drop.drop ⟨ns3, e3, la3, ll3, La3, f3, hp1.trans (hp2.trans hp3), hS3, rfl, hf3, hb3⟩
 ·refine go ?_;try(clear hL;intro w hL)
  refine CallReq.mk (L1 := [(b5, .cells (toArr [.int .i64 y]) 3 (0, 0)), (b3, .cells (toArr [.pointer (some ⟨sb, 0, none⟩)]) 149 (0, 0))] ++ stL ab sb b bits e ma ml la ll La) (L2 := []) (put2_fn _ f b3 b5 y hS hv hf (ahead2_cal b3 b5 y hy ns)) (by rw [List.append_nil]; exact hL) ?_
  clear hL
  rintro u m3 L3 w hL hm3 ⟨ns3, e3, la3, ll3, La3, f3, hp3, hS3, rfl, hf3, hb3⟩
  obtain ⟨A3, n3, c3, rfl, -⟩ := id hf3
  rw [List.append_nil] at hL
  replace hL : Ev.Loc m S0 w0 m3 ((b5, .cells (toArr [.int .i64 y]) 3 (0, 0)) :: (b3, .cells (toArr [.pointer (some ⟨sb, 0, none⟩)]) 149 (0, 0)) :: stL ab sb b bits e3 ma ml la3 ll3 La3) w := hL
  refine go ?_;try(clear hL;intro w hL)
  exact RetReq.mk hL.drop.drop ⟨ns3, e3, la3, ll3, La3, f3, hp3, hS3, rfl, hf3, hb3⟩
end Go.Proofs.YtaooenndoopgdaaGreatDoor.li
namespace Go.Proofs.YtaooenndoopgdaaGreatDoor.li
open Go Go.Ev Go.Proofs Go.Proofs.YtaooenndoopgdaaGreatDoor.ar
theorem QLdReq.toldB {P : Program} {X : Tab} (hX : TabsOk P X) {t : Nat} {ti : TI} (ht : Ev.look X.T t = some (some ti)) (hd : ti.d.isAgg = true) {a : Addr} {vs : List Value} {T : World → Prop} {K : Value → Prop} (hl : vs.length = ti.size) (hv : ∀ w, T w → ∀ (j : Nat) (v : Value), vs[j]? = some v → w.cell? (a.add j) = some v) (h : K (.agg (toArr vs))) :
  QLdReq P t T a K := ⟨_, fun w hw => run_loadVar_agg (hX.t _ _ ht) hd hl (fun j v hj => hv w hw j v hj), h⟩
def StepC (ab sb b bits ma ml : Nat) (k : Nat) : Prop := ∀ (m : Mem) (ns : List Nd) (e : Int) (la ll : List (Value × Value)) (La : Ev.Own) (i0 : Int), Stp ab sb b bits m ns e ma ml la ll La → okId ns i0 → i0.toNat < k →
 Ev.Fn Tryz.prog 82 [.pointer (some ⟨sb, 0, none⟩), .int .i64 i0] m (stL ab sb b bits e ma ml la ll La) (StQ ab sb b bits ns ma ml)
theorem empty_fn2 (m : Mem) (ab : Nat) (ns : List Nd) (L : Ev.Own) (hA : Ar ab ns L) (hO : OkA ns) :
  Ev.Fn Tryz.prog 142 [.pointer (some ⟨ab, 0, none⟩)] m L (PutQ ab (emptyN ns).1 (emptyN ns).2 m) := Empty_fn m ab ns L hA hO
theorem TG.set {m : Mem} {S : List Nat} {w0 : World} {Ls : Ev.Own} {sb ab b bits ma ml bk te : Nat} {fz : Nat × Nat} {cs vs : List Value} (hx : (bk, .cells (toArr cs) te fz) ∈ Ls) (hv : ∀ (j : Nat) (v : Value), vs[j]? = some v → cs[1 + j]? = some v) (w : World) (h : TG m S w0 Ls sb ab b bits ma ml w) (j : Nat) (v : Value) (hj : vs[j]? = some v) : w.cell? (((⟨bk, 0, none⟩ : Addr).add 1).add j) = some v := by
 have := TG.own (i := 1 + j) hx (hv j v hj) w h
 rw [addr_add] at this
 rw [addr_add, addr_add, Nat.add_assoc]; exact this
set_option maxHeartbeats 8000000 in
theorem behind_fn {ab sb b bits ma ml : Nat} (hb8 : b < 256) (hbits : bits < 256) {k : Nat} (ih : StepC ab sb b bits ma ml k) {m : Mem} {ns : List Nd} {e : Int} {la ll : List (Value × Value)} {La : Ev.Own} (hS : Stp ab sb b bits m ns e ma ml la ll La) (i0 : Int) (hid : okId ns i0) (hk : i0.toNat ≤ k) :
  Ev.Fn Tryz.prog 120 [.pointer (some ⟨sb, 0, none⟩), .int .i64 i0] m (stL ab sb b bits e ma ml la ll La) (StQ ab sb b bits ns ma ml) := by
 have hlen := hS.ok.len
 obtain ⟨x, hx1, hx2⟩ := nodeN_ok hid
 have hnode := Node_fn m ab ns La hS.ar i0
 rw [hx1] at hnode
 simp only at hnode
 have hkx : kindN ns i0 = x.k := by unfold kindN; rw [hx1]
 have hpt := parts_lt hS.ok hid
 rw [hkx, hx1] at hpt
 have hon := one_lt hS.ok hid
 rw [hkx, hx1] at hon
 have hin := hS.ok.inn x (List.mem_of_getElem? hx2)
 have h0 := hid.1
 refine Fn.enter (N := 109) hX Tryz.func120 rfl rfl (by show _ ≤ _; simp) (fun w0 hL => ?_)
 conv => whnf
 generalize keys (stL ab sb b bits e ma ml la ll La) = S0 at hL ⊢
 refine NewReq.mk hL ?_
 clear hL
 intro b2 w hL
 conv => whnf
 refine go ?_;try(clear hL;intro w hL)
 refine CallReq.li (L1 := La) hnode (Loc.back (L1 := [_, _, _, _]) hL) ?_
 clear hL
 intro w hL
 have hL := Loc.back (L1 := La) (L2 := [_, _, _, _]) hL
 refine go ?_;try(clear hL;intro w hL)
 refine NewReq.mk hL ?_
 clear hL
 intro bn w hL
 conv => whnf
 obtain ⟨xk, s0, s1, s2, s3, a, b', neg⟩ := x
 simp only at hpt hkx hon
 by_cases k2 : xk = 2
 ·subst k2
  have hhas := tabs.setHas_fn m s0 s1 s2 s3 hin.s0 hin.s1 hin.s2 hin.s3 b hb8
  refine go ?_;try(clear hL;intro w hL)
  refine DrawReq.planS hX (.fst 0 (.fst 1 (.fst 2 (.fst 3 (.fst 4 (.fst 5 (.alt 6 (.done) (.stop)))))))) (TG m S0 w0 [(bn, .cells (toArr (ndC ⟨2, s0, s1, s2, s3, a, b', neg⟩)) 146 (0, 0)), (b2, .cells (toArr [.pointer (some ⟨sb, 0, none⟩)]) 149 (0, 0))] sb ab b bits ma ml) (by kernel_rfl) (by kernel_rfl) hL (fun w h => TG.of (Ls := [_, _]) h (Mem.Le.refl _)) ?_
  clear hL
  intro w hL
  conv => whnf
  repeat ((first | refine QLdReq.told hX rfl rfl TG.st0 ?_ | refine QLdReq.told hX rfl rfl (TG.own0 (bk := b2) (List.mem_cons_of_mem _ List.mem_cons_self) rfl) ?_ | refine QLdReq.told hX rfl rfl (TG.own (bk := bn) (i := 5) List.mem_cons_self rfl) ?_ | refine QLdReq.told hX rfl rfl (TG.own (bk := bn) (i := 6) List.mem_cons_self rfl) ?_ | refine QLdReq.told hX rfl rfl (TG.st (i := 1) (fun _ => rfl)) ?_ | refine QLdReq.told hX rfl rfl (TG.st (i := 2) (fun _ => rfl)) ?_ | (refine goq1 ?_;try(clear hL;intro w hL))); conv => whnf)
  refine QLdReq.toldB hX rfl rfl (vs := [.int .u64 s0, .int .u64 s1, .int .u64 s2, .int .u64 s3]) rfl (TG.set (bk := bn) List.mem_cons_self (fun j v hj => by
   match j, hj with
   | 0, hj => exact hj
   | 1, hj => exact hj
   | 2, hj => exact hj
   | 3, hj => exact hj
   | _ + 4, hj => cases hj)) ?_
  conv => whnf
  repeat ((first | refine QLdReq.told hX rfl rfl TG.st0 ?_ | refine QLdReq.told hX rfl rfl (TG.own0 (bk := b2) (List.mem_cons_of_mem _ List.mem_cons_self) rfl) ?_ | refine QLdReq.told hX rfl rfl (TG.st (i := 1) (fun _ => rfl)) ?_ | (refine goq1 ?_;try(clear hL;intro w hL))); conv => whnf)
  refine CallReq.val hhas hL ?_
  clear hL
  intro w hL
  refine SReq.mk (TG.of (Ls := [_, _]) hL (Mem.Le.refl _)) ?_
  refine goq ?_;try(clear hL;intro w hL)
  refine BrReq.bool (fun hb => ?_) (fun hb => ?_)
  ·refine go ?_;try(clear hL;intro w hL)
   refine DrawReq.planS hX (.fst 0 (.fst 1 (.fst 2 (.fst 3 (.fst 4 (.alt 5 (.alt 6 (.fst 7 (.done)) (.stop)) (.stop))))))) (TG m S0 w0 [(bn, .cells (toArr (ndC ⟨2, s0, s1, s2, s3, a, b', neg⟩)) 146 (0, 0)), (b2, .cells (toArr [.pointer (some ⟨sb, 0, none⟩)]) 149 (0, 0))] sb ab b bits ma ml) (by kernel_rfl) (by kernel_rfl) hL (fun w h => TG.of (Ls := [_, _]) h (Mem.Le.refl _)) ?_
   clear hL
   intro w hL
   conv => whnf
   repeat ((first | refine QLdReq.told hX rfl rfl TG.st0 ?_ | refine QLdReq.told hX rfl rfl (TG.own0 (bk := b2) (List.mem_cons_of_mem _ List.mem_cons_self) rfl) ?_ | refine QLdReq.told hX rfl rfl (TG.own (bk := bn) (i := 5) List.mem_cons_self rfl) ?_ | refine QLdReq.told hX rfl rfl (TG.own (bk := bn) (i := 6) List.mem_cons_self rfl) ?_ | refine QLdReq.told hX rfl rfl (TG.st (i := 1) (fun _ => rfl)) ?_ | refine QLdReq.told hX rfl rfl (TG.st (i := 2) (fun _ => rfl)) ?_ | (refine goq1 ?_;try(clear hL;intro w hL))); conv => whnf)
   refine CallReq.mk (L1 := La) (L2 := [_, _, _, _, _]) (empty_fn2 m ab ns La hS.ar hS.ok) (Loc.back (L1 := [_, _, _, _, _]) hL) ?_
   clear hL
   rintro u m1 L1 w hL hm1 ⟨-, rfl, hA1⟩
   have hL := Loc.back (L1 := L1) (L2 := [_, _, _, _, _]) hL
   have hB := okB_empty hS.ok
   have hp1 := pN_pre ns (ndK 1)
   change Ar ab (emptyN ns).1 L1 at hA1
   change ns <+: (emptyN ns).1 at hp1
   generalize emptyN ns = q at hA1 hB hp1 hL ⊢
   have hS1 := (hS.grow hm1).arena hp1 hB.1 hA1
   refine SReq.mk (TG.of (Ls := [_, _]) hL hm1) ?_
   refine goq ?_;try(clear hL;intro w hL)
   refine CallReq.mk (L1 := stL ab sb b bits _ ma ml _ _ _) (L2 := [_, _]) (of_fn ab sb b bits ma ml _ _ _ _ _ _ _ _ hS1 hB.2 (fun _ => Nat.lt_succ_self _)) (Loc.back (L1 := [_, _]) hL) ?_
   clear hL
   rintro u m2 L2 w hL hm2 ⟨ns2, e2, la2, ll2, La2, f2, hp2, hS2, rfl, hf2, hb2⟩
   obtain ⟨A2, n2, c2, rfl, -⟩ := id hf2
   have hL := Loc.back (L1 := stL ab sb b bits e2 ma ml la2 ll2 La2) (L2 := [_, _]) hL
   refine SReq.mk (TG.of (Ls := [_, _]) hL (hm1.trans hm2)) ?_
   refine goq ?_;try(clear hL;intro w hL)
   exact RetReq.mk hL.drop.drop ⟨ns2, e2, la2, ll2, La2, f2, hp1.trans hp2, hS2, rfl, hf2, hb2⟩
  ·refine go ?_;try(clear hL;intro w hL)
   refine CallReq.val (fo.false_fn m) hL ?_
   clear hL
   intro w hL
   refine go ?_;try(clear hL;intro w hL)
   exact RetReq.mk hL.drop.drop ⟨ns, e, la, ll, La, [], List.prefix_refl _, hS, rfl, Sl.nil _ _ _, fo.FB.nil _⟩
 by_cases k4 : xk = 4
 ·subst k4
  have hp := hpt (by omega)
  refine go ?_;try(clear hL;intro w hL)
  refine DrawReq.planS hX (.fst 0 (.fst 1 (.fst 2 (.fst 3 (.fst 5 (.fst 6 (.fst 7 (.alt 4 (.alt 8 (.alt 9 (.fst 10 (.done)) (.stop)) (.stop)) (.stop))))))))) (TG m S0 w0 [(bn, .cells (toArr (ndC ⟨4, s0, s1, s2, s3, a, b', neg⟩)) 146 (0, 0)), (b2, .cells (toArr [.pointer (some ⟨sb, 0, none⟩)]) 149 (0, 0))] sb ab b bits ma ml) (by kernel_rfl) (by kernel_rfl) hL (fun w h => TG.of (Ls := [_, _]) h (Mem.Le.refl _)) ?_
  clear hL
  intro w hL
  conv => whnf
  repeat ((first | refine QLdReq.told hX rfl rfl TG.st0 ?_ | refine QLdReq.told hX rfl rfl (TG.own0 (bk := b2) (List.mem_cons_of_mem _ List.mem_cons_self) rfl) ?_ | refine QLdReq.told hX rfl rfl (TG.own (bk := bn) (i := 5) List.mem_cons_self rfl) ?_ | refine QLdReq.told hX rfl rfl (TG.own (bk := bn) (i := 6) List.mem_cons_self rfl) ?_ | refine QLdReq.told hX rfl rfl (TG.st (i := 1) (fun _ => rfl)) ?_ | refine QLdReq.told hX rfl rfl (TG.st (i := 2) (fun _ => rfl)) ?_ | (refine goq1 ?_;try(clear hL;intro w hL))); conv => whnf)
  refine CallReq.mk (L1 := stL ab sb b bits _ ma ml _ _ _) (L2 := [_, _]) (ih _ _ _ _ _ _ _ hS hp.1.1 (by have := hp.1.1.1; simp only; omega)) (Loc.back (L1 := [_, _]) hL) ?_
  clear hL
  rintro u m2 L2 w hL hm2 ⟨ns2, e2, la2, ll2, La2, f2, hp2, hS2, rfl, hf2, hb2⟩
  obtain ⟨A2, n2, c2, rfl, -⟩ := id hf2
  have hL := Loc.back (L1 := stL ab sb b bits e2 ma ml la2 ll2 La2) (L2 := [_, _]) hL
  refine SReq.mk (TG.of (Ls := [_, _]) hL hm2) ?_
  refine goq ?_;try(clear hL;intro w hL)
  refine CallReq.mk (L1 := stL ab sb b bits _ ma ml _ _ _) (L2 := [_, _]) (ih _ _ _ _ _ _ _ hS2 (okId_pre hp2 hp.2.1) (by have := hp.2.1.1; simp only; omega)) (Loc.back (L1 := [_, _]) hL) ?_
  clear hL
  rintro u m4 L4 w hL hm4 ⟨ns4, e4, la4, ll4, La4, f4, hp4, hS4, rfl, hf4, hb4⟩
  obtain ⟨A4, n4, c4, rfl, -⟩ := id hf4
  have hL := Loc.back (L1 := stL ab sb b bits e4 ma ml la4 ll4 La4) (L2 := [_, _]) hL
  refine SReq.mk (TG.of (Ls := [_, _]) hL (hm2.trans hm4)) ?_
  refine goq ?_;try(clear hL;intro w hL)
  refine CallReq.mk (L1 := [_]) (L2 := _ :: _ :: (ma, mapW _) :: (ml, mapW _) :: _) (or_fn _ ab sb b bits e4 ma ml _ _ f2 f4 ns4.length hS4.ok.len hS4.err (hf2.le hm4) hf4 (hb2.mono hp4.length_le) hb4) (p2 (x := _) (z := _) hL) ?_
  clear hL
  rintro u m5 L5 w hL hm5 ⟨e5, r5, he5, rfl, hr5, hb5⟩
  obtain ⟨A5, n5, c5, rfl, -⟩ := id hr5
  have hL := q2 (x := _) (z := _) hL
  refine SReq.mk (TG.of (Ls := [_, _]) hL (hm2.trans (hm4.trans hm5))) ?_
  refine goq ?_;try(clear hL;intro w hL)
  exact RetReq.mk hL.drop.drop ⟨ns4, e5, la4, ll4, La4, r5, hp2.trans hp4, (hS4.grow hm5).errs he5, rfl, hr5, hb5⟩
 by_cases k5 : xk = 5
 ·subst k5
  have hp := hpt (by omega)
  refine go ?_;try(clear hL;intro w hL)
  refine DrawReq.planS hX (.fst 0 (.fst 1 (.fst 2 (.fst 3 (.fst 5 (.fst 6 (.fst 7 (.alt 4 (.alt 8 (.alt 9 (.fst 10 (.done)) (.stop)) (.stop)) (.stop))))))))) (TG m S0 w0 [(bn, .cells (toArr (ndC ⟨5, s0, s1, s2, s3, a, b', neg⟩)) 146 (0, 0)), (b2, .cells (toArr [.pointer (some ⟨sb, 0, none⟩)]) 149 (0, 0))] sb ab b bits ma ml) (by kernel_rfl) (by kernel_rfl) hL (fun w h => TG.of (Ls := [_, _]) h (Mem.Le.refl _)) ?_
  clear hL
  intro w hL
  conv => whnf
  repeat ((first | refine QLdReq.told hX rfl rfl TG.st0 ?_ | refine QLdReq.told hX rfl rfl (TG.own0 (bk := b2) (List.mem_cons_of_mem _ List.mem_cons_self) rfl) ?_ | refine QLdReq.told hX rfl rfl (TG.own (bk := bn) (i := 5) List.mem_cons_self rfl) ?_ | refine QLdReq.told hX rfl rfl (TG.own (bk := bn) (i := 6) List.mem_cons_self rfl) ?_ | refine QLdReq.told hX rfl rfl (TG.st (i := 1) (fun _ => rfl)) ?_ | refine QLdReq.told hX rfl rfl (TG.st (i := 2) (fun _ => rfl)) ?_ | (refine goq1 ?_;try(clear hL;intro w hL))); conv => whnf)
  refine CallReq.mk (L1 := stL ab sb b bits _ ma ml _ _ _) (L2 := [_, _]) (ih _ _ _ _ _ _ _ hS hp.1.1 (by have := hp.1.1.1; simp only; omega)) (Loc.back (L1 := [_, _]) hL) ?_
  clear hL
  rintro u m2 L2 w hL hm2 ⟨ns2, e2, la2, ll2, La2, f2, hp2, hS2, rfl, hf2, hb2⟩
  obtain ⟨A2, n2, c2, rfl, -⟩ := id hf2
  have hL := Loc.back (L1 := stL ab sb b bits e2 ma ml la2 ll2 La2) (L2 := [_, _]) hL
  refine SReq.mk (TG.of (Ls := [_, _]) hL hm2) ?_
  refine goq ?_;try(clear hL;intro w hL)
  refine CallReq.mk (L1 := stL ab sb b bits _ ma ml _ _ _) (L2 := [_, _]) (ih _ _ _ _ _ _ _ hS2 (okId_pre hp2 hp.2.1) (by have := hp.2.1.1; simp only; omega)) (Loc.back (L1 := [_, _]) hL) ?_
  clear hL
  rintro u m4 L4 w hL hm4 ⟨ns4, e4, la4, ll4, La4, f4, hp4, hS4, rfl, hf4, hb4⟩
  obtain ⟨A4, n4, c4, rfl, -⟩ := id hf4
  have hL := Loc.back (L1 := stL ab sb b bits e4 ma ml la4 ll4 La4) (L2 := [_, _]) hL
  refine SReq.mk (TG.of (Ls := [_, _]) hL (hm2.trans hm4)) ?_
  refine goq ?_;try(clear hL;intro w hL)
  refine CallReq.mk (L1 := [_]) (L2 := _ :: _ :: (ma, mapW _) :: (ml, mapW _) :: _) (and_fn _ ab sb b bits e4 ma ml _ _ f2 f4 ns4.length hS4.ok.len hS4.err (hf2.le hm4) hf4 (hb2.mono hp4.length_le) hb4) (p2 (x := _) (z := _) hL) ?_
  clear hL
  rintro u m5 L5 w hL hm5 ⟨e5, r5, he5, rfl, hr5, hb5⟩
  obtain ⟨A5, n5, c5, rfl, -⟩ := id hr5
  have hL := q2 (x := _) (z := _) hL
  refine SReq.mk (TG.of (Ls := [_, _]) hL (hm2.trans (hm4.trans hm5))) ?_
  refine goq ?_;try(clear hL;intro w hL)
  exact RetReq.mk hL.drop.drop ⟨ns4, e5, la4, ll4, La4, r5, hp2.trans hp4, (hS4.grow hm5).errs he5, rfl, hr5, hb5⟩
 by_cases k7 : xk = 7
 ·subst k7
  have hp := hon (by omega)
  refine go ?_;try(clear hL;intro w hL)
  refine DrawReq.planS hX (.fst 0 (.fst 1 (.fst 2 (.fst 3 (.fst 5 (.alt 4 (.alt 6 (.fst 7 (.done)) (.stop)) (.stop))))))) (TG m S0 w0 [(bn, .cells (toArr (ndC ⟨7, s0, s1, s2, s3, a, b', neg⟩)) 146 (0, 0)), (b2, .cells (toArr [.pointer (some ⟨sb, 0, none⟩)]) 149 (0, 0))] sb ab b bits ma ml) (by kernel_rfl) (by kernel_rfl) hL (fun w h => TG.of (Ls := [_, _]) h (Mem.Le.refl _)) ?_
  clear hL
  intro w hL
  conv => whnf
  repeat ((first | refine QLdReq.told hX rfl rfl TG.st0 ?_ | refine QLdReq.told hX rfl rfl (TG.own0 (bk := b2) (List.mem_cons_of_mem _ List.mem_cons_self) rfl) ?_ | refine QLdReq.told hX rfl rfl (TG.own (bk := bn) (i := 5) List.mem_cons_self rfl) ?_ | refine QLdReq.told hX rfl rfl (TG.own (bk := bn) (i := 6) List.mem_cons_self rfl) ?_ | refine QLdReq.told hX rfl rfl (TG.st (i := 1) (fun _ => rfl)) ?_ | refine QLdReq.told hX rfl rfl (TG.st (i := 2) (fun _ => rfl)) ?_ | (refine goq1 ?_;try(clear hL;intro w hL))); conv => whnf)
  refine CallReq.mk (L1 := stL ab sb b bits _ ma ml _ _ _) (L2 := [_, _]) (ih _ _ _ _ _ _ _ hS hp.1 (by have := hp.1.1; simp only; omega)) (Loc.back (L1 := [_, _]) hL) ?_
  clear hL
  rintro u m2 L2 w hL hm2 ⟨ns2, e2, la2, ll2, La2, f2, hp2, hS2, rfl, hf2, hb2⟩
  obtain ⟨A2, n2, c2, rfl, -⟩ := id hf2
  have hL := Loc.back (L1 := stL ab sb b bits e2 ma ml la2 ll2 La2) (L2 := [_, _]) hL
  refine SReq.mk (TG.of (Ls := [_, _]) hL hm2) ?_
  refine goq ?_;try(clear hL;intro w hL)
  refine CallReq.mk (L1 := stL ab sb b bits _ ma ml _ _ _) (L2 := [_, _]) (ahead_fn hS2 _ f2 hf2 hb2 i0 (okId_i64 hlen hid)) (Loc.back (L1 := [_, _]) hL) ?_
  clear hL
  rintro u m4 L4 w hL hm4 ⟨ns4, e4, la4, ll4, La4, f4, hp4, hS4, rfl, hf4, hb4⟩
  obtain ⟨A4, n4, c4, rfl, -⟩ := id hf4
  have hL := Loc.back (L1 := stL ab sb b bits e4 ma ml la4 ll4 La4) (L2 := [_, _]) hL
  refine SReq.mk (TG.of (Ls := [_, _]) hL (hm2.trans hm4)) ?_
  refine goq ?_;try(clear hL;intro w hL)
  exact RetReq.mk hL.drop.drop ⟨ns4, e4, la4, ll4, La4, f4, hp2.trans hp4, hS4, rfl, hf4, hb4⟩
 by_cases k3 : xk = 3
 ·subst k3
  have hp := hpt (by omega)
  refine go ?_;try(clear hL;intro w hL)
  refine DrawReq.planS hX (.fst 0 (.fst 1 (.fst 2 (.fst 3 (.fst 5 (.fst 6 (.alt 4 (.alt 7 (.fst 8 (.done)) (.stop)) (.stop)))))))) (TG m S0 w0 [(bn, .cells (toArr (ndC ⟨3, s0, s1, s2, s3, a, b', neg⟩)) 146 (0, 0)), (b2, .cells (toArr [.pointer (some ⟨sb, 0, none⟩)]) 149 (0, 0))] sb ab b bits ma ml) (by kernel_rfl) (by kernel_rfl) hL (fun w h => TG.of (Ls := [_, _]) h (Mem.Le.refl _)) ?_
  clear hL
  intro w hL
  conv => whnf
  repeat ((first | refine QLdReq.told hX rfl rfl TG.st0 ?_ | refine QLdReq.told hX rfl rfl (TG.own0 (bk := b2) (List.mem_cons_of_mem _ List.mem_cons_self) rfl) ?_ | refine QLdReq.told hX rfl rfl (TG.own (bk := bn) (i := 5) List.mem_cons_self rfl) ?_ | refine QLdReq.told hX rfl rfl (TG.own (bk := bn) (i := 6) List.mem_cons_self rfl) ?_ | refine QLdReq.told hX rfl rfl (TG.st (i := 1) (fun _ => rfl)) ?_ | refine QLdReq.told hX rfl rfl (TG.st (i := 2) (fun _ => rfl)) ?_ | (refine goq1 ?_;try(clear hL;intro w hL))); conv => whnf)
  refine CallReq.mk (L1 := stL ab sb b bits _ ma ml _ _ _) (L2 := [_, _]) (ih _ _ _ _ _ _ _ hS hp.1.1 (by have := hp.1.1.1; simp only; omega)) (Loc.back (L1 := [_, _]) hL) ?_
  clear hL
  rintro u m2 L2 w hL hm2 ⟨ns2, e2, la2, ll2, La2, f2, hp2, hS2, rfl, hf2, hb2⟩
  obtain ⟨A2, n2, c2, rfl, -⟩ := id hf2
  have hL := Loc.back (L1 := stL ab sb b bits e2 ma ml la2 ll2 La2) (L2 := [_, _]) hL
  refine SReq.mk (TG.of (Ls := [_, _]) hL hm2) ?_
  refine goq ?_;try(clear hL;intro w hL)
  refine CallReq.mk (L1 := stL ab sb b bits _ ma ml _ _ _) (L2 := [_, _]) (ahead_fn hS2 _ f2 hf2 hb2 b' (okId_i64 hlen hp.2.1)) (Loc.back (L1 := [_, _]) hL) ?_
  clear hL
  rintro u m4 L4 w hL hm4 ⟨ns4, e4, la4, ll4, La4, f4, hp4, hS4, rfl, hf4, hb4⟩
  obtain ⟨A4, n4, c4, rfl, -⟩ := id hf4
  have hL := Loc.back (L1 := stL ab sb b bits e4 ma ml la4 ll4 La4) (L2 := [_, _]) hL
  refine SReq.mk (TG.of (Ls := [_, _]) hL (hm2.trans hm4)) ?_
  refine goq ?_;try(clear hL;intro w hL)
  have hS4m := hS4
  refine DrawReq.planS hX (.fst 0 (.fst 1 (.fst 2 (.fst 3 (.fst 4 (.fst 5 (.fst 6 (.fst 7 (.fst 8 (.fst 9 (.alt 10 (.done) (.stop)))))))))))) (TG m S0 w0 [(bn, .cells (toArr (ndC ⟨3, s0, s1, s2, s3, a, b', neg⟩)) 146 (0, 0)), (b2, .cells (toArr [.pointer (some ⟨sb, 0, none⟩)]) 149 (0, 0))] sb ab b bits ma ml) (by kernel_rfl) (by kernel_rfl) hL (fun w h => TG.of (Ls := [_, _]) h (hm2.trans hm4)) ?_
  clear hL
  intro w hL
  conv => whnf
  repeat ((first | refine QLdReq.told hX rfl rfl TG.st0 ?_ | refine QLdReq.told hX rfl rfl (TG.own0 (bk := b2) (List.mem_cons_of_mem _ List.mem_cons_self) rfl) ?_ | refine QLdReq.told hX rfl rfl (TG.own (bk := bn) (i := 5) List.mem_cons_self rfl) ?_ | refine QLdReq.told hX rfl rfl (TG.own (bk := bn) (i := 6) List.mem_cons_self rfl) ?_ | refine QLdReq.told hX rfl rfl (TG.st (i := 1) (fun _ => rfl)) ?_ | refine QLdReq.told hX rfl rfl (TG.st (i := 2) (fun _ => rfl)) ?_ | (refine goq1 ?_;try(clear hL;intro w hL))); conv => whnf)
  refine CallReq.lm (L1 := La4) (L2 := [_, _, _, _, _]) (Null_fn m4 ab bits ns4 La4 hS4.ar hS4.ok hbits a) (Loc.back (L1 := [_, _, _, _, _]) hL) ?_
  clear hL
  intro m5 w hm5 hL
  have hL := Loc.back (L1 := La4) (L2 := [_, _, _, _, _]) hL
  generalize (if 0 ≤ a ∧ a < (ns4.length : Int) then nulN bits ns4 a.toNat else false) = bn0
  refine SReq.mk (TG.of (Ls := [_, _]) hL (hm2.trans (hm4.trans hm5))) ?_
  refine goq ?_;try(clear hL;intro w hL)
  have hS5 := hS4.grow hm5
  refine BrReq.bool (fun hb => ?_) (fun hb => ?_)
  ·refine go ?_;try(clear hL;intro w hL)
   refine DrawReq.planS hX (.fst 0 (.fst 1 (.fst 2 (.fst 3 (.fst 4 (.alt 5 (.alt 6 (.fst 7 (.done)) (.stop)) (.stop))))))) (TG m S0 w0 [(bn, .cells (toArr (ndC ⟨3, s0, s1, s2, s3, a, b', neg⟩)) 146 (0, 0)), (b2, .cells (toArr [.pointer (some ⟨sb, 0, none⟩)]) 149 (0, 0))] sb ab b bits ma ml) (by kernel_rfl) (by kernel_rfl) hL (fun w h => TG.of (Ls := [_, _]) h (hm2.trans (hm4.trans hm5))) ?_
   clear hL
   intro w hL
   conv => whnf
   repeat ((first | refine QLdReq.told hX rfl rfl TG.st0 ?_ | refine QLdReq.told hX rfl rfl (TG.own0 (bk := b2) (List.mem_cons_of_mem _ List.mem_cons_self) rfl) ?_ | refine QLdReq.told hX rfl rfl (TG.own (bk := bn) (i := 5) List.mem_cons_self rfl) ?_ | refine QLdReq.told hX rfl rfl (TG.own (bk := bn) (i := 6) List.mem_cons_self rfl) ?_ | refine QLdReq.told hX rfl rfl (TG.st (i := 1) (fun _ => rfl)) ?_ | refine QLdReq.told hX rfl rfl (TG.st (i := 2) (fun _ => rfl)) ?_ | (refine goq1 ?_;try(clear hL;intro w hL))); conv => whnf)
   refine CallReq.mk (L1 := stL ab sb b bits _ ma ml _ _ _) (L2 := [_, _]) (ih _ _ _ _ _ _ _ hS5 (okId_pre (hp2.trans hp4) hp.2.1) (by have := hp.2.1.1; simp only; omega)) (Loc.back (L1 := [_, _]) hL) ?_
   clear hL
   rintro u m6 L6 w hL hm6 ⟨ns6, e6, la6, ll6, La6, f6, hp6, hS6, rfl, hf6, hb6⟩
   obtain ⟨A6, n6, c6, rfl, -⟩ := id hf6
   have hL := Loc.back (L1 := stL ab sb b bits e6 ma ml la6 ll6 La6) (L2 := [_, _]) hL
   refine SReq.mk (TG.of (Ls := [_, _]) hL (hm2.trans (hm4.trans (hm5.trans hm6)))) ?_
   refine goq ?_;try(clear hL;intro w hL)
   refine CallReq.mk (L1 := [_]) (L2 := _ :: _ :: (ma, mapW _) :: (ml, mapW _) :: _) (or_fn _ ab sb b bits e6 ma ml _ _ f4 f6 ns6.length hS6.ok.len hS6.err (hf4.le (hm5.trans hm6)) hf6 (hb4.mono hp6.length_le) hb6) (p2 (x := _) (z := _) hL) ?_
   clear hL
   rintro u m7 L7 w hL hm7 ⟨e7, r7, he7, rfl, hr7, hb7⟩
   obtain ⟨A7, n7, c7, rfl, -⟩ := id hr7
   have hL := q2 (x := _) (z := _) hL
   refine SReq.mk (TG.of (Ls := [_, _]) hL (hm2.trans (hm4.trans (hm5.trans (hm6.trans hm7))))) ?_
   refine goq ?_;try(clear hL;intro w hL)
   exact RetReq.mk hL.drop.drop ⟨ns6, e7, la6, ll6, La6, r7, hp2.trans (hp4.trans hp6), (hS6.grow hm7).errs he7, rfl, hr7, hb7⟩
  ·refine go ?_;try(clear hL;intro w hL)
   exact RetReq.mk hL.drop.drop ⟨ns4, e4, la4, ll4, La4, f4, hp2.trans hp4, hS5, rfl, hf4.le hm5, hb4⟩
 by_cases k6 : xk = 6
 ·subst k6
  have hp := hon (by omega)
  refine go ?_;try(clear hL;intro w hL)
  refine DrawReq.planS hX (.fst 0 (.fst 1 (.fst 2 (.fst 3 (.fst 4 (.fst 7 (.alt 5 (.alt 6 (.alt 8 (.fst 9 (.done)) (.stop)) (.stop)) (.stop)))))))) (TG m S0 w0 [(bn, .cells (toArr (ndC ⟨6, s0, s1, s2, s3, a, b', neg⟩)) 146 (0, 0)), (b2, .cells (toArr [.pointer (some ⟨sb, 0, none⟩)]) 149 (0, 0))] sb ab b bits ma ml) (by kernel_rfl) (by kernel_rfl) hL (fun w h => TG.of (Ls := [_, _]) h (Mem.Le.refl _)) ?_
  clear hL
  intro w hL
  conv => whnf
  repeat ((first | refine QLdReq.told hX rfl rfl TG.st0 ?_ | refine QLdReq.told hX rfl rfl (TG.own0 (bk := b2) (List.mem_cons_of_mem _ List.mem_cons_self) rfl) ?_ | refine QLdReq.told hX rfl rfl (TG.own (bk := bn) (i := 5) List.mem_cons_self rfl) ?_ | refine QLdReq.told hX rfl rfl (TG.own (bk := bn) (i := 6) List.mem_cons_self rfl) ?_ | refine QLdReq.told hX rfl rfl (TG.st (i := 1) (fun _ => rfl)) ?_ | refine QLdReq.told hX rfl rfl (TG.st (i := 2) (fun _ => rfl)) ?_ | (refine goq1 ?_;try(clear hL;intro w hL))); conv => whnf)
  refine CallReq.mk (L1 := stL ab sb b bits _ ma ml _ _ _) (L2 := [_, _]) (ih _ _ _ _ _ _ _ hS hp.1 (by have := hp.1.1; simp only; omega)) (Loc.back (L1 := [_, _]) hL) ?_
  clear hL
  rintro u m2 L2 w hL hm2 ⟨ns2, e2, la2, ll2, La2, f2, hp2, hS2, rfl, hf2, hb2⟩
  obtain ⟨A2, n2, c2, rfl, -⟩ := id hf2
  have hL := Loc.back (L1 := stL ab sb b bits e2 ma ml la2 ll2 La2) (L2 := [_, _]) hL
  refine SReq.mk (TG.of (Ls := [_, _]) hL hm2) ?_
  refine goq ?_;try(clear hL;intro w hL)
  refine CallReq.mk (L1 := [_]) (L2 := _ :: _ :: (ma, mapW _) :: (ml, mapW _) :: _) (dual_fn _ ab sb b bits e2 ma ml _ f2 ns2.length hS2.ok.len hS2.err hf2 hb2) (p2 (x := _) (z := _) hL) ?_
  clear hL
  rintro u m3 L3 w hL hm3 ⟨e3, r3, he3, rfl, hr3, hb3⟩
  obtain ⟨A3, n3, c3, rfl, -⟩ := id hr3
  have hL := q2 (x := _) (z := _) hL
  refine SReq.mk (TG.of (Ls := [_, _]) hL (hm2.trans hm3)) ?_
  refine goq ?_;try(clear hL;intro w hL)
  have hS3 := (hS2.grow hm3).errs he3
  refine CallReq.mk (L1 := [(b2, .cells (toArr [.pointer (some ⟨sb, 0, none⟩)]) 149 (0, 0))] ++ stL ab sb b bits e3 ma ml la2 ll2 La2) (L2 := [_]) (put1_fn _ r3 b2 hS3 hr3 hb3 (behind1_cal b2 ns2)) (Loc.back (L1 := [_]) hL) ?_
  clear hL
  rintro u m4 L4 w hL hm4 ⟨ns4, e4, la4, ll4, La4, f4, hp4, hS4, rfl, hf4, hb4⟩
  obtain ⟨A4, n4, c4, rfl, -⟩ := id hf4
  have hL := Loc.back (L1 := [(b2, .cells (toArr [.pointer (some ⟨sb, 0, none⟩)]) 149 (0, 0))] ++ stL ab sb b bits e4 ma ml la4 ll4 La4) (L2 := [_]) hL
  refine SReq.mk (TG.of (Ls := [_, _]) hL (hm2.trans (hm3.trans hm4))) ?_
  refine goq ?_;try(clear hL;intro w hL)
  exact RetReq.mk hL.drop.drop ⟨ns4, e4, la4, ll4, La4, f4, hp2.trans hp4, hS4, rfl, hf4, hb4⟩
 conv => whnf
 repeat ((first | refine BrReq.no (by omega) ?_ | (refine go1 ?_;try(clear hL;intro w hL))); conv => whnf)
 refine CallReq.val (fo.false_fn m) hL ?_
 clear hL
 intro w hL
 refine go ?_;try(clear hL;intro w hL)
 exact RetReq.mk hL.drop.drop ⟨ns, e, la, ll, La, [], List.prefix_refl _, hS, rfl, Sl.nil _ _ _, fo.FB.nil _⟩
set_option maxHeartbeats 4000000 in
theorem step_fn (ab sb b bits ma ml : Nat) (hb8 : b < 256) (hbits : bits < 256) : ∀ k, StepC ab sb b bits ma ml k := by
 intro k
 induction k with
 | zero => intro m ns e la ll La i0 hS hid hk; omega
 | succ k ih =>
   intro m ns e la ll La i0 hS hid hk
   have hi := okId_i64 hS.ok.len hid
   have hks := hS.left.keys
   have hmk := behind_fn hb8 hbits ih hS i0 hid (by omega)
   refine Fn.enter (N := 35) hX Tryz.func82 rfl rfl (by show _ ≤ _; simp) (fun w0 hL => ?_)
   conv => whnf
   generalize keys (stL ab sb b bits e ma ml la ll La) = S0 at hL ⊢
   refine go ?_;try(clear hL;intro w hL)
   refine RunReq.lookW hX rfl rfl key_int (z := .slice none 0 0) (by kernel_rfl) hL (.t (.t .h)) (isK_int _ hi) hks (fun hno => ?_) (fun v hv => ?_)
   rotate_left
   ·obtain ⟨kk, f, -, -, hf, hb⟩ := hS.left _ hv
    obtain ⟨A1, n1, c1, rfl, -⟩ := id hf
    refine go ?_;try(clear hL;intro w hL)
    exact RetReq.mk hL ⟨ns, e, la, ll, La, f, List.prefix_refl _, hS, rfl, hf, hb⟩
   by_cases h0 : e = 0
   rotate_left
   ·conv => whnf
    repeat ((first | refine BrReq.no (by omega) ?_ | (refine go1 ?_;try(clear hL;intro w hL))); conv => whnf)
    exact RetReq.mk hL ⟨ns, e, la, ll, La, [], List.prefix_refl _, hS, rfl, Sl.nil _ _ _, fo.FB.nil _⟩
   subst h0
   refine go ?_;try(clear hL;intro w hL)
   refine CallReq.mk (L1 := stL ab sb b bits _ ma ml _ _ _) (L2 := []) hmk (by rw [List.append_nil]; exact hL) ?_
   clear hL
   rintro u m2 L2 w hL hm2 ⟨ns2, e2, la2, ll2, La2, f2, hp2, hS2, rfl, hf2, hb2⟩
   rw [List.append_nil] at hL
   obtain ⟨A2, n2, c2, rfl, -⟩ := id hf2
   have hnew : isF m2 ns2.length (.int .i64 i0, .slice A2 n2 c2) := ⟨i0, f2, rfl, hi, hf2, hb2⟩
   refine go ?_;try(clear hL;intro w hL)
   refine RunUReq.updW hX rfl rfl key_int (k := .int .i64 i0) (v := .slice A2 n2 c2) 2 hL rfl (isK_int _ hi) hS2.left.keys (fun _ w hL => ?_) (fun q u hq w hL => ?_)
   ·refine go ?_;try(clear hL;intro w hL)
    exact RetReq.mk hL ⟨ns2, e2, la2, _, La2, f2, hp2, ⟨hS2.ar, hS2.ok, hS2.are, hS2.left.app hnew, hS2.err⟩, rfl, hf2, hb2⟩
   ·refine go ?_;try(clear hL;intro w hL)
    exact RetReq.mk hL ⟨ns2, e2, la2, _, La2, f2, hp2, ⟨hS2.ar, hS2.ok, hS2.are, hS2.left.set hnew q, hS2.err⟩, rfl, hf2, hb2⟩
theorem step_cal {ab sb b bits ma ml : Nat} (hb8 : b < 256) (hbits : bits < 256) (ns0 : List Nd) :
  CalC ab sb b bits ma ml 82 (fun z => [.pointer (some ⟨sb, 0, none⟩), .int .i64 z]) ([] : Ev.Own) ns0 := by
 intro m ns e la ll La z hpre hz hS
 exact step_fn ab sb b bits ma ml hb8 hbits (z.toNat + 1) m ns e la ll La z hS (okId_pre hpre hz) (Nat.lt_succ_self _)
end Go.Proofs.YtaooenndoopgdaaGreatDoor.li
namespace Go.Proofs.YtaooenndoopgdaaGreatDoor.li
open Go Go.Ev Go.Proofs Go.Proofs.YtaooenndoopgdaaGreatDoor.ar
theorem h11_fn (m : Mem) (b3 : Nat) (v : Value) (l : List Int) (hl : SlI m .i64 v l) (z : Int) :
  FnL Tryz.prog 136 [.int .i64 z, .pointer (some ⟨b3, 0, none⟩)] m [(b3, .cells (toArr [v]) 53 (0, 0))] (.bool (!decide (z ∈ l))) := by
 have hc := contains_fn m v l z hl
 obtain ⟨A, n, c, rfl, -⟩ := id hl
 refine Fn.enter (N := 8) hX Tryz.func136 rfl rfl (by show _ ≤ _; simp) (fun w0 hL => ?_)
 conv => whnf
 generalize keys [(b3, Obj.cells (toArr [.slice A n c]) 53 (0, 0))] = S0 at hL ⊢
 refine go ?_;try(clear hL;intro w hL)
 refine CallReq.val hc hL ?_
 clear hL
 intro w hL
 refine go ?_;try(clear hL;intro w hL)
 exact RetReq.mk hL ⟨rfl, rfl, rfl⟩
theorem h1ix_fn (m : Mem) (b3 : Nat) (v pv : Value) (l p : List Int) (hl : SlI m .i64 v l) (hp : SlI m .i64 pv p) :
  Ev.Fn Tryz.prog 128 [pv, .func (.func 136) #[] #[.pointer (some ⟨b3, 0, none⟩)]] m [(b3, .cells (toArr [v]) 53 (0, 0))]
   fun m' L' u => m' = m ∧ L' = [(b3, .cells (toArr [v]) 53 (0, 0))] ∧ ∃ z, u = .int .i64 z ∧ (0 ≤ z ↔ ¬ fo.subP p l) := by
 obtain ⟨A, n, c, rfl, -⟩ := id hl
 obtain ⟨A1, n1, c1, rfl, hn1, hc1, hm1, -⟩ := id hp
 have hcell := hp.cell.2
 have hmx : maxLen = 9223372036854775807 := rfl
 subst hn1
 refine Fn.enter (N := 19) hX Tryz.func128 rfl rfl (by show _ ≤ _; simp) (fun w0 hL => ?_)
 conv => whnf
 generalize keys [(b3, Obj.cells (toArr [.slice A n c]) 53 (0, 0))] = S0 at hL ⊢
 refine go ?_;try(clear hL;intro w hL)
 refine LoopReq.inv hX (fun j : Nat => [(8, .int .i64 j)]) [0, 1, 7]
  (fun j w => (j ≤ p.length ∧ ∀ x ∈ p.take j, x ∈ l) ∧ Ev.Loc m S0 w0 m [(b3, .cells (toArr [.slice A n c]) 53 (0, 0))] w) (fun j => p.length - j) 0
  ⟨⟨Nat.zero_le _, by simp⟩, hL⟩ ⟨rfl, trivial⟩ ?_
 clear hL
 rintro j w g ⟨⟨hj, hdone⟩, hL⟩
 refine go ?_;try(clear hL;intro w hL)
 refine BrReq.dec (fun hlt => ?_) (fun hlt => ?_)
 ·have hj1 : j < p.length := by omega
  obtain ⟨a, ea, hc'⟩ := hcell j _ (List.getElem?_eq_getElem hj1)
  conv => whnf
  repeat ((first | refine Idx2Req.mk j a rfl (by omega) ea ?_ | (refine LdReq.one hX rfl rfl hL (by rw [scale_eq, Nat.mul_one]; exact hc') ?_) | (refine go1 ?_;try(clear hL;intro w hL))); conv => whnf)
  refine CallReq.lo (h11_fn m b3 _ l hl p[j]) hL ?_
  clear hL
  intro w hL
  by_cases hx : p[j] ∈ l
  ·rw [decide_eq_true hx]
   have hd : ∀ x ∈ p.take (j + 1), x ∈ l := fun x hx2 => by
    rw [fo.take_succ' hj1] at hx2
    rcases List.mem_append.1 hx2 with h | h
    ·exact hdone x h
    ·rw [List.mem_singleton.1 h]; exact hx
   refine go ?_;try(clear hL;intro w hL)
   exact rnd (j + 1) ⟨⟨by omega, hd⟩, hL⟩
  ·rw [decide_eq_false hx]
   refine go ?_;try(clear hL;intro w hL)
   exact RetReq.mk hL ⟨rfl, rfl, _, rfl, ⟨fun _ hs => hx (hs _ (List.getElem_mem hj1)), fun _ => by omega⟩⟩
 ·have ej : j = p.length := by omega
  rw [ej, List.take_length] at hdone
  refine go ?_;try(clear hL;intro w hL)
  exact RetReq.mk hL ⟨rfl, rfl, _, rfl, ⟨fun h => by omega, fun h => absurd hdone h⟩⟩
theorem h1ct_fn (m : Mem) (b3 : Nat) (v pv : Value) (l p : List Int) (hl : SlI m .i64 v l) (hp : SlI m .i64 pv p) :
  FnL Tryz.prog 114 [pv, .func (.func 136) #[] #[.pointer (some ⟨b3, 0, none⟩)]] m [(b3, .cells (toArr [v]) 53 (0, 0))] (.bool (!fo.dec (fo.subP p l))) := by
 have hix := h1ix_fn m b3 v pv l p hl hp
 obtain ⟨A, n, c, rfl, -⟩ := id hl
 obtain ⟨A1, n1, c1, rfl, -⟩ := id hp
 refine Fn.enter (N := 9) hX Tryz.func114 rfl rfl (by show _ ≤ _; simp) (fun w0 hL => ?_)
 conv => whnf
 generalize keys [(b3, Obj.cells (toArr [.slice A n c]) 53 (0, 0))] = S0 at hL ⊢
 refine go ?_;try(clear hL;intro w hL)
 refine CallReq.mk (L1 := [_]) (L2 := []) hix (by rw [List.append_nil]; exact hL) ?_
 clear hL
 rintro u mx Lx w hL - ⟨hmx, rfl, z, rfl, hz⟩
 rw [hmx] at hL
 clear hmx mx
 rw [List.append_nil] at hL
 refine go ?_;try(clear hL;intro w hL)
 have e : decide (0 ≤ z) = !fo.dec (fo.subP p l) := by
  by_cases hs : fo.subP p l
  ·rw [fo.dec_t hs, decide_eq_false (fun h => hz.1 h hs)]; rfl
  ·rw [fo.dec_f hs, decide_eq_true (hz.2 hs)]; rfl
 exact RetReq.mk hL ⟨rfl, rfl, congrArg Value.bool e⟩
theorem h1_fn (m : Mem) (b3 : Nat) (v pv : Value) (l p : List Int) (hl : SlI m .i64 v l) (hp : SlI m .i64 pv p) :
  FnL Tryz.prog 135 [pv, .pointer (some ⟨b3, 0, none⟩)] m [(b3, .cells (toArr [v]) 53 (0, 0))] (.bool (fo.dec (fo.subP p l))) := by
 have hct := h1ct_fn m b3 v pv l p hl hp
 obtain ⟨A, n, c, rfl, -⟩ := id hl
 obtain ⟨A1, n1, c1, rfl, -⟩ := id hp
 refine Fn.enter (N := 8) hX Tryz.func135 rfl rfl (by show _ ≤ _; simp) (fun w0 hL => ?_)
 conv => whnf
 generalize keys [(b3, Obj.cells (toArr [.slice A n c]) 53 (0, 0))] = S0 at hL ⊢
 refine go ?_;try(clear hL;intro w hL)
 refine CallReq.lo hct hL ?_
 clear hL
 intro w hL
 refine go ?_;try(clear hL;intro w hL)
 exact RetReq.mk hL ⟨rfl, rfl, congrArg Value.bool (Bool.not_not _)⟩
theorem hix_fn (m : Mem) (b3 : Nat) (v fv : Value) (l : List Int) (f : fo.Fml) (hfl : f.length ≤ 200) (hl : SlI m .i64 v l) (hf : fo.FmV m fv f) :
  Ev.Fn Tryz.prog 173 [fv, .func (.func 135) #[] #[.pointer (some ⟨b3, 0, none⟩)]] m [(b3, .cells (toArr [v]) 53 (0, 0))]
   fun m' L' u => m' = m ∧ L' = [(b3, .cells (toArr [v]) 53 (0, 0))] ∧ ∃ z, u = .int .i64 z ∧ (0 ≤ z ↔ fo.holdsP f l) := by
 have hh := fun pv p hp => h1_fn m b3 v pv l p hl hp
 obtain ⟨A, n, c, rfl, -⟩ := id hl
 obtain ⟨A1, n1, c1, rfl, hn1, -⟩ := id hf
 have hmx : maxLen = 9223372036854775807 := rfl
 subst hn1
 refine Fn.enter (N := 19) hX Tryz.func173 rfl rfl (by show _ ≤ _; simp) (fun w0 hL => ?_)
 conv => whnf
 generalize keys [(b3, Obj.cells (toArr [.slice A n c]) 53 (0, 0))] = S0 at hL ⊢
 refine go ?_;try(clear hL;intro w hL)
 refine LoopReq.inv hX (fun j : Nat => [(8, .int .i64 j)]) [0, 1, 7]
  (fun j w => (j ≤ f.length ∧ ∀ x ∈ f.take j, ¬ fo.subP x l) ∧ Ev.Loc m S0 w0 m [(b3, .cells (toArr [.slice A n c]) 53 (0, 0))] w) (fun j => f.length - j) 0
  ⟨⟨Nat.zero_le _, by simp⟩, hL⟩ ⟨rfl, trivial⟩ ?_
 clear hL
 rintro j w g ⟨⟨hj, hdone⟩, hL⟩
 refine go ?_;try(clear hL;intro w hL)
 refine BrReq.dec (fun hlt => ?_) (fun hlt => ?_)
 ·have hj1 : j < f.length := by omega
  obtain ⟨a5, A5, n5, c5, ea, hcell, hpq⟩ := hf.at_ hj1
  conv => whnf
  repeat ((first | refine Idx2Req.mk j a5 rfl (by omega) ea ?_ | refine LdReq.one hX rfl rfl hL hcell ?_ | (refine go1 ?_;try(clear hL;intro w hL))); conv => whnf)
  refine CallReq.lo (hh _ f[j] hpq) hL ?_
  clear hL
  intro w hL
  by_cases hx : fo.subP f[j] l
  ·rw [fo.dec_t hx]
   refine go ?_;try(clear hL;intro w hL)
   exact RetReq.mk hL ⟨rfl, rfl, _, rfl, ⟨fun _ => ⟨_, List.getElem_mem hj1, hx⟩, fun _ => by omega⟩⟩
  ·rw [fo.dec_f hx]
   have hd : ∀ x ∈ f.take (j + 1), ¬ fo.subP x l := fun x hx2 => by
    rw [fo.take_succ' hj1] at hx2
    rcases List.mem_append.1 hx2 with h | h
    ·exact hdone x h
    ·rw [List.mem_singleton.1 h]; exact hx
   refine go ?_;try(clear hL;intro w hL)
   exact rnd (j + 1) ⟨⟨by omega, hd⟩, hL⟩
 ·have ej : j = f.length := by omega
  rw [ej, List.take_length] at hdone
  refine go ?_;try(clear hL;intro w hL)
  exact RetReq.mk hL ⟨rfl, rfl, _, rfl, ⟨fun h => by omega, fun ⟨p, hp, hs⟩ => absurd hs (hdone p hp)⟩⟩
theorem hct_fn (m : Mem) (b3 : Nat) (v fv : Value) (l : List Int) (f : fo.Fml) (hfl : f.length ≤ 200) (hl : SlI m .i64 v l) (hf : fo.FmV m fv f) :
  FnL Tryz.prog 134 [fv, .func (.func 135) #[] #[.pointer (some ⟨b3, 0, none⟩)]] m [(b3, .cells (toArr [v]) 53 (0, 0))] (.bool (fo.dec (fo.holdsP f l))) := by
 have hix := hix_fn m b3 v fv l f hfl hl hf
 obtain ⟨A, n, c, rfl, -⟩ := id hl
 obtain ⟨A1, n1, c1, rfl, -⟩ := id hf
 refine Fn.enter (N := 9) hX Tryz.func134 rfl rfl (by show _ ≤ _; simp) (fun w0 hL => ?_)
 conv => whnf
 generalize keys [(b3, Obj.cells (toArr [.slice A n c]) 53 (0, 0))] = S0 at hL ⊢
 refine go ?_;try(clear hL;intro w hL)
 refine CallReq.mk (L1 := [_]) (L2 := []) hix (by rw [List.append_nil]; exact hL) ?_
 clear hL
 rintro u mx Lx w hL - ⟨hmx, rfl, z, rfl, hz⟩
 rw [hmx] at hL
 clear hmx mx
 rw [List.append_nil] at hL
 refine go ?_;try(clear hL;intro w hL)
 have e : decide (0 ≤ z) = fo.dec (fo.holdsP f l) := by
  by_cases hs : fo.holdsP f l
  ·rw [fo.dec_t hs, decide_eq_true (hz.2 hs)]
  ·rw [fo.dec_f hs, decide_eq_false (fun h => hs (hz.1 h))]
 exact RetReq.mk hL ⟨rfl, rfl, congrArg Value.bool e⟩
theorem Holds_fn (m : Mem) (v fv : Value) (l : List Int) (f : fo.Fml) (hfl : f.length ≤ 200) (hl : SlI m .i64 v l) (hf : fo.FmV m fv f) :
  FnV Tryz.prog 91 [fv, v] m (.bool (fo.dec (fo.holdsP f l))) := by
 have hct := fun b3 => hct_fn m b3 v fv l f hfl hl hf
 obtain ⟨A, n, c, rfl, -⟩ := id hl
 obtain ⟨A1, n1, c1, rfl, -⟩ := id hf
 refine Fn.enter (N := 8) hX Tryz.func91 rfl rfl (by show _ ≤ _; simp) (fun w0 hL => ?_)
 conv => whnf
 refine NewReq.mk hL ?_
 clear hL
 intro b3 w hL
 conv => whnf
 refine go ?_;try(clear hL;intro w hL)
 refine CallReq.lo (hct b3) hL ?_
 clear hL
 intro w hL
 refine go ?_;try(clear hL;intro w hL)
 exact RetReq.mk (hL.sublist (List.nil_sublist _)) ⟨rfl, rfl⟩
theorem flat_le {N : Nat} {f : fo.Fml} (h : fo.FB N f) : f.flatten.length ≤ 200 * N := by
 have key : ∀ (g : fo.Fml), (∀ p ∈ g, p.length ≤ N) → g.flatten.length ≤ g.length * N := by
  intro g
  induction g with
  | nil => intro _; simp
  | cons p g ih =>
    intro hp
    have h1 := ih fun q hq => hp q (List.mem_cons_of_mem _ hq)
    have h2 := hp p List.mem_cons_self
    rw [List.flatten_cons, List.length_append, List.length_cons, Nat.succ_mul]
    omega
 have h1 := key f fun p hp => h.part hp
 have h2 := Nat.mul_le_mul_right N h.len
 omega
def atomsP (f : fo.Fml) : List Int := Lib.compact (fo.sortI f.flatten)
theorem atomsP_mem {f : fo.Fml} {z : Int} (h : z ∈ atomsP f) : ∃ p ∈ f, z ∈ p := by
 have h1 := fo.compact_mem h
 unfold fo.sortI at h1
 rw [List.mem_mergeSort] at h1
 exact List.mem_flatten.1 h1
theorem Atoms_fn (m : Mem) (fv : Value) (f : fo.Fml) (N : Nat) (hN : N ≤ 20000) (hf : fo.FmV m fv f) (hb : fo.FB N f) :
  Ev.Fn Tryz.prog 88 [fv] m [] fun m' L' u => m' = m ∧ OwnS 3 1 u (ints .i64 (atomsP f)) L' := by
 have hfl := flat_le hb
 have hfn := hb.len
 have hfi : fo.IsV m fv f := hf
 obtain ⟨A1, n1, c1, rfl, -⟩ := id hf
 refine Fn.enter (N := 10) hX Tryz.func88 rfl rfl (by show _ ≤ _; simp) (fun w0 hL => ?_)
 conv => whnf
 refine go ?_;try(clear hL;intro w hL)
 refine CallReq.mk (L1 := []) (fo.concatI_fn m _ f hfi (by omega) (by omega)) hL ?_
 clear hL
 rintro u mx L1 w hL - ⟨hmx, us, ho, hH⟩
 rw [hmx] at hL
 clear hmx mx
 unfold fo.HdI at hH
 subst hH
 obtain ⟨A, n, c, rfl, -⟩ := ho.slice
 refine go ?_;try(clear hL;intro w hL)
 refine CallReq.mk (L1 := L1) (fo.sortG_fn m A n c f.flatten L1 ho (by omega)) hL ?_
 clear hL ho
 rintro u mx L2 w hL - ⟨hmx, rfl, ho⟩
 rw [hmx] at hL
 clear hmx mx
 refine go ?_;try(clear hL;intro w hL)
 refine CallReq.mk (L1 := L2) (fo.compactG_fn m A n c _ L2 ho (by rw [fo.sortI_len]; omega)) hL ?_
 clear hL ho
 rintro u mx L3 w hL - ⟨hmx, ho⟩
 rw [hmx] at hL
 clear hmx mx
 obtain ⟨A', n', c', rfl, -⟩ := ho.slice
 rw [List.append_nil] at hL
 refine go ?_;try(clear hL;intro w hL)
 exact RetReq.mk hL ⟨rfl, ho⟩
theorem right1_fn (m : Mem) (ab b2 : Nat) (ns : List Nd) (La : Ev.Own) (hA : Ar ab ns La) (z : Int) :
  FnL Tryz.prog 115 [.int .i64 z, .pointer (some ⟨b2, 0, none⟩)] m ((b2, .cells (toArr [.pointer (some ⟨ab, 0, none⟩)]) 95 (0, 0)) :: La) (.bool (decide ((ns.length : Int) ≤ z))) := by
 obtain ⟨A, c, mb, L1, rfl, ho⟩ := hA
 refine Fn.enter (N := 8) hX Tryz.func115 rfl rfl (by show _ ≤ _; simp) (fun w0 hL => ?_)
 conv => whnf
 generalize keys ((b2, Obj.cells (toArr [.pointer (some ⟨ab, 0, none⟩)]) 95 (0, 0)) :: (ab, arO (.slice A ns.length c) mb) :: (mb, mapW (ndW ns 0)) :: L1) = S0 at hL ⊢
 refine go ?_;try(clear hL;intro w hL)
 refine CallReq.li (L1 := [(ab, arO (.slice A ns.length c) mb)]) (L2 := (b2, .cells (toArr [.pointer (some ⟨ab, 0, none⟩)]) 95 (0, 0)) :: (mb, mapW (ndW ns 0)) :: L1) (Len_fn m ab mb ns.length c A) (hL.perm (List.Perm.swap _ _ _)) ?_
 clear hL
 intro w hL
 have hL := hL.perm (List.Perm.swap _ _ _)
 refine go ?_;try(clear hL;intro w hL)
 exact RetReq.mk hL ⟨rfl, rfl, congrArg Value.bool (decide_eq_decide.2 (by omega))⟩
theorem rightIx_fn (m : Mem) (ab b2 : Nat) (ns : List Nd) (La : Ev.Own) (hA : Ar ab ns La) (v : Value) (l : List Int) (hl : SlI m .i64 v l) (hlt : ∀ z ∈ l, z < ns.length) :
  FnL Tryz.prog 128 [v, .func (.func 115) #[] #[.pointer (some ⟨b2, 0, none⟩)]] m ((b2, .cells (toArr [.pointer (some ⟨ab, 0, none⟩)]) 95 (0, 0)) :: La) (.int .i64 (-1)) := by
 obtain ⟨A1, n1, c1, rfl, hn1, hc1, hm1, -⟩ := id hl
 have hcell := hl.cell.2
 have hmx : maxLen = 9223372036854775807 := rfl
 subst hn1
 refine Fn.enter (N := 19) hX Tryz.func128 rfl rfl (by show _ ≤ _; simp) (fun w0 hL => ?_)
 conv => whnf
 generalize keys ((b2, Obj.cells (toArr [.pointer (some ⟨ab, 0, none⟩)]) 95 (0, 0)) :: La) = S0 at hL ⊢
 refine go ?_;try(clear hL;intro w hL)
 refine LoopReq.inv hX (fun j : Nat => [(8, .int .i64 j)]) [0, 1, 7]
  (fun j w => j ≤ l.length ∧ Ev.Loc m S0 w0 m ((b2, .cells (toArr [.pointer (some ⟨ab, 0, none⟩)]) 95 (0, 0)) :: La) w) (fun j => l.length - j) 0 ⟨Nat.zero_le _, hL⟩ ⟨rfl, trivial⟩ ?_
 clear hL
 rintro j w g ⟨hj, hL⟩
 refine go ?_;try(clear hL;intro w hL)
 refine BrReq.dec (fun hlt2 => ?_) (fun hlt2 => ?_)
 ·have hj1 : j < l.length := by omega
  obtain ⟨a, ea, hc'⟩ := hcell j _ (List.getElem?_eq_getElem hj1)
  have hx := hlt _ (List.getElem_mem hj1)
  conv => whnf
  repeat ((first | refine Idx2Req.mk j a rfl (by omega) ea ?_ | (refine LdReq.one hX rfl rfl hL (by rw [scale_eq, Nat.mul_one]; exact hc') ?_) | (refine go1 ?_;try(clear hL;intro w hL))); conv => whnf)
  refine CallReq.lo (right1_fn m ab b2 ns La hA l[j]) hL ?_
  clear hL
  intro w hL
  rw [decide_eq_false (by omega)]
  refine go ?_;try(clear hL;intro w hL)
  exact rnd (j + 1) ⟨by omega, hL⟩
 ·refine go ?_;try(clear hL;intro w hL)
  exact RetReq.mk hL ⟨rfl, rfl, rfl⟩
theorem right_fn (m : Mem) (ab : Nat) (ns : List Nd) (La : Ev.Own) (hA : Ar ab ns La) (hO : OkA ns) (fv : Value) (f : fo.Fml) (hf : fo.FmV m fv f) (hb : fo.FB ns.length f) :
  FnM Tryz.prog 80 [.pointer (some ⟨ab, 0, none⟩), fv] m La (.bool true) := by
 have hformed := fo.Formed_fn m fv f hf
 rw [fo.dec_t hb.formed] at hformed
 have hat := Atoms_fn m fv f ns.length hO.len hf hb
 have hlt : ∀ z ∈ atomsP f, z < (ns.length : Int) := fun z hz => by obtain ⟨p, hp, hzp⟩ := atomsP_mem hz; exact hb.lt p hp z hzp
 obtain ⟨A1, n1, c1, rfl, -⟩ := id hf
 refine Fn.enter (N := 18) hX Tryz.func80 rfl rfl (by show _ ≤ _; simp) (fun w0 hL => ?_)
 conv => whnf
 generalize keys La = S0 at hL ⊢
 refine NewReq.mk hL ?_
 clear hL
 intro b2 w hL
 conv => whnf
 conv => whnf
 repeat ((first | refine UGenReq.nilPtrNe hX rfl rfl rfl rfl rfl ?_ | (refine go1 ?_;try(clear hL;intro w hL))); conv => whnf)
 refine CallReq.val hformed hL ?_
 clear hL
 intro w hL
 refine go ?_;try(clear hL;intro w hL)
 refine CallReq.mk (L1 := []) hat hL ?_
 clear hL
 rintro u mx Lo w hL - ⟨hmx, ho⟩
 rw [hmx] at hL
 clear hmx mx
 obtain ⟨m1, hL1, hm1, hs⟩ := OwnS.freeze ho hL
 clear hL
 have hL := hL1
 clear hL1
 have hix := fun b2 => rightIx_fn m1 ab b2 ns La hA _ _ hs hlt
 obtain ⟨Ao, no, co, rfl, -⟩ := id hs
 have hct : FnL Tryz.prog 114 [.slice Ao no co, .func (.func 115) #[] #[.pointer (some ⟨b2, 0, none⟩)]] m1 ((b2, .cells (toArr [.pointer (some ⟨ab, 0, none⟩)]) 95 (0, 0)) :: La) (.bool false) := by
  clear hL
  refine Fn.enter (N := 9) hX Tryz.func114 rfl rfl (by show _ ≤ _; simp) (fun w0 hL => ?_)
  conv => whnf
  generalize keys ((b2, Obj.cells (toArr [.pointer (some ⟨ab, 0, none⟩)]) 95 (0, 0)) :: La) = S1 at hL ⊢
  refine go ?_;try(clear hL;intro w hL)
  refine CallReq.lo (hix b2) hL ?_
  clear hL
  intro w hL
  refine go ?_;try(clear hL;intro w hL)
  exact RetReq.mk hL ⟨rfl, rfl, rfl⟩
 refine go ?_;try(clear hL;intro w hL)
 refine CallReq.lo hct hL ?_
 clear hL
 intro w hL
 refine go ?_;try(clear hL;intro w hL)
 exact RetReq.mk hL.drop ⟨rfl, rfl⟩
end Go.Proofs.YtaooenndoopgdaaGreatDoor.li
