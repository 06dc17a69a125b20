/- LazyKeeps, proved: a lazy machine keeps no more than it may, makes nothing twice that it keeps, and forgets all at a flush. Conditions: none beyond the row its own.: part 12 of 13 of the proof. Conditions: none. -/
import Derived.Test.YtaooenndoopgdaaGreatDoorK11
import Derived.Test.YtaooenndoopgdaaGreatDoorK3
import Derived.Test.YtaooenndoopgdaaGreatDoorK6
import Derived.Test.YtaooenndoopgdaaGreatDoorK4
import Derived.Test.YtaooenndoopgdaaGreatDoorK1
import Derived.Test.YtaooenndoopgdaaGreatDoorCards
import Derived.Test.YtaooenndoopgdaaGreatDoorTie
import Derived.LaidMore
import Derived.Stop.LaidErr
import Derived.Lib.LaidTab
import Derived.SevenTiedAt
namespace Go.Proofs.YtaooenndoopgdaaGreatDoor.lz
open Go Go.Ev Go.Proofs Go.Proofs.YtaooenndoopgdaaGreatDoor.ar Go.Proofs.YtaooenndoopgdaaGreatDoor.tree Go.Proofs.YtaooenndoopgdaaGreatDoor.looks
theorem mul_fn (m : Mem) (y : Nat) (h : y ≤ 4096) : FnV Tryz.prog 79 [.int .u64 1, .int .u64 y] m (.tuple (toArr [.int .u64 0, .int .u64 y])) :=
 fo.fn_same fun w => by
  have := Tryz.bits_Mul 1 y (by omega) (by omega) w
  rwa [Nat.one_mul, Nat.div_eq_of_lt (by omega), Nat.mod_eq_of_lt (by omega)] at this
theorem rep_split (j k W : Nat) (h : j + k ≤ W) : (ints (List.replicate j (-1) ++ List.replicate (W - j) 0)).take j ++ ints (List.replicate k (-1)) ++ (ints (List.replicate j (-1) ++ List.replicate (W - j) 0)).drop (j + (ints (List.replicate k (-1))).length) = ints (List.replicate (j + k) (-1) ++ List.replicate (W - (j + k)) 0) := by
 have e1 : (ints (List.replicate k (-1))).length = k := by simp [ints]
 have e2 : List.replicate (W - j) (0 : Int) = List.replicate k 0 ++ List.replicate (W - (j + k)) 0 := by rw [List.replicate_append_replicate]; congr 1; omega
 rw [e1, e2]
 simp only [ints, List.map_append, List.map_replicate]
 rw [List.take_append_of_le_length (by simp), List.take_of_length_le (by simp), ← List.drop_drop, List.drop_append_of_le_length (by simp), List.drop_of_length_le (l := List.replicate j _) (by simp), List.nil_append, List.drop_append_of_le_length (by simp), List.drop_of_length_le (l := List.replicate k _) (by simp), List.nil_append, List.replicate_append_replicate]
theorem zeros_ints (n : Nat) : zerosL n [.int .i64 0] = ints (List.replicate n 0) := by
 induction n with
 | zero => rfl
 | succ n ih => show .int .i64 0 :: zerosL n [.int .i64 0] = _; rw [ih, List.replicate_succ]; rfl
set_option maxHeartbeats 1000000 in
theorem repeat_fn (m : Mem) (g W : Nat) (h1 : 1 ≤ W) (hW : W ≤ 4096) : Ev.Fn Tryz.prog 50 [.slice (some ⟨g, 0, none⟩) 1 1, .int .i64 W] m [(g, .cells (toArr [.int .i64 (-1)]) 3 (0, 0))] fun m' L' u => m' = m ∧ ∃ r, u = .slice (some ⟨r, 0, none⟩) W W ∧ L' = [(r, .cells (toArr (ints (List.replicate W (-1)))) 3 (0, 0))] := by
 have hmx : maxLen = 9223372036854775807 := rfl
 have hmul := mul_fn m W hW
 refine Fn.enter (N := 48) hX Tryz.func50 rfl rfl (by show _ ≤ _; simp) (fun w0 hL => ?_)
 conv => whnf
 generalize keys [(g, .cells (toArr [.int .i64 (-1)]) 3 (0, 0))] = S0 at hL ⊢
 conv => whnf
 repeat ((first | refine BrReq.no (show ¬ ((W : Int) < 0) by omega) ?_ | refine ArReq.u64 (by omega) (by omega) ?_ | (refine go1 ?_;try(clear hL;intro w hL))); conv => whnf)
 refine CallReq.val hmul hL ?_
 clear hL
 intro w hL
 conv => whnf
 repeat ((first | refine BrReq.no (show ¬ (9223372036854775807 < (W : Int)) by omega) ?_ | (refine go1 ?_;try(clear hL;intro w hL))); conv => whnf)
 refine RunReq.make hX rfl rfl rfl rfl W W rfl rfl (Nat.le_refl _) (by omega) rfl hL ?_
 clear hL
 intro r w hL
 replace hL : Ev.Loc m S0 w0 m ((r, .cells (toArr (zerosL W [.int .i64 0])) 3 (0, 0)) :: [(g, .cells (toArr [.int .i64 (-1)]) 3 (0, 0))]) w := hL
 rw [zeros_ints] at hL
 refine go ?_;try(clear hL;intro w hL)
 have hlenZ : ∀ j, j ≤ W → (ints (List.replicate j (-1) ++ List.replicate (W - j) 0)).length = W := fun j hj => by simp [ints]; omega
 have hoc : ∀ (k : Nat) (z : Int), ∀ v ∈ ints (List.replicate k z), v.oneCell' = true := fun k z v hv => by
  obtain ⟨q, -, rfl⟩ := List.mem_map.1 hv; rfl
 refine RunReq.copyRow hX rfl rfl rfl rfl 0 (cur := ints (List.replicate W 0)) (cs := ints (List.replicate 1 (-1))) (te := 3) hL rfl (by show 1 = min 1 W; omega) (fun j v hj => ?_) (by simp [ints]; omega) (hoc 1 (-1)) ?_
 ·obtain rfl : j = 0 := by have := (List.getElem?_eq_some_iff.1 hj).1; simp [ints] at this; exact this
  have hv : v = .int .i64 (-1) := (Option.some.inj hj).symm
  rw [hv]
  exact hL.ownCell (c := toArr [.int .i64 (-1)]) (.tail _ (.head _))
 clear hL
 intro w hL
 have hsp := rep_split 0 1 W (by omega)
 simp only [List.replicate_zero, List.nil_append, Nat.sub_zero] at hsp
 replace hL : Ev.Loc m S0 w0 m ((r, .cells (toArr ((ints (List.replicate W 0)).take 0 ++ ints (List.replicate 1 (-1)) ++ (ints (List.replicate W 0)).drop (0 + (ints (List.replicate 1 (-1))).length))) 3 (0, 0)) :: [(g, .cells (toArr [.int .i64 (-1)]) 3 (0, 0))]) w := hL
 rw [hsp] at hL
 refine go ?_;try(clear hL;intro w hL)
 refine LoopReq.inv hX (fun j : Nat => [(8, .int .i64 j)]) [7]
  (fun j w => (1 ≤ j ∧ j ≤ W) ∧ Ev.Loc m S0 w0 m ((r, .cells (toArr (ints (List.replicate j (-1) ++ List.replicate (W - j) 0))) 3 (0, 0)) :: [(g, .cells (toArr [.int .i64 (-1)]) 3 (0, 0))]) w) (fun j => W - j) 1
  ⟨by omega, hL⟩ ⟨rfl, trivial⟩ ?_
 clear hL
 rintro j w e ⟨⟨hj1, hj⟩, hL⟩
 refine go ?_;try(clear hL;intro w hL)
 refine BrReq.dec (fun hlt => ?_) (fun hlt => ?_)
 ·have hjW : ¬ W = j := by omega
  refine go ?_;try(clear hL;intro w hL)
  refine DrawReq.plan hX (.fst 0 (.fst 1 (.fst 2 (.fst 3 (.fst 4 (.fst 5 (.fst 6 (.alt 7 (.fst 8 (.fst 9 (.done))) (.stop))))))))) [] (by kernel_rfl) (by kernel_rfl) hL (fun h => h.sublist (List.nil_sublist _)) ?_
  clear hL
  intro w hL
  conv => whnf
  repeat ((first | refine SlReq.mk j W rfl rfl (by omega) (by omega) ?_ | refine SlReq.mk 0 j rfl rfl (by omega) (by omega) ?_ | (refine goq1 ?_;try(clear hL;intro w hL))); conv => whnf)
  rw [if_neg hjW, if_neg (show ¬ W = 0 by omega)]
  simp only [Option.map_some, scale_eq, Nat.mul_one, addr_add, Nat.zero_add]
  obtain ⟨k, hk⟩ : ∃ k, k = Nat.min j (W - j) := ⟨_, rfl⟩
  have hk1 : 1 ≤ k ∧ j + k ≤ W ∧ k ≤ j := by
   have : k = min j (W - j) := hk
   omega
  have hek : (ints (List.replicate k (-1))).length = k := by simp [ints]
  refine RunReq.copyRow (g := r) (o := j) (dLen := W - j) (dCap := W - j) (sLen := j) (sCap := W) (a := ⟨r, 0, none⟩) hX rfl rfl rfl rfl 0 (cur := ints (List.replicate j (-1) ++ List.replicate (W - j) 0)) (cs := ints (List.replicate k (-1))) (te := 3) hL rfl (by rw [hek, hk]) (fun q v hq => ?_) (by rw [hek, hlenZ j hj]; omega) (hoc k (-1)) ?_
  ·have hq2 : q < k := by have := (List.getElem?_eq_some_iff.1 hq).1; rw [hek] at this; exact this
   rw [addr_add, Nat.zero_add, hL.ownCell (.head _)]
   rw [show (toArr (ints (List.replicate j (-1) ++ List.replicate (W - j) 0)))[q]? = (ints (List.replicate j (-1) ++ List.replicate (W - j) 0))[q]? from by simp [toArr], ← hq]
   simp only [ints, List.map_append, List.map_replicate]
   rw [List.getElem?_append_left (by simp; omega), List.getElem?_replicate, if_pos (by omega), List.getElem?_replicate, if_pos hq2]
  clear hL
  intro w hL
  replace hL : Ev.Loc m S0 w0 m ((r, .cells (toArr ((ints (List.replicate j (-1) ++ List.replicate (W - j) 0)).take j ++ ints (List.replicate k (-1)) ++ (ints (List.replicate j (-1) ++ List.replicate (W - j) 0)).drop (j + (ints (List.replicate k (-1))).length))) 3 (0, 0)) :: [(g, .cells (toArr [.int .i64 (-1)]) 3 (0, 0))]) w := hL
  rw [rep_split j k W hk1.2.1] at hL
  rw [hek]
  refine SReq.mk (hL.sublist (List.nil_sublist _)) ?_
  conv => whnf
  repeat ((first | refine SReq.mk (hL.sublist (List.nil_sublist _)) ?_ | (refine goq1 ?_;try(clear hL;intro w hL))); conv => whnf)
  exact rnd (j + k) ⟨by omega, hL⟩
 ·obtain rfl : j = W := by omega
  refine go ?_;try(clear hL;intro w hL)
  rw [Nat.sub_self, List.replicate_zero, List.append_nil] at hL
  exact RetReq.mk (hL.sublist (.cons_cons _ (List.nil_sublist _))) ⟨rfl, r, rfl, rfl⟩
def St.rest (x : St) : Ev.Own := (x.kb, mapW (knW x.l 0)) :: (x.Lm ++ (x.Lb ++ (x.La ++ x.Ll)))
theorem own_rb (lb : Nat) (x : St) : (x.own lb).Perm ((lb, x.ob) :: (x.rb, mapB x.ck (rwW x.rows)) :: (rwB x.rows ++ x.rest)) := by
 classical
 refine List.perm_iff_count.2 fun z => ?_
 simp only [St.own, St.rest, List.count_append, List.count_cons]
 omega
def St.gone (x : St) : St := { x with rows := [], ck := x.ck + x.rows.length }
theorem flush_fn (m : Mem) (lb : Nat) (x : St) (hav : x.av.oneCell' = true) (hbv : x.bv.oneCell' = true) (hlv : x.lv.oneCell' = true) : Ev.Fn Tryz.prog 15 [.pointer (some ⟨lb, 0, none⟩)] m (x.own lb) fun m' L' u => m' = m ∧ L' = x.gone.own lb ∧ u = .tuple #[] := by
 refine Fn.enter (N := 8) hX Tryz.func15 rfl rfl (by show _ ≤ _; simp) (fun w0 hL => ?_)
 conv => whnf
 generalize keys (x.own lb) = S0 at hL ⊢
 replace hL := hL.perm (own_rb lb x)
 conv => whnf
 repeat ((first | refine UGenReq.nilPtrNe hX rfl rfl rfl rfl rfl ?_ | (refine go1 ?_;try(clear hL;intro w hL))); conv => whnf)
 refine GenReq.clearB hX rfl rfl rfl rfl rfl rfl 1 hL rfl ?_
 clear hL
 intro w hL
 refine go ?_;try(clear hL;intro w hL)
 replace hL : Ev.Loc m S0 w0 m ((lb, x.ob) :: (x.rb, mapB (x.ck + (rwW x.rows).length) []) :: (rwB x.rows ++ x.rest)) w := hL
 rw [show (rwW x.rows).length = x.rows.length from List.length_map ..] at hL
 replace hL := hL.sublist (.cons_cons _ (.cons_cons _ (List.sublist_append_right _ _)))
 replace hL := hL.perm (L' := x.gone.own lb) (own_rb lb x.gone).symm
 exact RetReq.mk hL ⟨rfl, rfl, rfl⟩
theorem and_pl_all : ((List.range 256).all fun b => (List.range 5).all fun k => decide (bitsOf .and .i64 ((b : Nat) : Int) (((2 ^ k : Nat) : Int) - 1) = ((b % 2 ^ k : Nat) : Int))) = true := by decide +kernel
theorem and_pl {b k : Nat} (hb : b < 256) (hk : k ≤ 4) : bitsOf .and .i64 ((b : Nat) : Int) (((2 ^ k : Nat) : Int) - 1) = ((b % 2 ^ k : Nat) : Int) := by
 have h1 := List.all_eq_true.1 and_pl_all b (List.mem_range.2 hb)
 exact of_decide_eq_true (List.all_eq_true.1 h1 k (List.mem_range.2 (by omega)))
theorem shl_pl_all : ((List.range 257).all fun n => (List.range 5).all fun k => decide (IntKind.wrap .i64 (((n : Nat) : Int) * 2 ^ (min (Int.toNat ((k : Nat) : Int)) (IntKind.bits .i64))) = ((n * 2 ^ k : Nat) : Int))) = true := by decide +kernel
theorem shl_pl {n k : Nat} (hn : n ≤ 256) (hk : k ≤ 4) : IntKind.wrap .i64 (((n : Nat) : Int) * 2 ^ (min (Int.toNat ((k : Nat) : Int)) (IntKind.bits .i64))) = ((n * 2 ^ k : Nat) : Int) := by
 have h1 := List.all_eq_true.1 shl_pl_all n (List.mem_range.2 (by omega))
 exact of_decide_eq_true (List.all_eq_true.1 h1 k (List.mem_range.2 (by omega)))
theorem pow4 {k : Nat} (h : k ≤ 4) : 1 ≤ 2 ^ k ∧ 2 ^ k ≤ 16 := by
 have h1 : 2 ^ k ≤ 2 ^ 4 := Nat.pow_le_pow_right (by omega) h
 have h2 : 0 < 2 ^ k := Nat.two_pow_pos k
 omega
def plN (k : Nat) (of : List Nat) (N b bits : Nat) : Nat := (bits % 2 ^ k) * N + of.getD b 0
def wdN (k N : Nat) : Nat := N * 2 ^ k
theorem Cls.get {of : List Nat} {N : Nat} (h : Cls of N) {b : Nat} (hb : b < 256) : of[b]? = some (of.getD b 0) ∧ of.getD b 0 < N := by
 have hl := h.len
 have e : of[b]? = some of[b] := List.getElem?_eq_getElem (by omega)
 have e2 : of.getD b 0 = of[b] := by rw [List.getD_eq_getElem?_getD, e]; rfl
 rw [e2]
 exact ⟨e, h.lt _ (List.getElem_mem _)⟩
theorem plN_lt {k : Nat} {of : List Nat} {N b bits : Nat} (h : Cls of N) (hb : b < 256) : plN k of N b bits < wdN k N := by
 have h1 := (h.get hb).2
 have h2 : bits % 2 ^ k < 2 ^ k := Nat.mod_lt _ (Nat.two_pow_pos k)
 unfold plN wdN
 have h3 : (bits % 2 ^ k + 1) * N ≤ 2 ^ k * N := Nat.mul_le_mul_right N h2
 rw [Nat.add_mul, Nat.one_mul, Nat.mul_comm (2 ^ k) N] at h3
 omega
theorem wdN_le {k : Nat} {of : List Nat} {N : Nat} (h : Cls of N) (hk : k ≤ 4) : 1 ≤ wdN k N ∧ wdN k N ≤ 4096 := by
 have h1 := h.le
 have h2 := h.pos
 have h3 := pow4 hk
 unfold wdN
 have h4 : N * 2 ^ k ≤ 256 * 16 := Nat.mul_le_mul h1 h3.2
 have h5 : 1 * 1 ≤ N * 2 ^ k := Nat.mul_le_mul h2 h3.1
 omega
theorem Mkr.cells {m : Mem} {mb ab : Nat} {s : Sp} {ls : List Re} {fs : List fo.Fml} {of : List Nat} {N : Nat} (h : Mkr m mb ab s ls fs of N) :
  (∃ A c, mcell m ((⟨mb, 0, none⟩ : Addr).add 1) = some (.slice A ls.length c)) ∧ mcell m ((⟨mb, 0, none⟩ : Addr).add 258) = some (.int .i64 N) ∧ (∀ b, b < 256 → mcell m ((⟨mb, 0, none⟩ : Addr).add (2 + b)) = some (.int .u8 (of.getD b 0 : Nat))) ∧ Cells m ((⟨mb, 0, none⟩ : Addr).add 2) (clC of N) := by
 obtain ⟨⟨A, n, c, A2, n2, c2, A3, n3, c3, A4, n4, c4, h1, h2, h3, h4⟩, h5, h6, h7⟩ := h
 have hl := h5.len
 have hn := h2.lens.1
 subst hn
 refine ⟨⟨A, c, h1 1 _ rfl⟩, h1 258 _ ?_, fun b hb => h1 (2 + b) _ ?_, ?_⟩
 ·unfold mkC
  rw [List.getElem?_cons_succ, List.getElem?_cons_succ, List.getElem?_append_left (by rw [clC_len, hl]; omega)]
  unfold clC
  rw [List.getElem?_append_right (by rw [u8s_len]; omega), u8s_len, hl]; rfl
 ·unfold mkC
  rw [Nat.add_comm 2 b, List.getElem?_cons_succ, List.getElem?_cons_succ, List.getElem?_append_left (by rw [clC_len, hl]; omega)]
  unfold clC u8s
  rw [List.getElem?_append_left (by rw [List.length_map]; omega), List.getElem?_map, (h5.get hb).1]; rfl
 ·have := cells_sub h1 2 257
  unfold mkC at this
  rw [List.drop_succ_cons, List.drop_succ_cons, List.drop_zero, List.take_left' (by rw [clC_len, hl])] at this
  exact this
theorem place_fn (m : Mem) (lb mb ab kb rb : Nat) (s : Sp) (ls : List Re) (fs : List fo.Fml) (of : List Nat) (N : Nat) (hM : Mkr m mb ab s ls fs of N) (av bv lv : Value) (room dn mu se made asked : Int) (b bits : Nat) (hb : b < 256) (hbits : bits < 256) :
  FnL Tryz.prog 28 [.pointer (some ⟨lb, 0, none⟩), .int .u8 b, .int .u8 bits] m [(lb, lzO (.pointer (some ⟨mb, 0, none⟩)) room kb av bv rb dn mu se lv made asked)] (.int .i64 (plN ls.length of N b bits : Nat)) := by
 obtain ⟨⟨A, c, h1⟩, h2, h3, -⟩ := hM.cells
 have hk := hM.l4
 have hC := hM.cls
 have hN := hC.le
 have h3b := h3 b hb
 have hp := plN_lt (k := ls.length) (bits := bits) hC hb
 have hw := (wdN_le hC hk).2
 have hob := (hC.get hb).2
 have h4 := pow4 hk
 have hand := and_pl hbits hk
 have hsh := shl_pl (n := 1) (k := ls.length) (by omega) hk
 rw [Nat.one_mul] at hsh
 unfold plN at hp ⊢
 generalize of.getD b 0 = o at h3b hob hp ⊢
 generalize hx : bits % 2 ^ ls.length = q at hp hand ⊢
 generalize 2 ^ ls.length = t at h4 hand hsh
 have hmul : IntKind.wrap .i64 (((q : Nat) : Int) * ((N : Nat) : Int)) = ((q * N : Nat) : Int) := by
  rw [wrap_keep .i64]
  ·rw [Int.natCast_mul]
  ·rw [← Int.natCast_mul]; show (-9223372036854775808 : Int) ≤ _; omega
  ·rw [← Int.natCast_mul]; show _ ≤ (9223372036854775807 : Int); omega
 generalize q * N = r at hmul hp ⊢
 refine Fn.enter (N := 44) hX Tryz.func28 rfl rfl (by show _ ≤ _; simp) (fun w0 hL => ?_)
 conv => whnf
 generalize keys [(lb, lzO (.pointer (some ⟨mb, 0, none⟩)) room kb av bv rb dn mu se lv made asked)] = S0 at hL ⊢
 conv => whnf
 repeat ((first | refine LdReq.one hX rfl rfl hL h1 ?_ | refine ShlReq.mk (by omega) hsh ?_ | (refine go1 ?_;try(clear hL;intro w hL))); conv => whnf)
 refine DrawReq.plan hX (.fst 0 (.fst 1 (.fst 2 (.fst 3 (.fst 4 (.fst 5 (.fst 6 (.fst 7 (.fst 8 (.fst 9 (.fst 10 (.fst 11 (.fst 12 (.fst 13 (.fst 14 (.fst 15 (.fst 16 (.fst 17 (.fst 18 (.fst 19 (.fst 20 (.fst 21 (.fst 22 (.fst 23 (.fst 24 (.fst 25 (.done))))))))))))))))))))))))))) [(lb, lzO (.pointer (some ⟨mb, 0, none⟩)) room kb av bv rb dn mu se lv made asked)] (by kernel_rfl) (by kernel_rfl) hL id ?_
 clear hL
 intro w hL
 conv => whnf
 repeat ((first | refine BitReq.mk hand ?_ | refine QLdReq.one hX rfl rfl h2 ?_ | refine ArReq.as hmul ?_ | refine IdxReq.mk b rfl hb ?_ | (refine QLdReq.one hX rfl rfl (by show mcell m ((((⟨mb, 0, none⟩ : Addr).add 2).add 0).add (scale b 1)) = _; rw [scale_eq, Nat.mul_one, addr_add2, addr_add2, Nat.zero_add]; exact h3b) ?_) | (refine goq1 ?_;try(clear hL;intro w hL))); conv => whnf)
 exact RetReq.mk hL ⟨rfl, rfl, rfl⟩
structure RwI (room : Int) (W n : Nat) (rows : List (Int × Nat × List Int)) : Prop where
 keys : (rows.map (·.1)).Nodup
 len : (rows.length : Int) ≤ room
 wid : ∀ r ∈ rows, r.2.2.length = W
 key : ∀ r ∈ rows, 0 ≤ r.1 ∧ r.1 < n
 ent : ∀ r ∈ rows, ∀ e ∈ r.2.2, -1 ≤ e ∧ e < n
theorem RwI.nil (room : Int) (h : 0 ≤ room) (W n : Nat) : RwI room W n [] := ⟨.nil, h, fun _ h => (by cases h), fun _ h => (by cases h), fun _ h => (by cases h)⟩
def rowR (x : St) (z : Int) (g W : Nat) : St := { (if x.room ≤ x.rows.length then x.gone else x) with rows := (if x.room ≤ x.rows.length then [] else x.rows) ++ [(z, g, List.replicate W (-1))] }
theorem rw_mem {r : List (Int × Nat × List Int)} {z : Int} {v : Value} (h : ((.int .i64 z, v) : Value × Value) ∈ rwW r) : ∃ g es, (z, g, es) ∈ r ∧ v = .slice (some ⟨g, 0, none⟩) es.length es.length := by
 obtain ⟨y, hy, he⟩ := List.mem_map.1 h
 obtain ⟨z', g, es⟩ := y
 injection he with h1 h2
 injection h1 with _ h1
 subst h1
 exact ⟨g, es, hy, h2.symm⟩
theorem rw_key {r : List (Int × Nat × List Int)} {z : Int} (h : ∀ y ∈ rwW r, y.1 ≠ .int .i64 z) : z ∉ r.map (·.1) := fun hc => by
 obtain ⟨y, hy, rfl⟩ := List.mem_map.1 hc
 exact h _ (List.mem_map.2 ⟨y, hy, rfl⟩) rfl
theorem own_row (lb : Nat) (x : St) (z : Int) (g W : Nat) : ((lb, x.ob) :: (x.rb, mapB x.ck (rwW x.rows ++ [(.int .i64 z, .slice (some ⟨g, 0, none⟩) W W)])) :: (g, .cells (toArr (ints (List.replicate W (-1)))) 3 (0, 0)) :: (rwB x.rows ++ x.rest)).Perm ({ x with rows := x.rows ++ [(z, g, List.replicate W (-1))] }.own lb) := by
 refine List.Perm.trans ?_ (own_rb lb { x with rows := x.rows ++ [(z, g, List.replicate W (-1))] }).symm
 have e1 : rwW (x.rows ++ [(z, g, List.replicate W (-1))]) = rwW x.rows ++ [(.int .i64 z, .slice (some ⟨g, 0, none⟩) W W)] := by simp [rwW]
 have e2 : rwB (x.rows ++ [(z, g, List.replicate W (-1))]) = rwB x.rows ++ [(g, .cells (toArr (ints (List.replicate W (-1)))) 3 (0, 0))] := by simp [rwB]
 show List.Perm _ ((lb, x.ob) :: (x.rb, mapB x.ck (rwW (x.rows ++ [(z, g, List.replicate W (-1))]))) :: (rwB (x.rows ++ [(z, g, List.replicate W (-1))]) ++ x.rest))
 rw [e1, e2]
 refine List.Perm.cons _ (List.Perm.cons _ ?_)
 rw [List.append_assoc]
 exact List.perm_middle.symm
set_option maxHeartbeats 2000000 in
theorem row_fn (m : Mem) (lb : Nat) (s : Sp) (ls : List Re) (fs : List fo.Fml) (of : List Nat) (N : Nat) (x : St) (hM : Mkr m x.mb x.ab s ls fs of N) (hav : x.av.oneCell' = true) (hbv : x.bv.oneCell' = true) (hlv : x.lv.oneCell' = true)
  (hR : RwI x.room (wdN ls.length N) x.l.length x.rows) (hn : x.l.length ≤ 2000) (hro : i64 x.room) (z : Int) (hz : 0 ≤ z ∧ z < x.l.length) :
  Ev.Fn Tryz.prog 27 [.pointer (some ⟨lb, 0, none⟩), .int .i64 z] m (x.own lb) fun m' L' u => m' = m ∧
   ((∃ g es, u = .slice (some ⟨g, 0, none⟩) (wdN ls.length N) (wdN ls.length N) ∧ L' = x.own lb ∧ (z, g, es) ∈ x.rows) ∨
    ∃ g, u = .slice (some ⟨g, 0, none⟩) (wdN ls.length N) (wdN ls.length N) ∧ z ∉ x.rows.map (·.1) ∧ L' = (rowR x z g (wdN ls.length N)).own lb) := by
 obtain ⟨⟨A, c, h1⟩, h2, -⟩ := hM.cells
 have hk := hM.l4
 have hC := hM.cls
 have hN := hC.le
 have hW := wdN_le hC hk
 have hsh := shl_pl hN hk
 have hiz : i64 z := by unfold i64; omega
 have hik : ∀ y ∈ rwW x.rows, IsK Tryz.prog 3 y.1 := fun y hy => by
  obtain ⟨r, hr, rfl⟩ := List.mem_map.1 hy
  have := hR.key r hr
  exact isK_int _ (by unfold i64; omega)
 refine Fn.enter (N := 58) hX Tryz.func27 rfl rfl (by show _ ≤ _; simp) (fun w0 hL => ?_)
 conv => whnf
 generalize keys (x.own lb) = S0 at hL ⊢
 replace hL := hL.perm (own_rb lb x)
 refine go ?_;try(clear hL;intro w hL)
 refine RunReq.lookB hX rfl rfl key_int (z := .slice none 0 0) (by kernel_rfl) hL (.t .h) (isK_int _ hiz) hik (fun hno => ?_) (fun v hv => ?_)
 ·refine go ?_;try(clear hL;intro w hL)
  refine DrawReq.plan hX (.fst 0 (.fst 1 (.fst 2 (.fst 3 (.fst 5 (.fst 6 (.fst 7 (.fst 8 (.alt 4 (.fst 9 (.done)) (.stop)))))))))) [(lb, x.ob)] (by kernel_rfl) (by kernel_rfl) hL (fun h => h.sublist (.cons_cons _ (List.nil_sublist _))) ?_
  clear hL
  intro w hL
  refine goq ?_;try(clear hL;intro w hL)
  have elen : (rwW x.rows).length = x.rows.length := List.length_map ..
  refine GenReq.lenB hX rfl rfl rfl rfl rfl rfl hL (.t .h) ?_
  refine SReq.mk (hL.sublist (.cons_cons _ (List.nil_sublist _))) ?_
  refine goq ?_;try(clear hL;intro w hL)
  have h2b : mcell m ((((⟨x.mb, 0, none⟩ : Addr).add 2).add 256)) = some (.int .i64 N) := by rw [addr_add2]; exact h2
  have h1b : mcell m ((((⟨x.mb, 0, none⟩ : Addr).add 1).add 0)) = some (.slice A ls.length c) := by rw [addr_add2]; exact h1
  by_cases hroom : x.room ≤ x.rows.length
  ·refine BrReq.yes (by rw [elen]; exact hroom) ?_
   refine go ?_;try(clear hL;intro w hL)
   replace hL := hL.perm (own_rb lb x).symm
   refine CallReq.mk (L1 := x.own lb) (L2 := []) (flush_fn m lb x hav hbv hlv) (by rw [List.append_nil]; exact hL) ?_
   clear hL
   rintro u mx L2 w hL - ⟨hmx, rfl, rfl⟩
   rw [hmx] at hL
   clear hmx mx
   rw [List.append_nil] at hL
   refine go ?_;try(clear hL;intro w hL)
   replace hL : Ev.Loc m S0 w0 m ((lb, x.ob) :: (x.gone.rb, mapB x.gone.ck (rwW x.gone.rows)) :: (rwB x.gone.rows ++ x.gone.rest)) w := hL.perm (own_rb lb x.gone)
   refine DrawReq.plan hX (.fst 1 (.fst 2 (.fst 3 (.fst 4 (.fst 5 (.fst 6 (.fst 7 (.fst 8 (.fst 9 (.fst 10 (.fst 11 (.fst 12 (.fst 13 (.fst 14 (.fst 15 (.fst 16 (.fst 17 (.fst 18 (.alt 0 (.alt 19 (.fst 20 (.done)) (.stop)) (.stop)))))))))))))))))))) [(lb, x.ob)] (by kernel_rfl) (by kernel_rfl) hL (fun h => h.sublist (.cons_cons _ (List.nil_sublist _))) ?_
   clear hL
   intro w hL
   conv => whnf
   repeat ((first | refine QLdReq.one hX rfl rfl h2b ?_ | refine QLdReq.one hX rfl rfl h1b ?_ | refine ShlReq.mk (by omega) hsh ?_ | (refine goq1 ?_;try(clear hL;intro w hL))); conv => whnf)
   refine NewReq.mk hL ?_
   clear hL
   intro g w hL
   conv => whnf
   refine SReq.mk (hL.sublist (.cons _ (.cons_cons _ (List.nil_sublist _)))) ?_
   refine goq ?_;try(clear hL;intro w hL)
   refine CallReq.mk (L1 := [_]) (L2 := _ :: _ :: (rwB x.gone.rows ++ x.gone.rest)) (repeat_fn m g (N * 2 ^ ls.length) hW.1 hW.2) hL ?_
   clear hL
   rintro u mx L2 w hL - ⟨hmx, r, rfl, rfl⟩
   rw [hmx] at hL
   clear hmx mx
   refine SReq.mk (hL.sublist (.cons _ (.cons_cons _ (List.nil_sublist _)))) ?_
   refine goq ?_;try(clear hL;intro w hL)
   refine RunUReq.updB hX rfl rfl key_int (bb := x.gone.ck) (l := rwW x.gone.rows) 2 hL rfl (isK_int _ hiz) (fun y hy => by cases hy) (fun y hy => by cases hy) ?_
   clear hL
   intro w hL
   replace hL : Ev.Loc m S0 w0 m ((r, .cells (toArr (ints (List.replicate (N * 2 ^ ls.length) (-1)))) 3 (0, 0)) :: (lb, x.gone.ob) :: (x.gone.rb, mapB x.gone.ck (rwW x.gone.rows ++ [(.int .i64 z, .slice (some ⟨r, 0, none⟩) (N * 2 ^ ls.length) (N * 2 ^ ls.length))])) :: (rwB x.gone.rows ++ x.gone.rest)) w := hL
   replace hL := hL.perm ((List.Perm.swap _ _ _).trans (List.Perm.cons _ (List.Perm.swap _ _ _)))
   replace hL := hL.perm (own_row lb x.gone z r (N * 2 ^ ls.length))
   refine go ?_;try(clear hL;intro w hL)
   exact RetReq.mk hL ⟨rfl, .inr ⟨r, rfl, rw_key hno, by unfold rowR; rw [if_pos hroom, if_pos hroom]; rfl⟩⟩
  ·refine BrReq.no (by rw [elen]; exact hroom) ?_
   refine go ?_;try(clear hL;intro w hL)
   refine DrawReq.plan hX (.fst 1 (.fst 2 (.fst 3 (.fst 4 (.fst 5 (.fst 6 (.fst 7 (.fst 8 (.fst 9 (.fst 10 (.fst 11 (.fst 12 (.fst 13 (.fst 14 (.fst 15 (.fst 16 (.fst 17 (.fst 18 (.alt 0 (.alt 19 (.fst 20 (.done)) (.stop)) (.stop)))))))))))))))))))) [(lb, x.ob)] (by kernel_rfl) (by kernel_rfl) hL (fun h => h.sublist (.cons_cons _ (List.nil_sublist _))) ?_
   clear hL
   intro w hL
   conv => whnf
   repeat ((first | refine QLdReq.one hX rfl rfl h2b ?_ | refine QLdReq.one hX rfl rfl h1b ?_ | refine ShlReq.mk (by omega) hsh ?_ | (refine goq1 ?_;try(clear hL;intro w hL))); conv => whnf)
   refine NewReq.mk hL ?_
   clear hL
   intro g w hL
   conv => whnf
   refine SReq.mk (hL.sublist (.cons _ (.cons_cons _ (List.nil_sublist _)))) ?_
   refine goq ?_;try(clear hL;intro w hL)
   refine CallReq.mk (L1 := [_]) (L2 := _ :: _ :: (rwB x.rows ++ x.rest)) (repeat_fn m g (N * 2 ^ ls.length) hW.1 hW.2) hL ?_
   clear hL
   rintro u mx L2 w hL - ⟨hmx, r, rfl, rfl⟩
   rw [hmx] at hL
   clear hmx mx
   refine SReq.mk (hL.sublist (.cons _ (.cons_cons _ (List.nil_sublist _)))) ?_
   refine goq ?_;try(clear hL;intro w hL)
   refine RunUReq.updB hX rfl rfl key_int (bb := x.ck) (l := rwW x.rows) 2 hL rfl (isK_int _ hiz) hik hno ?_
   clear hL
   intro w hL
   replace hL : Ev.Loc m S0 w0 m ((r, .cells (toArr (ints (List.replicate (N * 2 ^ ls.length) (-1)))) 3 (0, 0)) :: (lb, x.ob) :: (x.rb, mapB x.ck (rwW x.rows ++ [(.int .i64 z, .slice (some ⟨r, 0, none⟩) (N * 2 ^ ls.length) (N * 2 ^ ls.length))])) :: (rwB x.rows ++ x.rest)) w := hL
   replace hL := hL.perm ((List.Perm.swap _ _ _).trans (List.Perm.cons _ (List.Perm.swap _ _ _)))
   replace hL := hL.perm (own_row lb x z r (N * 2 ^ ls.length))
   refine go ?_;try(clear hL;intro w hL)
   exact RetReq.mk hL ⟨rfl, .inr ⟨r, rfl, rw_key hno, by unfold rowR; rw [if_neg hroom, if_neg hroom]; rfl⟩⟩
 ·obtain ⟨g, es, hg, rfl⟩ := rw_mem hv
  have hes := hR.wid _ hg
  dsimp only at hes
  rw [hes]
  refine go ?_;try(clear hL;intro w hL)
  exact RetReq.mk (hL.perm (own_rb lb x).symm) ⟨rfl, .inl ⟨g, es, rfl, rfl, hg⟩⟩
end Go.Proofs.YtaooenndoopgdaaGreatDoor.lz
namespace Go.Proofs.YtaooenndoopgdaaGreatDoor.lz
open Go Go.Ev Go.Proofs Go.Proofs.YtaooenndoopgdaaGreatDoor.ar Go.Proofs.YtaooenndoopgdaaGreatDoor.tree Go.Proofs.YtaooenndoopgdaaGreatDoor.looks
theorem fmv_nil (m : Mem) : fo.FmV m (.slice none 0 0) [] := ⟨none, 0, 0, rfl, rfl, Nat.le_refl _, Nat.zero_le _, fun i x h => by cases h⟩
theorem putE_fn (m : Mem) (sb : Nat) (A : Option Addr) (c : Nat) (fv : Value) (hfv : fv.oneCell' = true) : FnV Tryz.prog 81 [.pointer (some ⟨sb, 0, none⟩), .slice A 0 c, fv] m (.slice none 0 0) := by
 have hff := fo.false_fn m
 refine Fn.enter (N := 45) hX Tryz.func81 rfl rfl (by show _ ≤ _; simp) (fun w0 hL => ?_)
 conv => whnf
 refine go ?_;try(clear hL;intro w hL)
 refine CallReq.val hff hL ?_
 clear hL
 intro w hL
 refine go ?_;try(clear hL;intro w hL)
 refine LoopReq.inv hX (fun j : Nat => [(7, .slice none 0 0), (16, .int .i64 j)]) [0, 2, 14, 15]
  (fun j w => j = 0 ∧ Ev.Loc m [] w0 m [] w) (fun j => j) 0
  ⟨rfl, hL⟩ ⟨rfl, rfl, trivial⟩ ?_
 clear hL
 rintro j w e ⟨rfl, hL⟩
 refine go ?_;try(clear hL;intro w hL)
 exact RetReq.mk hL ⟨rfl, rfl⟩
theorem NextE_fn (m : Mem) (ab b bits : Nat) (ns : List Nd) (La : Ev.Own) (hA : Ar ab ns La) (hO : OkA ns) (fv : Value) (hf : fo.FmV m fv []) :
  FnM Tryz.prog 51 [.pointer (some ⟨ab, 0, none⟩), fv, .int .u8 b, .int .u8 bits] m La (.tuple (toArr [.slice none 0 0, .int .i64 0])) := by
 have hr := li.right_fn m ab ns La hA hO fv [] hf (fo.FB.nil _)
 have hf' := hf
 obtain ⟨A1, n1, c1, rfl, hn, -⟩ := id hf
 obtain rfl : n1 = 0 := hn
 refine Fn.enter (N := 28) hX Tryz.func51 rfl rfl (by show _ ≤ _; simp) (fun w0 hL => ?_)
 conv => whnf
 generalize keys La = S0 at hL ⊢
 refine go ?_;try(clear hL;intro w hL)
 refine CallReq.lm (L1 := La) (L2 := []) hr (by rw [List.append_nil]; exact hL) ?_
 clear hL
 intro m1 w hm1 hL
 rw [List.append_nil] at hL
 refine go ?_;try(clear hL;intro w hL)
 refine CallReq.mk (L1 := La) (L2 := []) (li.begin_fn m1 ab b bits La) (by rw [List.append_nil]; exact hL) ?_
 clear hL
 rintro u mx L1 w hL - ⟨hmx, sb, ma, ml, rfl, rfl⟩
 rw [hmx] at hL
 clear hmx mx
 rw [List.append_nil] at hL
 refine go ?_;try(clear hL;intro w hL)
 refine CallReq.val (putE_fn m1 sb A1 c1 _ rfl) hL ?_
 clear hL
 intro w hL
 have hend := li.end_fn m1 ab sb b bits 0 ma ml (.slice none 0 0) [] (fmv_nil m1)
 rw [if_pos rfl] at hend
 replace hL : Ev.Loc m S0 w0 m1 ((sb, li.stO ab b bits 0 ma ml) :: (ma, mapW []) :: (ml, mapW []) :: La) w := hL
 refine go ?_;try(clear hL;intro w hL)
 refine CallReq.li (L1 := [_]) (L2 := _ :: _ :: La) hend hL ?_
 clear hL
 intro w hL
 replace hL : Ev.Loc m S0 w0 m1 ((sb, li.stO ab b bits 0 ma ml) :: (ma, mapW []) :: (ml, mapW []) :: La) w := hL
 refine go ?_;try(clear hL;intro w hL)
 exact RetReq.mk hL.drop.drop.drop ⟨rfl, rfl⟩
def deadB (fs : List fo.Fml) : Bool := fs.all List.isEmpty
def OutE (ab : Nat) (ns : List Nd) (f : fo.Fml) : Mem → Ev.Own → Value → Prop := fun m' L' u => ∃ ns' e v g, u = .tuple (toArr [v, .int .i64 e]) ∧ (e = 0 ∨ e = 4) ∧ ns <+: ns' ∧ OkA ns' ∧ Ar ab ns' L' ∧ fo.FmV m' v g ∧ fo.FB ns'.length g ∧ (f = [] → g = [])
theorem NextF_fn (m : Mem) (ab b bits : Nat) (ns : List Nd) (La : Ev.Own) (hA : Ar ab ns La) (hO : OkA ns) (hb8 : b < 256) (hb : bits < 256) (fv : Value) (f : fo.Fml) (hf : fo.FmV m fv f) (hF : fo.FB ns.length f) :
  Ev.Fn Tryz.prog 51 [.pointer (some ⟨ab, 0, none⟩), fv, .int .u8 b, .int .u8 bits] m La (OutE ab ns f) := by
 by_cases h : f = []
 ·subst h
  refine (NextE_fn m ab b bits ns La hA hO fv hf).mono ?_
  rintro m' L' u hm ⟨rfl, rfl⟩
  exact ⟨ns, 0, _, [], rfl, .inl rfl, List.prefix_refl _, hO, hA, fmv_nil m', fo.FB.nil _, fun _ => rfl⟩
 ·refine (li.Next_fn m ab b bits ns La hA hO hb8 hb fv f hf hF).mono ?_
  rintro m' L' u hm ⟨ns', e, v, g, h1, h2, h3, h4, h5, h6, h7⟩
  exact ⟨ns', e, v, g, h1, h2, h3, h4, h5, h6, h7, fun k => absurd k h⟩
def OutN (ab : Nat) (ns : List Nd) (fs : List fo.Fml) : Mem → Ev.Own → Value → Prop := fun m' L' u => ∃ ns', ns <+: ns' ∧ OkA ns' ∧ Ar ab ns' L' ∧
 ((u = .tuple (toArr [.slice none 0 0, .int .i64 4])) ∨ ∃ v gs, u = .tuple (toArr [v, .int .i64 0]) ∧ MnV m' v gs ∧ gs.length = fs.length ∧ (∀ g ∈ gs, fo.FB ns'.length g) ∧ (deadB fs = true → deadB gs = true))
def fmS (m : Mem) (n : Nat) (us : List Value) (gs : List fo.Fml) : Prop := us.length = n ∧ ∀ (i : Nat) (g : fo.Fml), gs[i]? = some g → ∃ u, us[i]? = some u ∧ fo.FmV m u g
set_option maxHeartbeats 2000000 in
theorem mnext_fn (m : Mem) (mb ab b bits : Nat) (s : Sp) (ls : List Re) (fs0 : List fo.Fml) (of : List Nat) (N : Nat) (hM : Mkr m mb ab s ls fs0 of N) (ns : List Nd) (La : Ev.Own) (hA : Ar ab ns La) (hO : OkA ns) (hb8 : b < 256) (hb : bits < 256) (v : Value) (fs : List fo.Fml) (hs : MnV m v fs) (hF : ∀ f ∈ fs, fo.FB ns.length f) (hl : fs.length ≤ 40) :
  Ev.Fn Tryz.prog 29 [.pointer (some ⟨mb, 0, none⟩), v, .int .u8 b, .int .u8 bits] m La (OutN ab ns fs) := by
 obtain ⟨A1, n, c1, rfl, hn, hc, hcm, -⟩ := id hs
 have har := hM.ar
 have hmx : maxLen = 9223372036854775807 := rfl
 refine Fn.enter (N := 45) hX Tryz.func29 rfl rfl (by show _ ≤ _; simp) (fun w0 hL => ?_)
 conv => whnf
 generalize keys La = S0 at hL ⊢
 refine go ?_;try(clear hL;intro w hL)
 refine RunReq.make hX rfl rfl rfl rfl n n rfl rfl (Nat.le_refl _) (by omega) rfl hL ?_
 clear hL
 intro r w hL
 replace hL : Ev.Loc m S0 w0 m ((r, .cells (toArr (zerosL n [.slice none 0 0])) 88 (0, 0)) :: La) w := hL
 have hzl : ∀ n : Nat, (zerosL n [.slice none 0 0]).length = n := fun n => by
  induction n with
  | zero => rfl
  | succ n ih => show (zerosL n [.slice none 0 0]).length + 1 = _; rw [ih]
 refine go ?_;try(clear hL;intro w hL)
 refine LoopReq.inv hX (fun j : Nat => [(20, .int .i64 j)]) [0, 2, 3, 10, 18, 19]
  (fun j w => j ≤ n ∧ ∃ m' ns' La' us gs, Mem.Le m m' ∧ ns <+: ns' ∧ OkA ns' ∧ Ar ab ns' La' ∧ Ev.Loc m S0 w0 m' ((r, .cells (toArr us) 88 (0, 0)) :: La') w ∧ fmS m' n us gs ∧ gs.length = j ∧ (∀ g ∈ gs, fo.FB ns'.length g) ∧ (deadB fs = true → deadB gs = true)) (fun j => n - j) 0
  ⟨by omega, m, ns, La, _, [], Mem.Le.refl m, List.prefix_refl _, hO, hA, hL, ⟨hzl n, fun i g h => by cases h⟩, rfl, fun g h => (by cases h), fun _ => rfl⟩ ⟨rfl, trivial⟩ ?_
 clear hL
 rintro j w e0 ⟨hj, m', ns', La', us, gs, hm', hpre, hO', hA', hL, hus, hgl, hgF, hgd⟩
 refine go ?_;try(clear hL;intro w hL)
 refine BrReq.dec (fun hlt => ?_) (fun hlt => ?_)
 ·have hjl : j < fs.length := by omega
  have hsm : MnV m' _ fs := MnV.le hm' hs
  obtain ⟨a, cs, rfl, hl1, hcells, u, rfl, hu⟩ := hsm.elem j _ (List.getElem?_eq_getElem hjl)
  have hFj := (hF _ (List.getElem_mem hjl)).mono hpre.length_le
  have hdj : deadB fs = true → fs[j] = [] := fun h => List.isEmpty_iff.1 (List.all_eq_true.1 h _ (List.getElem_mem hjl))
  generalize fs[j] = f at hu hFj hdj
  have hnx := NextF_fn m' ab b bits ns' La' hA' hO' hb8 hb u f hu hFj
  have hc0 := hcells 0 _ rfl
  have addr0 : ∀ z : Addr, z.add 0 = z := fun z => by cases z; rfl
  rw [addr0] at hc0
  obtain ⟨Au, nu, cu, rfl, -⟩ := id hu
  have har' := Ev.mcell_le hm' har
  conv => whnf
  repeat ((first | refine Idx2Req.mk j a rfl (by omega) rfl ?_ | refine LdReq.one hX rfl rfl hL hc0 ?_ | refine LdReq.one hX rfl rfl hL har' ?_ | (refine go1 ?_;try(clear hL;intro w hL))); conv => whnf)
  refine CallReq.mk (L1 := La') (L2 := [_]) hnx (Loc.back (L1 := [_]) hL) ?_
  clear hL
  rintro u2 m2 L2 w hL hm2 ⟨ns2, e, v2, g, rfl, he, hp2, hO2, hA2, hg, hgF2, hgE⟩
  have hL := Loc.back (L1 := L2) (L2 := [_]) hL
  obtain ⟨Ag, ng, cg, rfl, -⟩ := id hg
  by_cases h0 : e = 0
  ·subst h0
   conv => whnf
   repeat ((first | refine Idx2Req.mk j ⟨r, 0, none⟩ rfl (by omega) rfl ?_ | (refine go1 ?_;try(clear hL;intro w hL))); conv => whnf)
   have hjr : j < us.length := by rw [hus.1]; omega
   refine StReq.ownAt hX rfl 0 hL rfl rfl (by rw [scale_eq, Nat.zero_add, Nat.mul_one]; show j + 1 ≤ us.length; omega) rfl ?_
   clear hL
   intro w hL
   replace hL : Ev.Loc m S0 w0 m2 ((r, .cells (toArr (spliceL us (0 + scale j 1) [.slice Ag ng cg])) 88 (0, 0)) :: L2) w := hL
   rw [scale_eq, Nat.zero_add, Nat.mul_one, show spliceL us j [.slice Ag ng cg] = us.set j (.slice Ag ng cg) from rfl] at hL
   have hgF3 : ∀ x ∈ gs ++ [g], fo.FB ns2.length x := fun x hx => by
    rcases List.mem_append.1 hx with h | h
    ·exact (hgF x h).mono hp2.length_le
    ·rw [List.mem_singleton.1 h]; exact hgF2
   have hfm : fmS m2 n (us.set j (.slice Ag ng cg)) (gs ++ [g]) := by
    refine ⟨by rw [List.length_set]; exact hus.1, fun i x hx => ?_⟩
    by_cases hi : i = j
    ·subst hi
     rw [List.getElem?_append_right (by omega), hgl, Nat.sub_self] at hx
     cases hx
     exact ⟨_, List.getElem?_set_self hjr, hg⟩
    ·have hi2 : i < gs.length := by
      have := (List.getElem?_eq_some_iff.1 hx).1
      rw [List.length_append, List.length_singleton] at this
      omega
     rw [List.getElem?_append_left hi2] at hx
     obtain ⟨y, hy1, hy2⟩ := hus.2 i x hx
     exact ⟨y, by rw [List.getElem?_set_ne (fun h => hi h.symm)]; exact hy1, hy2.le hm2⟩
   have hdd : deadB fs = true → deadB (gs ++ [g]) = true := fun h => by
    unfold deadB
    rw [List.all_append, show gs.all List.isEmpty = true from hgd h, hgE (hdj h)]; rfl
   refine go ?_;try(clear hL;intro w hL)
   exact rnd (j + 1) ⟨by omega, m2, ns2, L2, _, gs ++ [g], hm'.trans hm2, hpre.trans hp2, hO2, hA2, hL, hfm, by rw [List.length_append, hgl]; rfl, hgF3, hdd⟩
  ·obtain rfl : e = 4 := by omega
   refine go ?_;try(clear hL;intro w hL)
   exact RetReq.mk hL.drop ⟨ns2, hpre.trans hp2, hO2, hA2, .inl rfl⟩
 ·obtain rfl : j = n := by omega
  refine go ?_;try(clear hL;intro w hL)
  have hle := hL.le_add
  replace hL := hL.freeze
  have hcc : Cells (m'.add r (.cells (toArr us) 88 (0, 0))) ⟨r, 0, none⟩ us := cells_add0 _
  generalize m'.add r _ = m3 at hL hle hcc
  refine RetReq.mk hL ⟨ns', hpre, hO', hA', .inr ⟨_, gs, rfl, ⟨_, _, _, rfl, hgl.symm, Nat.le_refl _, by omega, fun i g hg => ?_⟩, by omega, hgF, hgd⟩⟩
  obtain ⟨u, hu1, hu2⟩ := hus.2 i g hg
  refine ⟨⟨r, 0, none⟩, [u], rfl, rfl, fun q v hq => ?_, u, rfl, hu2.le hle⟩
  match q, hq with
  | 0, hq =>
    cases hq
    rw [scale_eq, Nat.mul_one, addr_add2, Nat.add_zero]
    exact hcc i u hu1
end Go.Proofs.YtaooenndoopgdaaGreatDoor.lz
namespace Go.Proofs.YtaooenndoopgdaaGreatDoor.lz
open Go Go.Ev Go.Proofs Go.Proofs.YtaooenndoopgdaaGreatDoor.ar Go.Proofs.YtaooenndoopgdaaGreatDoor.tree Go.Proofs.YtaooenndoopgdaaGreatDoor.looks Go.Proofs.YtaooenndoopgdaaGreatDoor.bd
def HasE (rows : List (Int × Nat × List Int)) (z : Int) (k : Nat) (n : Int) : Prop := ∃ g es, (z, g, es) ∈ rows ∧ es[k]? = some n
def NoE (rows : List (Int × Nat × List Int)) (z : Int) (k : Nat) : Prop := ∀ n, HasE rows z k n → n < 0
def mnAt (x : St) (z : Int) : List fo.Fml := x.l.getD z.toNat []
structure RI (k N : Nat) (x : St) : Prop where
 rows : RwI x.room (wdN k N) x.l.length x.rows
 onc : OncI N x.dn x.mu x.lv x.Ll
 dead : ∀ r ∈ x.rows, deadB (mnAt x r.1) = true → ∀ e ∈ r.2.2, 0 ≤ e → deadB (mnAt x e) = true
 r2 : 2 ≤ x.room
 r3 : x.room ≤ 2000
theorem rw_one {r : List (Int × Nat × List Int)} (h : (r.map (·.1)).Nodup) {z : Int} {g g' : Nat} {es es' : List Int} (h1 : (z, g, es) ∈ r) (h2 : (z, g', es') ∈ r) : g = g' ∧ es = es' := by
 induction r with
 | nil => cases h1
 | cons y r ih =>
   rw [List.map_cons, List.nodup_cons] at h
   rcases List.mem_cons.1 h1 with e1 | e1 <;> rcases List.mem_cons.1 h2 with e2 | e2
   ·rw [← e1] at e2; injection e2 with _ e2; injection e2 with e2 e3; exact ⟨e2.symm, e3.symm⟩
   ·exact absurd (List.mem_map.2 ⟨_, e2, rfl⟩) (by rw [← e1] at h; exact h.1)
   ·exact absurd (List.mem_map.2 ⟨_, e1, rfl⟩) (by rw [← e2] at h; exact h.1)
   ·exact ih h.2 e1 e2
theorem rowR_l (x : St) (z : Int) (g W : Nat) : (rowR x z g W).l = x.l ∧ (rowR x z g W).room = x.room ∧ (rowR x z g W).ob = x.ob ∧ (rowR x z g W).made = x.made ∧ (rowR x z g W).asked = x.asked := by
 unfold rowR
 split <;> exact ⟨rfl, rfl, rfl, rfl, rfl⟩
theorem rowR_inv {m : Mem} {s : Sp} {ls : List Re} {fs : List fo.Fml} {of : List Nat} {N : Nat} {x : St} (h : Inv m s ls fs of N x) (z : Int) (g W : Nat) : Inv m s ls fs of N (rowR x z g W) := by
 unfold rowR
 split
 ·exact ⟨h.mkr, h.fb, h.ok, h.ar, h.ho, h.all, h.hb, h.n, h.bgs⟩
 ·exact ⟨h.mkr, h.fb, h.ok, h.ar, h.ho, h.all, h.hb, h.n, h.bgs⟩
theorem rowR_rows (x : St) (z : Int) (g W : Nat) : (rowR x z g W).rows = (if x.room ≤ x.rows.length then [] else x.rows) ++ [(z, g, List.replicate W (-1))] := by
 unfold rowR; rfl
theorem rowR_ri {k N : Nat} {x : St} (h : RI k N x) {z : Int} (hz : 0 ≤ z ∧ z < x.l.length) (g : Nat) (hno : z ∉ x.rows.map (·.1)) : RI k N (rowR x z g (wdN k N)) := by
 have hmem : ∀ r ∈ (rowR x z g (wdN k N)).rows, r ∈ x.rows ∨ r = (z, g, List.replicate (wdN k N) (-1)) := fun r hr => by
  rw [rowR_rows] at hr
  rcases List.mem_append.1 hr with h1 | h1
  ·split at h1
   ·cases h1
   ·exact .inl h1
  ·exact .inr (List.mem_singleton.1 h1)
 have e := rowR_l x z g (wdN k N)
 have hon : OncI N (rowR x z g (wdN k N)).dn (rowR x z g (wdN k N)).mu (rowR x z g (wdN k N)).lv (rowR x z g (wdN k N)).Ll := by
  unfold rowR; split <;> exact h.onc
 have hat : ∀ q, mnAt (rowR x z g (wdN k N)) q = mnAt x q := fun q => by unfold mnAt; rw [e.1]
 have h2 := h.r2
 refine ⟨⟨?_, ?_, fun r hr => ?_, fun r hr => ?_, fun r hr => ?_⟩, hon, fun r hr => ?_, by rw [e.2.1]; exact h.r2, by rw [e.2.1]; exact h.r3⟩
 ·rw [rowR_rows, List.map_append, List.nodup_append]
  refine ⟨by split <;> simp [h.rows.keys], by simp, fun a ha b hb => ?_⟩
  simp at hb
  subst hb
  intro hab
  subst hab
  split at ha
  ·cases ha
  ·exact hno ha
 ·rw [rowR_rows, e.2.1, List.length_append]
  have := h.rows.len
  split
  ·show ((0 + 1 : Nat) : Int) ≤ _; omega
  ·show ((x.rows.length + 1 : Nat) : Int) ≤ _; omega
 ·rcases hmem r hr with h1 | rfl
  ·exact h.rows.wid r h1
  ·exact List.length_replicate ..
 ·rw [e.1]
  rcases hmem r hr with h1 | rfl
  ·exact h.rows.key r h1
  ·exact hz
 ·rw [e.1]
  rcases hmem r hr with h1 | rfl
  ·exact h.rows.ent r h1
  ·intro q hq; rw [(List.mem_replicate.1 hq).2]; omega
 ·rcases hmem r hr with h1 | rfl
  ·intro hd q hq h0
   rw [hat] at hd ⊢
   exact h.dead r h1 hd q hq h0
  ·intro hd q hq h0; rw [(List.mem_replicate.1 hq).2] at h0; omega
def RowQ (m : Mem) (lb : Nat) (s : Sp) (ls : List Re) (fs : List fo.Fml) (of : List Nat) (N : Nat) (x : St) (z : Int) (L' : Ev.Own) (u : Value) : Prop :=
 ∃ x1 g es, u = .slice (some ⟨g, 0, none⟩) (wdN ls.length N) (wdN ls.length N) ∧ L' = x1.own lb ∧ (z, g, es) ∈ x1.rows ∧ Inv m s ls fs of N x1 ∧ RI ls.length N x1 ∧ x1.l = x.l ∧ x1.room = x.room ∧ x1.ob = x.ob ∧ x1.made = x.made ∧ x1.asked = x.asked ∧ (x1 = x ∨ ((∀ k, NoE x.rows z k) ∧ ∀ e ∈ es, e < 0))
theorem rowX_fn (m : Mem) (lb : Nat) (s : Sp) (ls : List Re) (fs : List fo.Fml) (of : List Nat) (N : Nat) (x : St) (hI : Inv m s ls fs of N x) (hR : RI ls.length N x) (z : Int) (hz : 0 ≤ z ∧ z < x.l.length) :
  Ev.Fn Tryz.prog 27 [.pointer (some ⟨lb, 0, none⟩), .int .i64 z] m (x.own lb) fun m' L' u => m' = m ∧ RowQ m lb s ls fs of N x z L' u := by
 obtain ⟨A, n, c, hav, -⟩ := hI.ho.slice
 obtain ⟨A2, n2, c2, hbv, -⟩ := hI.hb.slice
 have h2 := hR.r2
 have h3 := hR.r3
 refine (row_fn m lb s ls fs of N x hI.mkr (by rw [hav]; rfl) (by rw [hbv]; rfl) hR.onc.one hR.rows hI.n (by unfold i64; omega) z hz).mono ?_
 rintro m' L' u - ⟨rfl, ⟨g, es, rfl, rfl, hm⟩ | ⟨g, rfl, hno, rfl⟩⟩
 ·exact ⟨rfl, x, g, es, rfl, rfl, hm, hI, hR, rfl, rfl, rfl, rfl, rfl, .inl rfl⟩
 ·have e := rowR_l x z g (wdN ls.length N)
  refine ⟨rfl, _, g, List.replicate (wdN ls.length N) (-1), rfl, rfl, by rw [rowR_rows]; exact List.mem_append_right _ (.head _), rowR_inv hI z g _, rowR_ri hR hz g hno, e.1, e.2.1, e.2.2.1, e.2.2.2.1, e.2.2.2.2, .inr ⟨fun k n ⟨g', es', h, _⟩ => absurd (List.mem_map.2 ⟨_, h, rfl⟩) hno, fun q hq => by rw [(List.mem_replicate.1 hq).2]; omega⟩⟩
theorem mem_jn {sep : List UInt8} {x : UInt8} : ∀ (l : List (List UInt8)), x ∈ jn sep l → x ∈ sep ∨ ∃ a ∈ l, x ∈ a
 | [], h => by simp [jn] at h
 | [a], h => .inr ⟨a, .head _, h⟩
 | a :: b :: r, h => by
   simp only [jn, List.mem_append] at h
   rcases h with (h | h) | h
   ·exact .inr ⟨a, .head _, h⟩
   ·exact .inl h
   ·rcases mem_jn (b :: r) h with h | ⟨c, hc, h⟩
    ·exact .inl h
    ·exact .inr ⟨c, List.mem_cons_of_mem _ hc, h⟩
theorem jn_mem {sep : List UInt8} {x : UInt8} {a : List UInt8} (hx : x ∈ a) : ∀ (l : List (List UInt8)), a ∈ l → x ∈ jn sep l
 | [], h => by cases h
 | [b], h => by rw [List.mem_singleton.1 h] at hx; exact hx
 | b :: c :: r, h => by
   simp only [jn, List.mem_append]
   rcases List.mem_cons.1 h with rfl | h
   ·exact .inl (.inl hx)
   ·exact .inr (jn_mem hx (c :: r) h)
theorem dead_key {fs gs : List fo.Fml} (h : mkeyB gs = mkeyB fs) (hd : deadB fs = true) : deadB gs = true := by
 have h1 : (59 : UInt8) ∉ mkeyB fs := fun hc => by
  rcases mem_jn _ hc with hc | ⟨a, ha, hc⟩
  ·simp at hc
  ·obtain ⟨f, hf, rfl⟩ := List.mem_map.1 ha
   have := List.isEmpty_iff.1 (List.all_eq_true.1 hd f hf)
   rw [this] at hc
   simp [fk.keyB] at hc
 refine List.all_eq_true.2 fun g hg => ?_
 cases g with
 | nil => rfl
 | cons p r =>
   refine absurd (jn_mem (x := 59) (a := fk.keyB (p :: r)) ?_ _ (List.mem_map.2 ⟨_, hg, rfl⟩)) (by show (59 : UInt8) ∉ mkeyB gs; rw [h]; exact h1)
   simp [fk.keyB]
theorem rwB_split (r1 r2 : List (Int × Nat × List Int)) (z : Int) (g : Nat) (es : List Int) : rwB (r1 ++ (z, g, es) :: r2) = rwB r1 ++ (g, .cells (toArr (ints es)) 3 (0, 0)) :: rwB r2 := by simp [rwB]
theorem rwW_set (r1 r2 : List (Int × Nat × List Int)) (z : Int) (g : Nat) (es es' : List Int) (h : es'.length = es.length) : rwW (r1 ++ (z, g, es') :: r2) = rwW (r1 ++ (z, g, es) :: r2) := by simp [rwW, h]
def St.tailL (x : St) (r1 r2 : List (Int × Nat × List Int)) : Ev.Own := x.Lm ++ (x.La ++ (x.Ll ++ (x.Lb ++ (rwB r1 ++ rwB r2))))
theorem own_split (lb : Nat) (y : St) {r1 r2 : List (Int × Nat × List Int)} {z : Int} {g : Nat} {es : List Int} (h : y.rows = r1 ++ (z, g, es) :: r2) :
  (y.own lb).Perm ((lb, y.ob) :: (g, .cells (toArr (ints es)) 3 (0, 0)) :: (y.kb, mapW (knW y.l 0)) :: (y.rb, mapB y.ck (rwW y.rows)) :: y.tailL r1 r2) := by
 classical
 refine List.perm_iff_count.2 fun q => ?_
 have e : rwB y.rows = rwB r1 ++ (g, .cells (toArr (ints es)) 3 (0, 0)) :: rwB r2 := by rw [h]; exact rwB_split ..
 simp only [St.own, St.tailL, e, List.count_append, List.count_cons]
 omega
def StepQ (lb : Nat) (s : Sp) (ls : List Re) (fs : List fo.Fml) (of : List Nat) (N : Nat) (x : St) (z : Int) (k : Nat) (m' : Mem) (L' : Ev.Own) (u : Value) : Prop :=
 (∃ e, u = .tuple (toArr [.int .i64 0, .int .i64 e]) ∧ (e = 4 ∨ e = 11) ∧ NoE x.rows z k) ∨
 ∃ x' n, u = .tuple (toArr [.int .i64 n, .int .i64 0]) ∧ L' = x'.own lb ∧ Inv m' s ls fs of N x' ∧ RI ls.length N x' ∧ x'.room = x.room ∧ x.l <+: x'.l ∧ 0 ≤ n ∧ n < x'.l.length ∧ HasE x'.rows z k n ∧ (deadB (mnAt x z) = true → deadB (mnAt x' n) = true) ∧ x'.asked = x.asked + 1 ∧ (x'.made = x.made ∨ (x'.made = x.made + 1 ∧ NoE x.rows z k))
def TZ (m : Mem) (S : List Nat) (w0 : World) (lb : Nat) (mp : Value) (room : Int) (kb : Nat) (av bv : Value) (rb : Nat) (made asked : Int) (gm : Nat) (cur : List Value) (w : World) : Prop := ∃ dn mu se lv, Ev.Loc m S w0 m [(lb, lzO mp room kb av bv rb dn mu se lv made asked), (gm, .cells (toArr cur) 84 (0, 0))] w
theorem TZ.mp {m : Mem} {S : List Nat} {w0 : World} {lb : Nat} {mp : Value} {room : Int} {kb : Nat} {av bv : Value} {rb : Nat} {made asked : Int} {gm : Nat} {cur : List Value} (w : World) (h : TZ m S w0 lb mp room kb av bv rb made asked gm cur w) : w.cell? ((⟨lb, 0, none⟩ : Addr).add 0) = some mp := by
 obtain ⟨dn, mu, se, lv, h⟩ := h
 exact h.ownCell (i := 0) (.head _)
theorem TZ.av {m : Mem} {S : List Nat} {w0 : World} {lb : Nat} {mp : Value} {room : Int} {kb : Nat} {av bv : Value} {rb : Nat} {made asked : Int} {gm : Nat} {cur : List Value} (w : World) (h : TZ m S w0 lb mp room kb av bv rb made asked gm cur w) : w.cell? ((⟨lb, 0, none⟩ : Addr).add 3) = some av := by
 obtain ⟨dn, mu, se, lv, h⟩ := h
 exact h.ownCell (i := 3) (.head _)
theorem TZ.mn {m : Mem} {S : List Nat} {w0 : World} {lb : Nat} {mp : Value} {room : Int} {kb : Nat} {av bv : Value} {rb : Nat} {made asked : Int} {gm : Nat} {cur : List Value} {i : Nat} {v : Value} (hv : cur[i]? = some v) (w : World) (h : TZ m S w0 lb mp room kb av bv rb made asked gm cur w) : w.cell? ((⟨gm, 0, none⟩ : Addr).add (scale i 1)) = some v := by
 obtain ⟨dn, mu, se, lv, h⟩ := h
 rw [addr_add, scale_eq, Nat.zero_add, Nat.mul_one, h.ownCell (i := i) (.tail _ (.head _))]
 simpa [toArr] using hv
theorem TZ.mem {m : Mem} {S : List Nat} {w0 : World} {lb : Nat} {mp : Value} {room : Int} {kb : Nat} {av bv : Value} {rb : Nat} {made asked : Int} {gm : Nat} {cur : List Value} {a : Addr} {v : Value} (hv : mcell m a = some v) (w : World) (h : TZ m S w0 lb mp room kb av bv rb made asked gm cur w) : w.cell? a = some v := by
 obtain ⟨dn, mu, se, lv, h⟩ := h
 exact h.cell hv
def stepS (y : St) (r1 r2 : List (Int × Nat × List Int)) (z : Int) (g : Nat) (es : List Int) (av : Value) (us : List Value) (l : List (List fo.Fml)) (ns : List Nd) (Lm La Ll : Ev.Own) (lv : Value) : St :=
 { y with av := av, us := us, l := l, ns := ns, rows := r1 ++ (z, g, es) :: r2, Lm := Lm, La := La, Ll := Ll, lv := lv, dn := 1, mu := 0, made := y.made + 1, asked := y.asked + 1 }
theorem mnAt_pre {l l2 : List (List fo.Fml)} (h : l <+: l2) {q : Int} (hq : 0 ≤ q ∧ q < l.length) : l2.getD q.toNat [] = l.getD q.toNat [] := by
 obtain ⟨r, rfl⟩ := h
 rw [List.getD_eq_getElem?_getD, List.getD_eq_getElem?_getD, List.getElem?_append_left (by omega)]
theorem stepS_inv {m m3 : Mem} (hm : Mem.Le m m3) {s : Sp} {ls : List Re} {fs : List fo.Fml} {of : List Nat} {N : Nat} {y : St} (h : Inv m s ls fs of N y) {r1 r2 : List (Int × Nat × List Int)} {z : Int} {g : Nat} {es : List Int} {av : Value} {us : List Value} {l : List (List fo.Fml)} {ns : List Nd} {Lm La Ll : Ev.Own} {lv : Value}
  (hpre : y.ns <+: ns) (hok : OkA ns) (har : Ar y.ab ns La) (hho : OwnS 84 1 av us Lm) (hall : AllM m3 fs.length ns.length us l) (hn : l.length ≤ 2000) (hl : y.l <+: l) : Inv m3 s ls fs of N (stepS y r1 r2 z g es av us l ns Lm La Ll lv) :=
 ⟨h.mkr.le hm, fun f hf => (h.fb f hf).mono hpre.length_le, hok, har, hho, hall, h.hb, hn, fun b hb => by
  have h1 := h.bgs b hb
  have h2 := hl.length_le
  show 0 ≤ b ∧ b < (l.length : Int)
  omega⟩
theorem stepS_ri {k N j : Nat} {y : St} (h : RI k N y) {r1 r2 : List (Int × Nat × List Int)} {z n : Int} {g : Nat} {es : List Int} (hsp : y.rows = r1 ++ (z, g, es) :: r2) {av : Value} {us : List Value} {l : List (List fo.Fml)} {ns : List Nd} {Lm La Ll : Ev.Own} {lv : Value}
  (hl : y.l <+: l) (hn : 0 ≤ n ∧ n < l.length) (hon : OncI N 1 0 lv Ll) (hd : deadB (mnAt y z) = true → deadB (l.getD n.toNat []) = true) : RI k N (stepS y r1 r2 z g (es.set j n) av us l ns Lm La Ll lv) := by
 have hll := hl.length_le
 have hin : (z, g, es) ∈ y.rows := by rw [hsp]; simp
 have hmem : ∀ r ∈ r1 ++ (z, g, es.set j n) :: r2, r ∈ y.rows ∨ r = (z, g, es.set j n) := fun r hr => by
  rw [hsp]
  rcases List.mem_append.1 hr with h1 | h1
  ·exact .inl (List.mem_append_left _ h1)
  ·rcases List.mem_cons.1 h1 with h1 | h1
   ·exact .inr h1
   ·exact .inl (List.mem_append_right _ (List.mem_cons_of_mem _ h1))
 have hset : ∀ q ∈ es.set j n, q ∈ es ∨ q = n := fun q hq => by
  rcases List.mem_or_eq_of_mem_set hq with h1 | h1
  ·exact .inl h1
  ·exact .inr h1
 have hat : ∀ q : Int, 0 ≤ q ∧ q < y.l.length → mnAt (stepS y r1 r2 z g (es.set j n) av us l ns Lm La Ll lv) q = mnAt y q := fun q hq => mnAt_pre hl hq
 have hkz := h.rows.key _ hin
 refine ⟨⟨?_, ?_, fun r hr => ?_, fun r hr => ?_, fun r hr => ?_⟩, hon, fun r hr => ?_, h.r2, h.r3⟩
 ·have := h.rows.keys
  rw [hsp] at this
  simpa [stepS] using this
 ·have := h.rows.len
  rw [hsp] at this
  simpa [stepS] using this
 ·rcases hmem r hr with h1 | rfl
  ·exact h.rows.wid r h1
  ·show (es.set j n).length = _; rw [List.length_set]; exact h.rows.wid _ hin
 ·show 0 ≤ r.1 ∧ r.1 < (l.length : Int)
  rcases hmem r hr with h1 | rfl
  ·have := h.rows.key r h1; omega
  ·dsimp only at hkz ⊢; omega
 ·intro q hq
  show -1 ≤ q ∧ q < (l.length : Int)
  rcases hmem r hr with h1 | rfl
  ·have := h.rows.ent r h1 q hq; omega
  ·rcases hset q hq with h1 | rfl
   ·have := h.rows.ent _ hin q h1; omega
   ·omega
 ·intro hdd q hq h0
  rcases hmem r hr with h1 | rfl
  ·have h2 := h.rows.key r h1
   have h3 := h.rows.ent r h1 q hq
   rw [hat _ h2] at hdd
   rw [hat q ⟨h0, h3.2⟩]
   exact h.dead r h1 hdd q hq h0
  ·rw [hat _ hkz] at hdd
   rcases hset q hq with h1 | rfl
   ·have h3 := h.rows.ent _ hin q h1
    rw [hat q ⟨h0, h3.2⟩]
    exact h.dead _ hin hdd q h1 h0
   ·exact hd hdd
set_option maxHeartbeats 4000000 in
theorem Step_fn (m : Mem) (hQ : fk.TabMem m) (hB : BitMem m) (lb : Nat) (s : Sp) (ls : List Re) (fs : List fo.Fml) (of : List Nat) (N : Nat) (x : St) (hI : Inv m s ls fs of N x) (hR : RI ls.length N x) (hma : 0 ≤ x.made ∧ x.made ≤ 1000000) (hask : 0 ≤ x.asked ∧ x.asked ≤ 1000000) (hfs : fs.length ≤ 40)
  (z : Int) (hz : 0 ≤ z ∧ z < x.l.length) (b bits : Nat) (hb8 : b < 256) (hbits : bits < 256) :
  Ev.Fn Tryz.prog 11 [.pointer (some ⟨lb, 0, none⟩), .int .i64 z, .int .u8 b, .int .u8 bits] m (x.own lb) (StepQ lb s ls fs of N x z (plN ls.length of N b bits)) := by
 obtain ⟨A, n, c, hav, -⟩ := hI.ho.slice
 have hn : n = x.l.length := by have := hI.ho; rw [hav] at this; have := (tk_own this).1; have := hI.all.len; omega
 have h2000 := hI.n
 have hiz : i64 z := by unfold i64; omega
 have hth := Ev.FnL.frame (L := x.own lb) (L2 := (x.kb, mapW (knW x.l 0)) :: (x.Lm ++ ((x.rb, mapB x.ck (rwW x.rows)) :: (x.Lb ++ (x.La ++ (rwB x.rows ++ x.Ll)))))) (there_fn m lb x.kb x.rb x.l.length (.pointer (some ⟨x.mb, 0, none⟩)) x.av x.bv x.lv ⟨A, c, by rw [hav, hn]⟩ rfl (by obtain ⟨A6, n6, c6, hbv, -⟩ := hI.hb.slice; rw [hbv]; rfl) hR.onc.one x.room x.dn x.mu x.se x.made x.asked z hiz) (List.Perm.refl _)
 rw [decide_eq_true hz] at hth
 have hrow := rowX_fn m lb s ls fs of N x hI hR z hz
 have hC := hI.mkr.cls
 have hplt := plN_lt (k := ls.length) (bits := bits) hC hb8
 have hW := wdN_le hC hI.mkr.l4
 refine Fn.enter (N := 97) hX Tryz.func11 rfl rfl (by show _ ≤ _; simp) (fun w0 hL => ?_)
 conv => whnf
 generalize keys (x.own lb) = S0 at hL ⊢
 refine go ?_;try(clear hL;intro w hL)
 refine CallReq.lo hth hL ?_
 clear hL
 intro w hL
 refine go ?_;try(clear hL;intro w hL)
 refine CallReq.mk (L1 := x.own lb) (L2 := []) hrow (by rw [List.append_nil]; exact hL) ?_
 clear hL
 rintro u mx L2 w hL - ⟨hmx, y, g, es, rfl, rfl, hmem, hIy, hRy, hyl, hyroom, hyob, hyma, hyask, hyx⟩
 rw [hmx] at hL
 clear hmx mx
 rw [List.append_nil] at hL
 obtain ⟨r1, r2, hsp⟩ := List.append_of_mem hmem
 replace hL := hL.perm (own_split lb y hsp)
 refine go ?_;try(clear hL;intro w hL)
 have hpl := place_fn m lb y.mb y.ab y.kb y.rb s ls fs of N hIy.mkr y.av y.bv y.lv y.room y.dn y.mu y.se y.made y.asked b bits hb8 hbits
 refine CallReq.li (L1 := [_]) (L2 := (g, .cells (toArr (ints es)) 3 (0, 0)) :: (y.kb, mapW (knW y.l 0)) :: (y.rb, mapB y.ck (rwW y.rows)) :: y.tailL r1 r2) hpl hL ?_
 clear hL
 intro w hL
 replace hL : Ev.Loc m S0 w0 m ((lb, y.ob) :: (g, .cells (toArr (ints es)) 3 (0, 0)) :: (y.kb, mapW (knW y.l 0)) :: (y.rb, mapB y.ck (rwW y.rows)) :: y.tailL r1 r2) w := hL
 have hesl : es.length = wdN ls.length N := hRy.rows.wid _ hmem
 generalize hk : plN ls.length of N b bits = k at hplt ⊢
 have hkl : k < es.length := by omega
 have hek : (ints es)[k]? = some (.int .i64 es[k]) := by unfold ints; rw [List.getElem?_map, List.getElem?_eq_getElem hkl]; rfl
 have hent := hRy.rows.ent _ hmem es[k] (List.getElem_mem hkl)
 conv => whnf
 repeat ((first | refine Idx2Req.mk k ⟨g, 0, none⟩ rfl (by omega) rfl ?_ | (refine LdReq.ownC hX rfl rfl hL (.t .h) (by rw [scale_eq, Nat.mul_one, Nat.zero_add]; exact hek) ?_) | (refine go1 ?_;try(clear hL;intro w hL))); conv => whnf)
 by_cases h0 : es[k] < 0
 ·have hNo : NoE x.rows z k := by
   rcases hyx with rfl | ⟨h, -⟩
   ·rintro n ⟨g', es', h1, h2⟩
    obtain ⟨-, rfl⟩ := rw_one hRy.rows.keys hmem h1
    rw [List.getElem?_eq_getElem hkl] at h2
    cases h2
    exact h0
   ·exact h k
  conv => whnf
  repeat ((first | refine BrReq.yes h0 ?_ | (refine go1 ?_;try(clear hL;intro w hL))); conv => whnf)
  obtain ⟨zk, rfl⟩ : ∃ q : Nat, z = q := ⟨z.toNat, by omega⟩
  have hzk : zk < y.l.length := by rw [hyl]; omega
  obtain ⟨gm, cur, nm, cm, um, hyav, hnm, hcm, hyLm, hcur, hum⟩ := hIy.at_ hzk
  obtain ⟨A6, n6, c6, hybv, -⟩ := hIy.hb.slice
  obtain ⟨-, hN1, hof, hcls⟩ := hIy.mkr.cells
  have hofb := hof b hb8
  have hoflt := (hC.get hb8).2
  have hmf : (y.l.getD zk []).length = fs.length ∧ ∀ f ∈ y.l.getD zk [], fo.FB y.ns.length f := by
   rw [List.getD_eq_getElem?_getD, List.getElem?_eq_getElem hzk]
   exact hIy.all.fb _ (List.getElem_mem hzk)
  have hmnx : mnAt x zk = y.l.getD zk [] := by unfold mnAt; rw [hyl, Int.toNat_natCast]
  have hclen : (clC of N).length = 257 := by rw [clC_len, hC.len]
  have hN256 := hC.le
  have h4096 := hIy.ok.len
  obtain ⟨Au, nu, cu, hume, -⟩ := id hum
  subst hume
  have hcellb : mcell m ((((⟨y.mb, 0, none⟩ : Addr).add 2).add 0).add (scale b 1)) = some (.int .u8 (of.getD b 0 : Nat)) := by rw [scale_eq, Nat.mul_one, addr_add2, addr_add2, Nat.zero_add]; exact hofb
  have hob : y.ob = lzO (.pointer (some ⟨y.mb, 0, none⟩)) y.room y.kb (.slice (some ⟨gm, 0, none⟩) nm cm) y.bv y.rb y.dn y.mu y.se y.lv y.made y.asked := by unfold St.ob; rw [hyav]
  rw [hob] at hL
  refine DrawReq.planS hX (.fst 0 (.fst 1 (.fst 2 (.fst 3 (.fst 4 (.fst 5 (.fst 6 (.fst 7 (.fst 8 (.fst 9 (.fst 10 (.fst 11 (.fst 12 (.fst 13 (.fst 14 (.fst 15 (.fst 16 (.fst 17 (.fst 18 (.fst 19 (.fst 20 (.fst 21 (.fst 22 (.fst 23 (.fst 24 (.fst 25 (.fst 26 (.fst 27 (.fst 28 (.fst 29 (.fst 30 (.fst 31 (.fst 33 (.alt 32 (.alt 34 (.fst 35 (.fst 36 (.fst 37 (.fst 38 (.fst 39 (.done)))))) (.stop)) (.stop))))))))))))))))))))))))))))))))))) (TZ m S0 w0 lb (.pointer (some ⟨y.mb, 0, none⟩)) y.room y.kb (.slice (some ⟨gm, 0, none⟩) nm cm) y.bv y.rb y.made y.asked gm cur) (by kernel_rfl) (by kernel_rfl) hL (fun w h => ⟨y.dn, y.mu, y.se, y.lv, (h.sublist (List.Sublist.cons_cons _ (.cons _ (.cons _ (.cons _ (by unfold St.tailL; rw [hyLm]; exact .cons_cons _ (List.nil_sublist _)))))))⟩) ?_
  clear hL
  intro w hL
  conv => whnf
  repeat ((first | refine QLdReq.told hX rfl rfl TZ.mp ?_ | refine QLdReq.told hX rfl rfl TZ.av ?_ | refine Idx2Req.mk zk ⟨gm, 0, none⟩ rfl (by omega) rfl ?_ | refine QLdReq.told hX rfl rfl (TZ.mn hcur) ?_ | refine QLdReq.told hX rfl rfl (TZ.mem hcellb) ?_ | refine li.QLdReq.toldB hX rfl rfl hclen (fun w h j v hj => TZ.mem (hcls j v hj) w h) ?_ | refine ArReq.i64 (by omega) (by omega) ?_ | refine IdxReq.mk b rfl hb8 ?_ | (refine goq1 ?_;try(clear hL;intro w hL))); conv => whnf)
  refine CallReq.mk (L1 := (lb, _) :: y.Ll) (L2 := (gm, .cells (toArr cur) 84 (0, 0)) :: (g, .cells (toArr (ints es)) 3 (0, 0)) :: (y.kb, mapW (knW y.l 0)) :: (y.rb, mapB y.ck (rwW y.rows)) :: (y.La ++ (y.Lb ++ (rwB r1 ++ rwB r2)))) (firstL_fn m hB of N hC lb y.kb y.rb (of.getD b 0) hoflt (.pointer (some ⟨y.mb, 0, none⟩)) (.slice (some ⟨gm, 0, none⟩) nm cm) y.bv rfl rfl (by rw [hybv]; rfl) y.room y.dn y.mu y.se y.made y.asked y.lv y.Ll hRy.onc) (hL.perm (by classical exact List.perm_iff_count.2 fun q => by simp only [St.tailL, hyLm, List.count_append, List.count_cons, List.count_nil, List.append_assoc, List.cons_append, List.nil_append]; omega)) ?_
  clear hL
  rintro u m1 L2 w hL hm1 ⟨cb, lv2, Ll2, rfl, hcb, rfl, hon2⟩
  refine SReq.mk ⟨1, 0, y.se, lv2, (hL.weaken hm1 (Mem.Le.refl m)).sublist (.cons_cons _ (List.Sublist.trans (.cons_cons _ (List.nil_sublist _)) (List.sublist_append_right _ _)))⟩ ?_
  refine goq ?_;try(clear hL;intro w hL)
  refine CallReq.mk (L1 := y.La) (L2 := (lb, lzO (.pointer (some ⟨y.mb, 0, none⟩)) y.room y.kb (.slice (some ⟨gm, 0, none⟩) nm cm) y.bv y.rb 1 0 y.se lv2 y.made y.asked) :: (gm, .cells (toArr cur) 84 (0, 0)) :: (g, .cells (toArr (ints es)) 3 (0, 0)) :: (y.kb, mapW (knW y.l 0)) :: (y.rb, mapB y.ck (rwW y.rows)) :: (Ll2 ++ (y.Lb ++ (rwB r1 ++ rwB r2)))) (mnext_fn m1 y.mb y.ab cb bits s ls fs of N (hIy.mkr.le hm1) y.ns y.La hIy.ar hIy.ok hcb hbits _ (y.l.getD zk []) (MnV.le hm1 hum) hmf.2 (by omega)) (hL.perm (by classical exact List.perm_iff_count.2 fun q => by simp only [St.tailL, hyLm, List.count_append, List.count_cons, List.count_nil, List.append_assoc, List.cons_append, List.nil_append]; omega)) ?_
  clear hL
  rintro u m2 L2 w hL hm2 ⟨ns2, hpre, hok2, har2, hq⟩
  have hm02 := hm1.trans hm2
  refine SReq.mk ⟨1, 0, y.se, lv2, (hL.weaken hm02 (Mem.Le.refl m)).sublist (List.Sublist.trans (.cons_cons _ (.cons_cons _ (List.nil_sublist _))) (List.sublist_append_right _ _))⟩ ?_
  obtain rfl | ⟨v2, gs, rfl, hv2, hgl, hgF, hgd⟩ := hq
  ·refine goq ?_;try(clear hL;intro w hL)
   exact RetReq.mk hL (.inl ⟨4, rfl, .inl rfl, hNo⟩)
  obtain ⟨Av, nv, cv, rfl, -⟩ := id hv2
  have hho : OwnS 84 1 (.slice (some ⟨gm, 0, none⟩) nm cm) y.us [(gm, .cells (toArr cur) 84 (0, 0))] := by
   have := hIy.ho
   rwa [hyav, hyLm] at this
  have hok2l := hok2.len
  refine goq ?_;try(clear hL;intro w hL)
  refine CallReq.mk (L1 := (lb, lzO (.pointer (some ⟨y.mb, 0, none⟩)) y.room y.kb (.slice (some ⟨gm, 0, none⟩) nm cm) y.bv y.rb 1 0 y.se lv2 y.made y.asked) :: (y.kb, mapW (knW y.l 0)) :: [(gm, .cells (toArr cur) 84 (0, 0))]) (L2 := (g, .cells (toArr (ints es)) 3 (0, 0)) :: (y.rb, mapB y.ck (rwW y.rows)) :: (L2 ++ (Ll2 ++ (y.Lb ++ (rwB r1 ++ rwB r2))))) (handleX_fn m2 (hQ.le hm02) lb y.kb y.rb _ rfl y.room 1 0 y.se y.made y.asked _ y.bv lv2 (by rw [hybv]; rfl) hon2.one y.us y.l fs.length ns2.length hfs hok2l _ hho (hIy.all.le hm02 hpre.length_le) hIy.n _ gs hv2 (hgl.trans hmf.1) hgF) (hL.perm (by classical exact List.perm_iff_count.2 fun q => by simp only [St.tailL, hyLm, List.count_append, List.count_cons, List.count_nil, List.append_assoc, List.cons_append, List.nil_append]; omega)) ?_
  clear hL
  rintro u m3 L3 w hL hm3 ⟨rfl, hq⟩
  obtain ⟨rfl, -, rfl⟩ | ⟨z2, av2, us2, l2, Lm2, gs2, rfl, rfl, hho2, hall2, hn2, hz1, hz2, hz3⟩ := hq
  ·refine go ?_;try(clear hL;intro w hL)
   exact RetReq.mk hL (.inl ⟨11, rfl, .inr rfl, hNo⟩)
  have hz2l : z2 < l2.length := (List.getElem?_eq_some_iff.1 hz1).1
  have hpl2 : y.l <+: l2 := by
   obtain ⟨rfl, -⟩ | ⟨rfl, -⟩ := hz3
   ·exact List.prefix_refl _
   ·exact List.prefix_append _ _
  replace hL : Ev.Loc m S0 w0 m3 ((lb, lzO (.pointer (some ⟨y.mb, 0, none⟩)) y.room y.kb av2 y.bv y.rb 1 0 y.se lv2 y.made y.asked) :: (g, .cells (toArr (ints es)) 3 (0, 0)) :: (y.kb, mapW (knW l2 0)) :: (y.rb, mapB y.ck (rwW y.rows)) :: (Lm2 ++ (L2 ++ (Ll2 ++ (y.Lb ++ (rwB r1 ++ rwB r2)))))) w := hL.perm (by classical exact List.perm_iff_count.2 fun q => by simp only [St.tailL, hyLm, List.count_append, List.count_cons, List.count_nil, List.append_assoc, List.cons_append, List.nil_append]; omega)
  conv => whnf
  repeat ((first | refine Idx2Req.mk k ⟨g, 0, none⟩ rfl (by omega) rfl ?_ | (refine go1 ?_;try(clear hL;intro w hL))); conv => whnf)
  refine StReq.ownAt hX rfl 1 hL rfl rfl (by rw [scale_eq, Nat.zero_add, Nat.mul_one]; show k + 1 ≤ (ints es).length; rw [show (ints es).length = es.length from List.length_map ..]; omega) rfl ?_
  clear hL
  intro w hL
  replace hL : Ev.Loc m S0 w0 m3 ((lb, lzO (.pointer (some ⟨y.mb, 0, none⟩)) y.room y.kb av2 y.bv y.rb 1 0 y.se lv2 y.made y.asked) :: (g, .cells (toArr (spliceL (ints es) (0 + scale k 1) [.int .i64 z2])) 3 (0, 0)) :: (y.kb, mapW (knW l2 0)) :: (y.rb, mapB y.ck (rwW y.rows)) :: (Lm2 ++ (L2 ++ (Ll2 ++ (y.Lb ++ (rwB r1 ++ rwB r2)))))) w := hL
  have hspl : spliceL (ints es) k [.int .i64 z2] = ints (es.set k z2) := by
   show (ints es).set k (.int .i64 z2) = _
   unfold ints; rw [List.map_set]
  rw [scale_eq, Nat.zero_add, Nat.mul_one, hspl] at hL
  refine go ?_;try(clear hL;intro w hL)
  refine CallReq.mk (L1 := [_]) (L2 := (g, .cells (toArr (ints (es.set k z2))) 3 (0, 0)) :: (y.kb, mapW (knW l2 0)) :: (y.rb, mapB y.ck (rwW y.rows)) :: (Lm2 ++ (L2 ++ (Ll2 ++ (y.Lb ++ (rwB r1 ++ rwB r2)))))) (add64_fn m3 lb 10 81 [.pointer (some ⟨y.mb, 0, none⟩), .int .i64 y.room, .map (some y.kb), av2, y.bv, .map (some y.rb), .int .u32 1, .int .i32 0, .int .u32 y.se, lv2, .int .i64 y.made, .int .i64 y.asked] y.made 1 (by unfold i64; omega) rfl) hL ?_
  clear hL
  rintro u mx L5 w hL - ⟨hmx, rfl, rfl⟩
  rw [hmx] at hL
  clear hmx mx
  replace hL : Ev.Loc m S0 w0 m3 ((lb, lzO (.pointer (some ⟨y.mb, 0, none⟩)) y.room y.kb av2 y.bv y.rb 1 0 y.se lv2 (y.made + 1) y.asked) :: (g, .cells (toArr (ints (es.set k z2))) 3 (0, 0)) :: (y.kb, mapW (knW l2 0)) :: (y.rb, mapB y.ck (rwW y.rows)) :: (Lm2 ++ (L2 ++ (Ll2 ++ (y.Lb ++ (rwB r1 ++ rwB r2)))))) w := hL
  refine go ?_;try(clear hL;intro w hL)
  refine CallReq.mk (L1 := [_]) (L2 := (g, .cells (toArr (ints (es.set k z2))) 3 (0, 0)) :: (y.kb, mapW (knW l2 0)) :: (y.rb, mapB y.ck (rwW y.rows)) :: (Lm2 ++ (L2 ++ (Ll2 ++ (y.Lb ++ (rwB r1 ++ rwB r2)))))) (add64_fn m3 lb 11 81 [.pointer (some ⟨y.mb, 0, none⟩), .int .i64 y.room, .map (some y.kb), av2, y.bv, .map (some y.rb), .int .u32 1, .int .i32 0, .int .u32 y.se, lv2, .int .i64 (y.made + 1), .int .i64 y.asked] y.asked 1 (by unfold i64; omega) rfl) hL ?_
  clear hL
  rintro u mx L5 w hL - ⟨hmx, rfl, rfl⟩
  rw [hmx] at hL
  clear hmx mx
  replace hL : Ev.Loc m S0 w0 m3 ((lb, lzO (.pointer (some ⟨y.mb, 0, none⟩)) y.room y.kb av2 y.bv y.rb 1 0 y.se lv2 (y.made + 1) (y.asked + 1)) :: (g, .cells (toArr (ints (es.set k z2))) 3 (0, 0)) :: (y.kb, mapW (knW l2 0)) :: (y.rb, mapB y.ck (rwW y.rows)) :: (Lm2 ++ (L2 ++ (Ll2 ++ (y.Lb ++ (rwB r1 ++ rwB r2)))))) w := hL
  have hek2 : (ints (es.set k z2))[k]? = some (.int .i64 z2) := by unfold ints; rw [List.getElem?_map, List.getElem?_set_self hkl]; rfl
  conv => whnf
  repeat ((first | refine Idx2Req.mk k ⟨g, 0, none⟩ rfl (by omega) rfl ?_ | (refine LdReq.ownC hX rfl rfl hL (.t .h) (by rw [scale_eq, Nat.mul_one, Nat.zero_add]; exact hek2) ?_) | (refine go1 ?_;try(clear hL;intro w hL))); conv => whnf)
  have hsp2 : (stepS y r1 r2 zk g (es.set k z2) av2 us2 l2 ns2 Lm2 L2 Ll2 lv2).rows = r1 ++ ((zk : Int), g, es.set k (z2 : Int)) :: r2 := rfl
  have hown := own_split lb (stepS y r1 r2 zk g (es.set k z2) av2 us2 l2 ns2 Lm2 L2 Ll2 lv2) hsp2
  have hrw : rwW (stepS y r1 r2 zk g (es.set k z2) av2 us2 l2 ns2 Lm2 L2 Ll2 lv2).rows = rwW y.rows := by
   rw [hsp2, hsp]; exact rwW_set r1 r2 zk g es (es.set k z2) (List.length_set ..)
  rw [hrw] at hown
  have hg2 : l2.getD (z2 : Int).toNat [] = gs2 := by rw [Int.toNat_natCast, List.getD_eq_getElem?_getD, hz1]; rfl
  have hmy : mnAt y zk = y.l.getD zk [] := by unfold mnAt; rw [Int.toNat_natCast]
  have hdd : deadB (y.l.getD zk []) = true → deadB (l2.getD (z2 : Int).toNat []) = true := fun h => by rw [hg2]; exact dead_key hz2 (hgd h)
  refine RetReq.mk (hL.perm hown.symm) (.inr ⟨_, (z2 : Int), rfl, rfl, stepS_inv hm02 hIy hpre hok2 har2 hho2 hall2 hn2 hpl2, stepS_ri hRy hsp hpl2 ⟨by omega, by omega⟩ hon2 (fun h => hdd (by rw [← hmy]; exact h)), hyroom, by rw [← hyl]; exact hpl2, by omega, by show (z2 : Int) < (l2.length : Int); omega, ⟨g, es.set k z2, by rw [hsp2]; simp, List.getElem?_set_self hkl⟩, fun h => hdd (by rw [← hmnx]; exact h), by show y.asked + 1 = _; rw [hyask], .inr ⟨by show y.made + 1 = _; rw [hyma], hNo⟩⟩)
 ·have hyx2 : y = x := by
   rcases hyx with h | ⟨-, h⟩
   ·exact h
   ·exact absurd (h _ (List.getElem_mem hkl)) h0
  subst hyx2
  conv => whnf
  repeat ((first | refine BrReq.no h0 ?_ | (refine go1 ?_;try(clear hL;intro w hL))); conv => whnf)
  refine CallReq.mk (L1 := [_]) (L2 := (g, .cells (toArr (ints es)) 3 (0, 0)) :: (y.kb, mapW (knW y.l 0)) :: (y.rb, mapB y.ck (rwW y.rows)) :: y.tailL r1 r2) (add64_fn m lb 11 81 [.pointer (some ⟨y.mb, 0, none⟩), .int .i64 y.room, .map (some y.kb), y.av, y.bv, .map (some y.rb), .int .u32 y.dn, .int .i32 y.mu, .int .u32 y.se, y.lv, .int .i64 y.made, .int .i64 y.asked] y.asked 1 (by unfold i64; omega) rfl) hL ?_
  clear hL
  rintro u mx L2 w hL - ⟨hmx, rfl, rfl⟩
  rw [hmx] at hL
  clear hmx mx
  replace hL : Ev.Loc m S0 w0 m ((lb, ({ y with asked := y.asked + 1 } : St).ob) :: (g, .cells (toArr (ints es)) 3 (0, 0)) :: (y.kb, mapW (knW y.l 0)) :: (y.rb, mapB y.ck (rwW y.rows)) :: y.tailL r1 r2) w := hL
  conv => whnf
  repeat ((first | refine Idx2Req.mk k ⟨g, 0, none⟩ rfl (by omega) rfl ?_ | (refine LdReq.ownC hX rfl rfl hL (.t .h) (by rw [scale_eq, Nat.mul_one, Nat.zero_add]; exact hek) ?_) | (refine go1 ?_;try(clear hL;intro w hL))); conv => whnf)
  replace hL := hL.perm (own_split lb { y with asked := y.asked + 1 } hsp).symm
  refine RetReq.mk hL (.inr ⟨{ y with asked := y.asked + 1 }, es[k], rfl, rfl, ⟨hI.mkr, hI.fb, hI.ok, hI.ar, hI.ho, hI.all, hI.hb, hI.n, hI.bgs⟩, ⟨hR.rows, hR.onc, hR.dead, hR.r2, hR.r3⟩, rfl, List.prefix_refl _, by omega, hent.2, ⟨g, es, hmem, List.getElem?_eq_getElem hkl⟩, fun hd => hR.dead _ hmem hd _ (List.getElem_mem hkl) (by omega), rfl, .inl rfl⟩)
end Go.Proofs.YtaooenndoopgdaaGreatDoor.lz
namespace Go.Proofs.YtaooenndoopgdaaGreatDoor.lz
open Go Go.Ev Go.Proofs Go.Proofs.YtaooenndoopgdaaGreatDoor.ar Go.Proofs.YtaooenndoopgdaaGreatDoor.tree Go.Proofs.YtaooenndoopgdaaGreatDoor.looks
def oneSp (r : Re) : Sp := ⟨[[109, 97, 105, 110]], [⟨[0], r, 0, 0⟩]⟩
theorem One_fn (m : Mem) (k s0 s1 s2 s3 lo hi : Int) (neg : Bool) (A : Option Addr) (n c : Nat) (r : Re) (hr : RepRe m (reC k s0 s1 s2 s3 (.slice A n c) lo hi neg) r) :
  Fn0 Tryz.prog 18 [.agg (toArr (reC k s0 s1 s2 s3 (.slice A n c) lo hi neg))] m fun m' u => ∃ cs, u = .agg (toArr cs) ∧ spV m' cs (oneSp r) := by
 refine Fn.enter (N := 9) hX Tryz.func18 rfl rfl (by show _ ≤ _; simp) (fun w0 hL => ?_)
 conv => whnf
 refine NewReq.mk hL ?_
 clear hL
 intro b1 w hL
 conv => whnf
 refine NewReq.mk hL ?_
 clear hL
 intro b2 w hL
 conv => whnf
 refine go ?_;try(clear hL;intro w hL)
 refine NewReq.mk hL ?_
 clear hL
 intro g3 w hL
 conv => whnf
 refine go ?_;try(clear hL;intro w hL)
 refine NewReq.mk hL ?_
 clear hL
 intro g4 w hL
 conv => whnf
 refine go ?_;try(clear hL;intro w hL)
 refine NewReq.mk hL ?_
 clear hL
 intro g5 w hL
 conv => whnf
 refine go ?_;try(clear hL;intro w hL)
 simp only [spliceL, zerosL, reC, toArr, Value.cells, List.set_cons_zero, List.set_cons_succ, List.take, List.drop, Nat.zero_mul, List.append_nil] at hL
 replace hL : Ev.Loc m (keys []) w0 m ((g5, .cells (toArr (ruC (.slice (some ⟨g4, 0, none⟩) 1 1) k s0 s1 s2 s3 (.slice A n c) lo hi neg 0 0)) 55 (0, 0)) :: (g4, .cells (toArr [.int .i64 0]) 3 (0, 0)) :: (g3, .cells (toArr [.string (bs [109, 97, 105, 110])]) 9 (0, 0)) :: [_, _]) _ := hL
 have hle1 := hL.le_add
 replace hL := hL.freeze
 have hle2 := hL.le_add
 replace hL := hL.freeze
 have hle3 := hL.le_add
 replace hL := hL.freeze
 generalize hm1 : m.add g5 _ = m1 at hL hle1 hle2 hle3
 have hc5 : Cells m1 ⟨g5, 0, none⟩ (ruC (.slice (some ⟨g4, 0, none⟩) 1 1) k s0 s1 s2 s3 (.slice A n c) lo hi neg 0 0) := by rw [← hm1]; exact cells_add0 _
 generalize hm2 : m1.add g4 _ = m2 at hL hle2 hle3
 have hc4 : Cells m2 ⟨g4, 0, none⟩ [.int .i64 0] := by rw [← hm2]; exact cells_add0 _
 generalize hm3 : m2.add g3 _ = m3 at hL hle3
 have hc3 : Cells m3 ⟨g3, 0, none⟩ [.string (bs [109, 97, 105, 110])] := by rw [← hm3]; exact cells_add0 _
 have hr3 := hr.le (hle1.trans (hle2.trans hle3))
 replace hc4 := hc4.le hle3
 replace hc5 := hc5.le (hle2.trans hle3)
 clear hm1 hm2 hm3
 have a0 : ∀ z : Addr, z.add 0 = z := fun z => by cases z; rfl
 have mx : (1 : Nat) ≤ maxLen := by decide
 refine RetReq.mk hL.drop.drop ⟨rfl, [.slice (some ⟨g3, 0, none⟩) 1 1, .slice (some ⟨g5, 0, none⟩) 1 1], rfl, _, _, _, _, _, _, rfl, ⟨_, _, _, rfl, rfl, Nat.le_refl _, mx, fun i x hx => ?_⟩, ⟨_, _, _, rfl, rfl, Nat.le_refl _, mx, fun i x hx => ?_⟩⟩
 ·match i, hx with
  | 0, hx => cases hx; exact ⟨_, _, rfl, rfl, by rw [scale_eq, Nat.zero_mul, a0]; exact hc3, rfl⟩
 ·match i, hx with
  | 0, hx =>
    cases hx
    refine ⟨_, _, rfl, rfl, by rw [scale_eq, Nat.zero_mul, a0]; exact hc5, _, _, _, _, _, _, _, _, _, _, _, _, _, _, rfl, ⟨_, _, _, rfl, rfl, Nat.le_refl _, mx, fun i x hx => ?_⟩, hr3⟩
    match i, hx with
    | 0, hx => cases hx; exact ⟨_, _, rfl, rfl, by rw [scale_eq, Nat.zero_mul, a0]; exact hc4, rfl⟩
theorem atoms_one : li.atomsP [[0]] = [0] := by
 unfold li.atomsP fo.sortI
 rw [show ([[0]] : fo.Fml).flatten = [0] from rfl, List.mergeSort_singleton]
 rfl
theorem acc_one : accB [ndK 1] 0 [[0]] = true := by
 unfold accB fo.dec
 refine @decide_eq_true _ (Classical.propDecidable _) ⟨[0], .head _, fun n hn => ?_⟩
 rw [List.mem_singleton.1 hn, atoms_one]
 have : li.nulP [ndK 1] 0 0 = true := by decide
 rw [li.keepQ_all (fun y hy => by rw [List.mem_singleton.1 hy]; exact this)]
 exact .head _
theorem one_one (s : Sp) (h : s = oneSp (leafR 1)) : OneS s := by
 subst h
 exact ⟨rfl, rfl, fun x hx => by rw [List.mem_singleton.1 hx]; exact ⟨rfl, rfl, rfl, rfl, rfl⟩⟩
theorem one_few : FewS (oneSp (leafR 1)) := ⟨by decide, fun x hx => by rw [List.mem_singleton.1 hx]; exact ⟨by decide, by decide⟩, by decide, fun x hx => by rw [List.mem_singleton.1 hx]; decide⟩
theorem own_perm (lb : Nat) (x : St) : (x.own lb).Perm (((lb, x.ob) :: x.Lb) ++ ((x.kb, mapW (knW x.l 0)) :: (x.Lm ++ ((x.rb, mapB x.ck (rwW x.rows)) :: (x.La ++ (rwB x.rows ++ x.Ll)))))) := by
 refine (fb_perm _ _ _ x.Lm x.Lb _).trans ?_
 exact List.perm_middle
theorem begin_own (m : Mem) (lb : Nat) (x : St) (s : Sp) (ls : List Re) (fs : List fo.Fml) (of : List Nat) (N : Nat) (hI : Inv m s ls fs of N x) (hlv : x.lv.oneCell' = true) (z : Int) (hz : i64 z) :
  FnL Tryz.prog 9 [.pointer (some ⟨lb, 0, none⟩), .int .i64 z] m (x.own lb) (.int .i64 (if 0 ≤ z then x.bg.getD z.toNat (-1) else -1)) := by
 obtain ⟨A, n, c, hav, -⟩ := hI.ho.slice
 exact (begin_fn m lb x.kb x.rb (.pointer (some ⟨x.mb, 0, none⟩)) x.av x.bv x.lv x.bg x.Lb hI.hb (by rw [hav]; rfl) rfl hlv x.room x.dn x.mu x.se x.made x.asked z hz).frame (own_perm lb x)
theorem awake_fn (m : Mem) (hQ : fk.TabMem m) : Fn0 Tryz.prog 6 [] m fun _ u => u = .bool true := by
 refine Fn.enter (N := 25) hX Tryz.func6 rfl rfl (by show _ ≤ _; simp) (fun w0 hL => ?_)
 conv => whnf
 refine go ?_;try(clear hL;intro w hL)
 refine CallReq.pure (One_fn m 1 0 0 0 0 0 0 false none 0 0 (leafR 1) (leaf_rep m 1 (by simp [inI]))) hL ?_
 clear hL
 rintro u m1 w hL hm1 ⟨cs, rfl, hs⟩
 refine go ?_;try(clear hL;intro w hL)
 refine CallReq.mk (L1 := []) (L2 := []) (New_fn m1 (hQ.le hm1) cs _ hs one_few 2 (by unfold i64; omega) (by decide)) hL ?_
 clear hL
 rintro u m2 L2 w hL hm2 hq
 obtain ⟨e, -, -, -, h⟩ | ⟨lb, x, ls, fs, of, N, rfl, rfl, hI, h1, h2, h3, h4, -, -, h5, h6, h7, h8, h9, -, h10⟩ := hq
 ·exact absurd ⟨one_one _ rfl, rfl⟩ h
 obtain ⟨hbg, hl, hns⟩ := h10 (one_one _ rfl)
 rw [List.append_nil] at hL
 have hbe := begin_own m2 lb x _ ls fs of N hI (by rw [h3]; rfl) 0 (by unfold i64; omega)
 have hru := rule_fn m2 lb 0 _ ls fs of N x hI (by rw [h3]; rfl) (by decide) 0 (by unfold i64; omega)
 have e1 : ruleZ x.ns 0 (x.l.getD (0 : Int).toNat []) = 0 := by
  rw [hl, hns]
  show ruleZ [ndK 1] 0 [[[0]]] = 0
  unfold ruleZ
  simp [List.findIdx?_cons, acc_one]
 rw [if_pos (by decide), hbg] at hbe
 rw [if_pos ⟨by decide, by rw [hl]; decide⟩, e1] at hru
 replace hbe : FnL Tryz.prog 9 [.pointer (some ⟨lb, 0, none⟩), .int .i64 0] m2 (x.own lb) (.int .i64 0) := hbe
 generalize x.own lb = L3 at hL hbe hru
 conv => whnf
 repeat ((first | refine UGenReq.nilPtrNe hX rfl rfl rfl rfl rfl ?_ | (refine go1 ?_;try(clear hL;intro w hL))); conv => whnf)
 refine CallReq.lo hbe hL ?_
 clear hL
 intro w hL
 refine go ?_;try(clear hL;intro w hL)
 refine CallReq.lm (L1 := L3) (L2 := []) hru (by rw [List.append_nil]; exact hL) ?_
 clear hL
 intro m3 w hm3 hL
 refine go ?_;try(clear hL;intro w hL)
 exact RetReq.mk (hL.sublist (List.nil_sublist _)) ⟨rfl, rfl⟩
end Go.Proofs.YtaooenndoopgdaaGreatDoor.lz
namespace Go.Proofs.YtaooenndoopgdaaGreatDoor.lz
open Go Go.Ev Go.Proofs Go.Proofs.YtaooenndoopgdaaGreatDoor.ar Go.Proofs.YtaooenndoopgdaaGreatDoor.tree Go.Proofs.YtaooenndoopgdaaGreatDoor.looks
theorem dead1_fn (m : Mem) (v : Value) (f : fo.Fml) (hf : fo.FmV m v f) : FnV Tryz.prog 26 [v] m (.bool (!f.isEmpty)) := by
 obtain ⟨A, n, c, rfl, hn, -⟩ := id hf
 refine Fn.enter (N := 6) hX Tryz.func26 rfl rfl (by show _ ≤ _; simp) (fun w0 hL => ?_)
 conv => whnf
 refine go ?_;try(clear hL;intro w hL)
 refine RetReq.bool hL ?_
 cases f with
 | nil => simp at hn; subst hn; rfl
 | cons p r => simp at hn; subst hn; simp
def leftZ (fs : List fo.Fml) : Int := match fs.findIdx? (fun f => !f.isEmpty) with
 | some i => i
 | none => -1
theorem indexD_fn (m : Mem) (v : Value) (fs : List fo.Fml) (hs : MnV m v fs) :
  FnV Tryz.prog 49 [v, .func (.func 26) #[] #[]] m (.int .i64 (leftZ fs)) := by
 obtain ⟨A1, n, c1, rfl, hn, hc, hm, -⟩ := id hs
 have hmx : maxLen = 9223372036854775807 := rfl
 refine Fn.enter (N := 19) hX Tryz.func49 rfl rfl (by show _ ≤ _; simp) (fun w0 hL => ?_)
 conv => whnf
 refine go ?_;try(clear hL;intro w hL)
 refine LoopReq.inv hX (fun j : Nat => [(8, .int .i64 j)]) [0, 1, 7]
  (fun j w => (j ≤ n ∧ ∀ x ∈ fs.take j, (!x.isEmpty) = false) ∧ Ev.Loc m [] w0 m [] w) (fun j => n - j) 0
  ⟨⟨by omega, by simp⟩, hL⟩ ⟨rfl, trivial⟩ ?_
 clear hL
 rintro j w e ⟨⟨hj, hdone⟩, hL⟩
 refine go ?_;try(clear hL;intro w hL)
 refine BrReq.dec (fun hlt => ?_) (fun hlt => ?_)
 ·have hjl : j < fs.length := by omega
  obtain ⟨a, cs, rfl, hl1, hcells, u, rfl, hu⟩ := hs.elem j _ (List.getElem?_eq_getElem hjl)
  have htk := List.take_succ_eq_append_getElem hjl
  have hget := List.getElem?_eq_getElem hjl
  generalize fs[j] = x at hu htk hget
  have hf := dead1_fn m u x hu
  have hc0 := hcells 0 _ rfl
  have addr0 : ∀ z : Addr, z.add 0 = z := fun z => by cases z; rfl
  rw [addr0] at hc0
  obtain ⟨Au, nu, cu, rfl, -⟩ := id hu
  conv => whnf
  repeat ((first | refine Idx2Req.mk j a rfl (by omega) rfl ?_ | refine LdReq.one hX rfl rfl hL hc0 ?_ | (refine go1 ?_;try(clear hL;intro w hL))); conv => whnf)
  refine CallReq.val hf hL ?_
  clear hL
  intro w hL
  cases hacc : (!x.isEmpty) with
  | true =>
    have hz : leftZ fs = j := by
     have : fs.findIdx? (fun f => !f.isEmpty) = some j := by
      rw [List.findIdx?_eq_some_iff_getElem]
      refine ⟨hjl, by rw [List.getElem?_eq_getElem hjl] at hget; rw [Option.some.inj hget]; exact hacc, fun k hk => ?_⟩
      have := hdone fs[k] (by rw [List.mem_take_iff_getElem]; exact ⟨k, by omega, rfl⟩)
      rw [this]; decide
     unfold leftZ; rw [this]
    rw [hz]
    refine go ?_;try(clear hL;intro w hL)
    exact RetReq.mk hL ⟨rfl, rfl⟩
  | false =>
    have hd2 := all_snoc htk hdone hacc
    refine go ?_;try(clear hL;intro w hL)
    exact rnd (j + 1) ⟨⟨by omega, hd2⟩, hL⟩
 ·have hjn : j = fs.length := by omega
  rw [hjn, List.take_length] at hdone
  have hz : leftZ fs = -1 := by
   have : fs.findIdx? (fun f => !f.isEmpty) = none := by rw [List.findIdx?_eq_none_iff]; exact hdone
   unfold leftZ; rw [this]
  rw [hz]
  refine go ?_;try(clear hL;intro w hL)
  exact RetReq.mk hL ⟨rfl, rfl⟩
theorem left_dead (fs : List fo.Fml) : decide (0 ≤ leftZ fs) = !deadB fs := by
 unfold leftZ
 cases h : fs.findIdx? (fun f => !f.isEmpty) with
 | none =>
   rw [List.findIdx?_eq_none_iff] at h
   have : deadB fs = true := List.all_eq_true.2 fun f hf => by simpa using h f hf
   rw [this]; rfl
 | some i =>
   rw [List.findIdx?_eq_some_iff_getElem] at h
   obtain ⟨hi, h1, -⟩ := h
   have : deadB fs = false := by
    rw [Bool.eq_false_iff]
    intro hc
    have := List.all_eq_true.1 hc _ (List.getElem_mem hi)
    rw [this] at h1; cases h1
   rw [this]
   exact decide_eq_true (Int.natCast_nonneg i)
theorem containsD_fn (m : Mem) (v : Value) (fs : List fo.Fml) (hs : MnV m v fs) :
  FnV Tryz.prog 25 [v, .func (.func 26) #[] #[]] m (.bool (!deadB fs)) := by
 have hi := indexD_fn m v fs hs
 obtain ⟨A1, n, c1, rfl, -⟩ := id hs
 refine Fn.enter (N := 9) hX Tryz.func25 rfl rfl (by show _ ≤ _; simp) (fun w0 hL => ?_)
 conv => whnf
 refine go ?_;try(clear hL;intro w hL)
 refine CallReq.val hi hL ?_
 clear hL
 intro w hL
 rw [← left_dead]
 refine go ?_;try(clear hL;intro w hL)
 exact RetReq.mk hL ⟨rfl, rfl⟩
def deadZ (x : St) (z : Int) : Bool := if 0 ≤ z ∧ z < x.l.length then deadB (mnAt x z) else false
theorem dead_fn (m : Mem) (lb : Nat) (s : Sp) (ls : List Re) (fs : List fo.Fml) (of : List Nat) (N : Nat) (x : St) (hI : Inv m s ls fs of N x) (hlv : x.lv.oneCell' = true) (z : Int) (hz : i64 z) :
  FnL Tryz.prog 10 [.pointer (some ⟨lb, 0, none⟩), .int .i64 z] m (x.own lb) (.bool (deadZ x z)) := by
 obtain ⟨A, n, c, hav, -⟩ := hI.ho.slice
 obtain ⟨A6, n6, c6, hbv, -⟩ := hI.hb.slice
 have hn : n = x.l.length := by have := hI.ho; rw [hav] at this; have := (tk_own this).1; have := hI.all.len; omega
 have hth := Ev.FnL.frame (L := x.own lb) (L2 := (x.kb, mapW (knW x.l 0)) :: (x.Lm ++ ((x.rb, mapB x.ck (rwW x.rows)) :: (x.Lb ++ (x.La ++ (rwB x.rows ++ x.Ll)))))) (there_fn m lb x.kb x.rb x.l.length (.pointer (some ⟨x.mb, 0, none⟩)) x.av x.bv x.lv ⟨A, c, by rw [hav, hn]⟩ rfl (by rw [hbv]; rfl) hlv x.room x.dn x.mu x.se x.made x.asked z hz) (List.Perm.refl _)
 refine Fn.enter (N := 19) hX Tryz.func10 rfl rfl (by show _ ≤ _; simp) (fun w0 hL => ?_)
 conv => whnf
 generalize hS0 : keys (x.own lb) = S0 at hL ⊢
 unfold deadZ
 by_cases h0 : 0 ≤ z ∧ z < x.l.length
 ·rw [decide_eq_true h0] at hth
  rw [if_pos h0]
  obtain ⟨k, rfl⟩ : ∃ k : Nat, z = k := ⟨z.toNat, by omega⟩
  have hk : k < x.l.length := by omega
  have hmn : mnAt x k = x.l.getD k [] := by unfold mnAt; rw [Int.toNat_natCast]
  rw [hmn]
  obtain ⟨g, cur, n1, c1, u, e1, e2, e3, e4, e5, e6⟩ := hI.at_ hk
  have hcf := containsD_fn m u _ e6
  obtain ⟨Au, nu, cu, rfl, -⟩ := id e6
  have hown : x.own lb = (lb, lzO (.pointer (some ⟨x.mb, 0, none⟩)) x.room x.kb (.slice (some ⟨g, 0, none⟩) n1 c1) x.bv x.rb x.dn x.mu x.se x.lv x.made x.asked) :: (x.kb, mapW (knW x.l 0)) :: (g, .cells (toArr cur) 84 (0, 0)) :: (x.rb, mapB x.ck (rwW x.rows)) :: (x.Lb ++ (x.La ++ (rwB x.rows ++ x.Ll))) := by
   unfold St.own St.ob; rw [e1, e4]; rfl
  refine go ?_;try(clear hL;intro w hL)
  refine CallReq.lo hth hL ?_
  clear hL
  intro w hL
  rw [hown] at hL ⊢
  conv => whnf
  repeat ((first | refine Idx2Req.mk k ⟨g, 0, none⟩ rfl (by omega) rfl ?_ | (refine LdReq.ownC hX rfl rfl hL (.t (.t .h)) (by rw [scale_eq, Nat.mul_one, Nat.zero_add]; exact e5) ?_) | (refine go1 ?_;try(clear hL;intro w hL))); conv => whnf)
  refine CallReq.val hcf hL ?_
  clear hL
  intro w hL
  refine go ?_;try(clear hL;intro w hL)
  refine RetReq.mk hL ⟨rfl, rfl, ?_⟩
  cases deadB (x.l.getD k []) <;> rfl
 ·rw [decide_eq_false h0] at hth
  rw [if_neg h0]
  refine go ?_;try(clear hL;intro w hL)
  refine CallReq.lo hth hL ?_
  clear hL
  intro w hL
  refine go ?_;try(clear hL;intro w hL)
  exact RetReq.mk hL ⟨rfl, rfl, rfl⟩
theorem stepOut_fn (m : Mem) (lb b bits : Nat) (s : Sp) (ls : List Re) (fs : List fo.Fml) (of : List Nat) (N : Nat) (x : St) (hI : Inv m s ls fs of N x) (hlv : x.lv.oneCell' = true) (z : Int) (hz : i64 z) (h0 : ¬ (0 ≤ z ∧ z < x.l.length)) :
  FnL Tryz.prog 11 [.pointer (some ⟨lb, 0, none⟩), .int .i64 z, .int .u8 b, .int .u8 bits] m (x.own lb) (.tuple (toArr [.int .i64 0, .int .i64 1])) := by
 obtain ⟨A, n, c, hav, -⟩ := hI.ho.slice
 obtain ⟨A6, n6, c6, hbv, -⟩ := hI.hb.slice
 have hn : n = x.l.length := by have := hI.ho; rw [hav] at this; have := (tk_own this).1; have := hI.all.len; omega
 have hth := Ev.FnL.frame (L := x.own lb) (L2 := (x.kb, mapW (knW x.l 0)) :: (x.Lm ++ ((x.rb, mapB x.ck (rwW x.rows)) :: (x.Lb ++ (x.La ++ (rwB x.rows ++ x.Ll)))))) (there_fn m lb x.kb x.rb x.l.length (.pointer (some ⟨x.mb, 0, none⟩)) x.av x.bv x.lv ⟨A, c, by rw [hav, hn]⟩ rfl (by rw [hbv]; rfl) hlv x.room x.dn x.mu x.se x.made x.asked z hz) (List.Perm.refl _)
 rw [decide_eq_false h0] at hth
 refine Fn.enter (N := 97) hX Tryz.func11 rfl rfl (by show _ ≤ _; simp) (fun w0 hL => ?_)
 conv => whnf
 generalize hS0 : keys (x.own lb) = S0 at hL ⊢
 refine go ?_;try(clear hL;intro w hL)
 refine CallReq.lo hth hL ?_
 clear hL
 intro w hL
 refine go ?_;try(clear hL;intro w hL)
 exact RetReq.mk hL ⟨rfl, rfl, rfl⟩
end Go.Proofs.YtaooenndoopgdaaGreatDoor.lz
namespace Go.Ev
open Go
section
variable {P : Program} {X : Tab} {N : Nat} {m0 m : Mem} {S : List Nat} {w0 w : World} {L : Own}
theorem mem_entW {l : List (Value × Value)} {b : Nat} {e : MapEntry} (h : e ∈ entW b l) : ∃ (q : Nat) (x : Value × Value), l[q]? = some x ∧ e = ⟨x.1, x.2, b + q⟩ := by
 obtain ⟨q, hq⟩ := List.getElem?_of_mem h
 rw [entW_get] at hq
 cases hx : l[q]? with
 | none => rw [hx] at hq; cases hq
 | some x => rw [hx] at hq; simp at hq; exact ⟨q, x, hx, hq.symm⟩
theorem born_entW : ∀ (l : List (Value × Value)) (b : Nat), ((entW b l).map (·.born)).Nodup ∧ ∀ x ∈ (entW b l).map (·.born), b ≤ x
 | [], _ => ⟨by simp [entW], by simp [entW]⟩
 | x :: l, b => by
   obtain ⟨h1, h2⟩ := born_entW l (b + 1)
   refine ⟨?_, ?_⟩
   ·simp only [entW, List.map_cons, List.nodup_cons]; exact ⟨fun hc => by have := h2 _ hc; omega, h1⟩
   ·intro y hy
    simp only [entW, List.map_cons, List.mem_cons] at hy
    rcases hy with rfl | hy
    ·exact Nat.le_refl _
    ·have := h2 y hy; omega
theorem RunReq.rangeB (hX : TabsOk P X) {t kt vt r bb : Nat} {ti : TI} {l : List (Value × Value)} {K : Value → World → Prop} (ht : look X.T t = some (some ti)) (hd : ti.d = .map kt vt)
  (i : Nat) (hL : Loc m0 S w0 m L w) (hi : look L i = some (r, mapB bb l))
  (h : ∀ b w', Loc m0 S w0 m ((b, .mapIter (some r) (bb + l.length) #[] (bb + l.length)) :: L) w' → K (.pointer (some ⟨b, 0, none⟩)) w') : RunReq P (Instr.range t (.map (some r))) w K := by
 have hu := td_map (hX.t _ _ ht) hd
 have hb : w.heap[r]? = some (.map (entW bb l).toArray (bb + l.length)) := hL.own _ (List.mem_of_getElem? (by rw [← look_eq]; exact hi))
 refine ⟨_, _, ?_, h w.heap.size (w.alloc _) (hL.alloc _)⟩
 simp [Instr.range, run_underlying hu, rgm hb, Result.andThen]
theorem RunReq.nextB {r bm n bb : Nat} {seen : Array Nat} {l : List (Value × Value)} {ty : TypeId} {K : Value → World → Prop} (i j : Nat) (hL : Loc m0 S w0 m L w)
  (hi : look L i = some (r, .mapIter (some bm) n seen n)) (hj : look L j = some (bm, mapB bb l)) (hn : n = bb + l.length)
  (h0 : (∀ q, q < l.length → bb + q ∈ seen.toList) → K (.tuple (toArr [.bool false])) w)
  (h1 : ∀ (q : Nat) (x : Value × Value) w', l[q]? = some x → bb + q ∉ seen.toList → Loc m0 S w0 m (L.set i (r, .mapIter (some bm) n (seen.push (bb + q)) n)) w' → K (.tuple (toArr [.bool true, x.1, x.2])) w') :
  RunReq P (Instr.next (.pointer (some ⟨r, 0, none⟩)) false ty) w K := by
 have hr : w.heap[r]? = some (.mapIter (some bm) n seen n) := hL.own _ (List.mem_of_getElem? (by rw [← look_eq]; exact hi))
 have hb : w.heap[bm]? = some (.map (entW bb l).toArray (bb + l.length)) := hL.own _ (List.mem_of_getElem? (by rw [← look_eq]; exact hj))
 subst hn
 have hold : ∀ x ∈ (entW bb l).toArray.toList, x.born < bb + l.length := by
  intro x hx
  obtain ⟨q, y, hq, rfl⟩ := mem_entW (by simpa using hx)
  have := (List.getElem?_eq_some_iff.1 hq).1
  show bb + q < bb + l.length
  omega
 rcases run_next_at (P := P) w ty r bm (bb + l.length) (bb + l.length) seen (entW bb l).toArray (bb + l.length) hr hb hold (Nat.le_refl _) with ⟨hs, hrun⟩ | ⟨e, he, w1, hw1, hrun⟩
 ·refine ⟨_, _, hrun, h0 fun q hq => ?_⟩
  refine Classical.byContradiction fun hc => ?_
  have hmem : (⟨(l[q]).1, (l[q]).2, bb + q⟩ : MapEntry) ∈ leftOf (entW bb l).toArray seen := by
   unfold leftOf
   rw [Array.mem_filter]
   refine ⟨?_, by simpa using hc⟩
   have : (entW bb l)[q]? = some ⟨(l[q]).1, (l[q]).2, bb + q⟩ := by rw [entW_get, List.getElem?_eq_getElem hq]; rfl
   simpa using List.mem_of_getElem? this
  have := Array.size_pos_of_mem hmem
  omega
 ·have he' : e ∈ entW bb l ∧ e.born ∉ seen.toList := by
   unfold leftOf at he
   have := Array.mem_filter.1 (Array.mem_toList_iff.1 he)
   exact ⟨by simpa using this.1, by simpa using this.2⟩
  obtain ⟨q, x, hq, rfl⟩ := mem_entW he'.1
  have hL1 : Loc m0 S w0 m L w1 := by rcases hw1 with rfl | rfl
                                      ·exact hL
                                      ·exact hL.drew
  exact ⟨_, _, hrun, h1 q x _ hq he'.2 (hL1.setObj (o' := .mapIter (some bm) (bb + l.length) (seen.push (bb + q)) (bb + l.length)) hi)⟩
theorem GenReq.entryB {o : Oper} {ρ : Operand → Value} {x : Operand} {r bm n q bb : Nat} {seen : Array Nat} {l : List (Value × Value)} {y : Value × Value} {K : Value → World → Prop} (ho : o.op = .entry x) (hx : ρ x = .pointer (some ⟨r, 0, none⟩))
  (i j : Nat) (hL : Loc m0 S w0 m L w) (hi : look L i = some (r, .mapIter (some bm) n (seen.push (bb + q)) n)) (hj : look L j = some (bm, mapB bb l)) (hn : n = bb + l.length) (hy : l[q]? = some y)
  (h : K (.tuple (toArr [y.1, y.2])) w) : GenReq P o ρ w K := by
 have hr : w.heap[r]? = some (.mapIter (some bm) n (seen.push (bb + q)) n) := hL.own _ (List.mem_of_getElem? (by rw [← look_eq]; exact hi))
 have hb : w.heap[bm]? = some (.map (entW bb l).toArray (bb + l.length)) := hL.own _ (List.mem_of_getElem? (by rw [← look_eq]; exact hj))
 subst hn
 have he : (⟨y.1, y.2, bb + q⟩ : MapEntry) ∈ (entW bb l).toArray.toList := by
  have : (entW bb l)[q]? = some ⟨y.1, y.2, bb + q⟩ := by rw [entW_get, hy]; rfl
  simpa using List.mem_of_getElem? this
 have hrun := run_entry_at (P := P) w r bm (bb + l.length) seen (entW bb l).toArray (bb + l.length) ⟨y.1, y.2, bb + q⟩ hr hb he (by simpa using (born_entW l bb).1)
 constructor
 unfold OpOk
 simp only [execOp, ho, hx, Sem.run_bind, hrun, Result.andThen_ok, Sem.run_pure, upon]
 exact h
theorem LdReq.mem (hX : TabsOk P X) {t : Nat} {ti : TI} (ht : look X.T t = some (some ti)) (hd : ti.d.isAgg = false) {b j te : Nat} {cs : List Value} {fz : Nat × Nat} {v : Value} {K : Value → Prop}
  (hL : Loc m0 S w0 m L w) (hm : (b, Obj.cells (toArr cs) te fz) ∈ L) (hv : cs[j]? = some v) (h : K v) : LdReq P t w ((⟨b, 0, none⟩ : Addr).add j) K := by
 refine ⟨⟨v, run_loadVar_one (hX.t _ _ ht) hd ?_, h⟩⟩
 rw [addr_add, Nat.zero_add, hL.ownCell hm]
 simpa [toArr] using hv
end
end Go.Ev
namespace Go.Proofs.YtaooenndoopgdaaGreatDoor.lz
open Go Go.Ev Go.Proofs Go.Proofs.YtaooenndoopgdaaGreatDoor.ar Go.Proofs.YtaooenndoopgdaaGreatDoor.tree Go.Proofs.YtaooenndoopgdaaGreatDoor.looks
def posN (es : List Int) : Nat := es.countP fun e => decide (0 ≤ e)
theorem posN_take {es : List Int} {i : Nat} (h : i < es.length) : posN (es.take (i + 1)) = posN (es.take i) + (if 0 ≤ es[i] then 1 else 0) := by
 rw [List.take_succ_eq_append_getElem h]
 unfold posN
 rw [List.countP_append]
 congr 1
 simp [List.countP_cons]
theorem posN_le (es : List Int) : posN es ≤ es.length := List.countP_le_length
theorem posN_pos {es : List Int} {k : Nat} {e : Int} (h : es[k]? = some e) (h0 : 0 ≤ e) : 1 ≤ posN es := List.countP_pos_iff.2 ⟨e, List.mem_of_getElem? h, by simpa using h0⟩
def leftN (b n : Nat) (seen : List Nat) : Nat := ((List.range n).filter fun q => decide (b + q ∉ seen)).length
theorem leftN_lt {b n q : Nat} {seen : List Nat} (hq : q < n) (hs : b + q ∉ seen) : leftN b n (seen ++ [b + q]) < leftN b n seen := by
 have h1 : (List.range n).filter (fun p => decide (b + p ∉ seen ++ [b + q])) = ((List.range n).filter fun p => decide (b + p ∉ seen)).filter fun p => decide (p ≠ q) := by
  rw [List.filter_filter]
  congr 1
  funext p
  simp [not_or, Bool.and_comm]
 unfold leftN
 rw [h1]
 exact List.length_filter_lt_length_iff_exists.2 ⟨q, List.mem_filter.2 ⟨List.mem_range.2 hq, by simpa using hs⟩, by simp⟩
theorem leftN_le (b n : Nat) (seen : List Nat) : leftN b n seen ≤ n := by
 unfold leftN
 have := List.length_filter_le (fun q => decide (b + q ∉ seen)) (List.range n)
 rwa [List.length_range] at this
theorem made_fn (m : Mem) (lb : Nat) (x : St) (hav : x.av.oneCell' = true) (hbv : x.bv.oneCell' = true) (hlv : x.lv.oneCell' = true) : FnL Tryz.prog 13 [.pointer (some ⟨lb, 0, none⟩)] m (x.own lb) (.int .i64 x.made) := by
 have hl := Ev.FnL.frame (L := x.own lb) (L2 := (x.kb, mapW (knW x.l 0)) :: (x.Lm ++ ((x.rb, mapB x.ck (rwW x.rows)) :: (x.Lb ++ (x.La ++ (rwB x.rows ++ x.Ll)))))) (load64_fn m lb 10 81 [.pointer (some ⟨x.mb, 0, none⟩), .int .i64 x.room, .map (some x.kb), x.av, x.bv, .map (some x.rb), .int .u32 x.dn, .int .i32 x.mu, .int .u32 x.se, x.lv, .int .i64 x.made, .int .i64 x.asked] x.made rfl) (List.Perm.refl _)
 refine Fn.enter (N := 9) hX Tryz.func13 rfl rfl (by show _ ≤ _; simp) (fun w0 hL => ?_)
 conv => whnf
 generalize keys (x.own lb) = S0 at hL ⊢
 conv => whnf
 repeat ((first | refine UGenReq.nilPtr hX rfl rfl rfl rfl rfl ?_ | (refine go1 ?_;try(clear hL;intro w hL))); conv => whnf)
 refine CallReq.lo hl hL ?_
 clear hL
 intro w hL
 refine go ?_;try(clear hL;intro w hL)
 exact RetReq.mk hL ⟨rfl, rfl, rfl⟩
set_option maxHeartbeats 1000000 in
theorem kept_fn (m : Mem) (lb W n0 : Nat) (x : St) (hav : x.av.oneCell' = true) (hbv : x.bv.oneCell' = true) (hlv : x.lv.oneCell' = true) (hR : RwI x.room W n0 x.rows) (hr : x.room ≤ 2000) (hW : W ≤ 4096) :
  Ev.Fn Tryz.prog 14 [.pointer (some ⟨lb, 0, none⟩)] m (x.own lb) fun m' L' u => m' = m ∧ L' = x.own lb ∧ ∃ n : Nat, u = .int .i64 n ∧ n ≤ x.rows.length * W ∧ ∀ z k e, HasE x.rows z k e → 0 ≤ e → 1 ≤ n := by
 have hlen := hR.len
 have hrl : x.rows.length * W ≤ 2000 * 4096 := Nat.mul_le_mul (by omega) hW
 have hmx : maxLen = 9223372036854775807 := rfl
 have elen : (rwW x.rows).length = x.rows.length := List.length_map ..
 refine Fn.enter (N := 32) hX Tryz.func14 rfl rfl (by show _ ≤ _; simp) (fun w0 hL => ?_)
 conv => whnf
 generalize keys (x.own lb) = S0 at hL ⊢
 replace hL := hL.perm (own_rb lb x)
 conv => whnf
 repeat ((first | refine UGenReq.nilPtr hX rfl rfl rfl rfl rfl ?_ | (refine go1 ?_;try(clear hL;intro w hL))); conv => whnf)
 refine RunReq.rangeB hX rfl rfl 1 hL rfl ?_
 clear hL
 intro it w hL
 rw [elen] at hL
 refine go ?_;try(clear hL;intro w hL)
 refine LoopReq.inv hX (fun s : Array Nat × Nat => [(3, .int .i64 s.2)]) [15]
  (fun s w => (s.2 + leftN x.ck x.rows.length s.1.toList * W ≤ x.rows.length * W ∧ ∀ (q : Nat) (r : Int × Nat × List Int) (k : Nat) (e : Int), x.rows[q]? = some r → x.ck + q ∈ s.1.toList → r.2.2[k]? = some e → 0 ≤ e → 1 ≤ s.2) ∧ Ev.Loc m S0 w0 m ((it, .mapIter (some x.rb) (x.ck + x.rows.length) s.1 (x.ck + x.rows.length)) :: (lb, x.ob) :: (x.rb, mapB x.ck (rwW x.rows)) :: (rwB x.rows ++ x.rest)) w) (fun s => leftN x.ck x.rows.length s.1.toList) (#[], 0)
  ⟨⟨by simp only [Nat.zero_add]; exact Nat.mul_le_mul_right W (leftN_le _ _ _), by simp⟩, hL⟩ ⟨rfl, trivial⟩ ?_
 clear hL
 rintro ⟨seen, n⟩ w f ⟨⟨hn, hall⟩, hL⟩
 dsimp only at hn hall hL ⊢
 refine go ?_;try(clear hL;intro w hL)
 refine RunReq.nextB 0 2 hL rfl rfl (by rw [elen]) (fun hend => ?_) (fun q y w hq hns hL => ?_)
 ·refine go ?_;try(clear hL;intro w hL)
  refine RetReq.mk (hL.drop.perm (own_rb lb x).symm) ⟨rfl, rfl, n, rfl, by omega, ?_⟩
  rintro z k e ⟨g, es, hm, hk⟩ h0
  obtain ⟨q, hq⟩ := List.getElem?_of_mem hm
  exact hall q _ k e hq (hend q (by rw [elen]; exact (List.getElem?_eq_some_iff.1 hq).1)) hk h0
 ·have hqr : q < x.rows.length := by have := (List.getElem?_eq_some_iff.1 hq).1; rw [elen] at this; exact this
  have hrq := List.getElem?_eq_getElem hqr
  have hwid := hR.wid _ (List.getElem_mem hqr)
  have hmemB : ((x.rows[q]).2.1, Obj.cells (toArr (ints (x.rows[q]).2.2)) 3 (0, 0)) ∈ rwB x.rows := List.mem_map.2 ⟨_, List.getElem_mem hqr, rfl⟩
  have hy : y = (.int .i64 (x.rows[q]).1, .slice (some ⟨(x.rows[q]).2.1, 0, none⟩) (x.rows[q]).2.2.length (x.rows[q]).2.2.length) := by
   unfold rwW at hq
   rw [List.getElem?_map, hrq] at hq
   exact (Option.some.inj hq).symm
  generalize x.rows[q] = r at hrq hwid hmemB hy
  obtain ⟨z, g, es⟩ := r
  dsimp only at hwid hmemB hy
  subst hy
  have hpush : (seen.push (x.ck + q)).toList = seen.toList ++ [x.ck + q] := by simp
  have hun := leftN_lt hqr hns
  rw [← hpush] at hun
  have hwl : leftN x.ck x.rows.length (seen.push (x.ck + q)).toList * W + W ≤ leftN x.ck x.rows.length seen.toList * W := by
   rw [← Nat.succ_mul]; exact Nat.mul_le_mul_right W hun
  refine go ?_;try(clear hL;intro w hL)
  refine GenReq.entryB rfl rfl 0 2 hL rfl rfl (by rw [elen]) hq ?_
  refine go ?_;try(clear hL;intro w hL)
  refine LoopReq.inv hX (fun s : Nat × Nat => [(3, .int .i64 s.2), (22, .int .i64 s.1)]) [15, 20, 21]
   (fun s w => (s.1 ≤ es.length ∧ s.2 = n + posN (es.take s.1)) ∧ Ev.Loc m S0 w0 m ((it, .mapIter (some x.rb) (x.ck + x.rows.length) (seen.push (x.ck + q)) (x.ck + x.rows.length)) :: (lb, x.ob) :: (x.rb, mapB x.ck (rwW x.rows)) :: (rwB x.rows ++ x.rest)) w) (fun s => es.length - s.1) (0, n)
   ⟨⟨Nat.zero_le _, rfl⟩, hL⟩ ⟨rfl, rfl, trivial⟩ ?_
  clear hL
  rintro ⟨i, c⟩ w f ⟨⟨hi, hc⟩, hL⟩
  dsimp only at hi hc hL ⊢
  have hpos := posN_le (es.take i)
  rw [List.length_take] at hpos
  refine go ?_;try(clear hL;intro w hL)
  refine BrReq.dec (fun hlt => ?_) (fun hlt => ?_)
  ·have hil : i < es.length := by omega
   have hei : (ints es)[i]? = some (.int .i64 es[i]) := by unfold ints; rw [List.getElem?_map, List.getElem?_eq_getElem hil]; rfl
   have hpt := posN_take hil
   conv => whnf
   repeat ((first | refine Idx2Req.mk i ⟨g, 0, none⟩ rfl hil rfl ?_ | (refine LdReq.mem hX rfl rfl hL (List.mem_cons_of_mem _ (List.mem_cons_of_mem _ (List.mem_cons_of_mem _ (List.mem_append_left _ hmemB)))) (by rw [scale_eq, Nat.mul_one]; exact hei) ?_) | (refine go1 ?_;try(clear hL;intro w hL))); conv => whnf)
   refine BrReq.dec (fun h0 => ?_) (fun h0 => ?_)
   ·rw [if_pos h0] at hpt
    refine go ?_;try(clear hL;intro w hL)
    exact rnd (i + 1, c + 1) ⟨⟨by simp only; omega, by simp only; omega⟩, hL⟩
   ·rw [if_neg h0] at hpt
    refine go ?_;try(clear hL;intro w hL)
    exact rnd (i + 1, c) ⟨⟨by simp only; omega, by simp only; omega⟩, hL⟩
  ·obtain rfl : i = es.length := by omega
   rw [List.take_length] at hc
   have hpl := posN_le es
   have hall2 : ∀ (q' : Nat) (r : Int × Nat × List Int) (k : Nat) (e : Int), x.rows[q']? = some r → x.ck + q' ∈ (seen.push (x.ck + q)).toList → r.2.2[k]? = some e → 0 ≤ e → 1 ≤ c := fun q' r' k' e' hr' hm' hk' h0' => by
    rw [hpush, List.mem_append, List.mem_singleton] at hm'
    rcases hm' with hm' | hm'
    ·have := hall q' r' k' e' hr' hm' hk' h0'; omega
    ·obtain rfl : q' = q := by omega
     rw [hrq] at hr'
     cases hr'
     have : 1 ≤ posN es := posN_pos hk' h0'
     omega
   refine go ?_;try(clear hL;intro w hL)
   exact rnd (seen.push (x.ck + q), c) ⟨⟨by simp only; omega, hall2⟩, hL⟩
end Go.Proofs.YtaooenndoopgdaaGreatDoor.lz
namespace Go.Proofs.YtaooenndoopgdaaGreatDoor.lz
open Go Go.Ev Go.Proofs Go.Proofs.YtaooenndoopgdaaGreatDoor.tree Go.Proofs.YtaooenndoopgdaaGreatDoor.looks Go.Proofs.YtaooenndoopgdaaGreatDoor.bd
theorem strs_of {m : Mem} (n : Nat) (cs : List Value) (h : Rdf X m n 9 cs) : ∃ s, isS cs s := by
 obtain ⟨s, rfl, -⟩ := rdf_str rfl rfl h
 exact ⟨s.data.toList, rfl⟩
theorem rule_of {m : Mem} (n : Nat) (cs : List Value) (h : Rdf X m n 55 cs) : ∃ x, ruV m cs x := by
 obtain ⟨hl, n', hn', hf⟩ := rdf_structL (ti := ⟨.struct [(0, 53), (1, 52), (10, 3), (11, 3)], 12, 128, [.slice none 0 0, .int .i64 0, .int .u64 0, .int .u64 0, .int .u64 0, .int .u64 0, .slice none 0 0, .int .i64 0, .int .i64 0, .bool false, .int .i64 0, .int .i64 0]⟩) rfl rfl h
 match cs, hl with
 | [x0, x1, x2, x3, x4, x5, x6, x7, x8, x9, x10, x11], _ =>
   obtain ⟨v0, l0, e0, hs0, -⟩ := rdf_slice' (α := Int) (R := isI .i64) rfl rfl rfl (fun n' cs _ hr => by
    obtain ⟨z, e, -⟩ := rdf_int (k := .i64) rfl rfl hr
    exact ⟨z, e⟩) (hf 0 _ _ rfl rfl)
   obtain ⟨r, hr⟩ := re_of n' [x1, x2, x3, x4, x5, x6, x7, x8, x9] (hf 1 _ _ rfl rfl)
   obtain ⟨a, e10, -⟩ := rdf_int (k := .i64) rfl rfl (hf 2 _ _ rfl rfl)
   obtain ⟨t, e11, -⟩ := rdf_int (k := .i64) rfl rfl (hf 3 _ _ rfl rfl)
   have e0 : [x0] = [v0] := e0
   have e10 : [x10] = [Value.int .i64 a] := e10
   have e11 : [x11] = [Value.int .i64 t] := e11
   cases e0; cases e10; cases e11
   obtain ⟨A1, n1, c1, rfl, -⟩ := id hs0
   obtain ⟨k, s0, s1, s2, s3, rs, lo, hi, neg⟩ := r
   obtain ⟨A, n2, c, e, -⟩ := hr.open
   rw [e] at hr
   injection e with i1 e; injection e with i2 e; injection e with i3 e; injection e with i4 e; injection e with i5 e; injection e with i6 e; injection e with i7 e; injection e with i8 e; injection e with i9 e
   subst i1 i2 i3 i4 i5 i6 i7 i8 i9
   exact ⟨⟨l0, .mk k s0 s1 s2 s3 rs lo hi neg, a, t⟩, A1, n1, c1, k, s0, s1, s2, s3, A, n2, c, lo, hi, neg, rfl, hs0, hr⟩
theorem sp_of {m : Mem} {v : Value} (h : Given X m 25 v) : ∃ cs s, v = .agg (toArr cs) ∧ spV m cs s := by
 obtain ⟨⟨cs, rfl⟩, n, h⟩ := h
 have h : Rdf X m n 25 cs := h
 obtain ⟨hl, n', hn', hf⟩ := rdf_structL (ti := ⟨.struct [(0, 22), (1, 23)], 2, 48, [.slice none 0 0, .slice none 0 0]⟩) rfl rfl h
 match cs, hl with
 | [x0, x1], _ =>
   obtain ⟨v0, l0, e0, hs0, -⟩ := rdf_slice' (α := List UInt8) (R := isS) rfl rfl rfl (fun n' cs _ hr => strs_of n' cs hr) (hf 0 _ _ rfl rfl)
   obtain ⟨v1, l1, e1, hs1, -⟩ := rdf_slice' (α := Rl) (R := ruV m) rfl rfl rfl (fun n' cs _ hr => rule_of n' cs hr) (hf 1 _ _ rfl rfl)
   have e0 : [x0] = [v0] := e0
   have e1 : [x1] = [v1] := e1
   cases e0; cases e1
   obtain ⟨A, n, c, rfl, -⟩ := id hs0
   obtain ⟨A', n', c', rfl, -⟩ := id hs1
   exact ⟨_, ⟨l0, l1⟩, rfl, A, n, c, A', n', c', rfl, hs0, hs1⟩
theorem loopC_sum {f : Re → Nat} : ∀ (l : List Re) (n : Nat), loopC f l n ≤ 2000 → loopC f l n = n + (l.map f).sum := by
 intro l
 induction l with
 | nil => intro n _; simp [loopC]
 | cons p l ih =>
   intro n h
   simp only [loopC] at h ⊢
   split at h
   ·omega
   ·rename_i h2
    rw [if_neg h2, ih _ h]; simp [Nat.add_assoc]
theorem nodes_le : ∀ (k : Nat) (r : Re), cR k r ≤ 2000 → nodesR r ≤ cR k r := by
 intro k
 induction k with
 | zero => intro r h; simp [cR] at h
 | succ k ih =>
   intro r h
   obtain ⟨kd, s0, s1, s2, s3, rs, lo, hi, neg⟩ := r
   simp only [cR, Re.parts] at h ⊢
   obtain ⟨_, hs⟩ := loopC_small (cR_pos k) _ _ h
   rw [loopC_sum _ _ h]
   have : ∀ l : List Re, (∀ p ∈ l, cR k p ≤ 2000) → nodesL l ≤ (l.map (cR k)).sum := by
    intro l
    induction l with
    | nil => intro _; simp [nodesL]
    | cons p l ihl =>
      intro hl
      have h1 := ih p (hl p (by simp))
      have h2 := ihl fun q hq => hl q (by simp [hq])
      simp only [nodesL, List.map_cons, List.sum_cons]; omega
   have := this rs hs
   simp only [nodesR]; omega
theorem nodesL_le (l : List Re) (h : ∀ p ∈ l, cR 60 p ≤ 2000) : nodesL l ≤ l.length * 2000 := by
 induction l with
 | nil => simp [nodesL]
 | cons p l ih =>
   have h1 := nodes_le 60 p (h p (by simp))
   have h2 := h p (by simp)
   have h3 := ih fun q hq => h q (by simp [hq])
   simp only [nodesL, List.length_cons]; omega
theorem few_nodes {s : Sp} (h : FewS s) : nodesL (s.rules.map fun x => x.re) ≤ 1000000 := by
 have h1 := nodesL_le (s.rules.map fun x => x.re) fun p hp => by
  obtain ⟨x, hx, rfl⟩ := List.mem_map.1 hp
  exact (h.res x hx).2
 rw [List.length_map] at h1
 have := h.rules
 omega
end Go.Proofs.YtaooenndoopgdaaGreatDoor.lz
namespace Go.Proofs.YtaooenndoopgdaaGreatDoor.lz
open Go Go.Ev Go.Proofs Go.Proofs.YtaooenndoopgdaaGreatDoor.ar Go.Proofs.YtaooenndoopgdaaGreatDoor.tree Go.Proofs.YtaooenndoopgdaaGreatDoor.looks
theorem Inv.le {m m' : Mem} {s : Sp} {ls : List Re} {fs : List fo.Fml} {of : List Nat} {N : Nat} {x : St} (hI : Inv m s ls fs of N x) (h : Mem.Le m m') : Inv m' s ls fs of N x :=
 ⟨hI.mkr.le h, hI.fb, hI.ok, hI.ar, hI.ho, hI.all.le h (Nat.le_refl _), hI.hb, hI.n, hI.bgs⟩
def B8 (m : Mem) (v : Value) (l : List Int) : Prop := SlI m .u8 v l ∧ l.length ≤ 140737488351232 ∧ ∀ z ∈ l, 0 ≤ z ∧ z ≤ 255
theorem ints_one (l : List Int) : ∀ u ∈ Ev.ints .u8 l, u.oneCell' = true := fun u hu => by
 obtain ⟨z, -, rfl⟩ := List.mem_map.1 hu; rfl
end Go.Proofs.YtaooenndoopgdaaGreatDoor.lz
namespace Go.Proofs.YtaooenndoopgdaaGreatDoor.lz
open Go Go.Ev Go.Proofs Go.Proofs.YtaooenndoopgdaaGreatDoor.ar Go.Proofs.YtaooenndoopgdaaGreatDoor.tree Go.Proofs.YtaooenndoopgdaaGreatDoor.looks
theorem gone_inv {m : Mem} {s : Sp} {ls : List Re} {fs : List fo.Fml} {of : List Nat} {N : Nat} {x : St} (h : Inv m s ls fs of N x) : Inv m s ls fs of N x.gone := ⟨h.mkr, h.fb, h.ok, h.ar, h.ho, h.all, h.hb, h.n, h.bgs⟩
theorem gone_ri {k N : Nat} {x : St} (h : RI k N x) : RI k N x.gone := ⟨RwI.nil _ (by have := h.r2; show 0 ≤ x.room; omega) _ _, h.onc, fun r hr => (by cases hr), h.r2, h.r3⟩
theorem Inv.one {m : Mem} {s : Sp} {ls : List Re} {fs : List fo.Fml} {of : List Nat} {N : Nat} {x : St} (h : Inv m s ls fs of N x) : x.av.oneCell' = true ∧ x.bv.oneCell' = true := by
 obtain ⟨A, n, c, hav, -⟩ := h.ho.slice
 obtain ⟨A2, n2, c2, hbv, -⟩ := h.hb.slice
 exact ⟨by rw [hav]; rfl, by rw [hbv]; rfl⟩
set_option maxHeartbeats 4000000 in
theorem keeps_law (m : Mem) (hQ : fk.TabMem m) (hB : BitMem m) (cs : List Value) (s : Sp) (hs : spV m cs s) (room : Int) (hi : i64 room) (v : Value) (lw : List Int) (hw : B8 m v lw) :
  Fn0 Tryz.prog 4 [.agg (toArr cs), .int .i64 room, v] m fun _ u => u = .bool true := by
 have hb1 := hw.2.1
 obtain ⟨A1, n1, c1, rfl, hn1, hc1, hcm1, -⟩ := id hw.1
 obtain ⟨A3, n3, c3, A4, n4, c4, rfl, h1, h2⟩ := id hs
 have hmx : maxLen = 9223372036854775807 := rfl
 refine Fn.enter (N := 144) hX Tryz.func4 rfl rfl (by show _ ≤ _; simp) (fun w0 hL => ?_)
 conv => whnf
 refine NewReq.mk hL ?_
 clear hL
 intro b3 w hL
 conv => whnf
 replace hL : Ev.Loc m [] w0 m [(b3, .cells (toArr [.slice A3 n3 c3, .slice A4 n4 c4]) 25 (0, 0))] w := hL
 have hle := hL.le_add
 replace hL := hL.freeze
 have hc3 : Cells (m.add b3 (.cells (toArr [.slice A3 n3 c3, .slice A4 n4 c4]) 25 (0, 0))) ⟨b3, 0, none⟩ [.slice A3 n3 c3, .slice A4 n4 c4] := cells_add0 _
 generalize m.add b3 _ = m3 at hL hle hc3
 have hQ3 := hQ.le hle
 refine go ?_;try(clear hL;intro w hL)
 refine CallReq.pure (awake_fn m3 hQ3) hL ?_
 clear hL
 rintro u m4 w hL hm4 rfl
 have hs4 : spV m4 [.slice A3 n3 c3, .slice A4 n4 c4] s := hs.le (hle.trans hm4)
 conv => whnf
 repeat ((first | refine LdReq.agg hX rfl rfl hL rfl (hc3.le hm4) ?_ | (refine go1 ?_;try(clear hL;intro w hL))); conv => whnf)
 refine CallReq.pure (Few_fn m4 _ s hs4) hL ?_
 clear hL
 rintro u m5 w hL hm5 ⟨b, rfl, hb⟩
 have hm35 := hm4.trans hm5
 cases b with
 | false =>
   refine go ?_;try(clear hL;intro w hL)
   refine CallReq.pure (awake_fn m5 (hQ3.le hm35)) hL ?_
   clear hL
   rintro u m6 w hL hm6 rfl
   refine go ?_;try(clear hL;intro w hL)
   exact RetReq.mk (hL.sublist (List.nil_sublist _)) ⟨rfl, rfl⟩
 | true =>
 have hF := hb rfl
 by_cases h30 : (30 : Int) < (n1 : Int)
 ·conv => whnf
  repeat ((first | refine BrReq.yes h30 ?_ | (refine go1 ?_;try(clear hL;intro w hL))); conv => whnf)
  refine CallReq.pure (awake_fn m5 (hQ3.le hm35)) hL ?_
  clear hL
  rintro u m6 w hL hm6 rfl
  refine go ?_;try(clear hL;intro w hL)
  exact RetReq.mk (hL.sublist (List.nil_sublist _)) ⟨rfl, rfl⟩
 conv => whnf
 repeat ((first | refine BrReq.no h30 ?_ | refine LdReq.agg hX rfl rfl hL rfl (hc3.le hm35) ?_ | (refine go1 ?_;try(clear hL;intro w hL))); conv => whnf)
 refine CallReq.mk (L1 := []) (L2 := []) (New_fn m5 (hQ3.le hm35) _ s (hs4.le hm5) hF room hi (few_nodes hF)) hL ?_
 clear hL
 rintro u m6 L6 w hL hm6 hq
 have hm06 := hle.trans (hm35.trans hm6)
 obtain ⟨e, rfl, he, rfl, -⟩ | ⟨lb, x, ls, fs, of, N, rfl, rfl, hI, g1, g2, g3, g4, gr2, gr3, g5, g6, g7, g8, g9, g10, -⟩ := hq
 ·conv => whnf
  repeat ((first | refine BrReq.yes he ?_ | refine UGenReq.nilPtr hX rfl rfl rfl rfl rfl ?_ | (refine go1 ?_;try(clear hL;intro w hL))); conv => whnf)
  exact RetReq.mk hL ⟨rfl, rfl⟩
 rw [List.append_nil] at hL
 have hw6 : B8 m6 (.slice A1 n1 c1) lw := ⟨hw.1.le' hm06, hw.2⟩
 have hfs : fs.length ≤ 40 := by have := hI.mkr.len; have := hF.rules; omega
 have hl1 : 0 < x.l.length := by
  have h0 : 0 < x.bg.length := by omega
  have := hI.bgs _ (List.getElem_mem h0)
  omega
 obtain ⟨hn8, hcell⟩ := hw6.1.cell
 have hbyte := hw.2.2
 have hW := wdN_le hI.mkr.cls hI.mkr.l4
 have hR6 : RI ls.length N x := ⟨by rw [g1]; exact RwI.nil _ (by omega) _ _, ⟨g6, .inl ⟨g5, g3, g2⟩⟩, fun r hr => (by rw [g1] at hr; cases hr), by omega, by omega⟩
 refine go ?_;try(clear hL;intro w hL)
 refine LoopReq.inv hX (fun q : Nat × Int × Int => [(9, .int .i64 q.2.1), (10, .int .i64 q.2.2), (45, .int .i64 q.1)]) [1, 2, 7, 44]
  (fun q w => q.1 ≤ n1 ∧ ∃ m' x, Mem.Le m6 m' ∧ Ev.Loc m [] w0 m' (x.own lb) w ∧ Inv m' s ls fs of N x ∧ RI ls.length N x ∧ x.room = room ∧ (1 ≤ q.2.1 ∧ q.2.1 ≤ 2001) ∧ (0 ≤ q.2.2 ∧ q.2.2 < x.l.length) ∧ (0 ≤ x.made ∧ x.made ≤ 2 * q.1) ∧ (0 ≤ x.asked ∧ x.asked ≤ 2 * q.1)) (fun q => n1 - q.1) (0, 1, 0)
  ⟨by simp, m6, x, Mem.Le.refl m6, hL, hI, hR6, g4, by simp, by simp only; omega, by rw [g8]; simp, by rw [g9]; simp⟩ ⟨rfl, rfl, rfl, trivial⟩ ?_
 clear hL hR6 g1 g2 g3 g4 g5 g6 g7 g8 g9 g10 hI hl1
 rintro ⟨j, st, z⟩ w f ⟨hj, m', y, hm', hL, hIy, hRy, hyr, hst, hz, hma, hask⟩
 dsimp only at hj hst hz hma hask ⊢
 have h2000 := hIy.n
 have hm0' := hm06.trans hm'
 refine go ?_;try(clear hL;intro w hL)
 refine BrReq.dec (fun hlt => ?_) (fun hlt => ?_)
 ·have hjl : j < lw.length := by omega
  obtain ⟨a, ha, hc⟩ := hcell j _ (List.getElem?_eq_getElem hjl)
  have hb := hbyte _ (List.getElem_mem hjl)
  generalize lw[j] = bz at hc hb
  obtain ⟨b, rfl⟩ : ∃ b : Nat, bz = b := ⟨bz.toNat, by omega⟩
  subst ha
  have hmd := made_fn m' lb y hIy.one.1 hIy.one.2 hRy.onc.one
  have hstp := Step_fn m' (hQ.le hm0') (hB.le hm0') lb s ls fs of N y hIy hRy (by omega) (by omega) hfs z hz b 0 (by omega) (by omega)
  have hc' := Ev.mcell_le hm' hc
  refine go ?_;try(clear hL;intro w hL)
  refine CallReq.lo hmd hL ?_
  clear hL
  intro w hL
  conv => whnf
  repeat ((first | refine Idx2Req.mk j a rfl (by omega) rfl ?_ | (refine LdReq.one hX rfl rfl hL (by rw [scale_eq, Nat.mul_one]; exact hc') ?_) | (refine go1 ?_;try(clear hL;intro w hL))); conv => whnf)
  refine CallReq.mk (L1 := y.own lb) (L2 := []) hstp (by rw [List.append_nil]; exact hL) ?_
  clear hL
  rintro u m8 L9 w hL hm8 hq
  obtain ⟨e, rfl, he, -⟩ | ⟨x', n', rfl, rfl, hI', hR', hr', hpre, hn0, hnl, hhas, -, hask', hmade'⟩ := hq
  ·obtain rfl | rfl := he
   ·refine go ?_;try(clear hL;intro w hL)
    exact RetReq.mk (hL.sublist (List.nil_sublist _)) ⟨rfl, rfl⟩
   ·refine go ?_;try(clear hL;intro w hL)
    exact RetReq.mk (hL.sublist (List.nil_sublist _)) ⟨rfl, rfl⟩
  rw [List.append_nil] at hL
  have hm68 := hm'.trans hm8
  have hm08 := hm06.trans hm68
  have hpl := hpre.length_le
  have hmd8 := made_fn m8 lb x' hI'.one.1 hI'.one.2 hR'.onc.one
  have hmx' : x'.made = y.made ∨ x'.made = y.made + 1 := by
   rcases hmade' with h | ⟨h, -⟩
   ·exact .inl h
   ·exact .inr h
  have hstp8 := Step_fn m8 (hQ.le hm08) (hB.le hm08) lb s ls fs of N x' hI' hR' (by omega) (by omega) hfs z (by omega) b 0 (by omega) (by omega)
  have hc8 := Ev.mcell_le hm68 hc
  refine go ?_;try(clear hL;intro w hL)
  refine CallReq.lo hmd8 hL ?_
  clear hL
  intro w hL
  conv => whnf
  repeat ((first | refine Idx2Req.mk j a rfl (by omega) rfl ?_ | (refine LdReq.one hX rfl rfl hL (by rw [scale_eq, Nat.mul_one]; exact hc8) ?_) | (refine go1 ?_;try(clear hL;intro w hL))); conv => whnf)
  refine CallReq.mk (L1 := x'.own lb) (L2 := []) hstp8 (by rw [List.append_nil]; exact hL) ?_
  clear hL
  rintro u m9 L9 w hL hm9 hq
  obtain ⟨e, rfl, -, hNo⟩ | ⟨y', n'', rfl, rfl, hI9, hR9, hr9, hpre9, hn9, hnl9, hhas9, -, hask9, hmade9⟩ := hq
  ·exact absurd (hNo n' hhas) (by omega)
  rw [List.append_nil] at hL
  have hmd9 : y'.made = x'.made := by
   rcases hmade9 with h | ⟨-, h⟩
   ·exact h
   ·exact absurd (h n' hhas) (by omega)
  have hmf9 := made_fn m9 lb y' hI9.one.1 hI9.one.2 hR9.onc.one
  rw [hmd9] at hmf9
  have hk9 := kept_fn m9 lb (wdN ls.length N) y'.l.length y' hI9.one.1 hI9.one.2 hR9.onc.one hR9.rows hR9.r3 hW.2
  refine go ?_;try(clear hL;intro w hL)
  refine CallReq.lo hmf9 hL ?_
  clear hL
  intro w hL
  have hn2000 := hI'.n
  have hrl9 := hR9.rows.len
  have hrw9 : y'.rows.length * wdN ls.length N ≤ y'.rows.length * 4096 := Nat.mul_le_mul_left _ hW.2
  conv => whnf
  repeat ((first | refine BrReq.no (show ¬ (x'.made ≠ x'.made) by simp) ?_ | refine BrReq.no (show ¬ (x'.made < y.made) by omega) ?_ | refine BrReq.no (show ¬ (y.made + 1 < x'.made) by omega) ?_ | (refine go1 ?_;try(clear hL;intro w hL))); conv => whnf)
  refine CallReq.mk (L1 := y'.own lb) (L2 := []) hk9 (by rw [List.append_nil]; exact hL) ?_
  clear hL
  rintro u mx L2 w hL - ⟨hmx2, rfl, k1, rfl, -, hk1⟩
  rw [hmx2] at hL
  clear hmx2 mx
  rw [List.append_nil] at hL
  have hk1' := hk1 z _ n'' hhas9 hn9
  conv => whnf
  repeat ((first | refine BrReq.no (show ¬ ((k1 : Int) < 1) by omega) ?_ | (refine go1 ?_;try(clear hL;intro w hL))); conv => whnf)
  refine CallReq.mk (L1 := y'.own lb) (L2 := []) hk9 (by rw [List.append_nil]; exact hL) ?_
  clear hL
  rintro u mx L2 w hL - ⟨hmx2, rfl, k2, rfl, hk2, -⟩
  rw [hmx2] at hL
  clear hmx2 mx
  rw [List.append_nil] at hL
  conv => whnf
  repeat ((first | refine BrReq.no (show ¬ (room * 256 * 16 < (k2 : Int)) by omega) ?_ | (refine go1 ?_;try(clear hL;intro w hL))); conv => whnf)
  have hroom9 : y'.room = room := by rw [hr9, hr']; exact hyr
  have hn'9 : n' < y'.l.length := by have := hpre9.length_le; omega
  have hst9 : 1 ≤ max st (n' + 1) ∧ max st (n' + 1) ≤ 2001 := by omega
  have hma9 : 0 ≤ y'.made ∧ y'.made ≤ 2 * ((j + 1 : Nat) : Int) := by omega
  have hask99 : 0 ≤ y'.asked ∧ y'.asked ≤ 2 * ((j + 1 : Nat) : Int) := by omega
  refine go ?_;try(clear hL;intro w hL)
  exact rnd (j + 1, max st (n' + 1), n') ⟨by simp only; omega, m9, y', hm68.trans hm9, hL, hI9, hR9, hroom9, hst9, ⟨hn0, hn'9⟩, hma9, hask99⟩
 ·have hIg := gone_inv hIy
  have hRg := gone_ri hRy
  have hfl := flush_fn m' lb y hIy.one.1 hIy.one.2 hRy.onc.one
  have hso := stepOut_fn m' lb 0 0 s ls fs of N y.gone hIg hRg.onc.one (st + 5000) (by unfold i64; omega) (by show ¬ (0 ≤ st + 5000 ∧ st + 5000 < (y.l.length : Int)); omega)
  have hkg := kept_fn m' lb (wdN ls.length N) y.gone.l.length y.gone hIg.one.1 hIg.one.2 hRg.onc.one hRg.rows hRg.r3 hW.2
  have hru := rule_fn m' lb 0 s ls fs of N y.gone hIg hRg.onc.one (by omega) (-1) (by unfold i64; omega)
  rw [if_neg (by omega)] at hru
  refine go ?_;try(clear hL;intro w hL)
  refine CallReq.mk (L1 := y.own lb) (L2 := []) hfl (by rw [List.append_nil]; exact hL) ?_
  clear hL
  rintro u mx L2 w hL - ⟨hmx2, rfl, rfl⟩
  rw [hmx2] at hL
  clear hmx2 mx
  rw [List.append_nil] at hL
  refine go ?_;try(clear hL;intro w hL)
  refine CallReq.lo hso hL ?_
  clear hL
  intro w hL
  refine go ?_;try(clear hL;intro w hL)
  refine CallReq.mk (L1 := y.gone.own lb) (L2 := []) hkg (by rw [List.append_nil]; exact hL) ?_
  clear hL
  rintro u mx L2 w hL - ⟨hmx2, rfl, k1, rfl, hk1, -⟩
  rw [hmx2] at hL
  clear hmx2 mx
  rw [List.append_nil] at hL
  have hk0 : k1 = 0 := by
   have : k1 ≤ 0 * wdN ls.length N := hk1
   omega
  subst hk0
  refine go ?_;try(clear hL;intro w hL)
  refine CallReq.lm (L1 := y.gone.own lb) (L2 := []) hru (by rw [List.append_nil]; exact hL) ?_
  clear hL
  intro m9 w hm9 hL
  rw [List.append_nil] at hL
  have hde := dead_fn m9 lb s ls fs of N y.gone (hIg.le hm9) hRg.onc.one (-1) (by unfold i64; omega)
  rw [show deadZ y.gone (-1) = false from if_neg (by omega)] at hde
  refine go ?_;try(clear hL;intro w hL)
  refine CallReq.lo hde hL ?_
  clear hL
  intro w hL
  refine go ?_;try(clear hL;intro w hL)
  exact RetReq.mk (hL.sublist (List.nil_sublist _)) ⟨rfl, rfl⟩
end Go.Proofs.YtaooenndoopgdaaGreatDoor.lz
namespace Go.Proofs.YtaooenndoopgdaaGreatDoor.lz
open Go Go.Ev Go.Proofs
theorem pow_data : (Rows.laid_internal_strconv_uint64pow10 : DataW Unit) = Lib.tabData .u64 Lib.pow10Tab := by
 unfold Lib.tabData Lib.pow10Tab Rows.laid_internal_strconv_uint64pow10
 simp only [List.range, List.range.loop, List.map_cons, List.map_nil]
 rfl
theorem pow_of {W : World} (h3 : laidMet Tryz.prog (("internal/strconv.uint64pow10", Rows.laid_internal_strconv_uint64pow10) :: []) W) : fk.TabMem (memOf W) := by
 rw [pow_data] at h3
 obtain ⟨g, hg⟩ : ∃ g, Tryz.prog.globalNamed "internal/strconv.uint64pow10" = some g := by
  obtain ⟨ps, ⟨g', t', cs, fuel, p, q, hg', _⟩, _⟩ := h3
  exact ⟨g', hg'⟩
 have hty : (Tryz.prog.globals[g]?).map (·.type) = some 295 := by
  have : ∀ g, Tryz.prog.globalNamed "internal/strconv.uint64pow10" = some g → (Tryz.prog.globals[g]?).map (·.type) = some 295 := by
   intro g hg
   obtain ⟨g0, h0⟩ : ∃ g0, g0 = Tryz.prog.globalNamed "internal/strconv.uint64pow10" := ⟨_, rfl⟩
   have h1 : (g0.bind fun g => (Tryz.prog.globals[g]?).map (·.type)) = some 295 := by rw [h0]; kernel_rfl
   rw [h0, hg] at h1
   exact h1
  exact this g hg
 have htab := Lib.tabIs_of_head hg hty Tryz.underlying295 Tryz.underlying48 (by kernel_rfl) (by kernel_rfl) h3
 unfold Lib.TabIs World.var? at htab
 rw [hg] at htab
 simp only [Option.bind_some] at htab
 cases hb : W.heap[g]? with
 | none => rw [hb] at htab; cases htab
 | some o =>
   rw [hb] at htab
   cases o with
   | cells cs t f =>
     simp only [Option.some.injEq] at htab
     subst htab
     exact ⟨g, t, f, hg, hb⟩
   | _ => cases htab
end Go.Proofs.YtaooenndoopgdaaGreatDoor.lz
namespace Go.Proofs.YtaooenndoopgdaaGreatDoor.lz
open Go Go.Ev Go.Proofs
def bitTab : List Nat := [0, 1, 56, 2, 57, 49, 28, 3, 61, 58, 42, 50, 38, 29, 17, 4, 62, 47, 59, 36, 45, 43, 51, 22, 53, 39, 33, 30, 24, 18, 12, 5, 63, 55, 48, 27, 60, 41, 37, 16, 46, 35, 44, 21, 52, 32, 23, 11, 54, 26, 40, 15, 34, 20, 31, 10, 25, 14, 19, 9, 13, 8, 7, 6]
theorem bit_data : (Rows.laid_math_bits_deBruijn64tab : DataW Unit) = Lib.tabData .u8 (bitTab.map fun n : Nat => (n : Int)) := by
 unfold Lib.tabData bitTab Rows.laid_math_bits_deBruijn64tab
 simp only [List.map_cons, List.map_nil]
 rfl
theorem bits_of {W : World} {rest : List (String × DataW Unit)} (h3 : laidMet Tryz.prog (("math/bits.deBruijn64tab", Rows.laid_math_bits_deBruijn64tab) :: rest) W) : BitMem (memOf W) := by
 rw [bit_data] at h3
 have hg : Tryz.prog.globalNamed "math/bits.deBruijn64tab" = some 0 := by kernel_rfl
 have hty : (Tryz.prog.globals[0]?).map (·.type) = some 241 := by kernel_rfl
 have htab := Lib.tabIs_of_head hg hty Tryz.underlying241 Tryz.underlying5 (by kernel_rfl) (by kernel_rfl) h3
 unfold Lib.TabIs World.var? at htab
 rw [hg] at htab
 simp only [Option.bind_some] at htab
 cases hb : W.heap[0]? with
 | none => rw [hb] at htab; cases htab
 | some o =>
   rw [hb] at htab
   cases o with
   | cells cs t f =>
     simp only [Option.some.injEq] at htab
     subst htab
     refine ⟨bitTab, t, f, ?_, by decide, by decide⟩
     show W.heap[0]? = _
     rw [hb, List.map_map]
     rfl
   | _ => cases htab
end Go.Proofs.YtaooenndoopgdaaGreatDoor.lz
