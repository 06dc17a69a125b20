/- LazyKeeps, proved: a lazy machine keeps no more than it may, makes nothing twice that it keeps, and forgets all at a flush. Conditions: none beyond the row its own.: part 3 of 13 of the proof. Conditions: none. -/
import Derived.Test.YtaooenndoopgdaaGreatDoorK2
import Derived.Test.YtaooenndoopgdaaGreatDoorK1
import Derived.Maps.Keyed
import Derived.DeepKeys4
import Derived.Conc.MuLone
import Derived.Tactics2
import Derived.Defers
import Derived.RegionTactic
import Derived.RegionCalls
import Derived.Shelf.Small.Bits
import Derived.Shelf.Strconv.Itoa0
import Derived.Shelf.Strconv.Itoa1
import Derived.Shelf.LaysM
import Derived.Shelf.Strconv.Itoa2
import Derived.Shelf.Strconv.Itoa3
import Derived.Shelf.Sort.Plain
import Derived.Shelf.Bits.Mul64
import Derived.Ground.Names2Prog
import Derived.Shelf.Slices.CompactI
import Derived.Shelf.Slices.Cells
import Derived.Shelf.Slices.In.SortNone
import Derived.Ground.SlsfProg
import Derived.Shelf.SlSortCmp.Insertion
import Derived.Shelf.SlSortCmp.SiftDown1
import Derived.Shelf.SlSortCmp.HeapSort1
import Derived.Shelf.SlSortCmp.Insertion1
import Derived.Shelf.SlSortCmp.Median1
import Derived.Shelf.SlSortCmp.Pivot1
import Derived.Shelf.SlSortCmp.ReverseRange1
import Derived.Shelf.SlSortCmp.PartialInsertion1
import Derived.Shelf.SlSortCmp.PartitionEqual1
import Derived.Shelf.SlSortCmp.Partition1
import Derived.Shelf.SlSortCmp.Pdq1
import Derived.Shelf.SlSortCmp.NoneTotal
import Derived.Test.YtaooenndoopgdaaGreatDoorProg
namespace Go.Proofs.YtaooenndoopgdaaGreatDoor.lz
open Go Go.Ev Go.Proofs Go.Proofs.YtaooenndoopgdaaGreatDoor.tree Go.Proofs.YtaooenndoopgdaaGreatDoor.bd
structure Rl where
 starts : List Int
 re : Re
 act : Int
 to : Int
structure Sp where
 starts : List (List UInt8)
 rules : List Rl
def ruC (sv : Value) (k s0 s1 s2 s3 : Int) (pv : Value) (lo hi : Int) (neg : Bool) (a t : Int) : List Value := [sv, .int .i64 k, .int .u64 s0, .int .u64 s1, .int .u64 s2, .int .u64 s3, pv, .int .i64 lo, .int .i64 hi, .bool neg, .int .i64 a, .int .i64 t]
def ruV (m : Mem) (cs : List Value) (x : Rl) : Prop := ∃ A1 n1 c1 k s0 s1 s2 s3 A n c lo hi neg, cs = ruC (.slice A1 n1 c1) k s0 s1 s2 s3 (.slice A n c) lo hi neg x.act x.to ∧ SlI m .i64 (.slice A1 n1 c1) x.starts ∧ RepRe m (reC k s0 s1 s2 s3 (.slice A n c) lo hi neg) x.re
theorem ruV.le {m m' : Mem} (h : Mem.Le m m') {cs : List Value} {x : Rl} (hx : ruV m cs x) : ruV m' cs x := by
 obtain ⟨A1, n1, c1, k, s0, s1, s2, s3, A, n, c, lo, hi, neg, e, h1, h2⟩ := hx
 exact ⟨A1, n1, c1, k, s0, s1, s2, s3, A, n, c, lo, hi, neg, e, h1.le h (fun _ _ _ h => h), h2.le h⟩
def spV (m : Mem) (cs : List Value) (s : Sp) : Prop := ∃ A n c A' n' c', cs = [.slice A n c, .slice A' n' c'] ∧ Sl m 1 isS (.slice A n c) s.starts ∧ Sl m 12 (ruV m) (.slice A' n' c') s.rules
theorem spV.le {m m' : Mem} (h : Mem.Le m m') {cs : List Value} {s : Sp} (hx : spV m cs s) : spV m' cs s := by
 obtain ⟨A, n, c, A', n', c', e, h1, h2⟩ := hx
 exact ⟨A, n, c, A', n', c', e, h1.le h (fun _ _ _ h => h), h2.le h fun _ _ _ k => k.le h⟩
theorem addr_add2 (a : Addr) (x y : Nat) : (a.add x).add y = a.add (x + y) := by
 unfold Addr.add
 by_cases hx : x = 0
 ·subst hx; simp
 ·by_cases hy : y = 0
  ·subst hy; simp
  ·rw [if_neg hx, if_neg hy, if_neg (by omega)]; simp [Nat.add_assoc]
theorem cells_add0 {m : Mem} {b te : Nat} {fz : Nat × Nat} (cs : List Value) : Cells (m.add b (.cells (toArr cs) te fz)) ⟨b, 0, none⟩ cs := by
 intro j v hj
 rw [addr_add, Nat.zero_add]
 simp only [mcell, ocell, Mem.add_same, toArr, List.getElem?_toArray]
 exact hj
theorem cells_sub {m : Mem} {x : Addr} {cs : List Value} (h : Cells m x cs) (k l : Nat) : Cells m (x.add k) ((cs.drop k).take l) := by
 intro i v hv
 rw [addr_add2]
 rw [List.getElem?_take] at hv
 split at hv
 ·rw [List.getElem?_drop] at hv; exact h _ _ hv
 ·cases hv
theorem all_snoc {α : Type} {P : α → Prop} {l k : List α} {y : α} (e : l = k ++ [y]) (h : ∀ x ∈ k, P x) (hy : P y) : ∀ x ∈ l, P x := fun x hx => by
 rw [e] at hx
 rcases List.mem_append.1 hx with h1 | h1
 ·exact h x h1
 ·rw [List.mem_singleton.1 h1]; exact hy
structure FewS (s : Sp) : Prop where
 rules : s.rules.length ≤ 40
 res : ∀ x ∈ s.rules, x.starts.length ≤ 20 ∧ cR 60 x.re ≤ 2000
 starts : s.starts.length ≤ 20
 names : ∀ x ∈ s.starts, x.length ≤ 100
set_option maxHeartbeats 1000000 in
theorem Few_fn (m : Mem) (cs : List Value) (s : Sp) (hs : spV m cs s) : Fn0 Tryz.prog 7 [.agg (toArr cs)] m fun _ u => ∃ b, u = .bool b ∧ (b = true → FewS s) := by
 obtain ⟨A, n, c, A', n', c', rfl, h1, h2⟩ := hs
 obtain ⟨hn, hc, hm⟩ := h1.lens
 obtain ⟨hn', hc', hm'⟩ := h2.lens
 have hmx : maxLen = 9223372036854775807 := rfl
 have e1 := h1.elem
 have e2 := h2.elem
 refine Fn.enter (N := 52) hX Tryz.func7 rfl rfl (by show _ ≤ _; simp) (fun w0 hL => ?_)
 conv => whnf
 refine NewReq.mk hL ?_
 clear hL
 intro b1 w hL
 conv => whnf
 refine go ?_;try(clear hL;intro w hL)
 refine LoopReq.inv hX (fun j : Nat => [(8, .int .i64 j)]) [1, 7]
  (fun j w => (j ≤ n' ∧ j ≤ 40 ∧ ∀ x ∈ s.rules.take j, x.starts.length ≤ 20 ∧ cR 60 x.re ≤ 2000) ∧ Ev.Loc m [] w0 m [(b1, .cells (toArr [.slice A n c, .slice A' n' c']) 25 (0, 0))] w) (fun j => n' - j) 0
  ⟨⟨by omega, by omega, by simp⟩, hL⟩ ⟨rfl, trivial⟩ ?_
 clear hL
 rintro j w f ⟨⟨hj, hj40, hdone⟩, hL⟩
 refine go ?_;try(clear hL;intro w hL)
 refine BrReq.dec (fun hlt => ?_) (fun hlt => ?_)
 ·have hjl : j < s.rules.length := by omega
  obtain ⟨a, cs', rfl, hl12, hcells, hru⟩ := e2 j _ (List.getElem?_eq_getElem hjl)
  have htk := List.take_succ_eq_append_getElem hjl
  generalize s.rules[j] = x at hru htk
  obtain ⟨A1, n1, c1, k, s0, s1, s2, s3, A3, n3, c3, lo, hi, neg, rfl, hsv, hre⟩ := hru
  have hn1 := hsv.lens.1
  by_cases h40 : (40 : Int) ≤ j
  ·conv => whnf
   repeat ((first | refine BrReq.yes h40 ?_ | (refine go1 ?_;try(clear hL;intro w hL))); conv => whnf)
   exact RetReq.mk hL.drop ⟨rfl, _, rfl, fun h => (by cases h)⟩
  have hc0 := hcells 0 _ rfl
  have hc1 : Cells m ((a.add (scale j 12)).add 1) (reC k s0 s1 s2 s3 (.slice A3 n3 c3) lo hi neg) := cells_sub hcells 1 9
  by_cases h20 : (20 : Int) < n1
  ·conv => whnf
   repeat ((first | refine BrReq.no h40 ?_ | refine Idx2Req.mk j a rfl (by omega) rfl ?_ | refine LdReq.one hX rfl rfl hL hc0 ?_ | refine BrReq.yes h20 ?_ | (refine go1 ?_;try(clear hL;intro w hL))); conv => whnf)
   exact RetReq.mk hL.drop ⟨rfl, _, rfl, fun h => (by cases h)⟩
  conv => whnf
  repeat ((first | refine BrReq.no h40 ?_ | refine Idx2Req.mk j a rfl (by omega) rfl ?_ | refine LdReq.one hX rfl rfl hL hc0 ?_ | refine BrReq.no h20 ?_ | refine LdReq.agg hX rfl rfl hL rfl hc1 ?_ | (refine go1 ?_;try(clear hL;intro w hL))); conv => whnf)
  refine CallReq.val (tree.Few_fn m x.re _ hre 60 (by omega)) hL ?_
  clear hL
  intro w hL
  by_cases hf : cR 60 x.re ≤ 2000
  ·rw [decide_eq_true hf]
   refine go ?_;try(clear hL;intro w hL)
   have hd2 := all_snoc htk hdone ⟨by omega, hf⟩
   exact rnd (j + 1) ⟨⟨by omega, by omega, hd2⟩, hL⟩
  ·rw [decide_eq_false hf]
   refine go ?_;try(clear hL;intro w hL)
   exact RetReq.mk hL.drop ⟨rfl, _, rfl, fun h => (by cases h)⟩
 ·have hjn : j = s.rules.length := by omega
  rw [hjn, List.take_length] at hdone
  refine go ?_;try(clear hL;intro w hL)
  refine LoopReq.inv hX (fun j : Nat => [(37, .int .i64 j)]) [1, 36]
   (fun j w => (j ≤ n ∧ ∀ x ∈ s.starts.take j, x.length ≤ 100) ∧ Ev.Loc m [] w0 m [(b1, .cells (toArr [.slice A n c, .slice A' n' c']) 25 (0, 0))] w) (fun j => n - j) 0
   ⟨⟨by omega, by simp⟩, hL⟩ ⟨rfl, trivial⟩ ?_
  clear hL
  rintro i w f ⟨⟨hi, hnames⟩, hL⟩
  refine go ?_;try(clear hL;intro w hL)
  refine BrReq.dec (fun hlt2 => ?_) (fun hlt2 => ?_)
  ·have hil : i < s.starts.length := by omega
   obtain ⟨a, cs', rfl, hl1, hcells, hst⟩ := e1 i _ (List.getElem?_eq_getElem hil)
   have htk := List.take_succ_eq_append_getElem hil
   generalize s.starts[i] = x at hst htk
   have hst' : cs' = [.string (bs x)] := hst
   subst hst'
   have hc0 := hcells 0 _ rfl
   have addr0 : ∀ z : Addr, z.add 0 = z := fun z => by cases z; rfl
   rw [addr0] at hc0
   have hsz := bs_size x
   by_cases h100 : (100 : Int) < x.length
   ·conv => whnf
    repeat ((first | refine Idx2Req.mk i a rfl (by omega) rfl ?_ | refine LdReq.one hX rfl rfl hL hc0 ?_ | refine BrReq.yes h100 ?_ | (refine go1 ?_;try(clear hL;intro w hL))); conv => whnf)
    exact RetReq.mk hL.drop ⟨rfl, _, rfl, fun h => (by cases h)⟩
   ·conv => whnf
    repeat ((first | refine Idx2Req.mk i a rfl (by omega) rfl ?_ | refine LdReq.one hX rfl rfl hL hc0 ?_ | refine BrReq.no h100 ?_ | (refine go1 ?_;try(clear hL;intro w hL))); conv => whnf)
    have hd2 := all_snoc htk hnames (by omega)
    exact rnd (i + 1) ⟨⟨by omega, hd2⟩, hL⟩
  ·have hin : i = s.starts.length := by omega
   rw [hin, List.take_length] at hnames
   refine go ?_;try(clear hL;intro w hL)
   exact RetReq.mk hL.drop ⟨rfl, _, rfl, fun h => ⟨by omega, hdone, by have := of_decide_eq_true h; omega, hnames⟩⟩
theorem indexS_fn (m : Mem) (v : Value) (l : List (List UInt8)) (x : List UInt8) (hs : Sl m 1 isS v l) : Fn0 Tryz.prog 61 [v, .string (bs x)] m fun _ u => ∃ z : Int, u = .int .i64 z ∧ (0 ≤ z ↔ x ∈ l) := by
 obtain ⟨A, n, c, rfl, hn, hc, hm, -⟩ := id hs
 have hel := hs.elem
 have hmx : maxLen = 9223372036854775807 := rfl
 refine Fn.enter (N := 19) hX Tryz.func61 rfl rfl (by show _ ≤ _; simp) (fun w0 hL => ?_)
 conv => whnf
 refine go ?_;try(clear hL;intro w hL)
 refine LoopReq.inv hX (fun j : Nat => [(8, .int .i64 j)]) [0, 1, 7]
  (fun j w => (j ≤ n ∧ ∀ y ∈ l.take j, y ≠ x) ∧ Ev.Loc m [] w0 m [] w) (fun j => n - j) 0
  ⟨⟨by omega, by simp⟩, hL⟩ ⟨rfl, trivial⟩ ?_
 clear hL
 rintro j w f ⟨⟨hj, hno⟩, hL⟩
 refine go ?_;try(clear hL;intro w hL)
 refine BrReq.dec (fun hlt => ?_) (fun hlt => ?_)
 ·have hjl : j < l.length := by omega
  obtain ⟨a, cs, rfl, hl1, hcells, hst⟩ := hel j _ (List.getElem?_eq_getElem hjl)
  have htk := List.take_succ_eq_append_getElem hjl
  have hmem := List.getElem_mem hjl
  generalize l[j] = y at hst htk hmem
  have hst' : cs = [.string (bs y)] := hst
  subst hst'
  have hc0 := hcells 0 _ rfl
  have addr0 : ∀ z : Addr, z.add 0 = z := fun z => by cases z; rfl
  rw [addr0] at hc0
  conv => whnf
  repeat ((first | refine Idx2Req.mk j a rfl (by omega) rfl ?_ | refine LdReq.one hX rfl rfl hL hc0 ?_ | refine UGenReq.strEq rfl rfl rfl ?_ | (refine go1 ?_;try(clear hL;intro w hL))); conv => whnf)
  rw [bs_beq]
  by_cases e : x = y
  ·rw [decide_eq_true e]
   refine go ?_;try(clear hL;intro w hL)
   exact RetReq.mk hL ⟨rfl, j, rfl, ⟨fun _ => e ▸ hmem, fun _ => by omega⟩⟩
  ·rw [decide_eq_false e]
   have hn2 := all_snoc htk hno (fun h => e h.symm)
   refine go ?_;try(clear hL;intro w hL)
   exact rnd (j + 1) ⟨⟨by omega, hn2⟩, hL⟩
 ·have hjn : j = l.length := by omega
  rw [hjn, List.take_length] at hno
  refine go ?_;try(clear hL;intro w hL)
  exact RetReq.mk hL ⟨rfl, -1, rfl, ⟨fun h => absurd h (by decide), fun h => absurd rfl (hno x h)⟩⟩
theorem containsS_fn (m : Mem) (v : Value) (l : List (List UInt8)) (x : List UInt8) (hs : Sl m 1 isS v l) : FnV Tryz.prog 36 [v, .string (bs x)] m (.bool (decide (x ∈ l))) := by
 have hix := indexS_fn m v l x hs
 obtain ⟨A, n, c, rfl, -⟩ := id hs
 refine Fn.enter (N := 9) hX Tryz.func36 rfl rfl (by show _ ≤ _; simp) (fun w0 hL => ?_)
 conv => whnf
 refine go ?_;try(clear hL;intro w hL)
 refine CallReq.pure hix hL ?_
 clear hL
 rintro u m1 w hL hm1 ⟨z, rfl, hz⟩
 refine go ?_;try(clear hL;intro w hL)
 refine RetReq.mk (hL.weaken hm1 (Mem.Le.refl m)) ⟨rfl, ?_⟩
 exact congrArg Value.bool (decide_eq_decide.2 hz)
def OneR (x : Rl) (N : Nat) : Prop := x.starts = [0] ∧ x.re = leafR 1 ∧ x.act = 0 ∧ x.to = 0 ∧ N = 1
set_option maxHeartbeats 1000000 in
theorem right_fn (m : Mem) (A1 : Option Addr) (n1 c1 : Nat) (k s0 s1 s2 s3 : Int) (A : Option Addr) (n c : Nat) (lo hi : Int) (neg : Bool) (x : Rl) (N : Nat) (hsv : SlI m .i64 (.slice A1 n1 c1) x.starts) (hre : RepRe m (reC k s0 s1 s2 s3 (.slice A n c) lo hi neg) x.re) (hlen : x.starts.length ≤ 20) :
  Fn0 Tryz.prog 39 [.agg (toArr (ruC (.slice A1 n1 c1) k s0 s1 s2 s3 (.slice A n c) lo hi neg x.act x.to)), .int .i64 N] m fun _ u => ∃ b, u = .bool b ∧ (b = true → formedR x.re = true) ∧ (OneR x N → b = true) := by
 have hel := hsv.elem
 have hmx : maxLen = 9223372036854775807 := rfl
 have hn1 := hsv.lens.1
 refine Fn.enter (N := 84) hX Tryz.func39 rfl rfl (by show _ ≤ _; simp) (fun w0 hL => ?_)
 conv => whnf
 refine NewReq.mk hL ?_
 clear hL
 intro b2 w hL
 conv => whnf
 refine go ?_;try(clear hL;intro w hL)
 refine LoopReq.inv hX (fun j : Nat => [(11, .int .i64 j)]) [1, 2, 9, 10]
  (fun j w => j ≤ n1 ∧ Ev.Loc m [] w0 m [(b2, .cells (toArr (ruC (.slice A1 n1 c1) k s0 s1 s2 s3 (.slice A n c) lo hi neg x.act x.to)) 55 (0, 0))] w) (fun j => n1 - j) 0
  ⟨by omega, hL⟩ ⟨rfl, trivial⟩ ?_
 clear hL
 rintro j w f ⟨hj, hL⟩
 refine go ?_;try(clear hL;intro w hL)
 refine BrReq.dec (fun hlt => ?_) (fun hlt => ?_)
 ·have hjl : j < x.starts.length := by omega
  obtain ⟨a, cs, rfl, hl1, hcells, rfl⟩ := hel j _ (List.getElem?_eq_getElem hjl)
  have hc0 := hcells 0 _ rfl
  have addr0 : ∀ z : Addr, z.add 0 = z := fun z => by cases z; rfl
  rw [addr0] at hc0
  have hone : OneR x N → x.starts[j] = 0 ∧ j = 0 ∧ N = 1 := fun h => by
   obtain ⟨h1, -, -, -, h2⟩ := h
   have h3 : j = 0 := by rw [h1] at hjl; simp at hjl; exact hjl
   subst h3
   refine ⟨?_, rfl, h2⟩
   have e := congrArg (fun l => l[0]?) h1
   simpa [List.getElem?_eq_getElem hjl] using e
  generalize x.starts[j] = z at hc0 hone
  by_cases hz0 : z < 0
  ·conv => whnf
   repeat ((first | refine Idx2Req.mk j a rfl (by omega) rfl ?_ | refine LdReq.one hX rfl rfl hL hc0 ?_ | refine BrReq.yes hz0 ?_ | (refine go1 ?_;try(clear hL;intro w hL))); conv => whnf)
   exact RetReq.mk hL.drop ⟨rfl, _, rfl, fun h => (by cases h), fun h => absurd (hone h).1 (by omega)⟩
  by_cases hzN : (N : Int) ≤ z
  ·conv => whnf
   repeat ((first | refine Idx2Req.mk j a rfl (by omega) rfl ?_ | refine LdReq.one hX rfl rfl hL hc0 ?_ | refine BrReq.no hz0 ?_ | refine BrReq.yes hzN ?_ | (refine go1 ?_;try(clear hL;intro w hL))); conv => whnf)
   exact RetReq.mk hL.drop ⟨rfl, _, rfl, fun h => (by cases h), fun h => absurd (hone h).1 (by have := (hone h).2.2; omega)⟩
  by_cases hj0 : j = 0
  ·subst hj0
   conv => whnf
   repeat ((first | refine Idx2Req.mk 0 a rfl (by omega) rfl ?_ | refine LdReq.one hX rfl rfl hL hc0 ?_ | refine BrReq.no hz0 ?_ | refine BrReq.no hzN ?_ | (refine go1 ?_;try(clear hL;intro w hL))); conv => whnf)
   exact rnd 1 ⟨by omega, hL⟩
  ·obtain ⟨a', cs', ea, hl1', hcells', rfl⟩ := hel (j - 1) _ (List.getElem?_eq_getElem (by omega))
   cases ea
   have hc1 := hcells' 0 _ rfl
   rw [addr0] at hc1
   generalize x.starts[j - 1] = y at hc1
   have hj0' : (0 : Int) < j := by omega
   by_cases hyz : z ≤ y
   ·conv => whnf
    repeat ((first | refine Idx2Req.mk j a rfl (by omega) rfl ?_ | refine LdReq.one hX rfl rfl hL hc0 ?_ | refine BrReq.no hz0 ?_ | refine BrReq.no hzN ?_ | refine BrReq.yes hj0' ?_ | refine Idx2Req.mk (j - 1) a (by omega) (by omega) rfl ?_ | refine LdReq.one hX rfl rfl hL hc1 ?_ | refine BrReq.yes hyz ?_ | (refine go1 ?_;try(clear hL;intro w hL))); conv => whnf)
    exact RetReq.mk hL.drop ⟨rfl, _, rfl, fun h => (by cases h), fun h => absurd (hone h).2.1 hj0⟩
   ·conv => whnf
    repeat ((first | refine Idx2Req.mk j a rfl (by omega) rfl ?_ | refine LdReq.one hX rfl rfl hL hc0 ?_ | refine BrReq.no hz0 ?_ | refine BrReq.no hzN ?_ | refine BrReq.yes hj0' ?_ | refine Idx2Req.mk (j - 1) a (by omega) (by omega) rfl ?_ | refine LdReq.one hX rfl rfl hL hc1 ?_ | refine BrReq.no hyz ?_ | (refine go1 ?_;try(clear hL;intro w hL))); conv => whnf)
    exact rnd (j + 1) ⟨by omega, hL⟩
 ·by_cases hne : (0 : Int) < n1
  rotate_left
  ·have hno : ¬ OneR x N := fun h => by rw [hn1, h.1] at hne; simp at hne
   conv => whnf
   repeat' (first | ((first | refine BrReq.no hne ?_ | refine zT ?_ | refine zF ?_ | refine zL hX hL ?_ | refine zB hX hL ?_ | (refine zS hX hL ?_; clear hL; intro w hL) | refine zI ?_ | refine zG hX ?_ | refine zO ?_); conv => whnf) | (refine BrReq.dec (fun _ => ?_) (fun _ => ?_) <;> (conv => whnf)) | (refine BrReq.not ?_; refine BrReq.dec (fun _ => ?_) (fun _ => ?_) <;> (conv => whnf)) | (refine BrReq.bool (fun _ => ?_) (fun _ => ?_) <;> (conv => whnf)))
   all_goals exact RetReq.mk hL.drop ⟨rfl, _, rfl, fun h => (by cases h), fun h => absurd h hno⟩
  cases hf : formedR x.re with
  | false =>
    have hno : ¬ OneR x N := fun h => by rw [h.2.1] at hf; exact absurd hf (by decide)
    have hfm := Formed_fn m x.re _ hre
    rw [hf] at hfm
    conv => whnf
    repeat' (first | ((first | refine BrReq.yes hne ?_ | ((refine CallReq.val hfm hL ?_; clear hL; intro w hL)) | refine zT ?_ | refine zF ?_ | refine zL hX hL ?_ | refine zB hX hL ?_ | (refine zS hX hL ?_; clear hL; intro w hL) | refine zI ?_ | refine zG hX ?_ | refine zO ?_); conv => whnf) | (refine BrReq.dec (fun _ => ?_) (fun _ => ?_) <;> (conv => whnf)) | (refine BrReq.not ?_; refine BrReq.dec (fun _ => ?_) (fun _ => ?_) <;> (conv => whnf)) | (refine BrReq.bool (fun _ => ?_) (fun _ => ?_) <;> (conv => whnf)))
    all_goals exact RetReq.mk hL.drop ⟨rfl, _, rfl, fun h => (by cases h), fun h => absurd h hno⟩
  | true =>
    have hfm := Formed_fn m x.re _ hre
    rw [hf] at hfm
    by_cases hone : OneR x N
    ·obtain ⟨-, -, e1, e2, e3⟩ := hone
     rw [e1, e2] at hL ⊢
     subst e3
     conv => whnf
     repeat' (first | ((first | refine BrReq.yes hne ?_ | ((refine CallReq.val hfm hL ?_; clear hL; intro w hL)) | refine zT ?_ | refine zF ?_ | refine zL hX hL ?_ | refine zB hX hL ?_ | (refine zS hX hL ?_; clear hL; intro w hL) | refine zI ?_ | refine zG hX ?_ | refine zO ?_); conv => whnf) | (refine BrReq.dec (fun _ => ?_) (fun _ => ?_) <;> (conv => whnf)) | (refine BrReq.not ?_; refine BrReq.dec (fun _ => ?_) (fun _ => ?_) <;> (conv => whnf)) | (refine BrReq.bool (fun _ => ?_) (fun _ => ?_) <;> (conv => whnf)))
     all_goals exact RetReq.mk hL.drop ⟨rfl, _, rfl, fun _ => rfl, fun _ => rfl⟩
    ·conv => whnf
     repeat' (first | ((first | refine BrReq.yes hne ?_ | ((refine CallReq.val hfm hL ?_; clear hL; intro w hL)) | refine zT ?_ | refine zF ?_ | refine zL hX hL ?_ | refine zB hX hL ?_ | (refine zS hX hL ?_; clear hL; intro w hL) | refine zI ?_ | refine zG hX ?_ | refine zO ?_); conv => whnf) | (refine BrReq.dec (fun _ => ?_) (fun _ => ?_) <;> (conv => whnf)) | (refine BrReq.not ?_; refine BrReq.dec (fun _ => ?_) (fun _ => ?_) <;> (conv => whnf)) | (refine BrReq.bool (fun _ => ?_) (fun _ => ?_) <;> (conv => whnf)))
     all_goals exact RetReq.mk hL.drop ⟨rfl, _, rfl, fun _ => rfl, fun h => absurd h hone⟩
theorem formed1_fn (m : Mem) (b1 : Nat) (sv rv : Value) (N : Nat) (A : Option Addr) (c : Nat) (hsv : sv = .slice A N c) (hb : Cells m ⟨b1, 0, none⟩ [sv, rv]) (cs : List Value) (x : Rl) (hx : ruV m cs x) (hlen : x.starts.length ≤ 20) :
  Fn0 Tryz.prog 38 [.agg (toArr cs), .pointer (some ⟨b1, 0, none⟩)] m fun _ u => ∃ b, u = .bool b ∧ (b = false → formedR x.re = true) ∧ (OneR x N → b = false) := by
 obtain ⟨A1, n1, c1, k, s0, s1, s2, s3, A2, n2, c2, lo, hi, neg, rfl, h1, h2⟩ := hx
 subst hsv
 have h0 := hb 0 _ rfl
 have hr := right_fn m A1 n1 c1 k s0 s1 s2 s3 A2 n2 c2 lo hi neg x N h1 h2 hlen
 refine Fn.enter (N := 10) hX Tryz.func38 rfl rfl (by show _ ≤ _; simp) (fun w0 hL => ?_)
 conv => whnf
 refine NewReq.mk hL ?_
 clear hL
 intro b2 w hL
 conv => whnf
 conv => whnf
 repeat ((first | refine LdReq.one hX rfl rfl hL h0 ?_ | (refine go1 ?_;try(clear hL;intro w hL))); conv => whnf)
 refine CallReq.pure hr hL ?_
 clear hL
 rintro u m1 w hL hm1 ⟨b, rfl, hb1, hb2⟩
 cases b with
 | false =>
   refine go ?_;try(clear hL;intro w hL)
   exact RetReq.mk hL.drop ⟨rfl, true, rfl, fun h => (by cases h), fun h => (by have := hb2 h; cases this)⟩
 | true =>
   refine go ?_;try(clear hL;intro w hL)
   exact RetReq.mk hL.drop ⟨rfl, false, rfl, fun _ => hb1 rfl, fun _ => rfl⟩
theorem indexR_fn (m : Mem) (b1 : Nat) (sv rv v : Value) (N : Nat) (A : Option Addr) (c : Nat) (hsv : sv = .slice A N c) (hb : Cells m ⟨b1, 0, none⟩ [sv, rv]) (l : List Rl) (hs : Sl m 12 (ruV m) v l) (hlen : ∀ x ∈ l, x.starts.length ≤ 20) :
  Fn0 Tryz.prog 62 [v, .func (.func 38) #[] #[.pointer (some ⟨b1, 0, none⟩)]] m fun _ u => ∃ z : Int, u = .int .i64 z ∧ (¬ 0 ≤ z → ∀ x ∈ l, formedR x.re = true) ∧ ((∀ x ∈ l, OneR x N) → ¬ 0 ≤ z) := by
 obtain ⟨A1, n, c1, rfl, hn, hc, hm, -⟩ := id hs
 have hmx : maxLen = 9223372036854775807 := rfl
 refine Fn.enter (N := 19) hX Tryz.func62 rfl rfl (by show _ ≤ _; simp) (fun w0 hL => ?_)
 conv => whnf
 refine go ?_;try(clear hL;intro w hL)
 refine LoopReq.inv hX (fun j : Nat => [(8, .int .i64 j)]) [0, 1, 7]
  (fun j w => (j ≤ n ∧ ∀ x ∈ l.take j, formedR x.re = true) ∧ Ev.Loc m [] w0 m [] w) (fun j => n - j) 0
  ⟨⟨by omega, by simp⟩, hL⟩ ⟨rfl, trivial⟩ ?_
 clear hL
 rintro j w f ⟨⟨hj, hdone⟩, hL⟩
 refine go ?_;try(clear hL;intro w hL)
 refine BrReq.dec (fun hlt => ?_) (fun hlt => ?_)
 ·have hjl : j < l.length := by omega
  obtain ⟨a, cs, rfl, hl12, hcells, hru⟩ := hs.elem j _ (List.getElem?_eq_getElem hjl)
  have htk := List.take_succ_eq_append_getElem hjl
  have hmem := List.getElem_mem hjl
  have hlen1 := hlen _ hmem
  generalize l[j] = x at hru htk hmem hlen1
  have hf := formed1_fn m b1 sv rv N A c hsv hb cs x hru hlen1
  obtain ⟨A3, n3, c3, k, s0, s1, s2, s3, A2, n2, c2, lo, hi, neg, rfl, h1, h2⟩ := hru
  conv => whnf
  repeat ((first | refine Idx2Req.mk j a rfl (by omega) rfl ?_ | refine LdReq.agg hX rfl rfl hL hl12 hcells ?_ | (refine go1 ?_;try(clear hL;intro w hL))); conv => whnf)
  refine CallReq.pure hf hL ?_
  clear hL
  rintro u m1 w hL hm1 ⟨b, rfl, hb1, hb2⟩
  replace hL := hL.weaken hm1 (Mem.Le.refl m)
  cases b with
  | true =>
    refine go ?_;try(clear hL;intro w hL)
    exact RetReq.mk hL ⟨rfl, j, rfl, fun h => absurd (by omega) h, fun h => (by have := hb2 (h x hmem); cases this)⟩
  | false =>
    have hd2 := all_snoc htk hdone (hb1 rfl)
    refine go ?_;try(clear hL;intro w hL)
    exact rnd (j + 1) ⟨⟨by omega, hd2⟩, hL⟩
 ·have hjn : j = l.length := by omega
  rw [hjn, List.take_length] at hdone
  refine go ?_;try(clear hL;intro w hL)
  exact RetReq.mk hL ⟨rfl, -1, rfl, fun _ => hdone, fun _ => by decide⟩
theorem containsR_fn (m : Mem) (b1 : Nat) (sv rv v : Value) (N : Nat) (A : Option Addr) (c : Nat) (hsv : sv = .slice A N c) (hb : Cells m ⟨b1, 0, none⟩ [sv, rv]) (l : List Rl) (hs : Sl m 12 (ruV m) v l) (hlen : ∀ x ∈ l, x.starts.length ≤ 20) :
  Fn0 Tryz.prog 37 [v, .func (.func 38) #[] #[.pointer (some ⟨b1, 0, none⟩)]] m fun _ u => ∃ b, u = .bool b ∧ (b = false → ∀ x ∈ l, formedR x.re = true) ∧ ((∀ x ∈ l, OneR x N) → b = false) := by
 have hix := indexR_fn m b1 sv rv v N A c hsv hb l hs hlen
 obtain ⟨A1, n, c1, rfl, -⟩ := id hs
 refine Fn.enter (N := 9) hX Tryz.func37 rfl rfl (by show _ ≤ _; simp) (fun w0 hL => ?_)
 conv => whnf
 refine go ?_;try(clear hL;intro w hL)
 refine CallReq.pure hix hL ?_
 clear hL
 rintro u m1 w hL hm1 ⟨z, rfl, hz1, hz2⟩
 refine go ?_;try(clear hL;intro w hL)
 refine RetReq.mk hL ⟨rfl, decide (0 ≤ z), rfl, fun h => hz1 (of_decide_eq_false h), fun h => decide_eq_false (hz2 h)⟩
structure FormS (s : Sp) : Prop where
 st1 : 1 ≤ s.starts.length
 st6 : s.starts.length ≤ 6
 ru1 : 1 ≤ s.rules.length
 ru30 : s.rules.length ≤ 30
 form : ∀ x ∈ s.rules, formedR x.re = true
def OneS (s : Sp) : Prop := s.starts = [[109, 97, 105, 110]] ∧ s.rules.length = 1 ∧ ∀ x ∈ s.rules, OneR x 1
set_option maxHeartbeats 1000000 in
theorem Formed_fn (m : Mem) (cs : List Value) (s : Sp) (hs : spV m cs s) (hF : FewS s) : Fn0 Tryz.prog 20 [.agg (toArr cs)] m fun _ u => ∃ b, u = .bool b ∧ (b = true → FormS s) ∧ (OneS s → b = true) := by
 obtain ⟨A, n, c, A', n', c', rfl, h1, h2⟩ := hs
 obtain ⟨hn, hc, hm⟩ := h1.lens
 obtain ⟨hn', hc', hm'⟩ := h2.lens
 have hmx : maxLen = 9223372036854775807 := rfl
 have e1 := h1.elem
 refine Fn.enter (N := 52) hX Tryz.func20 rfl rfl (by show _ ≤ _; simp) (fun w0 hL => ?_)
 conv => whnf
 refine NewReq.mk hL ?_
 clear hL
 intro b1 w hL
 conv => whnf
 by_cases g1 : (n : Int) < 1
 ·conv => whnf
  repeat ((first | refine BrReq.yes g1 ?_ | (refine go1 ?_;try(clear hL;intro w hL))); conv => whnf)
  exact RetReq.mk hL.drop ⟨rfl, _, rfl, fun h => (by cases h), fun h => (by rw [hn, h.1] at g1; simp at g1)⟩
 by_cases g2 : (6 : Int) < n
 ·conv => whnf
  repeat ((first | refine BrReq.no g1 ?_ | refine BrReq.yes g2 ?_ | (refine go1 ?_;try(clear hL;intro w hL))); conv => whnf)
  exact RetReq.mk hL.drop ⟨rfl, _, rfl, fun h => (by cases h), fun h => (by rw [hn, h.1] at g2; simp at g2)⟩
 by_cases g3 : (n' : Int) < 1
 ·conv => whnf
  repeat ((first | refine BrReq.no g1 ?_ | refine BrReq.no g2 ?_ | refine BrReq.yes g3 ?_ | (refine go1 ?_;try(clear hL;intro w hL))); conv => whnf)
  exact RetReq.mk hL.drop ⟨rfl, _, rfl, fun h => (by cases h), fun h => (by have := h.2.1; omega)⟩
 by_cases g4 : (30 : Int) < n'
 ·conv => whnf
  repeat ((first | refine BrReq.no g1 ?_ | refine BrReq.no g2 ?_ | refine BrReq.no g3 ?_ | refine BrReq.yes g4 ?_ | (refine go1 ?_;try(clear hL;intro w hL))); conv => whnf)
  exact RetReq.mk hL.drop ⟨rfl, _, rfl, fun h => (by cases h), fun h => (by have := h.2.1; omega)⟩
 conv => whnf
 repeat ((first | refine BrReq.no g1 ?_ | refine BrReq.no g2 ?_ | refine BrReq.no g3 ?_ | refine BrReq.no g4 ?_ | (refine go1 ?_;try(clear hL;intro w hL))); conv => whnf)
 have hle := hL.le_add
 replace hL := hL.freeze
 generalize hm1 : m.add b1 _ = m1 at hL hle
 have hb : Cells m1 ⟨b1, 0, none⟩ [.slice A n c, .slice A' n' c'] := by rw [← hm1]; exact cells_add0 _
 clear hm1
 have k1 : Sl m1 1 isS (.slice A n c) s.starts := h1.le hle (fun _ _ _ h => h)
 have k2 : Sl m1 12 (ruV m1) (.slice A' n' c') s.rules := h2.le hle fun _ _ _ h => h.le hle
 have hb0 := hb 0 _ rfl
 have hb1 := hb 1 _ rfl
 conv => whnf
 repeat ((first | refine LdReq.one hX rfl rfl hL hb0 ?_ | (refine go1 ?_;try(clear hL;intro w hL))); conv => whnf)
 have hel := k1.elem
 have addr0 : ∀ z : Addr, z.add 0 = z := fun z => by cases z; rfl
 refine LoopReq.inv hX (fun j : Nat => [(30, .int .i64 j)]) [1, 28, 29]
  (fun j w => j ≤ n ∧ Ev.Loc m [] w0 m1 [] w) (fun j => n - j) 0
  ⟨by omega, hL⟩ ⟨rfl, trivial⟩ ?_
 clear hL
 rintro j w f ⟨hj, hL⟩
 refine go ?_;try(clear hL;intro w hL)
 refine BrReq.dec (fun hlt => ?_) (fun hlt => ?_)
 ·have hjl : j < s.starts.length := by omega
  obtain ⟨a, cs', rfl, hl1, hcells, hst⟩ := hel j _ (List.getElem?_eq_getElem hjl)
  have hnm := hF.names _ (List.getElem_mem hjl)
  have hone : OneS s → j = 0 ∧ s.starts[j] = [109, 97, 105, 110] := fun h => by
   have h0 : j = 0 := by rw [h.1] at hjl; simp at hjl; exact hjl
   subst h0
   have e := congrArg (fun l => l[0]?) h.1
   exact ⟨rfl, by simpa [List.getElem?_eq_getElem hjl] using e⟩
  generalize s.starts[j] = x at hst hnm hone
  have hst' : cs' = [.string (bs x)] := hst
  subst hst'
  have hc0 := hcells 0 _ rfl
  rw [addr0] at hc0
  have hsub := Sl.sub k1 (lo := 0) (hi := j) (Nat.zero_le _) (by omega)
  rw [List.drop_zero] at hsub
  have hct := containsS_fn m1 _ (s.starts.take j) x hsub
  conv => whnf
  repeat ((first | refine Idx2Req.mk j a rfl (by omega) rfl ?_ | refine LdReq.one hX rfl rfl hL hc0 ?_ | (refine go1 ?_;try(clear hL;intro w hL))); conv => whnf)
  refine CallReq.val (named_fn m1 x (by omega)) hL ?_
  clear hL
  intro w hL
  cases hnt : namedT x with
  | false =>
    refine go ?_;try(clear hL;intro w hL)
    refine RetReq.mk hL ⟨rfl, _, rfl, fun h => (by cases h), fun h => ?_⟩
    rw [(hone h).2] at hnt
    exact absurd hnt (by decide)
  | true =>
    conv => whnf
    repeat ((first | refine LdReq.one hX rfl rfl hL hb0 ?_ | refine SlReq.mk 0 j rfl rfl (by omega) (by omega) ?_ | (refine go1 ?_;try(clear hL;intro w hL))); conv => whnf)
    refine CallReq.val hct hL ?_
    clear hL
    intro w hL
    by_cases hin : x ∈ s.starts.take j
    ·rw [decide_eq_true hin]
     refine go ?_;try(clear hL;intro w hL)
     refine RetReq.mk hL ⟨rfl, _, rfl, fun h => (by cases h), fun h => ?_⟩
     rw [(hone h).1] at hin
     simp at hin
    ·rw [decide_eq_false hin]
     refine go ?_;try(clear hL;intro w hL)
     exact rnd (j + 1) ⟨by omega, hL⟩
 ·have hcr := containsR_fn m1 b1 (.slice A n c) (.slice A' n' c') (.slice A' n' c') n A c rfl hb s.rules k2 (fun x hx => (hF.res x hx).1)
  conv => whnf
  repeat ((first | refine LdReq.one hX rfl rfl hL hb1 ?_ | (refine go1 ?_;try(clear hL;intro w hL))); conv => whnf)
  refine CallReq.pure hcr hL ?_
  clear hL
  rintro u m2 w hL hm2 ⟨b, rfl, hb2, hb3⟩
  cases b with
  | true =>
    refine go ?_;try(clear hL;intro w hL)
    refine RetReq.mk hL ⟨rfl, _, rfl, fun h => (by cases h), fun h => ?_⟩
    have hn1 : n = 1 := by rw [hn, h.1]; rfl
    subst hn1
    exact absurd (hb3 h.2.2) (by decide)
  | false =>
    refine go ?_;try(clear hL;intro w hL)
    exact RetReq.mk hL ⟨rfl, _, rfl, fun _ => ⟨by omega, by omega, by omega, by omega, hb2 rfl⟩, fun _ => rfl⟩
end Go.Proofs.YtaooenndoopgdaaGreatDoor.lz
namespace Go.Ev
open Go
open Go.ChangeMaps (setBlock)
open Go.MapKept (run_setObj_map)
open Go.Maps (Keyed)
def entW : Nat → List (Value × Value) → List MapEntry
 | _, [] => []
 | b, x :: l => ⟨x.1, x.2, b⟩ :: entW (b + 1) l
def mapW (l : List (Value × Value)) : Obj := .map (entW 0 l).toArray l.length
theorem entW_get : ∀ (l : List (Value × Value)) (b i : Nat), (entW b l)[i]? = (l[i]?).map fun x => ⟨x.1, x.2, b + i⟩
 | [], _, _ => by simp [entW]
 | x :: l, b, i => by
   cases i with
   | zero => simp [entW]
   | succ i => simp only [entW, List.getElem?_cons_succ]; rw [entW_get l (b + 1) i]; congr 1; funext x; rw [show b + 1 + i = b + (i + 1) from by omega]
theorem entW_push (k v : Value) : ∀ (l : List (Value × Value)) (b : Nat), entW b (l ++ [(k, v)]) = entW b l ++ [⟨k, v, b + l.length⟩]
 | [], b => rfl
 | x :: l, b => by simp only [List.cons_append, entW, entW_push k v l (b + 1)]; rw [show b + 1 + l.length = b + (x :: l).length from by simp; omega]
theorem entW_set (k v : Value) : ∀ (l : List (Value × Value)) (b q : Nat), (entW b l).modify q (fun e => { e with key := k, val := v }) = entW b (l.set q (k, v))
 | [], b, q => by simp [entW]
 | x :: l, b, q => by
   cases q with
   | zero => simp [entW]
   | succ q => simp only [entW, List.set_cons_succ, List.modify_succ_cons, entW_set k v l (b + 1) q]
theorem entW_mem {l : List (Value × Value)} {b : Nat} {e : MapEntry} (h : e ∈ entW b l) : (e.key, e.val) ∈ l := by
 obtain ⟨q, hq⟩ := List.getElem?_of_mem h
 rw [entW_get] at hq
 cases hx : l[q]? with
 | none => rw [hx] at hq; cases hq
 | some x => rw [hx] at hq; simp at hq; subst hq; exact List.mem_of_getElem? hx
section
variable {P : Program} {X : Tab} {N : Nat} {m0 m : Mem} {S : List Nat} {w0 w : World} {L : Own}
def IsK (P : Program) (kt : TypeId) (k : Value) : Prop := ∃ l, keyOf P kt k = some l
theorem run_find {kt : TypeId} (hK : Keyed P kt) {k : Value} (hk : IsK P kt k) {l : List (Value × Value)} (hks : ∀ x ∈ l, IsK P kt x.1) (w : World) :
  ((Instr.findKey kt k (entW 0 l)).run P w = .ok none w ∧ ∀ x ∈ l, x.1 ≠ k) ∨ ∃ q v, (Instr.findKey kt k (entW 0 l)).run P w = .ok (some (q, v)) w ∧ l[q]? = some (k, v) := by
 obtain ⟨lx, hlx⟩ := hk
 rcases hK.find w hlx (entW 0 l) (fun e he => hks _ (entW_mem he)) with ⟨h1, h2⟩ | ⟨j, e, h1, h2, h3⟩
 ·refine .inl ⟨h1, fun x hx => ?_⟩
  obtain ⟨q, hq⟩ := List.getElem?_of_mem hx
  have : (entW 0 l)[q]? = some ⟨x.1, x.2, 0 + q⟩ := by rw [entW_get, hq]; rfl
  exact h2 _ (List.mem_of_getElem? this)
 ·refine .inr ⟨j, e.val, h1, ?_⟩
  rw [entW_get] at h2
  cases hx : l[j]? with
  | none => rw [hx] at h2; cases h2
  | some x => rw [hx] at h2; simp at h2; subst h2; simp at h3; subst h3; rfl
theorem RunReq.makeMapW {t : Nat} {K : Value → World → Prop} (hL : Loc m0 S w0 m L w)
  (h : ∀ b w', Loc m0 S w0 m ((b, mapW []) :: L) w' → K (.map (some b)) w') : RunReq P (Instr.makeMap t none) w K := by
 refine ⟨_, _, ?_, h w.heap.size (w.alloc (.map #[] 0)) (hL.alloc _)⟩
 simp [Instr.makeMap, Result.andThen]
theorem RunReq.lookW (hX : TabsOk P X) {t kt vt r : Nat} {ti : TI} (ht : look X.T t = some (some ti)) (hd : ti.d = .map kt vt) (hK : Keyed P kt) {c : Bool} {k z : Value} {l : List (Value × Value)} {K : Value → World → Prop}
  (hz0 : (P.info? vt).bind (·.zero) = some z) (hL : Loc m0 S w0 m L w) (hi : Lies L r (mapW l)) (hk : IsK P kt k) (hks : ∀ x ∈ l, IsK P kt x.1)
  (h0 : (∀ x ∈ l, x.1 ≠ k) → K (if c = true then .tuple (toArr [z, .bool false]) else z) w)
  (h1 : ∀ v, (k, v) ∈ l → K (if c = true then .tuple (toArr [v, .bool true]) else v) w) : RunReq P (Instr.lookup t (.map (some r)) k c) w K := by
 have hu := td_map (hX.t _ _ ht) hd
 obtain ⟨i, hi⟩ := hi.ex
 have hb : w.heap[r]? = some (.map (entW 0 l).toArray l.length) := hL.own _ (List.mem_of_getElem? (by rw [← look_eq]; exact hi))
 have hz : ∀ w, (zeroValue vt).run P w = .ok z w := by
  intro w
  cases hi : P.info? vt with
  | none => rw [hi] at hz0; cases hz0
  | some i => rw [hi] at hz0; simp only [Option.bind_some] at hz0; simp [zeroValue, run_typeInfo hi, hz0]
 have hc : ∀ em, (Instr.checkKey em 10000 kt k).run P w = .ok () w := fun em => by obtain ⟨lx, hlx⟩ := hk; exact hK.check w em hlx
 rcases run_find hK hk hks w with ⟨hf, hn⟩ | ⟨q, v, hf, hq⟩
 ·refine ⟨_, _, ?_, h0 hn⟩
  simp only [Instr.lookup, Sem.run_bind, run_underlying hu, Result.andThen_ok, rgm hb, Sem.run_pure, hc, hf, hz]
  rfl
 ·refine ⟨_, _, ?_, h1 v (List.mem_of_getElem? hq)⟩
  simp only [Instr.lookup, Sem.run_bind, run_underlying hu, Result.andThen_ok, rgm hb, Sem.run_pure, hc, hf]
  rfl
theorem RunUReq.updW (hX : TabsOk P X) {t kt vt r : Nat} {ti : TI} (ht : look X.T t = some (some ti)) (hd : ti.d = .map kt vt) (hK : Keyed P kt) {k v : Value} {l : List (Value × Value)} {K : World → Prop} (i : Nat)
  (hL : Loc m0 S w0 m L w) (hi : look L i = some (r, mapW l)) (hk : IsK P kt k) (hks : ∀ x ∈ l, IsK P kt x.1)
  (h0 : (∀ x ∈ l, x.1 ≠ k) → ∀ w', Loc m0 S w0 m (L.set i (r, mapW (l ++ [(k, v)]))) w' → K w')
  (h1 : ∀ q u, l[q]? = some (k, u) → ∀ w', Loc m0 S w0 m (L.set i (r, mapW (l.set q (k, v)))) w' → K w') : RunUReq P (Instr.mapUpdate t (.map (some r)) k v) w K := by
 have hu := td_map (hX.t _ _ ht) hd
 have hb : w.heap[r]? = some (.map (entW 0 l).toArray l.length) := hL.own _ (List.mem_of_getElem? (by rw [← look_eq]; exact hi))
 have hc : ∀ em, (Instr.checkKey em 10000 kt k).run P w = .ok () w := fun em => by obtain ⟨lx, hlx⟩ := hk; exact hK.check w em hlx
 have hst : (Instr.keyThatStays k k).run P w = .ok k w := by obtain ⟨lx, hlx⟩ := hk; exact hK.stays w hlx
 rcases run_find hK hk hks w with ⟨hf, hn⟩ | ⟨q, u, hf, hq⟩
 ·refine ⟨_, ?_, h0 hn _ (hL.setObj (o' := mapW (l ++ [(k, v)])) hi)⟩
  simp only [Instr.mapUpdate, Sem.run_bind, run_underlying hu, Result.andThen_ok, rgm hb, hc, hf]
  rw [run_setObj_map _ hb]
  simp only [setBlock, mapW, entW_push, Nat.zero_add, List.length_append, List.length_cons, List.length_nil, List.push_toArray]
 ·refine ⟨_, ?_, h1 q u hq _ (hL.setObj (o' := mapW (l.set q (k, v))) hi)⟩
  have hkey : (((entW 0 l).toArray[q]?).map (·.key)).getD k = k := by
   rw [List.getElem?_toArray, entW_get, hq]; simp
  simp only [Instr.mapUpdate, Sem.run_bind, run_underlying hu, Result.andThen_ok, rgm hb, hc, hf, hkey, hst]
  rw [run_setObj_map _ hb]
  simp only [setBlock, mapW, List.length_set]
  congr 3
  rw [← entW_set]
  simp
theorem UGenReq.nilPtrNe (hX : TabsOk P X) {o : Oper} {ρ : Operand → Value} {t yt : Nat} {x y : Operand} {a : Option Addr} {e : Nat} {ti : TI} {K : Value → Prop} (ho : o.op = .binOp .neq t x y yt) (hx : ρ x = .pointer a) (hy : ρ y = .pointer none)
  (ht : look X.T t = some (some ti)) (hd : ti.d = .ptr e) (h : K (.bool (!a.isNone))) : UGenReq P o ρ K := by
 have hex : execOp ρ o = (do pure (.value (← (do eqGuard .neq t x y (.pointer a) (.pointer none); binOp .neq t (.pointer a) (.pointer none) : Sem Value)))) := by
  simp only [execOp, ho, hx, hy]
 have hg : eqGuard .neq t x y (.pointer a) (.pointer none) = pure () := by simp [eqGuard]
 refine ⟨UOk.of_run (.bool (!a.isNone)) hex (fun w => ?_) h⟩
 rw [hg]
 simp only [Sem.run_bind, Sem.run_pure, Result.andThen_ok, binOp, run_eq_nilPtr (td_ptr (hX.t _ _ ht) hd)]
theorem QLdReq.ownC (hX : TabsOk P X) {t : Nat} {ti : TI} (ht : look X.T t = some (some ti)) (hd : ti.d.isAgg = false) {b o j : Nat} {cs : List Value} {te : TypeId} {fz : Nat × Nat} {v : Value} {K : Value → Prop}
  (hi : Lies L b (.cells (toArr cs) te fz)) (hv : cs[o + j]? = some v) (h : K v) : QLdReq P t (fun w => Loc m0 S w0 m L w) ((⟨b, o, none⟩ : Addr).add j) K := by
 rw [addr_add]
 exact zq hX ht hd hi (by rw [look_eq]; exact hv) h
theorem LdReq.ownC (hX : TabsOk P X) {t : Nat} {ti : TI} (ht : look X.T t = some (some ti)) (hd : ti.d.isAgg = false) {b o j : Nat} {cs : List Value} {te : TypeId} {fz : Nat × Nat} {v : Value} {K : Value → Prop}
  (hL : Loc m0 S w0 m L w) (hi : Lies L b (.cells (toArr cs) te fz)) (hv : cs[o + j]? = some v) (h : K v) : LdReq P t w ((⟨b, o, none⟩ : Addr).add j) K := by
 rw [addr_add]
 exact zl hX ht hd hL hi (by rw [look_eq]; exact hv) h
theorem alt2 {A B : Prop} (a : A) (b : B) : AltReq A B := ⟨⟨a, b⟩⟩
theorem LdReq.ownRow (hX : TabsOk P X) {t : Nat} {ti : TI} (ht : look X.T t = some (some ti)) (hd : ti.d.isAgg = true) {b o j : Nat} {cs r : List Value} {te : TypeId} {fz : Nat × Nat} {K : Value → Prop}
  (hL : Loc m0 S w0 m L w) (hi : Lies L b (.cells (toArr cs) te fz)) (hr : (cs.drop (o + j)).take ti.size = r) (hl : o + j + ti.size ≤ cs.length) (h : K (.agg (toArr r))) : LdReq P t w ((⟨b, o, none⟩ : Addr).add j) K := by
 rw [addr_add]
 subst hr
 exact zm hX ht hd hL hi (ble_of hl) h
theorem QLdReq.ownRow (hX : TabsOk P X) {t : Nat} {ti : TI} (ht : look X.T t = some (some ti)) (hd : ti.d.isAgg = true) {b o j : Nat} {cs r : List Value} {te : TypeId} {fz : Nat × Nat} {K : Value → Prop}
  (hi : Lies L b (.cells (toArr cs) te fz)) (hr : (cs.drop (o + j)).take ti.size = r) (hl : o + j + ti.size ≤ cs.length) (h : K (.agg (toArr r))) : QLdReq P t (fun w => Loc m0 S w0 m L w) ((⟨b, o, none⟩ : Addr).add j) K := by
 rw [addr_add]
 subst hr
 exact zr hX ht hd hi (ble_of hl) h
theorem OwnS.rowAt {te size n c : Nat} {A : Option Addr} {rows : List (List Value)} {L1 : Own} (h : OwnS te size (.slice A n c) rows.flatten L1) (hs : ∀ r ∈ rows, r.length = size) (h0 : 0 < size) {i : Nat} {r : List Value} (hi : rows[i]? = some r) :
  ∃ g cur, A = some ⟨g, 0, none⟩ ∧ L1 = [(g, .cells (toArr cur) te (0, 0))] ∧ (cur.drop (i * size)).take size = r ∧ i * size + size ≤ cur.length := by
 have hil := (List.getElem?_eq_some_iff.1 hi).1
 have hfl := flat_len rows hs
 obtain ⟨k, hk, ⟨e, h1, _⟩ | ⟨g, cap, cur, e, h1, h2, h3, h4, h5⟩⟩ := h
 ·cases e
  rw [hk, h1] at hfl
  have := Nat.mul_le_mul_right size (show 1 ≤ rows.length by omega)
  omega
 ·cases e
  have hle : (i + 1) * size ≤ rows.length * size := Nat.mul_le_mul_right size hil
  rw [Nat.succ_mul] at hle
  have hkc := Nat.mul_le_mul_right size h2
  refine ⟨g, cur, rfl, h1, ?_, by omega⟩
  apply List.ext_getElem?
  intro j
  rw [List.getElem?_take]
  have hrl := hs r (List.mem_of_getElem? hi)
  by_cases hj : j < size
  ·rw [if_pos hj, List.getElem?_drop]
   rw [← flat_get rows i j r hs hi hj, ← h5, List.getElem?_take_of_lt (by omega)]
  ·rw [if_neg hj, List.getElem?_eq_none (by omega)]
def FnL (P : Program) (f : Nat) (args : List Value) (m : Mem) (L : Own) (v : Value) : Prop := Fn P f args m L fun m' L' u => m' = m ∧ L' = L ∧ u = v
theorem CallReq.li {L1 L2 : Own} {f : Nat} {args : List Value} {v : Value} {K : Value → World → Prop} (h : FnL P f args m L1 v) (hL : Loc m0 S w0 m (L1 ++ L2) w)
  (k : ∀ w', Loc m0 S w0 m (L1 ++ L2) w' → K v w') : CallReq P f (toArr args) w K :=
 CallReq.mk h hL fun _ _ _ w' hl _ ⟨e1, e2, e3⟩ => by subst e1 e2 e3; exact k w' hl
theorem CallReq.lo {f : Nat} {args : List Value} {v : Value} {K : Value → World → Prop} (h : FnL P f args m L v) (hL : Loc m0 S w0 m L w)
  (k : ∀ w', Loc m0 S w0 m L w' → K v w') : CallReq P f (toArr args) w K :=
 CallReq.li (L2 := []) h (by rw [List.append_nil]; exact hL) fun w' hl => k w' (by rw [List.append_nil] at hl; exact hl)
def FnM (P : Program) (f : Nat) (args : List Value) (m : Mem) (L : Own) (v : Value) : Prop := Fn P f args m L fun _ L' u => L' = L ∧ u = v
theorem CallReq.lm {L1 L2 : Own} {f : Nat} {args : List Value} {v : Value} {K : Value → World → Prop} (h : FnM P f args m L1 v) (hL : Loc m0 S w0 m (L1 ++ L2) w)
  (k : ∀ m' w', Mem.Le m m' → Loc m0 S w0 m' (L1 ++ L2) w' → K v w') : CallReq P f (toArr args) w K :=
 CallReq.mk h hL fun _ m' _ w' hl hm ⟨e2, e3⟩ => by subst e2 e3; exact k m' w' hm hl
end
end Go.Ev
namespace Go.Proofs.YtaooenndoopgdaaGreatDoor.ar
open Go Go.Ev Go.Proofs
structure Nd where
 k : Int
 s0 : Int
 s1 : Int
 s2 : Int
 s3 : Int
 a : Int
 b : Int
 neg : Bool
 deriving DecidableEq
def ndC (x : Nd) : List Value := [.int .i64 x.k, .int .u64 x.s0, .int .u64 x.s1, .int .u64 x.s2, .int .u64 x.s3, .int .i64 x.a, .int .i64 x.b, .bool x.neg]
def nd0 : Nd := ⟨0, 0, 0, 0, 0, 0, 0, false⟩
theorem ndC_inj {x y : Nd} (h : ndC x = ndC y) : x = y := by
 cases x; cases y; simp [ndC] at h; simp [h]
theorem ndC_len (x : Nd) : (ndC x).length = 8 := rfl
def i64 (z : Int) : Prop := -9223372036854775808 ≤ z ∧ z ≤ 9223372036854775807
def u64 (z : Int) : Prop := 0 ≤ z ∧ z ≤ 18446744073709551615
structure InN (x : Nd) : Prop where
 k : i64 x.k
 s0 : u64 x.s0
 s1 : u64 x.s1
 s2 : u64 x.s2
 s3 : u64 x.s3
 a : i64 x.a
 b : i64 x.b
def rightN (x : Nd) (n : Nat) : Bool :=
 if x.k = 0 ∨ x.k = 1 then decide (⟨x.k, 0, 0, 0, 0, 0, 0, false⟩ = x)
 else if x.k = 2 then decide (⟨x.k, x.s0, x.s1, x.s2, x.s3, 0, 0, false⟩ = x)
 else if x.k = 3 ∨ x.k = 4 ∨ x.k = 5 then decide ((0 ≤ x.a ∧ x.a < n) ∧ (0 ≤ x.b ∧ x.b < n)) && decide (⟨x.k, 0, 0, 0, 0, x.a, x.b, false⟩ = x)
 else if x.k = 6 ∨ x.k = 7 then decide (0 ≤ x.a ∧ x.a < n) && decide (⟨x.k, 0, 0, 0, 0, x.a, 0, false⟩ = x)
 else if x.k = 8 then decide (0 ≤ x.a ∧ x.a < 4) && decide (⟨x.k, 0, 0, 0, 0, x.a, 0, x.neg⟩ = x)
 else false
def ndW : List Nd → Nat → List (Value × Value)
 | [], _ => []
 | x :: l, i => (.agg (toArr (ndC x)), .int .i64 i) :: ndW l (i + 1)
def arO (sl : Value) (mb : Nat) : Obj := .cells (toArr [sl, .map (some mb)]) 142 (0, 0)
theorem there_fn (m : Mem) (b2 ab mb n c : Nat) (A : Option Addr) (id : Int) :
  FnL Tryz.prog 249 [.int .i64 id, .pointer (some ⟨b2, 0, none⟩)] m [(b2, .cells (toArr [.pointer (some ⟨ab, 0, none⟩)]) 95 (0, 0)), (ab, arO (.slice A n c) mb)] (.bool (decide (0 ≤ id ∧ id < n))) := by
 refine Fn.enter (N := 15) hX Tryz.func249 rfl rfl (by show _ ≤ _; simp) (fun w0 hL => ?_)
 conv => whnf
 generalize keys [(b2, Obj.cells (toArr [.pointer (some ⟨ab, 0, none⟩)]) 95 (0, 0)), (ab, arO (.slice A n c) mb)] = S0 at hL ⊢
 refine go ?_;try(clear hL;intro w hL)
 by_cases h0 : 0 ≤ id
 ·conv => whnf
  repeat ((first | refine BrReq.yes (by omega) ?_ | (refine go1 ?_;try(clear hL;intro w hL))); conv => whnf)
  exact RetReq.mk hL ⟨rfl, rfl, congrArg Value.bool (decide_eq_decide.2 (by omega))⟩
 ·conv => whnf
  repeat ((first | refine BrReq.no (by omega) ?_ | (refine go1 ?_;try(clear hL;intro w hL))); conv => whnf)
  exact RetReq.mk hL ⟨rfl, rfl, congrArg Value.bool (decide_eq_false (by omega)).symm⟩
theorem eq_nd (x y : Nd) : eqB X 9 146 (ndC x) (ndC y) = some (decide (x = y)) := by
 obtain ⟨k, s0, s1, s2, s3, a, b, neg⟩ := x
 obtain ⟨k', s0', s1', s2', s3', a', b', neg'⟩ := y
 conv => lhs; whnf
 refine congrArg some ?_
 rw [Bool.eq_iff_iff]
 simp only [Bool.and_eq_true, decide_eq_true_eq, Bool.and_true, beq_iff_eq, Nd.mk.injEq]
 constructor
 ·rintro ⟨h1, ⟨h2, h3, h4, h5⟩, h6, h7, h8⟩; exact ⟨h1, h2, h3, h4, h5, h6, h7, h8⟩
 ·rintro ⟨h1, h2, h3, h4, h5, h6, h7, h8⟩; exact ⟨h1, ⟨h2, h3, h4, h5⟩, h6, h7, h8⟩
set_option maxHeartbeats 2000000 in
theorem right_fn (m : Mem) (ab mb n c : Nat) (A : Option Addr) (x : Nd) :
  FnL Tryz.prog 242 [.pointer (some ⟨ab, 0, none⟩), .agg (toArr (ndC x))] m [(ab, arO (.slice A n c) mb)] (.bool (rightN x n)) := by
 obtain ⟨k, s0, s1, s2, s3, a, b, neg⟩ := x
 refine Fn.enter (N := 80) hX Tryz.func242 rfl rfl (by show _ ≤ _; simp) (fun w0 hL => ?_)
 conv => whnf
 generalize keys [(ab, arO (.slice A n c) mb)] = S0 at hL ⊢
 refine NewReq.mk hL ?_
 clear hL
 intro b2 w hL
 conv => whnf
 refine NewReq.mk hL ?_
 clear hL
 intro b3 w hL
 conv => whnf
 refine go ?_;try(clear hL;intro w hL)
 refine NewReq.mk hL ?_
 clear hL
 intro b6 w hL
 conv => whnf
 refine go ?_;try(clear hL;intro w hL)
 have hL := Loc.back (L1 := [_, _]) (L2 := [_, _]) hL
 by_cases k0 : k = 0
 ·subst k0
  replace hL : Ev.Loc m S0 w0 m [(b2, .cells (toArr [.pointer (some ⟨ab, 0, none⟩)]) 95 (0, 0)), (ab, arO (.slice A n c) mb), (b6, .cells (toArr (ndC ⟨0, s0, s1, s2, s3, a, b, neg⟩)) 146 (0, 0)), (b3, .cells (toArr (ndC ⟨0, s0, s1, s2, s3, a, b, neg⟩)) 146 (0, 0))] w := hL
  conv => whnf
  repeat ((first | refine UGenReq.eqA hX (xs := ndC ⟨0, 0, 0, 0, 0, 0, 0, false⟩) (ys := ndC ⟨0, s0, s1, s2, s3, a, b, neg⟩) rfl rfl rfl Tryz.eqGuardType146 rfl rfl (eq_nd _ _) ?_ | (refine go1 ?_;try(clear hL;intro w hL))); conv => whnf)
  refine RetReq.mk (hL.sublist (.cons _ (.cons_cons _ (List.nil_sublist _)))) ⟨rfl, rfl, congrArg Value.bool ?_⟩
  rfl
 by_cases k1 : k = 1
 ·subst k1
  replace hL : Ev.Loc m S0 w0 m [(b2, .cells (toArr [.pointer (some ⟨ab, 0, none⟩)]) 95 (0, 0)), (ab, arO (.slice A n c) mb), (b6, .cells (toArr (ndC ⟨1, s0, s1, s2, s3, a, b, neg⟩)) 146 (0, 0)), (b3, .cells (toArr (ndC ⟨1, s0, s1, s2, s3, a, b, neg⟩)) 146 (0, 0))] w := hL
  conv => whnf
  repeat ((first | refine UGenReq.eqA hX (xs := ndC ⟨1, 0, 0, 0, 0, 0, 0, false⟩) (ys := ndC ⟨1, s0, s1, s2, s3, a, b, neg⟩) rfl rfl rfl Tryz.eqGuardType146 rfl rfl (eq_nd _ _) ?_ | (refine go1 ?_;try(clear hL;intro w hL))); conv => whnf)
  refine RetReq.mk (hL.sublist (.cons _ (.cons_cons _ (List.nil_sublist _)))) ⟨rfl, rfl, congrArg Value.bool ?_⟩
  rfl
 by_cases k2 : k = 2
 ·subst k2
  replace hL : Ev.Loc m S0 w0 m [(b2, .cells (toArr [.pointer (some ⟨ab, 0, none⟩)]) 95 (0, 0)), (ab, arO (.slice A n c) mb), (b6, .cells (toArr (ndC ⟨2, s0, s1, s2, s3, a, b, neg⟩)) 146 (0, 0)), (b3, .cells (toArr (ndC ⟨2, s0, s1, s2, s3, a, b, neg⟩)) 146 (0, 0))] w := hL
  conv => whnf
  repeat ((first | refine UGenReq.eqA hX (xs := ndC ⟨2, s0, s1, s2, s3, 0, 0, false⟩) (ys := ndC ⟨2, s0, s1, s2, s3, a, b, neg⟩) rfl rfl rfl Tryz.eqGuardType146 rfl rfl (eq_nd _ _) ?_ | (refine go1 ?_;try(clear hL;intro w hL))); conv => whnf)
  refine RetReq.mk (hL.sublist (.cons _ (.cons_cons _ (List.nil_sublist _)))) ⟨rfl, rfl, congrArg Value.bool ?_⟩
  rfl
 by_cases k3 : k = 3
 ·subst k3
  replace hL : Ev.Loc m S0 w0 m [(b2, .cells (toArr [.pointer (some ⟨ab, 0, none⟩)]) 95 (0, 0)), (ab, arO (.slice A n c) mb), (b6, .cells (toArr (ndC ⟨3, s0, s1, s2, s3, a, b, neg⟩)) 146 (0, 0)), (b3, .cells (toArr (ndC ⟨3, s0, s1, s2, s3, a, b, neg⟩)) 146 (0, 0))] w := hL
  refine go ?_;try(clear hL;intro w hL)
  replace hL : Ev.Loc m S0 w0 m ([(b2, .cells (toArr [.pointer (some ⟨ab, 0, none⟩)]) 95 (0, 0)), (ab, arO (.slice A n c) mb)] ++ [(b6, .cells (toArr (ndC ⟨3, 0, 0, 0, 0, a, b, false⟩)) 146 (0, 0)), (b3, .cells (toArr (ndC ⟨3, s0, s1, s2, s3, a, b, neg⟩)) 146 (0, 0))]) w := hL
  refine CallReq.li (there_fn m b2 ab mb n c A a) hL ?_
  clear hL
  intro w hL
  replace hL : Ev.Loc m S0 w0 m [(b2, .cells (toArr [.pointer (some ⟨ab, 0, none⟩)]) 95 (0, 0)), (ab, arO (.slice A n c) mb), (b6, .cells (toArr (ndC ⟨3, 0, 0, 0, 0, a, b, false⟩)) 146 (0, 0)), (b3, .cells (toArr (ndC ⟨3, s0, s1, s2, s3, a, b, neg⟩)) 146 (0, 0))] w := hL
  by_cases ha : 0 ≤ a ∧ a < n
  ·rw [decide_eq_true ha]
   refine go ?_;try(clear hL;intro w hL)
   replace hL : Ev.Loc m S0 w0 m ([(b2, .cells (toArr [.pointer (some ⟨ab, 0, none⟩)]) 95 (0, 0)), (ab, arO (.slice A n c) mb)] ++ [(b6, .cells (toArr (ndC ⟨3, 0, 0, 0, 0, a, b, false⟩)) 146 (0, 0)), (b3, .cells (toArr (ndC ⟨3, s0, s1, s2, s3, a, b, neg⟩)) 146 (0, 0))]) w := hL
   refine CallReq.li (there_fn m b2 ab mb n c A b) hL ?_
   clear hL
   intro w hL
   replace hL : Ev.Loc m S0 w0 m [(b2, .cells (toArr [.pointer (some ⟨ab, 0, none⟩)]) 95 (0, 0)), (ab, arO (.slice A n c) mb), (b6, .cells (toArr (ndC ⟨3, 0, 0, 0, 0, a, b, false⟩)) 146 (0, 0)), (b3, .cells (toArr (ndC ⟨3, s0, s1, s2, s3, a, b, neg⟩)) 146 (0, 0))] w := hL
   by_cases hb : 0 ≤ b ∧ b < n
   ·rw [decide_eq_true hb]
    conv => whnf
    repeat ((first | refine UGenReq.eqA hX (xs := ndC ⟨3, 0, 0, 0, 0, a, b, false⟩) (ys := ndC ⟨3, s0, s1, s2, s3, a, b, neg⟩) rfl rfl rfl Tryz.eqGuardType146 rfl rfl (eq_nd _ _) ?_ | (refine go1 ?_;try(clear hL;intro w hL))); conv => whnf)
    refine RetReq.mk (hL.sublist (.cons _ (.cons_cons _ (List.nil_sublist _)))) ⟨rfl, rfl, congrArg Value.bool ?_⟩
    show _ = (decide ((0 ≤ a ∧ a < n) ∧ (0 ≤ b ∧ b < n)) && _)
    rw [decide_eq_true (show (0 ≤ a ∧ a < n) ∧ (0 ≤ b ∧ b < n) from ⟨ha, hb⟩)]; rfl
   ·rw [decide_eq_false hb]
    refine go ?_;try(clear hL;intro w hL)
    refine RetReq.mk (hL.sublist (.cons _ (.cons_cons _ (List.nil_sublist _)))) ⟨rfl, rfl, congrArg Value.bool ?_⟩
    show _ = (decide ((0 ≤ a ∧ a < n) ∧ (0 ≤ b ∧ b < n)) && _)
    rw [decide_eq_false (fun h : (0 ≤ a ∧ a < n) ∧ (0 ≤ b ∧ b < n) => hb h.2)]; rfl
  ·rw [decide_eq_false ha]
   refine go ?_;try(clear hL;intro w hL)
   refine RetReq.mk (hL.sublist (.cons _ (.cons_cons _ (List.nil_sublist _)))) ⟨rfl, rfl, congrArg Value.bool ?_⟩
   show _ = (decide ((0 ≤ a ∧ a < n) ∧ (0 ≤ b ∧ b < n)) && _)
   rw [decide_eq_false (fun h : (0 ≤ a ∧ a < n) ∧ (0 ≤ b ∧ b < n) => ha h.1)]; rfl
 by_cases k4 : k = 4
 ·subst k4
  replace hL : Ev.Loc m S0 w0 m [(b2, .cells (toArr [.pointer (some ⟨ab, 0, none⟩)]) 95 (0, 0)), (ab, arO (.slice A n c) mb), (b6, .cells (toArr (ndC ⟨4, s0, s1, s2, s3, a, b, neg⟩)) 146 (0, 0)), (b3, .cells (toArr (ndC ⟨4, s0, s1, s2, s3, a, b, neg⟩)) 146 (0, 0))] w := hL
  refine go ?_;try(clear hL;intro w hL)
  replace hL : Ev.Loc m S0 w0 m ([(b2, .cells (toArr [.pointer (some ⟨ab, 0, none⟩)]) 95 (0, 0)), (ab, arO (.slice A n c) mb)] ++ [(b6, .cells (toArr (ndC ⟨4, 0, 0, 0, 0, a, b, false⟩)) 146 (0, 0)), (b3, .cells (toArr (ndC ⟨4, s0, s1, s2, s3, a, b, neg⟩)) 146 (0, 0))]) w := hL
  refine CallReq.li (there_fn m b2 ab mb n c A a) hL ?_
  clear hL
  intro w hL
  replace hL : Ev.Loc m S0 w0 m [(b2, .cells (toArr [.pointer (some ⟨ab, 0, none⟩)]) 95 (0, 0)), (ab, arO (.slice A n c) mb), (b6, .cells (toArr (ndC ⟨4, 0, 0, 0, 0, a, b, false⟩)) 146 (0, 0)), (b3, .cells (toArr (ndC ⟨4, s0, s1, s2, s3, a, b, neg⟩)) 146 (0, 0))] w := hL
  by_cases ha : 0 ≤ a ∧ a < n
  ·rw [decide_eq_true ha]
   refine go ?_;try(clear hL;intro w hL)
   replace hL : Ev.Loc m S0 w0 m ([(b2, .cells (toArr [.pointer (some ⟨ab, 0, none⟩)]) 95 (0, 0)), (ab, arO (.slice A n c) mb)] ++ [(b6, .cells (toArr (ndC ⟨4, 0, 0, 0, 0, a, b, false⟩)) 146 (0, 0)), (b3, .cells (toArr (ndC ⟨4, s0, s1, s2, s3, a, b, neg⟩)) 146 (0, 0))]) w := hL
   refine CallReq.li (there_fn m b2 ab mb n c A b) hL ?_
   clear hL
   intro w hL
   replace hL : Ev.Loc m S0 w0 m [(b2, .cells (toArr [.pointer (some ⟨ab, 0, none⟩)]) 95 (0, 0)), (ab, arO (.slice A n c) mb), (b6, .cells (toArr (ndC ⟨4, 0, 0, 0, 0, a, b, false⟩)) 146 (0, 0)), (b3, .cells (toArr (ndC ⟨4, s0, s1, s2, s3, a, b, neg⟩)) 146 (0, 0))] w := hL
   by_cases hb : 0 ≤ b ∧ b < n
   ·rw [decide_eq_true hb]
    conv => whnf
    repeat ((first | refine UGenReq.eqA hX (xs := ndC ⟨4, 0, 0, 0, 0, a, b, false⟩) (ys := ndC ⟨4, s0, s1, s2, s3, a, b, neg⟩) rfl rfl rfl Tryz.eqGuardType146 rfl rfl (eq_nd _ _) ?_ | (refine go1 ?_;try(clear hL;intro w hL))); conv => whnf)
    refine RetReq.mk (hL.sublist (.cons _ (.cons_cons _ (List.nil_sublist _)))) ⟨rfl, rfl, congrArg Value.bool ?_⟩
    show _ = (decide ((0 ≤ a ∧ a < n) ∧ (0 ≤ b ∧ b < n)) && _)
    rw [decide_eq_true (show (0 ≤ a ∧ a < n) ∧ (0 ≤ b ∧ b < n) from ⟨ha, hb⟩)]; rfl
   ·rw [decide_eq_false hb]
    refine go ?_;try(clear hL;intro w hL)
    refine RetReq.mk (hL.sublist (.cons _ (.cons_cons _ (List.nil_sublist _)))) ⟨rfl, rfl, congrArg Value.bool ?_⟩
    show _ = (decide ((0 ≤ a ∧ a < n) ∧ (0 ≤ b ∧ b < n)) && _)
    rw [decide_eq_false (fun h : (0 ≤ a ∧ a < n) ∧ (0 ≤ b ∧ b < n) => hb h.2)]; rfl
  ·rw [decide_eq_false ha]
   refine go ?_;try(clear hL;intro w hL)
   refine RetReq.mk (hL.sublist (.cons _ (.cons_cons _ (List.nil_sublist _)))) ⟨rfl, rfl, congrArg Value.bool ?_⟩
   show _ = (decide ((0 ≤ a ∧ a < n) ∧ (0 ≤ b ∧ b < n)) && _)
   rw [decide_eq_false (fun h : (0 ≤ a ∧ a < n) ∧ (0 ≤ b ∧ b < n) => ha h.1)]; rfl
 by_cases k5 : k = 5
 ·subst k5
  replace hL : Ev.Loc m S0 w0 m [(b2, .cells (toArr [.pointer (some ⟨ab, 0, none⟩)]) 95 (0, 0)), (ab, arO (.slice A n c) mb), (b6, .cells (toArr (ndC ⟨5, s0, s1, s2, s3, a, b, neg⟩)) 146 (0, 0)), (b3, .cells (toArr (ndC ⟨5, s0, s1, s2, s3, a, b, neg⟩)) 146 (0, 0))] w := hL
  refine go ?_;try(clear hL;intro w hL)
  replace hL : Ev.Loc m S0 w0 m ([(b2, .cells (toArr [.pointer (some ⟨ab, 0, none⟩)]) 95 (0, 0)), (ab, arO (.slice A n c) mb)] ++ [(b6, .cells (toArr (ndC ⟨5, 0, 0, 0, 0, a, b, false⟩)) 146 (0, 0)), (b3, .cells (toArr (ndC ⟨5, s0, s1, s2, s3, a, b, neg⟩)) 146 (0, 0))]) w := hL
  refine CallReq.li (there_fn m b2 ab mb n c A a) hL ?_
  clear hL
  intro w hL
  replace hL : Ev.Loc m S0 w0 m [(b2, .cells (toArr [.pointer (some ⟨ab, 0, none⟩)]) 95 (0, 0)), (ab, arO (.slice A n c) mb), (b6, .cells (toArr (ndC ⟨5, 0, 0, 0, 0, a, b, false⟩)) 146 (0, 0)), (b3, .cells (toArr (ndC ⟨5, s0, s1, s2, s3, a, b, neg⟩)) 146 (0, 0))] w := hL
  by_cases ha : 0 ≤ a ∧ a < n
  ·rw [decide_eq_true ha]
   refine go ?_;try(clear hL;intro w hL)
   replace hL : Ev.Loc m S0 w0 m ([(b2, .cells (toArr [.pointer (some ⟨ab, 0, none⟩)]) 95 (0, 0)), (ab, arO (.slice A n c) mb)] ++ [(b6, .cells (toArr (ndC ⟨5, 0, 0, 0, 0, a, b, false⟩)) 146 (0, 0)), (b3, .cells (toArr (ndC ⟨5, s0, s1, s2, s3, a, b, neg⟩)) 146 (0, 0))]) w := hL
   refine CallReq.li (there_fn m b2 ab mb n c A b) hL ?_
   clear hL
   intro w hL
   replace hL : Ev.Loc m S0 w0 m [(b2, .cells (toArr [.pointer (some ⟨ab, 0, none⟩)]) 95 (0, 0)), (ab, arO (.slice A n c) mb), (b6, .cells (toArr (ndC ⟨5, 0, 0, 0, 0, a, b, false⟩)) 146 (0, 0)), (b3, .cells (toArr (ndC ⟨5, s0, s1, s2, s3, a, b, neg⟩)) 146 (0, 0))] w := hL
   by_cases hb : 0 ≤ b ∧ b < n
   ·rw [decide_eq_true hb]
    conv => whnf
    repeat ((first | refine UGenReq.eqA hX (xs := ndC ⟨5, 0, 0, 0, 0, a, b, false⟩) (ys := ndC ⟨5, s0, s1, s2, s3, a, b, neg⟩) rfl rfl rfl Tryz.eqGuardType146 rfl rfl (eq_nd _ _) ?_ | (refine go1 ?_;try(clear hL;intro w hL))); conv => whnf)
    refine RetReq.mk (hL.sublist (.cons _ (.cons_cons _ (List.nil_sublist _)))) ⟨rfl, rfl, congrArg Value.bool ?_⟩
    show _ = (decide ((0 ≤ a ∧ a < n) ∧ (0 ≤ b ∧ b < n)) && _)
    rw [decide_eq_true (show (0 ≤ a ∧ a < n) ∧ (0 ≤ b ∧ b < n) from ⟨ha, hb⟩)]; rfl
   ·rw [decide_eq_false hb]
    refine go ?_;try(clear hL;intro w hL)
    refine RetReq.mk (hL.sublist (.cons _ (.cons_cons _ (List.nil_sublist _)))) ⟨rfl, rfl, congrArg Value.bool ?_⟩
    show _ = (decide ((0 ≤ a ∧ a < n) ∧ (0 ≤ b ∧ b < n)) && _)
    rw [decide_eq_false (fun h : (0 ≤ a ∧ a < n) ∧ (0 ≤ b ∧ b < n) => hb h.2)]; rfl
  ·rw [decide_eq_false ha]
   refine go ?_;try(clear hL;intro w hL)
   refine RetReq.mk (hL.sublist (.cons _ (.cons_cons _ (List.nil_sublist _)))) ⟨rfl, rfl, congrArg Value.bool ?_⟩
   show _ = (decide ((0 ≤ a ∧ a < n) ∧ (0 ≤ b ∧ b < n)) && _)
   rw [decide_eq_false (fun h : (0 ≤ a ∧ a < n) ∧ (0 ≤ b ∧ b < n) => ha h.1)]; rfl
 by_cases k6 : k = 6
 ·subst k6
  replace hL : Ev.Loc m S0 w0 m [(b2, .cells (toArr [.pointer (some ⟨ab, 0, none⟩)]) 95 (0, 0)), (ab, arO (.slice A n c) mb), (b6, .cells (toArr (ndC ⟨6, s0, s1, s2, s3, a, b, neg⟩)) 146 (0, 0)), (b3, .cells (toArr (ndC ⟨6, s0, s1, s2, s3, a, b, neg⟩)) 146 (0, 0))] w := hL
  refine go ?_;try(clear hL;intro w hL)
  replace hL : Ev.Loc m S0 w0 m ([(b2, .cells (toArr [.pointer (some ⟨ab, 0, none⟩)]) 95 (0, 0)), (ab, arO (.slice A n c) mb)] ++ [(b6, .cells (toArr (ndC ⟨6, 0, 0, 0, 0, a, 0, false⟩)) 146 (0, 0)), (b3, .cells (toArr (ndC ⟨6, s0, s1, s2, s3, a, b, neg⟩)) 146 (0, 0))]) w := hL
  refine CallReq.li (there_fn m b2 ab mb n c A a) hL ?_
  clear hL
  intro w hL
  replace hL : Ev.Loc m S0 w0 m [(b2, .cells (toArr [.pointer (some ⟨ab, 0, none⟩)]) 95 (0, 0)), (ab, arO (.slice A n c) mb), (b6, .cells (toArr (ndC ⟨6, 0, 0, 0, 0, a, 0, false⟩)) 146 (0, 0)), (b3, .cells (toArr (ndC ⟨6, s0, s1, s2, s3, a, b, neg⟩)) 146 (0, 0))] w := hL
  by_cases ha : 0 ≤ a ∧ a < n
  ·rw [decide_eq_true ha]
   conv => whnf
   repeat ((first | refine UGenReq.eqA hX (xs := ndC ⟨6, 0, 0, 0, 0, a, 0, false⟩) (ys := ndC ⟨6, s0, s1, s2, s3, a, b, neg⟩) rfl rfl rfl Tryz.eqGuardType146 rfl rfl (eq_nd _ _) ?_ | (refine go1 ?_;try(clear hL;intro w hL))); conv => whnf)
   refine RetReq.mk (hL.sublist (.cons _ (.cons_cons _ (List.nil_sublist _)))) ⟨rfl, rfl, congrArg Value.bool ?_⟩
   show _ = (decide (0 ≤ a ∧ a < n) && _)
   rw [decide_eq_true ha]; rfl
  ·rw [decide_eq_false ha]
   refine go ?_;try(clear hL;intro w hL)
   refine RetReq.mk (hL.sublist (.cons _ (.cons_cons _ (List.nil_sublist _)))) ⟨rfl, rfl, congrArg Value.bool ?_⟩
   show _ = (decide (0 ≤ a ∧ a < n) && _)
   rw [decide_eq_false ha]; rfl
 by_cases k7 : k = 7
 ·subst k7
  replace hL : Ev.Loc m S0 w0 m [(b2, .cells (toArr [.pointer (some ⟨ab, 0, none⟩)]) 95 (0, 0)), (ab, arO (.slice A n c) mb), (b6, .cells (toArr (ndC ⟨7, s0, s1, s2, s3, a, b, neg⟩)) 146 (0, 0)), (b3, .cells (toArr (ndC ⟨7, s0, s1, s2, s3, a, b, neg⟩)) 146 (0, 0))] w := hL
  refine go ?_;try(clear hL;intro w hL)
  replace hL : Ev.Loc m S0 w0 m ([(b2, .cells (toArr [.pointer (some ⟨ab, 0, none⟩)]) 95 (0, 0)), (ab, arO (.slice A n c) mb)] ++ [(b6, .cells (toArr (ndC ⟨7, 0, 0, 0, 0, a, 0, false⟩)) 146 (0, 0)), (b3, .cells (toArr (ndC ⟨7, s0, s1, s2, s3, a, b, neg⟩)) 146 (0, 0))]) w := hL
  refine CallReq.li (there_fn m b2 ab mb n c A a) hL ?_
  clear hL
  intro w hL
  replace hL : Ev.Loc m S0 w0 m [(b2, .cells (toArr [.pointer (some ⟨ab, 0, none⟩)]) 95 (0, 0)), (ab, arO (.slice A n c) mb), (b6, .cells (toArr (ndC ⟨7, 0, 0, 0, 0, a, 0, false⟩)) 146 (0, 0)), (b3, .cells (toArr (ndC ⟨7, s0, s1, s2, s3, a, b, neg⟩)) 146 (0, 0))] w := hL
  by_cases ha : 0 ≤ a ∧ a < n
  ·rw [decide_eq_true ha]
   conv => whnf
   repeat ((first | refine UGenReq.eqA hX (xs := ndC ⟨7, 0, 0, 0, 0, a, 0, false⟩) (ys := ndC ⟨7, s0, s1, s2, s3, a, b, neg⟩) rfl rfl rfl Tryz.eqGuardType146 rfl rfl (eq_nd _ _) ?_ | (refine go1 ?_;try(clear hL;intro w hL))); conv => whnf)
   refine RetReq.mk (hL.sublist (.cons _ (.cons_cons _ (List.nil_sublist _)))) ⟨rfl, rfl, congrArg Value.bool ?_⟩
   show _ = (decide (0 ≤ a ∧ a < n) && _)
   rw [decide_eq_true ha]; rfl
  ·rw [decide_eq_false ha]
   refine go ?_;try(clear hL;intro w hL)
   refine RetReq.mk (hL.sublist (.cons _ (.cons_cons _ (List.nil_sublist _)))) ⟨rfl, rfl, congrArg Value.bool ?_⟩
   show _ = (decide (0 ≤ a ∧ a < n) && _)
   rw [decide_eq_false ha]; rfl
 by_cases k8 : k = 8
 ·subst k8
  replace hL : Ev.Loc m S0 w0 m [(b2, .cells (toArr [.pointer (some ⟨ab, 0, none⟩)]) 95 (0, 0)), (ab, arO (.slice A n c) mb), (b6, .cells (toArr (ndC ⟨8, s0, s1, s2, s3, a, b, neg⟩)) 146 (0, 0)), (b3, .cells (toArr (ndC ⟨8, s0, s1, s2, s3, a, b, neg⟩)) 146 (0, 0))] w := hL
  refine go ?_;try(clear hL;intro w hL)
  by_cases ha : 0 ≤ a
  ·by_cases ha4 : a < 4
   ·conv => whnf
    repeat ((first | (refine BrReq.no (by simp only; omega) ?_) | (refine go1 ?_;try(clear hL;intro w hL))); conv => whnf)
    conv => whnf
    repeat ((first | refine UGenReq.eqA hX (xs := ndC ⟨8, 0, 0, 0, 0, a, 0, neg⟩) (ys := ndC ⟨8, s0, s1, s2, s3, a, b, neg⟩) rfl rfl rfl Tryz.eqGuardType146 rfl rfl (eq_nd _ _) ?_ | (refine go1 ?_;try(clear hL;intro w hL))); conv => whnf)
    refine RetReq.mk (hL.sublist (.cons _ (.cons_cons _ (List.nil_sublist _)))) ⟨rfl, rfl, congrArg Value.bool ?_⟩
    show _ = (decide (0 ≤ a ∧ a < 4) && _)
    rw [decide_eq_true (show 0 ≤ a ∧ a < 4 from ⟨ha, ha4⟩)]; rfl
   ·conv => whnf
    repeat ((first | (refine BrReq.no (by simp only; omega) ?_) | (refine go1 ?_;try(clear hL;intro w hL))); conv => whnf)
    refine BrReq.yes (by simp only; omega) ?_
    refine go ?_;try(clear hL;intro w hL)
    refine RetReq.mk (hL.sublist (.cons _ (.cons_cons _ (List.nil_sublist _)))) ⟨rfl, rfl, congrArg Value.bool ?_⟩
    show _ = (decide (0 ≤ a ∧ a < 4) && _)
    rw [decide_eq_false (fun h : 0 ≤ a ∧ a < 4 => ha4 h.2)]; rfl
  ·conv => whnf
   repeat ((first | (refine BrReq.yes (by simp only; omega) ?_) | (refine go1 ?_;try(clear hL;intro w hL))); conv => whnf)
   refine RetReq.mk (hL.sublist (.cons _ (.cons_cons _ (List.nil_sublist _)))) ⟨rfl, rfl, congrArg Value.bool ?_⟩
   show _ = (decide (0 ≤ a ∧ a < 4) && _)
   rw [decide_eq_false (fun h : 0 ≤ a ∧ a < 4 => ha h.1)]; rfl
 replace hL : Ev.Loc m S0 w0 m [(b2, .cells (toArr [.pointer (some ⟨ab, 0, none⟩)]) 95 (0, 0)), (ab, arO (.slice A n c) mb), (b6, .cells (toArr (ndC ⟨k, s0, s1, s2, s3, a, b, neg⟩)) 146 (0, 0)), (b3, .cells (toArr (ndC ⟨k, s0, s1, s2, s3, a, b, neg⟩)) 146 (0, 0))] w := hL
 conv => whnf
 repeat ((first | refine BrReq.no (by omega) ?_ | (refine go1 ?_;try(clear hL;intro w hL))); conv => whnf)
 refine RetReq.mk (hL.sublist (.cons _ (.cons_cons _ (List.nil_sublist _)))) ⟨rfl, rfl, congrArg Value.bool ?_⟩
 unfold rightN
 rw [if_neg (show ¬ (k = 0 ∨ k = 1) by omega), if_neg (show ¬ k = 2 from k2), if_neg (show ¬ (k = 3 ∨ k = 4 ∨ k = 5) by omega), if_neg (show ¬ (k = 6 ∨ k = 7) by omega), if_neg (show ¬ k = 8 from k8)]
end Go.Proofs.YtaooenndoopgdaaGreatDoor.ar
namespace Go.Proofs.YtaooenndoopgdaaGreatDoor.ar
open Go Go.Ev Go.Proofs
open Go.Maps (Keyed)
theorem key_nd : Keyed Tryz.prog 146 := Keyed.of_law (deep_law_laid (m := 4) (by kernel_rfl) (by omega) (of_decide_eq_true (by kernel_rfl)) (by kernel_rfl) (by rw [Tryz.underlying146]))
theorem key_int : Keyed Tryz.prog 3 := Go.Maps.int_keyed Tryz.underlying3
theorem isK_int (z : Int) (h : i64 z) : IsK Tryz.prog 3 (.int .i64 z) := ⟨_, Go.Maps.keyOf_int_mk Tryz.underlying3 (by unfold Lit.wf; simp only [Bool.and_eq_true, decide_eq_true_eq]; exact h)⟩
theorem wf_i {z : Int} (h : i64 z) : (Lit.int .i64 z).wf = true := by unfold Lit.wf; simp only [Bool.and_eq_true, decide_eq_true_eq]; exact h
theorem wf_u {z : Int} (h : u64 z) : (Lit.int .u64 z).wf = true := by unfold Lit.wf; simp only [Bool.and_eq_true, decide_eq_true_eq]; exact h
theorem lit_i (d : Nat) {z : Int} (h : i64 z) : Tryz.prog.keyLits (d + 1) 3 [.int .i64 z] = some [.int .i64 z] := by
 unfold Program.keyLits
 simp only [Tryz.underlying3]
 exact if_pos ⟨trivial, wf_i h⟩
theorem lit_u (d : Nat) {z : Int} (h : u64 z) : Tryz.prog.keyLits (d + 1) 48 [.int .u64 z] = some [.int .u64 z] := by
 unfold Program.keyLits
 simp only [Tryz.underlying48]
 exact if_pos ⟨trivial, wf_u h⟩
theorem lit_b (d : Nat) (b : Bool) : Tryz.prog.keyLits (d + 1) 4 [.bool b] = some [.bool b] := by
 unfold Program.keyLits
 simp only [Tryz.underlying4]
theorem lit_set (d : Nat) {a b c e : Int} (h1 : u64 a) (h2 : u64 b) (h3 : u64 c) (h4 : u64 e) :
  Tryz.prog.keyLits (d + 2) 50 [.int .u64 a, .int .u64 b, .int .u64 c, .int .u64 e] = some [.int .u64 a, .int .u64 b, .int .u64 c, .int .u64 e] := by
 have c1 : Tryz.prog.cellsOf 48 = 1 := by kernel_rfl
 have c4 : Tryz.prog.cellsOf 50 = 4 := by kernel_rfl
 unfold Program.keyLits
 simp only [Tryz.underlying50]
 simp only [c1, c4, List.length_cons, List.length_nil, if_true, List.range, List.range.loop, List.mapM_cons, List.mapM_nil, Nat.mul_one, List.drop_zero, List.drop_succ_cons, List.take_succ_cons, List.take_zero, lit_u _ h1, lit_u _ h2, lit_u _ h3, lit_u _ h4]
 rfl
theorem lits_nd (d : Nat) (x : Nd) (h : InN x) : Tryz.prog.keyLits (d + 4) 146 (ndC x) = some [.int .i64 x.k, .int .u64 x.s0, .int .u64 x.s1, .int .u64 x.s2, .int .u64 x.s3, .int .i64 x.a, .int .i64 x.b, .bool x.neg] := by
 have c1 : Tryz.prog.cellsOf 3 = 1 := by kernel_rfl
 have c4 : Tryz.prog.cellsOf 50 = 4 := by kernel_rfl
 have c2 : Tryz.prog.cellsOf 4 = 1 := by kernel_rfl
 have c8 : Tryz.prog.cellsOf 146 = 8 := by kernel_rfl
 unfold Program.keyLits
 simp only [Tryz.underlying146]
 simp only [c8, ndC_len]
 rw [if_pos ⟨trivial, by decide +kernel⟩]
 simp only [List.mapM_cons, List.mapM_nil, c1, c2, c4, ndC, List.drop_zero, List.drop_succ_cons, List.take_succ_cons, List.take_zero, lit_i _ h.k, lit_set _ h.s0 h.s1 h.s2 h.s3, lit_i _ h.a, lit_i _ h.b, lit_b]
 rfl
theorem isK_nd (x : Nd) (h : InN x) : IsK Tryz.prog 146 (.agg (toArr (ndC x))) := by
 have hk : Tryz.prog.keyType 146 = true := by kernel_rfl
 have hs : ∃ d, Tryz.prog.types.size + 1 = d + 4 := ⟨Tryz.prog.types.size - 3, by have : 4 ≤ Tryz.prog.types.size := of_decide_eq_true (by kernel_rfl); omega⟩
 have c8 : Tryz.prog.cellsOf 146 = 8 := by kernel_rfl
 obtain ⟨d, hd⟩ := hs
 have hf : (Value.agg (toArr (ndC x))).formed Tryz.prog 146 = true := by
  unfold Value.formed
  rw [Tryz.underlying146]
  simp only [c8]; rfl
 have hl := lits_nd d x h
 refine ⟨.string (keyBytes [.int .i64 x.k, .int .u64 x.s0, .int .u64 x.s1, .int .u64 x.s2, .int .u64 x.s3, .int .i64 x.a, .int .i64 x.b, .bool x.neg]), ?_⟩
 unfold keyOf
 rw [Tryz.underlying146]
 simp only [hk, hf, Bool.and_true, if_true, hd]
 rw [show (Value.agg (toArr (ndC x))).cells.toList = ndC x from rfl, hl]
 rfl
theorem ndW_keys {ns : List Nd} (h : ∀ x ∈ ns, InN x) : ∀ i, ∀ y ∈ ndW ns i, IsK Tryz.prog 146 y.1 := by
 induction ns with
 | nil => intro i y hy; simp [ndW] at hy
 | cons a l ih =>
   intro i y hy
   rcases List.mem_cons.1 hy with rfl | hy
   ·exact isK_nd a (h a (by simp))
   ·exact ih (fun x hx => h x (by simp [hx])) _ y hy
end Go.Proofs.YtaooenndoopgdaaGreatDoor.ar
namespace Go.Proofs.YtaooenndoopgdaaGreatDoor.tabs
open Go Go.Ev Go.Proofs
theorem tdiv_nat (a k : Nat) : (a : Int).tdiv (k : Int) = ((a / k : Nat) : Int) := by
 rw [Int.tdiv_eq_ediv_of_nonneg (by omega)]; rfl
theorem tmod_nat (a k : Nat) : (a : Int).tmod (k : Int) = ((a % k : Nat) : Int) := by
 rw [Int.tmod_eq_emod_of_nonneg (by omega)]; rfl
theorem DivReq.i64 {a k : Nat} {b : Int} {K : Int → Prop} (hb : b = (k : Int)) (hk : 0 < k) (ha : a ≤ 9223372036854775807) (h : K ((a / k : Nat) : Int)) : DivReq .i64 a b K := by
 subst hb
 have := Nat.div_le_self a k
 exact DivReq.mk (by omega) (by rw [tdiv_nat]; generalize a / k = q at this; exact wrap_keep .i64 (by show -9223372036854775808 ≤ _; omega) (by show _ ≤ (9223372036854775807 : Int); omega)) h
theorem DivReq.u64 {a k : Nat} {b : Int} {K : Int → Prop} (hb : b = (k : Int)) (hk : 0 < k) (ha : a ≤ 18446744073709551615) (h : K ((a / k : Nat) : Int)) : DivReq .u64 a b K := by
 subst hb
 have := Nat.div_le_self a k
 exact DivReq.mk (by omega) (by rw [tdiv_nat]; generalize a / k = q at this; exact wrap_keep .u64 (by show 0 ≤ _; omega) (by show _ ≤ (18446744073709551615 : Int); omega)) h
theorem RemReq.nat {a k : Nat} {b : Int} {K : Int → Prop} (hb : b = (k : Int)) (hk : 0 < k) (h : K ((a % k : Nat) : Int)) : RemReq a b K := by
 subst hb
 exact RemReq.mk (by omega) (tmod_nat a k) h
def selR (s0 s1 s2 s3 : Int) (q : Nat) : Int := if q = 0 then s0 else if q = 1 then s1 else if q = 2 then s2 else s3
def hasR (s0 s1 s2 s3 : Int) (b : Nat) : Bool := decide ((selR s0 s1 s2 s3 (b / 64)).toNat / 2 ^ (b % 64) % 2 = 1)
end Go.Proofs.YtaooenndoopgdaaGreatDoor.tabs
namespace Go.Proofs.YtaooenndoopgdaaGreatDoor.tabs
open Go Go.Ev Go.Proofs
theorem ofInt_nat {n : Nat} (a : Nat) : BitVec.ofInt n (a : Int) = BitVec.ofNat n a := by
 apply BitVec.eq_of_toNat_eq
 rw [BitVec.toNat_ofInt, BitVec.toNat_ofNat]
 omega
theorem wrap_nat {k : IntKind} {a : Nat} (h0 : k.min ≤ 0) (h : (a : Int) ≤ k.max) : k.wrap (a : Int) = (a : Int) := wrap_keep k (by omega) h
theorem and1_u64 {a : Nat} (ha : a ≤ 18446744073709551615) : bitsOf .and .u64 (a : Int) 1 = ((a % 2 : Nat) : Int) := by
 have h : (BitVec.ofInt 64 (a : Int) &&& BitVec.ofInt 64 ((1 : Nat) : Int)).toNat = a % 2 := by
  rw [ofInt_nat, ofInt_nat, BitVec.toNat_and, BitVec.toNat_ofNat, BitVec.toNat_ofNat, Nat.mod_eq_of_lt (by omega), Nat.mod_eq_of_lt (by omega), Nat.and_one_is_mod]
 show IntKind.wrap .u64 ((BitVec.ofInt 64 (a : Int) &&& BitVec.ofInt 64 ((1 : Nat) : Int)).toNat : Int) = _
 rw [h]
 exact wrap_nat (by decide) (by show _ ≤ (18446744073709551615 : Int); omega)
def in64 (s : Int) : Prop := 0 ≤ s ∧ s ≤ 18446744073709551615
theorem setHas_fn (m : Mem) (s0 s1 s2 s3 : Int) (h0 : in64 s0) (h1 : in64 s1) (h2 : in64 s2) (h3 : in64 s3) (b : Nat) (hb : b < 256) :
  FnV Tryz.prog 105 [.agg (toArr [.int .u64 s0, .int .u64 s1, .int .u64 s2, .int .u64 s3]), .int .u8 b] m (.bool (hasR s0 s1 s2 s3 b)) := by
 unfold in64 at h0 h1 h2 h3
 obtain ⟨x, hx, hxm⟩ : ∃ x : Nat, selR s0 s1 s2 s3 (b / 64) = x ∧ x ≤ 18446744073709551615 := by
  refine ⟨(selR s0 s1 s2 s3 (b / 64)).toNat, ?_, ?_⟩ <;> unfold selR <;> split <;> (try split) <;> (try split) <;> omega
 have hsel : Ev.look [Value.int .u64 s0, .int .u64 s1, .int .u64 s2, .int .u64 s3] (b / 64) = some (.int .u64 x) := by
  rw [← hx]
  have : b / 64 = 0 ∨ b / 64 = 1 ∨ b / 64 = 2 ∨ b / 64 = 3 := by omega
  rcases this with e | e | e | e <;> rw [e] <;> rfl
 have hsx : x >>> (b % 64) ≤ x := by rw [Nat.shiftRight_eq_div_pow]; exact Nat.div_le_self _ _
 refine Fn.enter (N := 14) hX Tryz.func105 rfl rfl (by show _ ≤ _; simp) (fun w0 hL => ?_)
 conv => whnf
 refine NewReq.mk hL ?_
 clear hL
 intro b2 w hL
 conv => whnf
 refine go ?_;try(clear hL;intro w hL)
 refine DivReq.mk (n := ((b / 64 : Nat) : Int)) (by decide) (by rw [show ((64 : Int)) = ((64 : Nat) : Int) from rfl, tdiv_nat]; exact wrap_nat (by decide) (by show _ ≤ (255 : Int); omega)) ?_
 conv => whnf
 repeat ((first | refine IdxReq.mk (b / 64) rfl (by omega) ?_ | (refine LdReq.ownAt hX rfl rfl 0 hL rfl (v := .int .u64 x) (by rw [← look_eq, scale_eq, Nat.zero_add, Nat.mul_one]; exact hsel) ?_) | (refine go1 ?_;try(clear hL;intro w hL))); conv => whnf)
 refine RemReq.nat (k := 64) rfl (by omega) ?_
 refine go ?_;try(clear hL;intro w hL)
 refine ShrReq.mk (n := ((x >>> (b % 64) : Nat) : Int)) (by omega) (by
  rw [show min (Int.toNat ((b % 64 : Nat) : Int)) (IntKind.bits .u64) = b % 64 from by show min (Int.toNat ((b % 64 : Nat) : Int)) 64 = b % 64; omega]
  rw [Int.fdiv_eq_ediv_of_nonneg _ (Int.le_of_lt (Int.pow_pos (by decide))), Nat.shiftRight_eq_div_pow]
  norm_cast) ?_
 refine go ?_;try(clear hL;intro w hL)
 refine BitReq.mk (and1_u64 (by omega)) ?_
 refine go ?_;try(clear hL;intro w hL)
 refine RetReq.bool (hL.sublist (List.nil_sublist _)) ?_
 unfold hasR
 rw [hx]
 refine decide_eq_decide.2 ?_
 rw [Int.toNat_natCast, Nat.shiftRight_eq_div_pow]
 omega
end Go.Proofs.YtaooenndoopgdaaGreatDoor.tabs
namespace Go.Proofs.YtaooenndoopgdaaGreatDoor.lz
open Go Go.Ev Go.Proofs Go.Proofs.YtaooenndoopgdaaGreatDoor.ar
open Go.Maps (Keyed)
theorem key_pair : Keyed Tryz.prog 190 := Keyed.of_law (deep_law_laid (m := 4) (by kernel_rfl) (by omega) (of_decide_eq_true (by kernel_rfl)) (by kernel_rfl) (by rw [Tryz.underlying190]))
theorem lit_u8 (d : Nat) {z : Nat} (h : z < 256) : Tryz.prog.keyLits (d + 1) 5 [.int .u8 z] = some [.int .u8 z] := by
 unfold Program.keyLits
 simp only [Tryz.underlying5]
 exact if_pos ⟨trivial, by unfold Lit.wf; simp only [Bool.and_eq_true, decide_eq_true_eq]; exact ⟨by show (0 : Int) ≤ _; omega, by show _ ≤ (255 : Int); omega⟩⟩
theorem isK_pair (z : Nat) (b : Bool) (h : z < 256) : IsK Tryz.prog 190 (.agg (toArr [.int .u8 z, .bool b])) := by
 have hk : Tryz.prog.keyType 190 = true := by kernel_rfl
 have hs : ∃ d, Tryz.prog.types.size + 1 = d + 4 := ⟨Tryz.prog.types.size - 3, by have : 4 ≤ Tryz.prog.types.size := of_decide_eq_true (by kernel_rfl); omega⟩
 have c1 : Tryz.prog.cellsOf 5 = 1 := by kernel_rfl
 have c2 : Tryz.prog.cellsOf 4 = 1 := by kernel_rfl
 have c8 : Tryz.prog.cellsOf 190 = 2 := by kernel_rfl
 obtain ⟨d, hd⟩ := hs
 have hf : (Value.agg (toArr [.int .u8 z, .bool b])).formed Tryz.prog 190 = true := by
  unfold Value.formed
  rw [Tryz.underlying190]
  simp only [c8]; rfl
 have hl : Tryz.prog.keyLits (d + 4) 190 [.int .u8 z, .bool b] = some [.int .u8 z, .bool b] := by
  unfold Program.keyLits
  simp only [Tryz.underlying190]
  simp only [c8]
  rw [if_pos ⟨rfl, by decide +kernel⟩]
  simp only [List.mapM_cons, List.mapM_nil, c1, c2, List.drop_zero, List.drop_succ_cons, List.take_succ_cons, List.take_zero, lit_u8 _ h, lit_b]
  rfl
 refine ⟨.string (keyBytes [.int .u8 z, .bool b]), ?_⟩
 unfold keyOf
 rw [Tryz.underlying190]
 simp only [hk, hf, Bool.and_true, if_true, hd]
 rw [show (Value.agg (toArr [.int .u8 z, .bool b])).cells.toList = [.int .u8 z, .bool b] from rfl, hl]
 rfl
def u8s (bs : List Nat) : List Value := bs.map fun q : Nat => .int .u8 q
theorem u8s_get {bs : List Nat} {i : Nat} (h : i < bs.length) : (u8s bs)[i]? = some (.int .u8 bs[i]) := by
 unfold u8s; rw [List.getElem?_map, List.getElem?_eq_getElem h]; rfl
theorem u8s_set (bs : List Nat) (i q : Nat) : (u8s bs).set i (.int .u8 q) = u8s (bs.set i q) := by
 unfold u8s; rw [List.map_set]
theorem u8s_len (bs : List Nat) : (u8s bs).length = bs.length := by simp [u8s]
def clC (of : List Nat) (N : Nat) : List Value := u8s of ++ [.int .i64 N]
theorem clC_len (of : List Nat) (N : Nat) : (clC of N).length = of.length + 1 := by unfold clC; rw [List.length_append, u8s_len]; rfl
theorem clC_set {of : List Nat} {N j q : Nat} (h : j < of.length) : (clC of N).set j (.int .u8 q) = clC (of.set j q) N := by
 unfold clC
 rw [List.set_append_left _ _ (by rw [u8s_len]; exact h), u8s_set]
theorem clC_setN {of : List Nat} {N M : Nat} (h : of.length = 256) : (clC of N).set 256 (.int .i64 M) = clC of M := by
 unfold clC
 rw [List.set_append_right _ _ (by rw [u8s_len]; omega), u8s_len, h]; rfl
theorem clC_one (of : List Nat) (N : Nat) : (clC of N).all Value.oneCell' = true := by
 unfold clC u8s
 rw [List.all_append, List.all_eq_true.2 (fun x hx => by obtain ⟨q, -, rfl⟩ := List.mem_map.1 hx; rfl)]; rfl
theorem take_set {of : List Nat} {j q M N : Nat} (hj : j < of.length) (h : ∀ x ∈ of.take j, x < N) (hq : q < M) (hN : N ≤ M := by omega) : ∀ x ∈ (of.set j q).take (j + 1), x < M := fun x hx => by
 rw [List.take_set, List.take_succ_eq_append_getElem hj, List.set_append_right _ _ (by rw [List.length_take]; omega), List.length_take, show j - min j of.length = 0 by omega] at hx
 rcases List.mem_append.1 hx with h1 | h1
 ·have := h x h1; omega
 ·rw [List.mem_singleton.1 h1]; exact hq
structure Cls (of : List Nat) (N : Nat) : Prop where
 len : of.length = 256
 lt : ∀ x ∈ of, x < N
 le : N ≤ 256
theorem Cls.pos {of : List Nat} {N : Nat} (h : Cls of N) : 1 ≤ N := by
 have h1 := h.len
 have := h.lt _ (List.getElem_mem (show 0 < of.length by omega))
 omega
def isPr (N : Nat) (y : Value × Value) : Prop := ∃ (z : Nat) (b : Bool) (v : Nat), y = (.agg (toArr [.int .u8 z, .bool b]), .int .u8 v) ∧ z < 256 ∧ v < N
def Set4 (cs : List Value) (s : Int × Int × Int × Int) : Prop := cs = [.int .u64 s.1, .int .u64 s.2.1, .int .u64 s.2.2.1, .int .u64 s.2.2.2] ∧ tabs.in64 s.1 ∧ tabs.in64 s.2.1 ∧ tabs.in64 s.2.2.1 ∧ tabs.in64 s.2.2.2
set_option maxHeartbeats 2000000 in
set_option maxRecDepth 100000 in
theorem split_fn (m : Mem) (of0 : List Nat) (N0 : Nat) (h0 : Cls of0 N0) (cs : List Value) (s : Int × Int × Int × Int) (hs : Set4 cs s) :
  Fn0 Tryz.prog 75 [.agg (toArr (clC of0 N0)), .agg (toArr cs)] m fun _ u => ∃ of N, u = .agg (toArr (clC of N)) ∧ Cls of N := by
 obtain ⟨s0, s1, s2, s3⟩ := s
 obtain ⟨rfl, hs0, hs1, hs2, hs3⟩ := hs
 dsimp only at hs0 hs1 hs2 hs3 ⊢
 have hlen0 := h0.len
 refine Fn.enter (N := 48) hX Tryz.func75 rfl rfl (by show _ ≤ _; simp) (fun w0 hL => ?_)
 conv => whnf
 refine NewReq.mk hL ?_
 clear hL
 intro b2 w hL
 conv => whnf
 refine NewReq.mk hL ?_
 clear hL
 intro b3 w hL
 conv => whnf
 refine NewReq.mk hL ?_
 clear hL
 intro b4 w hL
 conv => whnf
 refine NewReq.mk hL ?_
 clear hL
 intro b5 w hL
 conv => whnf
 refine go ?_;try(clear hL;intro w hL)
 refine RunReq.makeMapW hL ?_
 clear hL
 intro mb w hL
 refine go ?_;try(clear hL;intro w hL)
 have hz : { d := TD.struct [(0, 96), (256, 3)], size := 257, bytes := 264, zero := List.replicate 256 (Value.int IntKind.u8 0) ++ [Value.int IntKind.i64 0] : TI }.zero = clC (List.replicate 256 0) 0 := by
  show List.replicate 256 (Value.int IntKind.u8 0) ++ [Value.int IntKind.i64 0] = _
  unfold clC u8s
  rw [List.map_replicate]; rfl
 rw [hz] at hL
 generalize hZ : clC (List.replicate 256 0) 0 = Z at hL
 replace hL : Ev.Loc m [] w0 m ((b2, .cells (toArr (clC of0 N0)) 98 (0, 0)) :: (b3, .cells (toArr [.int .u64 s0, .int .u64 s1, .int .u64 s2, .int .u64 s3]) 50 (0, 0)) :: (mb, mapW []) :: (b5, .cells (toArr Z) 98 (0, 0)) :: (b4, .cells (toArr Z) 98 (0, 0)) :: []) w :=
  hL.perm (by
   refine (List.Perm.trans (List.perm_append_comm (l₁ := [_, _, _]) (l₂ := [_, _])) ?_)
   exact List.Perm.swap _ _ _)
 have hle1 := hL.le_add
 replace hL := hL.freeze
 have hle2 := hL.le_add
 replace hL := hL.freeze
 generalize hm1 : (m.add b2 _).add b3 _ = m1 at hL hle2
 have hc2 : Cells m1 ⟨b2, 0, none⟩ (clC of0 N0) := by
  have := (cells_add0 (m := m) (b := b2) (te := 98) (fz := (0, 0)) (clC of0 N0)).le hle2
  exact this
 have hc3 : Cells m1 ⟨b3, 0, none⟩ [.int .u64 s0, .int .u64 s1, .int .u64 s2, .int .u64 s3] := by rw [← hm1]; exact cells_add0 _
 have hm01 := hle1.trans hle2
 clear hm1 hle1 hle2 hz
 rw [← hZ] at hL
 have hlz : (clC (List.replicate 256 0) 0).length = 257 := by unfold clC; rw [List.length_append, u8s_len, List.length_replicate]; rfl
 refine LoopReq.inv hX (fun j : Nat => [(12, .int .i64 j)]) [2, 3, 4, 5, 6]
  (fun j w => j ≤ 256 ∧ ∃ of N ml, (of.length = 256 ∧ (∀ x ∈ of.take j, x < N) ∧ N ≤ j) ∧ (∀ y ∈ ml, isPr N y) ∧
   Ev.Loc m [] w0 m1 ((mb, mapW ml) :: (b5, .cells (toArr (clC of N)) 98 (0, 0)) :: (b4, .cells (toArr (clC (List.replicate 256 0) 0)) 98 (0, 0)) :: []) w) (fun j => 256 - j) 0
  ⟨by omega, List.replicate 256 0, 0, [], ⟨List.length_replicate, by simp, by omega⟩, fun y hy => (by cases hy), hL⟩ ⟨rfl, trivial⟩ ?_
 clear hL
 rintro j w f ⟨hj, of, N, ml, ⟨hol, hlt, hN⟩, hml, hL⟩
 refine go ?_;try(clear hL;intro w hL)
 refine BrReq.dec (fun hlt2 => ?_) (fun hlt2 => ?_)
 ·have hj256 : j < 256 := by omega
  have hjo : j < of0.length := by omega
  have hcj : mcell m1 ((⟨b2, 0, none⟩ : Addr).add j) = some (.int .u8 of0[j]) := hc2 j _ (by unfold clC; rw [List.getElem?_append_left (by rw [u8s_len]; omega)]; exact u8s_get hjo)
  have hz256 : of0[j] < 256 := by have := h0.lt _ (List.getElem_mem hjo); have := h0.le; omega
  generalize of0[j] = z at hcj hz256
  have hHas := tabs.setHas_fn m1 s0 s1 s2 s3 hs0 hs1 hs2 hs3 j hj256
  generalize tabs.hasR s0 s1 s2 s3 j = t at hHas
  refine go ?_;try(clear hL;intro w hL)
  refine DrawReq.cut (fun b8 : Nat => [(8, .pointer (some ⟨b8, 0, none⟩))]) [2, 3, 4, 5, 6, 7, 12] (fun b8 w => Ev.Loc m [] w0 m1 ((b8, .cells (toArr [.int .u8 z, .bool t]) 190 (0, 0)) :: (mb, mapW ml) :: (b5, .cells (toArr (clC of N)) 98 (0, 0)) :: (b4, .cells (toArr (clC (List.replicate 256 0) 0)) 98 (0, 0)) :: []) w) ?_ ?_
  ·refine DrawReq.plan hX (.fst 0 (.fst 1 (.fst 2 (.fst 3 (.fst 4 (.fst 5 (.fst 6 (.alt 7 (.fst 8 (.alt 9 (.alt 10 (.done) (.stop)) (.stop))) (.alt 9 (.alt 7 (.fst 8 (.alt 10 (.done) (.stop))) (.stop)) (.stop)))))))))) [] (by kernel_rfl) (by kernel_rfl) hL (fun h => h.sublist (List.nil_sublist _)) ?_
   clear hL
   intro w hL
   conv => whnf
   repeat ((first | refine IdxReq.mk j rfl (by omega) ?_ | refine QLdReq.one hX rfl rfl hcj ?_ | refine QLdReq.agg hX rfl rfl rfl hc3 ?_ | refine ArReq.u8 (by omega) (by omega) ?_ | (refine goq1 ?_;try(clear hL;intro w hL))); conv => whnf)
   refine AltQ.of ⟨?_, ?_⟩
   ·refine CallReq.val hHas hL ?_
    clear hL
    intro w hL
    refine SReq.mk (hL.sublist (List.nil_sublist _)) ?_
    refine goq ?_;try(clear hL;intro w hL)
    refine NewReq.mk hL ?_
    clear hL
    intro b8 w hL
    conv => whnf
    refine SReq.mk (hL.sublist (List.nil_sublist _)) ?_
    conv => whnf
    repeat ((first | refine SReq.mk (hL.sublist (List.nil_sublist _)) ?_ | (refine goq1 ?_;try(clear hL;intro w hL))); conv => whnf)
    refine ⟨b8, hL, ?_, ?_⟩
    ·repeat (first | exact trivial | (refine And.intro (by (conv => lhs; whnf) <;> (conv => rhs; whnf) <;> (first | rfl)) ?_))
    ·repeat (first | exact trivial | (refine And.intro (by (conv => lhs; whnf) <;> (conv => rhs; whnf) <;> (first | rfl)) ?_))
   ·refine goq ?_;try(clear hL;intro w hL)
    refine NewReq.mk hL ?_
    clear hL
    intro b8 w hL
    conv => whnf
    refine SReq.mk (hL.sublist (List.nil_sublist _)) ?_
    refine goq ?_;try(clear hL;intro w hL)
    refine CallReq.val hHas hL ?_
    clear hL
    intro w hL
    refine SReq.mk (hL.sublist (List.nil_sublist _)) ?_
    conv => whnf
    repeat ((first | refine SReq.mk (hL.sublist (List.nil_sublist _)) ?_ | (refine goq1 ?_;try(clear hL;intro w hL))); conv => whnf)
    refine ⟨b8, hL, ?_, ?_⟩
    ·repeat (first | exact trivial | (refine And.intro (by (conv => lhs; whnf) <;> (conv => rhs; whnf) <;> (first | rfl)) ?_))
    ·repeat (first | exact trivial | (refine And.intro (by (conv => lhs; whnf) <;> (conv => rhs; whnf) <;> (first | rfl)) ?_))
  clear hL
  rintro b8 w f3 hL
  have hkeys : ∀ x ∈ ml, IsK Tryz.prog 190 x.1 := fun x hx => by
   obtain ⟨z', b', v', rfl, h1, -⟩ := hml x hx
   exact isK_pair z' b' h1
  refine go ?_;try(clear hL;intro w hL)
  refine RunReq.lookW hX rfl rfl key_pair (z := .int .u8 0) (by kernel_rfl) hL (.t .h) (isK_pair z t hz256) hkeys (fun hno => ?_) (fun v hv => ?_)
  ·have hNg : (clC of N)[0 + 256]? = some (.int .i64 N) := by unfold clC; rw [List.getElem?_append_right (by rw [u8s_len]; omega), u8s_len, hol]; rfl
   conv => whnf
   repeat ((first | refine LdReq.ownC hX rfl rfl hL (.t (.t .h)) hNg ?_ | refine ArReq.u8 (by omega) (by omega) ?_ | (refine go1 ?_;try(clear hL;intro w hL))); conv => whnf)
   refine RunUReq.updW hX rfl rfl key_pair (k := .agg (toArr [.int .u8 z, .bool t])) (v := .int .u8 N) 1 hL rfl (isK_pair z t hz256) hkeys (fun _ w hL => ?_) (fun q u hq w hL => absurd rfl (hno _ (List.mem_of_getElem? hq)))
   replace hL : Ev.Loc m [] w0 m1 ((b8, .cells (toArr [.int .u8 z, .bool t]) 190 (0, 0)) :: (mb, mapW (ml ++ [(.agg (toArr [.int .u8 z, .bool t]), .int .u8 N)])) :: (b5, .cells (toArr (clC of N)) 98 (0, 0)) :: (b4, .cells (toArr (clC (List.replicate 256 0) 0)) 98 (0, 0)) :: []) w := hL
   have hml2 : ∀ y ∈ ml ++ [(.agg (toArr [.int .u8 z, .bool t]), .int .u8 N)], isPr (N + 1) y := fun y hy => by
    rcases List.mem_append.1 hy with h | h
    ·obtain ⟨z', b', v', e, h1, h2⟩ := hml y h
     exact ⟨z', b', v', e, h1, by omega⟩
    ·rw [List.mem_singleton.1 h]; exact ⟨z, t, N, rfl, hz256, by omega⟩
   generalize ml ++ [(.agg (toArr [.int .u8 z, .bool t]), .int .u8 N)] = ml2 at hL hml2
   clear hkeys hno hml
   conv => whnf
   repeat ((first | refine LdReq.ownC hX rfl rfl hL (.t (.t .h)) hNg ?_ | (refine go1 ?_;try(clear hL;intro w hL))); conv => whnf)
   refine StReq.ownAt hX rfl 2 hL rfl rfl (by show 0 + 256 + 1 ≤ (clC of N).length; rw [clC_len, hol]; omega) rfl ?_
   clear hL
   intro w hL
   replace hL : Ev.Loc m [] w0 m1 ((b8, .cells (toArr [.int .u8 z, .bool t]) 190 (0, 0)) :: (mb, mapW ml2) :: (b5, .cells (toArr ((clC of N).set 256 (.int .i64 (N + 1 : Nat)))) 98 (0, 0)) :: (b4, .cells (toArr (clC (List.replicate 256 0) 0)) 98 (0, 0)) :: []) w := hL
   rw [clC_setN hol] at hL
   refine go ?_;try(clear hL;intro w hL)
   refine IdxReq.mk j rfl (by omega) ?_
   refine go ?_;try(clear hL;intro w hL)
   refine StReq.ownAt hX rfl 2 hL rfl rfl (by show 0 + j + 1 ≤ (clC of (N + 1)).length; rw [clC_len, hol]; omega) rfl ?_
   clear hL
   intro w hL
   replace hL : Ev.Loc m [] w0 m1 (_ :: (mb, mapW ml2) :: (b5, .cells (toArr (spliceL (clC of (N + 1)) (0 + j) [.int .u8 N])) 98 (0, 0)) :: (b4, .cells (toArr (clC (List.replicate 256 0) 0)) 98 (0, 0)) :: []) w := hL
   rw [Nat.zero_add] at hL
   replace hL : Ev.Loc m [] w0 m1 (_ :: (mb, mapW ml2) :: (b5, .cells (toArr ((clC of (N + 1)).set j (.int .u8 N))) 98 (0, 0)) :: (b4, .cells (toArr (clC (List.replicate 256 0) 0)) 98 (0, 0)) :: []) w := hL
   rw [clC_set (by omega)] at hL
   have hlt3 : ∀ x ∈ (of.set j N).take (j + 1), x < (N + 1) := take_set (by omega) hlt (Nat.lt_succ_self N)
   refine go ?_;try(clear hL;intro w hL)
   exact rnd (j + 1) ⟨by omega, of.set j N, (N + 1), ml2, ⟨by rw [List.length_set]; exact hol, hlt3, by omega⟩, hml2, hL.drop⟩
  ·obtain ⟨z', b', q, e, -, hq⟩ := hml _ hv
   injection e with e1 e2
   subst e2
   refine go ?_;try(clear hL;intro w hL)
   refine IdxReq.mk j rfl (by omega) ?_
   refine go ?_;try(clear hL;intro w hL)
   refine StReq.ownAt hX rfl 2 hL rfl rfl (by show 0 + j + 1 ≤ (clC of N).length; rw [clC_len, hol]; omega) rfl ?_
   clear hL
   intro w hL
   replace hL : Ev.Loc m [] w0 m1 (_ :: (mb, mapW ml) :: (b5, .cells (toArr (spliceL (clC of N) (0 + j) [.int .u8 q])) 98 (0, 0)) :: (b4, .cells (toArr (clC (List.replicate 256 0) 0)) 98 (0, 0)) :: []) w := hL
   rw [Nat.zero_add] at hL
   replace hL : Ev.Loc m [] w0 m1 (_ :: (mb, mapW ml) :: (b5, .cells (toArr ((clC of N).set j (.int .u8 q))) 98 (0, 0)) :: (b4, .cells (toArr (clC (List.replicate 256 0) 0)) 98 (0, 0)) :: []) w := hL
   rw [clC_set (by omega)] at hL
   have hlt3 : ∀ x ∈ (of.set j q).take (j + 1), x < N := take_set (by omega) hlt hq
   refine go ?_;try(clear hL;intro w hL)
   exact rnd (j + 1) ⟨by omega, of.set j q, N, ml, ⟨by rw [List.length_set]; exact hol, hlt3, by omega⟩, hml, hL.drop⟩
 ·have hj256 : j = 256 := by omega
  subst hj256
  rw [List.take_of_length_le (by omega)] at hlt
  have hcl : (clC of N).length = 257 := by rw [clC_len, hol]
  refine go ?_;try(clear hL;intro w hL)
  refine LdReq.whole hX rfl rfl 1 hL rfl hcl ?_
  refine go ?_;try(clear hL;intro w hL)
  refine StReq.whole hX rfl 2 hL rfl hlz hcl (clC_one of N) ?_
  clear hL
  intro w hL
  replace hL : Ev.Loc m [] w0 m1 ((mb, mapW ml) :: (b5, .cells (toArr (clC of N)) 98 (0, 0)) :: (b4, .cells (toArr (clC of N)) 98 (0, 0)) :: []) w := hL
  refine go ?_;try(clear hL;intro w hL)
  refine LdReq.whole hX rfl rfl 2 hL rfl hcl ?_
  refine go ?_;try(clear hL;intro w hL)
  exact RetReq.mk (hL.sublist (List.nil_sublist _)) ⟨rfl, of, N, rfl, ⟨hol, hlt, hN⟩⟩
set_option maxRecDepth 100000 in
theorem Make_fn (m : Mem) (v : Value) (l : List (Int × Int × Int × Int)) (hs : Sl m 4 Set4 v l) :
  Fn0 Tryz.prog 46 [v] m fun _ u => ∃ of N, u = .agg (toArr (clC of N)) ∧ Cls of N := by
 obtain ⟨A, n, c, rfl, hn, hc, hm, -⟩ := id hs
 have hmx : maxLen = 9223372036854775807 := rfl
 refine Fn.enter (N := 18) hX Tryz.func46 rfl rfl (by show _ ≤ _; simp) (fun w0 hL => ?_)
 conv => whnf
 refine NewReq.mk hL ?_
 clear hL
 intro b2 w hL
 conv => whnf
 refine NewReq.mk hL ?_
 clear hL
 intro b3 w hL
 conv => whnf
 refine go ?_;try(clear hL;intro w hL)
 replace hL : Ev.Loc m [] w0 m ((b3, .cells (toArr (clC (List.replicate 256 0) 1)) 98 (0, 0)) :: (b2, .cells (toArr (clC (List.replicate 256 0) 0)) 98 (0, 0)) :: []) w := hL
 have hlz : (clC (List.replicate 256 0) 0).length = 257 := by unfold clC; rw [List.length_append, u8s_len, List.length_replicate]; rfl
 generalize clC (List.replicate 256 0) 0 = Z at hL hlz
 refine LoopReq.inv hX (fun j : Nat => [(9, .int .i64 j)]) [2, 3, 7, 8]
  (fun j w => j ≤ n ∧ ∃ m1 of N, (Mem.Le m m1 ∧ Cls of N) ∧ Ev.Loc m [] w0 m1 ((b3, .cells (toArr (clC of N)) 98 (0, 0)) :: (b2, .cells (toArr Z) 98 (0, 0)) :: []) w) (fun j => n - j) 0
  ⟨by omega, m, List.replicate 256 0, 1, ⟨Mem.Le.refl m, ⟨List.length_replicate, fun x hx => by rw [List.eq_of_mem_replicate hx]; decide, by decide⟩⟩, hL⟩ ⟨rfl, trivial⟩ ?_
 clear hL
 rintro j w f ⟨hj, m1, of, N, ⟨hm1, hC⟩, hL⟩
 have hcl : (clC of N).length = 257 := by rw [clC_len, hC.len]
 refine go ?_;try(clear hL;intro w hL)
 refine BrReq.dec (fun hlt => ?_) (fun hlt => ?_)
 ·have hjl : j < l.length := by omega
  have hs1 : Sl m1 4 Set4 (.slice A n c) l := hs.le hm1 (fun _ _ _ h => h)
  obtain ⟨a, cs', rfl, hl4, hcells, hst⟩ := hs1.elem j _ (List.getElem?_eq_getElem hjl)
  generalize l[j] = s at hst
  have hsp := split_fn m1 of N hC cs' s hst
  obtain ⟨s0, s1, s2, s3⟩ := s
  obtain ⟨rfl, -⟩ := hst
  conv => whnf
  repeat ((first | refine Idx2Req.mk j a rfl (by omega) rfl ?_ | refine LdReq.agg hX rfl rfl hL hl4 hcells ?_ | (refine go1 ?_;try(clear hL;intro w hL))); conv => whnf)
  refine NewReq.mk hL ?_
  clear hL
  intro b5 w hL
  conv => whnf
  refine go ?_;try(clear hL;intro w hL)
  refine LdReq.whole hX rfl rfl 1 hL rfl hcl ?_
  refine go ?_;try(clear hL;intro w hL)
  refine CallReq.pure hsp hL ?_
  clear hL
  rintro u m2 w hL hm2 ⟨of2, N2, rfl, hC2⟩
  have hcl2 : (clC of2 N2).length = 257 := by rw [clC_len, hC2.len]
  refine go ?_;try(clear hL;intro w hL)
  refine StReq.whole hX rfl 1 hL rfl hcl hcl2 (clC_one of2 N2) ?_
  clear hL
  intro w hL
  replace hL : Ev.Loc m [] w0 m2 ((b5, _) :: (b3, .cells (toArr (clC of2 N2)) 98 (0, 0)) :: (b2, .cells (toArr Z) 98 (0, 0)) :: []) w := hL
  refine go ?_;try(clear hL;intro w hL)
  exact rnd (j + 1) ⟨by omega, m2, of2, N2, ⟨hm1.trans hm2, hC2⟩, hL.drop⟩
 ·refine go ?_;try(clear hL;intro w hL)
  refine LdReq.whole hX rfl rfl 0 hL rfl hcl ?_
  refine go ?_;try(clear hL;intro w hL)
  refine StReq.whole hX rfl 1 hL rfl hlz hcl (clC_one of N) ?_
  clear hL
  intro w hL
  replace hL : Ev.Loc m [] w0 m1 ((b3, .cells (toArr (clC of N)) 98 (0, 0)) :: (b2, .cells (toArr (clC of N)) 98 (0, 0)) :: []) w := hL
  refine go ?_;try(clear hL;intro w hL)
  refine LdReq.whole hX rfl rfl 1 hL rfl hcl ?_
  refine go ?_;try(clear hL;intro w hL)
  exact RetReq.mk (hL.sublist (List.nil_sublist _)) ⟨rfl, of, N, rfl, hC⟩
end Go.Proofs.YtaooenndoopgdaaGreatDoor.lz
namespace Go.Ev
open Go
theorem GenReq.native {P : Program} {o : Oper} {ρ : Operand → Value} {c : Call} {x : Operand} {f : Nat} {args : List Value} {v : Value} {w w' : World} {K : Value → World → Prop} (ho : o.op = .call c) (hc : c.callee = .value x) (hx : ρ x = .func (.func f) #[] #[]) (ha : c.args.toList.map ρ = args)
  (hr : (callFunc f (toArr args)).run P w = .ok (.value v) w') (h : K v w') : GenReq P o ρ w K := by
 have e1 : #[] ++ c.args.map ρ ++ #[] = toArr args := by
  apply Array.ext'; simp [toArr, ha]
 have hex : execOp ρ o = callFunc f (toArr args) := by
  have : execOp ρ o = callFunc f (#[] ++ c.args.map ρ ++ #[]) := by simp [execOp, ho, resolve, hc, hx, Deferred.ofValue, Go.invoke]
  rw [this, e1]
 constructor
 unfold OpOk
 rw [hex, hr]
 exact h
end Go.Ev
namespace Go.Proofs.YtaooenndoopgdaaGreatDoor.lz
open Go Go.Ev Go.Proofs Go.Proofs.YtaooenndoopgdaaGreatDoor.ar
theorem load64_fn (m : Mem) (b off te : Nat) (cs : List Value) (x : Int) (hv : cs[off]? = some (.int .i64 x)) :
  FnL Tryz.prog 33 [.pointer (some ⟨b, off, none⟩)] m [(b, .cells (toArr cs) te (0, 0))] (.int .i64 x) := by
 refine Fn.enter (N := 7) hX Tryz.func33 rfl rfl (by show _ ≤ _; simp) (fun w0 hL => ?_)
 conv => whnf
 generalize keys [(b, .cells (toArr cs) te (0, 0))] = S0 at hL ⊢
 refine go ?_;try(clear hL;intro w hL)
 have hc : w0.cell? ⟨b, off, none⟩ = some (.int .i64 x) := by rw [hL.ownCell (.head _)]; simpa [toArr] using hv
 refine GenReq.native rfl rfl rfl rfl (run_call_load Tryz.func58 (by kernel_rfl) (by kernel_rfl) (by kernel_rfl) .i64 (by kernel_rfl) hc) ?_
 refine go ?_;try(clear hL;intro w hL)
 exact RetReq.mk hL ⟨rfl, rfl, rfl⟩
theorem add64_fn (m : Mem) (b off te : Nat) (cs : List Value) (x d : Int) (hi : i64 (x + d)) (hv : cs[off]? = some (.int .i64 x)) :
  Ev.Fn Tryz.prog 31 [.pointer (some ⟨b, off, none⟩), .int .i64 d] m [(b, .cells (toArr cs) te (0, 0))] fun m' L' u => m' = m ∧ L' = [(b, .cells (toArr (cs.set off (.int .i64 (x + d)))) te (0, 0))] ∧ u = .int .i64 (x + d) := by
 refine Fn.enter (N := 10) hX Tryz.func31 rfl rfl (by show _ ≤ _; simp) (fun w0 hL => ?_)
 conv => whnf
 generalize keys [(b, .cells (toArr cs) te (0, 0))] = S0 at hL ⊢
 refine go ?_;try(clear hL;intro w hL)
 have hc : w0.cell? ⟨b, off, none⟩ = some (.int .i64 x) := by rw [hL.ownCell (.head _)]; simpa [toArr] using hv
 have hf : w0.frozen? ⟨b, off, none⟩ = false := by
  have := hL.own _ (.head _)
  dsimp only at this
  simp [World.frozen?, this]
 have hs : (Op.intArith .add .i64 x d).run Tryz.prog w0 = .ok (.int .i64 (x + d)) w0 := by
  simp only [Op.intArith, Sem.run_pure]
  rw [wrap_keep .i64 hi.1 hi.2]
 refine GenReq.native rfl rfl rfl rfl (run_call_add Tryz.func55 (by kernel_rfl) (by kernel_rfl) (by kernel_rfl) .i64 (by kernel_rfl) hc hf hs) ?_
 replace hL := hL.set (i := 0) (off := off) (v := .int .i64 (x + d)) rfl
 refine go ?_;try(clear hL;intro w hL)
 exact RetReq.mk hL ⟨rfl, rfl, rfl⟩
def blk (b te : Nat) (cs : List Value) : Nat × Obj := (b, .cells (toArr cs) te (0, 0))
theorem own_cell {m0 m : Mem} {S : List Nat} {w0 w : World} {L : Ev.Own} {b te off : Nat} {cs : List Value} {v : Value} (hL : Ev.Loc m0 S w0 m (blk b te cs :: L) w) (hv : cs[off]? = some v) : w.cell? ⟨b, off, none⟩ = some v ∧ w.frozen? ⟨b, off, none⟩ = false := by
 refine ⟨?_, ?_⟩
 ·have := hL.ownCell (i := off) (.head _); rw [this]; simpa [toArr] using hv
 ·have := hL.own _ (.head _)
  dsimp only [blk] at this
  simp [World.frozen?, this]
theorem isMu_room : (Tryz.prog.info? 70).map (fun i => decide (i.size = 0)) = some false := by kernel_rfl
theorem ilock_fn (m : Mem) (b off te : Nat) (cs : List Value) (L : Ev.Own) (h0 : cs[off]? = some (.int .i32 0)) :
  Ev.Fn Tryz.prog 166 [.pointer (some ⟨b, off, none⟩)] m (blk b te cs :: L) fun m' L' u => m' = m ∧ L' = blk b te (cs.set off (.int .i32 1)) :: L ∧ u = .tuple #[] := by
 refine Fn.enter (N := 13) hX Tryz.func166 rfl rfl (by show _ ≤ _; simp) (fun w0 hL => ?_)
 conv => whnf
 generalize keys (blk b te cs :: L) = S0 at hL ⊢
 refine go ?_;try(clear hL;intro w hL)
 refine GenReq.native rfl rfl rfl rfl (run_call_mark0 Tryz.func197 (by kernel_rfl) (by kernel_rfl) (by kernel_rfl) .disable (by kernel_rfl) _) ?_
 refine go ?_;try(clear hL;intro w hL)
 obtain ⟨hc, hf⟩ := own_cell hL h0
 have hlt : off < cs.length := (List.getElem?_eq_some_iff.1 h0).1
 refine GenReq.native rfl rfl rfl rfl (run_call_cas_hit Tryz.func198 (by kernel_rfl) (by kernel_rfl) (by kernel_rfl) .i32 (by kernel_rfl) (y := 1) hc hf) ?_
 replace hL := hL.set (i := 0) (off := off) (v := .int .i32 1) rfl
 replace hL : Ev.Loc m S0 w0 m (blk b te (cs.set off (.int .i32 1)) :: L) _ := hL
 refine go ?_;try(clear hL;intro w hL)
 refine GenReq.native rfl rfl rfl rfl (run_call_mark0 Tryz.func199 (by kernel_rfl) (by kernel_rfl) (by kernel_rfl) .enable (by kernel_rfl) _) ?_
 refine go ?_;try(clear hL;intro w hL)
 obtain ⟨hc, hf⟩ := own_cell (off := off) (v := .int .i32 1) hL (by rw [List.getElem?_set_self hlt])
 refine RunReq.mk (run_convert_to_unsafe (t := 70) (by kernel_rfl) (by kernel_rfl) isMu_room hc) ?_
 refine go ?_;try(clear hL;intro w hL)
 refine GenReq.native rfl rfl rfl rfl (run_call_marked Tryz.func200 (by kernel_rfl) (by kernel_rfl) (by kernel_rfl) .acquire (by kernel_rfl) _ _) ?_
 refine go ?_;try(clear hL;intro w hL)
 exact RetReq.mk hL ⟨rfl, rfl, rfl⟩
theorem iunlock_fn (m : Mem) (b off te : Nat) (cs : List Value) (L : Ev.Own) (h0 : cs[off]? = some (.int .i32 1)) :
  Ev.Fn Tryz.prog 167 [.pointer (some ⟨b, off, none⟩)] m (blk b te cs :: L) fun m' L' u => m' = m ∧ L' = blk b te (cs.set off (.int .i32 0)) :: L ∧ u = .tuple #[] := by
 refine Fn.enter (N := 21) hX Tryz.func167 rfl rfl (by show _ ≤ _; simp) (fun w0 hL => ?_)
 conv => whnf
 generalize keys (blk b te cs :: L) = S0 at hL ⊢
 obtain ⟨hc, hf⟩ := own_cell hL h0
 conv => whnf
 repeat ((first | (refine LdReq.ownC hX rfl rfl hL .h (by rw [Nat.add_zero]; exact h0) ?_) | (refine go1 ?_;try(clear hL;intro w hL))); conv => whnf)
 refine RunReq.mk (run_convert_to_unsafe (t := 70) (by kernel_rfl) (by kernel_rfl) isMu_room hc) ?_
 refine go ?_;try(clear hL;intro w hL)
 refine GenReq.native rfl rfl rfl rfl (run_call_marked Tryz.func202 (by kernel_rfl) (by kernel_rfl) (by kernel_rfl) .releaseMerge (by kernel_rfl) _ _) ?_
 refine go ?_;try(clear hL;intro w hL)
 refine GenReq.native rfl rfl rfl rfl (run_call_mark0 Tryz.func197 (by kernel_rfl) (by kernel_rfl) (by kernel_rfl) .disable (by kernel_rfl) _) ?_
 refine go ?_;try(clear hL;intro w hL)
 refine GenReq.native rfl rfl rfl rfl (run_call_add Tryz.func203 (by kernel_rfl) (by kernel_rfl) (by kernel_rfl) .i32 (by kernel_rfl) (s := 0) hc hf (by simp only [Op.intArith, Sem.run_pure]; rfl)) ?_
 replace hL := hL.set (i := 0) (off := off) (v := .int .i32 0) rfl
 replace hL : Ev.Loc m S0 w0 m (blk b te (cs.set off (.int .i32 0)) :: L) _ := hL
 refine go ?_;try(clear hL;intro w hL)
 refine GenReq.native rfl rfl rfl rfl (run_call_mark0 Tryz.func199 (by kernel_rfl) (by kernel_rfl) (by kernel_rfl) .enable (by kernel_rfl) _) ?_
 refine go ?_;try(clear hL;intro w hL)
 exact RetReq.mk hL ⟨rfl, rfl, rfl⟩
theorem lock_fn (m : Mem) (b off te : Nat) (cs : List Value) (L : Ev.Own) (h0 : cs[off]? = some (.int .i32 0)) :
  Ev.Fn Tryz.prog 122 [.pointer (some ⟨b, off, none⟩)] m (blk b te cs :: L) fun m' L' u => m' = m ∧ L' = blk b te (cs.set off (.int .i32 1)) :: L ∧ u = .tuple #[] := by
 refine Fn.enter (N := 6) hX Tryz.func122 rfl rfl (by show _ ≤ _; simp) (fun w0 hL => ?_)
 conv => whnf
 generalize keys (blk b te cs :: L) = S0 at hL ⊢
 refine go ?_;try(clear hL;intro w hL)
 refine CallReq.mk (L1 := blk b te cs :: L) (L2 := []) (ilock_fn m b off te cs L h0) (by rw [List.append_nil]; exact hL) ?_
 clear hL
 rintro u m1 L1 w hL - ⟨rfl, rfl, rfl⟩
 rw [List.append_nil] at hL
 refine go ?_;try(clear hL;intro w hL)
 exact RetReq.mk hL ⟨rfl, rfl, rfl⟩
theorem loadB_fn (m : Mem) (b off te : Nat) (cs : List Value) (L : Ev.Own) (x : Int) (h0 : cs[off]? = some (.int .u32 x)) :
  Ev.Fn Tryz.prog 83 [.pointer (some ⟨b, off, none⟩)] m (blk b te cs :: L) fun m' L' u => m' = m ∧ L' = blk b te cs :: L ∧ u = .bool (decide (x ≠ 0)) := by
 refine Fn.enter (N := 8) hX Tryz.func83 rfl rfl (by show _ ≤ _; simp) (fun w0 hL => ?_)
 conv => whnf
 generalize keys (blk b te cs :: L) = S0 at hL ⊢
 obtain ⟨hc, hf⟩ := own_cell hL h0
 refine go ?_;try(clear hL;intro w hL)
 refine GenReq.native rfl rfl rfl rfl (run_call_load Tryz.func121 (by kernel_rfl) (by kernel_rfl) (by kernel_rfl) .u32 (by kernel_rfl) hc) ?_
 refine go ?_;try(clear hL;intro w hL)
 exact RetReq.mk hL ⟨rfl, rfl, rfl⟩
theorem b32_fn (m : Mem) : FnV Tryz.prog 169 [.bool true] m (.int .u32 1) := by
 refine Fn.enter (N := 4) hX Tryz.func169 rfl rfl (by show _ ≤ _; simp) (fun w0 hL => ?_)
 conv => whnf
 refine go ?_;try(clear hL;intro w hL)
 exact RetReq.mk hL ⟨rfl, rfl⟩
def FnD (P : Program) (f : Nat) (args : List Value) (m : Mem) (L : Ev.Own) (Post : Mem → Ev.Own → Value → Prop) : Prop :=
 ∀ w u, Ev.Pre m L w → CallsD P f (toArr args) u w fun e u' w' => u' = u ∧ ∃ v m' L', e = .returned v ∧ Ev.Loc m (keys L) w m' L' w' ∧ Post m' L' v
theorem FnD.enter {P : Program} {X : Tab} {N : Nat} {m : Mem} {L : Ev.Own} (hX : TabsOk P X) {f : Nat} {fn : Func} {c : Code} {args : List Value} {Post : Mem → Ev.Own → Value → Prop}
  (hf : P.funcs[f]? = some fn) (hb : fn.body = some c) (hN : fn.ntmps = N) (hl : args.length ≤ N)
  (h : ∀ w, Ev.Loc m (keys L) w m L w → ev P X N c (fun e w' => evRes P N e w' fn.results.toList fun vs => RetReq m (keys L) w Post (resV vs) w') (fun _ _ _ => False)
   (fun e w' => evRes P N e w' fn.results.toList fun vs => RetReq m (keys L) w Post (resV vs) w') (envOf args) w) :
  FnD P f args m L Post := by
 intro w u hw
 have h := h w hw.loc
 have ha : Agree N (envOf args) { tmps := toArr args ++ Array.replicate (fn.ntmps - (toArr args).size) undef, defers := [] } := by
  have hs : (toArr args).size = args.length := by simp [toArr]
  refine ⟨by simp [hs, hN]; omega, fun i hi => ?_, rfl⟩
  simp only [envOf, look_eq]
  rw [Array.getElem?_append]
  by_cases hlt : i < args.length
  ·rw [if_pos (by omega)]
   simp [toArr, hlt]
  ·rw [if_neg (by omega), Array.getElem?_replicate, if_pos (by omega)]
   simp [List.getElem?_eq_none (Nat.le_of_not_lt hlt)]
 refine callsD_of_wp hf hb (wp_mono (ev_ok hX c _ _ _ _ _ w ha h) fun ex a w' hq => ?_)
 have fin : ∀ e, Agree N e a → (evRes P N e w' fn.results.toList fun vs => RetReq m (keys L) w Post (resV vs) w') →
   a.defers = [] ∧ ∃ v, (results fn a.tmps).run P w' = .ok v w' ∧ ∃ v' m' L', Ending.returned v = .returned v' ∧ Ev.Loc m (keys L) w m' L' w' ∧ Post m' L' v' := by
  intro e ha h
  obtain ⟨vs, h1, h2⟩ := run_results ha _ _ h
  replace h2 := h2.out
  obtain ⟨m', L', h3, h4⟩ := h2
  refine ⟨ha.defers, resV vs, ?_, resV vs, m', L', rfl, h3, h4⟩
  have hm : (fn.results.mapM (resOne a.tmps)).run P w' = .ok vs.toArray w' := by
   rw [← Array.toArray_toList (xs := fn.results), List.mapM_toArray]
   simp only [Sem.run_map, h1, Result.andThen_ok]
  show (do let vs ← fn.results.mapM (resOne a.tmps); pure (if h : vs.size = 1 then vs[0] else .tuple vs) : Sem Value).run P w' = _
  simp only [Sem.run_bind, hm, Result.andThen_ok, Sem.run_pure]
  match vs with
  | [] => rfl
  | [v] => rfl
  | v :: u :: l => simp [resV, toArr]
 cases ex with
 | normal => obtain ⟨e, ha, h⟩ := hq; exact fin e ha h
 | ret => obtain ⟨e, ha, h⟩ := hq; exact fin e ha h
 | exit id => obtain ⟨e, ha, h⟩ := hq; exact h.elim
 | goto l => exact hq.elim
 | panic ch => exact hq.elim
 | outgrown => exact hq.elim
theorem unlockD_fn (m : Mem) (b off te : Nat) (cs : List Value) (L : Ev.Own) (h0 : cs[off]? = some (.int .i32 1)) :
  FnD Tryz.prog 123 [.pointer (some ⟨b, off, none⟩)] m (blk b te cs :: L) fun m' L' u => m' = m ∧ L' = blk b te (cs.set off (.int .i32 0)) :: L ∧ u = .tuple #[] := by
 refine FnD.enter (N := 6) hX Tryz.func123 rfl rfl (by show _ ≤ _; simp) (fun w0 hL => ?_)
 conv => whnf
 generalize keys (blk b te cs :: L) = S0 at hL ⊢
 refine go ?_;try(clear hL;intro w hL)
 refine CallReq.mk (L1 := blk b te cs :: L) (L2 := []) (iunlock_fn m b off te cs L h0) (by rw [List.append_nil]; exact hL) ?_
 clear hL
 rintro u m1 L1 w hL - ⟨rfl, rfl, rfl⟩
 rw [List.append_nil] at hL
 refine go ?_;try(clear hL;intro w hL)
 exact RetReq.mk hL ⟨rfl, rfl, rfl⟩
theorem storeD_fn (m : Mem) (b off te : Nat) (cs : List Value) (L : Ev.Own) (v : Value) (h0 : cs[off]? = some v) :
  FnD Tryz.prog 124 [.pointer (some ⟨b, off, none⟩), .bool true] m (blk b te cs :: L) fun m' L' u => m' = m ∧ L' = blk b te (cs.set off (.int .u32 1)) :: L ∧ u = .tuple #[] := by
 refine FnD.enter (N := 10) hX Tryz.func124 rfl rfl (by show _ ≤ _; simp) (fun w0 hL => ?_)
 conv => whnf
 generalize keys (blk b te cs :: L) = S0 at hL ⊢
 have e1 := hL.own _ (.head _)
 refine DrawReq.plan hX (.fst 0 (.fst 1 (.fst 2 (.fst 3 (.alt 4 (.alt 5 (.done) (.stop)) (.stop)))))) [] (by kernel_rfl) (by kernel_rfl) hL (fun h => h.sublist (List.nil_sublist _)) ?_
 clear hL
 intro w hL
 refine goq ?_;try(clear hL;intro w hL)
 refine CallReq.val (b32_fn m) hL ?_
 clear hL
 intro w hL
 refine SReq.mk (hL.sublist (List.nil_sublist _)) ?_
 refine goq ?_;try(clear hL;intro w hL)
 obtain ⟨hc, hf⟩ := own_cell hL h0
 refine GenReq.native rfl rfl rfl rfl (run_call_store Tryz.func168 (by kernel_rfl) (by kernel_rfl) (by kernel_rfl) (by kernel_rfl) (k := .u32) (y := 1) hc hf) ?_
 replace hL := hL.set (i := 0) (off := off) (v := .int .u32 1) rfl
 replace hL : Ev.Loc m S0 w0 m (blk b te (cs.set off (.int .u32 1)) :: L) _ := hL
 refine SReq.mk (hL.sublist (List.nil_sublist _)) ?_
 refine goq ?_;try(clear hL;intro w hL)
 exact RetReq.mk hL ⟨rfl, rfl, rfl⟩
theorem _root_.Go.Ev.Loc.comp {m0 m m' : Mem} {S : List Nat} {w0 w w' : World} {L L' : Ev.Own} (hL : Ev.Loc m0 S w0 m L w) (hl : Ev.Loc m (keys L) w m' L' w') : Ev.Loc m0 S w0 m' L' w' := by
 have newp : ∀ b, (w.heap.size ≤ b ∨ b ∈ keys L) → w0.heap.size ≤ b ∨ b ∈ S := fun b hb => by
  rcases hb with hb | hb
  ·exact .inl (Nat.le_trans hL.size hb)
  ·exact hL.new b hb
 refine ⟨hl.os.trans hL.os, hl.tape.trans hL.tape, hl.output.trans hL.output, Nat.le_trans hL.size hl.size, fun k hk hs => ?_, hl.sub, hl.apart, hl.own, hl.nodup, fun b hb => newp b (hl.new b hb), hL.le.trans hl.le, fun b o hb => ?_⟩
 ·have : k ∉ keys L := fun hc => by
   rcases newp k (.inr hc) with h1 | h1
   ·omega
   ·exact hs h1
  exact (hl.fr k (Nat.lt_of_lt_of_le hk hL.size) this).trans (hL.fr k hk hs)
 ·rcases hl.mnew b o hb with h1 | h1
  ·exact hL.mnew b o h1
  ·exact .inr (newp b h1)
set_option maxRecDepth 100000 in
set_option maxHeartbeats 1600000 in
theorem doSlow_fn (m : Mem) (b off te f : Nat) (cs : List Value) (L : Ev.Own) (caps : List Value) (Q : Mem → List Value → Ev.Own → Prop) (hg : Ev.look X.G f = some true) (h0 : cs[off]? = some (.int .u32 0)) (h1 : cs[off + 1]? = some (.int .i32 0))
  (hcall : Ev.Fn Tryz.prog f caps m (blk b te (cs.set (off + 1) (.int .i32 1)) :: L) fun m' L' u => u = .tuple #[] ∧ ∃ cs' L1, L' = blk b te cs' :: L1 ∧ cs'[off + 1]? = some (.int .i32 1) ∧ (∃ v, cs'[off]? = some v) ∧ Q m' cs' L1) :
  Ev.Fn Tryz.prog 84 [.pointer (some ⟨b, off, none⟩), .func (.func f) #[] (toArr caps)] m (blk b te cs :: L) fun m' L' u => u = .tuple #[] ∧ ∃ cs' L1, L' = blk b te ((cs'.set off (.int .u32 1)).set (off + 1) (.int .i32 0)) :: L1 ∧ Q m' cs' L1 := by
 intro w hw
 have hlock := lock_fn m b (off + 1) te cs L h1 w hw
 have hnot : ∀ (x : Bool) (w : World), (Op.unary .not (.bool x)).run Tryz.prog w = .ok (.bool (!x)) w := fun _ _ => rfl
 show Calls Tryz.prog 84 #[.pointer (some ⟨b, off, none⟩), .func (.func f) #[] (toArr caps)] w _
 go_enter_defers Tryz.func84, Tryz.ntmps84
 go_wp2_with (go_at_call 122; refine hlock.mono ?_; rintro e w1 ⟨v, m1, L1, rfl, hL, rfl, rfl, rfl⟩)
 refine (loadB_fn m1 b off te _ L 0 (by rw [List.getElem?_set_ne (by omega)]; exact h0) w1 hL.pre).mono ?_
 rintro e w2 ⟨v, m2, L2, rfl, hL2, rfl, rfl, rfl⟩
 replace hL := hL.comp hL2
 clear hL2
 go_wp2
 have hent : (callFunc f (toArr caps)).run Tryz.prog w2 = .ok (.enter f (toArr caps)) w2 := by
  obtain ⟨fnd, g1, g2, g3⟩ := hX.g f hg
  have g2' : fnd.body.isNone = false := by cases hb : fnd.body <;> simp_all
  simp only [callFunc, Sem.run_bind, run_program, Result.andThen_ok, g1, g3, g2', Bool.false_eq_true, if_false, Sem.run_pure]
 rw [hent]
 show Calls Tryz.prog f (toArr caps) w2 _
 refine (hcall w2 hL.pre).mono ?_
 rintro e w3 ⟨v, m3, L3, rfl, hL2, rfl, cs', L1, rfl, h3, ⟨u0, h4⟩, hq⟩
 replace hL := hL.comp hL2
 clear hL2
 go_wp2
 refine leaves_cons (f := 124) (args := toArr [.pointer (some ⟨b, off, none⟩), .bool true]) (by simp) (by simp [go_sem]; rfl) ?_
 refine (storeD_fn m3 b off te cs' L1 u0 h4 w3 _ hL.pre).mono ?_
 rintro e u' w4 ⟨rfl, v, m4, L4, rfl, hL2, rfl, rfl, rfl⟩
 replace hL := hL.comp hL2
 clear hL2
 refine leaves_cons (f := 123) (args := toArr [.pointer (some ⟨b, off + 1, none⟩)]) (by simp [settle]) (by simp [go_sem]; rfl) ?_
 refine (unlockD_fn _ b (off + 1) te _ L1 (by rw [List.getElem?_set_ne (by omega)]; exact h3) w4 _ hL.pre).mono ?_
 rintro e u' w5 ⟨rfl, v, m5, L5, rfl, hL2, rfl, rfl, rfl⟩
 replace hL := hL.comp hL2
 clear hL2
 show Leaves Tryz.prog _ _ _ [] _ w5
 simp only [Leaves, settle]
 refine ⟨.tuple #[], by simp [results, Tryz.results84], .tuple #[], _, _, rfl, hL, rfl, cs', L1, rfl, hq⟩
end Go.Proofs.YtaooenndoopgdaaGreatDoor.lz
namespace Go.Proofs
open Go.Shelf
def Tryz.laysM171_ren : Go.Shelf.Ren := ⟨fun | 171 => 107 | 243 => 155 | 246 => 184 | 283 => 220 | 284 => 221 | 285 => 222 | 286 => 223 | 129 => 215 | 317 => 243 | 318 => 244 | 319 => 245 | 320 => 246 | 337 => 250 | 338 => 125 | n => n, fun | 3 => 3 | 9 => 9 | 2 => 2 | 4 => 4 | 171 => 279 | 0 => 0 | 53 => 48 | 37 => 26 | 5 => 5 | 173 => 281 | 212 => 295 | 51 => 66 | 20 => 20 | 213 => 296 | 46 => 160 | 232 => 306 | 233 => 241 | n => n, fun | 17 => 2 | 18 => 3 | 19 => 0 | n => n⟩
theorem Tryz.laysM171 : Go.Proofs.LaysM.n171 Tryz.prog Tryz.laysM171_ren := {
 mixed := by kernel_rfl
 f129 := Tryz.func215.trans (congrArg some (by kernel_rfl))
 f171 := Tryz.func107.trans (congrArg some (by kernel_rfl))
 f243 := Tryz.func155.trans (congrArg some (by kernel_rfl))
 f246 := Tryz.func184.trans (congrArg some (by kernel_rfl))
 f283 := Tryz.func220.trans (congrArg some (by kernel_rfl))
 f284 := Tryz.func221.trans (congrArg some (by kernel_rfl))
 f285 := Tryz.func222.trans (congrArg some (by kernel_rfl))
 f286 := Tryz.func223.trans (congrArg some (by kernel_rfl))
 f317 := Tryz.func243.trans (congrArg some (by kernel_rfl))
 f318 := Tryz.func244.trans (congrArg some (by kernel_rfl))
 f319 := Tryz.func245.trans (congrArg some (by kernel_rfl))
 f320 := Tryz.func246.trans (congrArg some (by kernel_rfl))
 f337 := Tryz.func250.trans (congrArg some (by kernel_rfl))
 f338 := Tryz.func125.trans (congrArg some (by kernel_rfl))
 t0 := Tryz.underlying0
 a0 := Tryz.isAgg0
 z0 := Tryz.sizeOf0
 v0 := Tryz.zeroValue0
 t2 := Tryz.underlying2
 a2 := Tryz.isAgg2
 z2 := Tryz.sizeOf2
 v2 := Tryz.zeroValue2
 t3 := Tryz.underlying3
 a3 := Tryz.isAgg3
 z3 := Tryz.sizeOf3
 v3 := Tryz.zeroValue3
 t4 := Tryz.underlying4
 a4 := Tryz.isAgg4
 z4 := Tryz.sizeOf4
 v4 := Tryz.zeroValue4
 t5 := Tryz.underlying5
 a5 := Tryz.isAgg5
 z5 := Tryz.sizeOf5
 v5 := Tryz.zeroValue5
 t9 := Tryz.underlying9
 a9 := Tryz.isAgg9
 z9 := Tryz.sizeOf9
 v9 := Tryz.zeroValue9
 t20 := Tryz.underlying20
 a20 := Tryz.isAgg20
 z20 := Tryz.sizeOf20
 v20 := Tryz.zeroValue20
 t37 := Tryz.underlying26
 a37 := Tryz.isAgg26
 z37 := Tryz.sizeOf26
 v37 := Tryz.zeroValue26
 t46 := Tryz.underlying160
 a46 := Tryz.isAgg160
 z46 := Tryz.sizeOf160
 v46 := Tryz.zeroValue160
 t51 := Tryz.underlying66
 a51 := Tryz.isAgg66
 z51 := Tryz.sizeOf66
 v51 := Tryz.zeroValue66
 t53 := Tryz.underlying48
 a53 := Tryz.isAgg48
 z53 := Tryz.sizeOf48
 v53 := Tryz.zeroValue48
 t171 := Tryz.underlying279
 a171 := Tryz.isAgg279
 z171 := Tryz.sizeOf279
 v171 := Tryz.zeroValue279
 t173 := Tryz.underlying281
 a173 := Tryz.isAgg281
 z173 := Tryz.sizeOf281
 v173 := Tryz.zeroValue281
 t212 := Tryz.underlying295
 a212 := Tryz.isAgg295
 z212 := Tryz.sizeOf295
 v212 := Tryz.zeroValue295
 t213 := Tryz.underlying296
 a213 := Tryz.isAgg296
 z213 := Tryz.sizeOf296
 t232 := Tryz.underlying306
 a232 := Tryz.isAgg306
 z232 := Tryz.sizeOf306
 v232 := Tryz.zeroValue306
 t233 := Tryz.underlying241
 a233 := Tryz.isAgg241
 z233 := Tryz.sizeOf241
 v233 := Tryz.zeroValue241
 g17 := by kernel_rfl
 g18 := by kernel_rfl
 g19 := by kernel_rfl
 i0 := by kernel_rfl
 i2 := by kernel_rfl
 i3 := by kernel_rfl
 i4 := by kernel_rfl
 i5 := by kernel_rfl
 i9 := by kernel_rfl
 i20 := by kernel_rfl
 i37 := by kernel_rfl
 i46 := by kernel_rfl
 i51 := by kernel_rfl
 i53 := by kernel_rfl
 i171 := by kernel_rfl
 i173 := by kernel_rfl
 i212 := by kernel_rfl
 i232 := by kernel_rfl
 i233 := by kernel_rfl
 m17 := by kernel_rfl
 m18 := by kernel_rfl
 m19 := by kernel_rfl }
open Go.RowKit Go.Sort Go.Lib in
theorem Tryz.strconv_Itoa (n : Int) (h0 : -9223372036854775808 ≤ n) (h1 : n ≤ 9223372036854775807) (w : World) (htab : Lib.TabIs Tryz.prog w "internal/strconv.uint64pow10" .u64 Lib.pow10Tab) :
  Calls Tryz.prog 107 #[.int .i64 n] w fun e w' => e = .returned (.string ⟨(Lib.itoa n).toArray⟩) ∧ ∃ k os, w' = grow (w.drewN k) os := Any.strconv_Itoa Tryz.laysM171 n h0 h1 w htab
end Go.Proofs
