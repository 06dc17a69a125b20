/- LazyKeeps, proved: a lazy machine keeps no more than it may, makes nothing twice that it keeps, and forgets all at a flush. Conditions: none beyond the row its own.: part 11 of 13 of the proof. Conditions: none. -/
import Derived.Test.YtaooenndoopgdaaGreatDoorK4
import Derived.Test.YtaooenndoopgdaaGreatDoorK10
import Derived.Test.YtaooenndoopgdaaGreatDoorK3
import Derived.StringKeys
import Derived.Laws.CopyRow
import Derived.Shelf.Small.Bits
import Derived.Shelf.Strconv.Itoa0
import Derived.Shelf.Strconv.Itoa1
import Derived.Shelf.LaysM
import Derived.Shelf.Strconv.Itoa2
import Derived.Shelf.Strconv.Itoa3
import Derived.Shelf.Sort.Plain
import Derived.Shelf.Bits.Mul64
import Derived.Ground.Names2Prog
import Derived.Shelf.Slices.CompactI
import Derived.Shelf.Slices.Cells
import Derived.Shelf.Slices.In.SortNone
import Derived.Ground.SlsfProg
import Derived.Shelf.SlSortCmp.Insertion
import Derived.Shelf.SlSortCmp.SiftDown1
import Derived.Shelf.SlSortCmp.HeapSort1
import Derived.Shelf.SlSortCmp.Insertion1
import Derived.Shelf.SlSortCmp.Median1
import Derived.Shelf.SlSortCmp.Pivot1
import Derived.Shelf.SlSortCmp.ReverseRange1
import Derived.Shelf.SlSortCmp.PartialInsertion1
import Derived.Shelf.SlSortCmp.PartitionEqual1
import Derived.Shelf.SlSortCmp.Partition1
import Derived.Shelf.SlSortCmp.Pdq1
import Derived.Shelf.SlSortCmp.NoneTotal
import Derived.Test.YtaooenndoopgdaaGreatDoorProg
namespace Go.Proofs.YtaooenndoopgdaaGreatDoor.lz
open Go Go.Ev Go.Proofs Go.Proofs.YtaooenndoopgdaaGreatDoor.ar Go.Proofs.YtaooenndoopgdaaGreatDoor.bd
theorem dec_len : ∀ (k n : Nat), n < 10 ^ (k + 1) → (Lib.decDigits n).length ≤ k + 1 := by
 intro k
 induction k with
 | zero => intro n h; rw [Lib.decDigits, dif_pos (by omega)]; simp
 | succ k ih =>
   intro n h
   rw [Lib.decDigits]
   split
   ·simp
   ·have := ih (n / 10) (by rw [Nat.pow_succ] at h; omega)
    rw [List.length_append, List.length_singleton]; omega
theorem itoa5 {n : Int} (h0 : 0 ≤ n) (h : n < 20000) : (Lib.itoa n).length ≤ 5 := by
 unfold Lib.itoa
 rw [if_neg (by omega)]
 exact dec_len 4 _ (by omega)
theorem part5 : ∀ (p : List Int), (∀ n ∈ p, 0 ≤ n ∧ n < 20000) → (fk.partB p).length ≤ p.length * 6
 | [], _ => by simp [fk.partB]
 | n :: p, h => by
   have h1 := itoa5 (h n (by simp)).1 (h n (by simp)).2
   have h2 := part5 p fun x hx => h x (by simp [hx])
   simp only [fk.partB, List.map_cons, List.flatten_cons, List.length_append, List.length_cons, List.length_nil] at h2 ⊢
   omega
theorem key5 : ∀ (f : List (List Int)), (∀ p ∈ f, p.length ≤ 20000) → (∀ p ∈ f, ∀ n ∈ p, 0 ≤ n ∧ n < 20000) → (fk.keyB f).length ≤ f.length * 120001
 | [], _, _ => by simp [fk.keyB]
 | p :: f, h, k => by
   have h1 := part5 p (k p (by simp))
   have h0 := h p (by simp)
   have h2 := key5 f (fun x hx => h x (by simp [hx])) fun x hx => k x (by simp [hx])
   simp only [fk.keyB, List.map_cons, List.flatten_cons, List.length_append, List.length_cons, List.length_nil] at h2 ⊢
   omega
theorem FB_fine {N : Nat} (hN : N ≤ 20000) {f : fo.Fml} (h : fo.FB N f) : fk.Fine f ∧ (fk.keyB f).length ≤ 24000200 := by
 have hl := h.len
 have hp : ∀ p ∈ f, p.length ≤ 20000 := fun p hp => Nat.le_trans (h.part hp) hN
 have hn : ∀ p ∈ f, ∀ n ∈ p, 0 ≤ n ∧ n < 20000 := fun p hp n hn => ⟨(h.formed.rises p hp).1 n hn, by have := h.lt p hp n hn; omega⟩
 refine ⟨⟨by omega, hp, fun p hp n hn' => by have := hn p hp n hn'; omega⟩, ?_⟩
 have := key5 f hp hn
 omega
def mkeyB (fs : List fo.Fml) : List UInt8 := jn [47] (fs.map fk.keyB)
theorem tot_keys {N : Nat} (hN : N ≤ 20000) : ∀ (fs : List fo.Fml), (∀ f ∈ fs, fo.FB N f) → totL (fs.map fk.keyB) ≤ fs.length * 24000200
 | [], _ => by simp [totL]
 | f :: fs, h => by
   have h1 := (FB_fine hN (h f (by simp))).2
   have h2 := tot_keys hN fs fun x hx => h x (by simp [hx])
   simp only [totL, List.map_cons, List.sum_cons, List.length_cons] at h2 ⊢
   omega
set_option maxHeartbeats 1000000 in
theorem mkey_fn (m : Mem) (hQ : fk.TabMem m) (v : Value) (fs : List fo.Fml) (N : Nat) (hN : N ≤ 20000) (hv : MnV m v fs) (hF : ∀ f ∈ fs, fo.FB N f) (h30 : fs.length ≤ 40) :
  FnV Tryz.prog 47 [v] m (.string (bs (mkeyB fs))) := by
 have htot := tot_keys hN fs hF
 obtain ⟨A, n, c, rfl, hn, hc, hm, -⟩ := id hv
 have hel := hv.elem
 have hmx : maxLen = 9223372036854775807 := rfl
 refine Fn.enter (N := 20) hX Tryz.func47 rfl rfl (by show _ ≤ _; simp) (fun w0 hL => ?_)
 conv => whnf
 refine go ?_;try(clear hL;intro w hL)
 refine LoopReq.inv hX (fun q : Nat × Option Addr × Nat × Nat => [(3, .slice q.2.1 q.2.2.1 q.2.2.2), (8, .int .i64 q.1)]) [6, 7]
  (fun q w => q.1 ≤ n ∧ ∃ Lo, OwnS 9 1 (.slice q.2.1 q.2.2.1 q.2.2.2) ((fs.take q.1).map fun f => .string (bs (fk.keyB f))) Lo ∧ Ev.Loc m [] w0 m (Lo ++ []) w) (fun q => n - q.1) (0, none, 0, 0)
  ⟨by simp, [], OwnS.nil _ _, (by rw [List.append_nil]; exact hL)⟩ ⟨rfl, rfl, trivial⟩ ?_
 clear hL
 rintro ⟨j, A2, n2, c2⟩ w f ⟨hj, Lo, ho, hL⟩
 dsimp only at hj ho
 refine go ?_;try(clear hL;intro w hL)
 refine BrReq.dec (fun hlt => ?_) (fun hlt => ?_)
 ·have hjl : j < fs.length := by simp only at hlt; omega
  obtain ⟨a, cs, rfl, hl1, hcells, u, rfl, hu⟩ := hel j _ (List.getElem?_eq_getElem hjl)
  have htk := List.take_succ_eq_append_getElem hjl
  have hFj := FB_fine hN (hF _ (List.getElem_mem hjl))
  generalize fs[j] = x at hu htk hFj
  have hc0 := hcells 0 _ rfl
  have addr0 : ∀ z : Addr, z.add 0 = z := fun z => by cases z; rfl
  rw [addr0] at hc0
  have hkey := fk.key_fn m hQ u x hu hFj.1
  obtain ⟨Au, nu, cu, rfl, -⟩ := id hu
  conv => whnf
  repeat ((first | (refine Idx2Req.mk j a rfl (by simp only at hlt ⊢; omega) rfl ?_) | refine LdReq.one hX rfl rfl hL hc0 ?_ | (refine go1 ?_;try(clear hL;intro w hL))); conv => whnf)
  refine CallReq.val hkey hL ?_
  clear hL
  intro w hL
  refine go ?_;try(clear hL;intro w hL)
  refine NewReq.mk hL ?_
  clear hL
  intro g w hL
  conv => whnf
  replace hL : Ev.Loc m [] w0 m ((g, .cells (toArr [.string (bs (fk.keyB x))]) 9 (0, 0)) :: (Lo ++ [])) w := hL
  refine go ?_;try(clear hL;intro w hL)
  refine RunReq.push hX 22 9 rfl rfl rfl rfl rfl ho (L2 := []) hL rfl rfl (by rw [List.length_map, List.length_take]; show _ + 1 ≤ _; omega) rfl ?_
  clear hL
  intro A3 n3 c3 Lo3 w hn3 ho3 hL
  rw [show ((fs.take j).map fun f => Value.string (bs (fk.keyB f))) ++ [.string (bs (fk.keyB x))] = (fs.take (j + 1)).map fun f => .string (bs (fk.keyB f)) by rw [htk, List.map_append]; rfl] at ho3
  refine go ?_;try(clear hL;intro w hL)
  exact rnd (j + 1, A3, n3, c3) ⟨by simp only at hlt ⊢; omega, Lo3, ho3, hL⟩
 ·have hjn : j = fs.length := by simp only at hlt; omega
  rw [hjn, List.take_length, one_rows (fs.map fun f => Value.string (bs (fk.keyB f)))] at ho
  obtain ⟨m2, A5, c5, e5, hL2, hm2, hsl, -⟩ := OwnS.freezeRows (R := isS) (l := fs.map fk.keyB) (L2 := []) (by omega) ho hL (fun r hr => by obtain ⟨u, -, rfl⟩ := List.mem_map.1 hr; rfl) (by simp) (fun i x hx => by
   rw [List.getElem?_map] at hx
   cases hs4 : fs[i]? with
   | none => rw [hs4] at hx; cases hx
   | some y => rw [hs4] at hx; cases hx; exact ⟨[.string (bs (fk.keyB y))], by rw [List.getElem?_map, List.getElem?_map, hs4]; rfl, rfl⟩)
  cases e5
  clear hL
  have hL := hL2
  clear hL2
  refine go ?_;try(clear hL;intro w hL)
  refine CallReq.val (join1_fn m2 _ _ [47] hsl (by rw [List.length_map]; omega) rfl (by omega)) hL ?_
  clear hL
  intro w hL
  refine go ?_;try(clear hL;intro w hL)
  exact RetReq.mk hL ⟨rfl, rfl⟩
end Go.Proofs.YtaooenndoopgdaaGreatDoor.lz
namespace Go.Proofs.YtaooenndoopgdaaGreatDoor.lz
open Go Go.Ev Go.Proofs Go.Proofs.YtaooenndoopgdaaGreatDoor.ar Go.Proofs.YtaooenndoopgdaaGreatDoor.bd
open Go.Maps (Keyed)
theorem key_str : Keyed Tryz.prog 9 := Go.Maps.string_keyed Tryz.underlying9
theorem isK_str (s : List UInt8) (h : s.length ≤ 9223372036854775807) : IsK Tryz.prog 9 (.string (bs s)) := ⟨_, Go.WideMaps.keyOf_string_mk Tryz.underlying9 (by rw [bs_size]; exact h)⟩
def knW : List (List fo.Fml) → Nat → List (Value × Value)
 | [], _ => []
 | fs :: l, i => (.string (bs (mkeyB fs)), .int .i64 i) :: knW l (i + 1)
theorem knW_app (l : List (List fo.Fml)) (fs : List fo.Fml) : ∀ i, knW (l ++ [fs]) i = knW l i ++ [(.string (bs (mkeyB fs)), .int .i64 ((i + l.length : Nat) : Int))] := by
 induction l with
 | nil => intro i; rfl
 | cons a l ih => intro i; simp only [List.cons_append, knW, ih, List.length_cons]; rw [show i + 1 + l.length = i + (l.length + 1) by omega]
theorem knW_mem : ∀ {l : List (List fo.Fml)} {i : Nat} {k v : Value}, (k, v) ∈ knW l i → ∃ (j : Nat) (fs : List fo.Fml), l[j]? = some fs ∧ k = .string (bs (mkeyB fs)) ∧ v = .int .i64 ((i + j : Nat) : Int)
 | [], i, k, v, h => by simp [knW] at h
 | a :: l, i, k, v, h => by
   rcases List.mem_cons.1 h with h | h
   ·cases h; exact ⟨0, a, rfl, rfl, rfl⟩
   ·obtain ⟨j, x, h1, h2, h3⟩ := knW_mem h
    exact ⟨j + 1, x, by simpa using h1, h2, by rw [h3]; congr 2; omega⟩
def lzO (mp : Value) (room : Int) (kb : Nat) (av bv : Value) (rb : Nat) (dn mu se : Int) (lv : Value) (made asked : Int) : Obj :=
 .cells (toArr [mp, .int .i64 room, .map (some kb), av, bv, .map (some rb), .int .u32 dn, .int .i32 mu, .int .u32 se, lv, .int .i64 made, .int .i64 asked]) 81 (0, 0)
def mnR (m : Mem) (cs : List Value) (fs : List fo.Fml) : Prop := ∃ u, cs = [u] ∧ MnV m u fs
theorem MnV.le {m m' : Mem} (h : Mem.Le m m') {v : Value} {fs : List fo.Fml} (k : MnV m v fs) : MnV m' v fs := Sl.le k h fun _ _ _ h2 => h2.le h
theorem mnR.le {m m' : Mem} (h : Mem.Le m m') {cs : List Value} {fs : List fo.Fml} (k : mnR m cs fs) : mnR m' cs fs := by
 obtain ⟨u, e, hu⟩ := k
 exact ⟨u, e, hu.le h⟩
structure AllM (m : Mem) (R N : Nat) (us : List Value) (l : List (List fo.Fml)) : Prop where
 len : l.length = us.length
 at_ : ∀ (i : Nat) (fs : List fo.Fml), l[i]? = some fs → ∃ u, us[i]? = some u ∧ MnV m u fs
 fb : ∀ fs ∈ l, fs.length = R ∧ ∀ f ∈ fs, fo.FB N f
theorem AllM.le {m m' : Mem} {R N M : Nat} {us : List Value} {l : List (List fo.Fml)} (h : AllM m R N us l) (hm : Mem.Le m m') (hN : N ≤ M) : AllM m' R M us l :=
 ⟨h.len, fun i fs hf => by obtain ⟨u, e, hu⟩ := h.at_ i fs hf; exact ⟨u, e, hu.le hm⟩, fun fs hf => ⟨(h.fb fs hf).1, fun f hx => ((h.fb fs hf).2 f hx).mono hN⟩⟩
theorem AllM.app {m : Mem} {R N : Nat} {us : List Value} {l : List (List fo.Fml)} (h : AllM m R N us l) {u : Value} {fs : List fo.Fml} (hu : MnV m u fs) (hR : fs.length = R) (hF : ∀ f ∈ fs, fo.FB N f) : AllM m R N (us ++ [u]) (l ++ [fs]) :=
 ⟨by rw [List.length_append, List.length_append, h.len]; rfl, snoc_get h.len h.at_ hu, all_snoc rfl h.fb ⟨hR, hF⟩⟩
theorem tk_own {te : Nat} {A : Option Addr} {n c : Nat} {us : List Value} {Lo : Ev.Own} (ho : OwnS te 1 (.slice A n c) us Lo) : n = us.length ∧ n ≤ c ∧ c ≤ maxLen ∧ (us ≠ [] → ∃ g cur, A = some ⟨g, 0, none⟩ ∧ Lo = [(g, .cells (toArr cur) te (0, 0))] ∧ ∀ (i : Nat) (u : Value), us[i]? = some u → cur[i]? = some u) := by
 obtain ⟨k, hk, ⟨e, h0, rfl⟩ | ⟨g, cap, cur, e, rfl, h1, h2, h3, h4⟩⟩ := ho
 ·cases e
  refine ⟨by omega, Nat.le_refl _, Nat.zero_le _, fun hne => absurd (List.eq_nil_of_length_eq_zero (by omega)) hne⟩
 ·cases e
  refine ⟨by omega, h1, h2, fun _ => ⟨g, cur, rfl, rfl, fun i u hu => ?_⟩⟩
  rw [Nat.mul_one] at h4
  rw [← h4, List.getElem?_take] at hu
  split at hu
  ·exact hu
  ·cases hu
theorem mkey_len {N : Nat} (hN : N ≤ 20000) {fs : List fo.Fml} (hF : ∀ f ∈ fs, fo.FB N f) (h30 : fs.length ≤ 40) : (mkeyB fs).length ≤ 9223372036854775807 := by
 have h1 := tot_keys hN fs hF
 unfold mkeyB
 have h2 : ∀ l : List (List UInt8), (jn [47] l).length ≤ totL l + l.length := fun l => by
  cases l with
  | nil => simp [jn]
  | cons a r => rw [jn_cons, List.length_append, jnT_len]; simp [totL]; omega
 have h3 := h2 (fs.map fk.keyB)
 rw [List.length_map] at h3
 omega
set_option maxHeartbeats 2000000 in
theorem handle_fn (m : Mem) (hQ : fk.TabMem m) (lb kb rb : Nat) (mp : Value) (hmp : mp.oneCell' = true) (room dn mu se made asked : Int) (av bv lv : Value) (hbv : bv.oneCell' = true) (hlv : lv.oneCell' = true) (us : List Value) (l : List (List fo.Fml)) (R N : Nat) (hR : R ≤ 40) (hN : N ≤ 20000) (Lm : Ev.Own) (ho : OwnS 84 1 av us Lm) (hA : AllM m R N us l)
  (h2000 : l.length ≤ 2000) (v : Value) (fs : List fo.Fml) (hv : MnV m v fs) (hfR : fs.length = R) (hF : ∀ f ∈ fs, fo.FB N f) :
  Ev.Fn Tryz.prog 22 [.pointer (some ⟨lb, 0, none⟩), v] m ((lb, lzO mp room kb av bv rb dn mu se lv made asked) :: (kb, mapW (knW l 0)) :: Lm) fun m' L' u => m' = m ∧
   ((∃ (i : Nat) (gs : List fo.Fml), u = .tuple (toArr [.int .i64 i, .int .i64 0]) ∧ l[i]? = some gs ∧ mkeyB gs = mkeyB fs ∧ L' = (lb, lzO mp room kb av bv rb dn mu se lv made asked) :: (kb, mapW (knW l 0)) :: Lm) ∨
    (u = .tuple (toArr [.int .i64 0, .int .i64 11]) ∧ 2000 ≤ l.length ∧ L' = (lb, lzO mp room kb av bv rb dn mu se lv made asked) :: (kb, mapW (knW l 0)) :: Lm) ∨
    (∃ av2 Lm2, u = .tuple (toArr [.int .i64 l.length, .int .i64 0]) ∧ l.length < 2000 ∧ L' = (lb, lzO mp room kb av2 bv rb dn mu se lv made asked) :: (kb, mapW (knW (l ++ [fs]) 0)) :: Lm2 ∧ OwnS 84 1 av2 (us ++ [v]) Lm2)) := by
 have hkey := mkey_fn m hQ v fs N hN hv hF (by omega)
 have hkl := mkey_len hN hF (by omega)
 have hks : ∀ x ∈ knW l 0, IsK Tryz.prog 9 x.1 := fun x hx => by
  obtain ⟨j, gs, h1, h2, -⟩ := knW_mem (k := x.1) (v := x.2) hx
  obtain ⟨e1, e2⟩ := hA.fb gs (List.mem_of_getElem? h1)
  rw [h2]; exact isK_str _ (mkey_len hN e2 (by omega))
 have hul := hA.len
 obtain ⟨A, n, c, rfl, -⟩ := id hv
 obtain ⟨Av, nv, cv, rfl, -⟩ := ho.slice
 have hnv : nv = us.length := (tk_own ho).1
 refine Fn.enter (N := 54) hX Tryz.func22 rfl rfl (by show _ ≤ _; simp) (fun w0 hL => ?_)
 conv => whnf
 generalize keys ((lb, lzO mp room kb (.slice Av nv cv) bv rb dn mu se lv made asked) :: (kb, mapW (knW l 0)) :: Lm) = S0 at hL ⊢
 refine go ?_;try(clear hL;intro w hL)
 refine CallReq.val hkey hL ?_
 clear hL
 intro w hL
 refine go ?_;try(clear hL;intro w hL)
 refine RunReq.lookW hX rfl rfl key_str (z := .int .i64 0) (by kernel_rfl) hL (.t .h) (isK_str _ hkl) hks (fun hno => ?_) (fun v hv => ?_)
 rotate_left
 ·obtain ⟨j, gs, h1, h2, h3⟩ := knW_mem hv
  rw [Nat.zero_add] at h3
  subst h3
  have he : mkeyB gs = mkeyB fs := by
   injection h2 with h2
   have := congrArg (fun z : ByteArray => z.data.toList) h2
   simpa using this.symm
  refine go ?_;try(clear hL;intro w hL)
  exact RetReq.mk hL ⟨rfl, .inl ⟨j, gs, rfl, h1, he, rfl⟩⟩
 by_cases hbig : (2000 : Int) ≤ nv
 ·conv => whnf
  repeat ((first | refine BrReq.yes hbig ?_ | (refine go1 ?_;try(clear hL;intro w hL))); conv => whnf)
  exact RetReq.mk hL ⟨rfl, .inr (.inl ⟨rfl, by omega, rfl⟩)⟩
 conv => whnf
 repeat ((first | refine BrReq.no hbig ?_ | (refine go1 ?_;try(clear hL;intro w hL))); conv => whnf)
 obtain rfl : nv = l.length := by omega
 refine DrawReq.plan hX (.fst 0 (.fst 1 (.fst 2 (.fst 3 (.fst 4 (.fst 5 (.fst 6 (.fst 7 (.fst 8 (.fst 9 (.alt 10 (.done) (.stop)))))))))))) [(lb, lzO mp room kb (.slice Av l.length cv) bv rb dn mu se lv made asked)] (by kernel_rfl) (by kernel_rfl) hL (fun h => h.one 0 rfl) ?_
 clear hL
 intro w hL
 refine goq ?_;try(clear hL;intro w hL)
 refine RunUReq.updW hX rfl rfl key_str (k := .string (bs (mkeyB fs))) (v := .int .i64 l.length) 1 hL rfl (isK_str _ hkl) hks (fun _ w hL => ?_) (fun q u hq w hL => absurd rfl (hno _ (List.mem_of_getElem? hq)))
 replace hL : Ev.Loc m S0 w0 m ((lb, lzO mp room kb (.slice Av l.length cv) bv rb dn mu se lv made asked) :: (kb, mapW (knW l 0 ++ [(.string (bs (mkeyB fs)), .int .i64 l.length)])) :: Lm) w := hL
 have hkn : knW l 0 ++ [(Value.string (bs (mkeyB fs)), Value.int .i64 l.length)] = knW (l ++ [fs]) 0 := by rw [knW_app, Nat.zero_add]
 rw [hkn] at hL
 refine SReq.mk (hL.one 0 rfl) ?_
 have hks2 : ∀ x ∈ knW (l ++ [fs]) 0, IsK Tryz.prog 9 x.1 := fun x hx => by
  rw [← hkn] at hx
  rcases List.mem_append.1 hx with h | h
  ·exact hks x h
  ·rw [List.mem_singleton.1 h]; exact isK_str _ hkl
 have hmem : (Value.string (bs (mkeyB fs)), Value.int .i64 l.length) ∈ knW (l ++ [fs]) 0 := by rw [← hkn]; simp
 have hval : ∀ v, (Value.string (bs (mkeyB fs)), v) ∈ knW (l ++ [fs]) 0 → v = .int .i64 l.length := fun v hv => by
  rw [← hkn] at hv
  rcases List.mem_append.1 hv with h | h
  ·exact absurd rfl (hno _ h)
  ·have := List.mem_singleton.1 h; injection this
 generalize knW (l ++ [fs]) 0 = K2 at hL hks2 hmem hval ⊢
 clear hkn
 refine goq ?_;try(clear hL;intro w hL)
 refine NewReq.mk hL ?_
 clear hL
 intro g w hL
 conv => whnf
 replace hL : Ev.Loc m S0 w0 m ((g, .cells (toArr [.slice A n c]) 84 (0, 0)) :: (Lm ++ [(lb, lzO mp room kb (.slice Av l.length cv) bv rb dn mu se lv made asked), (kb, mapW K2)])) w := hL.perm (List.Perm.cons _ (List.perm_append_comm (l₁ := [_, _])))
 refine go ?_;try(clear hL;intro w hL)
 refine RunReq.push hX 62 84 rfl rfl rfl rfl rfl ho (L2 := [_, _]) hL rfl rfl (by show us.length + 1 ≤ _; omega) rfl ?_
 clear hL
 intro A3 n3 c3 Lo3 w hn3 ho3 hL
 replace hL : Ev.Loc m S0 w0 m ((lb, lzO mp room kb (.slice Av l.length cv) bv rb dn mu se lv made asked) :: (kb, mapW K2) :: Lo3) w := hL.perm (List.perm_append_comm (l₂ := [_, _]))
 refine go ?_;try(clear hL;intro w hL)
 replace hL : Ev.Loc m S0 w0 m ((lb, lzO mp room kb (.slice A3 n3 c3) bv rb dn mu se lv made asked) :: (kb, mapW K2) :: Lo3) w := hL
 refine RunReq.lookW hX rfl rfl key_str (z := .int .i64 0) (by kernel_rfl) hL (.t .h) (isK_str _ hkl) hks2 (fun hno2 => absurd rfl (hno2 _ hmem)) (fun v hv => ?_)
 obtain rfl := hval v hv
 refine go ?_;try(clear hL;intro w hL)
 exact RetReq.mk hL ⟨rfl, .inr (.inr ⟨_, Lo3, rfl, by omega, rfl, ho3⟩)⟩
end Go.Proofs.YtaooenndoopgdaaGreatDoor.lz
namespace Go.Proofs.YtaooenndoopgdaaGreatDoor.lz
open Go Go.Ev Go.Proofs Go.Proofs.YtaooenndoopgdaaGreatDoor.ar Go.Proofs.YtaooenndoopgdaaGreatDoor.tree
def begF (s : Sp) (fs : List fo.Fml) (start : Int) (i : Nat) : fo.Fml := match s.rules[i]?, fs[i]? with
 | some x, some f => if start ∈ x.starts then f else []
 | _, _ => []
def begL (s : Sp) (fs : List fo.Fml) (start : Int) : List fo.Fml := (List.range fs.length).map (begF s fs start)
theorem begL_len (s : Sp) (fs : List fo.Fml) (start : Int) : (begL s fs start).length = fs.length := by simp [begL]
theorem begL_mem {s : Sp} {fs : List fo.Fml} {start : Int} {g : fo.Fml} (h : g ∈ begL s fs start) : g = [] ∨ g ∈ fs := by
 obtain ⟨i, -, rfl⟩ := List.mem_map.1 h
 unfold begF
 split
 ·rename_i x f h1 h2
  split
  ·exact .inr (List.mem_of_getElem? h2)
  ·exact .inl rfl
 ·exact .inl rfl
theorem zeros_sl (n : Nat) : zerosL n [Value.slice none 0 0] = List.replicate n (Value.slice none 0 0) := by
 rw [zeros_rows]
 induction n with
 | zero => rfl
 | succ q ih => rw [List.replicate_succ, List.flatten_cons, ih, List.replicate_succ]; rfl
set_option maxHeartbeats 1000000 in
theorem Begin_fn (m : Mem) (mb ab : Nat) (s : Sp) (ls : List Re) (fs : List fo.Fml) (of : List Nat) (N : Nat) (hM : Mkr m mb ab s ls fs of N) (start : Int) (h40 : s.rules.length ≤ 40) :
  Fn0 Tryz.prog 23 [.pointer (some ⟨mb, 0, none⟩), .int .i64 start] m fun m' u => ∃ A n c, u = .slice A n c ∧ MnV m' u (begL s fs start) := by
 obtain ⟨⟨A, n, c, A2, n2, c2, A3, n3, c3, A4, n4, c4, hc, -, hfs, hsp⟩, hC, -, hlen⟩ := hM
 obtain ⟨A5, n5, c5, A6, n6, c6, e, -, h2⟩ := hsp
 injection e with e1 e2
 injection e2 with e2 _
 cases e1; cases e2
 obtain ⟨g1, g2, g3⟩ := mkC_get (a := .pointer (some ⟨ab, 0, none⟩)) (p := .slice A n c) (N := N) (r := .slice A2 n2 c2) (sv := .slice A3 n3 c3) (rv := .slice A4 n4 c4) hC.len
 have k1 := hc 259 _ g1
 have k3 := hc 261 _ g3
 have hn2 := hfs.lens.1
 have hn4 := h2.lens.1
 have hmx : maxLen = 9223372036854775807 := rfl
 refine Fn.enter (N := 41) hX Tryz.func23 rfl rfl (by show _ ≤ _; simp) (fun w0 hL => ?_)
 conv => whnf
 conv => whnf
 repeat ((first | refine LdReq.one hX rfl rfl hL k1 ?_ | (refine go1 ?_;try(clear hL;intro w hL))); conv => whnf)
 refine RunReq.make hX rfl rfl rfl rfl n2 n2 rfl rfl (Nat.le_refl _) (by omega) rfl hL ?_
 clear hL
 intro g w hL
 replace hL : Ev.Loc m [] w0 m [(g, .cells (toArr (zerosL n2 [Value.slice none 0 0])) 88 (0, 0))] w := hL
 rw [zeros_sl] at hL
 conv => whnf
 repeat ((first | refine LdReq.one hX rfl rfl hL k3 ?_ | (refine go1 ?_;try(clear hL;intro w hL))); conv => whnf)
 refine LoopReq.inv hX (fun j : Nat => [(20, .int .i64 j)]) [0, 1, 5, 18, 19]
  (fun j w => j ≤ n4 ∧ ∃ cur : List Value, (cur.length = n2 ∧ ∀ i, i < n2 → ∃ u, cur[i]? = some u ∧ fo.FmV m u (if i < j then begF s fs start i else [])) ∧ Ev.Loc m [] w0 m [(g, .cells (toArr cur) 88 (0, 0))] w) (fun j => n4 - j) 0
  ⟨by omega, _, ⟨List.length_replicate, fun i hi => ⟨.slice none 0 0, by rw [List.getElem?_replicate, if_pos hi], by rw [if_neg (by omega)]; exact Sl.nil _ _ _⟩⟩, hL⟩ ⟨rfl, trivial⟩ ?_
 clear hL
 rintro j w f0 ⟨hj, cur, ⟨hcl, hcv⟩, hL⟩
 refine go ?_;try(clear hL;intro w hL)
 refine BrReq.dec (fun hlt => ?_) (fun hlt => ?_)
 ·have hjl : j < s.rules.length := by omega
  obtain ⟨a, cs', rfl, hl12, hcells, hru⟩ := h2.elem j _ (List.getElem?_eq_getElem hjl)
  have hbf : ∀ f, fs[j]? = some f → begF s fs start j = if start ∈ s.rules[j].starts then f else [] := fun f hf => by
   unfold begF; rw [List.getElem?_eq_getElem hjl, hf]
  generalize s.rules[j] = x at hru hbf
  obtain ⟨A7, n7, c7, k, s0, s1, s2, s3, A8, n8, c8, lo, hi, neg, rfl, hst, -⟩ := hru
  have hjf : j < fs.length := by omega
  obtain ⟨a2, cs2, rfl, hl1, hcells2, u, rfl, hu⟩ := hfs.elem j _ (List.getElem?_eq_getElem hjf)
  have hbf2 := hbf _ (List.getElem?_eq_getElem hjf)
  generalize fs[j] = f at hu hbf2
  have hc0 := hcells2 0 _ rfl
  have addr0 : ∀ z : Addr, z.add 0 = z := fun z => by cases z; rfl
  rw [addr0] at hc0
  obtain ⟨Au, nu, cu, rfl, -⟩ := id hu
  conv => whnf
  repeat ((first | refine Idx2Req.mk j a rfl (by omega) rfl ?_ | refine LdReq.agg hX rfl rfl hL hl12 hcells ?_ | (refine go1 ?_;try(clear hL;intro w hL))); conv => whnf)
  refine NewReq.mk hL ?_
  clear hL
  intro b7 w hL
  conv => whnf
  refine go ?_;try(clear hL;intro w hL)
  refine CallReq.val (contains_fn m _ x.starts start hst) hL ?_
  clear hL
  intro w hL
  by_cases hin : start ∈ x.starts
  ·rw [decide_eq_true hin]
   rw [if_pos hin] at hbf2
   replace hL := hL.drop
   conv => whnf
   repeat ((first | refine LdReq.one hX rfl rfl hL k1 ?_ | refine Idx2Req.mk j a2 rfl (by omega) rfl ?_ | refine LdReq.one hX rfl rfl hL hc0 ?_ | refine Idx2Req.mk j ⟨g, 0, none⟩ rfl (by omega) rfl ?_ | (refine go1 ?_;try(clear hL;intro w hL))); conv => whnf)
   refine StReq.ownAt hX rfl 0 hL rfl rfl (by rw [scale_eq, Nat.zero_add, Nat.mul_one]; show j + 1 ≤ cur.length; omega) rfl ?_
   clear hL
   intro w hL
   replace hL : Ev.Loc m [] w0 m [(g, .cells (toArr (spliceL cur (0 + scale j 1) [.slice Au nu cu])) 88 (0, 0))] w := hL
   rw [scale_eq, Nat.zero_add, Nat.mul_one] at hL
   replace hL : Ev.Loc m [] w0 m [(g, .cells (toArr (cur.set j (.slice Au nu cu))) 88 (0, 0))] w := hL
   have hcv2 : ∀ i, i < n2 → ∃ u, (cur.set j (.slice Au nu cu))[i]? = some u ∧ fo.FmV m u (if i < j + 1 then begF s fs start i else []) := fun i hi => by
    by_cases e : i = j
    ·subst e
     exact ⟨_, by rw [List.getElem?_set_self (by omega)], by rw [if_pos (by omega), hbf2]; exact hu⟩
    ·obtain ⟨u, h1, h2⟩ := hcv i hi
     refine ⟨u, by rw [List.getElem?_set_ne (fun h => e h.symm)]; exact h1, ?_⟩
     by_cases h3 : i < j
     ·rw [if_pos h3] at h2; rw [if_pos (by omega)]; exact h2
     ·rw [if_neg h3] at h2; rw [if_neg (by omega)]; exact h2
   refine go ?_;try(clear hL;intro w hL)
   exact rnd (j + 1) ⟨by omega, _, ⟨by rw [List.length_set]; exact hcl, hcv2⟩, hL⟩
  ·rw [decide_eq_false hin]
   rw [if_neg hin] at hbf2
   have hcv2 : ∀ i, i < n2 → ∃ u, cur[i]? = some u ∧ fo.FmV m u (if i < j + 1 then begF s fs start i else []) := fun i hi => by
    obtain ⟨u, h1, h2⟩ := hcv i hi
    refine ⟨u, h1, ?_⟩
    by_cases h3 : i < j
    ·rw [if_pos h3] at h2; rw [if_pos (by omega)]; exact h2
    ·rw [if_neg h3] at h2
     by_cases e : i = j
     ·rw [if_pos (by omega), e, hbf2]; exact h2
     ·rw [if_neg (by omega)]; exact h2
   replace hL := hL.drop
   refine go ?_;try(clear hL;intro w hL)
   exact rnd (j + 1) ⟨by omega, cur, ⟨hcl, hcv2⟩, hL⟩
 ·have hjn : j = n4 := by omega
  have hR : ∀ (i : Nat) (f : fo.Fml), (begL s fs start)[i]? = some f → ∃ cs, (cur.map fun u => [u])[i]? = some cs ∧ fmR m cs f := fun i f hf => by
   have hi := (List.getElem?_eq_some_iff.1 hf).1
   rw [begL_len] at hi
   obtain ⟨u, h1, h2⟩ := hcv i (by omega)
   rw [if_pos (by omega)] at h2
   have : f = begF s fs start i := by
    unfold begL at hf
    rw [List.getElem?_map, List.getElem?_range hi] at hf
    exact (Option.some.inj hf).symm
   exact ⟨[u], by rw [List.getElem?_map, h1]; rfl, u, rfl, this ▸ h2⟩
  have ho : OwnS 88 1 (.slice (some ⟨g, 0, none⟩) n2 n2) (cur.map fun u => [u]).flatten [(g, .cells (toArr cur) 88 (0, 0))] := by
   rw [← one_rows]
   exact OwnS.full (by omega) (by omega)
  obtain ⟨m2, A9, c9, e9, hL2, hm2, hsl, -⟩ := OwnS.freezeRows (R := fmR m) (L2 := []) (by omega) ho (by rw [List.append_nil]; exact hL) (fun r hr => by obtain ⟨u, -, rfl⟩ := List.mem_map.1 hr; rfl) (by rw [List.length_map, begL_len]; omega) hR
  injection e9 with e9 e10 e11
  refine go ?_;try(clear hL;intro w hL)
  refine RetReq.mk hL2 ⟨rfl, _, _, _, rfl, ?_⟩
  show MnV m2 (.slice (some ⟨g, 0, none⟩) n2 n2) _
  exact hsl.le (Mem.Le.refl m2) fun _ _ _ h => h.le hm2
end Go.Proofs.YtaooenndoopgdaaGreatDoor.lz
namespace Go.Ev
open Go
open Go.ChangeMaps (setBlock)
open Go.MapKept (run_setObj_map)
open Go.Maps (Keyed)
section
variable {P : Program} {X : Tab} {N : Nat} {m0 m : Mem} {S : List Nat} {w0 w : World} {L : Own}
def mapB (b : Nat) (l : List (Value × Value)) : Obj := .map (entW b l).toArray (b + l.length)
theorem run_findB {kt : TypeId} (hK : Keyed P kt) {k : Value} (hk : IsK P kt k) {b : Nat} {l : List (Value × Value)} (hks : ∀ x ∈ l, IsK P kt x.1) (w : World) :
  ((Instr.findKey kt k (entW b l)).run P w = .ok none w ∧ ∀ x ∈ l, x.1 ≠ k) ∨ ∃ q v, (Instr.findKey kt k (entW b l)).run P w = .ok (some (q, v)) w ∧ l[q]? = some (k, v) := by
 obtain ⟨lx, hlx⟩ := hk
 rcases hK.find w hlx (entW b l) (fun e he => hks _ (entW_mem he)) with ⟨h1, h2⟩ | ⟨j, e, h1, h2, h3⟩
 ·refine .inl ⟨h1, fun x hx => ?_⟩
  obtain ⟨q, hq⟩ := List.getElem?_of_mem hx
  have : (entW b l)[q]? = some ⟨x.1, x.2, b + q⟩ := by rw [entW_get, hq]; rfl
  exact h2 _ (List.mem_of_getElem? this)
 ·refine .inr ⟨j, e.val, h1, ?_⟩
  rw [entW_get] at h2
  cases hx : l[j]? with
  | none => rw [hx] at h2; cases h2
  | some x => rw [hx] at h2; simp at h2; subst h2; simp at h3; subst h3; rfl
theorem RunReq.lookB (hX : TabsOk P X) {t kt vt r bb : Nat} {ti : TI} (ht : look X.T t = some (some ti)) (hd : ti.d = .map kt vt) (hK : Keyed P kt) {c : Bool} {k z : Value} {l : List (Value × Value)} {K : Value → World → Prop}
  (hz0 : (P.info? vt).bind (·.zero) = some z) (hL : Loc m0 S w0 m L w) (hi : Lies L r (mapB bb l)) (hk : IsK P kt k) (hks : ∀ x ∈ l, IsK P kt x.1)
  (h0 : (∀ x ∈ l, x.1 ≠ k) → K (if c = true then .tuple (toArr [z, .bool false]) else z) w)
  (h1 : ∀ v, (k, v) ∈ l → K (if c = true then .tuple (toArr [v, .bool true]) else v) w) : RunReq P (Instr.lookup t (.map (some r)) k c) w K := by
 have hu := td_map (hX.t _ _ ht) hd
 obtain ⟨i, hi⟩ := hi.ex
 have hb : w.heap[r]? = some (.map (entW bb l).toArray (bb + l.length)) := hL.own _ (List.mem_of_getElem? (by rw [← look_eq]; exact hi))
 have hz : ∀ w, (zeroValue vt).run P w = .ok z w := by
  intro w
  cases hi : P.info? vt with
  | none => rw [hi] at hz0; cases hz0
  | some i => rw [hi] at hz0; simp only [Option.bind_some] at hz0; simp [zeroValue, run_typeInfo hi, hz0]
 have hc : ∀ em, (Instr.checkKey em 10000 kt k).run P w = .ok () w := fun em => by obtain ⟨lx, hlx⟩ := hk; exact hK.check w em hlx
 rcases run_findB (b := bb) hK hk hks w with ⟨hf, hn⟩ | ⟨q, v, hf, hq⟩
 ·refine ⟨_, _, ?_, h0 hn⟩
  simp only [Instr.lookup, Sem.run_bind, run_underlying hu, Result.andThen_ok, rgm hb, Sem.run_pure, hc, hf, hz]
  rfl
 ·refine ⟨_, _, ?_, h1 v (List.mem_of_getElem? hq)⟩
  simp only [Instr.lookup, Sem.run_bind, run_underlying hu, Result.andThen_ok, rgm hb, Sem.run_pure, hc, hf]
  rfl
theorem RunUReq.updB (hX : TabsOk P X) {t kt vt r bb : Nat} {ti : TI} (ht : look X.T t = some (some ti)) (hd : ti.d = .map kt vt) (hK : Keyed P kt) {k v : Value} {l : List (Value × Value)} {K : World → Prop} (i : Nat)
  (hL : Loc m0 S w0 m L w) (hi : look L i = some (r, mapB bb l)) (hk : IsK P kt k) (hks : ∀ x ∈ l, IsK P kt x.1) (hno : ∀ x ∈ l, x.1 ≠ k)
  (h0 : ∀ w', Loc m0 S w0 m (L.set i (r, mapB bb (l ++ [(k, v)]))) w' → K w') : RunUReq P (Instr.mapUpdate t (.map (some r)) k v) w K := by
 have hu := td_map (hX.t _ _ ht) hd
 have hb : w.heap[r]? = some (.map (entW bb l).toArray (bb + l.length)) := hL.own _ (List.mem_of_getElem? (by rw [← look_eq]; exact hi))
 have hc : ∀ em, (Instr.checkKey em 10000 kt k).run P w = .ok () w := fun em => by obtain ⟨lx, hlx⟩ := hk; exact hK.check w em hlx
 rcases run_findB (b := bb) hK hk hks w with ⟨hf, -⟩ | ⟨q, u, hf, hq⟩
 ·refine ⟨_, ?_, h0 _ (hL.setObj (o' := mapB bb (l ++ [(k, v)])) hi)⟩
  simp only [Instr.mapUpdate, Sem.run_bind, run_underlying hu, Result.andThen_ok, rgm hb, hc, hf]
  rw [run_setObj_map _ hb]
  simp only [setBlock, mapB, entW_push, List.length_append, List.length_cons, List.length_nil, List.push_toArray, Nat.add_assoc]
 ·exact absurd rfl (hno _ (List.mem_of_getElem? hq))
theorem GenReq.clearB (hX : TabsOk P X) {o : Oper} {ρ : Operand → Value} {c : Call} {t kt vt r bb : Nat} {ti : TI} {l : List (Value × Value)} {K : Value → World → Prop} (ho : o.op = .call c) (hc : c.callee = .builtin .clear) (hat : c.argTypes = #[t]) (ha : c.args.toList.map ρ = [.map (some r)])
  (ht : look X.T t = some (some ti)) (hd : ti.d = .map kt vt) (i : Nat) (hL : Loc m0 S w0 m L w) (hi : look L i = some (r, mapB bb l))
  (h : ∀ w', Loc m0 S w0 m (L.set i (r, mapB (bb + l.length) [])) w' → K (.tuple #[]) w') : GenReq P o ρ w K := by
 have hu := td_map (hX.t _ _ ht) hd
 have hb : w.heap[r]? = some (.map (entW bb l).toArray (bb + l.length)) := hL.own _ (List.mem_of_getElem? (by rw [← look_eq]; exact hi))
 have e1 : c.args.map ρ = #[.map (some r)] := by apply Array.ext'; simp [ha]
 have hex : execOp ρ o = (do pure (.value (← Builtin.clear_ c.argTypes o.type #[.map (some r)]))) := by simp [execOp, ho, resolve, hc, Go.invoke, builtin, e1]
 have hrun : (Builtin.clear_ #[t] o.type #[.map (some r)]).run P w = .ok (.tuple #[]) (setBlock w r (.map #[] (bb + l.length))) := by
  simp [Builtin.clear_, run_underlying hu, rgm hb, run_setObj_map _ hb, Result.andThen]
  rfl
 constructor
 unfold OpOk
 rw [hex, hat]
 simp only [Sem.run_bind, hrun, Result.andThen_ok, Sem.run_pure]
 exact h _ (hL.setObj (o' := mapB (bb + l.length) []) hi)
theorem GenReq.lenB (hX : TabsOk P X) {o : Oper} {ρ : Operand → Value} {c : Call} {t kt vt r bb : Nat} {ti : TI} {l : List (Value × Value)} {K : Value → World → Prop} (ho : o.op = .call c) (hc : c.callee = .builtin .len) (hat : c.argTypes = #[t]) (ha : c.args.toList.map ρ = [.map (some r)])
  (ht : look X.T t = some (some ti)) (hd : ti.d = .map kt vt) (hL : Loc m0 S w0 m L w) (hi : Lies L r (mapB bb l))
  (h : K (goInt l.length) w) : GenReq P o ρ w K := by
 have hu := td_map (hX.t _ _ ht) hd
 obtain ⟨i, hi⟩ := hi.ex
 have hb : w.heap[r]? = some (.map (entW bb l).toArray (bb + l.length)) := hL.own _ (List.mem_of_getElem? (by rw [← look_eq]; exact hi))
 have e1 : c.args.map ρ = #[.map (some r)] := by apply Array.ext'; simp [ha]
 have hlen : ∀ (l : List (Value × Value)) (b : Nat), (entW b l).length = l.length := fun l => by
  induction l with
  | nil => intro b; rfl
  | cons x l ih => intro b; simp [entW, ih]
 have hex : execOp ρ o = (do pure (.value (← Builtin.len_ c.argTypes o.type #[.map (some r)]))) := by simp [execOp, ho, resolve, hc, Go.invoke, builtin, e1]
 have hrun : (Builtin.len_ #[t] o.type #[.map (some r)]).run P w = .ok (goInt l.length) w := by
  simp [Builtin.len_, run_underlying hu, rgm hb, Result.andThen, hlen]
 constructor
 unfold OpOk
 rw [hex, hat]
 simp only [Sem.run_bind, hrun, Result.andThen_ok, Sem.run_pure]
 exact h
theorem RunReq.copyRow (hX : TabsOk P X) {dT sT ty elem g o dLen dCap sLen sCap te : Nat} {ti tei : TI} {a : Addr} {cur cs : List Value} {K : Value → World → Prop} (ht : look X.T dT = some (some ti)) (hd : ti.d = .slice elem) (hte : look X.T elem = some (some tei)) (hsz : tei.size = 1)
  (i : Nat) (hL : Loc m0 S w0 m L w) (hi : look L i = some (g, .cells (toArr cur) te (0, 0))) (hn : cs.length = Nat.min sLen dLen) (hsrc : ∀ j v, cs[j]? = some v → w.cell? (a.add j) = some v) (hfit : o + cs.length ≤ cur.length) (h1 : ∀ v ∈ cs, v.oneCell' = true)
  (h : ∀ w', Loc m0 S w0 m (L.set i (g, .cells (toArr (cur.take o ++ cs ++ cur.drop (o + cs.length))) te (0, 0))) w' → K (goInt cs.length) w') :
  RunReq P (Builtin.copy_ #[dT, sT] ty #[.slice (some ⟨g, o, none⟩) dLen dCap, .slice (some a) sLen sCap]) w K := by
 have hu := td_slice (hX.t _ _ ht) hd
 have hs : (P.info? elem).map (·.size) = some 1 := by
  obtain ⟨ii, ds, zs, hii, -, -, rfl⟩ := tiOf_info (hX.t _ _ hte)
  rw [hii]; exact congrArg some hsz
 have hg : w.heap[g]? = some (.cells (toArr cur) te (0, 0)) := hL.own _ (List.mem_of_getElem? (by rw [← look_eq]; exact hi))
 have hrun := run_copy_row (P := P) w dT sT ty elem g o dLen dCap a sLen sCap (toArr cur) te cs hu hs hg hn hsrc (by simpa [toArr] using hfit) h1
 refine RunReq.mk hrun ?_
 have e : w.setRow g ((toArr cur).toList.take o ++ cs ++ (toArr cur).toList.drop (o + cs.length)).toArray = setBlock w g (.cells (toArr (cur.take o ++ cs ++ cur.drop (o + cs.length))) te (0, 0)) := by
  have hlt := heap_lt hg
  show World.setRow w g (cur.take o ++ cs ++ cur.drop (o + cs.length)).toArray = _
  simp only [World.setRow, setBlock]
  congr 1
  apply Array.ext_getElem?
  intro k
  rw [Array.getElem?_modify, Array.getElem?_setIfInBounds]
  by_cases hk : g = k
  ·subst hk
   rw [if_pos rfl, if_pos rfl, if_pos hlt, hg]; rfl
  ·rw [if_neg hk, if_neg hk]
 rw [e]
 exact h _ (hL.setObj hi)
end
end Go.Ev
namespace Go.Proofs.YtaooenndoopgdaaGreatDoor.lz
open Go Go.Ev Go.Proofs Go.Proofs.YtaooenndoopgdaaGreatDoor.ar Go.Proofs.YtaooenndoopgdaaGreatDoor.tree Go.Proofs.YtaooenndoopgdaaGreatDoor.looks
structure St where
 kb : Nat
 rb : Nat
 mb : Nat
 ab : Nat
 room : Int
 dn : Int
 mu : Int
 se : Int
 made : Int
 asked : Int
 av : Value
 bv : Value
 lv : Value
 us : List Value
 l : List (List fo.Fml)
 bg : List Int
 ns : List Nd
 rows : List (Int × Nat × List Int)
 ck : Nat
 Lm : Ev.Own
 Lb : Ev.Own
 La : Ev.Own
 Ll : Ev.Own
def ints (l : List Int) : List Value := l.map fun z => .int .i64 z
def rwW (r : List (Int × Nat × List Int)) : List (Value × Value) := r.map fun x => (.int .i64 x.1, .slice (some ⟨x.2.1, 0, none⟩) x.2.2.length x.2.2.length)
def rwB (r : List (Int × Nat × List Int)) : Ev.Own := r.map fun x => (x.2.1, .cells (toArr (ints x.2.2)) 3 (0, 0))
def St.ob (x : St) : Obj := lzO (.pointer (some ⟨x.mb, 0, none⟩)) x.room x.kb x.av x.bv x.rb x.dn x.mu x.se x.lv x.made x.asked
def St.own (lb : Nat) (x : St) : Ev.Own := (lb, x.ob) :: (x.kb, mapW (knW x.l 0)) :: (x.Lm ++ ((x.rb, mapB x.ck (rwW x.rows)) :: (x.Lb ++ (x.La ++ (rwB x.rows ++ x.Ll)))))
structure Inv (m : Mem) (s : Sp) (ls : List Re) (fs : List fo.Fml) (of : List Nat) (N : Nat) (x : St) : Prop where
 mkr : Mkr m x.mb x.ab s ls fs of N
 fb : ∀ f ∈ fs, fo.FB x.ns.length f
 ok : OkA x.ns
 ar : Ar x.ab x.ns x.La
 ho : OwnS 84 1 x.av x.us x.Lm
 all : AllM m fs.length x.ns.length x.us x.l
 hb : OwnS 3 1 x.bv (ints x.bg) x.Lb
 n : x.l.length ≤ 2000
 bgs : ∀ b ∈ x.bg, 0 ≤ b ∧ b < x.l.length
theorem Mkr.le {m m' : Mem} (h : Mem.Le m m') {mb ab : Nat} {s : Sp} {ls : List Re} {fs : List fo.Fml} {of : List Nat} {N : Nat} (k : Mkr m mb ab s ls fs of N) : Mkr m' mb ab s ls fs of N := by
 obtain ⟨⟨A, n, c, A2, n2, c2, A3, n3, c3, A4, n4, c4, h1, h2, h3, h4⟩, h5, h6, h7⟩ := k
 exact ⟨⟨A, n, c, A2, n2, c2, A3, n3, c3, A4, n4, c4, h1.le h, h2.le h fun _ _ _ k => k.le h, h3.le h, h4.le h⟩, h5, h6, h7⟩
theorem fb_perm {α : Type} (a b c : α) (Lm Lb R : List α) : (a :: b :: (Lm ++ (c :: (Lb ++ R)))).Perm (Lb ++ (a :: b :: (Lm ++ (c :: R)))) := by
 have := List.perm_append_comm_assoc (a :: b :: (Lm ++ [c])) Lb R
 simpa using this
theorem handleX_fn (m : Mem) (hQ : fk.TabMem m) (lb kb rb : Nat) (mp : Value) (hmp : mp.oneCell' = true) (room dn mu se made asked : Int) (av bv lv : Value) (hbv : bv.oneCell' = true) (hlv : lv.oneCell' = true) (us : List Value) (l : List (List fo.Fml)) (R N : Nat) (hR : R ≤ 40) (hN : N ≤ 20000) (Lm : Ev.Own) (ho : OwnS 84 1 av us Lm) (hA : AllM m R N us l)
  (h2000 : l.length ≤ 2000) (v : Value) (fs : List fo.Fml) (hv : MnV m v fs) (hfR : fs.length = R) (hF : ∀ f ∈ fs, fo.FB N f) :
  Ev.Fn Tryz.prog 22 [.pointer (some ⟨lb, 0, none⟩), v] m ((lb, lzO mp room kb av bv rb dn mu se lv made asked) :: (kb, mapW (knW l 0)) :: Lm) fun m' L' u => m' = m ∧
   ((u = .tuple (toArr [.int .i64 0, .int .i64 11]) ∧ 2000 ≤ l.length ∧ L' = (lb, lzO mp room kb av bv rb dn mu se lv made asked) :: (kb, mapW (knW l 0)) :: Lm) ∨
    ∃ (z : Nat) (av2 : Value) (us2 : List Value) (l2 : List (List fo.Fml)) (Lm2 : Ev.Own) (gs : List fo.Fml), u = .tuple (toArr [.int .i64 z, .int .i64 0]) ∧ L' = (lb, lzO mp room kb av2 bv rb dn mu se lv made asked) :: (kb, mapW (knW l2 0)) :: Lm2 ∧ OwnS 84 1 av2 us2 Lm2 ∧ AllM m R N us2 l2 ∧ l2.length ≤ 2000 ∧ l2[z]? = some gs ∧ mkeyB gs = mkeyB fs ∧ ((l2 = l ∧ z < l.length) ∨ (l2 = l ++ [fs] ∧ z = l.length))) := by
 refine (handle_fn m hQ lb kb rb mp hmp room dn mu se made asked av bv lv hbv hlv us l R N hR hN Lm ho hA h2000 v fs hv hfR hF).mono ?_
 rintro m' L' u - ⟨rfl, ⟨i, gs, rfl, h1, h2, rfl⟩ | ⟨rfl, h1, rfl⟩ | ⟨av2, Lm2, rfl, h1, rfl, h2⟩⟩
 ·exact ⟨rfl, .inr ⟨i, av, us, l, Lm, gs, rfl, rfl, ho, hA, h2000, h1, h2, .inl ⟨rfl, (List.getElem?_eq_some_iff.1 h1).1⟩⟩⟩
 ·exact ⟨rfl, .inl ⟨rfl, h1, rfl⟩⟩
 ·exact ⟨rfl, .inr ⟨l.length, av2, us ++ [v], l ++ [fs], Lm2, fs, rfl, rfl, h2, hA.app hv hfR hF, by rw [List.length_append]; simp; omega, by simp, rfl, .inr ⟨rfl, rfl⟩⟩⟩
def st0 (kb rb mb ab : Nat) (room : Int) (ns : List Nd) (La : Ev.Own) (av bv : Value) (us : List Value) (l : List (List fo.Fml)) (bg : List Int) (Lm Lb : Ev.Own) : St := ⟨kb, rb, mb, ab, room, 0, 0, 0, 0, 0, av, bv, .slice none 0 0, us, l, bg, ns, [], 0, Lm, Lb, La, []⟩
theorem begL_one {s : Sp} (h : OneS s) : begL s [[[0]]] ((0 : Nat) : Int) = [[[0]]] := by
 obtain ⟨-, h1, h2⟩ := h
 match hr : s.rules, h1 with
 | [x], _ =>
   have h3 := h2 x (by rw [hr]; simp)
   simp [begL, begF, hr, h3.1]
def NwQ (s : Sp) (room : Int) (m' : Mem) (L' : Ev.Own) (u : Value) : Prop := (∃ e, u = .tuple (toArr [.pointer none, .int .i64 e]) ∧ e ≠ 0 ∧ L' = [] ∧ ¬ (OneS s ∧ room = 2)) ∨
 ∃ lb x ls fs of N, u = .tuple (toArr [.pointer (some ⟨lb, 0, none⟩), .int .i64 0]) ∧ L' = x.own lb ∧ Inv m' s ls fs of N x ∧ x.rows = [] ∧ x.Ll = [] ∧ x.lv = .slice none 0 0 ∧ x.room = room ∧ 2 ≤ room ∧ room ≤ 2000 ∧ x.dn = 0 ∧ x.mu = 0 ∧ x.se = 0 ∧ x.made = 0 ∧ x.asked = 0 ∧ 1 ≤ x.bg.length ∧ (OneS s → x.bg = [0] ∧ x.l = [[[[0]]]] ∧ x.ns = [ndK 1])
set_option maxHeartbeats 2000000 in
theorem New_fn (m : Mem) (hQ : fk.TabMem m) (cs : List Value) (s : Sp) (hs : spV m cs s) (hF : FewS s) (room : Int) (hi : i64 room) (hnb : nodesL (s.rules.map fun x => x.re) ≤ 1000000) :
  Ev.Fn Tryz.prog 8 [.agg (toArr cs), .int .i64 room] m [] (NwQ s room) := by
 have hfo := Formed_fn m cs s hs hF
 have hs' := hs
 obtain ⟨A, n, c, A', n', c', rfl, h1, h2⟩ := hs
 have hn := h1.lens
 have hmx : maxLen = 9223372036854775807 := rfl
 have h40 := hF.rules
 have h20 := hF.starts
 refine Fn.enter (N := 63) hX Tryz.func8 rfl rfl (by show _ ≤ _; simp) (fun w0 hL => ?_)
 conv => whnf
 refine NewReq.mk hL ?_
 clear hL
 intro b1 w hL
 conv => whnf
 refine go ?_;try(clear hL;intro w hL)
 refine CallReq.pure hfo hL ?_
 clear hL
 rintro u m1 w hL hm1 ⟨b, rfl, hb1, hb2⟩
 cases b with
 | false =>
   conv => whnf
   repeat' (first | ((first | refine zT ?_ | refine zF ?_ | refine zL hX hL ?_ | refine zB hX hL ?_ | (refine zS hX hL ?_; clear hL; intro w hL) | refine zI ?_ | refine zG hX ?_ | refine zO ?_); conv => whnf) | (refine BrReq.dec (fun _ => ?_) (fun _ => ?_) <;> (conv => whnf)) | (refine BrReq.not ?_; refine BrReq.dec (fun _ => ?_) (fun _ => ?_) <;> (conv => whnf)) | (refine BrReq.bool (fun _ => ?_) (fun _ => ?_) <;> (conv => whnf)))
   all_goals exact RetReq.mk (hL.sublist (List.nil_sublist _)) (.inl ⟨1, rfl, by decide, rfl, fun h => absurd (hb2 h.1) (by decide)⟩)
 | true =>
 have hS := hb1 rfl
 clear hb1 hb2
 by_cases hr2 : room < 2
 ·conv => whnf
  repeat ((first | refine BrReq.yes hr2 ?_ | (refine go1 ?_;try(clear hL;intro w hL))); conv => whnf)
  exact RetReq.mk (hL.sublist (List.nil_sublist _)) (.inl ⟨1, rfl, by decide, rfl, fun h => by omega⟩)
 by_cases hr3 : 2000 < room
 ·conv => whnf
  repeat ((first | refine BrReq.no hr2 ?_ | refine BrReq.yes hr3 ?_ | (refine go1 ?_;try(clear hL;intro w hL))); conv => whnf)
  exact RetReq.mk (hL.sublist (List.nil_sublist _)) (.inl ⟨1, rfl, by decide, rfl, fun h => by omega⟩)
 have hs1 : spV m1 [.slice A n c, .slice A' n' c'] s := hs'.le hm1
 conv => whnf
 repeat ((first | refine BrReq.no hr2 ?_ | refine BrReq.no hr3 ?_ | (refine go1 ?_;try(clear hL;intro w hL))); conv => whnf)
 refine CallReq.mk (L1 := []) (L2 := [_]) (NewMaker_fn m1 _ s hs1 hF hS hnb) hL ?_
 clear hL
 rintro u m2 La w hL hm2 hq
 obtain ⟨e, rfl, he, hno⟩ | ⟨mb, ab, ns, ls, fs, of, N, rfl, hO, hA, hM, hfb, hone⟩ := hq
 ·conv => whnf
  repeat ((first | refine BrReq.yes he ?_ | (refine go1 ?_;try(clear hL;intro w hL))); conv => whnf)
  exact RetReq.mk (hL.sublist (List.nil_sublist _)) (.inl ⟨e, rfl, he, rfl, fun h => hno h.1⟩)
 replace hL : Ev.Loc m [] w0 m2 ((b1, .cells (toArr [.slice A n c, .slice A' n' c']) 25 (0, 0)) :: La) w := hL.perm (List.perm_append_singleton _ _)
 have hle1 := hL.le_add
 replace hL := hL.freeze
 have hb1 : Cells (m2.add b1 (.cells (toArr [.slice A n c, .slice A' n' c']) 25 (0, 0))) ⟨b1, 0, none⟩ [.slice A n c, .slice A' n' c'] := cells_add0 _
 generalize m2.add b1 _ = m3 at hL hle1 hb1
 have hb10 := hb1 0 _ rfl
 have hM3 := hM.le hle1
 have hm3 := hm1.trans (hm2.trans hle1)
 clear hM hb1 hle1 hm2 hm1
 refine go ?_;try(clear hL;intro w hL)
 refine RunReq.makeMapW hL ?_
 clear hL
 intro kb w hL
 refine go ?_;try(clear hL;intro w hL)
 refine RunReq.makeMapW hL ?_
 clear hL
 intro rb w hL
 refine go ?_;try(clear hL;intro w hL)
 refine NewReq.mk hL ?_
 clear hL
 intro lb w hL
 conv => whnf
 have hI0 : Inv m3 s ls fs of N (st0 kb rb mb ab room ns La (.slice none 0 0) (.slice none 0 0) [] [] [] [] []) :=
  ⟨hM3, hfb, hO, hA, OwnS.nil _ _, ⟨rfl, fun i fs h => (by cases h), fun fs h => by cases h⟩, OwnS.nil _ _, Nat.zero_le _, fun b h => by cases h⟩
 have hL0 : Ev.Loc m [] w0 m3 ((st0 kb rb mb ab room ns La (.slice none 0 0) (.slice none 0 0) [] [] [] [] []).own lb) w := by
  refine Loc.perm (show Ev.Loc m [] w0 m3 ((lb, lzO (.pointer (some ⟨mb, 0, none⟩)) room kb (.slice none 0 0) (.slice none 0 0) rb 0 0 0 (.slice none 0 0) 0 0) :: (rb, mapW []) :: (kb, mapW []) :: La) w from hL) ?_
  show List.Perm _ ((lb, _) :: (kb, _) :: ([] ++ ((rb, _) :: ([] ++ (La ++ ([] ++ []))))))
  simp only [List.nil_append, List.append_nil]
  exact List.Perm.cons _ (List.Perm.swap _ _ _)
 clear hL
 conv => whnf
 repeat ((first | refine LdReq.one hX rfl rfl hL0 hb10 ?_ | (refine go1 ?_;try(clear hL;intro w hL))); conv => whnf)
 refine LoopReq.inv hX (fun j : Nat => [(40, .int .i64 j)]) [6, 8, 39]
  (fun j w => j ≤ n ∧ ∃ m' av bv us l bg Lm Lb, Mem.Le m m' ∧ Inv m' s ls fs of N (st0 kb rb mb ab room ns La av bv us l bg Lm Lb) ∧ Ev.Loc m [] w0 m' ((st0 kb rb mb ab room ns La av bv us l bg Lm Lb).own lb) w ∧ bg.length = j ∧ l.length ≤ j ∧ (OneS s → (j = 0 → l = []) ∧ (j = 1 → bg = [0] ∧ l = [[[[0]]]]))) (fun j => n - j) 0
  ⟨by omega, m3, _, _, _, _, _, _, _, hm3, hI0, hL0, rfl, Nat.le_refl _, fun _ => ⟨fun _ => rfl, fun h => by omega⟩⟩ ⟨rfl, trivial⟩ ?_
 clear hL0 hI0
 rintro j w f ⟨hj, m', av, bv, us, l, bg, Lm, Lb, hm', hI, hL, hbl, hll, hone2⟩
 replace hL : Ev.Loc m [] w0 m' (((lb, lzO (.pointer (some ⟨mb, 0, none⟩)) room kb av bv rb 0 0 0 (.slice none 0 0) 0 0) :: (kb, mapW (knW l 0)) :: Lm) ++ ((rb, mapW []) :: (Lb ++ (La ++ ([] ++ []))))) w := hL
 generalize hLa : La ++ (([] : Ev.Own) ++ []) = La2 at hL
 have hbg0 := Begin_fn m' mb ab s ls fs of N hI.mkr j h40
 have hN := hO.len
 have hIf := hI.fb
 have hIh := hI.ho
 have hIa := hI.all
 have hIb := hI.hb
 have hbs := hI.bgs
 simp only [st0] at hIf hIh hIa hIb hbs
 obtain ⟨A5, n5, c5, rfl, -⟩ := hIh.slice
 obtain ⟨A6, n6, c6, rfl, -⟩ := hIb.slice
 have hlenF : fs.length ≤ 40 := by have := hI.mkr.len; omega
 refine go ?_;try(clear hL;intro w hL)
 refine BrReq.dec (fun hlt => ?_) (fun hlt => ?_)
 ·refine go ?_;try(clear hL;intro w hL)
  refine CallReq.pure hbg0 hL ?_
  clear hL
  rintro u m5 w hL hm5 ⟨A7, n7, c7, rfl, hmn⟩
  refine go ?_;try(clear hL;intro w hL)
  refine CallReq.mk (handleX_fn m5 (hQ.le (hm'.trans hm5)) lb kb rb _ rfl room 0 0 0 0 0 _ _ _ rfl rfl us l fs.length ns.length hlenF hN Lm hIh (hIa.le hm5 (Nat.le_refl _)) hI.n _ (begL s fs j) hmn (begL_len s fs j) (fun f hf => by
   obtain rfl | h := begL_mem hf
   ·exact fo.FB.nil _
   ·exact hIf f h)) hL ?_
  clear hL
  rintro u m6 L6 w hL hm6 ⟨rfl, hq⟩
  obtain ⟨-, h, -⟩ | ⟨z, av2, us2, l2, Lm2, gs, rfl, rfl, hho2, hall2, hn2, hz1, hz2, hz3⟩ := hq
  ·exact absurd h (by omega)
  refine go ?_;try(clear hL;intro w hL)
  refine NewReq.mk hL ?_
  clear hL
  intro g w hL
  conv => whnf
  replace hL : Ev.Loc m [] w0 m6 ((g, .cells (toArr [.int .i64 z]) 3 (0, 0)) :: (Lb ++ ((lb, lzO (.pointer (some ⟨mb, 0, none⟩)) room kb av2 (.slice A6 n6 c6) rb 0 0 0 (.slice none 0 0) 0 0) :: (kb, mapW (knW l2 0)) :: (Lm2 ++ ((rb, mapW []) :: La2))))) w := hL.perm (List.Perm.cons _ (fb_perm _ _ _ Lm2 Lb La2))
  refine go ?_;try(clear hL;intro w hL)
  refine RunReq.push hX 53 3 rfl rfl rfl rfl rfl hIb hL rfl rfl (by show (ints bg).length + 1 ≤ _; unfold ints; rw [List.length_map]; omega) rfl ?_
  clear hL
  intro A8 n8 c8 Lo3 w hn8 ho8 hL
  replace hL : Ev.Loc m [] w0 m6 ((lb, lzO (.pointer (some ⟨mb, 0, none⟩)) room kb av2 (.slice A6 n6 c6) rb 0 0 0 (.slice none 0 0) 0 0) :: (kb, mapW (knW l2 0)) :: (Lm2 ++ ((rb, mapW []) :: (Lo3 ++ La2)))) w := hL.perm (fb_perm _ _ _ Lm2 Lo3 La2).symm
  refine go ?_;try(clear hL;intro w hL)
  have hz : z < l2.length := (List.getElem?_eq_some_iff.1 hz1).1
  have hll2 : l.length ≤ l2.length ∧ l2.length ≤ j + 1 := by
   obtain ⟨rfl, -⟩ | ⟨rfl, -⟩ := hz3
   ·omega
   ·rw [List.length_append, List.length_singleton]; omega
  have hI2 : Inv m6 s ls fs of N (st0 kb rb mb ab room ns La av2 (.slice A8 n8 c8) us2 l2 (bg ++ [(z : Int)]) Lm2 Lo3) := ⟨hI.mkr.le hm5, hIf, hO, hA, hho2, hall2, by simpa [ints, st0] using ho8, hn2, fun b hb => by
   rcases List.mem_append.1 hb with h | h
   ·have := hbs b h; show 0 ≤ b ∧ b < (l2.length : Int); omega
   ·rw [List.mem_singleton.1 h]; show 0 ≤ (z : Int) ∧ (z : Int) < (l2.length : Int); omega⟩
  have hone3 : OneS s → (j + 1 = 0 → l2 = []) ∧ (j + 1 = 1 → bg ++ [(z : Int)] = [0] ∧ l2 = [[[[0]]]]) := fun h1 => ⟨fun h => by omega, fun h => by
   obtain rfl : j = 0 := by omega
   have hl0 := (hone2 h1).1 rfl
   subst hl0
   obtain rfl : bg = [] := List.eq_nil_of_length_eq_zero hbl
   obtain ⟨-, h⟩ | ⟨h2, rfl⟩ := hz3
   ·exact absurd h (by simp)
   ·exact ⟨rfl, by rw [h2, (hone h1).1]; exact congrArg (fun a => [a]) (begL_one h1)⟩⟩
  have hbl2 : (bg ++ [(z : Int)]).length = j + 1 := by rw [List.length_append, hbl]; rfl
  subst hLa
  exact rnd (j + 1) ⟨by omega, m6, av2, _, us2, l2, bg ++ [(z : Int)], Lm2, Lo3, hm'.trans hm5, hI2, hL, hbl2, hll2.2, hone3⟩
 ·subst hLa
  have hjn : j = n := by omega
  have hn1 : 1 ≤ n := by have := hS.st1; omega
  refine go ?_;try(clear hL;intro w hL)
  exact RetReq.mk hL (.inr ⟨lb, st0 kb rb mb ab room ns La (.slice A5 n5 c5) (.slice A6 n6 c6) us l bg Lm Lb, ls, fs, of, N, rfl, rfl, hI, rfl, rfl, rfl, rfl, by omega, by omega, rfl, rfl, rfl, rfl, rfl, by show 1 ≤ bg.length; omega, fun h1 => by
   have h2 : n = 1 := by rw [hn.1, h1.1]; rfl
   have h3 := (hone2 h1).2 (by omega)
   exact ⟨h3.1, h3.2, (hone h1).2⟩⟩)
end Go.Proofs.YtaooenndoopgdaaGreatDoor.lz
namespace Go.Proofs.YtaooenndoopgdaaGreatDoor.lx
open Go Go.Ev Go.Proofs
open Go.Proofs.YtaooenndoopgdaaGreatDoor.tabs (hasR selR wrap_nat ofInt_nat)
def upd (f : Nat → Nat) (q x : Nat) : Nat → Nat := fun i => if i = q then x else f i
def putF (f : Nat → Nat) (b : Nat) : Nat → Nat := upd f (b / 64) (f (b / 64) ||| 2 ^ (b % 64))
def zeroF : Nat → Nat := fun _ => 0
def unF (f g : Nat → Nat) : Nat → Nat := fun q => f q ||| g q
def setC (f : Nat → Nat) : List Value := [.int .u64 (f 0 : Nat), .int .u64 (f 1 : Nat), .int .u64 (f 2 : Nat), .int .u64 (f 3 : Nat)]
def InF (f : Nat → Nat) : Prop := ∀ q, f q ≤ 18446744073709551615
theorem setC_get (f : Nat → Nat) {q : Nat} (h : q < 4) : (setC f)[q]? = some (.int .u64 (f q : Nat)) := by
 have : q = 0 ∨ q = 1 ∨ q = 2 ∨ q = 3 := by omega
 rcases this with rfl | rfl | rfl | rfl <;> rfl
theorem setC_set (f : Nat → Nat) {q : Nat} (h : q < 4) (x : Nat) : spliceL (setC f) q [.int .u64 (x : Nat)] = setC (upd f q x) := by
 have : q = 0 ∨ q = 1 ∨ q = 2 ∨ q = 3 := by omega
 rcases this with rfl | rfl | rfl | rfl <;> rfl
theorem setC_ext {f g : Nat → Nat} (h : ∀ q, q < 4 → f q = g q) : setC f = setC g := by
 unfold setC; rw [h 0 (by omega), h 1 (by omega), h 2 (by omega), h 3 (by omega)]
theorem or_lt {a b : Nat} (ha : a ≤ 18446744073709551615) (hb : b ≤ 18446744073709551615) : a ||| b ≤ 18446744073709551615 := by
 have := Nat.or_lt_two_pow (n := 64) (x := a) (y := b) (by omega) (by omega)
 omega
theorem pow_lt (b : Nat) : 2 ^ (b % 64) ≤ 18446744073709551615 := by
 have : 2 ^ (b % 64) ≤ 2 ^ 63 := Nat.pow_le_pow_right (by omega) (by omega)
 omega
theorem inF_put {f : Nat → Nat} (h : InF f) (b : Nat) : InF (putF f b) := by
 intro q
 unfold putF upd
 split
 ·exact or_lt (h _) (pow_lt b)
 ·exact h q
theorem inF_zero : InF zeroF := fun _ => by unfold zeroF; omega
theorem inF_un {f g : Nat → Nat} (hf : InF f) (hg : InF g) : InF (unF f g) := fun q => or_lt (hf q) (hg q)
theorem or_u64 {a b : Nat} (ha : a ≤ 18446744073709551615) (hb : b ≤ 18446744073709551615) : bitsOf .or .u64 (a : Int) (b : Int) = ((a ||| b : Nat) : Int) := by
 have h : (BitVec.ofInt 64 (a : Int) ||| BitVec.ofInt 64 (b : Int)).toNat = a ||| b := by
  rw [ofInt_nat, ofInt_nat, BitVec.toNat_or, BitVec.toNat_ofNat, BitVec.toNat_ofNat, Nat.mod_eq_of_lt (by omega), Nat.mod_eq_of_lt (by omega)]
 show IntKind.wrap .u64 ((BitVec.ofInt 64 (a : Int) ||| BitVec.ofInt 64 (b : Int)).toNat : Int) = _
 rw [h]
 have := or_lt ha hb
 exact wrap_nat (by decide) (by show _ ≤ (18446744073709551615 : Int); omega)
theorem shl_u64 (k : Nat) (h : k < 64) : IntKind.wrap .u64 ((1 : Int) * 2 ^ (min (Int.toNat ((k : Nat) : Int)) (IntKind.bits .u64))) = ((2 ^ k : Nat) : Int) := by
 have e : min (Int.toNat ((k : Nat) : Int)) (IntKind.bits .u64) = k := by show min (Int.toNat ((k : Nat) : Int)) 64 = k; omega
 rw [e, Int.one_mul, show ((2 : Int) ^ k) = ((2 ^ k : Nat) : Int) by norm_cast]
 have := pow_lt k
 rw [Nat.mod_eq_of_lt h] at this
 exact wrap_nat (by decide) (by show _ ≤ (18446744073709551615 : Int); omega)
theorem QLdReq.ownAt {P : Program} {X : Tab} {m0 m : Mem} {S : List Nat} {w0 : World} (hX : TabsOk P X) {t : Nat} {ti : TI} {L : Ev.Own} (ht : Ev.look X.T t = some (some ti)) (hd : ti.d.isAgg = false) (i : Nat) {b o j : Nat} {cs : List Value} {te : TypeId} {fz : Nat × Nat} {v : Value} {K : Value → Prop}
  (hi : Ev.look L i = some (b, .cells (toArr cs) te fz)) (hv : cs[o + j]? = some v) (h : K v) : QLdReq P t (fun w => Ev.Loc m0 S w0 m L w) ((⟨b, o, none⟩ : Addr).add j) K := by
 rw [addr_add]
 exact QLdReq.own1 hX ht hd i hi (by rw [look_eq]; exact hv) h
theorem Of_fn (m : Mem) (g b : Nat) (hb : b < 256) (fz : Nat × Nat) : Ev.Fn Tryz.prog 127 [.slice (some ⟨g, 0, none⟩) 1 1] m [(g, .cells (toArr [.int .u8 b]) 5 fz)] fun m' L' u => m' = m ∧ L' = [] ∧ u = .agg (toArr (setC (putF zeroF b))) := by
 have hp := pow_lt b
 have hps := shl_u64 (b % 64) (by omega)
 have hx4 : b / 64 < 4 := by omega
 refine Fn.enter (N := 23) hX Tryz.func127 rfl rfl (by show _ ≤ _; simp) (fun w0 hL => ?_)
 conv => whnf
 generalize keys [(g, Obj.cells (toArr [Value.int .u8 b]) 5 fz)] = S0 at hL ⊢
 refine NewReq.mk hL ?_
 clear hL
 intro b2 w hL
 conv => whnf
 refine NewReq.mk hL ?_
 clear hL
 intro b3 w hL
 conv => whnf
 refine go ?_;try(clear hL;intro w hL)
 replace hL : Ev.Loc m S0 w0 m [(b3, .cells (toArr (setC zeroF)) 50 (0, 0)), (b2, .cells (toArr (setC zeroF)) 50 (0, 0)), (g, Obj.cells (toArr [Value.int .u8 b]) 5 fz)] w := hL
 refine LoopReq.inv hX (fun j : Nat => [(8, .int .i64 j)]) [2, 3, 6, 7]
  (fun j w => j ≤ 1 ∧ Ev.Loc m S0 w0 m [(b3, .cells (toArr (setC (if j = 0 then zeroF else putF zeroF b))) 50 (0, 0)), (b2, .cells (toArr (setC zeroF)) 50 (0, 0)), (g, Obj.cells (toArr [Value.int .u8 b]) 5 fz)] w) (fun j => 1 - j) 0
  ⟨by omega, hL⟩ ⟨rfl, trivial⟩ ?_
 clear hL
 rintro j w f ⟨hj, hL⟩
 refine go ?_;try(clear hL;intro w hL)
 refine BrReq.dec (fun hlt => ?_) (fun hlt => ?_)
 ·obtain rfl : j = 0 := by omega
  rw [if_pos rfl] at hL
  conv => whnf
  repeat ((first | refine Idx2Req.mk 0 _ rfl (by omega) rfl ?_ | (refine go1 ?_;try(clear hL;intro w hL))); conv => whnf)
  refine DivReq.mk (n := ((b / 64 : Nat) : Int)) (by decide) (by rw [show ((64 : Int)) = ((64 : Nat) : Int) from rfl, tdiv_nat]; exact wrap_nat (by decide) (by show _ ≤ (255 : Int); omega)) ?_
  conv => whnf
  repeat ((first | refine IdxReq.mk (b / 64) rfl (by omega) ?_ | (refine LdReq.ownAt hX rfl rfl 0 hL rfl (v := .int .u64 (zeroF (b / 64) : Nat)) (by rw [scale_eq, Nat.zero_add, Nat.mul_one]; exact setC_get _ hx4) ?_) | refine RemReq.nat (k := 64) rfl (by omega) ?_ | refine ShlReq.mk (n := ((2 ^ (b % 64) : Nat) : Int)) (by omega) hps ?_ | refine BitReq.mk (or_u64 (inF_zero _) hp) ?_ | (refine go1 ?_;try(clear hL;intro w hL))); conv => whnf)
  refine StReq.ownAt hX rfl 0 hL rfl rfl (by rw [scale_eq, Nat.zero_add, Nat.mul_one]; show b / 64 + 1 ≤ 4; omega) rfl ?_; clear hL; intro w hL
  replace hL : Ev.Loc m S0 w0 m ((b3, .cells (toArr (spliceL (setC zeroF) (0 + scale (b / 64) 1) [.int .u64 (zeroF (b / 64) ||| 2 ^ (b % 64) : Nat)])) 50 (0, 0)) :: [(b2, .cells (toArr (setC zeroF)) 50 (0, 0)), (g, Obj.cells (toArr [Value.int .u8 b]) 5 fz)]) w := hL
  rw [scale_eq, Nat.zero_add, Nat.mul_one, setC_set _ hx4] at hL
  refine go ?_;try(clear hL;intro w hL)
  exact rnd 1 ⟨by omega, hL⟩
 ·obtain rfl : j = 1 := by omega
  rw [if_neg (by decide)] at hL
  refine go ?_;try(clear hL;intro w hL)
  exact RetReq.mk (hL.sublist (List.nil_sublist _)) ⟨rfl, rfl, rfl⟩
theorem Union_fn (m : Mem) (f g : Nat → Nat) (hf : InF f) (hg : InF g) : FnV Tryz.prog 126 [.agg (toArr (setC f)), .agg (toArr (setC g))] m (.agg (toArr (setC (unF f g)))) := by
 refine Fn.enter (N := 19) hX Tryz.func126 rfl rfl (by show _ ≤ _; simp) (fun w0 hL => ?_)
 conv => whnf
 refine NewReq.mk hL ?_
 clear hL
 intro b2 w hL
 conv => whnf
 refine NewReq.mk hL ?_
 clear hL
 intro b3 w hL
 conv => whnf
 refine NewReq.mk hL ?_
 clear hL
 intro b4 w hL
 conv => whnf
 replace hL : Ev.Loc m [] w0 m [(b4, .cells (toArr (setC zeroF)) 50 (0, 0)), (b3, .cells (toArr (setC g)) 50 (0, 0)), (b2, .cells (toArr (setC f)) 50 (0, 0))] w := hL
 refine go ?_;try(clear hL;intro w hL)
 refine LoopReq.inv hX (fun j : Nat => [(6, .int .i64 j)]) [2, 3, 4]
  (fun j w => j ≤ 4 ∧ Ev.Loc m [] w0 m [(b4, .cells (toArr (setC zeroF)) 50 (0, 0)), (b3, .cells (toArr (setC g)) 50 (0, 0)), (b2, .cells (toArr (setC (fun q => if q < j then unF f g q else f q))) 50 (0, 0))] w) (fun j => 4 - j) 0
  ⟨by omega, hL⟩ ⟨rfl, trivial⟩ ?_
 clear hL
 rintro j w e ⟨hj, hL⟩
 refine go ?_;try(clear hL;intro w hL)
 refine BrReq.dec (fun hlt => ?_) (fun hlt => ?_)
 ·have hj4 : j < 4 := by omega
  have h1 : (setC (fun q => if q < j then unF f g q else f q))[j]? = some (.int .u64 (f j : Nat)) := by rw [setC_get _ hj4]; simp
  have h2 : (setC g)[j]? = some (.int .u64 (g j : Nat)) := setC_get _ hj4
  refine go ?_;try(clear hL;intro w hL)
  refine DrawReq.plan hX (.fst 0 (.fst 1 (.fst 3 (.fst 4 (.fst 5 (.alt 2 (.fst 6 (.fst 7 (.alt 8 (.done) (.stop)))) (.stop))))))) [(b3, .cells (toArr (setC g)) 50 (0, 0))] (by kernel_rfl) (by kernel_rfl) hL (fun h => h.one 1 rfl) ?_
  clear hL
  intro w hL
  conv => whnf
  repeat ((first | refine IdxReq.mk j rfl (by omega) ?_ | (refine LdReq.ownAt hX rfl rfl 2 hL rfl (v := .int .u64 (f j : Nat)) (by rw [scale_eq, Nat.zero_add, Nat.mul_one]; exact h1) ?_) | (refine QLdReq.ownAt hX rfl rfl 0 rfl (v := .int .u64 (g j : Nat)) (by rw [scale_eq, Nat.zero_add, Nat.mul_one]; exact h2) ?_) | refine SReq.mk (hL.one 1 rfl) ?_ | refine BitReq.mk (or_u64 (hf _) (hg _)) ?_ | (refine goq1 ?_;try(clear hL;intro w hL))); conv => whnf)
  refine StReq.ownAt hX rfl 2 hL rfl rfl (by rw [scale_eq, Nat.zero_add, Nat.mul_one]; show j + 1 ≤ 4; omega) rfl ?_; clear hL; intro w hL
  replace hL : Ev.Loc m [] w0 m [(b4, .cells (toArr (setC zeroF)) 50 (0, 0)), (b3, .cells (toArr (setC g)) 50 (0, 0)), (b2, .cells (toArr (spliceL (setC (fun q => if q < j then unF f g q else f q)) (0 + scale j 1) [.int .u64 (f j ||| g j : Nat)])) 50 (0, 0))] w := hL
  rw [scale_eq, Nat.zero_add, Nat.mul_one, setC_set _ hj4] at hL
  have eu : upd (fun q => if q < j then unF f g q else f q) j (f j ||| g j) = fun q => if q < j + 1 then unF f g q else f q := by
   funext q; unfold upd
   by_cases h1 : q = j
   ·subst h1; rw [if_pos rfl, if_pos (by omega)]; rfl
   ·rw [if_neg h1]
    show (if q < j then unF f g q else f q) = _
    by_cases h2 : q < j
    ·rw [if_pos h2, if_pos (by omega)]
    ·rw [if_neg h2, if_neg (by omega)]
  rw [eu] at hL
  conv => whnf
  repeat ((first | refine SReq.mk (hL.one 1 rfl) ?_ | (refine goq1 ?_;try(clear hL;intro w hL))); conv => whnf)
  exact rnd (j + 1) ⟨by omega, hL⟩
 ·obtain rfl : j = 4 := by omega
  rw [setC_ext (f := fun q => if q < 4 then unF f g q else f q) (g := unF f g) (fun q hq => if_pos hq)] at hL
  refine go ?_;try(clear hL;intro w hL)
  exact RetReq.mk (hL.sublist (List.nil_sublist _)) ⟨rfl, rfl⟩
end Go.Proofs.YtaooenndoopgdaaGreatDoor.lx
namespace Go.Proofs.YtaooenndoopgdaaGreatDoor.lz
open Go Go.Ev Go.Proofs Go.Proofs.YtaooenndoopgdaaGreatDoor.ar Go.Proofs.YtaooenndoopgdaaGreatDoor.lx
def BitMem (m : Mem) : Prop := ∃ (l : List Nat) (t : Nat) (f : Nat × Nat), m 0 = some (.cells (toArr (u8s l)) t f) ∧ l.length = 64 ∧ ∀ x ∈ l, x < 256
theorem BitMem.le {m m' : Mem} (h : Mem.Le m m') (k : BitMem m) : BitMem m' := by
 obtain ⟨l, t, f, h1, h2⟩ := k
 exact ⟨l, t, f, h _ _ h1, h2⟩
theorem u64_wrap (n : Int) : 0 ≤ IntKind.u64.wrap n ∧ IntKind.u64.wrap n ≤ 18446744073709551615 := by
 simp only [IntKind.wrap, IntKind.signed, IntKind.bits]
 simp
 omega
theorem u8_wrap (n : Int) : ∃ q : Nat, IntKind.u8.wrap n = q ∧ q < 256 := by
 refine ⟨(IntKind.u8.wrap n).toNat, ?_, ?_⟩
 ·simp only [IntKind.wrap, IntKind.signed, IntKind.bits]; simp; omega
 ·simp only [IntKind.wrap, IntKind.signed, IntKind.bits]; simp; omega
theorem tz_fn (m : Mem) (hB : BitMem m) (x : Int) : Fn0 Tryz.prog 125 [.int .u64 x] m fun _ u => ∃ z : Nat, u = .int .i64 z ∧ z < 256 := by
 obtain ⟨l, t, fz, h1, h2, h3⟩ := hB
 refine Fn.enter (N := 14) hX Tryz.func125 rfl rfl (by show _ ≤ _; simp) (fun w0 hL => ?_)
 conv => whnf
 by_cases h0 : x = 0
 ·conv => whnf
  repeat ((first | refine BrReq.yes h0 ?_ | (refine go1 ?_;try(clear hL;intro w hL))); conv => whnf)
  exact RetReq.mk hL ⟨rfl, 64, rfl, by decide⟩
 conv => whnf
 repeat ((first | refine BrReq.no h0 ?_ | refine ArReq.wrap ?_ | refine BitReq.mk rfl ?_ | (refine go1 ?_;try(clear hL;intro w hL))); conv => whnf)
 generalize bitsOf .and .u64 x _ = y
 have hy := u64_wrap (y * 285870213051353865)
 generalize IntKind.u64.wrap (y * 285870213051353865) = q at hy
 have hk : q.fdiv (2 ^ (min (58 : Int).toNat IntKind.u64.bits)) = ((q.toNat / 288230376151711744 : Nat) : Int) := by
  rw [show ((2 : Int) ^ (min (58 : Int).toNat IntKind.u64.bits)) = 288230376151711744 from by decide, Int.fdiv_eq_ediv_of_nonneg _ (by decide)]
  omega
 refine ShrReq.mk (by decide) hk ?_
 have hlt : q.toNat / 288230376151711744 < 64 := by omega
 generalize q.toNat / 288230376151711744 = k at hlt
 have hkl : k < l.length := by omega
 have hcell : mcell m ((⟨0, 0, none⟩ : Addr).add (scale k 1)) = some (.int .u8 l[k]) := by
  rw [scale_eq, Nat.mul_one, addr_add, Nat.zero_add]
  simp only [mcell, ocell, h1]
  simpa [toArr] using u8s_get hkl
 have h256 := h3 _ (List.getElem_mem hkl)
 conv => whnf
 repeat ((first | refine IdxReq.mk k rfl (by omega) ?_ | refine LdReq.one hX rfl rfl hL hcell ?_ | (refine go1 ?_;try(clear hL;intro w hL))); conv => whnf)
 exact RetReq.mk hL ⟨rfl, _, rfl, h256⟩
theorem least_fn (m : Mem) (hB : BitMem m) (f : Nat → Nat) : Fn0 Tryz.prog 85 [.agg (toArr (setC f))] m fun _ u => ∃ (z : Nat) (b : Bool), u = .tuple (toArr [.int .u8 z, .bool b]) ∧ z < 256 := by
 refine Fn.enter (N := 20) hX Tryz.func85 rfl rfl (by show _ ≤ _; simp) (fun w0 hL => ?_)
 conv => whnf
 refine NewReq.mk hL ?_
 clear hL
 intro b1 w hL
 conv => whnf
 replace hL : Ev.Loc m [] w0 m [(b1, .cells (toArr (setC f)) 50 (0, 0))] w := hL
 refine go ?_;try(clear hL;intro w hL)
 refine LoopReq.inv hX (fun j : Nat => [(7, .int .i64 j)]) [6]
  (fun j w => j ≤ 4 ∧ Ev.Loc m [] w0 m [(b1, .cells (toArr (setC f)) 50 (0, 0))] w) (fun j => 4 - j) 0
  ⟨by omega, hL⟩ ⟨rfl, trivial⟩ ?_
 clear hL
 rintro j w e ⟨hj, hL⟩
 refine go ?_;try(clear hL;intro w hL)
 refine BrReq.dec (fun hlt => ?_) (fun hlt => ?_)
 ·have hj4 : j < 4 := by omega
  have hg : (setC f)[scale j 1]? = some (.int .u64 (f j : Nat)) := by rw [scale_eq, Nat.mul_one]; exact setC_get _ hj4
  conv => whnf
  repeat ((first | refine IdxReq.mk j rfl (by omega) ?_ | (refine OptReq.mk (by rw [look_eq]; exact hg) ?_) | (refine go1 ?_;try(clear hL;intro w hL))); conv => whnf)
  refine BrReq.dec (fun hne => ?_) (fun hne => ?_)
  ·refine go ?_;try(clear hL;intro w hL)
   refine CallReq.pure (tz_fn m hB _) hL ?_
   clear hL
   rintro u m1 w hL hm1 ⟨z, rfl, hz⟩
   obtain ⟨q, hq, hq2⟩ := u8_wrap ((j : Int) * 64 + z)
   conv => whnf
   repeat ((first | refine ArReq.as hq ?_ | (refine go1 ?_;try(clear hL;intro w hL))); conv => whnf)
   exact RetReq.mk hL.drop ⟨rfl, q, true, rfl, hq2⟩
  ·refine go ?_;try(clear hL;intro w hL)
   exact rnd (j + 1) ⟨by omega, hL⟩
 ·refine go ?_;try(clear hL;intro w hL)
  exact RetReq.mk hL.drop ⟨rfl, 0, false, rfl, by decide⟩
set_option maxHeartbeats 1000000 in
set_option maxRecDepth 100000 in
theorem members_fn (m : Mem) (of : List Nat) (N : Nat) (hC : Cls of N) (k : Nat) (hk : k < N) : Fn0 Tryz.prog 86 [.agg (toArr (clC of N)), .int .i64 k] m fun _ u => ∃ f, InF f ∧ u = .agg (toArr (setC f)) := by
 have hlen := hC.len
 have hN := hC.le
 refine Fn.enter (N := 35) hX Tryz.func86 rfl rfl (by show _ ≤ _; simp) (fun w0 hL => ?_)
 conv => whnf
 refine NewReq.mk hL ?_
 clear hL
 intro b2 w hL
 conv => whnf
 refine NewReq.mk hL ?_
 clear hL
 intro b4 w hL
 conv => whnf
 refine NewReq.mk hL ?_
 clear hL
 intro b5 w hL
 conv => whnf
 replace hL : Ev.Loc m [] w0 m ((b2, .cells (toArr (clC of N)) 98 (0, 0)) :: [(b5, .cells (toArr (setC zeroF)) 50 (0, 0)), (b4, .cells (toArr (setC zeroF)) 50 (0, 0))]) w := hL.perm (List.perm_append_comm (l₁ := [_, _]) (l₂ := [_]))
 have hle1 := hL.le_add
 replace hL := hL.freeze
 have hc2 : Cells (m.add b2 (.cells (toArr (clC of N)) 98 (0, 0))) ⟨b2, 0, none⟩ (clC of N) := cells_add0 _
 generalize m.add b2 _ = m1 at hL hle1 hc2
 have hcN : mcell m1 ((⟨b2, 0, none⟩ : Addr).add 256) = some (.int .i64 N) := hc2 256 _ (by unfold clC; rw [List.getElem?_append_right (by rw [u8s_len]; omega), u8s_len, hlen]; rfl)
 refine go ?_;try(clear hL;intro w hL)
 refine LoopReq.inv hX (fun j : Nat => [(7, .int .i64 j)]) [1, 2, 4, 5]
  (fun j w => j ≤ 256 ∧ ∃ f m', Mem.Le m1 m' ∧ InF f ∧ Ev.Loc m [] w0 m' [(b5, .cells (toArr (setC f)) 50 (0, 0)), (b4, .cells (toArr (setC zeroF)) 50 (0, 0))] w) (fun j => 256 - j) 0
  ⟨by omega, zeroF, m1, Mem.Le.refl m1, inF_zero, hL⟩ ⟨rfl, trivial⟩ ?_
 clear hL
 rintro j w e ⟨hj, f, m', hm', hf, hL⟩
 refine go ?_;try(clear hL;intro w hL)
 refine BrReq.dec (fun hlt => ?_) (fun hlt => ?_)
 ·have hj4 : j < of.length := by omega
  have hcj : mcell m1 ((⟨b2, 0, none⟩ : Addr).add j) = some (.int .u8 of[j]) := hc2 j _ (by unfold clC; rw [List.getElem?_append_left (by rw [u8s_len]; omega)]; exact u8s_get hj4)
  have hz256 := hC.lt _ (List.getElem_mem hj4)
  generalize of[j] = z at hcj hz256
  have hcN' := Ev.mcell_le hm' hcN
  have hcj' := Ev.mcell_le hm' hcj
  conv => whnf
  repeat ((first | refine BrReq.yes (show (k : Int) < N by omega) ?_ | refine IdxReq.mk j rfl (by omega) ?_ | refine LdReq.one hX rfl rfl hL hcN' ?_ | (refine LdReq.one hX rfl rfl hL (by rw [scale_eq, Nat.mul_one]; exact hcj') ?_) | (refine go1 ?_;try(clear hL;intro w hL))); conv => whnf)
  refine BrReq.dec (fun hz => ?_) (fun hz => ?_)
  ·conv => whnf
   refine DrawReq.plan hX (.fst 1 (.fst 2 (.alt 0 (.alt 3 (.alt 4 (.alt 5 (.alt 6 (.done) (.stop)) (.stop)) (.stop)) (.stop)) (.alt 3 (.alt 0 (.alt 4 (.alt 5 (.alt 6 (.done) (.stop)) (.stop)) (.stop)) (.alt 4 (.alt 0 (.alt 5 (.alt 6 (.done) (.stop)) (.stop)) (.stop)) (.stop))) (.stop))))) [] (by kernel_rfl) (by kernel_rfl) hL (fun h => h.sublist (List.nil_sublist _)) ?_
   clear hL
   intro w hL
   conv => whnf
   repeat ((first | refine ArReq.u8 (by omega) (by omega) ?_ | (refine goq1 ?_;try(clear hL;intro w hL))); conv => whnf)
   refine AltQ.of ⟨?_, ?_⟩
   ·conv => whnf
    repeat ((first | refine SReq.mk (hL.sublist (List.nil_sublist _)) ?_ | (refine goq1 ?_;try(clear hL;intro w hL))); conv => whnf)
    refine NewReq.mk hL ?_
    clear hL
    intro g w hL
    conv => whnf
    conv => whnf
    repeat ((first | refine SReq.mk (hL.sublist (List.nil_sublist _)) ?_ | (refine goq1 ?_;try(clear hL;intro w hL))); conv => whnf)
    refine CallReq.mk (L1 := [_]) (L2 := [_, _]) (Of_fn m' g j (by omega) (0, 0)) hL ?_
    clear hL
    rintro u mx L2 w hL - ⟨hmx, rfl, rfl⟩
    rw [hmx] at hL
    clear hmx mx
    conv => whnf
    repeat ((first | refine SReq.mk (hL.sublist (List.nil_sublist _)) ?_ | (refine goq1 ?_;try(clear hL;intro w hL))); conv => whnf)
    refine CallReq.val (Union_fn m' f (putF zeroF j) hf (inF_put inF_zero j)) hL ?_
    clear hL
    intro w hL
    conv => whnf
    repeat ((first | refine SReq.mk (hL.sublist (List.nil_sublist _)) ?_ | (refine goq1 ?_;try(clear hL;intro w hL))); conv => whnf)
    replace hL : Ev.Loc m [] w0 m' [(b5, .cells (toArr (setC (unF f (putF zeroF j)))) 50 (0, 0)), (b4, .cells (toArr (setC zeroF)) 50 (0, 0))] w := hL
    exact rnd (j + 1) ⟨by omega, unF f (putF zeroF j), m', hm', inF_un hf (inF_put inF_zero j), hL⟩
   ·conv => whnf
    repeat ((first | refine SReq.mk (hL.sublist (List.nil_sublist _)) ?_ | (refine goq1 ?_;try(clear hL;intro w hL))); conv => whnf)
    refine NewReq.mk hL ?_
    clear hL
    intro g w hL
    conv => whnf
    conv => whnf
    repeat ((first | refine SReq.mk (hL.sublist (List.nil_sublist _)) ?_ | (refine goq1 ?_;try(clear hL;intro w hL))); conv => whnf)
    refine AltQ.of ⟨?_, ?_⟩
    ·conv => whnf
     repeat ((first | refine SReq.mk (hL.sublist (List.nil_sublist _)) ?_ | (refine goq1 ?_;try(clear hL;intro w hL))); conv => whnf)
     refine CallReq.mk (L1 := [_]) (L2 := [_, _]) (Of_fn m' g j (by omega) (0, 0)) hL ?_
     clear hL
     rintro u mx L2 w hL - ⟨hmx, rfl, rfl⟩
     rw [hmx] at hL
     clear hmx mx
     conv => whnf
     repeat ((first | refine SReq.mk (hL.sublist (List.nil_sublist _)) ?_ | (refine goq1 ?_;try(clear hL;intro w hL))); conv => whnf)
     refine CallReq.val (Union_fn m' f (putF zeroF j) hf (inF_put inF_zero j)) hL ?_
     clear hL
     intro w hL
     conv => whnf
     repeat ((first | refine SReq.mk (hL.sublist (List.nil_sublist _)) ?_ | (refine goq1 ?_;try(clear hL;intro w hL))); conv => whnf)
     replace hL : Ev.Loc m [] w0 m' [(b5, .cells (toArr (setC (unF f (putF zeroF j)))) 50 (0, 0)), (b4, .cells (toArr (setC zeroF)) 50 (0, 0))] w := hL
     exact rnd (j + 1) ⟨by omega, unF f (putF zeroF j), m', hm', inF_un hf (inF_put inF_zero j), hL⟩
    ·conv => whnf
     repeat ((first | refine SReq.mk (hL.sublist (List.nil_sublist _)) ?_ | (refine goq1 ?_;try(clear hL;intro w hL))); conv => whnf)
     refine CallReq.mk (L1 := [_]) (L2 := [_, _]) (Of_fn m' g j (by omega) (0, 0)) hL ?_
     clear hL
     rintro u mx L2 w hL - ⟨hmx, rfl, rfl⟩
     rw [hmx] at hL
     clear hmx mx
     conv => whnf
     repeat ((first | refine SReq.mk (hL.sublist (List.nil_sublist _)) ?_ | (refine goq1 ?_;try(clear hL;intro w hL))); conv => whnf)
     refine CallReq.val (Union_fn m' f (putF zeroF j) hf (inF_put inF_zero j)) hL ?_
     clear hL
     intro w hL
     conv => whnf
     repeat ((first | refine SReq.mk (hL.sublist (List.nil_sublist _)) ?_ | (refine goq1 ?_;try(clear hL;intro w hL))); conv => whnf)
     replace hL : Ev.Loc m [] w0 m' [(b5, .cells (toArr (setC (unF f (putF zeroF j)))) 50 (0, 0)), (b4, .cells (toArr (setC zeroF)) 50 (0, 0))] w := hL
     exact rnd (j + 1) ⟨by omega, unF f (putF zeroF j), m', hm', inF_un hf (inF_put inF_zero j), hL⟩
  ·refine go ?_;try(clear hL;intro w hL)
   exact rnd (j + 1) ⟨by omega, f, m', hm', hf, hL⟩
 ·refine go ?_;try(clear hL;intro w hL)
  exact RetReq.mk (hL.sublist (List.nil_sublist _)) ⟨rfl, f, hf, rfl⟩
theorem First_fn (m : Mem) (hB : BitMem m) (of : List Nat) (N : Nat) (hC : Cls of N) (k : Nat) (hk : k < N) : Fn0 Tryz.prog 54 [.agg (toArr (clC of N)), .int .i64 k] m fun _ u => ∃ z : Nat, u = .int .u8 z ∧ z < 256 := by
 have hlen : (clC of N).length = 257 := by rw [clC_len, hC.len]
 refine Fn.enter (N := 15) hX Tryz.func54 rfl rfl (by show _ ≤ _; simp) (fun w0 hL => ?_)
 conv => whnf
 refine NewReq.mk hL ?_
 clear hL
 intro b2 w hL
 conv => whnf
 replace hL : Ev.Loc m [] w0 m [(b2, .cells (toArr (clC of N)) 98 (0, 0))] w := hL
 conv => whnf
 repeat ((first | refine LdReq.whole hX rfl rfl 0 hL rfl hlen ?_ | (refine go1 ?_;try(clear hL;intro w hL))); conv => whnf)
 refine CallReq.pure (members_fn m of N hC k hk) hL ?_
 clear hL
 rintro u m1 w hL hm1 ⟨f, hf, rfl⟩
 refine go ?_;try(clear hL;intro w hL)
 refine CallReq.pure (least_fn m1 (hB.le hm1) f) hL ?_
 clear hL
 rintro u m2 w hL hm2 ⟨z, b, rfl, hz⟩
 refine go ?_;try(clear hL;intro w hL)
 exact RetReq.mk hL.drop ⟨rfl, z, rfl, hz⟩
set_option maxHeartbeats 2000000 in
set_option maxRecDepth 100000 in
theorem first1_fn (m : Mem) (hB : BitMem m) (of : List Nat) (N : Nat) (hC : Cls of N) (b4 b3 lb kb rb : Nat) (h4 : Cells m ⟨b4, 0, none⟩ (clC of N)) (h3 : Cells m ⟨b3, 0, none⟩ [.pointer (some ⟨lb, 6, none⟩)])
  (mp av bv : Value) (hmp : mp.oneCell' = true) (hav : av.oneCell' = true) (hbv : bv.oneCell' = true) (room se made asked : Int) :
  Ev.Fn Tryz.prog 53 [.pointer (some ⟨b4, 0, none⟩), .pointer (some ⟨b3, 0, none⟩)] m [(lb, lzO mp room kb av bv rb 0 1 se (.slice none 0 0) made asked)] fun _ L' u => u = .tuple #[] ∧
   ∃ lv bl Ll, L' = (lb, lzO mp room kb av bv rb 0 1 se lv made asked) :: Ll ∧ OwnS 5 1 lv (u8s bl) Ll ∧ bl.length = N ∧ ∀ x ∈ bl, x < 256 := by
 have hlen := hC.len
 have hN := hC.le
 have hmx : maxLen = 9223372036854775807 := rfl
 have hcN : mcell m ((⟨b4, 0, none⟩ : Addr).add 256) = some (.int .i64 N) := h4 256 _ (by unfold clC; rw [List.getElem?_append_right (by rw [u8s_len]; omega), u8s_len, hlen]; rfl)
 have h30 := h3 0 _ rfl
 have hcl : (clC of N).length = 257 := by rw [clC_len, hlen]
 refine Fn.enter (N := 21) hX Tryz.func53 rfl rfl (by show _ ≤ _; simp) (fun w0 hL => ?_)
 conv => whnf
 generalize keys [(lb, lzO mp room kb av bv rb 0 1 se (.slice none 0 0) made asked)] = S0 at hL ⊢
 conv => whnf
 repeat ((first | refine LdReq.one hX rfl rfl hL hcN ?_ | (refine go1 ?_;try(clear hL;intro w hL))); conv => whnf)
 refine LoopReq.inv hX (fun j : Nat => [(5, .int .i64 j)]) [0, 1, 4]
  (fun j w => j ≤ N ∧ ∃ lv bl Ll, Ev.Loc m S0 w0 m ((lb, lzO mp room kb av bv rb 0 1 se lv made asked) :: Ll) w ∧ OwnS 5 1 lv (u8s bl) Ll ∧ bl.length = j ∧ ∀ x ∈ bl, x < 256) (fun j => N - j) 0
  ⟨by omega, _, [], [], hL, OwnS.nil _ _, rfl, fun x hx => by cases hx⟩ ⟨rfl, trivial⟩ ?_
 clear hL
 rintro j w e ⟨hj, lv, bl, Ll, hL, ho, hbl, hb⟩
 refine go ?_;try(clear hL;intro w hL)
 refine BrReq.dec (fun hlt => ?_) (fun hlt => ?_)
 ·refine go ?_;try(clear hL;intro w hL)
  obtain ⟨A, n, c, rfl, -⟩ := ho.slice
  refine DrawReq.plan hX (.fst 0 (.fst 1 (.fst 2 (.fst 3 (.fst 5 (.fst 6 (.alt 4 (.alt 7 (.alt 8 (.alt 9 (.fst 10 (.fst 11 (.alt 12 (.done) (.stop)))) (.stop)) (.stop)) (.stop)) (.alt 7 (.alt 4 (.alt 8 (.alt 9 (.fst 10 (.fst 11 (.alt 12 (.done) (.stop)))) (.stop)) (.stop)) (.alt 8 (.alt 4 (.alt 9 (.fst 10 (.fst 11 (.alt 12 (.done) (.stop)))) (.stop)) (.stop)) (.stop))) (.stop))))))))) [] (by kernel_rfl) (by kernel_rfl) hL (fun h => h.sublist (List.nil_sublist _)) ?_
  clear hL
  intro w hL
  conv => whnf
  repeat ((first | refine QLdReq.one hX rfl rfl h30 ?_ | refine QLdReq.agg hX rfl rfl hcl h4 ?_ | refine SReq.mk (hL.sublist (List.nil_sublist _)) ?_ | (refine goq1 ?_;try(clear hL;intro w hL))); conv => whnf)
  refine AltQ.of ⟨?_, ?_⟩
  ·conv => whnf
   repeat ((first | refine SReq.mk (hL.sublist (List.nil_sublist _)) ?_ | (refine goq1 ?_;try(clear hL;intro w hL))); conv => whnf)
   refine CallReq.pure (First_fn m hB of N hC j (by omega)) hL ?_
   clear hL
   rintro u m5 w hL hm5 ⟨z, rfl, hz⟩
   replace hL := hL.weaken hm5 (Mem.Le.refl m)
   conv => whnf
   repeat ((first | refine SReq.mk (hL.sublist (List.nil_sublist _)) ?_ | (refine goq1 ?_;try(clear hL;intro w hL))); conv => whnf)
   refine NewReq.mk hL ?_
   clear hL
   intro g w hL
   conv => whnf
   conv => whnf
   repeat ((first | refine SReq.mk (hL.sublist (List.nil_sublist _)) ?_ | (refine goq1 ?_;try(clear hL;intro w hL))); conv => whnf)
   replace hL : Ev.Loc m S0 w0 m ((g, .cells (toArr [.int .u8 z]) 5 (0, 0)) :: (Ll ++ [(lb, lzO mp room kb av bv rb 0 1 se (.slice A n c) made asked)])) w := hL.perm (List.Perm.cons _ (List.perm_append_singleton _ _).symm)
   refine RunReq.push hX 26 5 rfl rfl rfl rfl rfl ho hL rfl rfl (by show (u8s bl).length + 1 ≤ _; rw [u8s_len]; omega) rfl ?_
   clear hL
   intro A8 n8 c8 Lo3 w hn8 ho8 hL
   replace hL : Ev.Loc m S0 w0 m ((lb, lzO mp room kb av bv rb 0 1 se (.slice A n c) made asked) :: Lo3) w := hL.perm (List.perm_append_singleton _ _)
   conv => whnf
   repeat ((first | refine SReq.mk (hL.sublist (List.nil_sublist _)) ?_ | (refine goq1 ?_;try(clear hL;intro w hL))); conv => whnf)
   replace hL : Ev.Loc m S0 w0 m ((lb, lzO mp room kb av bv rb 0 1 se (.slice A8 n8 c8) made asked) :: Lo3) w := hL
   have ho9 : OwnS 5 1 (.slice A8 n8 c8) (u8s (bl ++ [z])) Lo3 := by simpa [u8s] using ho8
   have hb9 : ∀ x ∈ bl ++ [z], x < 256 := fun x hx => by
    rcases List.mem_append.1 hx with h | h
    ·exact hb x h
    ·rw [List.mem_singleton.1 h]; exact hz
   exact rnd (j + 1) ⟨by omega, _, bl ++ [z], Lo3, hL, ho9, by rw [List.length_append, hbl]; rfl, hb9⟩
  ·conv => whnf
   repeat ((first | refine SReq.mk (hL.sublist (List.nil_sublist _)) ?_ | (refine goq1 ?_;try(clear hL;intro w hL))); conv => whnf)
   refine CallReq.pure (First_fn m hB of N hC j (by omega)) hL ?_
   clear hL
   rintro u m5 w hL hm5 ⟨z, rfl, hz⟩
   replace hL := hL.weaken hm5 (Mem.Le.refl m)
   conv => whnf
   repeat ((first | refine SReq.mk (hL.sublist (List.nil_sublist _)) ?_ | (refine goq1 ?_;try(clear hL;intro w hL))); conv => whnf)
   refine AltQ.of ⟨?_, ?_⟩
   ·conv => whnf
    repeat ((first | refine SReq.mk (hL.sublist (List.nil_sublist _)) ?_ | (refine goq1 ?_;try(clear hL;intro w hL))); conv => whnf)
    refine NewReq.mk hL ?_
    clear hL
    intro g w hL
    conv => whnf
    conv => whnf
    repeat ((first | refine SReq.mk (hL.sublist (List.nil_sublist _)) ?_ | (refine goq1 ?_;try(clear hL;intro w hL))); conv => whnf)
    replace hL : Ev.Loc m S0 w0 m ((g, .cells (toArr [.int .u8 z]) 5 (0, 0)) :: (Ll ++ [(lb, lzO mp room kb av bv rb 0 1 se (.slice A n c) made asked)])) w := hL.perm (List.Perm.cons _ (List.perm_append_singleton _ _).symm)
    refine RunReq.push hX 26 5 rfl rfl rfl rfl rfl ho hL rfl rfl (by show (u8s bl).length + 1 ≤ _; rw [u8s_len]; omega) rfl ?_
    clear hL
    intro A8 n8 c8 Lo3 w hn8 ho8 hL
    replace hL : Ev.Loc m S0 w0 m ((lb, lzO mp room kb av bv rb 0 1 se (.slice A n c) made asked) :: Lo3) w := hL.perm (List.perm_append_singleton _ _)
    conv => whnf
    repeat ((first | refine SReq.mk (hL.sublist (List.nil_sublist _)) ?_ | (refine goq1 ?_;try(clear hL;intro w hL))); conv => whnf)
    replace hL : Ev.Loc m S0 w0 m ((lb, lzO mp room kb av bv rb 0 1 se (.slice A8 n8 c8) made asked) :: Lo3) w := hL
    have ho9 : OwnS 5 1 (.slice A8 n8 c8) (u8s (bl ++ [z])) Lo3 := by simpa [u8s] using ho8
    have hb9 : ∀ x ∈ bl ++ [z], x < 256 := fun x hx => by
     rcases List.mem_append.1 hx with h | h
     ·exact hb x h
     ·rw [List.mem_singleton.1 h]; exact hz
    exact rnd (j + 1) ⟨by omega, _, bl ++ [z], Lo3, hL, ho9, by rw [List.length_append, hbl]; rfl, hb9⟩
   ·conv => whnf
    repeat ((first | refine SReq.mk (hL.sublist (List.nil_sublist _)) ?_ | (refine goq1 ?_;try(clear hL;intro w hL))); conv => whnf)
    refine NewReq.mk hL ?_
    clear hL
    intro g w hL
    conv => whnf
    conv => whnf
    repeat ((first | refine SReq.mk (hL.sublist (List.nil_sublist _)) ?_ | (refine goq1 ?_;try(clear hL;intro w hL))); conv => whnf)
    replace hL : Ev.Loc m S0 w0 m ((g, .cells (toArr [.int .u8 z]) 5 (0, 0)) :: (Ll ++ [(lb, lzO mp room kb av bv rb 0 1 se (.slice A n c) made asked)])) w := hL.perm (List.Perm.cons _ (List.perm_append_singleton _ _).symm)
    refine RunReq.push hX 26 5 rfl rfl rfl rfl rfl ho hL rfl rfl (by show (u8s bl).length + 1 ≤ _; rw [u8s_len]; omega) rfl ?_
    clear hL
    intro A8 n8 c8 Lo3 w hn8 ho8 hL
    replace hL : Ev.Loc m S0 w0 m ((lb, lzO mp room kb av bv rb 0 1 se (.slice A n c) made asked) :: Lo3) w := hL.perm (List.perm_append_singleton _ _)
    conv => whnf
    repeat ((first | refine SReq.mk (hL.sublist (List.nil_sublist _)) ?_ | (refine goq1 ?_;try(clear hL;intro w hL))); conv => whnf)
    replace hL : Ev.Loc m S0 w0 m ((lb, lzO mp room kb av bv rb 0 1 se (.slice A8 n8 c8) made asked) :: Lo3) w := hL
    have ho9 : OwnS 5 1 (.slice A8 n8 c8) (u8s (bl ++ [z])) Lo3 := by simpa [u8s] using ho8
    have hb9 : ∀ x ∈ bl ++ [z], x < 256 := fun x hx => by
     rcases List.mem_append.1 hx with h | h
     ·exact hb x h
     ·rw [List.mem_singleton.1 h]; exact hz
    exact rnd (j + 1) ⟨by omega, _, bl ++ [z], Lo3, hL, ho9, by rw [List.length_append, hbl]; rfl, hb9⟩
 ·obtain rfl : j = N := by omega
  refine go ?_;try(clear hL;intro w hL)
  exact RetReq.mk hL ⟨rfl, lv, bl, Ll, rfl, ho, hbl, hb⟩
def OncI (N : Nat) (dn mu : Int) (lv : Value) (Ll : Ev.Own) : Prop := mu = 0 ∧ ((dn = 0 ∧ lv = .slice none 0 0 ∧ Ll = []) ∨ (dn = 1 ∧ ∃ bl, OwnS 5 1 lv (u8s bl) Ll ∧ bl.length = N ∧ ∀ x ∈ bl, x < 256))
theorem OncI.one {N : Nat} {dn mu : Int} {lv : Value} {Ll : Ev.Own} (h : OncI N dn mu lv Ll) : lv.oneCell' = true := by
 obtain ⟨-, ⟨-, rfl, -⟩ | ⟨-, bl, h, -⟩⟩ := h
 ·rfl
 ·obtain ⟨A, n, c, rfl, -⟩ := h.slice; rfl
theorem do_fn (m : Mem) (hB : BitMem m) (of : List Nat) (N : Nat) (hC : Cls of N) (b4 b3 lb kb rb : Nat) (h4 : Cells m ⟨b4, 0, none⟩ (clC of N)) (h3 : Cells m ⟨b3, 0, none⟩ [.pointer (some ⟨lb, 6, none⟩)])
  (mp av bv : Value) (hmp : mp.oneCell' = true) (hav : av.oneCell' = true) (hbv : bv.oneCell' = true) (room dn mu se made asked : Int) (lv : Value) (Ll : Ev.Own) (hO : OncI N dn mu lv Ll) :
  Ev.Fn Tryz.prog 52 [.pointer (some ⟨lb, 6, none⟩), .func (.func 53) #[] #[.pointer (some ⟨b4, 0, none⟩), .pointer (some ⟨b3, 0, none⟩)]] m ((lb, lzO mp room kb av bv rb dn mu se lv made asked) :: Ll) fun _ L' u => u = .tuple #[] ∧
   ∃ lv bl Ll, L' = (lb, lzO mp room kb av bv rb 1 0 se lv made asked) :: Ll ∧ OwnS 5 1 lv (u8s bl) Ll ∧ bl.length = N ∧ ∀ x ∈ bl, x < 256 := by
 obtain ⟨rfl, ⟨rfl, rfl, rfl⟩ | ⟨rfl, bl, ho, hbl, hb⟩⟩ := hO
 ·have hl := loadB_fn m lb 6 81 [mp, .int .i64 room, .map (some kb), av, bv, .map (some rb), .int .u32 0, .int .i32 0, .int .u32 se, .slice none 0 0, .int .i64 made, .int .i64 asked] [] 0 rfl
  have hs := doSlow_fn m lb 6 81 53 [mp, .int .i64 room, .map (some kb), av, bv, .map (some rb), .int .u32 0, .int .i32 0, .int .u32 se, .slice none 0 0, .int .i64 made, .int .i64 asked] [] [.pointer (some ⟨b4, 0, none⟩), .pointer (some ⟨b3, 0, none⟩)]
   (fun _ cs' Ll => ∃ lv bl, cs' = [mp, .int .i64 room, .map (some kb), av, bv, .map (some rb), .int .u32 0, .int .i32 1, .int .u32 se, lv, .int .i64 made, .int .i64 asked] ∧ OwnS 5 1 lv (u8s bl) Ll ∧ bl.length = N ∧ ∀ x ∈ bl, x < 256) rfl rfl rfl
   ((first1_fn m hB of N hC b4 b3 lb kb rb h4 h3 mp av bv hmp hav hbv room se made asked).mono (by
     rintro m' L' u - ⟨rfl, lv, bl, Ll, rfl, h1, h2, h3⟩
     exact ⟨rfl, _, Ll, rfl, rfl, ⟨_, rfl⟩, lv, bl, rfl, h1, h2, h3⟩))
  refine Fn.enter (N := 12) hX Tryz.func52 rfl rfl (by show _ ≤ _; simp) (fun w0 hL => ?_)
  conv => whnf
  generalize keys [(lb, lzO mp room kb av bv rb 0 0 se (.slice none 0 0) made asked)] = S0 at hL ⊢
  refine go ?_;try(clear hL;intro w hL)
  refine CallReq.mk (L1 := [_]) (L2 := []) hl hL ?_
  clear hL
  rintro u mx L2 w hL - ⟨hmx, rfl, rfl⟩
  rw [hmx] at hL
  clear hmx mx
  refine go ?_;try(clear hL;intro w hL)
  refine CallReq.mk (L1 := [_]) (L2 := []) hs hL ?_
  clear hL
  rintro u m2 L2 w hL hm2 ⟨rfl, cs', L1, rfl, lv, bl, rfl, h5, h6, h7⟩
  rw [List.append_nil] at hL
  refine go ?_;try(clear hL;intro w hL)
  exact RetReq.mk hL ⟨rfl, lv, bl, L1, rfl, h5, h6, h7⟩
 ·have hl := loadB_fn m lb 6 81 [mp, .int .i64 room, .map (some kb), av, bv, .map (some rb), .int .u32 1, .int .i32 0, .int .u32 se, lv, .int .i64 made, .int .i64 asked] Ll 1 rfl
  refine Fn.enter (N := 12) hX Tryz.func52 rfl rfl (by show _ ≤ _; simp) (fun w0 hL => ?_)
  conv => whnf
  generalize keys ((lb, lzO mp room kb av bv rb 1 0 se lv made asked) :: Ll) = S0 at hL ⊢
  refine go ?_;try(clear hL;intro w hL)
  refine CallReq.mk (L1 := _ :: Ll) (L2 := []) hl (by rw [List.append_nil]; exact hL) ?_
  clear hL
  rintro u mx L2 w hL - ⟨hmx, rfl, rfl⟩
  rw [hmx] at hL
  clear hmx mx
  rw [List.append_nil] at hL
  refine go ?_;try(clear hL;intro w hL)
  exact RetReq.mk hL ⟨rfl, lv, bl, Ll, rfl, ho, hbl, hb⟩
theorem firstL_fn (m : Mem) (hB : BitMem m) (of : List Nat) (N : Nat) (hC : Cls of N) (lb kb rb : Nat) (k : Nat) (hk : k < N)
  (mp av bv : Value) (hmp : mp.oneCell' = true) (hav : av.oneCell' = true) (hbv : bv.oneCell' = true) (room dn mu se made asked : Int) (lv : Value) (Ll : Ev.Own) (hO : OncI N dn mu lv Ll) :
  Ev.Fn Tryz.prog 30 [.pointer (some ⟨lb, 6, none⟩), .agg (toArr (clC of N)), .int .i64 k] m ((lb, lzO mp room kb av bv rb dn mu se lv made asked) :: Ll) fun _ L' u =>
   ∃ (z : Nat) (lv : Value) (Ll : Ev.Own), u = .int .u8 z ∧ z < 256 ∧ L' = (lb, lzO mp room kb av bv rb 1 0 se lv made asked) :: Ll ∧ OncI N 1 0 lv Ll := by
 have hlv := hO.one
 have hN := hC.le
 refine Fn.enter (N := 19) hX Tryz.func30 rfl rfl (by show _ ≤ _; simp) (fun w0 hL => ?_)
 conv => whnf
 generalize keys ((lb, lzO mp room kb av bv rb dn mu se lv made asked) :: Ll) = S0 at hL ⊢
 refine NewReq.mk hL ?_
 clear hL
 intro b3 w hL
 conv => whnf
 refine NewReq.mk hL ?_
 clear hL
 intro b4 w hL
 conv => whnf
 replace hL : Ev.Loc m S0 w0 m ((b4, .cells (toArr (clC of N)) 98 (0, 0)) :: (b3, .cells (toArr [.pointer (some ⟨lb, 6, none⟩)]) 126 (0, 0)) :: (lb, lzO mp room kb av bv rb dn mu se lv made asked) :: Ll) w := hL
 have hle1 := hL.le_add
 replace hL := hL.freeze
 have hle2 := hL.le_add
 replace hL := hL.freeze
 generalize hm1 : m.add b4 _ = m1 at hL hle1 hle2
 have hc4 : Cells m1 ⟨b4, 0, none⟩ (clC of N) := by rw [← hm1]; exact cells_add0 _
 generalize hm2 : m1.add b3 _ = m2 at hL hle2
 have hc3 : Cells m2 ⟨b3, 0, none⟩ [.pointer (some ⟨lb, 6, none⟩)] := by rw [← hm2]; exact cells_add0 _
 replace hc4 := hc4.le hle2
 clear hm1 hm2
 have hm02 := hle1.trans hle2
 have h30 := hc3 0 _ rfl
 conv => whnf
 repeat ((first | refine LdReq.one hX rfl rfl hL h30 ?_ | (refine go1 ?_;try(clear hL;intro w hL))); conv => whnf)
 refine CallReq.mk (L1 := _ :: Ll) (L2 := []) (do_fn m2 (hB.le hm02) of N hC b4 b3 lb kb rb hc4 hc3 mp av bv hmp hav hbv room dn mu se made asked lv Ll hO) (by rw [List.append_nil]; exact hL) ?_
 clear hL
 rintro u m3 L2 w hL hm3 ⟨rfl, lv2, bl, Ll2, rfl, ho, hbl, hb⟩
 rw [List.append_nil] at hL
 have h31 := Ev.mcell_le hm3 h30
 obtain ⟨A, n, c, rfl, -⟩ := id ho.slice
 obtain ⟨hn, hc, hcm, hown⟩ := tk_own ho
 rw [u8s_len] at hn
 obtain ⟨g, cur, rfl, rfl, hcur⟩ := hown (fun h => absurd (show bl.length = 0 by rw [← u8s_len, h]; rfl) (by omega))
 have hkl : k < bl.length := by omega
 have hck := hcur k (.int .u8 bl[k]) (u8s_get hkl)
 conv => whnf
 repeat ((first | refine LdReq.one hX rfl rfl hL h31 ?_ | refine Idx2Req.mk k ⟨g, 0, none⟩ rfl (by omega) rfl ?_ | (refine LdReq.ownC hX rfl rfl hL (.t .h) (by rw [scale_eq, Nat.mul_one, Nat.zero_add]; exact hck) ?_) | (refine go1 ?_;try(clear hL;intro w hL))); conv => whnf)
 exact RetReq.mk hL ⟨bl[k], _, _, rfl, hb _ (List.getElem_mem hkl), rfl, rfl, .inr ⟨rfl, bl, ho, hbl, hb⟩⟩
end Go.Proofs.YtaooenndoopgdaaGreatDoor.lz
namespace Go.Proofs.YtaooenndoopgdaaGreatDoor.lz
open Go Go.Ev Go.Proofs Go.Proofs.YtaooenndoopgdaaGreatDoor.ar Go.Proofs.YtaooenndoopgdaaGreatDoor.tree Go.Proofs.YtaooenndoopgdaaGreatDoor.looks
theorem _root_.Go.Ev.FnL.frame {P : Program} {f : Nat} {args : List Value} {m : Mem} {L L1 L2 : Ev.Own} {v : Value} (h : FnL P f args m L1 v) (hp : L.Perm (L1 ++ L2)) : FnL P f args m L v := by
 intro w hw
 have hc : CallReq P f (toArr args) w (fun u w' => u = v ∧ Ev.Loc m (keys L) w m L w') := CallReq.li (L1 := L1) (L2 := L2) (v := v) h (hw.loc.perm hp) (fun w' hl => ⟨rfl, hl.perm hp.symm⟩)
 refine hc.out.mono ?_
 intro e w' hq
 cases e with
 | returned u =>
   obtain ⟨h1, hl⟩ := hq
   exact ⟨u, m, L, rfl, hl, rfl, rfl, h1⟩
 | _ => exact hq.elim
theorem there_fn (m : Mem) (lb kb rb K : Nat) (mp av bv lv : Value) (hav : ∃ A c, av = .slice A K c) (hmp : mp.oneCell' = true) (hbv : bv.oneCell' = true) (hlv : lv.oneCell' = true) (room dn mu se made asked z : Int) (hz : i64 z) :
  FnL Tryz.prog 24 [.pointer (some ⟨lb, 0, none⟩), .int .i64 z] m [(lb, lzO mp room kb av bv rb dn mu se lv made asked)] (.bool (decide (0 ≤ z ∧ z < K))) := by
 obtain ⟨A, c, rfl⟩ := hav
 refine Fn.enter (N := 20) hX Tryz.func24 rfl rfl (by show _ ≤ _; simp) (fun w0 hL => ?_)
 conv => whnf
 generalize keys [(lb, lzO mp room kb (.slice A K c) bv rb dn mu se lv made asked)] = S0 at hL ⊢
 by_cases h0 : 0 ≤ z
 ·have e : decide (0 ≤ z ∧ z < K) = decide (z < (K : Int)) := by simp [h0]
  rw [e]
  conv => whnf
  repeat' (first | ((first | refine UGenReq.nilPtrNe hX rfl rfl rfl rfl rfl ?_ | refine BrReq.yes h0 ?_ | refine zT ?_ | refine zF ?_ | refine zL hX hL ?_ | refine zB hX hL ?_ | (refine zS hX hL ?_; clear hL; intro w hL) | refine zI ?_ | refine zG hX ?_ | refine zO ?_); conv => whnf) | (refine BrReq.dec (fun _ => ?_) (fun _ => ?_) <;> (conv => whnf)) | (refine BrReq.not ?_; refine BrReq.dec (fun _ => ?_) (fun _ => ?_) <;> (conv => whnf)) | (refine BrReq.bool (fun _ => ?_) (fun _ => ?_) <;> (conv => whnf)))
  all_goals exact RetReq.mk hL ⟨rfl, rfl, rfl⟩
 ·have e : decide (0 ≤ z ∧ z < K) = false := by simp [h0]
  rw [e]
  conv => whnf
  repeat' (first | ((first | refine UGenReq.nilPtrNe hX rfl rfl rfl rfl rfl ?_ | refine BrReq.no h0 ?_ | refine zT ?_ | refine zF ?_ | refine zL hX hL ?_ | refine zB hX hL ?_ | (refine zS hX hL ?_; clear hL; intro w hL) | refine zI ?_ | refine zG hX ?_ | refine zO ?_); conv => whnf) | (refine BrReq.dec (fun _ => ?_) (fun _ => ?_) <;> (conv => whnf)) | (refine BrReq.not ?_; refine BrReq.dec (fun _ => ?_) (fun _ => ?_) <;> (conv => whnf)) | (refine BrReq.bool (fun _ => ?_) (fun _ => ?_) <;> (conv => whnf)))
  all_goals exact RetReq.mk hL ⟨rfl, rfl, rfl⟩
theorem begin_fn (m : Mem) (lb kb rb : Nat) (mp av bv lv : Value) (bg : List Int) (Lb : Ev.Own) (hb : OwnS 3 1 bv (ints bg) Lb) (hav : av.oneCell' = true) (hmp : mp.oneCell' = true) (hlv : lv.oneCell' = true) (room dn mu se made asked z : Int) (hz : i64 z) :
  FnL Tryz.prog 9 [.pointer (some ⟨lb, 0, none⟩), .int .i64 z] m ((lb, lzO mp room kb av bv rb dn mu se lv made asked) :: Lb) (.int .i64 (if 0 ≤ z then bg.getD z.toNat (-1) else -1)) := by
 obtain ⟨A, n, c, rfl, -⟩ := hb.slice
 obtain ⟨hn, hc, hcm, hown⟩ := tk_own hb
 rw [ints, List.length_map] at hn
 have hmx : maxLen = 9223372036854775807 := rfl
 refine Fn.enter (N := 27) hX Tryz.func9 rfl rfl (by show _ ≤ _; simp) (fun w0 hL => ?_)
 conv => whnf
 generalize keys ((lb, lzO mp room kb av (.slice A n c) rb dn mu se lv made asked) :: Lb) = S0 at hL ⊢
 by_cases h0 : z < 0
 ·rw [if_neg (by omega)]
  conv => whnf
  repeat ((first | refine UGenReq.nilPtr hX rfl rfl rfl rfl rfl ?_ | refine BrReq.yes h0 ?_ | (refine go1 ?_;try(clear hL;intro w hL))); conv => whnf)
  exact RetReq.mk hL ⟨rfl, rfl, rfl⟩
 rw [if_pos (by omega)]
 obtain ⟨k, rfl⟩ : ∃ k : Nat, z = k := ⟨z.toNat, by omega⟩
 rw [Int.toNat_natCast]
 by_cases h1 : (n : Int) ≤ k
 ·rw [List.getD_eq_getElem?_getD, List.getElem?_eq_none (by omega)]
  conv => whnf
  repeat ((first | refine UGenReq.nilPtr hX rfl rfl rfl rfl rfl ?_ | refine BrReq.no h0 ?_ | refine BrReq.yes h1 ?_ | (refine go1 ?_;try(clear hL;intro w hL))); conv => whnf)
  exact RetReq.mk hL ⟨rfl, rfl, rfl⟩
 ·have hk : k < bg.length := by omega
  obtain ⟨g, cur, rfl, rfl, hcur⟩ := hown (by intro h; rw [ints, List.map_eq_nil_iff] at h; rw [h] at hk; simp at hk)
  have hck := hcur k (.int .i64 bg[k]) (by rw [ints, List.getElem?_map, List.getElem?_eq_getElem hk]; rfl)
  rw [List.getD_eq_getElem?_getD, List.getElem?_eq_getElem hk]
  conv => whnf
  repeat ((first | refine UGenReq.nilPtr hX rfl rfl rfl rfl rfl ?_ | refine BrReq.no h0 ?_ | refine BrReq.no h1 ?_ | refine Idx2Req.mk k ⟨g, 0, none⟩ rfl (by omega) rfl ?_ | (refine LdReq.ownC hX rfl rfl hL (.t .h) (by rw [scale_eq, Nat.mul_one, Nat.zero_add]; exact hck) ?_) | (refine go1 ?_;try(clear hL;intro w hL))); conv => whnf)
  exact RetReq.mk hL ⟨rfl, rfl, rfl⟩
noncomputable def accB (ns : List Nd) (bits : Nat) (f : fo.Fml) : Bool := fo.dec (fo.holdsP f (li.keepQ ns bits (li.atomsP f)))
theorem rule1_fn (m : Mem) (mb ab b3 b5 bits : Nat) (ns : List Nd) (La : Ev.Own) (hA : Ar ab ns La) (hO : OkA ns) (hb : bits < 256) (fv : Value) (f : fo.Fml) (hf : fo.FmV m fv f) (hF : fo.FB ns.length f)
  (h3 : Cells m ⟨b3, 0, none⟩ [.pointer (some ⟨mb, 0, none⟩)]) (h5 : Cells m ⟨b5, 0, none⟩ [.int .u8 bits]) (hm : mcell m ((⟨mb, 0, none⟩ : Addr).add 0) = some (.pointer (some ⟨ab, 0, none⟩))) :
  FnM Tryz.prog 56 [fv, .pointer (some ⟨b3, 0, none⟩), .pointer (some ⟨b5, 0, none⟩)] m La (.bool (accB ns bits f)) := by
 have hacc := li.Accepts_fn m ab bits ns La hA hO hb fv f hf hF
 obtain ⟨A1, n1, c1, rfl, -⟩ := id hf
 have h30 := h3 0 _ rfl
 have h50 := h5 0 _ rfl
 refine Fn.enter (N := 12) hX Tryz.func56 rfl rfl (by show _ ≤ _; simp) (fun w0 hL => ?_)
 conv => whnf
 generalize keys La = S0 at hL ⊢
 refine DrawReq.plan hX (.fst 0 (.fst 1 (.fst 2 (.fst 3 (.fst 4 (.fst 5 (.alt 6 (.fst 7 (.done)) (.stop)))))))) [] (by kernel_rfl) (by kernel_rfl) hL (fun h => h.sublist (List.nil_sublist _)) ?_
 clear hL
 intro w hL
 conv => whnf
 repeat ((first | refine QLdReq.one hX rfl rfl h30 ?_ | refine QLdReq.one hX rfl rfl h50 ?_ | refine QLdReq.one hX rfl rfl hm ?_ | (refine goq1 ?_;try(clear hL;intro w hL))); conv => whnf)
 refine CallReq.lm (L1 := La) (L2 := []) hacc (by rw [List.append_nil]; exact hL) ?_
 clear hL
 intro m1 w hm1 hL
 rw [List.append_nil] at hL
 replace hL := hL.weaken hm1 (Mem.Le.refl m)
 refine SReq.mk (hL.sublist (List.nil_sublist _)) ?_
 refine goq ?_;try(clear hL;intro w hL)
 exact RetReq.mk hL ⟨rfl, rfl⟩
noncomputable def ruleZ (ns : List Nd) (bits : Nat) (fs : List fo.Fml) : Int := match fs.findIdx? (accB ns bits) with
 | some i => i
 | none => -1
theorem indexM_fn (m : Mem) (mb ab b3 b5 bits : Nat) (ns : List Nd) (La : Ev.Own) (hA : Ar ab ns La) (hO : OkA ns) (hb : bits < 256) (v : Value) (fs : List fo.Fml) (hs : MnV m v fs) (hF : ∀ f ∈ fs, fo.FB ns.length f)
  (h3 : Cells m ⟨b3, 0, none⟩ [.pointer (some ⟨mb, 0, none⟩)]) (h5 : Cells m ⟨b5, 0, none⟩ [.int .u8 bits]) (hmb : mcell m ((⟨mb, 0, none⟩ : Addr).add 0) = some (.pointer (some ⟨ab, 0, none⟩))) :
  FnM Tryz.prog 49 [v, .func (.func 56) #[] #[.pointer (some ⟨b3, 0, none⟩), .pointer (some ⟨b5, 0, none⟩)]] m La (.int .i64 (ruleZ ns bits fs)) := by
 obtain ⟨A1, n, c1, rfl, hn, hc, hm, -⟩ := id hs
 have hmx : maxLen = 9223372036854775807 := rfl
 refine Fn.enter (N := 19) hX Tryz.func49 rfl rfl (by show _ ≤ _; simp) (fun w0 hL => ?_)
 conv => whnf
 generalize keys La = S0 at hL ⊢
 refine go ?_;try(clear hL;intro w hL)
 refine LoopReq.inv hX (fun j : Nat => [(8, .int .i64 j)]) [0, 1, 7]
  (fun j w => (j ≤ n ∧ ∀ x ∈ fs.take j, accB ns bits x = false) ∧ Ev.Loc m S0 w0 m La w) (fun j => n - j) 0
  ⟨⟨by omega, by simp⟩, hL⟩ ⟨rfl, trivial⟩ ?_
 clear hL
 rintro j w e ⟨⟨hj, hdone⟩, hL⟩
 refine go ?_;try(clear hL;intro w hL)
 refine BrReq.dec (fun hlt => ?_) (fun hlt => ?_)
 ·have hjl : j < fs.length := by omega
  obtain ⟨a, cs, rfl, hl1, hcells, u, rfl, hu⟩ := hs.elem j _ (List.getElem?_eq_getElem hjl)
  have htk := List.take_succ_eq_append_getElem hjl
  have hFj := hF _ (List.getElem_mem hjl)
  have hget := List.getElem?_eq_getElem hjl
  generalize fs[j] = x at hu htk hFj hget
  have hf := rule1_fn m mb ab b3 b5 bits ns La hA hO hb u x hu hFj h3 h5 hmb
  have hc0 := hcells 0 _ rfl
  have addr0 : ∀ z : Addr, z.add 0 = z := fun z => by cases z; rfl
  rw [addr0] at hc0
  obtain ⟨Au, nu, cu, rfl, -⟩ := id hu
  conv => whnf
  repeat ((first | refine Idx2Req.mk j a rfl (by omega) rfl ?_ | refine LdReq.one hX rfl rfl hL hc0 ?_ | (refine go1 ?_;try(clear hL;intro w hL))); conv => whnf)
  refine CallReq.lm (L1 := La) (L2 := []) hf (by rw [List.append_nil]; exact hL) ?_
  clear hL
  intro m1 w hm1 hL
  rw [List.append_nil] at hL
  replace hL := hL.weaken hm1 (Mem.Le.refl m)
  cases hacc : accB ns bits x with
  | true =>
    have hz : ruleZ ns bits fs = j := by
     have : fs.findIdx? (accB ns bits) = some j := by
      rw [List.findIdx?_eq_some_iff_getElem]
      refine ⟨hjl, by rw [List.getElem?_eq_getElem hjl] at hget; rw [Option.some.inj hget]; exact hacc, fun k hk => ?_⟩
      have := hdone fs[k] (by rw [List.mem_take_iff_getElem]; exact ⟨k, by omega, rfl⟩)
      rw [this]; decide
     unfold ruleZ; rw [this]
    rw [hz]
    refine go ?_;try(clear hL;intro w hL)
    exact RetReq.mk hL ⟨rfl, rfl⟩
  | false =>
    have hd2 := all_snoc htk hdone hacc
    refine go ?_;try(clear hL;intro w hL)
    exact rnd (j + 1) ⟨⟨by omega, hd2⟩, hL⟩
 ·have hjn : j = fs.length := by omega
  rw [hjn, List.take_length] at hdone
  have hz : ruleZ ns bits fs = -1 := by
   have : fs.findIdx? (accB ns bits) = none := by rw [List.findIdx?_eq_none_iff]; exact hdone
   unfold ruleZ; rw [this]
  rw [hz]
  refine go ?_;try(clear hL;intro w hL)
  exact RetReq.mk hL ⟨rfl, rfl⟩
theorem Mkr.ar {m : Mem} {mb ab : Nat} {s : Sp} {ls : List Re} {fs : List fo.Fml} {of : List Nat} {N : Nat} (k : Mkr m mb ab s ls fs of N) : mcell m ((⟨mb, 0, none⟩ : Addr).add 0) = some (.pointer (some ⟨ab, 0, none⟩)) := by
 obtain ⟨⟨A, n, c, A2, n2, c2, A3, n3, c3, A4, n4, c4, h1, -⟩, -⟩ := k
 exact h1 0 _ rfl
theorem mrule_fn (m : Mem) (mb ab bits : Nat) (s : Sp) (ls : List Re) (fs0 : List fo.Fml) (of : List Nat) (N : Nat) (hM : Mkr m mb ab s ls fs0 of N) (ns : List Nd) (La : Ev.Own) (hA : Ar ab ns La) (hO : OkA ns) (hb : bits < 256) (v : Value) (fs : List fo.Fml) (hs : MnV m v fs) (hF : ∀ f ∈ fs, fo.FB ns.length f) :
  FnM Tryz.prog 32 [.pointer (some ⟨mb, 0, none⟩), v, .int .u8 bits] m La (.int .i64 (ruleZ ns bits fs)) := by
 obtain ⟨A1, n, c1, rfl, -⟩ := id hs
 refine Fn.enter (N := 10) hX Tryz.func32 rfl rfl (by show _ ≤ _; simp) (fun w0 hL => ?_)
 conv => whnf
 generalize keys La = S0 at hL ⊢
 refine NewReq.mk hL ?_
 clear hL
 intro b3 w hL
 conv => whnf
 refine NewReq.mk hL ?_
 clear hL
 intro b5 w hL
 conv => whnf
 replace hL : Ev.Loc m S0 w0 m ((b5, .cells (toArr [.int .u8 bits]) 5 (0, 0)) :: (b3, .cells (toArr [.pointer (some ⟨mb, 0, none⟩)]) 57 (0, 0)) :: La) w := hL
 have hle1 := hL.le_add
 replace hL := hL.freeze
 have hle2 := hL.le_add
 replace hL := hL.freeze
 generalize hm2 : (m.add b5 _).add b3 _ = m2 at hL hle2
 have hb5 : Cells m2 ⟨b5, 0, none⟩ [.int .u8 bits] := (cells_add0 (m := m) (b := b5) (te := 5) (fz := (0, 0)) [.int .u8 bits]).le hle2
 have hb3 : Cells m2 ⟨b3, 0, none⟩ [.pointer (some ⟨mb, 0, none⟩)] := by rw [← hm2]; exact cells_add0 _
 clear hm2
 have hm02 := hle1.trans hle2
 refine go ?_;try(clear hL;intro w hL)
 refine CallReq.lm (L1 := La) (L2 := []) (indexM_fn m2 mb ab b3 b5 bits ns La hA hO hb _ fs (hs.le hm02) hF hb3 hb5 (hM.le hm02).ar) (by rw [List.append_nil]; exact hL) ?_
 clear hL
 intro m3 w hm3 hL
 rw [List.append_nil] at hL
 refine go ?_;try(clear hL;intro w hL)
 exact RetReq.mk hL ⟨rfl, rfl⟩
theorem la_perm {α : Type} (a b c d : α) (Lb La R : List α) : (a :: b :: c :: d :: (Lb ++ (La ++ R))).Perm (La ++ (a :: b :: c :: d :: (Lb ++ R))) := by
 have := List.perm_append_comm_assoc (a :: b :: c :: d :: Lb) La R
 simpa using this
theorem Inv.at_ {m : Mem} {s : Sp} {ls : List Re} {fs : List fo.Fml} {of : List Nat} {N : Nat} {x : St} (h : Inv m s ls fs of N x) {k : Nat} (hk : k < x.l.length) : ∃ g cur n c u, x.av = .slice (some ⟨g, 0, none⟩) n c ∧ n = x.l.length ∧ n ≤ c ∧ x.Lm = [(g, .cells (toArr cur) 84 (0, 0))] ∧ cur[k]? = some u ∧ MnV m u (x.l.getD k []) := by
 obtain ⟨A, n, c, hav, -⟩ := h.ho.slice
 have ho := h.ho
 rw [hav] at ho
 obtain ⟨hn, hc, -, hown⟩ := tk_own ho
 have hul := h.all.len
 obtain ⟨g, cur, rfl, hLm, hcur⟩ := hown (by intro e; rw [e] at hul; simp at hul; rw [hul] at hk; simp at hk)
 obtain ⟨u, hu, hm⟩ := h.all.at_ k _ (List.getElem?_eq_getElem hk)
 exact ⟨g, cur, n, c, u, hav, by omega, hc, hLm, hcur k u hu, by rw [List.getD_eq_getElem?_getD, List.getElem?_eq_getElem hk]; exact hm⟩
theorem rule_fn (m : Mem) (lb bits : Nat) (s : Sp) (ls : List Re) (fs : List fo.Fml) (of : List Nat) (N : Nat) (x : St) (hI : Inv m s ls fs of N x) (hlv : x.lv.oneCell' = true) (hb : bits < 256) (z : Int) (hz : i64 z) :
  FnM Tryz.prog 12 [.pointer (some ⟨lb, 0, none⟩), .int .i64 z, .int .u8 bits] m (x.own lb) (.int .i64 (if 0 ≤ z ∧ z < x.l.length then ruleZ x.ns bits (x.l.getD z.toNat []) else -1)) := by
 obtain ⟨A, n, c, hav, -⟩ := hI.ho.slice
 obtain ⟨A6, n6, c6, hbv, -⟩ := hI.hb.slice
 have hn : n = x.l.length := by have := hI.ho; rw [hav] at this; have := (tk_own this).1; have := hI.all.len; omega
 have hth := there_fn m lb x.kb x.rb x.l.length (.pointer (some ⟨x.mb, 0, none⟩)) x.av x.bv x.lv ⟨A, c, by rw [hav, hn]⟩ rfl (by rw [hbv]; rfl) hlv x.room x.dn x.mu x.se x.made x.asked z hz
 refine Fn.enter (N := 24) hX Tryz.func12 rfl rfl (by show _ ≤ _; simp) (fun w0 hL => ?_)
 conv => whnf
 generalize hS0 : keys (x.own lb) = S0 at hL ⊢
 refine go ?_;try(clear hL;intro w hL)
 refine CallReq.li (L1 := [(lb, x.ob)]) (L2 := (x.kb, mapW (knW x.l 0)) :: (x.Lm ++ ((x.rb, mapB x.ck (rwW x.rows)) :: (x.Lb ++ (x.La ++ (rwB x.rows ++ x.Ll)))))) hth hL ?_
 clear hL
 intro w hL
 by_cases h0 : 0 ≤ z ∧ z < x.l.length
 ·rw [decide_eq_true h0, if_pos h0]
  obtain ⟨k, rfl⟩ : ∃ k : Nat, z = k := ⟨z.toNat, by omega⟩
  rw [Int.toNat_natCast]
  have hk : k < x.l.length := by omega
  obtain ⟨g, cur, n1, c1, u, e1, e2, e3, e4, e5, e6⟩ := hI.at_ hk
  obtain ⟨Au, nu, cu, rfl, -⟩ := id e6
  have hmr := mrule_fn m x.mb x.ab bits s ls fs of N hI.mkr x.ns x.La hI.ar hI.ok hb _ _ e6 (by
   rw [List.getD_eq_getElem?_getD, List.getElem?_eq_getElem hk]
   exact (hI.all.fb _ (List.getElem_mem hk)).2)
  have hown : x.own lb = (lb, lzO (.pointer (some ⟨x.mb, 0, none⟩)) x.room x.kb (.slice (some ⟨g, 0, none⟩) n1 c1) x.bv x.rb x.dn x.mu x.se x.lv x.made x.asked) :: (x.kb, mapW (knW x.l 0)) :: (g, .cells (toArr cur) 84 (0, 0)) :: (x.rb, mapB x.ck (rwW x.rows)) :: (x.Lb ++ (x.La ++ (rwB x.rows ++ x.Ll))) := by
   unfold St.own St.ob; rw [e1, e4]; rfl
  replace hL : Ev.Loc m S0 w0 m (x.own lb) w := hL
  rw [hown] at hL ⊢
  rw [hbv] at hL ⊢
  generalize x.lv = lv at hlv hL ⊢
  generalize rwB x.rows ++ x.Ll = R at hL ⊢
  refine go ?_;try(clear hL;intro w hL)
  refine DrawReq.plan hX (.fst 0 (.fst 1 (.fst 2 (.fst 3 (.fst 4 (.fst 5 (.fst 6 (.fst 7 (.fst 8 (.fst 9 (.fst 10 (.fst 11 (.alt 12 (.fst 13 (.done)) (.stop)))))))))))))) [(lb, lzO (.pointer (some ⟨x.mb, 0, none⟩)) x.room x.kb (.slice (some ⟨g, 0, none⟩) n1 c1) (.slice A6 n6 c6) x.rb x.dn x.mu x.se lv x.made x.asked), (g, .cells (toArr cur) 84 (0, 0))] (by kernel_rfl) (by kernel_rfl) hL (fun h => h.sublist (.cons_cons _ (.cons _ (.cons_cons _ (List.nil_sublist _))))) ?_
  clear hL
  intro w hL
  conv => whnf
  repeat ((first | refine Idx2Req.mk k ⟨g, 0, none⟩ rfl (by omega) rfl ?_ | (refine QLdReq.ownC hX rfl rfl (.t .h) (by rw [scale_eq, Nat.mul_one, Nat.zero_add]; exact e5) ?_) | (refine goq1 ?_;try(clear hL;intro w hL))); conv => whnf)
  refine CallReq.lm (L1 := x.La) (L2 := (_ :: _ :: _ :: _ :: (x.Lb ++ R))) hmr (hL.perm (la_perm _ _ _ _ x.Lb x.La R)) ?_
  clear hL
  intro m1 w hm1 hL
  replace hL := (hL.perm (la_perm _ _ _ _ x.Lb x.La R).symm).weaken hm1 (Mem.Le.refl m)
  refine SReq.mk (hL.sublist (.cons_cons _ (.cons _ (.cons_cons _ (List.nil_sublist _))))) ?_
  refine goq ?_;try(clear hL;intro w hL)
  exact RetReq.mk hL ⟨rfl, rfl⟩
 ·rw [decide_eq_false h0, if_neg h0]
  refine go ?_;try(clear hL;intro w hL)
  exact RetReq.mk hL ⟨rfl, rfl⟩
end Go.Proofs.YtaooenndoopgdaaGreatDoor.lz
namespace Go.Proofs
open Go.Shelf
def Tryz.lays212_ren : Go.Shelf.Ren := ⟨fun | 212 => 79 | 263 => 111 | 264 => 112 | n => n, fun | 46 => 160 | 51 => 66 | 146 => 201 | 53 => 48 | 148 => 203 | n => n, fun | n => n⟩
theorem Tryz.lays212 : Go.Proofs.Lays.n212 Tryz.prog Tryz.lays212_ren := {
 mixed := by kernel_rfl
 f212 := Tryz.func79.trans (congrArg some (by kernel_rfl))
 f263 := Tryz.func111.trans (congrArg some (by kernel_rfl))
 f264 := Tryz.func112.trans (congrArg some (by kernel_rfl))
 t46 := Tryz.underlying160
 a46 := Tryz.isAgg160
 z46 := Tryz.sizeOf160
 v46 := Tryz.zeroValue160
 t51 := Tryz.underlying66
 a51 := Tryz.isAgg66
 z51 := Tryz.sizeOf66
 v51 := Tryz.zeroValue66
 t53 := Tryz.underlying48
 a53 := Tryz.isAgg48
 z53 := Tryz.sizeOf48
 v53 := Tryz.zeroValue48
 t146 := Tryz.underlying201
 a146 := Tryz.isAgg201
 z146 := Tryz.sizeOf201
 v146 := Tryz.zeroValue201
 t148 := Tryz.underlying203
 a148 := Tryz.isAgg203
 z148 := Tryz.sizeOf203
 v148 := Tryz.zeroValue203 }
open Go.RowKit Go.Lib in
theorem Tryz.bits_Mul (x y : Nat) (hx : x < 18446744073709551616) (hy : y < 18446744073709551616) (w : World) :
  Calls Tryz.prog 79 #[.int .u64 x, .int .u64 y] w fun e w' => e = .returned (.tuple #[.int .u64 ((x * y / 18446744073709551616 : Nat) : Int), .int .u64 ((x * y % 18446744073709551616 : Nat) : Int)]) ∧ w' = w := Any.bits_Mul Tryz.lays212 x y hx hy w
end Go.Proofs
