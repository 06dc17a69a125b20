/- TrackRefuses: part 3 of 14 of the proof. Conditions: none. -/
import Derived.Test.YtiololnblplloaaGreatM2
import Derived.Shelf.Small.Bits
import Derived.Shelf.Strconv.Itoa0
import Derived.Shelf.Sort.Plain
import Derived.Ground.Names2Prog
import Derived.Shelf.Slices.CompactI
import Derived.Shelf.Slices.Cells
import Derived.Shelf.Slices.In.SortNone
import Derived.Ground.SlsfProg
import Derived.Shelf.SlSortCmp.Insertion
import Derived.Shelf.SlSortCmp.SiftDown1
import Derived.Shelf.SlSortCmp.HeapSort1
import Derived.Shelf.SlSortCmp.Insertion1
import Derived.Shelf.SlSortCmp.Median1
import Derived.Shelf.SlSortCmp.Pivot1
import Derived.Shelf.SlSortCmp.ReverseRange1
import Derived.Shelf.SlSortCmp.PartialInsertion1
import Derived.Shelf.SlSortCmp.PartitionEqual1
import Derived.Shelf.SlSortCmp.Partition1
import Derived.Shelf.SlSortCmp.Pdq1
import Derived.Shelf.SlSortCmp.NoneTotal
import Derived.Test.YtiololnblplloaaGreatProg
namespace Go.Proofs.YtiololnblplloaaGreat.ar
open Go Go.Ev Go.Proofs
def ndsC (ns : List Nd) : List Value := (ns.map ndC).flatten
theorem nds_rows (ns : List Nd) : ∀ r ∈ ns.map ndC, r.length = 8 := by
  intro r hr
  obtain ⟨x, -, rfl⟩ := List.mem_map.1 hr
  rfl
theorem nds_len (ns : List Nd) : (ndsC ns).length = ns.length * 8 := by
  unfold ndsC; rw [flat_len _ (nds_rows ns), List.length_map]
def Ar (ab : Nat) (ns : List Nd) (L : Own) : Prop := ∃ A c mb L1, L = (ab, arO (.slice A ns.length c) mb) :: (mb, mapW (ndW ns 0)) :: L1 ∧ OwnS 80 8 (.slice A ns.length c) (ndsC ns) L1
structure OkA (ns : List Nd) : Prop where
  inn : ∀ x ∈ ns, InN x
  nodup : ns.Nodup
  right : ∀ (i : Nat) (x : Nd), ns[i]? = some x → rightN x i = true
  len : ns.length ≤ 20000
def nodeN (ns : List Nd) (id : Int) : Nd × Bool := if 0 ≤ id ∧ id < ns.length then (ns.getD id.toNat nd0, true) else (nd0, false)
theorem Len_fn (m : Mem) (ab mb n c : Nat) (A : Option Addr) : FnL Tryz.prog 57 [.pointer (some ⟨ab, 0, none⟩)] m [(ab, arO (.slice A n c) mb)] (.int .i64 n) := by
  refine Fn.enter (N := 10) hX Tryz.func57 rfl rfl (by show _ ≤ _; simp) (fun w0 hL => ?_)
  conv => whnf
  generalize keys [(ab, arO (.slice A n c) mb)] = S0 at hL ⊢
  conv => whnf
  repeat ((first | refine UGenReq.nilPtr hX rfl rfl rfl rfl rfl ?_ | refine zT ?_ | refine zF ?_ | refine zL hX hL ?_ | refine zB hX hL ?_ | (refine zS hX hL ?_; clear hL; intro w hL) | refine zI ?_ | refine zG hX ?_ | refine zO ?_); conv => whnf)
  exact RetReq.mk hL ⟨rfl, rfl, rfl⟩
theorem Node_fn (m : Mem) (ab : Nat) (ns : List Nd) (L : Own) (h : Ar ab ns L) (id : Int) :
    FnL Tryz.prog 41 [.pointer (some ⟨ab, 0, none⟩), .int .i64 id] m L (.tuple (toArr [.agg (toArr (ndC (nodeN ns id).1)), .bool (nodeN ns id).2])) := by
  obtain ⟨A, c, mb, L1, rfl, ho⟩ := h
  refine Fn.enter (N := 22) hX Tryz.func41 rfl rfl (by show _ ≤ _; simp) (fun w0 hL => ?_)
  conv => whnf
  generalize keys ((ab, arO (.slice A ns.length c) mb) :: (mb, mapW (ndW ns 0)) :: L1) = S0 at hL ⊢
  refine NewReq.mk hL ?_
  clear hL
  intro b4 w hL
  conv => whnf
  replace hL : Ev.Loc m S0 w0 m ([(ab, arO (.slice A ns.length c) mb)] ++ ((b4, .cells (toArr (ndC nd0)) 80 (0, 0)) :: (mb, mapW (ndW ns 0)) :: L1)) w := hL.perm (List.Perm.swap _ _ _)
  unfold nodeN
  conv => whnf
  repeat ((first | refine zT ?_ | refine zF ?_ | refine zL hX hL ?_ | refine zB hX hL ?_ | (refine zS hX hL ?_; clear hL; intro w hL) | refine zI ?_ | refine zG hX ?_ | refine zO ?_); conv => whnf)
  by_cases h0 : 0 ≤ id
  · conv => whnf
    repeat ((first | refine BrReq.no (by omega) ?_ | refine zT ?_ | refine zF ?_ | refine zL hX hL ?_ | refine zB hX hL ?_ | (refine zS hX hL ?_; clear hL; intro w hL) | refine zI ?_ | refine zG hX ?_ | refine zO ?_); conv => whnf)
    refine CallReq.li (L1 := [(ab, arO (.slice A ns.length c) mb)]) (Len_fn m ab mb ns.length c A) hL ?_
    clear hL
    intro w hL
    replace hL : Ev.Loc m S0 w0 m ((ab, arO (.slice A ns.length c) mb) :: (b4, .cells (toArr (ndC nd0)) 80 (0, 0)) :: (mb, mapW (ndW ns 0)) :: L1) w := hL
    by_cases h1 : id < ns.length
    · obtain ⟨i, rfl⟩ : ∃ i : Nat, id = i := ⟨id.toNat, by omega⟩
      have hi : i < ns.length := by omega
      obtain ⟨g, cur, rfl, rfl, hr, hle⟩ := ho.rowAt (nds_rows ns) (by omega) (i := i) (r := ndC ns[i]) (by rw [List.getElem?_map, List.getElem?_eq_getElem hi]; rfl)
      rw [if_pos ⟨h0, h1⟩]
      conv => whnf
      repeat ((first | refine BrReq.no (by omega) ?_ | refine Idx2Req.mk i _ rfl (by omega) rfl ?_ | refine zT ?_ | refine zF ?_ | refine zL hX hL ?_ | refine zB hX hL ?_ | (refine zS hX hL ?_; clear hL; intro w hL) | refine zI ?_ | refine zG hX ?_ | refine zO ?_); conv => whnf)
      refine LdReq.ownRow hX rfl rfl hL (.t (.t (.t .h))) (r := ndC ns[i]) (by rw [scale_eq, Nat.zero_add]; exact hr) (by rw [scale_eq, Nat.zero_add]; exact hle) ?_
      conv => whnf
      repeat ((first | refine zT ?_ | refine zF ?_ | refine zL hX hL ?_ | refine zB hX hL ?_ | (refine zS hX hL ?_; clear hL; intro w hL) | refine zI ?_ | refine zG hX ?_ | refine zO ?_); conv => whnf)
      refine RetReq.mk (hL.sublist (.cons_cons _ (.cons _ (List.Sublist.refl _)))) ⟨rfl, rfl, ?_⟩
      rw [show ns.getD ((i : Int)).toNat nd0 = ns[i] by simp [List.getD, List.getElem?_eq_getElem hi]]
      rfl
    · rw [if_neg (fun h => h1 h.2)]
      conv => whnf
      repeat ((first | refine BrReq.yes (by omega) ?_ | refine zT ?_ | refine zF ?_ | refine zL hX hL ?_ | refine zB hX hL ?_ | (refine zS hX hL ?_; clear hL; intro w hL) | refine zI ?_ | refine zG hX ?_ | refine zO ?_); conv => whnf)
      exact RetReq.mk (hL.sublist (.cons_cons _ (.cons _ (List.Sublist.refl _)))) ⟨rfl, rfl, rfl⟩
  · rw [if_neg (fun h => h0 h.1)]
    replace hL : Ev.Loc m S0 w0 m ((ab, arO (.slice A ns.length c) mb) :: (b4, .cells (toArr (ndC nd0)) 80 (0, 0)) :: (mb, mapW (ndW ns 0)) :: L1) w := hL
    conv => whnf
    repeat ((first | refine BrReq.yes (by omega) ?_ | refine zT ?_ | refine zF ?_ | refine zL hX hL ?_ | refine zB hX hL ?_ | (refine zS hX hL ?_; clear hL; intro w hL) | refine zI ?_ | refine zG hX ?_ | refine zO ?_); conv => whnf)
    exact RetReq.mk (hL.sublist (.cons_cons _ (.cons _ (List.Sublist.refl _)))) ⟨rfl, rfl, rfl⟩
def putN (ns : List Nd) (x : Nd) : List Nd × Nat × Int :=
  if rightN x ns.length = false then (ns, 0, 1) else if x ∈ ns then (ns, ns.idxOf x, 0) else if 20000 ≤ ns.length then (ns, 0, 4) else (ns ++ [x], ns.length, 0)
theorem val_inj {x y : Nd} (h : Value.agg (toArr (ndC x)) = Value.agg (toArr (ndC y))) : x = y := by
  injection h with h
  exact ndC_inj (by simpa [toArr] using congrArg Array.toList h)
theorem ndW_mem : ∀ {ns : List Nd} {i : Nat} {k v : Value}, (k, v) ∈ ndW ns i → ∃ (j : Nat) (x : Nd), ns[j]? = some x ∧ k = .agg (toArr (ndC x)) ∧ v = .int .i64 ((i + j : Nat) : Int)
  | [], i, k, v, h => by simp [ndW] at h
  | a :: l, i, k, v, h => by
    rcases List.mem_cons.1 h with h | h
    · cases h; exact ⟨0, a, rfl, rfl, rfl⟩
    · obtain ⟨j, x, h1, h2, h3⟩ := ndW_mem h
      exact ⟨j + 1, x, by simpa using h1, h2, by rw [h3]; congr 1; omega⟩
theorem ndW_of {x : Nd} : ∀ {ns : List Nd} {i : Nat}, x ∈ ns → ∃ y ∈ ndW ns i, y.1 = .agg (toArr (ndC x))
  | a :: l, i, h => by
    rcases List.mem_cons.1 h with rfl | h
    · exact ⟨_, List.mem_cons_self, rfl⟩
    · obtain ⟨y, hy, e⟩ := ndW_of (i := i + 1) h
      exact ⟨y, List.mem_cons_of_mem _ hy, e⟩
theorem ndW_snoc (x : Nd) : ∀ (ns : List Nd) (i : Nat), ndW (ns ++ [x]) i = ndW ns i ++ [(.agg (toArr (ndC x)), .int .i64 ((i + ns.length : Nat) : Int))]
  | [], i => rfl
  | a :: l, i => by simp only [List.cons_append, ndW, ndW_snoc x l (i + 1), List.length_cons]; rw [show i + 1 + l.length = i + (l.length + 1) by omega]
theorem okA_put {ns : List Nd} (h : OkA ns) {x : Nd} (hx : InN x) : OkA (putN ns x).1 := by
  unfold putN
  split
  · exact h
  rename_i h1
  split
  · exact h
  rename_i h2
  split
  · exact h
  rename_i h3
  refine ⟨fun y hy => ?_, ?_, fun i y hy => ?_, by simp; omega⟩
  · rcases List.mem_append.1 hy with hy | hy
    · exact h.inn y hy
    · rw [List.mem_singleton.1 hy]; exact hx
  · exact List.nodup_append.2 ⟨h.nodup, by simp, fun a ha b hb => by rw [List.mem_singleton.1 hb]; exact fun e => h2 (e ▸ ha)⟩
  · by_cases hi : i < ns.length
    · rw [List.getElem?_append_left hi] at hy; exact h.right i y hy
    · rw [List.getElem?_append_right (by omega)] at hy
      have : i - ns.length = 0 := by have := (List.getElem?_eq_some_iff.1 hy).1; simp at this; omega
      rw [this] at hy
      cases hy
      have : i = ns.length := by omega
      rw [this]; simpa using h1
set_option maxHeartbeats 2000000 in
theorem Put_fn (m : Mem) (ab : Nat) (ns : List Nd) (L : Own) (h : Ar ab ns L) (hO : OkA ns) (x : Nd) (hx : InN x) :
    Ev.Fn Tryz.prog 58 [.pointer (some ⟨ab, 0, none⟩), .agg (toArr (ndC x))] m L fun m' L' u => m' = m ∧ u = .tuple (toArr [.int .i64 ((putN ns x).2.1 : Nat), .int .i64 (putN ns x).2.2]) ∧ Ar ab (putN ns x).1 L' := by
  obtain ⟨A, c, mb, L1, rfl, ho⟩ := h
  have hlen := hO.len
  have hkeys := ndW_keys hO.inn 0
  refine Fn.enter (N := 55) hX Tryz.func58 rfl rfl (by show _ ≤ _; simp) (fun w0 hL => ?_)
  conv => whnf
  generalize keys ((ab, arO (.slice A ns.length c) mb) :: (mb, mapW (ndW ns 0)) :: L1) = S0 at hL ⊢
  refine NewReq.mk hL ?_
  clear hL
  intro b3 w hL
  conv => whnf
  replace hL : Ev.Loc m S0 w0 m ([(ab, arO (.slice A ns.length c) mb)] ++ ((b3, .cells (toArr (ndC x)) 80 (0, 0)) :: (mb, mapW (ndW ns 0)) :: L1)) w := hL.perm (List.Perm.swap _ _ _)
  conv => whnf
  repeat ((first | refine UGenReq.nilPtr hX rfl rfl rfl rfl rfl ?_ | refine zT ?_ | refine zF ?_ | refine zL hX hL ?_ | refine zB hX hL ?_ | (refine zS hX hL ?_; clear hL; intro w hL) | refine zI ?_ | refine zG hX ?_ | refine zO ?_); conv => whnf)
  refine CallReq.li (L1 := [(ab, arO (.slice A ns.length c) mb)]) (right_fn m ab mb ns.length c A x) hL ?_
  clear hL
  intro w hL
  replace hL : Ev.Loc m S0 w0 m ((ab, arO (.slice A ns.length c) mb) :: (b3, .cells (toArr (ndC x)) 80 (0, 0)) :: (mb, mapW (ndW ns 0)) :: L1) w := hL
  unfold putN
  cases hr : rightN x ns.length with
  | false =>
    rw [if_pos rfl]
    conv => whnf
    repeat ((first | refine zT ?_ | refine zF ?_ | refine zL hX hL ?_ | refine zB hX hL ?_ | (refine zS hX hL ?_; clear hL; intro w hL) | refine zI ?_ | refine zG hX ?_ | refine zO ?_); conv => whnf)
    exact RetReq.mk (hL.sublist (.cons_cons _ (.cons _ (List.Sublist.refl _)))) ⟨rfl, rfl, A, c, mb, L1, rfl, ho⟩
  | true =>
    rw [if_neg (by decide)]
    conv => whnf
    repeat ((first | refine zT ?_ | refine zF ?_ | refine zL hX hL ?_ | refine zB hX hL ?_ | (refine zS hX hL ?_; clear hL; intro w hL) | refine zI ?_ | refine zG hX ?_ | refine zO ?_); conv => whnf)
    have hsub : ∀ w, Ev.Loc m S0 w0 m ((ab, arO (.slice A ns.length c) mb) :: (b3, .cells (toArr (ndC x)) 80 (0, 0)) :: (mb, mapW (ndW ns 0)) :: L1) w → Ev.Loc m S0 w0 m [(ab, arO (.slice A ns.length c) mb), (b3, .cells (toArr (ndC x)) 80 (0, 0))] w := fun w h => h.sublist (.cons_cons _ (.cons_cons _ (List.nil_sublist _)))
    refine DrawReq.plan hX (.fst 0 (.fst 1 (.fst 2 (.fst 3 (.fst 4 (.alt 5 (.fst 6 (.fst 7 (.fst 8 (.fst 9 (.fst 10 (.done)))))) (.stop))))))) [(ab, arO (.slice A ns.length c) mb), (b3, .cells (toArr (ndC x)) 80 (0, 0))] (by kernel_rfl) (by kernel_rfl) hL (hsub _) ?_
    clear hL
    intro w hL
    conv => whnf
    repeat ((first | refine zQ hX ?_ | refine zR hX ?_ | refine zA ?_ | refine zT ?_ | refine zF ?_ | refine zL hX hL ?_ | refine zB hX hL ?_ | (refine zS hX hL ?_; clear hL; intro w hL) | refine zI ?_ | refine zG hX ?_ | refine zO ?_); conv => whnf)
    refine RunReq.lookW hX rfl rfl key_nd (z := .int .i64 0) (by kernel_rfl) hL (.t (.t .h)) (isK_nd x hx) hkeys (fun hno => ?_) (fun v hv => ?_)
    · have hnm : x ∉ ns := fun hm => by
        obtain ⟨y, hy, e⟩ := ndW_of (i := 0) hm
        exact hno y hy e
      rw [if_neg hnm]
      refine SReq.mk (hsub _ hL) ?_
      conv => whnf
      repeat ((first | refine zQ hX ?_ | refine zR hX ?_ | refine zA ?_ | refine zT ?_ | refine zF ?_ | refine zL hX hL ?_ | refine zB hX hL ?_ | (refine zS hX hL ?_; clear hL; intro w hL) | refine zI ?_ | refine zG hX ?_ | refine zO ?_); conv => whnf)
      refine BrReq.dec (fun hbig => ?_) (fun hbig => ?_)
      · rw [if_pos (by omega)]
        conv => whnf
        repeat ((first | refine zT ?_ | refine zF ?_ | refine zL hX hL ?_ | refine zB hX hL ?_ | (refine zS hX hL ?_; clear hL; intro w hL) | refine zI ?_ | refine zG hX ?_ | refine zO ?_); conv => whnf)
        exact RetReq.mk (hL.sublist (.cons_cons _ (.cons _ (List.Sublist.refl _)))) ⟨rfl, rfl, A, c, mb, L1, rfl, ho⟩
      rw [if_neg (by omega)]
      conv => whnf
      repeat ((first | refine zT ?_ | refine zF ?_ | refine zL hX hL ?_ | refine zB hX hL ?_ | (refine zS hX hL ?_; clear hL; intro w hL) | refine zI ?_ | refine zG hX ?_ | refine zO ?_); conv => whnf)
      have hb3 : ∀ w, Ev.Loc m S0 w0 m ((ab, arO (.slice A ns.length c) mb) :: (b3, .cells (toArr (ndC x)) 80 (0, 0)) :: (mb, mapW (ndW ns 0)) :: L1) w → Ev.Loc m S0 w0 m [(b3, .cells (toArr (ndC x)) 80 (0, 0))] w := fun w h => h.sublist (.cons _ (.cons_cons _ (List.nil_sublist _)))
      refine DrawReq.plan hX (.fst 0 (.fst 1 (.fst 2 (.fst 3 (.fst 5 (.alt 4 (.alt 6 (.alt 7 (.fst 8 (.fst 9 (.alt 10 (.done) (.stop)))) (.stop)) (.stop)) (.alt 6 (.alt 4 (.alt 7 (.fst 8 (.fst 9 (.alt 10 (.done) (.stop)))) (.stop)) (.stop)) (.stop)))))))) [(b3, .cells (toArr (ndC x)) 80 (0, 0))] (by kernel_rfl) (by kernel_rfl) hL (hb3 _) ?_
      clear hL
      intro w hL
      conv => whnf
      repeat ((first | refine zQ hX ?_ | refine zR hX ?_ | refine zA ?_ | refine zT ?_ | refine zF ?_ | refine zL hX hL ?_ | refine zB hX hL ?_ | (refine zS hX hL ?_; clear hL; intro w hL) | refine zI ?_ | refine zG hX ?_ | refine zO ?_); conv => whnf)
      refine alt2 ?_ ?_
      · conv => whnf
        repeat ((first | refine SReq.mk (hb3 _ hL) ?_ | refine zQ hX ?_ | refine zR hX ?_ | refine zA ?_ | refine zT ?_ | refine zF ?_ | refine zL hX hL ?_ | refine zB hX hL ?_ | (refine zS hX hL ?_; clear hL; intro w hL) | refine zI ?_ | refine zG hX ?_ | refine zO ?_); conv => whnf)
        refine NewReq.mk hL ?_
        clear hL
        intro g w hL
        conv => whnf
        replace hL : Ev.Loc m S0 w0 m ((g, .cells (toArr (ndC x)) 80 (0, 0)) :: (ab, arO (.slice A ns.length c) mb) :: (b3, .cells (toArr (ndC x)) 80 (0, 0)) :: (mb, mapW (ndW ns 0)) :: L1) w := hL
        refine SReq.mk (hb3 _ hL.drop) ?_
        conv => whnf
        repeat ((first | refine zQ hX ?_ | refine zR hX ?_ | refine zA ?_ | refine zT ?_ | refine zF ?_ | refine zL hX hL ?_ | refine zB hX hL ?_ | (refine zS hX hL ?_; clear hL; intro w hL) | refine zI ?_ | refine zG hX ?_ | refine zO ?_); conv => whnf)
        refine RunReq.push hX 62 80 rfl rfl rfl rfl rfl ho (L2 := [_, _, _]) (hL.perm (List.Perm.cons _ (List.perm_append_comm (l₁ := [_, _, _]) (l₂ := L1)))) rfl rfl (by rw [nds_len]; show _ + 8 ≤ _; omega) rfl ?_
        clear hL hsub hb3
        intro A2 n2 c2 L2 w hn2 ho2 hL
        have hb3 : ∀ w v, Ev.Loc m S0 w0 m ((ab, arO v mb) :: (b3, .cells (toArr (ndC x)) 80 (0, 0)) :: (mb, mapW (ndW ns 0)) :: L2) w → Ev.Loc m S0 w0 m [(b3, .cells (toArr (ndC x)) 80 (0, 0))] w := fun w v h => h.sublist (.cons _ (.cons_cons _ (List.nil_sublist _)))
        have hL := hL.back
        replace hL : Ev.Loc m S0 w0 m ((ab, arO (.slice A ns.length c) mb) :: (b3, .cells (toArr (ndC x)) 80 (0, 0)) :: (mb, mapW (ndW ns 0)) :: L2) w := hL
        rw [show ndsC ns ++ ndC x = ndsC (ns ++ [x]) by unfold ndsC; simp] at hn2 ho2
        have hn3 : n2 = (ns ++ [x]).length := by
          rw [nds_len] at hn2
          exact (Nat.eq_of_mul_eq_mul_right (show 0 < 8 by omega) hn2).symm
        subst hn3
        refine SReq.mk (hb3 _ _ hL) ?_
        conv => whnf
        repeat ((first | refine zQ hX ?_ | refine zR hX ?_ | refine zA ?_ | refine zT ?_ | refine zF ?_ | refine zL hX hL ?_ | refine zB hX hL ?_ | (refine zS hX hL ?_; clear hL; intro w hL) | refine zI ?_ | refine zG hX ?_ | refine zO ?_); conv => whnf)
        replace hL : Ev.Loc m S0 w0 m ((ab, arO (.slice A2 (ns ++ [x]).length c2) mb) :: (b3, .cells (toArr (ndC x)) 80 (0, 0)) :: (mb, mapW (ndW ns 0)) :: L2) w := hL
        refine SReq.mk (hb3 _ _ hL) ?_
        conv => whnf
        repeat ((first | refine zQ hX ?_ | refine zR hX ?_ | refine zA ?_ | refine zT ?_ | refine zF ?_ | refine zL hX hL ?_ | refine zB hX hL ?_ | (refine zS hX hL ?_; clear hL; intro w hL) | refine zI ?_ | refine zG hX ?_ | refine zO ?_); conv => whnf)
        have hsub : ∀ w, Ev.Loc m S0 w0 m ((ab, arO (.slice A2 (ns ++ [x]).length c2) mb) :: (b3, .cells (toArr (ndC x)) 80 (0, 0)) :: (mb, mapW (ndW ns 0)) :: L2) w → Ev.Loc m S0 w0 m [(ab, arO (.slice A2 (ns ++ [x]).length c2) mb), (b3, .cells (toArr (ndC x)) 80 (0, 0))] w := fun w h => h.sublist (.cons_cons _ (.cons_cons _ (List.nil_sublist _)))
        refine DrawReq.plan hX (.fst 0 (.fst 1 (.fst 2 (.fst 3 (.fst 4 (.fst 5 (.alt 6 (.done) (.stop)))))))) [(ab, arO (.slice A2 (ns ++ [x]).length c2) mb), (b3, .cells (toArr (ndC x)) 80 (0, 0))] (by kernel_rfl) (by kernel_rfl) hL (hsub _) ?_
        clear hL
        intro w hL
        conv => whnf
        repeat ((first | refine zQ hX ?_ | refine zR hX ?_ | refine zA ?_ | refine zT ?_ | refine zF ?_ | refine zL hX hL ?_ | refine zB hX hL ?_ | (refine zS hX hL ?_; clear hL; intro w hL) | refine zI ?_ | refine zG hX ?_ | refine zO ?_); conv => whnf)
        refine RunUReq.updW hX rfl rfl key_nd (k := .agg (toArr (ndC x))) (v := .int .i64 ns.length) 2 hL rfl (isK_nd x hx) hkeys (fun _ w hL => ?_) (fun q u hq => ?_)
        rotate_left
        · refine absurd ?_ hnm
          obtain ⟨j, y, hj, e1, -⟩ := ndW_mem (List.mem_of_getElem? hq)
          obtain rfl := val_inj e1
          exact List.mem_of_getElem? hj
        replace hL : Ev.Loc m S0 w0 m ((ab, arO (.slice A2 (ns ++ [x]).length c2) mb) :: (b3, .cells (toArr (ndC x)) 80 (0, 0)) :: (mb, mapW (ndW ns 0 ++ [(.agg (toArr (ndC x)), .int .i64 ns.length)])) :: L2) w := hL
        refine SReq.mk (hL.sublist (.cons_cons _ (.cons_cons _ (List.nil_sublist _)))) ?_
        conv => whnf
        repeat ((first | refine zQ hX ?_ | refine zR hX ?_ | refine zA ?_ | refine zT ?_ | refine zF ?_ | refine zL hX hL ?_ | refine zB hX hL ?_ | (refine zS hX hL ?_; clear hL; intro w hL) | refine zI ?_ | refine zG hX ?_ | refine zO ?_); conv => whnf)
        refine RetReq.mk (hL.sublist (.cons_cons _ (.cons _ (List.Sublist.refl _)))) ⟨rfl, rfl, A2, c2, mb, L2, ?_, ho2⟩
        rw [ndW_snoc, Nat.zero_add]
      · conv => whnf
        repeat ((first | refine zQ hX ?_ | refine zR hX ?_ | refine zA ?_ | refine zT ?_ | refine zF ?_ | refine zL hX hL ?_ | refine zB hX hL ?_ | (refine zS hX hL ?_; clear hL; intro w hL) | refine zI ?_ | refine zG hX ?_ | refine zO ?_); conv => whnf)
        refine NewReq.mk hL ?_
        clear hL
        intro g w hL
        conv => whnf
        replace hL : Ev.Loc m S0 w0 m ((g, .cells (toArr (ndC x)) 80 (0, 0)) :: (ab, arO (.slice A ns.length c) mb) :: (b3, .cells (toArr (ndC x)) 80 (0, 0)) :: (mb, mapW (ndW ns 0)) :: L1) w := hL
        refine SReq.mk (hb3 _ hL.drop) ?_
        conv => whnf
        repeat ((first | refine zQ hX ?_ | refine zR hX ?_ | refine zA ?_ | refine zT ?_ | refine zF ?_ | refine zL hX hL ?_ | refine zB hX hL ?_ | (refine zS hX hL ?_; clear hL; intro w hL) | refine zI ?_ | refine zG hX ?_ | refine zO ?_); conv => whnf)
        conv => whnf
        repeat ((first | refine SReq.mk (hb3 _ hL.drop) ?_ | refine zQ hX ?_ | refine zR hX ?_ | refine zA ?_ | refine zT ?_ | refine zF ?_ | refine zL hX hL ?_ | refine zB hX hL ?_ | (refine zS hX hL ?_; clear hL; intro w hL) | refine zI ?_ | refine zG hX ?_ | refine zO ?_); conv => whnf)
        refine RunReq.push hX 62 80 rfl rfl rfl rfl rfl ho (L2 := [_, _, _]) (hL.perm (List.Perm.cons _ (List.perm_append_comm (l₁ := [_, _, _]) (l₂ := L1)))) rfl rfl (by rw [nds_len]; show _ + 8 ≤ _; omega) rfl ?_
        clear hL hsub hb3
        intro A2 n2 c2 L2 w hn2 ho2 hL
        have hb3 : ∀ w v, Ev.Loc m S0 w0 m ((ab, arO v mb) :: (b3, .cells (toArr (ndC x)) 80 (0, 0)) :: (mb, mapW (ndW ns 0)) :: L2) w → Ev.Loc m S0 w0 m [(b3, .cells (toArr (ndC x)) 80 (0, 0))] w := fun w v h => h.sublist (.cons _ (.cons_cons _ (List.nil_sublist _)))
        have hL := hL.back
        replace hL : Ev.Loc m S0 w0 m ((ab, arO (.slice A ns.length c) mb) :: (b3, .cells (toArr (ndC x)) 80 (0, 0)) :: (mb, mapW (ndW ns 0)) :: L2) w := hL
        rw [show ndsC ns ++ ndC x = ndsC (ns ++ [x]) by unfold ndsC; simp] at hn2 ho2
        have hn3 : n2 = (ns ++ [x]).length := by
          rw [nds_len] at hn2
          exact (Nat.eq_of_mul_eq_mul_right (show 0 < 8 by omega) hn2).symm
        subst hn3
        refine SReq.mk (hb3 _ _ hL) ?_
        conv => whnf
        repeat ((first | refine zQ hX ?_ | refine zR hX ?_ | refine zA ?_ | refine zT ?_ | refine zF ?_ | refine zL hX hL ?_ | refine zB hX hL ?_ | (refine zS hX hL ?_; clear hL; intro w hL) | refine zI ?_ | refine zG hX ?_ | refine zO ?_); conv => whnf)
        replace hL : Ev.Loc m S0 w0 m ((ab, arO (.slice A2 (ns ++ [x]).length c2) mb) :: (b3, .cells (toArr (ndC x)) 80 (0, 0)) :: (mb, mapW (ndW ns 0)) :: L2) w := hL
        refine SReq.mk (hb3 _ _ hL) ?_
        conv => whnf
        repeat ((first | refine zQ hX ?_ | refine zR hX ?_ | refine zA ?_ | refine zT ?_ | refine zF ?_ | refine zL hX hL ?_ | refine zB hX hL ?_ | (refine zS hX hL ?_; clear hL; intro w hL) | refine zI ?_ | refine zG hX ?_ | refine zO ?_); conv => whnf)
        have hsub : ∀ w, Ev.Loc m S0 w0 m ((ab, arO (.slice A2 (ns ++ [x]).length c2) mb) :: (b3, .cells (toArr (ndC x)) 80 (0, 0)) :: (mb, mapW (ndW ns 0)) :: L2) w → Ev.Loc m S0 w0 m [(ab, arO (.slice A2 (ns ++ [x]).length c2) mb), (b3, .cells (toArr (ndC x)) 80 (0, 0))] w := fun w h => h.sublist (.cons_cons _ (.cons_cons _ (List.nil_sublist _)))
        refine DrawReq.plan hX (.fst 0 (.fst 1 (.fst 2 (.fst 3 (.fst 4 (.fst 5 (.alt 6 (.done) (.stop)))))))) [(ab, arO (.slice A2 (ns ++ [x]).length c2) mb), (b3, .cells (toArr (ndC x)) 80 (0, 0))] (by kernel_rfl) (by kernel_rfl) hL (hsub _) ?_
        clear hL
        intro w hL
        conv => whnf
        repeat ((first | refine zQ hX ?_ | refine zR hX ?_ | refine zA ?_ | refine zT ?_ | refine zF ?_ | refine zL hX hL ?_ | refine zB hX hL ?_ | (refine zS hX hL ?_; clear hL; intro w hL) | refine zI ?_ | refine zG hX ?_ | refine zO ?_); conv => whnf)
        refine RunUReq.updW hX rfl rfl key_nd (k := .agg (toArr (ndC x))) (v := .int .i64 ns.length) 2 hL rfl (isK_nd x hx) hkeys (fun _ w hL => ?_) (fun q u hq => ?_)
        rotate_left
        · refine absurd ?_ hnm
          obtain ⟨j, y, hj, e1, -⟩ := ndW_mem (List.mem_of_getElem? hq)
          obtain rfl := val_inj e1
          exact List.mem_of_getElem? hj
        replace hL : Ev.Loc m S0 w0 m ((ab, arO (.slice A2 (ns ++ [x]).length c2) mb) :: (b3, .cells (toArr (ndC x)) 80 (0, 0)) :: (mb, mapW (ndW ns 0 ++ [(.agg (toArr (ndC x)), .int .i64 ns.length)])) :: L2) w := hL
        refine SReq.mk (hL.sublist (.cons_cons _ (.cons_cons _ (List.nil_sublist _)))) ?_
        conv => whnf
        repeat ((first | refine zQ hX ?_ | refine zR hX ?_ | refine zA ?_ | refine zT ?_ | refine zF ?_ | refine zL hX hL ?_ | refine zB hX hL ?_ | (refine zS hX hL ?_; clear hL; intro w hL) | refine zI ?_ | refine zG hX ?_ | refine zO ?_); conv => whnf)
        refine RetReq.mk (hL.sublist (.cons_cons _ (.cons _ (List.Sublist.refl _)))) ⟨rfl, rfl, A2, c2, mb, L2, ?_, ho2⟩
        rw [ndW_snoc, Nat.zero_add]
    · obtain ⟨j, y, hj, e1, e2⟩ := ndW_mem hv
      rw [Nat.zero_add] at e2
      subst e2
      obtain rfl := val_inj e1
      have hjl := (List.getElem?_eq_some_iff.1 hj).1
      have hm : x ∈ ns := List.mem_of_getElem? hj
      have hix : ns.idxOf x = j := by
        have := hO.nodup.idxOf_getElem j hjl
        rwa [(List.getElem?_eq_some_iff.1 hj).2] at this
      rw [if_pos hm, hix]
      refine SReq.mk (hsub _ hL) ?_
      conv => whnf
      repeat ((first | refine zQ hX ?_ | refine zR hX ?_ | refine zA ?_ | refine zT ?_ | refine zF ?_ | refine zL hX hL ?_ | refine zB hX hL ?_ | (refine zS hX hL ?_; clear hL; intro w hL) | refine zI ?_ | refine zG hX ?_ | refine zO ?_); conv => whnf)
      exact RetReq.mk (hL.sublist (.cons_cons _ (.cons _ (List.Sublist.refl _)))) ⟨rfl, rfl, A, c, mb, L1, rfl, ho⟩
end Go.Proofs.YtiololnblplloaaGreat.ar
namespace Go.Proofs.YtiololnblplloaaGreat.ar
open Go Go.Ev Go.Proofs
theorem okA_nil : OkA [] := ⟨by simp, by simp, by simp, by simp⟩
theorem New_fn (m : Mem) : Ev.Fn Tryz.prog 17 [] m [] fun m' L' u => m' = m ∧ ∃ ab, u = .pointer (some ⟨ab, 0, none⟩) ∧ Ar ab [] L' := by
  refine Fn.enter (N := 4) hX Tryz.func17 rfl rfl (by show _ ≤ _; simp) (fun w0 hL => ?_)
  conv => whnf
  conv => whnf
  repeat ((first | refine zT ?_ | refine zF ?_ | refine zL hX hL ?_ | refine zB hX hL ?_ | (refine zS hX hL ?_; clear hL; intro w hL) | refine zI ?_ | refine zG hX ?_ | refine zO ?_); conv => whnf)
  refine RunReq.makeMapW hL ?_
  clear hL
  intro mb w hL
  conv => whnf
  repeat ((first | refine zT ?_ | refine zF ?_ | refine zL hX hL ?_ | refine zB hX hL ?_ | (refine zS hX hL ?_; clear hL; intro w hL) | refine zI ?_ | refine zG hX ?_ | refine zO ?_); conv => whnf)
  refine NewReq.mk hL ?_
  clear hL
  intro ab w hL
  conv => whnf
  replace hL : Ev.Loc m [] w0 m ((ab, arO (.slice none 0 0) mb) :: (mb, mapW (ndW [] 0)) :: []) w := hL
  exact RetReq.mk hL ⟨rfl, ab, rfl, none, 0, mb, [], rfl, OwnS.nil _ _⟩
end Go.Proofs.YtiololnblplloaaGreat.ar
namespace Go.Proofs.YtiololnblplloaaGreat.ar
open Go Go.Ev Go.Proofs
def putI (ns : List Nd) (x : Nd) : Int := if (putN ns x).2.2 = 0 then ((putN ns x).2.1 : Nat) else -1
def PutQ (ab : Nat) (ns : List Nd) (i : Int) (m : Mem) : Mem → Own → Value → Prop := fun m' L' u => m' = m ∧ u = .int .i64 i ∧ Ar ab ns L'
theorem put_fn (m : Mem) (ab : Nat) (ns : List Nd) (L : Own) (hA : Ar ab ns L) (hO : OkA ns) (x : Nd) (hx : InN x) :
    Ev.Fn Tryz.prog 115 [.pointer (some ⟨ab, 0, none⟩), .agg (toArr (ndC x))] m L (PutQ ab (putN ns x).1 (putI ns x) m) := by
  refine Fn.enter (N := 16) hX Tryz.func115 rfl rfl (by show _ ≤ _; simp) (fun w0 hL => ?_)
  conv => whnf
  generalize keys L = S0 at hL ⊢
  refine NewReq.mk hL ?_
  clear hL
  intro b3 w hL
  conv => whnf
  conv => whnf
  repeat ((first | refine zT ?_ | refine zF ?_ | refine zL hX hL ?_ | refine zB hX hL ?_ | (refine zS hX hL ?_; clear hL; intro w hL) | refine zI ?_ | refine zG hX ?_ | refine zO ?_); conv => whnf)
  refine CallReq.mk (L1 := L) (L2 := [_]) (Put_fn m ab ns L hA hO x hx) (hL.back (L1 := [_])) ?_
  clear hL
  rintro u m2 L2 w hL - ⟨rfl, rfl, hA2⟩
  unfold putI
  generalize putN ns x = r at hA2 ⊢
  have hL := hL.back (L2 := [_])
  by_cases he : r.2.2 = 0
  · rw [if_pos he]
    conv => whnf
    repeat ((first | refine BrReq.no (fun h => h he) ?_ | refine zT ?_ | refine zF ?_ | refine zL hX hL ?_ | refine zB hX hL ?_ | (refine zS hX hL ?_; clear hL; intro w hL) | refine zI ?_ | refine zG hX ?_ | refine zO ?_); conv => whnf)
    exact RetReq.mk hL.drop ⟨rfl, rfl, hA2⟩
  · rw [if_neg he]
    conv => whnf
    repeat ((first | refine BrReq.yes he ?_ | refine zT ?_ | refine zF ?_ | refine zL hX hL ?_ | refine zB hX hL ?_ | (refine zS hX hL ?_; clear hL; intro w hL) | refine zI ?_ | refine zG hX ?_ | refine zO ?_); conv => whnf)
    exact RetReq.mk hL.drop ⟨rfl, rfl, hA2⟩
def ndK (k : Int) : Nd := ⟨k, 0, 0, 0, 0, 0, 0, false⟩
theorem inN_k {k : Int} (h : 0 ≤ k ∧ k ≤ 8) : InN (ndK k) := ⟨by unfold i64 ndK; simp only; omega, by simp [u64, ndK], by simp [u64, ndK], by simp [u64, ndK], by simp [u64, ndK], by simp [i64, ndK], by simp [i64, ndK]⟩
theorem inN_a {k a : Int} (h : 0 ≤ k ∧ k ≤ 8) (ha : i64 a) : InN ⟨k, 0, 0, 0, 0, a, 0, false⟩ := ⟨by unfold i64; simp only; omega, by simp [u64], by simp [u64], by simp [u64], by simp [u64], ha, by simp [i64]⟩
theorem None_fn (m : Mem) (ab : Nat) (ns : List Nd) (L : Own) (hA : Ar ab ns L) (hO : OkA ns) :
    Ev.Fn Tryz.prog 76 [.pointer (some ⟨ab, 0, none⟩)] m L (PutQ ab (putN ns (ndK 0)).1 (putI ns (ndK 0)) m) := by
  refine Fn.enter (N := 6) hX Tryz.func76 rfl rfl (by show _ ≤ _; simp) (fun w0 hL => ?_)
  conv => whnf
  generalize keys L = S0 at hL ⊢
  conv => whnf
  repeat ((first | refine zT ?_ | refine zF ?_ | refine zL hX hL ?_ | refine zB hX hL ?_ | (refine zS hX hL ?_; clear hL; intro w hL) | refine zI ?_ | refine zG hX ?_ | refine zO ?_); conv => whnf)
  refine CallReq.mk (L1 := L) (L2 := []) (put_fn m ab ns L hA hO (ndK 0) (inN_k (by omega))) (by rw [List.append_nil]; exact hL) ?_
  clear hL
  rintro u m2 L2 w hL - ⟨rfl, rfl, hA2⟩
  rw [List.append_nil] at hL
  conv => whnf
  repeat ((first | refine zT ?_ | refine zF ?_ | refine zL hX hL ?_ | refine zB hX hL ?_ | (refine zS hX hL ?_; clear hL; intro w hL) | refine zI ?_ | refine zG hX ?_ | refine zO ?_); conv => whnf)
  exact RetReq.mk hL ⟨rfl, rfl, hA2⟩
theorem Empty_fn (m : Mem) (ab : Nat) (ns : List Nd) (L : Own) (hA : Ar ab ns L) (hO : OkA ns) :
    Ev.Fn Tryz.prog 77 [.pointer (some ⟨ab, 0, none⟩)] m L (PutQ ab (putN ns (ndK 1)).1 (putI ns (ndK 1)) m) := by
  refine Fn.enter (N := 6) hX Tryz.func77 rfl rfl (by show _ ≤ _; simp) (fun w0 hL => ?_)
  conv => whnf
  generalize keys L = S0 at hL ⊢
  conv => whnf
  repeat ((first | refine zT ?_ | refine zF ?_ | refine zL hX hL ?_ | refine zB hX hL ?_ | (refine zS hX hL ?_; clear hL; intro w hL) | refine zI ?_ | refine zG hX ?_ | refine zO ?_); conv => whnf)
  refine CallReq.mk (L1 := L) (L2 := []) (put_fn m ab ns L hA hO (ndK 1) (inN_k (by omega))) (by rw [List.append_nil]; exact hL) ?_
  clear hL
  rintro u m2 L2 w hL - ⟨rfl, rfl, hA2⟩
  rw [List.append_nil] at hL
  conv => whnf
  repeat ((first | refine zT ?_ | refine zF ?_ | refine zL hX hL ?_ | refine zB hX hL ?_ | (refine zS hX hL ?_; clear hL; intro w hL) | refine zI ?_ | refine zG hX ?_ | refine zO ?_); conv => whnf)
  exact RetReq.mk hL ⟨rfl, rfl, hA2⟩
def allX (ns : List Nd) : Nd := ⟨6, 0, 0, 0, 0, putI ns (ndK 0), 0, false⟩
theorem putN_le (ns : List Nd) (x : Nd) (h : ns.length ≤ 20000) : (putN ns x).2.1 ≤ 20000 := by
  unfold putN
  split
  · simp
  split
  · have := List.idxOf_le_length (a := x) (l := ns); simp only; omega
  split
  · simp
  · simp only; omega
theorem putI_i64 (ns : List Nd) (x : Nd) (h : ns.length ≤ 20000) : i64 (putI ns x) := by
  have := putN_le ns x h
  unfold putI i64
  split <;> omega
theorem All_fn (m : Mem) (ab : Nat) (ns : List Nd) (L : Own) (hA : Ar ab ns L) (hO : OkA ns) :
    Ev.Fn Tryz.prog 117 [.pointer (some ⟨ab, 0, none⟩)] m L (PutQ ab (putN (putN ns (ndK 0)).1 (allX ns)).1 (putI (putN ns (ndK 0)).1 (allX ns)) m) := by
  refine Fn.enter (N := 8) hX Tryz.func117 rfl rfl (by show _ ≤ _; simp) (fun w0 hL => ?_)
  conv => whnf
  generalize keys L = S0 at hL ⊢
  conv => whnf
  repeat ((first | refine zT ?_ | refine zF ?_ | refine zL hX hL ?_ | refine zB hX hL ?_ | (refine zS hX hL ?_; clear hL; intro w hL) | refine zI ?_ | refine zG hX ?_ | refine zO ?_); conv => whnf)
  refine CallReq.mk (L1 := L) (L2 := []) (None_fn m ab ns L hA hO) (by rw [List.append_nil]; exact hL) ?_
  clear hL
  rintro u m2 L2 w hL - ⟨rfl, rfl, hA2⟩
  rw [List.append_nil] at hL
  conv => whnf
  repeat ((first | refine zT ?_ | refine zF ?_ | refine zL hX hL ?_ | refine zB hX hL ?_ | (refine zS hX hL ?_; clear hL; intro w hL) | refine zI ?_ | refine zG hX ?_ | refine zO ?_); conv => whnf)
  refine CallReq.mk (L1 := L2) (L2 := []) (put_fn m2 ab _ L2 hA2 (okA_put hO (inN_k (by omega))) (allX ns) (inN_a (by omega) (putI_i64 ns _ hO.len))) (by rw [List.append_nil]; exact hL) ?_
  clear hL
  rintro u m3 L3 w hL - ⟨rfl, rfl, hA3⟩
  rw [List.append_nil] at hL
  conv => whnf
  repeat ((first | refine zT ?_ | refine zF ?_ | refine zL hX hL ?_ | refine zB hX hL ?_ | (refine zS hX hL ?_; clear hL; intro w hL) | refine zI ?_ | refine zG hX ?_ | refine zO ?_); conv => whnf)
  exact RetReq.mk hL ⟨rfl, rfl, hA3⟩
end Go.Proofs.YtiololnblplloaaGreat.ar
namespace Go.Proofs.YtiololnblplloaaGreat.ar
open Go Go.Ev Go.Proofs
open Go.Maps (Keyed)
def nulV (bits : Nat) (x : Nd) (f : Nat → Bool) : Bool :=
  if x.k = 1 ∨ x.k = 7 then true else if x.k = 3 ∨ x.k = 5 then f x.a.toNat && f x.b.toNat else if x.k = 4 then f x.a.toNat || f x.b.toNat else if x.k = 6 then !f x.a.toNat
  else if x.k = 8 then decide (bits / 2 ^ x.a.toNat % 2 = 1) != x.neg else false
def nulF (bits : Nat) (ns : List Nd) : Nat → Nat → Bool
  | 0, _ => false
  | k + 1, i => match ns[i]? with | none => false | some x => nulV bits x (nulF bits ns k)
def nulN (bits : Nat) (ns : List Nd) (i : Nat) : Bool := nulF bits ns (i + 1) i
theorem right_lt {x : Nd} {n : Nat} (h : rightN x n = true) : (x.k = 3 ∨ x.k = 4 ∨ x.k = 5 → (0 ≤ x.a ∧ x.a < n) ∧ (0 ≤ x.b ∧ x.b < n)) ∧ (x.k = 6 ∨ x.k = 7 → 0 ≤ x.a ∧ x.a < n) ∧ (x.k = 8 → 0 ≤ x.a ∧ x.a < 4) ∧ 0 ≤ x.k ∧ x.k ≤ 8 := by
  unfold rightN at h
  split at h
  · omega
  split at h
  · omega
  split at h
  · simp only [Bool.and_eq_true, decide_eq_true_eq] at h; omega
  split at h
  · simp only [Bool.and_eq_true, decide_eq_true_eq] at h; omega
  split at h
  · simp only [Bool.and_eq_true, decide_eq_true_eq] at h; omega
  · cases h
theorem nulV_ext {bits : Nat} {x : Nd} {n : Nat} (h : rightN x n = true) {f g : Nat → Bool} (e : ∀ j, j < n → f j = g j) : nulV bits x f = nulV bits x g := by
  obtain ⟨h1, h2, h3, h4⟩ := right_lt h
  unfold nulV
  split
  · rfl
  split
  · rw [e _ (by omega), e _ (by omega)]
  split
  · rw [e _ (by omega), e _ (by omega)]
  split
  · rw [e _ (by omega)]
  · rfl
theorem nulF_eq (bits : Nat) {ns : List Nd} (hO : ∀ (i : Nat) (x : Nd), ns[i]? = some x → rightN x i = true) : ∀ (k k' i : Nat), i < k → i < k' → nulF bits ns k i = nulF bits ns k' i := by
  intro k
  induction k with
  | zero => intro k' i h; omega
  | succ k ih =>
    intro k' i h h'
    cases k' with
    | zero => omega
    | succ k' =>
      simp only [nulF]
      cases hx : ns[i]? with
      | none => rfl
      | some x => exact nulV_ext (hO i x hx) fun j hj => ih k' j (by omega) (by omega)
theorem nulN_eq (bits : Nat) {ns : List Nd} (hO : ∀ (i : Nat) (x : Nd), ns[i]? = some x → rightN x i = true) {i : Nat} {x : Nd} (hx : ns[i]? = some x) : nulN bits ns i = nulV bits x (nulN bits ns) := by
  unfold nulN
  rw [nulF, hx]
  exact nulV_ext (hO i x hx) fun j hj => nulF_eq bits hO i (j + 1) j hj (by omega)
theorem there2_fn (m : Mem) (ab : Nat) (ns : List Nd) (L : Own) (h : Ar ab ns L) (v : Value) (l : List Int) (hl : SlI m .i64 v l) :
    FnL Tryz.prog 98 [.pointer (some ⟨ab, 0, none⟩), v] m L (.bool (l.all fun id => decide (0 ≤ id ∧ id < ns.length))) := by
  have hl2 := hl
  obtain ⟨A, n, c, rfl, hn, hc, hm, -⟩ := hl
  have hmx : maxLen = 9223372036854775807 := rfl
  have hcell := hl2.cell.2
  refine Fn.enter (N := 26) hX Tryz.func98 rfl rfl (by show _ ≤ _; simp) (fun w0 hL => ?_)
  conv => whnf
  generalize keys L = S0 at hL ⊢
  conv => whnf
  repeat ((first | refine zT ?_ | refine zF ?_ | refine zL hX hL ?_ | refine zB hX hL ?_ | (refine zS hX hL ?_; clear hL; intro w hL) | refine zI ?_ | refine zG hX ?_ | refine zO ?_); conv => whnf)
  refine LoopReq.inv hX (fun j : Nat => [(11, .int .i64 j)]) [0, 9, 10]
    (fun j w => (j ≤ n ∧ ∀ i (z : Int), i < j → l[i]? = some z → 0 ≤ z ∧ z < ns.length) ∧ Ev.Loc m S0 w0 m L w) (fun j => n - j) 0
    ⟨⟨by omega, fun i z hi => absurd hi (by omega)⟩, hL⟩ ⟨rfl, trivial⟩ ?_
  clear hL
  rintro j w f ⟨⟨hj, hdone⟩, hL⟩
  conv => whnf
  repeat ((first | refine zT ?_ | refine zF ?_ | refine zL hX hL ?_ | refine zB hX hL ?_ | (refine zS hX hL ?_; clear hL; intro w hL) | refine zI ?_ | refine zG hX ?_ | refine zO ?_); conv => whnf)
  refine BrReq.dec (fun hlt => ?_) (fun hlt => ?_)
  · have hlt' : j < l.length := by omega
    obtain ⟨a, ea, hc⟩ := hcell j _ (List.getElem?_eq_getElem hlt')
    conv => whnf
    repeat ((first | refine Idx2Req.mk j a rfl (by omega) ea ?_ | refine LdReq.one hX rfl rfl hL hc ?_ | refine zT ?_ | refine zF ?_ | refine zL hX hL ?_ | refine zB hX hL ?_ | (refine zS hX hL ?_; clear hL; intro w hL) | refine zI ?_ | refine zG hX ?_ | refine zO ?_); conv => whnf)
    have hnode := Node_fn m ab ns L h l[j]
    have e2 : (nodeN ns l[j]).2 = decide (0 ≤ l[j] ∧ l[j] < ns.length) := by unfold nodeN; split <;> rename_i hh <;> simp [hh]
    rw [e2] at hnode
    generalize (nodeN ns l[j]).1 = nx at hnode
    refine CallReq.lo hnode hL ?_
    clear hL
    intro w hL
    conv => whnf
    repeat ((first | refine zT ?_ | refine zF ?_ | refine zL hX hL ?_ | refine zB hX hL ?_ | (refine zS hX hL ?_; clear hL; intro w hL) | refine zI ?_ | refine zG hX ?_ | refine zO ?_); conv => whnf)
    refine NewReq.mk hL ?_
    clear hL
    intro b7 w hL
    conv => whnf
    by_cases hz : 0 ≤ l[j] ∧ l[j] < ns.length
    · rw [decide_eq_true hz]
      have hd2 : ∀ i (z : Int), i < j + 1 → l[i]? = some z → 0 ≤ z ∧ z < ns.length := fun i z hi hx => by
        by_cases h1 : i = j
        · subst h1; rw [List.getElem?_eq_getElem hlt'] at hx; cases hx; exact hz
        · exact hdone i z (by omega) hx
      conv => whnf
      repeat ((first | refine zT ?_ | refine zF ?_ | refine zL hX hL ?_ | refine zB hX hL ?_ | (refine zS hX hL ?_; clear hL; intro w hL) | refine zI ?_ | refine zG hX ?_ | refine zO ?_); conv => whnf)
      refine ⟨j + 1, ⟨⟨by omega, hd2⟩, hL.drop⟩, by first | omega | (simp only; omega) | (simp only [List.length_cons, List.length_append]; omega), ?_, ?_⟩
      · repeat (first | exact trivial | (refine And.intro (by (conv => lhs; whnf) <;> (conv => rhs; whnf) <;> (first | rfl)) ?_))
      · repeat (first | exact trivial | (refine And.intro (by (conv => lhs; whnf) <;> (conv => rhs; whnf) <;> (first | rfl)) ?_))
    · rw [decide_eq_false hz]
      conv => whnf
      repeat ((first | refine zT ?_ | refine zF ?_ | refine zL hX hL ?_ | refine zB hX hL ?_ | (refine zS hX hL ?_; clear hL; intro w hL) | refine zI ?_ | refine zG hX ?_ | refine zO ?_); conv => whnf)
      refine RetReq.mk hL.drop ⟨rfl, rfl, congrArg Value.bool (Eq.symm ?_)⟩
      rw [Bool.eq_false_iff]
      intro hh
      rw [List.all_eq_true] at hh
      exact hz (of_decide_eq_true (hh _ (List.getElem_mem hlt')))
  · conv => whnf
    repeat ((first | refine UGenReq.nilPtrNe hX rfl rfl rfl rfl rfl ?_ | refine zT ?_ | refine zF ?_ | refine zL hX hL ?_ | refine zB hX hL ?_ | (refine zS hX hL ?_; clear hL; intro w hL) | refine zI ?_ | refine zG hX ?_ | refine zO ?_); conv => whnf)
    refine RetReq.mk hL ⟨rfl, rfl, congrArg Value.bool (Eq.symm ?_)⟩
    show _ = true
    rw [List.all_eq_true]
    intro z hz
    obtain ⟨i, hi, rfl⟩ := List.getElem_of_mem hz
    exact decide_eq_true (hdone i _ (by omega) (List.getElem?_eq_getElem hi))
def isM (bits : Nat) (ns : List Nd) (y : Value × Value) : Prop := ∃ i : Nat, i < ns.length ∧ y = (.int .i64 i, .bool (nulN bits ns i))
def teO (ab kb bits : Nat) : List Value := [.pointer (some ⟨ab, 0, none⟩), .int .u8 bits, .map (some kb)]
theorem i64_nat {n : Nat} (h : n ≤ 20000) : i64 (n : Int) := by unfold i64; omega
theorem isM_keys {bits : Nat} {ns : List Nd} (hn : ns.length ≤ 20000) {ml : List (Value × Value)} (h : ∀ y ∈ ml, isM bits ns y) : ∀ y ∈ ml, IsK Tryz.prog 3 y.1 := by
  intro y hy
  obtain ⟨i, hi, rfl⟩ := h y hy
  exact isK_int _ (i64_nat (by omega))
theorem isM_app {bits : Nat} {ns : List Nd} {ml : List (Value × Value)} (h : ∀ y ∈ ml, isM bits ns y) {y : Value × Value} (hy : isM bits ns y) : ∀ z ∈ ml ++ [y], isM bits ns z := by
  intro z hz
  rcases List.mem_append.1 hz with hz | hz
  · exact h z hz
  · rw [List.mem_singleton.1 hz]; exact hy
theorem isM_set {bits : Nat} {ns : List Nd} {ml : List (Value × Value)} (h : ∀ y ∈ ml, isM bits ns y) {y : Value × Value} (hy : isM bits ns y) (q : Nat) : ∀ z ∈ ml.set q y, isM bits ns z := by
  intro z hz
  rcases List.mem_or_eq_of_mem_set hz with hz | rfl
  · exact h z hz
  · exact hy
theorem and1_u8 {a : Nat} (ha : a < 256) : bitsOf .and .u8 (a : Int) 1 = ((a % 2 : Nat) : Int) := by
  have h1 : ∀ b, BitVec.ofInt 8 ((b : Nat) : Int) = BitVec.ofNat 8 b := fun b => by
    apply BitVec.eq_of_toNat_eq
    rw [BitVec.toNat_ofInt, BitVec.toNat_ofNat]
    omega
  have h : (BitVec.ofInt 8 (a : Int) &&& BitVec.ofInt 8 ((1 : Nat) : Int)).toNat = a % 2 := by
    rw [h1, h1, BitVec.toNat_and, BitVec.toNat_ofNat, BitVec.toNat_ofNat, Nat.mod_eq_of_lt (by omega), Nat.mod_eq_of_lt (by omega), Nat.and_one_is_mod]
  show IntKind.wrap .u8 ((BitVec.ofInt 8 (a : Int) &&& BitVec.ofInt 8 ((1 : Nat) : Int)).toNat : Int) = _
  rw [h]
  exact wrap_keep _ (by show (0 : Int) ≤ _; omega) (by show _ ≤ (255 : Int); omega)
set_option maxHeartbeats 2000000 in
theorem null_fn (m : Mem) (ab kb bits : Nat) (ns : List Nd) (La : Own) (hA : Ar ab ns La) (hO : OkA ns) (hbits : bits < 256) : ∀ (id : Nat), id < ns.length → ∀ ml, (∀ y ∈ ml, isM bits ns y) →
    Ev.Fn Tryz.prog 99 [.agg (toArr (teO ab kb bits)), .int .i64 id] m ((kb, mapW ml) :: La) fun m' L' u => m' = m ∧ u = .bool (nulN bits ns id) ∧ ∃ ml', L' = (kb, mapW ml') :: La ∧ ∀ y ∈ ml', isM bits ns y := by
  intro id
  induction id using Nat.strongRecOn with
  | ind id ih =>
  intro hid ml hml
  have hlen := hO.len
  have hkeys := isM_keys hlen hml
  have hidk : IsK Tryz.prog 3 (.int .i64 id) := isK_int _ (i64_nat (by omega))
  have hx := List.getElem?_eq_getElem hid
  have hN := nulN_eq bits hO.right hx
  have hR := hO.right id _ hx
  have hnode := Node_fn m ab ns La hA id
  have hnd : nodeN ns id = (ns[id], true) := by
    unfold nodeN; rw [if_pos ⟨by omega, by omega⟩]; simp [List.getD, hx]
  rw [hnd] at hnode
  generalize ns[id] = x at hx hN hR hnode
  obtain ⟨h1, h2, h3, h4⟩ := right_lt hR
  refine Fn.enter (N := 80) hX Tryz.func99 rfl rfl (by show _ ≤ _; simp) (fun w0 hL => ?_)
  conv => whnf
  generalize keys ((kb, mapW ml) :: La) = S0 at hL ⊢
  refine NewReq.mk hL ?_
  clear hL
  intro b2 w hL
  conv => whnf
  replace hL : Ev.Loc m S0 w0 m ([(b2, .cells (toArr (teO ab kb bits)) 136 (0, 0)), (kb, mapW ml)] ++ La) w := hL
  conv => whnf
  repeat ((first | refine zT ?_ | refine zF ?_ | refine zL hX hL ?_ | refine zB hX hL ?_ | (refine zS hX hL ?_; clear hL; intro w hL) | refine zI ?_ | refine zG hX ?_ | refine zO ?_); conv => whnf)
  refine RunReq.lookW hX rfl rfl key_int (z := .bool false) (by kernel_rfl) hL (.t .h) hidk hkeys (fun hno => ?_) (fun v hv => ?_)
  rotate_left
  · obtain ⟨i, -, e⟩ := hml _ hv
    injection e with e1 e2
    injection e1 with e1 e3
    obtain rfl : id = i := by omega
    subst e2
    conv => whnf
    repeat ((first | refine zT ?_ | refine zF ?_ | refine zL hX hL ?_ | refine zB hX hL ?_ | (refine zS hX hL ?_; clear hL; intro w hL) | refine zI ?_ | refine zG hX ?_ | refine zO ?_); conv => whnf)
    exact RetReq.mk hL.drop ⟨rfl, rfl, ml, rfl, hml⟩
  · clear hno
    conv => whnf
    repeat ((first | refine zT ?_ | refine zF ?_ | refine zL hX hL ?_ | refine zB hX hL ?_ | (refine zS hX hL ?_; clear hL; intro w hL) | refine zI ?_ | refine zG hX ?_ | refine zO ?_); conv => whnf)
    refine CallReq.li (L1 := La) hnode (Loc.back (L1 := [_, _]) hL) ?_
    clear hL
    intro w hL
    have hL := Loc.back (L1 := La) (L2 := [_, _]) hL
    conv => whnf
    repeat ((first | refine zT ?_ | refine zF ?_ | refine zL hX hL ?_ | refine zB hX hL ?_ | (refine zS hX hL ?_; clear hL; intro w hL) | refine zI ?_ | refine zG hX ?_ | refine zO ?_); conv => whnf)
    refine NewReq.mk hL ?_
    clear hL
    intro b7 w hL
    conv => whnf
    replace hL : Ev.Loc m S0 w0 m ((b7, .cells (toArr (ndC nd0)) 80 (0, 0)) :: (b2, .cells (toArr (teO ab kb bits)) 136 (0, 0)) :: (kb, mapW ml) :: La) w := hL
    obtain ⟨k, s0, s1, s2, s3, a, b, neg⟩ := x
    simp only at h1 h2 h3 h4
    have hself : ∀ v, nulN bits ns id = v → isM bits ns (.int .i64 id, .bool v) := fun v e => ⟨id, hid, by rw [e]⟩
    unfold nulV at hN
    simp only at hN
    by_cases k1 : k = 1 ∨ k = 7
    · rw [if_pos k1] at hN
      rcases k1 with rfl | rfl
      · conv => whnf
        repeat ((first | refine zT ?_ | refine zF ?_ | refine zL hX hL ?_ | refine zB hX hL ?_ | (refine zS hX hL ?_; clear hL; intro w hL) | refine zI ?_ | refine zG hX ?_ | refine zO ?_); conv => whnf)
        refine RunUReq.updW hX rfl rfl key_int (k := .int .i64 id) (v := .bool true) 2 hL rfl hidk (isM_keys hlen hml) (fun _ w hL => ?_) (fun q u hq w hL => ?_)
        · conv => whnf
          repeat ((first | refine zT ?_ | refine zF ?_ | refine zL hX hL ?_ | refine zB hX hL ?_ | (refine zS hX hL ?_; clear hL; intro w hL) | refine zI ?_ | refine zG hX ?_ | refine zO ?_); conv => whnf)
          exact RetReq.mk hL.drop.drop ⟨rfl, congrArg Value.bool (hN).symm, _, rfl, isM_app hml (hself _ hN)⟩
        · conv => whnf
          repeat ((first | refine zT ?_ | refine zF ?_ | refine zL hX hL ?_ | refine zB hX hL ?_ | (refine zS hX hL ?_; clear hL; intro w hL) | refine zI ?_ | refine zG hX ?_ | refine zO ?_); conv => whnf)
          exact RetReq.mk hL.drop.drop ⟨rfl, congrArg Value.bool (hN).symm, _, rfl, isM_set hml (hself _ hN) q⟩
      · conv => whnf
        repeat ((first | refine zT ?_ | refine zF ?_ | refine zL hX hL ?_ | refine zB hX hL ?_ | (refine zS hX hL ?_; clear hL; intro w hL) | refine zI ?_ | refine zG hX ?_ | refine zO ?_); conv => whnf)
        refine RunUReq.updW hX rfl rfl key_int (k := .int .i64 id) (v := .bool true) 2 hL rfl hidk (isM_keys hlen hml) (fun _ w hL => ?_) (fun q u hq w hL => ?_)
        · conv => whnf
          repeat ((first | refine zT ?_ | refine zF ?_ | refine zL hX hL ?_ | refine zB hX hL ?_ | (refine zS hX hL ?_; clear hL; intro w hL) | refine zI ?_ | refine zG hX ?_ | refine zO ?_); conv => whnf)
          exact RetReq.mk hL.drop.drop ⟨rfl, congrArg Value.bool (hN).symm, _, rfl, isM_app hml (hself _ hN)⟩
        · conv => whnf
          repeat ((first | refine zT ?_ | refine zF ?_ | refine zL hX hL ?_ | refine zB hX hL ?_ | (refine zS hX hL ?_; clear hL; intro w hL) | refine zI ?_ | refine zG hX ?_ | refine zO ?_); conv => whnf)
          exact RetReq.mk hL.drop.drop ⟨rfl, congrArg Value.bool (hN).symm, _, rfl, isM_set hml (hself _ hN) q⟩
    rw [if_neg k1] at hN
    by_cases k3 : k = 3 ∨ k = 5
    · rw [if_pos k3] at hN
      rcases k3 with k3 | k3
      · subst k3
        have hab := h1 (by omega)
        have ea : ((a.toNat : Nat) : Int) = a := by omega
        have eb : ((b.toNat : Nat) : Int) = b := by omega
        have iha := ih a.toNat (by omega) (by omega) ml hml
        rw [ea] at iha
        conv => whnf
        repeat ((first | refine zT ?_ | refine zF ?_ | refine zL hX hL ?_ | refine zB hX hL ?_ | (refine zS hX hL ?_; clear hL; intro w hL) | refine zI ?_ | refine zG hX ?_ | refine zO ?_); conv => whnf)
        refine CallReq.mk (L1 := (kb, mapW ml) :: La) (L2 := [_, _]) iha (Loc.back (L1 := [_, _]) hL) ?_
        clear hL
        rintro v m2 L1' w hL - ⟨rfl, rfl, ml2, rfl, hml2⟩
        have hL := Loc.back (L1 := (kb, mapW ml2) :: La) (L2 := [_, _]) hL
        have ihb := ih b.toNat (by omega) (by omega) ml2 hml2
        rw [eb] at ihb
        cases hva : nulN bits ns a.toNat with
        | false =>
          rw [hva, Bool.false_and] at hN
          conv => whnf
          repeat ((first | refine zT ?_ | refine zF ?_ | refine zL hX hL ?_ | refine zB hX hL ?_ | (refine zS hX hL ?_; clear hL; intro w hL) | refine zI ?_ | refine zG hX ?_ | refine zO ?_); conv => whnf)
          refine RunUReq.updW hX rfl rfl key_int (k := .int .i64 id) (v := .bool false) 2 hL rfl hidk (isM_keys hlen hml2) (fun _ w hL => ?_) (fun q u hq w hL => ?_)
          · conv => whnf
            repeat ((first | refine zT ?_ | refine zF ?_ | refine zL hX hL ?_ | refine zB hX hL ?_ | (refine zS hX hL ?_; clear hL; intro w hL) | refine zI ?_ | refine zG hX ?_ | refine zO ?_); conv => whnf)
            exact RetReq.mk hL.drop.drop ⟨rfl, congrArg Value.bool (hN).symm, _, rfl, isM_app hml2 (hself _ hN)⟩
          · conv => whnf
            repeat ((first | refine zT ?_ | refine zF ?_ | refine zL hX hL ?_ | refine zB hX hL ?_ | (refine zS hX hL ?_; clear hL; intro w hL) | refine zI ?_ | refine zG hX ?_ | refine zO ?_); conv => whnf)
            exact RetReq.mk hL.drop.drop ⟨rfl, congrArg Value.bool (hN).symm, _, rfl, isM_set hml2 (hself _ hN) q⟩
        | true =>
          rw [hva, Bool.true_and] at hN
          conv => whnf
          repeat ((first | refine zT ?_ | refine zF ?_ | refine zL hX hL ?_ | refine zB hX hL ?_ | (refine zS hX hL ?_; clear hL; intro w hL) | refine zI ?_ | refine zG hX ?_ | refine zO ?_); conv => whnf)
          refine CallReq.mk (L1 := (kb, mapW ml2) :: La) (L2 := [_, _]) ihb (Loc.back (L1 := [_, _]) hL) ?_
          clear hL
          rintro v m2 L1' w hL - ⟨rfl, rfl, ml22, rfl, hml3⟩
          have hL := Loc.back (L1 := (kb, mapW ml22) :: La) (L2 := [_, _]) hL
          cases hvb : nulN bits ns b.toNat with
          | false =>
            rw [hvb] at hN
            conv => whnf
            repeat ((first | refine zT ?_ | refine zF ?_ | refine zL hX hL ?_ | refine zB hX hL ?_ | (refine zS hX hL ?_; clear hL; intro w hL) | refine zI ?_ | refine zG hX ?_ | refine zO ?_); conv => whnf)
            refine RunUReq.updW hX rfl rfl key_int (k := .int .i64 id) (v := .bool false) 2 hL rfl hidk (isM_keys hlen hml3) (fun _ w hL => ?_) (fun q u hq w hL => ?_)
            · conv => whnf
              repeat ((first | refine zT ?_ | refine zF ?_ | refine zL hX hL ?_ | refine zB hX hL ?_ | (refine zS hX hL ?_; clear hL; intro w hL) | refine zI ?_ | refine zG hX ?_ | refine zO ?_); conv => whnf)
              exact RetReq.mk hL.drop.drop ⟨rfl, congrArg Value.bool (hN).symm, _, rfl, isM_app hml3 (hself _ hN)⟩
            · conv => whnf
              repeat ((first | refine zT ?_ | refine zF ?_ | refine zL hX hL ?_ | refine zB hX hL ?_ | (refine zS hX hL ?_; clear hL; intro w hL) | refine zI ?_ | refine zG hX ?_ | refine zO ?_); conv => whnf)
              exact RetReq.mk hL.drop.drop ⟨rfl, congrArg Value.bool (hN).symm, _, rfl, isM_set hml3 (hself _ hN) q⟩
          | true =>
            rw [hvb] at hN
            conv => whnf
            repeat ((first | refine zT ?_ | refine zF ?_ | refine zL hX hL ?_ | refine zB hX hL ?_ | (refine zS hX hL ?_; clear hL; intro w hL) | refine zI ?_ | refine zG hX ?_ | refine zO ?_); conv => whnf)
            refine RunUReq.updW hX rfl rfl key_int (k := .int .i64 id) (v := .bool true) 2 hL rfl hidk (isM_keys hlen hml3) (fun _ w hL => ?_) (fun q u hq w hL => ?_)
            · conv => whnf
              repeat ((first | refine zT ?_ | refine zF ?_ | refine zL hX hL ?_ | refine zB hX hL ?_ | (refine zS hX hL ?_; clear hL; intro w hL) | refine zI ?_ | refine zG hX ?_ | refine zO ?_); conv => whnf)
              exact RetReq.mk hL.drop.drop ⟨rfl, congrArg Value.bool (hN).symm, _, rfl, isM_app hml3 (hself _ hN)⟩
            · conv => whnf
              repeat ((first | refine zT ?_ | refine zF ?_ | refine zL hX hL ?_ | refine zB hX hL ?_ | (refine zS hX hL ?_; clear hL; intro w hL) | refine zI ?_ | refine zG hX ?_ | refine zO ?_); conv => whnf)
              exact RetReq.mk hL.drop.drop ⟨rfl, congrArg Value.bool (hN).symm, _, rfl, isM_set hml3 (hself _ hN) q⟩
      · subst k3
        have hab := h1 (by omega)
        have ea : ((a.toNat : Nat) : Int) = a := by omega
        have eb : ((b.toNat : Nat) : Int) = b := by omega
        have iha := ih a.toNat (by omega) (by omega) ml hml
        rw [ea] at iha
        conv => whnf
        repeat ((first | refine zT ?_ | refine zF ?_ | refine zL hX hL ?_ | refine zB hX hL ?_ | (refine zS hX hL ?_; clear hL; intro w hL) | refine zI ?_ | refine zG hX ?_ | refine zO ?_); conv => whnf)
        refine CallReq.mk (L1 := (kb, mapW ml) :: La) (L2 := [_, _]) iha (Loc.back (L1 := [_, _]) hL) ?_
        clear hL
        rintro v m2 L1' w hL - ⟨rfl, rfl, ml2, rfl, hml2⟩
        have hL := Loc.back (L1 := (kb, mapW ml2) :: La) (L2 := [_, _]) hL
        have ihb := ih b.toNat (by omega) (by omega) ml2 hml2
        rw [eb] at ihb
        cases hva : nulN bits ns a.toNat with
        | false =>
          rw [hva, Bool.false_and] at hN
          conv => whnf
          repeat ((first | refine zT ?_ | refine zF ?_ | refine zL hX hL ?_ | refine zB hX hL ?_ | (refine zS hX hL ?_; clear hL; intro w hL) | refine zI ?_ | refine zG hX ?_ | refine zO ?_); conv => whnf)
          refine RunUReq.updW hX rfl rfl key_int (k := .int .i64 id) (v := .bool false) 2 hL rfl hidk (isM_keys hlen hml2) (fun _ w hL => ?_) (fun q u hq w hL => ?_)
          · conv => whnf
            repeat ((first | refine zT ?_ | refine zF ?_ | refine zL hX hL ?_ | refine zB hX hL ?_ | (refine zS hX hL ?_; clear hL; intro w hL) | refine zI ?_ | refine zG hX ?_ | refine zO ?_); conv => whnf)
            exact RetReq.mk hL.drop.drop ⟨rfl, congrArg Value.bool (hN).symm, _, rfl, isM_app hml2 (hself _ hN)⟩
          · conv => whnf
            repeat ((first | refine zT ?_ | refine zF ?_ | refine zL hX hL ?_ | refine zB hX hL ?_ | (refine zS hX hL ?_; clear hL; intro w hL) | refine zI ?_ | refine zG hX ?_ | refine zO ?_); conv => whnf)
            exact RetReq.mk hL.drop.drop ⟨rfl, congrArg Value.bool (hN).symm, _, rfl, isM_set hml2 (hself _ hN) q⟩
        | true =>
          rw [hva, Bool.true_and] at hN
          conv => whnf
          repeat ((first | refine zT ?_ | refine zF ?_ | refine zL hX hL ?_ | refine zB hX hL ?_ | (refine zS hX hL ?_; clear hL; intro w hL) | refine zI ?_ | refine zG hX ?_ | refine zO ?_); conv => whnf)
          refine CallReq.mk (L1 := (kb, mapW ml2) :: La) (L2 := [_, _]) ihb (Loc.back (L1 := [_, _]) hL) ?_
          clear hL
          rintro v m2 L1' w hL - ⟨rfl, rfl, ml22, rfl, hml3⟩
          have hL := Loc.back (L1 := (kb, mapW ml22) :: La) (L2 := [_, _]) hL
          cases hvb : nulN bits ns b.toNat with
          | false =>
            rw [hvb] at hN
            conv => whnf
            repeat ((first | refine zT ?_ | refine zF ?_ | refine zL hX hL ?_ | refine zB hX hL ?_ | (refine zS hX hL ?_; clear hL; intro w hL) | refine zI ?_ | refine zG hX ?_ | refine zO ?_); conv => whnf)
            refine RunUReq.updW hX rfl rfl key_int (k := .int .i64 id) (v := .bool false) 2 hL rfl hidk (isM_keys hlen hml3) (fun _ w hL => ?_) (fun q u hq w hL => ?_)
            · conv => whnf
              repeat ((first | refine zT ?_ | refine zF ?_ | refine zL hX hL ?_ | refine zB hX hL ?_ | (refine zS hX hL ?_; clear hL; intro w hL) | refine zI ?_ | refine zG hX ?_ | refine zO ?_); conv => whnf)
              exact RetReq.mk hL.drop.drop ⟨rfl, congrArg Value.bool (hN).symm, _, rfl, isM_app hml3 (hself _ hN)⟩
            · conv => whnf
              repeat ((first | refine zT ?_ | refine zF ?_ | refine zL hX hL ?_ | refine zB hX hL ?_ | (refine zS hX hL ?_; clear hL; intro w hL) | refine zI ?_ | refine zG hX ?_ | refine zO ?_); conv => whnf)
              exact RetReq.mk hL.drop.drop ⟨rfl, congrArg Value.bool (hN).symm, _, rfl, isM_set hml3 (hself _ hN) q⟩
          | true =>
            rw [hvb] at hN
            conv => whnf
            repeat ((first | refine zT ?_ | refine zF ?_ | refine zL hX hL ?_ | refine zB hX hL ?_ | (refine zS hX hL ?_; clear hL; intro w hL) | refine zI ?_ | refine zG hX ?_ | refine zO ?_); conv => whnf)
            refine RunUReq.updW hX rfl rfl key_int (k := .int .i64 id) (v := .bool true) 2 hL rfl hidk (isM_keys hlen hml3) (fun _ w hL => ?_) (fun q u hq w hL => ?_)
            · conv => whnf
              repeat ((first | refine zT ?_ | refine zF ?_ | refine zL hX hL ?_ | refine zB hX hL ?_ | (refine zS hX hL ?_; clear hL; intro w hL) | refine zI ?_ | refine zG hX ?_ | refine zO ?_); conv => whnf)
              exact RetReq.mk hL.drop.drop ⟨rfl, congrArg Value.bool (hN).symm, _, rfl, isM_app hml3 (hself _ hN)⟩
            · conv => whnf
              repeat ((first | refine zT ?_ | refine zF ?_ | refine zL hX hL ?_ | refine zB hX hL ?_ | (refine zS hX hL ?_; clear hL; intro w hL) | refine zI ?_ | refine zG hX ?_ | refine zO ?_); conv => whnf)
              exact RetReq.mk hL.drop.drop ⟨rfl, congrArg Value.bool (hN).symm, _, rfl, isM_set hml3 (hself _ hN) q⟩
    rw [if_neg k3] at hN
    by_cases k4 : k = 4
    · rw [if_pos k4] at hN
      subst k4
      have hab := h1 (by omega)
      have ea : ((a.toNat : Nat) : Int) = a := by omega
      have eb : ((b.toNat : Nat) : Int) = b := by omega
      have iha := ih a.toNat (by omega) (by omega) ml hml
      rw [ea] at iha
      conv => whnf
      repeat ((first | refine zT ?_ | refine zF ?_ | refine zL hX hL ?_ | refine zB hX hL ?_ | (refine zS hX hL ?_; clear hL; intro w hL) | refine zI ?_ | refine zG hX ?_ | refine zO ?_); conv => whnf)
      refine CallReq.mk (L1 := (kb, mapW ml) :: La) (L2 := [_, _]) iha (Loc.back (L1 := [_, _]) hL) ?_
      clear hL
      rintro v m2 L1' w hL - ⟨rfl, rfl, ml2, rfl, hml2⟩
      have hL := Loc.back (L1 := (kb, mapW ml2) :: La) (L2 := [_, _]) hL
      have ihb := ih b.toNat (by omega) (by omega) ml2 hml2
      rw [eb] at ihb
      cases hva : nulN bits ns a.toNat with
      | true =>
        rw [hva, Bool.true_or] at hN
        conv => whnf
        repeat ((first | refine zT ?_ | refine zF ?_ | refine zL hX hL ?_ | refine zB hX hL ?_ | (refine zS hX hL ?_; clear hL; intro w hL) | refine zI ?_ | refine zG hX ?_ | refine zO ?_); conv => whnf)
        refine RunUReq.updW hX rfl rfl key_int (k := .int .i64 id) (v := .bool true) 2 hL rfl hidk (isM_keys hlen hml2) (fun _ w hL => ?_) (fun q u hq w hL => ?_)
        · conv => whnf
          repeat ((first | refine zT ?_ | refine zF ?_ | refine zL hX hL ?_ | refine zB hX hL ?_ | (refine zS hX hL ?_; clear hL; intro w hL) | refine zI ?_ | refine zG hX ?_ | refine zO ?_); conv => whnf)
          exact RetReq.mk hL.drop.drop ⟨rfl, congrArg Value.bool (hN).symm, _, rfl, isM_app hml2 (hself _ hN)⟩
        · conv => whnf
          repeat ((first | refine zT ?_ | refine zF ?_ | refine zL hX hL ?_ | refine zB hX hL ?_ | (refine zS hX hL ?_; clear hL; intro w hL) | refine zI ?_ | refine zG hX ?_ | refine zO ?_); conv => whnf)
          exact RetReq.mk hL.drop.drop ⟨rfl, congrArg Value.bool (hN).symm, _, rfl, isM_set hml2 (hself _ hN) q⟩
      | false =>
        rw [hva, Bool.false_or] at hN
        conv => whnf
        repeat ((first | refine zT ?_ | refine zF ?_ | refine zL hX hL ?_ | refine zB hX hL ?_ | (refine zS hX hL ?_; clear hL; intro w hL) | refine zI ?_ | refine zG hX ?_ | refine zO ?_); conv => whnf)
        refine CallReq.mk (L1 := (kb, mapW ml2) :: La) (L2 := [_, _]) ihb (Loc.back (L1 := [_, _]) hL) ?_
        clear hL
        rintro v m2 L1' w hL - ⟨rfl, rfl, ml22, rfl, hml3⟩
        have hL := Loc.back (L1 := (kb, mapW ml22) :: La) (L2 := [_, _]) hL
        cases hvb : nulN bits ns b.toNat with
        | false =>
          rw [hvb] at hN
          conv => whnf
          repeat ((first | refine zT ?_ | refine zF ?_ | refine zL hX hL ?_ | refine zB hX hL ?_ | (refine zS hX hL ?_; clear hL; intro w hL) | refine zI ?_ | refine zG hX ?_ | refine zO ?_); conv => whnf)
          refine RunUReq.updW hX rfl rfl key_int (k := .int .i64 id) (v := .bool false) 2 hL rfl hidk (isM_keys hlen hml3) (fun _ w hL => ?_) (fun q u hq w hL => ?_)
          · conv => whnf
            repeat ((first | refine zT ?_ | refine zF ?_ | refine zL hX hL ?_ | refine zB hX hL ?_ | (refine zS hX hL ?_; clear hL; intro w hL) | refine zI ?_ | refine zG hX ?_ | refine zO ?_); conv => whnf)
            exact RetReq.mk hL.drop.drop ⟨rfl, congrArg Value.bool (hN).symm, _, rfl, isM_app hml3 (hself _ hN)⟩
          · conv => whnf
            repeat ((first | refine zT ?_ | refine zF ?_ | refine zL hX hL ?_ | refine zB hX hL ?_ | (refine zS hX hL ?_; clear hL; intro w hL) | refine zI ?_ | refine zG hX ?_ | refine zO ?_); conv => whnf)
            exact RetReq.mk hL.drop.drop ⟨rfl, congrArg Value.bool (hN).symm, _, rfl, isM_set hml3 (hself _ hN) q⟩
        | true =>
          rw [hvb] at hN
          conv => whnf
          repeat ((first | refine zT ?_ | refine zF ?_ | refine zL hX hL ?_ | refine zB hX hL ?_ | (refine zS hX hL ?_; clear hL; intro w hL) | refine zI ?_ | refine zG hX ?_ | refine zO ?_); conv => whnf)
          refine RunUReq.updW hX rfl rfl key_int (k := .int .i64 id) (v := .bool true) 2 hL rfl hidk (isM_keys hlen hml3) (fun _ w hL => ?_) (fun q u hq w hL => ?_)
          · conv => whnf
            repeat ((first | refine zT ?_ | refine zF ?_ | refine zL hX hL ?_ | refine zB hX hL ?_ | (refine zS hX hL ?_; clear hL; intro w hL) | refine zI ?_ | refine zG hX ?_ | refine zO ?_); conv => whnf)
            exact RetReq.mk hL.drop.drop ⟨rfl, congrArg Value.bool (hN).symm, _, rfl, isM_app hml3 (hself _ hN)⟩
          · conv => whnf
            repeat ((first | refine zT ?_ | refine zF ?_ | refine zL hX hL ?_ | refine zB hX hL ?_ | (refine zS hX hL ?_; clear hL; intro w hL) | refine zI ?_ | refine zG hX ?_ | refine zO ?_); conv => whnf)
            exact RetReq.mk hL.drop.drop ⟨rfl, congrArg Value.bool (hN).symm, _, rfl, isM_set hml3 (hself _ hN) q⟩
    rw [if_neg k4] at hN
    by_cases k6 : k = 6
    · rw [if_pos k6] at hN
      subst k6
      have hab := h2 (by omega)
      have ea : ((a.toNat : Nat) : Int) = a := by omega
      have iha := ih a.toNat (by omega) (by omega) ml hml
      rw [ea] at iha
      conv => whnf
      repeat ((first | refine zT ?_ | refine zF ?_ | refine zL hX hL ?_ | refine zB hX hL ?_ | (refine zS hX hL ?_; clear hL; intro w hL) | refine zI ?_ | refine zG hX ?_ | refine zO ?_); conv => whnf)
      refine CallReq.mk (L1 := (kb, mapW ml) :: La) (L2 := [_, _]) iha (Loc.back (L1 := [_, _]) hL) ?_
      clear hL
      rintro v m2 L1' w hL - ⟨rfl, rfl, ml2, rfl, hml2⟩
      have hL := Loc.back (L1 := (kb, mapW ml2) :: La) (L2 := [_, _]) hL
      cases hva : nulN bits ns a.toNat with
      | true =>
        rw [hva] at hN
        conv => whnf
        repeat ((first | refine zT ?_ | refine zF ?_ | refine zL hX hL ?_ | refine zB hX hL ?_ | (refine zS hX hL ?_; clear hL; intro w hL) | refine zI ?_ | refine zG hX ?_ | refine zO ?_); conv => whnf)
        refine RunUReq.updW hX rfl rfl key_int (k := .int .i64 id) (v := .bool false) 2 hL rfl hidk (isM_keys hlen hml2) (fun _ w hL => ?_) (fun q u hq w hL => ?_)
        · conv => whnf
          repeat ((first | refine zT ?_ | refine zF ?_ | refine zL hX hL ?_ | refine zB hX hL ?_ | (refine zS hX hL ?_; clear hL; intro w hL) | refine zI ?_ | refine zG hX ?_ | refine zO ?_); conv => whnf)
          exact RetReq.mk hL.drop.drop ⟨rfl, congrArg Value.bool (hN).symm, _, rfl, isM_app hml2 (hself _ hN)⟩
        · conv => whnf
          repeat ((first | refine zT ?_ | refine zF ?_ | refine zL hX hL ?_ | refine zB hX hL ?_ | (refine zS hX hL ?_; clear hL; intro w hL) | refine zI ?_ | refine zG hX ?_ | refine zO ?_); conv => whnf)
          exact RetReq.mk hL.drop.drop ⟨rfl, congrArg Value.bool (hN).symm, _, rfl, isM_set hml2 (hself _ hN) q⟩
      | false =>
        rw [hva] at hN
        conv => whnf
        repeat ((first | refine zT ?_ | refine zF ?_ | refine zL hX hL ?_ | refine zB hX hL ?_ | (refine zS hX hL ?_; clear hL; intro w hL) | refine zI ?_ | refine zG hX ?_ | refine zO ?_); conv => whnf)
        refine RunUReq.updW hX rfl rfl key_int (k := .int .i64 id) (v := .bool true) 2 hL rfl hidk (isM_keys hlen hml2) (fun _ w hL => ?_) (fun q u hq w hL => ?_)
        · conv => whnf
          repeat ((first | refine zT ?_ | refine zF ?_ | refine zL hX hL ?_ | refine zB hX hL ?_ | (refine zS hX hL ?_; clear hL; intro w hL) | refine zI ?_ | refine zG hX ?_ | refine zO ?_); conv => whnf)
          exact RetReq.mk hL.drop.drop ⟨rfl, congrArg Value.bool (hN).symm, _, rfl, isM_app hml2 (hself _ hN)⟩
        · conv => whnf
          repeat ((first | refine zT ?_ | refine zF ?_ | refine zL hX hL ?_ | refine zB hX hL ?_ | (refine zS hX hL ?_; clear hL; intro w hL) | refine zI ?_ | refine zG hX ?_ | refine zO ?_); conv => whnf)
          exact RetReq.mk hL.drop.drop ⟨rfl, congrArg Value.bool (hN).symm, _, rfl, isM_set hml2 (hself _ hN) q⟩
    rw [if_neg k6] at hN
    by_cases k8 : k = 8
    · rw [if_pos k8] at hN
      subst k8
      have hab := h3 rfl
      obtain ⟨q, rfl⟩ : ∃ q : Nat, a = q := ⟨a.toNat, by omega⟩
      have hbq : bits / 2 ^ q ≤ bits := Nat.div_le_self _ _
      conv => whnf
      repeat ((first | refine zT ?_ | refine zF ?_ | refine zL hX hL ?_ | refine zB hX hL ?_ | (refine zS hX hL ?_; clear hL; intro w hL) | refine zI ?_ | refine zG hX ?_ | refine zO ?_); conv => whnf)
      refine DrawReq.plan hX (.fst 0 (.fst 1 (.fst 2 (.fst 3 (.fst 4 (.fst 5 (.fst 6 (.fst 7 (.fst 8 (.fst 9 (.fst 10 (.done)))))))))))) [(b7, .cells (toArr (ndC ⟨8, s0, s1, s2, s3, q, b, neg⟩)) 80 (0, 0)), (b2, .cells (toArr (teO ab kb bits)) 136 (0, 0))] (by kernel_rfl) (by kernel_rfl) hL (fun h => h.sublist (.cons_cons _ (.cons_cons _ (List.nil_sublist _)))) ?_
      clear hL
      intro w hL
      have hsh : (bits : Int).fdiv (2 ^ (min (Int.toNat ((q : Nat) : Int)) (IntKind.bits .u8))) = ((bits / 2 ^ q : Nat) : Int) := by
        rw [Int.toNat_natCast, show min q (IntKind.bits .u8) = q from by show min q 8 = q; omega, Int.fdiv_eq_ediv_of_nonneg _ (Int.le_of_lt (Int.pow_pos (by decide)))]
        norm_cast
      conv => whnf
      repeat ((first | (refine ShrReq.mk (n := ((bits / 2 ^ q : Nat) : Int)) (by simp only; omega) hsh ?_) | refine BitReq.mk (and1_u8 (by omega)) ?_ | refine zQ hX ?_ | refine zR hX ?_ | refine zA ?_ | refine zT ?_ | refine zF ?_ | refine zL hX hL ?_ | refine zB hX hL ?_ | (refine zS hX hL ?_; clear hL; intro w hL) | refine zI ?_ | refine zG hX ?_ | refine zO ?_); conv => whnf)
      have hN2 : nulN bits ns id = (!(decide (((bits / 2 ^ q % 2 : Nat) : Int) = 1) == neg)) := by
        rw [hN, Int.toNat_natCast]
        have : decide (((bits / 2 ^ q % 2 : Nat) : Int) = 1) = decide (bits / 2 ^ q % 2 = 1) := decide_eq_decide.2 (by omega)
        rw [this]; rfl
      refine RunUReq.updW hX rfl rfl key_int (k := .int .i64 id) (v := .bool (!(decide (((bits / 2 ^ q % 2 : Nat) : Int) = 1) == neg))) 2 hL rfl hidk (isM_keys hlen hml) (fun _ w hL => ?_) (fun q u hq w hL => ?_)
      · conv => whnf
        repeat ((first | refine zT ?_ | refine zF ?_ | refine zL hX hL ?_ | refine zB hX hL ?_ | (refine zS hX hL ?_; clear hL; intro w hL) | refine zI ?_ | refine zG hX ?_ | refine zO ?_); conv => whnf)
        exact RetReq.mk hL.drop.drop ⟨rfl, congrArg Value.bool (hN2).symm, _, rfl, isM_app hml (hself _ hN2)⟩
      · conv => whnf
        repeat ((first | refine zT ?_ | refine zF ?_ | refine zL hX hL ?_ | refine zB hX hL ?_ | (refine zS hX hL ?_; clear hL; intro w hL) | refine zI ?_ | refine zG hX ?_ | refine zO ?_); conv => whnf)
        exact RetReq.mk hL.drop.drop ⟨rfl, congrArg Value.bool (hN2).symm, _, rfl, isM_set hml (hself _ hN2) q⟩
    rw [if_neg k8] at hN
    have k02 : k = 0 ∨ k = 2 := by omega
    rcases k02 with rfl | rfl
    · conv => whnf
      repeat ((first | refine zT ?_ | refine zF ?_ | refine zL hX hL ?_ | refine zB hX hL ?_ | (refine zS hX hL ?_; clear hL; intro w hL) | refine zI ?_ | refine zG hX ?_ | refine zO ?_); conv => whnf)
      refine RunUReq.updW hX rfl rfl key_int (k := .int .i64 id) (v := .bool false) 2 hL rfl hidk (isM_keys hlen hml) (fun _ w hL => ?_) (fun q u hq w hL => ?_)
      · conv => whnf
        repeat ((first | refine zT ?_ | refine zF ?_ | refine zL hX hL ?_ | refine zB hX hL ?_ | (refine zS hX hL ?_; clear hL; intro w hL) | refine zI ?_ | refine zG hX ?_ | refine zO ?_); conv => whnf)
        exact RetReq.mk hL.drop.drop ⟨rfl, congrArg Value.bool (hN).symm, _, rfl, isM_app hml (hself _ hN)⟩
      · conv => whnf
        repeat ((first | refine zT ?_ | refine zF ?_ | refine zL hX hL ?_ | refine zB hX hL ?_ | (refine zS hX hL ?_; clear hL; intro w hL) | refine zI ?_ | refine zG hX ?_ | refine zO ?_); conv => whnf)
        exact RetReq.mk hL.drop.drop ⟨rfl, congrArg Value.bool (hN).symm, _, rfl, isM_set hml (hself _ hN) q⟩
    · conv => whnf
      repeat ((first | refine zT ?_ | refine zF ?_ | refine zL hX hL ?_ | refine zB hX hL ?_ | (refine zS hX hL ?_; clear hL; intro w hL) | refine zI ?_ | refine zG hX ?_ | refine zO ?_); conv => whnf)
      refine RunUReq.updW hX rfl rfl key_int (k := .int .i64 id) (v := .bool false) 2 hL rfl hidk (isM_keys hlen hml) (fun _ w hL => ?_) (fun q u hq w hL => ?_)
      · conv => whnf
        repeat ((first | refine zT ?_ | refine zF ?_ | refine zL hX hL ?_ | refine zB hX hL ?_ | (refine zS hX hL ?_; clear hL; intro w hL) | refine zI ?_ | refine zG hX ?_ | refine zO ?_); conv => whnf)
        exact RetReq.mk hL.drop.drop ⟨rfl, congrArg Value.bool (hN).symm, _, rfl, isM_app hml (hself _ hN)⟩
      · conv => whnf
        repeat ((first | refine zT ?_ | refine zF ?_ | refine zL hX hL ?_ | refine zB hX hL ?_ | (refine zS hX hL ?_; clear hL; intro w hL) | refine zI ?_ | refine zG hX ?_ | refine zO ?_); conv => whnf)
        exact RetReq.mk hL.drop.drop ⟨rfl, congrArg Value.bool (hN).symm, _, rfl, isM_set hml (hself _ hN) q⟩
theorem Null_fn (m : Mem) (ab bits : Nat) (ns : List Nd) (L : Own) (hA : Ar ab ns L) (hO : OkA ns) (hbits : bits < 256) (id : Int) :
    FnM Tryz.prog 65 [.pointer (some ⟨ab, 0, none⟩), .int .i64 id, .int .u8 bits] m L (.bool (if 0 ≤ id ∧ id < ns.length then nulN bits ns id.toNat else false)) := by
  refine Fn.enter (N := 19) hX Tryz.func65 rfl rfl (by show _ ≤ _; simp) (fun w0 hL => ?_)
  conv => whnf
  generalize keys L = S0 at hL ⊢
  conv => whnf
  repeat ((first | refine zT ?_ | refine zF ?_ | refine zL hX hL ?_ | refine zB hX hL ?_ | (refine zS hX hL ?_; clear hL; intro w hL) | refine zI ?_ | refine zG hX ?_ | refine zO ?_); conv => whnf)
  refine NewReq.mk hL ?_
  clear hL
  intro g w hL
  conv => whnf
  replace hL : Ev.Loc m S0 w0 m ([(g, .cells (toArr (ints .i64 [id])) 3 (0, 0))] ++ L) w := hL
  obtain ⟨m1, hL1, hm1, hs⟩ := OwnS.freeze (te := 3) (k := .i64) (l := [id]) (OwnS.full (n := 1) (by decide) rfl) hL
  clear hL
  have hL := hL1
  clear hL1
  conv => whnf
  repeat ((first | refine zT ?_ | refine zF ?_ | refine zL hX hL ?_ | refine zB hX hL ?_ | (refine zS hX hL ?_; clear hL; intro w hL) | refine zI ?_ | refine zG hX ?_ | refine zO ?_); conv => whnf)
  refine CallReq.lo (there2_fn m1 ab ns L hA _ [id] hs) hL ?_
  clear hL
  intro w hL
  by_cases hid : 0 ≤ id ∧ id < ns.length
  · rw [if_pos hid, show ([id].all fun id => decide (0 ≤ id ∧ id < ns.length)) = true by simp [hid]]
    obtain ⟨i, rfl⟩ : ∃ i : Nat, id = i := ⟨id.toNat, by omega⟩
    conv => whnf
    repeat ((first | refine zT ?_ | refine zF ?_ | refine zL hX hL ?_ | refine zB hX hL ?_ | (refine zS hX hL ?_; clear hL; intro w hL) | refine zI ?_ | refine zG hX ?_ | refine zO ?_); conv => whnf)
    refine RunReq.makeMapW hL ?_
    clear hL
    intro kb w hL
    conv => whnf
    repeat ((first | refine zT ?_ | refine zF ?_ | refine zL hX hL ?_ | refine zB hX hL ?_ | (refine zS hX hL ?_; clear hL; intro w hL) | refine zI ?_ | refine zG hX ?_ | refine zO ?_); conv => whnf)
    have hn := null_fn m1 ab kb bits ns L hA hO hbits i (by omega) [] (by simp)
    refine CallReq.mk (L1 := (kb, mapW []) :: L) (L2 := []) hn (by rw [List.append_nil]; exact hL) ?_
    clear hL
    rintro v m2 L1' w hL - ⟨rfl, rfl, ml, rfl, -⟩
    rw [List.append_nil] at hL
    conv => whnf
    repeat ((first | refine zT ?_ | refine zF ?_ | refine zL hX hL ?_ | refine zB hX hL ?_ | (refine zS hX hL ?_; clear hL; intro w hL) | refine zI ?_ | refine zG hX ?_ | refine zO ?_); conv => whnf)
    exact RetReq.mk hL.drop ⟨rfl, rfl⟩
  · rw [if_neg hid, show ([id].all fun id => decide (0 ≤ id ∧ id < ns.length)) = false by simp; omega]
    conv => whnf
    repeat ((first | refine zT ?_ | refine zF ?_ | refine zL hX hL ?_ | refine zB hX hL ?_ | (refine zS hX hL ?_; clear hL; intro w hL) | refine zI ?_ | refine zG hX ?_ | refine zO ?_); conv => whnf)
    exact RetReq.mk hL ⟨rfl, rfl⟩
end Go.Proofs.YtiololnblplloaaGreat.ar
namespace Go.Proofs.YtiololnblplloaaGreat.ar
open Go Go.Ev Go.Proofs
theorem clone_fn (m : Mem) (v : Value) (l : List Int) (hl : SlI m .i64 v l) (h0 : l ≠ []) (hb : l.length ≤ 1000000) :
    Ev.Fn Tryz.prog 112 [v] m [] fun m' L' u => m' = m ∧ OwnS 3 1 u (ints .i64 l) L' := by
  obtain ⟨A, n, c, rfl, hn, hc, hm, -⟩ := id hl
  have hcell := hl.cell.2
  have hmx : maxLen = 9223372036854775807 := rfl
  obtain ⟨z, l', rfl⟩ : ∃ z l', l = z :: l' := by cases l with | nil => exact absurd rfl h0 | cons z l' => exact ⟨z, l', rfl⟩
  obtain ⟨a, rfl, -⟩ := hcell 0 z rfl
  refine Fn.enter (N := 8) hX Tryz.func112 rfl rfl (by show _ ≤ _; simp) (fun w0 hL => ?_)
  conv => whnf
  conv => whnf
  repeat ((first | refine zT ?_ | refine zF ?_ | refine zL hX hL ?_ | refine zB hX hL ?_ | (refine zS hX hL ?_; clear hL; intro w hL) | refine zI ?_ | refine zG hX ?_ | refine zO ?_); conv => whnf)
  refine NewReq.mk hL ?_
  clear hL
  intro g w hL
  conv => whnf
  replace hL : Ev.Loc m [] w0 m ([(g, .cells (toArr []) 3 (0, 0))] ++ []) w := hL
  refine RunReq.append hX 108 3 rfl rfl rfl rfl rfl (OwnS.full (n := 0) (by omega) rfl) hL (news := ints .i64 (z :: l')) (by simp [ints, hn]) (fun j u hj => ?_) (fun u hu => ?_) (by simp [ints]; simp at hb; omega) rfl ?_
  · simp only [ints, List.getElem?_map] at hj
    cases hz : (z :: l')[j]? with
    | none => rw [hz] at hj; cases hj
    | some y =>
      rw [hz] at hj
      cases hj
      obtain ⟨a', e, hc'⟩ := hcell j y hz
      exact ⟨a', e, hL.cell hc'⟩
  · simp only [ints, List.mem_map] at hu
    obtain ⟨y, -, rfl⟩ := hu
    rfl
  clear hL
  intro A2 n2 c2 L2 w hn2 ho hL
  rw [List.append_nil] at hL
  conv => whnf
  repeat ((first | refine zT ?_ | refine zF ?_ | refine zL hX hL ?_ | refine zB hX hL ?_ | (refine zS hX hL ?_; clear hL; intro w hL) | refine zI ?_ | refine zG hX ?_ | refine zO ?_); conv => whnf)
  exact RetReq.mk hL ⟨rfl, ho⟩
end Go.Proofs.YtiololnblplloaaGreat.ar
namespace Go.Proofs
open Go.Shelf
def Tryz.lays125_ren : Go.Shelf.Ren := ⟨fun | 125 => 127 | 128 => 151 | 129 => 152 | n => n, fun | 46 => 154 | 3 => 3 | 51 => 174 | 53 => 26 | 4 => 4 | 5 => 5 | 9 => 9 | n => n, fun | n => n⟩
theorem Tryz.lays125 : Go.Proofs.Lays.n125 Tryz.prog Tryz.lays125_ren := {
  mixed := by kernel_rfl
  f125 := Tryz.func127.trans (congrArg some (by kernel_rfl))
  f128 := Tryz.func151.trans (congrArg some (by kernel_rfl))
  f129 := Tryz.func152.trans (congrArg some (by kernel_rfl))
  t3 := Tryz.underlying3
  a3 := Tryz.isAgg3
  z3 := Tryz.sizeOf3
  v3 := Tryz.zeroValue3
  t4 := Tryz.underlying4
  a4 := Tryz.isAgg4
  z4 := Tryz.sizeOf4
  v4 := Tryz.zeroValue4
  t5 := Tryz.underlying5
  a5 := Tryz.isAgg5
  z5 := Tryz.sizeOf5
  v5 := Tryz.zeroValue5
  t9 := Tryz.underlying9
  a9 := Tryz.isAgg9
  z9 := Tryz.sizeOf9
  v9 := Tryz.zeroValue9
  t46 := Tryz.underlying154
  a46 := Tryz.isAgg154
  z46 := Tryz.sizeOf154
  v46 := Tryz.zeroValue154
  t51 := Tryz.underlying174
  a51 := Tryz.isAgg174
  z51 := Tryz.sizeOf174
  v51 := Tryz.zeroValue174
  t53 := Tryz.underlying26
  a53 := Tryz.isAgg26
  z53 := Tryz.sizeOf26
  v53 := Tryz.zeroValue26 }
theorem Tryz.bits_Len (x : Int) (w : World) (h0 : 0 ≤ x) (h1 : x ≤ 18446744073709551615) :
    Calls Tryz.prog 127 #[.int .u64 x] w fun e w' => e = .returned (.int .i64 (Lib.bitLen x.toNat)) ∧ w' = w := Any.bits_Len Tryz.lays125 x w h0 h1
def Tryz.lays189_ren : Go.Shelf.Ren := ⟨fun | 189 => 96 | 125 => 127 | 257 => 126 | 128 => 151 | 129 => 152 | 294 => 142 | 295 => 143 | 296 => 144 | 297 => 145 | 298 => 146 | 299 => 147 | 216 => 148 | 300 => 149 | 301 => 150 | 328 => 167 | 329 => 168 | 330 => 169 | 331 => 170 | 332 => 171 | 215 => 157 | 343 => 175 | n => n, fun | 28 => 108 | 3 => 3 | 46 => 154 | 0 => 0 | 51 => 174 | 53 => 26 | 4 => 4 | 183 => 167 | 182 => 166 | 131 => 99 | 5 => 5 | 9 => 9 | 218 => 183 | 222 => 187 | 228 => 191 | 229 => 192 | n => n, fun | n => n⟩
theorem Tryz.lays189 : Go.Proofs.Lays.n189 Tryz.prog Tryz.lays189_ren := {
  mixed := by kernel_rfl
  f125 := Tryz.func127.trans (congrArg some (by kernel_rfl))
  f128 := Tryz.func151.trans (congrArg some (by kernel_rfl))
  f129 := Tryz.func152.trans (congrArg some (by kernel_rfl))
  f189 := Tryz.func96.trans (congrArg some (by kernel_rfl))
  f215 := Tryz.func157.trans (congrArg some (by kernel_rfl))
  f216 := Tryz.func148.trans (congrArg some (by kernel_rfl))
  f257 := Tryz.func126.trans (congrArg some (by kernel_rfl))
  f294 := Tryz.func142.trans (congrArg some (by kernel_rfl))
  f295 := Tryz.func143.trans (congrArg some (by kernel_rfl))
  f296 := Tryz.func144.trans (congrArg some (by kernel_rfl))
  f297 := Tryz.func145.trans (congrArg some (by kernel_rfl))
  f298 := Tryz.func146.trans (congrArg some (by kernel_rfl))
  f299 := Tryz.func147.trans (congrArg some (by kernel_rfl))
  f300 := Tryz.func149.trans (congrArg some (by kernel_rfl))
  f301 := Tryz.func150.trans (congrArg some (by kernel_rfl))
  f328 := Tryz.func167.trans (congrArg some (by kernel_rfl))
  f329 := Tryz.func168.trans (congrArg some (by kernel_rfl))
  f330 := Tryz.func169.trans (congrArg some (by kernel_rfl))
  f331 := Tryz.func170.trans (congrArg some (by kernel_rfl))
  f332 := Tryz.func171.trans (congrArg some (by kernel_rfl))
  f343 := Tryz.func175.trans (congrArg some (by kernel_rfl))
  t0 := Tryz.underlying0
  a0 := Tryz.isAgg0
  z0 := Tryz.sizeOf0
  v0 := Tryz.zeroValue0
  t3 := Tryz.underlying3
  a3 := Tryz.isAgg3
  z3 := Tryz.sizeOf3
  v3 := Tryz.zeroValue3
  t4 := Tryz.underlying4
  a4 := Tryz.isAgg4
  z4 := Tryz.sizeOf4
  v4 := Tryz.zeroValue4
  t5 := Tryz.underlying5
  a5 := Tryz.isAgg5
  z5 := Tryz.sizeOf5
  v5 := Tryz.zeroValue5
  t9 := Tryz.underlying9
  a9 := Tryz.isAgg9
  z9 := Tryz.sizeOf9
  v9 := Tryz.zeroValue9
  t28 := Tryz.underlying108
  a28 := Tryz.isAgg108
  z28 := Tryz.sizeOf108
  v28 := Tryz.zeroValue108
  t46 := Tryz.underlying154
  a46 := Tryz.isAgg154
  z46 := Tryz.sizeOf154
  v46 := Tryz.zeroValue154
  t51 := Tryz.underlying174
  a51 := Tryz.isAgg174
  z51 := Tryz.sizeOf174
  v51 := Tryz.zeroValue174
  t53 := Tryz.underlying26
  a53 := Tryz.isAgg26
  z53 := Tryz.sizeOf26
  v53 := Tryz.zeroValue26
  t131 := Tryz.underlying99
  a131 := Tryz.isAgg99
  z131 := Tryz.sizeOf99
  v131 := Tryz.zeroValue99
  t182 := Tryz.underlying166
  a182 := Tryz.isAgg166
  z182 := Tryz.sizeOf166
  v182 := Tryz.zeroValue166
  t183 := Tryz.underlying167
  a183 := Tryz.isAgg167
  z183 := Tryz.sizeOf167
  v183 := Tryz.zeroValue167
  t218 := Tryz.underlying183
  a218 := Tryz.isAgg183
  z218 := Tryz.sizeOf183
  v218 := Tryz.zeroValue183
  t222 := Tryz.underlying187
  a222 := Tryz.isAgg187
  z222 := Tryz.sizeOf187
  v222 := Tryz.zeroValue187
  t228 := Tryz.underlying191
  a228 := Tryz.isAgg191
  z228 := Tryz.sizeOf191
  v228 := Tryz.zeroValue191
  t229 := Tryz.underlying192
  a229 := Tryz.isAgg192
  z229 := Tryz.sizeOf192
  v229 := Tryz.zeroValue192 }
open Go.Sort Go.RowKit in
theorem Tryz.slices_Sort_int (blk off cap : Nat) (zs : List Int) (w : World) (hH : Holds (Value.int .i64) w blk off zs.toArray) (hblk : blk < w.heap.size) (hsz : zs.length < 4611686018427387904) :
    Calls Tryz.prog 96 #[.slice (some ⟨blk, off, none⟩) zs.length cap] w fun e w' =>
      e = .returned (.tuple #[]) ∧ ∃ n os, w' = grow (putRow (Value.int .i64) (Sort.ahead w n) blk off (zs.mergeSort fun x y => decide (x ≤ y)).toArray) os := Any.slices_Sort_int Tryz.lays189 blk off cap zs w hH hblk hsz
def Tryz.laysNm220_ren : Go.Shelf.Ren := ⟨fun | 20 => 97 | n => n, fun | 22 => 108 | 3 => 3 | 4 => 4 | 0 => 0 | n => n, fun | n => n⟩
theorem Tryz.laysNm220 : Go.Proofs.Lays2.n20 Tryz.prog Tryz.laysNm220_ren := {
  mixed := by kernel_rfl
  f20 := Tryz.func97.trans (congrArg some (by kernel_rfl))
  t0 := Tryz.underlying0
  a0 := Tryz.isAgg0
  z0 := Tryz.sizeOf0
  v0 := Tryz.zeroValue0
  t3 := Tryz.underlying3
  a3 := Tryz.isAgg3
  z3 := Tryz.sizeOf3
  v3 := Tryz.zeroValue3
  t4 := Tryz.underlying4
  a4 := Tryz.isAgg4
  z4 := Tryz.sizeOf4
  v4 := Tryz.zeroValue4
  t22 := Tryz.underlying108
  a22 := Tryz.isAgg108
  z22 := Tryz.sizeOf108
  v22 := Tryz.zeroValue108
  i3 := by kernel_rfl }
open Go.RowKit Go.Lib Go.Sort in
theorem Tryz.slices_Compact_int (blk off cap : Nat) (zs : List Int) (w : World) (hH : Holds (Value.int .i64) w blk off zs.toArray) (hsz : zs.length ≤ 9223372036854775807) (hcap : zs.length ≤ cap) :
    Calls Tryz.prog 97 #[.slice (some ⟨blk, off, none⟩) zs.length cap] w fun e w' => e = .returned (.slice (some ⟨blk, off, none⟩) (Lib.compact zs).length cap) ∧ ∃ q, w' = putRow (Value.int .i64) (Sort.ahead w q) blk off (Lib.compact zs ++ List.replicate (zs.length - (Lib.compact zs).length) 0).toArray := Any.slices_Compact_int Tryz.laysNm220 blk off cap zs w hH hsz hcap
open Go.RowKit Go.Lib Go.Sort in
theorem Tryz.slices_Compact_int_empty (a : Option Addr) (cap : Nat) (w : World) :
    Calls Tryz.prog 97 #[.slice a 0 cap] w fun e w' => e = .returned (.slice a 0 cap) ∧ w' = w := Any.slices_Compact_int_empty Tryz.laysNm220 a cap w
open Go.RowKit Go.Sort in
theorem Tryz.slices_Sort_int_none (p : Option Addr) (cap : Nat) (w : World) :
    Calls Tryz.prog 96 #[.slice p 0 cap] w fun e w' => e = .returned (.tuple #[]) ∧ w' = w := Any.slices_Sort_int_none Tryz.lays189 p cap w
def Tryz.laysSlF14_f137_ren : Go.Shelf.Ren := ⟨fun | 14 => 137 | 20 => 158 | 21 => 159 | 22 => 160 | 23 => 161 | 24 => 162 | 25 => 163 | 26 => 164 | 27 => 165 | 46 => 172 | 47 => 168 | 48 => 169 | 49 => 173 | 50 => 174 | 15 => 127 | 57 => 176 | 28 => 151 | 29 => 152 | n => n, fun | 24 => 108 | 22 => 68 | 3 => 3 | 25 => 140 | 4 => 4 | 0 => 0 | 46 => 167 | 45 => 166 | 50 => 99 | 66 => 183 | 39 => 154 | 55 => 26 | 70 => 187 | 76 => 191 | 77 => 192 | 53 => 174 | 5 => 5 | 9 => 9 | n => n, fun | n => n⟩
theorem Tryz.laysSlF14_f137 : Go.Proofs.SlLaysF.n14 Tryz.prog Tryz.laysSlF14_f137_ren := {
  mixed := by kernel_rfl
  f14 := ⟨Tryz.f137.name, by decide, Tryz.func137.trans (congrArg some (by kernel_rfl))⟩
  f15 := Tryz.func127.trans (congrArg some (by kernel_rfl))
  f20 := ⟨Tryz.f158.name, by decide, Tryz.func158.trans (congrArg some (by kernel_rfl))⟩
  f21 := ⟨Tryz.f159.name, by decide, Tryz.func159.trans (congrArg some (by kernel_rfl))⟩
  f22 := ⟨Tryz.f160.name, by decide, Tryz.func160.trans (congrArg some (by kernel_rfl))⟩
  f23 := ⟨Tryz.f161.name, by decide, Tryz.func161.trans (congrArg some (by kernel_rfl))⟩
  f24 := ⟨Tryz.f162.name, by decide, Tryz.func162.trans (congrArg some (by kernel_rfl))⟩
  f25 := ⟨Tryz.f163.name, by decide, Tryz.func163.trans (congrArg some (by kernel_rfl))⟩
  f26 := ⟨Tryz.f164.name, by decide, Tryz.func164.trans (congrArg some (by kernel_rfl))⟩
  f27 := ⟨Tryz.f165.name, by decide, Tryz.func165.trans (congrArg some (by kernel_rfl))⟩
  f28 := Tryz.func151.trans (congrArg some (by kernel_rfl))
  f29 := Tryz.func152.trans (congrArg some (by kernel_rfl))
  f46 := ⟨Tryz.f172.name, by decide, Tryz.func172.trans (congrArg some (by kernel_rfl))⟩
  f47 := Tryz.func168.trans (congrArg some (by kernel_rfl))
  f48 := Tryz.func169.trans (congrArg some (by kernel_rfl))
  f49 := ⟨Tryz.f173.name, by decide, Tryz.func173.trans (congrArg some (by kernel_rfl))⟩
  f50 := ⟨Tryz.f174.name, by decide, Tryz.func174.trans (congrArg some (by kernel_rfl))⟩
  f57 := ⟨Tryz.f176.name, by decide, Tryz.func176.trans (congrArg some (by kernel_rfl))⟩
  t0 := Tryz.underlying0
  a0 := Tryz.isAgg0
  z0 := Tryz.sizeOf0
  v0 := Tryz.zeroValue0
  t3 := Tryz.underlying3
  a3 := Tryz.isAgg3
  z3 := Tryz.sizeOf3
  v3 := Tryz.zeroValue3
  t4 := Tryz.underlying4
  a4 := Tryz.isAgg4
  z4 := Tryz.sizeOf4
  v4 := Tryz.zeroValue4
  t5 := Tryz.underlying5
  a5 := Tryz.isAgg5
  z5 := Tryz.sizeOf5
  v5 := Tryz.zeroValue5
  t9 := Tryz.underlying9
  a9 := Tryz.isAgg9
  z9 := Tryz.sizeOf9
  v9 := Tryz.zeroValue9
  t22 := Tryz.underlying68
  a22 := Tryz.isAgg68
  z22 := Tryz.sizeOf68
  v22 := Tryz.zeroValue68
  a24 := Tryz.isAgg108
  z24 := Tryz.sizeOf108
  t25 := Tryz.underlying140
  a25 := Tryz.isAgg140
  z25 := Tryz.sizeOf140
  v25 := Tryz.zeroValue140
  t39 := Tryz.underlying154
  a39 := Tryz.isAgg154
  z39 := Tryz.sizeOf154
  v39 := Tryz.zeroValue154
  t45 := Tryz.underlying166
  a45 := Tryz.isAgg166
  z45 := Tryz.sizeOf166
  v45 := Tryz.zeroValue166
  t46 := Tryz.underlying167
  a46 := Tryz.isAgg167
  z46 := Tryz.sizeOf167
  v46 := Tryz.zeroValue167
  t50 := Tryz.underlying99
  a50 := Tryz.isAgg99
  z50 := Tryz.sizeOf99
  v50 := Tryz.zeroValue99
  t53 := Tryz.underlying174
  a53 := Tryz.isAgg174
  z53 := Tryz.sizeOf174
  v53 := Tryz.zeroValue174
  t55 := Tryz.underlying26
  a55 := Tryz.isAgg26
  z55 := Tryz.sizeOf26
  v55 := Tryz.zeroValue26
  t66 := Tryz.underlying183
  a66 := Tryz.isAgg183
  z66 := Tryz.sizeOf183
  v66 := Tryz.zeroValue183
  t70 := Tryz.underlying187
  a70 := Tryz.isAgg187
  z70 := Tryz.sizeOf187
  v70 := Tryz.zeroValue187
  t76 := Tryz.underlying191
  a76 := Tryz.isAgg191
  z76 := Tryz.sizeOf191
  v76 := Tryz.zeroValue191
  t77 := Tryz.underlying192
  a77 := Tryz.isAgg192
  z77 := Tryz.sizeOf192
  v77 := Tryz.zeroValue192 }
open Go.RowKit Go.Lib Go.Sort in
theorem Tryz.pdqsortCmpFunc_all {α : Type} [Inhabited α] (enc : α → Value) (cf : α → α → Int) (g : Nat) (cb : Array Value) (hO : SWO (ltOf cf)) (blk off cap : Nat) (d0 : Array α) (w0 : World) (eg : ∀ args w, (callFunc g args).run Tryz.prog w = .ok (.enter g args) w) (hcmp : CmpLays1 Tryz.prog g cb enc cf blk off d0.size w0) (R : Row1 enc w0 blk off d0) :
    ∀ (N a b limit : Nat) (d : Array α) (w : World), b - a < N → d0.size = d.size → SW enc w0 blk off d w → a ≤ b → b ≤ d.size → d.size < 4611686018427387904 → limit < 4611686018427387904 → Below (ltOf cf) a b d →
    Calls Tryz.prog 137 #[.slice (some ⟨blk, off, none⟩) d.size cap, .int .i64 a, .int .i64 b, .int .i64 limit, .func (.func g) #[] cb] w fun e w' => e = .returned (.tuple #[]) ∧ SW enc w0 blk off (pdq (ltOf cf) d a b limit true true) w' := Any.pdqsortCmpFunc_all Tryz.laysSlF14_f137 enc cf g cb hO blk off cap d0 w0 eg hcmp R
def Tryz.laysSlF014_f137_ren : Go.Shelf.Ren := ⟨fun | 14 => 137 | 20 => 158 | 21 => 159 | 22 => 160 | 23 => 161 | 24 => 162 | 25 => 163 | 26 => 164 | 27 => 165 | 46 => 172 | 47 => 168 | 48 => 169 | 49 => 173 | 50 => 174 | 15 => 127 | 57 => 176 | 28 => 151 | 29 => 152 | n => n, fun | 24 => 108 | 22 => 68 | 3 => 3 | 25 => 140 | 4 => 4 | 0 => 0 | 46 => 167 | 45 => 166 | 50 => 99 | 66 => 183 | 39 => 154 | 55 => 26 | 70 => 187 | 76 => 191 | 77 => 192 | 53 => 174 | 5 => 5 | 9 => 9 | n => n, fun | n => n⟩
theorem Tryz.laysSlF014_f137 : Go.Proofs.SlLaysF0.n14 Tryz.prog Tryz.laysSlF014_f137_ren := {
  mixed := by kernel_rfl
  f14 := ⟨Tryz.f137.name, by decide, Tryz.func137.trans (congrArg some (by kernel_rfl))⟩
  f15 := Tryz.func127.trans (congrArg some (by kernel_rfl))
  f20 := ⟨Tryz.f158.name, by decide, Tryz.func158.trans (congrArg some (by kernel_rfl))⟩
  f21 := ⟨Tryz.f159.name, by decide, Tryz.func159.trans (congrArg some (by kernel_rfl))⟩
  f22 := ⟨Tryz.f160.name, by decide, Tryz.func160.trans (congrArg some (by kernel_rfl))⟩
  f23 := ⟨Tryz.f161.name, by decide, Tryz.func161.trans (congrArg some (by kernel_rfl))⟩
  f24 := ⟨Tryz.f162.name, by decide, Tryz.func162.trans (congrArg some (by kernel_rfl))⟩
  f25 := ⟨Tryz.f163.name, by decide, Tryz.func163.trans (congrArg some (by kernel_rfl))⟩
  f26 := ⟨Tryz.f164.name, by decide, Tryz.func164.trans (congrArg some (by kernel_rfl))⟩
  f27 := ⟨Tryz.f165.name, by decide, Tryz.func165.trans (congrArg some (by kernel_rfl))⟩
  f28 := Tryz.func151.trans (congrArg some (by kernel_rfl))
  f29 := Tryz.func152.trans (congrArg some (by kernel_rfl))
  f46 := ⟨Tryz.f172.name, by decide, Tryz.func172.trans (congrArg some (by kernel_rfl))⟩
  f47 := Tryz.func168.trans (congrArg some (by kernel_rfl))
  f48 := Tryz.func169.trans (congrArg some (by kernel_rfl))
  f49 := ⟨Tryz.f173.name, by decide, Tryz.func173.trans (congrArg some (by kernel_rfl))⟩
  f50 := ⟨Tryz.f174.name, by decide, Tryz.func174.trans (congrArg some (by kernel_rfl))⟩
  f57 := ⟨Tryz.f176.name, by decide, Tryz.func176.trans (congrArg some (by kernel_rfl))⟩
  t0 := Tryz.underlying0
  a0 := Tryz.isAgg0
  z0 := Tryz.sizeOf0
  v0 := Tryz.zeroValue0
  t3 := Tryz.underlying3
  a3 := Tryz.isAgg3
  z3 := Tryz.sizeOf3
  v3 := Tryz.zeroValue3
  t4 := Tryz.underlying4
  a4 := Tryz.isAgg4
  z4 := Tryz.sizeOf4
  v4 := Tryz.zeroValue4
  t5 := Tryz.underlying5
  a5 := Tryz.isAgg5
  z5 := Tryz.sizeOf5
  v5 := Tryz.zeroValue5
  t9 := Tryz.underlying9
  a9 := Tryz.isAgg9
  z9 := Tryz.sizeOf9
  v9 := Tryz.zeroValue9
  t22 := Tryz.underlying68
  a22 := Tryz.isAgg68
  z22 := Tryz.sizeOf68
  v22 := Tryz.zeroValue68
  t25 := Tryz.underlying140
  a25 := Tryz.isAgg140
  z25 := Tryz.sizeOf140
  v25 := Tryz.zeroValue140
  t39 := Tryz.underlying154
  a39 := Tryz.isAgg154
  z39 := Tryz.sizeOf154
  v39 := Tryz.zeroValue154
  t45 := Tryz.underlying166
  a45 := Tryz.isAgg166
  z45 := Tryz.sizeOf166
  v45 := Tryz.zeroValue166
  t46 := Tryz.underlying167
  a46 := Tryz.isAgg167
  z46 := Tryz.sizeOf167
  v46 := Tryz.zeroValue167
  t50 := Tryz.underlying99
  a50 := Tryz.isAgg99
  z50 := Tryz.sizeOf99
  v50 := Tryz.zeroValue99
  t53 := Tryz.underlying174
  a53 := Tryz.isAgg174
  z53 := Tryz.sizeOf174
  v53 := Tryz.zeroValue174
  t55 := Tryz.underlying26
  a55 := Tryz.isAgg26
  z55 := Tryz.sizeOf26
  v55 := Tryz.zeroValue26
  t66 := Tryz.underlying183
  a66 := Tryz.isAgg183
  z66 := Tryz.sizeOf183
  v66 := Tryz.zeroValue183
  t70 := Tryz.underlying187
  a70 := Tryz.isAgg187
  z70 := Tryz.sizeOf187
  v70 := Tryz.zeroValue187
  t76 := Tryz.underlying191
  a76 := Tryz.isAgg191
  z76 := Tryz.sizeOf191
  v76 := Tryz.zeroValue191
  t77 := Tryz.underlying192
  a77 := Tryz.isAgg192
  z77 := Tryz.sizeOf192
  v77 := Tryz.zeroValue192 }
open Go.RowKit Go.Lib Go.Sort in
theorem Tryz.pdqsortCmpFunc_none {α : Type} [Inhabited α] (p : Option Addr) (cap : Nat) (lim : Int) (fv : Value) (w : World) :
    Calls Tryz.prog 137 #[.slice p 0 cap, .int .i64 0, .int .i64 0, .int .i64 lim, fv] w fun e w' => e = .returned (.tuple #[]) ∧ w' = w := AnyF.pdqsortCmpFunc_none Tryz.laysSlF014_f137 p cap lim fv w
end Go.Proofs
namespace Go.Proofs.YtiololnblplloaaGreat.ar
open Go Go.Ev Go.Proofs
def idxI (z : Int) : List Int → Int
  | [] => -1
  | a :: l => if a = z then 0 else if idxI z l < 0 then -1 else idxI z l + 1
theorem idxI_at {z : Int} : ∀ (l : List Int) (i : Nat), l[i]? = some z → (∀ (q : Nat), q < i → l[q]? ≠ some z) → idxI z l = i := by
  intro l
  induction l with
  | nil => intro i h; simp at h
  | cons a l ih =>
    intro i h hq
    cases i with
    | zero => simp at h; subst h; simp only [idxI]; rw [if_pos trivial]; rfl
    | succ i =>
      have h0 := hq 0 (by omega)
      simp at h0
      simp only [idxI]
      rw [if_neg h0, ih i (by simpa using h) fun q hlt => by have := hq (q + 1) (by omega); simpa using this, if_neg (by omega)]
      omega
theorem idxI_none {z : Int} : ∀ (l : List Int), z ∉ l → idxI z l = -1 := by
  intro l
  induction l with
  | nil => intro _; rfl
  | cons a l ih =>
    intro h
    simp only [idxI]
    rw [if_neg (fun e => h (by simp [e])), ih (fun e => h (by simp [e])), if_pos (by omega)]
theorem idxI_pos {z : Int} : ∀ (l : List Int), 0 ≤ idxI z l ↔ z ∈ l := by
  intro l
  induction l with
  | nil => simp [idxI]
  | cons a l ih =>
    simp only [idxI, List.mem_cons]
    by_cases h : a = z
    · rw [if_pos h]; exact ⟨fun _ => .inl h.symm, fun _ => by omega⟩
    · rw [if_neg h]
      by_cases h2 : idxI z l < 0
      · rw [if_pos h2]; exact ⟨fun h' => absurd h' (by omega), fun h' => h'.elim (fun h3 => absurd h3.symm h) fun h3 => absurd (ih.2 h3) (by omega)⟩
      · rw [if_neg h2]; exact ⟨fun _ => .inr (ih.1 (by omega)), fun _ => by omega⟩
theorem index_fn (m : Mem) (v : Value) (l : List Int) (z : Int) (hl : SlI m .i64 v l) : FnV Tryz.prog 129 [v, .int .i64 z] m (.int .i64 (idxI z l)) := by
  obtain ⟨A, n, c, rfl, hn, hc, hm, -⟩ := id hl
  have hcell := hl.cell.2
  have hmx : maxLen = 9223372036854775807 := rfl
  refine Fn.enter (N := 19) hX Tryz.func129 rfl rfl (by show _ ≤ _; simp) (fun w0 hL => ?_)
  conv => whnf
  conv => whnf
  repeat ((first | refine zT ?_ | refine zF ?_ | refine zL hX hL ?_ | refine zB hX hL ?_ | (refine zS hX hL ?_; clear hL; intro w hL) | refine zI ?_ | refine zG hX ?_ | refine zO ?_); conv => whnf)
  refine LoopReq.inv hX (fun j : Nat => [(8, .int .i64 j)]) [0, 1, 7]
    (fun j w => (j ≤ n ∧ ∀ (i : Nat), i < j → l[i]? ≠ some z) ∧ Ev.Loc m [] w0 m [] w) (fun j => n - j) 0
    ⟨⟨by omega, fun i h => absurd h (by omega)⟩, hL⟩ ⟨rfl, trivial⟩ ?_
  clear hL
  rintro j w g ⟨⟨hj, hdone⟩, hL⟩
  conv => whnf
  repeat ((first | refine zT ?_ | refine zF ?_ | refine zL hX hL ?_ | refine zB hX hL ?_ | (refine zS hX hL ?_; clear hL; intro w hL) | refine zI ?_ | refine zG hX ?_ | refine zO ?_); conv => whnf)
  refine BrReq.dec (fun hlt => ?_) (fun hlt => ?_)
  · have hlt' : j < l.length := by omega
    have hx := List.getElem?_eq_getElem hlt'
    obtain ⟨a, ea, hc'⟩ := hcell j _ hx
    generalize l[j] = y at hx hc'
    conv => whnf
    repeat ((first | refine Idx2Req.mk j a rfl (by omega) ea ?_ | refine LdReq.one hX rfl rfl hL hc' ?_ | refine zT ?_ | refine zF ?_ | refine zL hX hL ?_ | refine zB hX hL ?_ | (refine zS hX hL ?_; clear hL; intro w hL) | refine zI ?_ | refine zG hX ?_ | refine zO ?_); conv => whnf)
    by_cases hyz : z = y
    · subst hyz
      conv => whnf
      repeat ((first | refine BrReq.yes rfl ?_ | refine zT ?_ | refine zF ?_ | refine zL hX hL ?_ | refine zB hX hL ?_ | (refine zS hX hL ?_; clear hL; intro w hL) | refine zI ?_ | refine zG hX ?_ | refine zO ?_); conv => whnf)
      exact RetReq.int hL (idxI_at l j hx fun q hq => hdone q hq).symm
    · have hd : ∀ (i : Nat), i < j + 1 → l[i]? ≠ some z := fun i hi e => by
        by_cases h1 : i = j
        · subst h1; rw [hx] at e; cases e; exact hyz rfl
        · exact hdone i (by omega) e
      conv => whnf
      repeat ((first | refine BrReq.no hyz ?_ | refine zT ?_ | refine zF ?_ | refine zL hX hL ?_ | refine zB hX hL ?_ | (refine zS hX hL ?_; clear hL; intro w hL) | refine zI ?_ | refine zG hX ?_ | refine zO ?_); conv => whnf)
      refine ⟨j + 1, ⟨⟨by omega, hd⟩, hL⟩, by first | omega | (simp only; omega) | (simp only [List.length_cons, List.length_append]; omega), ?_, ?_⟩
      · repeat (first | exact trivial | (refine And.intro (by (conv => lhs; whnf) <;> (conv => rhs; whnf) <;> (first | rfl)) ?_))
      · repeat (first | exact trivial | (refine And.intro (by (conv => lhs; whnf) <;> (conv => rhs; whnf) <;> (first | rfl)) ?_))
  · conv => whnf
    repeat ((first | refine zT ?_ | refine zF ?_ | refine zL hX hL ?_ | refine zB hX hL ?_ | (refine zS hX hL ?_; clear hL; intro w hL) | refine zI ?_ | refine zG hX ?_ | refine zO ?_); conv => whnf)
    exact RetReq.int hL (idxI_none l fun h => by
      obtain ⟨i, hi, e⟩ := List.getElem_of_mem h
      exact hdone i (by omega) (by rw [List.getElem?_eq_getElem hi, e])).symm
theorem contains_fn (m : Mem) (v : Value) (l : List Int) (z : Int) (hl : SlI m .i64 v l) : FnV Tryz.prog 103 [v, .int .i64 z] m (.bool (decide (z ∈ l))) := by
  obtain ⟨A, n, c, rfl, -⟩ := id hl
  refine Fn.enter (N := 9) hX Tryz.func103 rfl rfl (by show _ ≤ _; simp) (fun w0 hL => ?_)
  conv => whnf
  conv => whnf
  repeat ((first | refine zT ?_ | refine zF ?_ | refine zL hX hL ?_ | refine zB hX hL ?_ | (refine zS hX hL ?_; clear hL; intro w hL) | refine zI ?_ | refine zG hX ?_ | refine zO ?_); conv => whnf)
  refine CallReq.val (index_fn m _ l z hl) hL ?_
  clear hL
  intro w hL
  conv => whnf
  repeat ((first | refine zT ?_ | refine zF ?_ | refine zL hX hL ?_ | refine zB hX hL ?_ | (refine zS hX hL ?_; clear hL; intro w hL) | refine zI ?_ | refine zG hX ?_ | refine zO ?_); conv => whnf)
  exact RetReq.bool hL (decide_eq_decide.2 (idxI_pos l))
theorem is_fn (m : Mem) (b : Nat) (z y : Int) : FnL Tryz.prog 140 [.int .i64 y, .pointer (some ⟨b, 0, none⟩)] m [(b, .cells (toArr [.int .i64 z]) 3 (0, 0))] (.bool (decide (y = z))) := by
  refine Fn.enter (N := 7) hX Tryz.func140 rfl rfl (by show _ ≤ _; simp) (fun w0 hL => ?_)
  conv => whnf
  generalize keys [(b, Obj.cells (toArr [.int .i64 z]) 3 (0, 0))] = S0 at hL ⊢
  conv => whnf
  repeat ((first | refine zT ?_ | refine zF ?_ | refine zL hX hL ?_ | refine zB hX hL ?_ | (refine zS hX hL ?_; clear hL; intro w hL) | refine zI ?_ | refine zG hX ?_ | refine zO ?_); conv => whnf)
  exact RetReq.mk hL ⟨rfl, rfl, rfl⟩
theorem indexF_fn (m : Mem) (b : Nat) (z : Int) (v : Value) (l : List Int) (hl : SlI m .i64 v l) (hz : z ∉ l) :
    FnL Tryz.prog 94 [v, .func (.func 140) #[] #[.pointer (some ⟨b, 0, none⟩)]] m [(b, .cells (toArr [.int .i64 z]) 3 (0, 0))] (.int .i64 (-1)) := by
  obtain ⟨A, n, c, rfl, hn, hc, hm, -⟩ := id hl
  have hcell := hl.cell.2
  have hmx : maxLen = 9223372036854775807 := rfl
  refine Fn.enter (N := 19) hX Tryz.func94 rfl rfl (by show _ ≤ _; simp) (fun w0 hL => ?_)
  conv => whnf
  generalize keys [(b, Obj.cells (toArr [.int .i64 z]) 3 (0, 0))] = S0 at hL ⊢
  conv => whnf
  repeat ((first | refine zT ?_ | refine zF ?_ | refine zL hX hL ?_ | refine zB hX hL ?_ | (refine zS hX hL ?_; clear hL; intro w hL) | refine zI ?_ | refine zG hX ?_ | refine zO ?_); conv => whnf)
  refine LoopReq.inv hX (fun j : Nat => [(8, .int .i64 j)]) [0, 1, 7]
    (fun j w => j ≤ n ∧ Ev.Loc m S0 w0 m [(b, .cells (toArr [.int .i64 z]) 3 (0, 0))] w) (fun j => n - j) 0
    ⟨by omega, hL⟩ ⟨rfl, trivial⟩ ?_
  clear hL
  rintro j w g ⟨hj, hL⟩
  conv => whnf
  repeat ((first | refine zT ?_ | refine zF ?_ | refine zL hX hL ?_ | refine zB hX hL ?_ | (refine zS hX hL ?_; clear hL; intro w hL) | refine zI ?_ | refine zG hX ?_ | refine zO ?_); conv => whnf)
  refine BrReq.dec (fun hlt => ?_) (fun hlt => ?_)
  · have hlt' : j < l.length := by omega
    have hx := List.getElem?_eq_getElem hlt'
    obtain ⟨a, ea, hc'⟩ := hcell j _ hx
    generalize l[j] = y at hx hc'
    have hyz : ¬ y = z := fun e => hz (e ▸ List.mem_of_getElem? hx)
    conv => whnf
    repeat ((first | refine Idx2Req.mk j a rfl (by omega) ea ?_ | refine LdReq.one hX rfl rfl hL hc' ?_ | refine zT ?_ | refine zF ?_ | refine zL hX hL ?_ | refine zB hX hL ?_ | (refine zS hX hL ?_; clear hL; intro w hL) | refine zI ?_ | refine zG hX ?_ | refine zO ?_); conv => whnf)
    refine CallReq.lo (is_fn m b z y) hL ?_
    clear hL
    intro w hL
    rw [decide_eq_false hyz]
    conv => whnf
    repeat ((first | refine zT ?_ | refine zF ?_ | refine zL hX hL ?_ | refine zB hX hL ?_ | (refine zS hX hL ?_; clear hL; intro w hL) | refine zI ?_ | refine zG hX ?_ | refine zO ?_); conv => whnf)
    refine ⟨j + 1, ⟨by omega, hL⟩, by first | omega | (simp only; omega) | (simp only [List.length_cons, List.length_append]; omega), ?_, ?_⟩
    · repeat (first | exact trivial | (refine And.intro (by (conv => lhs; whnf) <;> (conv => rhs; whnf) <;> (first | rfl)) ?_))
    · repeat (first | exact trivial | (refine And.intro (by (conv => lhs; whnf) <;> (conv => rhs; whnf) <;> (first | rfl)) ?_))
  · conv => whnf
    repeat ((first | refine zT ?_ | refine zF ?_ | refine zL hX hL ?_ | refine zB hX hL ?_ | (refine zS hX hL ?_; clear hL; intro w hL) | refine zI ?_ | refine zG hX ?_ | refine zO ?_); conv => whnf)
    exact RetReq.mk hL ⟨rfl, rfl, rfl⟩
theorem fn_same {P : Program} {f : Nat} {args : List Value} {m : Mem} {v : Value} (h : ∀ w, Calls P f (toArr args) w fun e w' => e = .returned v ∧ w' = w) : FnV P f args m v := by
  intro w hw
  refine (h w).mono ?_
  rintro e w' ⟨rfl, rfl⟩
  exact ⟨v, m, [], rfl, ⟨rfl, rfl, rfl, Nat.le_refl _, fun k hk _ => rfl, hw.sub, fun _ _ _ => by simp [keys], fun x hx => by simp at hx, by simp [keys], fun b hb => by simp [keys] at hb, Mem.Le.refl m, fun b o hb => .inl hb⟩, rfl, rfl⟩
theorem bitsLen_fn (m : Mem) (n : Nat) (h : n ≤ 1000000) : FnV Tryz.prog 127 [.int .u64 n] m (.int .i64 (Lib.bitLen n : Nat)) :=
  fn_same fun w => by
    have := Tryz.bits_Len n w (by omega) (by omega)
    rwa [Int.toNat_natCast] at this
end Go.Proofs.YtiololnblplloaaGreat.ar
namespace Go.Proofs.YtiololnblplloaaGreat.ar
open Go Go.Ev Go.Proofs Go.Sort
theorem putRow_get {w : World} {g q n : Nat} {cur : List Value} {te : TypeId} {os : Array Obj} {zs : List Int} (hg : w.heap[g]? = some (.cells (toArr cur) te (0, 0))) (hn : zs.length = n) (hc : n ≤ cur.length) :
    (grow (putRow (Value.int .i64) (Sort.ahead w q) g 0 zs.toArray) os).heap[g]? = some (.cells (toArr (ints .i64 zs ++ cur.drop n)) te (0, 0)) ∧
    ∀ k, k < w.heap.size → k ≠ g → (grow (putRow (Value.int .i64) (Sort.ahead w q) g 0 zs.toArray) os).heap[k]? = w.heap[k]? := by
  have hgl : g < w.heap.size := heap_lt hg
  have e : ∀ k, k < w.heap.size → (grow (putRow (Value.int .i64) (Sort.ahead w q) g 0 zs.toArray) os).heap[k]? = if g = k then (w.heap[k]?).map (onCells (putCells (Value.int .i64) 0 zs.toArray)) else w.heap[k]? := by
    intro k hk
    show ((w.heap.modify g (onCells (putCells (Value.int .i64) 0 zs.toArray))) ++ os)[k]? = _
    rw [Array.getElem?_append_left (by simpa using hk), Array.getElem?_modify]
  refine ⟨?_, fun k hk hne => by rw [e k hk, if_neg (fun h => hne h.symm)]⟩
  rw [e g hgl, if_pos rfl, hg]
  simp only [Option.map_some, onCells]
  congr 2
  apply Array.ext_getElem?
  intro k
  simp only [putCells, toArr, Array.getElem?_mapIdx, List.getElem?_toArray, List.size_toArray]
  by_cases hk : k < n
  · rw [List.getElem?_append_left (by simp [ints]; omega)]
    rw [List.getElem?_eq_getElem (by omega : k < cur.length)]
    simp only [Option.map_some]
    rw [if_pos ⟨by omega, by omega⟩]
    simp only [ints, List.getElem?_map, Nat.sub_zero]
    rw [List.getElem?_eq_getElem (by omega : k < zs.length)]
    simp [getElem!_pos, show k < zs.length by omega]
  · rw [List.getElem?_append_right (by simp [ints]; omega)]
    simp only [ints, List.length_map, List.getElem?_drop]
    rw [show n + (k - zs.length) = k by omega]
    cases cur[k]? with
    | none => rfl
    | some v => simp only [Option.map_some]; rw [if_neg (by omega)]
theorem loc_row {m : Mem} {w : World} {g q n : Nat} {cur : List Value} {te : TypeId} {os : Array Obj} {zs : List Int} (h : Pre m [(g, .cells (toArr cur) te (0, 0))] w) (hn : zs.length = n) (hc : n ≤ cur.length) :
    Ev.Loc m [g] w m [(g, .cells (toArr (ints .i64 zs ++ cur.drop n)) te (0, 0))] (grow (putRow (Value.int .i64) (Sort.ahead w q) g 0 zs.toArray) os) := by
  have hg := h.own _ List.mem_cons_self
  obtain ⟨h1, h2⟩ := putRow_get (q := q) (os := os) hg hn hc
  have hsz : w.heap.size ≤ (grow (putRow (Value.int .i64) (Sort.ahead w q) g 0 zs.toArray) os).heap.size := by simp
  refine ⟨rfl, rfl, rfl, hsz, fun k hk hs => h2 k hk (fun e => hs (by simp [e])), fun b o hb => ?_, fun b o hb => h.apart b o hb, fun x hx => ?_, h.nodup, fun b hb => .inr hb, Mem.Le.refl m, fun b o hb => .inl hb⟩
  · have h3 := h.sub b o hb
    have hne : b ≠ g := fun e => h.apart b o hb (by simp [keys, e])
    rw [h2 b (heap_lt h3) hne]; exact h3
  · rw [List.mem_singleton.1 hx]; exact h1
theorem holds_own {w : World} {g n : Nat} {cur : List Value} {te : TypeId} {zs : List Int} (hg : w.heap[g]? = some (.cells (toArr cur) te (0, 0))) (hn : zs.length = n) (ht : cur.take n = ints .i64 zs) : Holds (Value.int .i64) w g 0 zs.toArray := by
  intro j hj
  simp only [List.size_toArray] at hj
  have h1 : cur[j]? = some (.int .i64 zs[j]) := by
    have : (cur.take n)[j]? = (ints .i64 zs)[j]? := by rw [ht]
    rw [List.getElem?_take_of_lt (by omega)] at this
    rw [this]; simp [ints, List.getElem?_eq_getElem hj]
  refine ⟨?_, ?_⟩
  · unfold World.cell?
    simp only [hg, Nat.zero_add]
    show (toArr cur)[j]? = _
    rw [toArr, List.getElem?_toArray, h1]
    simp [getElem!_pos, hj]
  · unfold World.frozen?
    simp only [hg]
    simp
def sortI (zs : List Int) : List Int := zs.mergeSort fun x y => decide (x ≤ y)
theorem sortG_fn (m : Mem) (A : Option Addr) (n c : Nat) (zs : List Int) (L1 : Own) (ho : OwnS 3 1 (.slice A n c) (ints .i64 zs) L1) (hb : zs.length ≤ 1000000) :
    Ev.Fn Tryz.prog 96 [.slice A n c] m L1 fun m' L' u => m' = m ∧ u = .tuple (toArr []) ∧ OwnS 3 1 (.slice A n c) (ints .i64 (sortI zs)) L' := by
  obtain ⟨k, hk, ⟨e, h0, rfl⟩ | ⟨g, cap, cur, e, rfl, h1, h2, h3, h4⟩⟩ := ho
  · cases e
    have hz : zs = [] := List.eq_nil_of_length_eq_zero (by simp [ints] at hk; omega)
    subst hz
    intro w hw
    refine (Tryz.slices_Sort_int_none none 0 w).mono ?_
    rintro e w' ⟨rfl, rfl⟩
    exact ⟨_, m, [], rfl, hw.loc, rfl, rfl, by rw [show sortI [] = [] from by unfold sortI; simp]; exact OwnS.nil _ _⟩
  · cases e
    have hzl : zs.length = n := by simpa [ints] using hk
    intro w hw
    have hg := hw.own _ List.mem_cons_self
    rw [Nat.mul_one] at h4
    have hH := holds_own hg hzl h4
    have hcall := Tryz.slices_Sort_int g 0 c zs w hH (heap_lt hg) (by omega)
    rw [hzl] at hcall
    refine hcall.mono ?_
    rintro e w' ⟨rfl, q, os, rfl⟩
    have hsl : (sortI zs).length = n := by unfold sortI; rw [List.length_mergeSort]; exact hzl
    have hcl : n ≤ cur.length := by omega
    refine ⟨_, m, _, rfl, loc_row (zs := sortI zs) hw hsl hcl, rfl, rfl, n, by simp [ints, hsl], .inr ⟨g, c, _, rfl, rfl, h1, h2, ?_, ?_⟩⟩
    · simp [ints, hsl]; omega
    · rw [Nat.mul_one, List.take_left' (by simp [ints, hsl])]
theorem compactG_fn (m : Mem) (A : Option Addr) (n c : Nat) (zs : List Int) (L1 : Own) (ho : OwnS 3 1 (.slice A n c) (ints .i64 zs) L1) (hb : zs.length ≤ 1000000) :
    Ev.Fn Tryz.prog 97 [.slice A n c] m L1 fun m' L' u => m' = m ∧ OwnS 3 1 u (ints .i64 (Lib.compact zs)) L' := by
  obtain ⟨k, hk, ⟨e, h0, rfl⟩ | ⟨g, cap, cur, e, rfl, h1, h2, h3, h4⟩⟩ := ho
  · cases e
    have hz : zs = [] := List.eq_nil_of_length_eq_zero (by simp [ints] at hk; omega)
    subst hz
    intro w hw
    refine (Tryz.slices_Compact_int_empty none 0 w).mono ?_
    rintro e w' ⟨rfl, rfl⟩
    exact ⟨_, m, [], rfl, hw.loc, rfl, OwnS.nil _ _⟩
  · cases e
    have hzl : zs.length = n := by simpa [ints] using hk
    have hcl : (Lib.compact zs).length ≤ zs.length := by
      unfold Lib.compact Lib.compactUpTo
      rw [List.length_map]
      have := List.length_filter_le (Lib.keeps zs.toArray) (List.range zs.length)
      rwa [List.length_range] at this
    intro w hw
    have hg := hw.own _ List.mem_cons_self
    rw [Nat.mul_one] at h4
    have hH := holds_own hg hzl h4
    have hcall := Tryz.slices_Compact_int g 0 c zs w hH (by omega) (by omega)
    generalize Lib.compact zs = ys at hcl hcall ⊢
    rw [hzl] at hcall
    refine hcall.mono ?_
    rintro e w' ⟨rfl, q, rfl⟩
    have hsl : (ys ++ List.replicate (n - ys.length) 0).length = n := by simp; omega
    have hl := loc_row (q := q) (os := #[]) (zs := ys ++ List.replicate (n - ys.length) 0) hw hsl (by omega)
    rw [grow_empty] at hl
    refine ⟨_, m, _, rfl, hl, rfl, ys.length, by simp [ints], .inr ⟨g, c, _, rfl, rfl, by omega, h2, ?_, ?_⟩⟩
    · simp [ints]; omega
    · rw [Nat.mul_one, ints_append, List.append_assoc, List.take_left' (by simp [ints])]
end Go.Proofs.YtiololnblplloaaGreat.ar
