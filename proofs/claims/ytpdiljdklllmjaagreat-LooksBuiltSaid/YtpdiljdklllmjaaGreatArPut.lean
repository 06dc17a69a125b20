/- An arena: its length, its nodes, Put. Conditions: none. -/
import Derived.Test.YtpdiljdklllmjaaGreatArKey

namespace Go.Proofs.YtpdiljdklllmjaaGreat.ar
open Go Go.Ev Go.Proofs

def ndsC (ns : List Nd) : List Value := (ns.map ndC).flatten
theorem nds_rows (ns : List Nd) : ∀ r ∈ ns.map ndC, r.length = 8 := by
  intro r hr
  obtain ⟨x, -, rfl⟩ := List.mem_map.1 hr
  rfl
theorem nds_len (ns : List Nd) : (ndsC ns).length = ns.length * 8 := by
  unfold ndsC; rw [flat_len _ (nds_rows ns), List.length_map]
/-- An arena of one's own. -/
def Ar (ab : Nat) (ns : List Nd) (L : Own) : Prop := ∃ A c mb L1, L = (ab, arO (.slice A ns.length c) mb) :: (mb, mapW (ndW ns 0)) :: L1 ∧ OwnS 61 8 (.slice A ns.length c) (ndsC ns) L1
structure OkA (ns : List Nd) : Prop where
  inn : ∀ x ∈ ns, InN x
  nodup : ns.Nodup
  right : ∀ (i : Nat) (x : Nd), ns[i]? = some x → rightN x i = true
  len : ns.length ≤ 20000
def nodeN (ns : List Nd) (id : Int) : Nd × Bool := if 0 ≤ id ∧ id < ns.length then (ns.getD id.toNat nd0, true) else (nd0, false)

theorem Len_fn (m : Mem) (ab mb n c : Nat) (A : Option Addr) : FnL Tryz.prog 11 [.pointer (some ⟨ab, 0, none⟩)] m [(ab, arO (.slice A n c) mb)] (.int .i64 n) := by
  refine Fn.enter (N := 10) hX Tryz.func11 rfl rfl (by show _ ≤ _; simp) (fun w0 hL => ?_)
  conv => whnf
  generalize keys [(ab, arO (.slice A n c) mb)] = S0 at hL ⊢
  conv => whnf
  repeat ((first | refine UGenReq.nilPtr hX rfl rfl rfl rfl rfl ?_ | refine zT ?_ | refine zF ?_ | refine zL hX hL ?_ | refine zB hX hL ?_ | (refine zS hX hL ?_; clear hL; intro w hL) | refine zI ?_ | refine zG hX ?_ | refine zO ?_); conv => whnf)
  exact RetReq.mk hL ⟨rfl, rfl, rfl⟩

theorem Node_fn (m : Mem) (ab : Nat) (ns : List Nd) (L : Own) (h : Ar ab ns L) (id : Int) :
    FnL Tryz.prog 33 [.pointer (some ⟨ab, 0, none⟩), .int .i64 id] m L (.tuple (toArr [.agg (toArr (ndC (nodeN ns id).1)), .bool (nodeN ns id).2])) := by
  obtain ⟨A, c, mb, L1, rfl, ho⟩ := h
  refine Fn.enter (N := 22) hX Tryz.func33 rfl rfl (by show _ ≤ _; simp) (fun w0 hL => ?_)
  conv => whnf
  generalize keys ((ab, arO (.slice A ns.length c) mb) :: (mb, mapW (ndW ns 0)) :: L1) = S0 at hL ⊢
  refine NewReq.mk hL ?_
  clear hL
  intro b4 w hL
  conv => whnf
  replace hL : Ev.Loc m S0 w0 m ([(ab, arO (.slice A ns.length c) mb)] ++ ((b4, .cells (toArr (ndC nd0)) 61 (0, 0)) :: (mb, mapW (ndW ns 0)) :: L1)) w := hL.perm (List.Perm.swap _ _ _)
  unfold nodeN
  conv => whnf
  repeat ((first | refine zT ?_ | refine zF ?_ | refine zL hX hL ?_ | refine zB hX hL ?_ | (refine zS hX hL ?_; clear hL; intro w hL) | refine zI ?_ | refine zG hX ?_ | refine zO ?_); conv => whnf)
  by_cases h0 : 0 ≤ id
  · conv => whnf
    repeat ((first | refine BrReq.no (by omega) ?_ | refine zT ?_ | refine zF ?_ | refine zL hX hL ?_ | refine zB hX hL ?_ | (refine zS hX hL ?_; clear hL; intro w hL) | refine zI ?_ | refine zG hX ?_ | refine zO ?_); conv => whnf)
    refine CallReq.li (L1 := [(ab, arO (.slice A ns.length c) mb)]) (Len_fn m ab mb ns.length c A) hL ?_
    clear hL
    intro w hL
    replace hL : Ev.Loc m S0 w0 m ((ab, arO (.slice A ns.length c) mb) :: (b4, .cells (toArr (ndC nd0)) 61 (0, 0)) :: (mb, mapW (ndW ns 0)) :: L1) w := hL
    by_cases h1 : id < ns.length
    · obtain ⟨i, rfl⟩ : ∃ i : Nat, id = i := ⟨id.toNat, by omega⟩
      have hi : i < ns.length := by omega
      obtain ⟨g, cur, rfl, rfl, hr, hle⟩ := ho.rowAt (nds_rows ns) (by omega) (i := i) (r := ndC ns[i]) (by rw [List.getElem?_map, List.getElem?_eq_getElem hi]; rfl)
      rw [if_pos ⟨h0, h1⟩]
      conv => whnf
      repeat ((first | refine BrReq.no (by omega) ?_ | refine Idx2Req.mk i _ rfl (by omega) rfl ?_ | refine zT ?_ | refine zF ?_ | refine zL hX hL ?_ | refine zB hX hL ?_ | (refine zS hX hL ?_; clear hL; intro w hL) | refine zI ?_ | refine zG hX ?_ | refine zO ?_); conv => whnf)
      refine LdReq.ownRow hX rfl rfl hL (.t (.t (.t .h))) (r := ndC ns[i]) (by rw [scale_eq, Nat.zero_add]; exact hr) (by rw [scale_eq, Nat.zero_add]; exact hle) ?_
      conv => whnf
      repeat ((first | refine zT ?_ | refine zF ?_ | refine zL hX hL ?_ | refine zB hX hL ?_ | (refine zS hX hL ?_; clear hL; intro w hL) | refine zI ?_ | refine zG hX ?_ | refine zO ?_); conv => whnf)
      refine RetReq.mk (hL.sublist (.cons_cons _ (.cons _ (List.Sublist.refl _)))) ⟨rfl, rfl, ?_⟩
      rw [show ns.getD ((i : Int)).toNat nd0 = ns[i] by simp [List.getD, List.getElem?_eq_getElem hi]]
      rfl
    · rw [if_neg (fun h => h1 h.2)]
      conv => whnf
      repeat ((first | refine BrReq.yes (by omega) ?_ | refine zT ?_ | refine zF ?_ | refine zL hX hL ?_ | refine zB hX hL ?_ | (refine zS hX hL ?_; clear hL; intro w hL) | refine zI ?_ | refine zG hX ?_ | refine zO ?_); conv => whnf)
      exact RetReq.mk (hL.sublist (.cons_cons _ (.cons _ (List.Sublist.refl _)))) ⟨rfl, rfl, rfl⟩
  · rw [if_neg (fun h => h0 h.1)]
    replace hL : Ev.Loc m S0 w0 m ((ab, arO (.slice A ns.length c) mb) :: (b4, .cells (toArr (ndC nd0)) 61 (0, 0)) :: (mb, mapW (ndW ns 0)) :: L1) w := hL
    conv => whnf
    repeat ((first | refine BrReq.yes (by omega) ?_ | refine zT ?_ | refine zF ?_ | refine zL hX hL ?_ | refine zB hX hL ?_ | (refine zS hX hL ?_; clear hL; intro w hL) | refine zI ?_ | refine zG hX ?_ | refine zO ?_); conv => whnf)
    exact RetReq.mk (hL.sublist (.cons_cons _ (.cons _ (List.Sublist.refl _)))) ⟨rfl, rfl, rfl⟩

/-! ### Put -/
def putN (ns : List Nd) (x : Nd) : List Nd × Nat × Int :=
  if rightN x ns.length = false then (ns, 0, 1) else if x ∈ ns then (ns, ns.idxOf x, 0) else if 20000 ≤ ns.length then (ns, 0, 4) else (ns ++ [x], ns.length, 0)
theorem val_inj {x y : Nd} (h : Value.agg (toArr (ndC x)) = Value.agg (toArr (ndC y))) : x = y := by
  injection h with h
  exact ndC_inj (by simpa [toArr] using congrArg Array.toList h)
theorem ndW_mem : ∀ {ns : List Nd} {i : Nat} {k v : Value}, (k, v) ∈ ndW ns i → ∃ (j : Nat) (x : Nd), ns[j]? = some x ∧ k = .agg (toArr (ndC x)) ∧ v = .int .i64 ((i + j : Nat) : Int)
  | [], i, k, v, h => by simp [ndW] at h
  | a :: l, i, k, v, h => by
    rcases List.mem_cons.1 h with h | h
    · cases h; exact ⟨0, a, rfl, rfl, rfl⟩
    · obtain ⟨j, x, h1, h2, h3⟩ := ndW_mem h
      exact ⟨j + 1, x, by simpa using h1, h2, by rw [h3]; congr 1; omega⟩
theorem ndW_of {x : Nd} : ∀ {ns : List Nd} {i : Nat}, x ∈ ns → ∃ y ∈ ndW ns i, y.1 = .agg (toArr (ndC x))
  | a :: l, i, h => by
    rcases List.mem_cons.1 h with rfl | h
    · exact ⟨_, List.mem_cons_self, rfl⟩
    · obtain ⟨y, hy, e⟩ := ndW_of (i := i + 1) h
      exact ⟨y, List.mem_cons_of_mem _ hy, e⟩
theorem ndW_snoc (x : Nd) : ∀ (ns : List Nd) (i : Nat), ndW (ns ++ [x]) i = ndW ns i ++ [(.agg (toArr (ndC x)), .int .i64 ((i + ns.length : Nat) : Int))]
  | [], i => rfl
  | a :: l, i => by simp only [List.cons_append, ndW, ndW_snoc x l (i + 1), List.length_cons]; rw [show i + 1 + l.length = i + (l.length + 1) by omega]
theorem okA_put {ns : List Nd} (h : OkA ns) {x : Nd} (hx : InN x) : OkA (putN ns x).1 := by
  unfold putN
  split
  · exact h
  rename_i h1
  split
  · exact h
  rename_i h2
  split
  · exact h
  rename_i h3
  refine ⟨fun y hy => ?_, ?_, fun i y hy => ?_, by simp; omega⟩
  · rcases List.mem_append.1 hy with hy | hy
    · exact h.inn y hy
    · rw [List.mem_singleton.1 hy]; exact hx
  · exact List.nodup_append.2 ⟨h.nodup, by simp, fun a ha b hb => by rw [List.mem_singleton.1 hb]; exact fun e => h2 (e ▸ ha)⟩
  · by_cases hi : i < ns.length
    · rw [List.getElem?_append_left hi] at hy; exact h.right i y hy
    · rw [List.getElem?_append_right (by omega)] at hy
      have : i - ns.length = 0 := by have := (List.getElem?_eq_some_iff.1 hy).1; simp at this; omega
      rw [this] at hy
      cases hy
      have : i = ns.length := by omega
      rw [this]; simpa using h1

set_option maxHeartbeats 2000000 in
theorem Put_fn (m : Mem) (ab : Nat) (ns : List Nd) (L : Own) (h : Ar ab ns L) (hO : OkA ns) (x : Nd) (hx : InN x) :
    Ev.Fn Tryz.prog 71 [.pointer (some ⟨ab, 0, none⟩), .agg (toArr (ndC x))] m L fun m' L' u => m' = m ∧ u = .tuple (toArr [.int .i64 ((putN ns x).2.1 : Nat), .int .i64 (putN ns x).2.2]) ∧ Ar ab (putN ns x).1 L' := by
  obtain ⟨A, c, mb, L1, rfl, ho⟩ := h
  have hlen := hO.len
  have hkeys := ndW_keys hO.inn 0
  refine Fn.enter (N := 55) hX Tryz.func71 rfl rfl (by show _ ≤ _; simp) (fun w0 hL => ?_)
  conv => whnf
  generalize keys ((ab, arO (.slice A ns.length c) mb) :: (mb, mapW (ndW ns 0)) :: L1) = S0 at hL ⊢
  refine NewReq.mk hL ?_
  clear hL
  intro b3 w hL
  conv => whnf
  replace hL : Ev.Loc m S0 w0 m ([(ab, arO (.slice A ns.length c) mb)] ++ ((b3, .cells (toArr (ndC x)) 61 (0, 0)) :: (mb, mapW (ndW ns 0)) :: L1)) w := hL.perm (List.Perm.swap _ _ _)
  conv => whnf
  repeat ((first | refine UGenReq.nilPtr hX rfl rfl rfl rfl rfl ?_ | refine zT ?_ | refine zF ?_ | refine zL hX hL ?_ | refine zB hX hL ?_ | (refine zS hX hL ?_; clear hL; intro w hL) | refine zI ?_ | refine zG hX ?_ | refine zO ?_); conv => whnf)
  refine CallReq.li (L1 := [(ab, arO (.slice A ns.length c) mb)]) (right_fn m ab mb ns.length c A x) hL ?_
  clear hL
  intro w hL
  replace hL : Ev.Loc m S0 w0 m ((ab, arO (.slice A ns.length c) mb) :: (b3, .cells (toArr (ndC x)) 61 (0, 0)) :: (mb, mapW (ndW ns 0)) :: L1) w := hL
  unfold putN
  cases hr : rightN x ns.length with
  | false =>
    rw [if_pos rfl]
    conv => whnf
    repeat ((first | refine zT ?_ | refine zF ?_ | refine zL hX hL ?_ | refine zB hX hL ?_ | (refine zS hX hL ?_; clear hL; intro w hL) | refine zI ?_ | refine zG hX ?_ | refine zO ?_); conv => whnf)
    exact RetReq.mk (hL.sublist (.cons_cons _ (.cons _ (List.Sublist.refl _)))) ⟨rfl, rfl, A, c, mb, L1, rfl, ho⟩
  | true =>
    rw [if_neg (by decide)]
    conv => whnf
    repeat ((first | refine zT ?_ | refine zF ?_ | refine zL hX hL ?_ | refine zB hX hL ?_ | (refine zS hX hL ?_; clear hL; intro w hL) | refine zI ?_ | refine zG hX ?_ | refine zO ?_); conv => whnf)
    have hsub : ∀ w, Ev.Loc m S0 w0 m ((ab, arO (.slice A ns.length c) mb) :: (b3, .cells (toArr (ndC x)) 61 (0, 0)) :: (mb, mapW (ndW ns 0)) :: L1) w → Ev.Loc m S0 w0 m [(ab, arO (.slice A ns.length c) mb), (b3, .cells (toArr (ndC x)) 61 (0, 0))] w := fun w h => h.sublist (.cons_cons _ (.cons_cons _ (List.nil_sublist _)))
    refine DrawReq.plan hX (.fst 0 (.fst 1 (.fst 2 (.fst 3 (.fst 4 (.alt 5 (.fst 6 (.fst 7 (.fst 8 (.fst 9 (.fst 10 (.done)))))) (.stop))))))) [(ab, arO (.slice A ns.length c) mb), (b3, .cells (toArr (ndC x)) 61 (0, 0))] (by kernel_rfl) (by kernel_rfl) hL (hsub _) ?_
    clear hL
    intro w hL
    conv => whnf
    repeat ((first | refine zQ hX ?_ | refine zR hX ?_ | refine zA ?_ | refine zT ?_ | refine zF ?_ | refine zL hX hL ?_ | refine zB hX hL ?_ | (refine zS hX hL ?_; clear hL; intro w hL) | refine zI ?_ | refine zG hX ?_ | refine zO ?_); conv => whnf)
    refine RunReq.lookW hX rfl rfl key_nd (z := .int .i64 0) (by kernel_rfl) hL (.t (.t .h)) (isK_nd x hx) hkeys (fun hno => ?_) (fun v hv => ?_)
    · have hnm : x ∉ ns := fun hm => by
        obtain ⟨y, hy, e⟩ := ndW_of (i := 0) hm
        exact hno y hy e
      rw [if_neg hnm]
      refine SReq.mk (hsub _ hL) ?_
      conv => whnf
      repeat ((first | refine zQ hX ?_ | refine zR hX ?_ | refine zA ?_ | refine zT ?_ | refine zF ?_ | refine zL hX hL ?_ | refine zB hX hL ?_ | (refine zS hX hL ?_; clear hL; intro w hL) | refine zI ?_ | refine zG hX ?_ | refine zO ?_); conv => whnf)
      refine BrReq.dec (fun hbig => ?_) (fun hbig => ?_)
      · rw [if_pos (by omega)]
        conv => whnf
        repeat ((first | refine zT ?_ | refine zF ?_ | refine zL hX hL ?_ | refine zB hX hL ?_ | (refine zS hX hL ?_; clear hL; intro w hL) | refine zI ?_ | refine zG hX ?_ | refine zO ?_); conv => whnf)
        exact RetReq.mk (hL.sublist (.cons_cons _ (.cons _ (List.Sublist.refl _)))) ⟨rfl, rfl, A, c, mb, L1, rfl, ho⟩
      rw [if_neg (by omega)]
      conv => whnf
      repeat ((first | refine zT ?_ | refine zF ?_ | refine zL hX hL ?_ | refine zB hX hL ?_ | (refine zS hX hL ?_; clear hL; intro w hL) | refine zI ?_ | refine zG hX ?_ | refine zO ?_); conv => whnf)
      have hb3 : ∀ w, Ev.Loc m S0 w0 m ((ab, arO (.slice A ns.length c) mb) :: (b3, .cells (toArr (ndC x)) 61 (0, 0)) :: (mb, mapW (ndW ns 0)) :: L1) w → Ev.Loc m S0 w0 m [(b3, .cells (toArr (ndC x)) 61 (0, 0))] w := fun w h => h.sublist (.cons _ (.cons_cons _ (List.nil_sublist _)))
      refine DrawReq.plan hX (.fst 0 (.fst 1 (.fst 2 (.fst 3 (.fst 5 (.alt 4 (.alt 6 (.alt 7 (.fst 8 (.fst 9 (.alt 10 (.done) (.stop)))) (.stop)) (.stop)) (.alt 6 (.alt 4 (.alt 7 (.fst 8 (.fst 9 (.alt 10 (.done) (.stop)))) (.stop)) (.stop)) (.stop)))))))) [(b3, .cells (toArr (ndC x)) 61 (0, 0))] (by kernel_rfl) (by kernel_rfl) hL (hb3 _) ?_
      clear hL
      intro w hL
      conv => whnf
      repeat ((first | refine zQ hX ?_ | refine zR hX ?_ | refine zA ?_ | refine zT ?_ | refine zF ?_ | refine zL hX hL ?_ | refine zB hX hL ?_ | (refine zS hX hL ?_; clear hL; intro w hL) | refine zI ?_ | refine zG hX ?_ | refine zO ?_); conv => whnf)
      refine alt2 ?_ ?_
      · conv => whnf
        repeat ((first | refine SReq.mk (hb3 _ hL) ?_ | refine zQ hX ?_ | refine zR hX ?_ | refine zA ?_ | refine zT ?_ | refine zF ?_ | refine zL hX hL ?_ | refine zB hX hL ?_ | (refine zS hX hL ?_; clear hL; intro w hL) | refine zI ?_ | refine zG hX ?_ | refine zO ?_); conv => whnf)
        refine NewReq.mk hL ?_
        clear hL
        intro g w hL
        conv => whnf
        replace hL : Ev.Loc m S0 w0 m ((g, .cells (toArr (ndC x)) 61 (0, 0)) :: (ab, arO (.slice A ns.length c) mb) :: (b3, .cells (toArr (ndC x)) 61 (0, 0)) :: (mb, mapW (ndW ns 0)) :: L1) w := hL
        refine SReq.mk (hb3 _ hL.drop) ?_
        conv => whnf
        repeat ((first | refine zQ hX ?_ | refine zR hX ?_ | refine zA ?_ | refine zT ?_ | refine zF ?_ | refine zL hX hL ?_ | refine zB hX hL ?_ | (refine zS hX hL ?_; clear hL; intro w hL) | refine zI ?_ | refine zG hX ?_ | refine zO ?_); conv => whnf)
        refine RunReq.push hX 47 61 rfl rfl rfl rfl rfl ho (L2 := [_, _, _]) (hL.perm (List.Perm.cons _ (List.perm_append_comm (l₁ := [_, _, _]) (l₂ := L1)))) rfl rfl (by rw [nds_len]; show _ + 8 ≤ _; omega) rfl ?_
        clear hL hsub hb3
        intro A2 n2 c2 L2 w hn2 ho2 hL
        have hb3 : ∀ w v, Ev.Loc m S0 w0 m ((ab, arO v mb) :: (b3, .cells (toArr (ndC x)) 61 (0, 0)) :: (mb, mapW (ndW ns 0)) :: L2) w → Ev.Loc m S0 w0 m [(b3, .cells (toArr (ndC x)) 61 (0, 0))] w := fun w v h => h.sublist (.cons _ (.cons_cons _ (List.nil_sublist _)))
        have hL := hL.back
        replace hL : Ev.Loc m S0 w0 m ((ab, arO (.slice A ns.length c) mb) :: (b3, .cells (toArr (ndC x)) 61 (0, 0)) :: (mb, mapW (ndW ns 0)) :: L2) w := hL
        rw [show ndsC ns ++ ndC x = ndsC (ns ++ [x]) by unfold ndsC; simp] at hn2 ho2
        have hn3 : n2 = (ns ++ [x]).length := by
          rw [nds_len] at hn2
          exact (Nat.eq_of_mul_eq_mul_right (show 0 < 8 by omega) hn2).symm
        subst hn3
        refine SReq.mk (hb3 _ _ hL) ?_
        conv => whnf
        repeat ((first | refine zQ hX ?_ | refine zR hX ?_ | refine zA ?_ | refine zT ?_ | refine zF ?_ | refine zL hX hL ?_ | refine zB hX hL ?_ | (refine zS hX hL ?_; clear hL; intro w hL) | refine zI ?_ | refine zG hX ?_ | refine zO ?_); conv => whnf)
        replace hL : Ev.Loc m S0 w0 m ((ab, arO (.slice A2 (ns ++ [x]).length c2) mb) :: (b3, .cells (toArr (ndC x)) 61 (0, 0)) :: (mb, mapW (ndW ns 0)) :: L2) w := hL
        refine SReq.mk (hb3 _ _ hL) ?_
        conv => whnf
        repeat ((first | refine zQ hX ?_ | refine zR hX ?_ | refine zA ?_ | refine zT ?_ | refine zF ?_ | refine zL hX hL ?_ | refine zB hX hL ?_ | (refine zS hX hL ?_; clear hL; intro w hL) | refine zI ?_ | refine zG hX ?_ | refine zO ?_); conv => whnf)
        have hsub : ∀ w, Ev.Loc m S0 w0 m ((ab, arO (.slice A2 (ns ++ [x]).length c2) mb) :: (b3, .cells (toArr (ndC x)) 61 (0, 0)) :: (mb, mapW (ndW ns 0)) :: L2) w → Ev.Loc m S0 w0 m [(ab, arO (.slice A2 (ns ++ [x]).length c2) mb), (b3, .cells (toArr (ndC x)) 61 (0, 0))] w := fun w h => h.sublist (.cons_cons _ (.cons_cons _ (List.nil_sublist _)))
        refine DrawReq.plan hX (.fst 0 (.fst 1 (.fst 2 (.fst 3 (.fst 4 (.fst 5 (.alt 6 (.done) (.stop)))))))) [(ab, arO (.slice A2 (ns ++ [x]).length c2) mb), (b3, .cells (toArr (ndC x)) 61 (0, 0))] (by kernel_rfl) (by kernel_rfl) hL (hsub _) ?_
        clear hL
        intro w hL
        conv => whnf
        repeat ((first | refine zQ hX ?_ | refine zR hX ?_ | refine zA ?_ | refine zT ?_ | refine zF ?_ | refine zL hX hL ?_ | refine zB hX hL ?_ | (refine zS hX hL ?_; clear hL; intro w hL) | refine zI ?_ | refine zG hX ?_ | refine zO ?_); conv => whnf)
        refine RunUReq.updW hX rfl rfl key_nd (k := .agg (toArr (ndC x))) (v := .int .i64 ns.length) 2 hL rfl (isK_nd x hx) hkeys (fun _ w hL => ?_) (fun q u hq => ?_)
        rotate_left
        · refine absurd ?_ hnm
          obtain ⟨j, y, hj, e1, -⟩ := ndW_mem (List.mem_of_getElem? hq)
          obtain rfl := val_inj e1
          exact List.mem_of_getElem? hj
        replace hL : Ev.Loc m S0 w0 m ((ab, arO (.slice A2 (ns ++ [x]).length c2) mb) :: (b3, .cells (toArr (ndC x)) 61 (0, 0)) :: (mb, mapW (ndW ns 0 ++ [(.agg (toArr (ndC x)), .int .i64 ns.length)])) :: L2) w := hL
        refine SReq.mk (hL.sublist (.cons_cons _ (.cons_cons _ (List.nil_sublist _)))) ?_
        conv => whnf
        repeat ((first | refine zQ hX ?_ | refine zR hX ?_ | refine zA ?_ | refine zT ?_ | refine zF ?_ | refine zL hX hL ?_ | refine zB hX hL ?_ | (refine zS hX hL ?_; clear hL; intro w hL) | refine zI ?_ | refine zG hX ?_ | refine zO ?_); conv => whnf)
        refine RetReq.mk (hL.sublist (.cons_cons _ (.cons _ (List.Sublist.refl _)))) ⟨rfl, rfl, A2, c2, mb, L2, ?_, ho2⟩
        rw [ndW_snoc, Nat.zero_add]
      · conv => whnf
        repeat ((first | refine zQ hX ?_ | refine zR hX ?_ | refine zA ?_ | refine zT ?_ | refine zF ?_ | refine zL hX hL ?_ | refine zB hX hL ?_ | (refine zS hX hL ?_; clear hL; intro w hL) | refine zI ?_ | refine zG hX ?_ | refine zO ?_); conv => whnf)
        refine NewReq.mk hL ?_
        clear hL
        intro g w hL
        conv => whnf
        replace hL : Ev.Loc m S0 w0 m ((g, .cells (toArr (ndC x)) 61 (0, 0)) :: (ab, arO (.slice A ns.length c) mb) :: (b3, .cells (toArr (ndC x)) 61 (0, 0)) :: (mb, mapW (ndW ns 0)) :: L1) w := hL
        refine SReq.mk (hb3 _ hL.drop) ?_
        conv => whnf
        repeat ((first | refine zQ hX ?_ | refine zR hX ?_ | refine zA ?_ | refine zT ?_ | refine zF ?_ | refine zL hX hL ?_ | refine zB hX hL ?_ | (refine zS hX hL ?_; clear hL; intro w hL) | refine zI ?_ | refine zG hX ?_ | refine zO ?_); conv => whnf)
        conv => whnf
        repeat ((first | refine SReq.mk (hb3 _ hL.drop) ?_ | refine zQ hX ?_ | refine zR hX ?_ | refine zA ?_ | refine zT ?_ | refine zF ?_ | refine zL hX hL ?_ | refine zB hX hL ?_ | (refine zS hX hL ?_; clear hL; intro w hL) | refine zI ?_ | refine zG hX ?_ | refine zO ?_); conv => whnf)
        refine RunReq.push hX 47 61 rfl rfl rfl rfl rfl ho (L2 := [_, _, _]) (hL.perm (List.Perm.cons _ (List.perm_append_comm (l₁ := [_, _, _]) (l₂ := L1)))) rfl rfl (by rw [nds_len]; show _ + 8 ≤ _; omega) rfl ?_
        clear hL hsub hb3
        intro A2 n2 c2 L2 w hn2 ho2 hL
        have hb3 : ∀ w v, Ev.Loc m S0 w0 m ((ab, arO v mb) :: (b3, .cells (toArr (ndC x)) 61 (0, 0)) :: (mb, mapW (ndW ns 0)) :: L2) w → Ev.Loc m S0 w0 m [(b3, .cells (toArr (ndC x)) 61 (0, 0))] w := fun w v h => h.sublist (.cons _ (.cons_cons _ (List.nil_sublist _)))
        have hL := hL.back
        replace hL : Ev.Loc m S0 w0 m ((ab, arO (.slice A ns.length c) mb) :: (b3, .cells (toArr (ndC x)) 61 (0, 0)) :: (mb, mapW (ndW ns 0)) :: L2) w := hL
        rw [show ndsC ns ++ ndC x = ndsC (ns ++ [x]) by unfold ndsC; simp] at hn2 ho2
        have hn3 : n2 = (ns ++ [x]).length := by
          rw [nds_len] at hn2
          exact (Nat.eq_of_mul_eq_mul_right (show 0 < 8 by omega) hn2).symm
        subst hn3
        refine SReq.mk (hb3 _ _ hL) ?_
        conv => whnf
        repeat ((first | refine zQ hX ?_ | refine zR hX ?_ | refine zA ?_ | refine zT ?_ | refine zF ?_ | refine zL hX hL ?_ | refine zB hX hL ?_ | (refine zS hX hL ?_; clear hL; intro w hL) | refine zI ?_ | refine zG hX ?_ | refine zO ?_); conv => whnf)
        replace hL : Ev.Loc m S0 w0 m ((ab, arO (.slice A2 (ns ++ [x]).length c2) mb) :: (b3, .cells (toArr (ndC x)) 61 (0, 0)) :: (mb, mapW (ndW ns 0)) :: L2) w := hL
        refine SReq.mk (hb3 _ _ hL) ?_
        conv => whnf
        repeat ((first | refine zQ hX ?_ | refine zR hX ?_ | refine zA ?_ | refine zT ?_ | refine zF ?_ | refine zL hX hL ?_ | refine zB hX hL ?_ | (refine zS hX hL ?_; clear hL; intro w hL) | refine zI ?_ | refine zG hX ?_ | refine zO ?_); conv => whnf)
        have hsub : ∀ w, Ev.Loc m S0 w0 m ((ab, arO (.slice A2 (ns ++ [x]).length c2) mb) :: (b3, .cells (toArr (ndC x)) 61 (0, 0)) :: (mb, mapW (ndW ns 0)) :: L2) w → Ev.Loc m S0 w0 m [(ab, arO (.slice A2 (ns ++ [x]).length c2) mb), (b3, .cells (toArr (ndC x)) 61 (0, 0))] w := fun w h => h.sublist (.cons_cons _ (.cons_cons _ (List.nil_sublist _)))
        refine DrawReq.plan hX (.fst 0 (.fst 1 (.fst 2 (.fst 3 (.fst 4 (.fst 5 (.alt 6 (.done) (.stop)))))))) [(ab, arO (.slice A2 (ns ++ [x]).length c2) mb), (b3, .cells (toArr (ndC x)) 61 (0, 0))] (by kernel_rfl) (by kernel_rfl) hL (hsub _) ?_
        clear hL
        intro w hL
        conv => whnf
        repeat ((first | refine zQ hX ?_ | refine zR hX ?_ | refine zA ?_ | refine zT ?_ | refine zF ?_ | refine zL hX hL ?_ | refine zB hX hL ?_ | (refine zS hX hL ?_; clear hL; intro w hL) | refine zI ?_ | refine zG hX ?_ | refine zO ?_); conv => whnf)
        refine RunUReq.updW hX rfl rfl key_nd (k := .agg (toArr (ndC x))) (v := .int .i64 ns.length) 2 hL rfl (isK_nd x hx) hkeys (fun _ w hL => ?_) (fun q u hq => ?_)
        rotate_left
        · refine absurd ?_ hnm
          obtain ⟨j, y, hj, e1, -⟩ := ndW_mem (List.mem_of_getElem? hq)
          obtain rfl := val_inj e1
          exact List.mem_of_getElem? hj
        replace hL : Ev.Loc m S0 w0 m ((ab, arO (.slice A2 (ns ++ [x]).length c2) mb) :: (b3, .cells (toArr (ndC x)) 61 (0, 0)) :: (mb, mapW (ndW ns 0 ++ [(.agg (toArr (ndC x)), .int .i64 ns.length)])) :: L2) w := hL
        refine SReq.mk (hL.sublist (.cons_cons _ (.cons_cons _ (List.nil_sublist _)))) ?_
        conv => whnf
        repeat ((first | refine zQ hX ?_ | refine zR hX ?_ | refine zA ?_ | refine zT ?_ | refine zF ?_ | refine zL hX hL ?_ | refine zB hX hL ?_ | (refine zS hX hL ?_; clear hL; intro w hL) | refine zI ?_ | refine zG hX ?_ | refine zO ?_); conv => whnf)
        refine RetReq.mk (hL.sublist (.cons_cons _ (.cons _ (List.Sublist.refl _)))) ⟨rfl, rfl, A2, c2, mb, L2, ?_, ho2⟩
        rw [ndW_snoc, Nat.zero_add]
    · obtain ⟨j, y, hj, e1, e2⟩ := ndW_mem hv
      rw [Nat.zero_add] at e2
      subst e2
      obtain rfl := val_inj e1
      have hjl := (List.getElem?_eq_some_iff.1 hj).1
      have hm : x ∈ ns := List.mem_of_getElem? hj
      have hix : ns.idxOf x = j := by
        have := hO.nodup.idxOf_getElem j hjl
        rwa [(List.getElem?_eq_some_iff.1 hj).2] at this
      rw [if_pos hm, hix]
      refine SReq.mk (hsub _ hL) ?_
      conv => whnf
      repeat ((first | refine zQ hX ?_ | refine zR hX ?_ | refine zA ?_ | refine zT ?_ | refine zF ?_ | refine zL hX hL ?_ | refine zB hX hL ?_ | (refine zS hX hL ?_; clear hL; intro w hL) | refine zI ?_ | refine zG hX ?_ | refine zO ?_); conv => whnf)
      exact RetReq.mk (hL.sublist (.cons_cons _ (.cons _ (List.Sublist.refl _)))) ⟨rfl, rfl, A, c, mb, L1, rfl, ho⟩
end Go.Proofs.YtpdiljdklllmjaaGreat.ar
