/- norm: members. Conditions: none. -/
import Derived.Test.YtpdiljdklllmjaaGreatNoDel

namespace Go.Proofs.YtpdiljdklllmjaaGreat.ar
open Go Go.Ev Go.Proofs

def kindN (ns : List Nd) (id : Int) : Int := (nodeN ns id).1.k
/-- The members of a kind: what is still to do (the next one first), what was found, what was seen. -/
def memF (ns : List Nd) (kd : Int) : Nat → List Int → List Int → List Int → Option (List Int)
  | 0, _, _, _ => none
  | _ + 1, [], out, _ => some out
  | k + 1, id :: st, out, seen => if id ∈ seen then memF ns kd k st out seen
    else if kindN ns id = kd then memF ns kd k ((nodeN ns id).1.b :: (nodeN ns id).1.a :: st) out (seen ++ [id])
    else memF ns kd k st (out ++ [id]) (seen ++ [id])
def seenW (l : List Int) : List (Value × Value) := l.map fun z => (.int .i64 z, .bool true)
theorem seenW_key {l : List Int} (h : ∀ z ∈ l, i64 z) : ∀ y ∈ seenW l, IsK Tryz.prog 3 y.1 := by
  intro y hy
  obtain ⟨z, hz, rfl⟩ := List.mem_map.1 hy
  exact isK_int z (h z hz)
theorem seenW_mem {l : List Int} {z : Int} {v : Value} (h : ((.int .i64 z, v) : Value × Value) ∈ seenW l) : z ∈ l ∧ v = .bool true := by
  obtain ⟨y, hy, e⟩ := List.mem_map.1 h
  injection e with e1 e2
  injection e1 with _ e3
  exact ⟨e3 ▸ hy, e2.symm⟩
theorem seenW_no {l : List Int} {z : Int} (h : ∀ x ∈ seenW l, x.1 ≠ .int .i64 z) : z ∉ l := fun hm => h (.int .i64 z, .bool true) (List.mem_map.2 ⟨z, hm, rfl⟩) rfl
theorem seenW_set {l : List Int} {z : Int} {q : Nat} {u : Value} (h : (seenW l)[q]? = some (.int .i64 z, u)) : (seenW l).set q (.int .i64 z, .bool true) = seenW l := by
  have h1 := (seenW_mem (List.mem_of_getElem? h)).2
  subst h1
  apply List.ext_getElem?
  intro k
  rw [List.getElem?_set]
  split
  · rename_i e; subst e
    rw [if_pos (List.getElem?_eq_some_iff.1 h).1, h]
  · rfl
def okId (ns : List Nd) (z : Int) : Prop := 0 ≤ z ∧ z < ns.length
theorem okId_i64 {ns : List Nd} (hn : ns.length ≤ 20000) {z : Int} (h : okId ns z) : i64 z := by unfold okId at h; unfold i64; omega
theorem nodeN_ok {ns : List Nd} {z : Int} (h : okId ns z) : ∃ x, nodeN ns z = (x, true) ∧ ns[z.toNat]? = some x := by
  unfold nodeN okId at *
  rw [if_pos h]
  have := List.getElem?_eq_getElem (l := ns) (i := z.toNat) (by omega)
  exact ⟨ns[z.toNat], by simp [List.getD, this], this⟩
theorem okId_parts {ns : List Nd} (hO : OkA ns) {z : Int} (h : okId ns z) (hk : kindN ns z = 3 ∨ kindN ns z = 4 ∨ kindN ns z = 5) : okId ns (nodeN ns z).1.a ∧ okId ns (nodeN ns z).1.b := by
  obtain ⟨x, e1, e2⟩ := nodeN_ok h
  unfold kindN at hk
  rw [e1] at hk ⊢
  simp only at hk ⊢
  have := (right_lt (hO.right _ x e2)).1 hk
  unfold okId at *
  omega

theorem cloneG_fn (m : Mem) (v : Value) (l : List Int) (hl : SlI m .i64 v l) (hb : l.length ≤ 1000000) :
    Ev.Fn Tryz.prog 80 [v] m [] fun m' L' u => m' = m ∧ OwnS 3 1 u (ints .i64 l) L' := by
  by_cases h0 : l = []
  rotate_left
  · exact clone_fn m v l hl h0 hb
  subst h0
  obtain ⟨A, n, c, rfl, hn, hc, hm, -⟩ := id hl
  simp only [List.length_nil] at hn
  subst hn
  cases A with
  | none =>
    refine Fn.enter (N := 8) hX Tryz.func80 rfl rfl (by show _ ≤ _; simp) (fun w0 hL => ?_)
    conv => whnf
    conv => whnf
    repeat ((first | refine zT ?_ | refine zF ?_ | refine zL hX hL ?_ | refine zB hX hL ?_ | (refine zS hX hL ?_; clear hL; intro w hL) | refine zI ?_ | refine zG hX ?_ | refine zO ?_); conv => whnf)
    exact RetReq.mk hL ⟨rfl, OwnS.nil _ _⟩
  | some a =>
    refine Fn.enter (N := 8) hX Tryz.func80 rfl rfl (by show _ ≤ _; simp) (fun w0 hL => ?_)
    conv => whnf
    conv => whnf
    repeat ((first | refine zT ?_ | refine zF ?_ | refine zL hX hL ?_ | refine zB hX hL ?_ | (refine zS hX hL ?_; clear hL; intro w hL) | refine zI ?_ | refine zG hX ?_ | refine zO ?_); conv => whnf)
    refine NewReq.mk hL ?_
    clear hL
    intro g w hL
    conv => whnf
    replace hL : Ev.Loc m [] w0 m ([(g, .cells (toArr []) 3 (0, 0))] ++ []) w := hL
    refine RunReq.append hX 79 3 rfl rfl rfl rfl rfl (OwnS.full (n := 0) (by omega) rfl) hL (news := []) rfl (fun j u hj => by simp at hj) (fun u hu => by simp at hu) (by simp) rfl ?_
    clear hL
    intro A2 n2 c2 L2 w hn2 ho hL
    rw [List.append_nil] at hL
    conv => whnf
    repeat ((first | refine zT ?_ | refine zF ?_ | refine zL hX hL ?_ | refine zB hX hL ?_ | (refine zS hX hL ?_; clear hL; intro w hL) | refine zI ?_ | refine zG hX ?_ | refine zO ?_); conv => whnf)
    exact RetReq.mk hL ⟨rfl, ho⟩

set_option maxHeartbeats 2000000 in
theorem membersG_fn (m : Mem) (ab : Nat) (ns : List Nd) (L : Own) (hA : Ar ab ns L) (hO : OkA ns) (kd : Int) (hkd : kd = 4 ∨ kd = 5) (v : Value) (l : List Int) (hv : SlI m .i64 v l) (hid : ∀ z ∈ l, okId ns z) (hlb : l.length ≤ 1000) (k0 : Nat) (hk0 : k0 ≤ 100000) (res : List Int) (hres : memF ns kd k0 l.reverse [] [] = some res) :
    Ev.Fn Tryz.prog 73 [.pointer (some ⟨ab, 0, none⟩), .int .i64 kd, v] m L fun m' L' u => m' = m ∧ ∃ Lo, L' = Lo ++ L ∧ OwnS 3 1 u (ints .i64 res) Lo := by
  obtain ⟨A, n, c, rfl, -⟩ := id hv
  have hlen := hO.len
  refine Fn.enter (N := 59) hX Tryz.func73 rfl rfl (by show _ ≤ _; simp) (fun w0 hL => ?_)
  conv => whnf
  generalize keys L = S0 at hL ⊢
  conv => whnf
  repeat ((first | refine zT ?_ | refine zF ?_ | refine zL hX hL ?_ | refine zB hX hL ?_ | (refine zS hX hL ?_; clear hL; intro w hL) | refine zI ?_ | refine zG hX ?_ | refine zO ?_); conv => whnf)
  refine RunReq.makeMapW hL ?_
  clear hL
  intro kb w hL
  conv => whnf
  repeat ((first | refine zT ?_ | refine zF ?_ | refine zL hX hL ?_ | refine zB hX hL ?_ | (refine zS hX hL ?_; clear hL; intro w hL) | refine zI ?_ | refine zG hX ?_ | refine zO ?_); conv => whnf)
  refine CallReq.mk (L1 := []) (L2 := (kb, mapW (seenW [])) :: L) (cloneG_fn m _ l hv (by omega)) hL ?_
  clear hL
  rintro u mx Lt w hL - ⟨hmx, ht⟩
  rw [hmx] at hL
  clear hmx mx
  obtain ⟨At, nt, ct, rfl, -⟩ := ht.slice
  conv => whnf
  repeat ((first | refine zT ?_ | refine zF ?_ | refine zL hX hL ?_ | refine zB hX hL ?_ | (refine zS hX hL ?_; clear hL; intro w hL) | refine zI ?_ | refine zG hX ?_ | refine zO ?_); conv => whnf)
  refine LoopReq.inv hX (fun s : Nat × (Option Addr × Nat × Nat) × (Option Addr × Nat × Nat) => [(7, .slice s.2.1.1 s.2.1.2.1 s.2.1.2.2), (9, .slice s.2.2.1 s.2.2.2.1 s.2.2.2.2)]) [0, 1, 8]
    (fun s w => ∃ st out seen, ∃ Lo Lt : Own, (memF ns kd s.1 st out seen = some res ∧ (∀ z ∈ st, okId ns z) ∧ (∀ z ∈ seen, okId ns z) ∧ st.length + 2 * s.1 ≤ 1000 + 2 * k0 ∧ out.length + s.1 ≤ k0) ∧ OwnS 3 1 (.slice s.2.1.1 s.2.1.2.1 s.2.1.2.2) (ints .i64 out) Lo ∧ OwnS 3 1 (.slice s.2.2.1 s.2.2.2.1 s.2.2.2.2) (ints .i64 st.reverse) Lt ∧
      Ev.Loc m S0 w0 m (Lt ++ ((kb, mapW (seenW seen)) :: (Lo ++ L))) w) (fun s => s.1) (k0, (none, 0, 0), (At, nt, ct))
    ⟨l.reverse, [], [], [], Lt, ⟨hres, by simpa using hid, by simp, by simp; omega, by simp⟩, OwnS.nil _ _, by rw [List.reverse_reverse]; exact ht, hL⟩ ⟨rfl, rfl, trivial⟩ ?_
  clear hL ht
  rintro ⟨k, ⟨A1, n1, c1⟩, ⟨A2, n2, c2⟩⟩ w f ⟨st, out, seen, Lo, Lt, ⟨hmem, hst, hseen, hb1, hb2⟩, ho, ht, hL⟩
  simp only at hmem hb1 hb2 ho ht
  obtain ⟨hn2, hnc2, hm2, hget⟩ := owns_get ht
  rw [List.length_reverse] at hn2
  have hmx : maxLen = 9223372036854775807 := rfl
  cases k with
  | zero => simp [memF] at hmem
  | succ k =>
  cases st with
  | nil =>
    rw [memF] at hmem
    cases hmem
    conv => whnf
    repeat ((first | (refine BrReq.no (by simp only [List.length_nil] at hn2; simp only; omega) ?_) | refine zT ?_ | refine zF ?_ | refine zL hX hL ?_ | refine zB hX hL ?_ | (refine zS hX hL ?_; clear hL; intro w hL) | refine zI ?_ | refine zG hX ?_ | refine zO ?_); conv => whnf)
    refine RetReq.mk (L := Lo ++ L) ((Loc.back (L1 := Lt) hL).sublist (.cons _ (List.sublist_append_left _ _))) ⟨rfl, Lo, rfl, ho⟩
  | cons id st =>
    simp only [List.length_cons] at hn2 hb1
    obtain ⟨gt, cur, rfl, rfl, hcl, hct, hcg⟩ := hget (by simp)
    have hc' := hcg st.length id (by simp)
    have hidk := hst id (by simp)
    obtain ⟨x, hx1, hx2⟩ := nodeN_ok hidk
    have hnode := Node_fn m ab ns L hA id
    rw [hx1] at hnode
    simp only at hnode
    have hkx : kindN ns id = x.k := by unfold kindN; rw [hx1]
    have hIK := isK_int id (okId_i64 hlen hidk)
    have hks := seenW_key (fun z hz => okId_i64 hlen (hseen z hz))
    have hc0 : ¬ c2 = 0 := by omega
    have ht2 : OwnS 3 1 (.slice (if c2 = 0 then some ⟨gt, 0, none⟩ else Option.map (fun x : Addr => x.add (scale 0 1)) (some ⟨gt, 0, none⟩)) (n2 - 1 - 0) (c2 - 0)) (ints .i64 st.reverse) [(gt, .cells (toArr cur) 3 (0, 0))] := by
      rw [if_neg hc0]
      have hbk := OwnS.block (te := 3) (size := 1) (g := gt) (n := n2 - 1) (cap := c2) (cur := cur) (by omega) hm2 (by omega)
      have e : cur.take ((n2 - 1) * 1) = ints .i64 st.reverse := by
        rw [Nat.mul_one, show cur.take (n2 - 1) = (cur.take n2).take (n2 - 1) by rw [List.take_take]; congr 1; omega, hct, List.reverse_cons, ints_append, List.take_left' (by simp [ints]; omega)]
      rw [e] at hbk
      exact hbk
    replace hL : Ev.Loc m S0 w0 m ((gt, .cells (toArr cur) 3 (0, 0)) :: (kb, mapW (seenW seen)) :: (Lo ++ L)) w := hL
    conv => whnf
    repeat ((first | (refine BrReq.yes (by simp only; omega) ?_) | (refine Idx2Req.mk st.length _ (by simp only; omega) (by simp only; omega) rfl ?_) | (refine LdReq.ownC hX rfl rfl hL .h (by rw [scale_eq, Nat.zero_add, Nat.mul_one]; exact hc') ?_) | (refine SlReq.mk 0 (n2 - 1) rfl (by simp only; omega) (by omega) (by simp only; omega) ?_) | (refine ArReq.i64 (by simp only; omega) (by simp only; omega) ?_) | refine zT ?_ | refine zF ?_ | refine zL hX hL ?_ | refine zB hX hL ?_ | (refine zS hX hL ?_; clear hL; intro w hL) | refine zI ?_ | refine zG hX ?_ | refine zO ?_); conv => whnf)
    refine CallReq.li (L1 := L) hnode (Loc.back (L1 := (gt, .cells (toArr cur) 3 (0, 0)) :: (kb, mapW (seenW seen)) :: Lo) hL) ?_
    clear hL
    intro w hL
    have hL := Loc.back (L1 := L) hL
    conv => whnf
    repeat ((first | refine zT ?_ | refine zF ?_ | refine zL hX hL ?_ | refine zB hX hL ?_ | (refine zS hX hL ?_; clear hL; intro w hL) | refine zI ?_ | refine zG hX ?_ | refine zO ?_); conv => whnf)
    refine NewReq.mk hL ?_
    clear hL
    intro b11 w hL
    conv => whnf
    replace hL : Ev.Loc m S0 w0 m ((b11, .cells (toArr (ndC nd0)) 61 (0, 0)) :: (gt, .cells (toArr cur) 3 (0, 0)) :: (kb, mapW (seenW seen)) :: (Lo ++ L)) w := hL
    conv => whnf
    repeat ((first | refine zT ?_ | refine zF ?_ | refine zL hX hL ?_ | refine zB hX hL ?_ | (refine zS hX hL ?_; clear hL; intro w hL) | refine zI ?_ | refine zG hX ?_ | refine zO ?_); conv => whnf)
    refine RunReq.lookW hX rfl rfl key_int (z := .bool false) (by kernel_rfl) hL (.t (.t .h)) hIK hks (fun hno => ?_) (fun v hv => ?_)
    · have hns := seenW_no hno
      by_cases hk : x.k = kd
      · have hpt := okId_parts hO hidk (by rw [hkx]; omega)
        rw [hx1] at hpt
        simp only at hpt
        rw [memF, if_neg hns, if_pos (by rw [hkx]; exact hk), hx1] at hmem
        conv => whnf
        repeat ((first | refine BrReq.yes hk ?_ | refine zT ?_ | refine zF ?_ | refine zL hX hL ?_ | refine zB hX hL ?_ | (refine zS hX hL ?_; clear hL; intro w hL) | refine zI ?_ | refine zG hX ?_ | refine zO ?_); conv => whnf)
        refine NewReq.mk hL ?_
        clear hL
        intro g2 w hL
        conv => whnf
        replace hL : Ev.Loc m S0 w0 m ((g2, .cells (toArr [.int .i64 x.a, .int .i64 x.b]) 3 (0, 0)) :: (b11, .cells (toArr (ndC x)) 61 (0, 0)) :: (gt, .cells (toArr cur) 3 (0, 0)) :: (kb, mapW (seenW seen)) :: (Lo ++ L)) w := hL
        have hy : OwnS 3 1 (.slice (some ⟨g2, 0, none⟩) 2 2) (ints .i64 [x.a, x.b]) [(g2, .cells (toArr [.int .i64 x.a, .int .i64 x.b]) 3 (0, 0))] := OwnS.full (n := 2) (by omega) rfl
        refine RunReq.cat hX 79 3 rfl rfl rfl rfl rfl ht2 hy (L2 := (b11, .cells (toArr (ndC x)) 61 (0, 0)) :: (kb, mapW (seenW seen)) :: (Lo ++ L)) (hL.perm (List.Perm.cons _ (List.Perm.swap _ _ _))) (by simp [ints]; exact ⟨rfl, rfl⟩) (by simp [ints]; omega) rfl ?_
        clear hL
        intro A3 n3 c3 L3 w hn3 ho3 hL
        rw [← ints_append] at ho3
        conv => whnf
        repeat ((first | refine zT ?_ | refine zF ?_ | refine zL hX hL ?_ | refine zB hX hL ?_ | (refine zS hX hL ?_; clear hL; intro w hL) | refine zI ?_ | refine zG hX ?_ | refine zO ?_); conv => whnf)
        refine RunUReq.updW hX rfl rfl key_int (k := .int .i64 id) (v := .bool true) 1 (hL.perm (List.perm_append_comm)) rfl hIK hks (fun _ w hL => ?_) (fun q u hq w hL => ?_)
        · have hL := Loc.back (L1 := (b11, .cells (toArr (ndC x)) 61 (0, 0)) :: (kb, mapW (seenW seen ++ [(.int .i64 id, .bool true)])) :: (Lo ++ L)) (L2 := L3) hL
          replace hL : Ev.Loc m S0 w0 m (L3 ++ ((b11, .cells (toArr (ndC x)) 61 (0, 0)) :: (kb, mapW (seenW (seen ++ [id]))) :: (Lo ++ L))) w := by
            rw [show seenW (seen ++ [id]) = seenW seen ++ [(.int .i64 id, .bool true)] from List.map_append ..]; exact hL
          conv => whnf
          repeat ((first | refine zT ?_ | refine zF ?_ | refine zL hX hL ?_ | refine zB hX hL ?_ | (refine zS hX hL ?_; clear hL; intro w hL) | refine zI ?_ | refine zG hX ?_ | refine zO ?_); conv => whnf)
          refine ⟨(k, (A1, n1, c1), (A3, n3, c3)), ⟨x.b :: x.a :: st, out, seen ++ [id], Lo, L3, ⟨hmem, fun z hz => (List.mem_cons.1 hz).elim (fun h => h ▸ hpt.2) fun h => (List.mem_cons.1 h).elim (fun h => h ▸ hpt.1) fun h => hst z (List.mem_cons_of_mem _ h), fun z hz => (List.mem_append.1 hz).elim (hseen z) fun h => (List.mem_singleton.1 h) ▸ hidk, by simp only [List.length_cons]; omega, by simp only; omega⟩, ho, by rw [List.reverse_cons, List.reverse_cons, List.append_assoc]; exact ho3, hL.sublist (List.Sublist.append_left (List.sublist_cons_self _ _) _)⟩, by first | omega | (simp only; omega), ?_, ?_⟩
          · repeat (first | exact trivial | (refine And.intro (by (conv => lhs; whnf) <;> (conv => rhs; whnf) <;> (first | rfl | (rfl))) ?_))
          · repeat (first | exact trivial | (refine And.intro (by (conv => lhs; whnf) <;> (conv => rhs; whnf) <;> (first | rfl | (rfl))) ?_))
        · exact absurd (List.mem_of_getElem? hq) (fun h => hns (seenW_mem h).1)
      · rw [memF, if_neg hns, if_neg (by rw [hkx]; exact hk)] at hmem
        conv => whnf
        repeat ((first | refine BrReq.no hk ?_ | refine zT ?_ | refine zF ?_ | refine zL hX hL ?_ | refine zB hX hL ?_ | (refine zS hX hL ?_; clear hL; intro w hL) | refine zI ?_ | refine zG hX ?_ | refine zO ?_); conv => whnf)
        refine NewReq.mk hL ?_
        clear hL
        intro g2 w hL
        conv => whnf
        replace hL : Ev.Loc m S0 w0 m ((g2, .cells (toArr [.int .i64 id]) 3 (0, 0)) :: (b11, .cells (toArr (ndC x)) 61 (0, 0)) :: (gt, .cells (toArr cur) 3 (0, 0)) :: (kb, mapW (seenW seen)) :: (Lo ++ L)) w := hL
        conv => whnf
        repeat ((first | refine zT ?_ | refine zF ?_ | refine zL hX hL ?_ | refine zB hX hL ?_ | (refine zS hX hL ?_; clear hL; intro w hL) | refine zI ?_ | refine zG hX ?_ | refine zO ?_); conv => whnf)
        refine RunReq.push hX 79 3 rfl rfl rfl rfl rfl ho (L2 := L ++ [_, _, _]) (by rw [← List.append_assoc]; exact hL.perm (List.Perm.cons _ (List.perm_append_comm (l₁ := [_, _, _]) (l₂ := Lo ++ L)))) rfl rfl (by simp [ints]; omega) rfl ?_
        clear hL
        intro A3 n3 c3 L3 w hn3 ho3 hL
        rw [← List.append_assoc] at hL
        have hL := Loc.back (L1 := L3 ++ L) (L2 := [_, _, _]) hL
        replace hL : Ev.Loc m S0 w0 m ((b11, .cells (toArr (ndC x)) 61 (0, 0)) :: (gt, .cells (toArr cur) 3 (0, 0)) :: (kb, mapW (seenW seen)) :: (L3 ++ L)) w := hL
        rw [← show ints .i64 (out ++ [id]) = ints .i64 out ++ [Value.int .i64 id] from ints_append ..] at ho3
        conv => whnf
        repeat ((first | refine zT ?_ | refine zF ?_ | refine zL hX hL ?_ | refine zB hX hL ?_ | (refine zS hX hL ?_; clear hL; intro w hL) | refine zI ?_ | refine zG hX ?_ | refine zO ?_); conv => whnf)
        refine RunUReq.updW hX rfl rfl key_int (k := .int .i64 id) (v := .bool true) 2 hL rfl hIK hks (fun _ w hL => ?_) (fun q u hq w hL => ?_)
        · replace hL : Ev.Loc m S0 w0 m ((b11, .cells (toArr (ndC x)) 61 (0, 0)) :: (gt, .cells (toArr cur) 3 (0, 0)) :: (kb, mapW (seenW (seen ++ [id]))) :: (L3 ++ L)) w := by
            rw [show seenW (seen ++ [id]) = seenW seen ++ [(.int .i64 id, .bool true)] from List.map_append ..]; exact hL
          conv => whnf
          repeat ((first | refine zT ?_ | refine zF ?_ | refine zL hX hL ?_ | refine zB hX hL ?_ | (refine zS hX hL ?_; clear hL; intro w hL) | refine zI ?_ | refine zG hX ?_ | refine zO ?_); conv => whnf)
          refine ⟨(k, (A3, n3, c3), (some ⟨gt, 0, none⟩, n2 - 1, c2)), ⟨st, out ++ [id], seen ++ [id], L3, [_], ⟨hmem, fun z hz => hst z (List.mem_cons_of_mem _ hz), fun z hz => (List.mem_append.1 hz).elim (hseen z) fun h => (List.mem_singleton.1 h) ▸ hidk, by simp only; omega, by simp only [List.length_append, List.length_singleton]; omega⟩, ho3, by rw [if_neg hc0] at ht2; exact ht2, hL.drop⟩, by first | omega | (simp only; omega), ?_, ?_⟩
          · repeat (first | exact trivial | (refine And.intro (by (conv => lhs; whnf) <;> (conv => rhs; whnf) <;> (first | rfl | (rw [if_neg hc0]; rfl))) ?_))
          · repeat (first | exact trivial | (refine And.intro (by (conv => lhs; whnf) <;> (conv => rhs; whnf) <;> (first | rfl | (rw [if_neg hc0]; rfl))) ?_))
        · exact absurd (List.mem_of_getElem? hq) (fun h => hns (seenW_mem h).1)
    · have hm := (seenW_mem hv)
      obtain ⟨hm, rfl⟩ := hm
      rw [memF, if_pos hm] at hmem
      conv => whnf
      repeat ((first | refine zT ?_ | refine zF ?_ | refine zL hX hL ?_ | refine zB hX hL ?_ | (refine zS hX hL ?_; clear hL; intro w hL) | refine zI ?_ | refine zG hX ?_ | refine zO ?_); conv => whnf)
      refine RunUReq.updW hX rfl rfl key_int (k := .int .i64 id) (v := .bool true) 2 hL rfl hIK hks (fun hno _ _ => absurd hm (seenW_no hno)) (fun q u hq w hL => ?_)
      rw [seenW_set hq] at hL
      replace hL : Ev.Loc m S0 w0 m ((b11, .cells (toArr (ndC x)) 61 (0, 0)) :: (gt, .cells (toArr cur) 3 (0, 0)) :: (kb, mapW (seenW seen)) :: (Lo ++ L)) w := hL
      conv => whnf
      repeat ((first | refine zT ?_ | refine zF ?_ | refine zL hX hL ?_ | refine zB hX hL ?_ | (refine zS hX hL ?_; clear hL; intro w hL) | refine zI ?_ | refine zG hX ?_ | refine zO ?_); conv => whnf)
      refine ⟨(k, (A1, n1, c1), (some ⟨gt, 0, none⟩, n2 - 1, c2)), ⟨st, out, seen, Lo, [_], ⟨hmem, fun z hz => hst z (List.mem_cons_of_mem _ hz), hseen, by simp only; omega, by simp only; omega⟩, ho, by rw [if_neg hc0] at ht2; exact ht2, hL.drop⟩, by first | omega | (simp only; omega), ?_, ?_⟩
      · repeat (first | exact trivial | (refine And.intro (by (conv => lhs; whnf) <;> (conv => rhs; whnf) <;> (first | rfl | (rw [if_neg hc0]; rfl))) ?_))
      · repeat (first | exact trivial | (refine And.intro (by (conv => lhs; whnf) <;> (conv => rhs; whnf) <;> (first | rfl | (rw [if_neg hc0]; rfl))) ?_))
end Go.Proofs.YtpdiljdklllmjaaGreat.ar
