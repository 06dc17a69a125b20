/- An arena: New, Made, Nodes. Conditions: none. -/
import Derived.Test.YtpdiljdklllmjaaGreatArPut

namespace Go.Proofs.YtpdiljdklllmjaaGreat.ar
open Go Go.Ev Go.Proofs

def isNd (cs : List Value) (x : Nd) : Prop := cs = ndC x
theorem okA_nil : OkA [] := ⟨by simp, by simp, by simp, by simp⟩
theorem New_fn (m : Mem) : Ev.Fn Tryz.prog 9 [] m [] fun m' L' u => m' = m ∧ ∃ ab, u = .pointer (some ⟨ab, 0, none⟩) ∧ Ar ab [] L' := by
  refine Fn.enter (N := 4) hX Tryz.func9 rfl rfl (by show _ ≤ _; simp) (fun w0 hL => ?_)
  conv => whnf
  conv => whnf
  repeat ((first | refine zT ?_ | refine zF ?_ | refine zL hX hL ?_ | refine zB hX hL ?_ | (refine zS hX hL ?_; clear hL; intro w hL) | refine zI ?_ | refine zG hX ?_ | refine zO ?_); conv => whnf)
  refine RunReq.makeMapW hL ?_
  clear hL
  intro mb w hL
  conv => whnf
  repeat ((first | refine zT ?_ | refine zF ?_ | refine zL hX hL ?_ | refine zB hX hL ?_ | (refine zS hX hL ?_; clear hL; intro w hL) | refine zI ?_ | refine zG hX ?_ | refine zO ?_); conv => whnf)
  refine NewReq.mk hL ?_
  clear hL
  intro ab w hL
  conv => whnf
  replace hL : Ev.Loc m [] w0 m ((ab, arO (.slice none 0 0) mb) :: (mb, mapW (ndW [] 0)) :: []) w := hL
  exact RetReq.mk hL ⟨rfl, ab, rfl, none, 0, mb, [], rfl, OwnS.nil _ _⟩

def madeN (l : List Nd) (ns : List Nd) : List Nd := l.foldl (fun ns x => (putN ns x).1) ns
theorem okA_made : ∀ (l ns : List Nd), OkA ns → (∀ x ∈ l, InN x) → OkA (madeN l ns)
  | [], ns, h, _ => h
  | x :: l, ns, h, hl => okA_made l _ (okA_put h (hl x (by simp))) fun y hy => hl y (by simp [hy])
theorem Nodes_fn (m : Mem) (ab : Nat) (ns : List Nd) (L : Own) (hA : Ar ab ns L) (hO : OkA ns) :
    Ev.Fn Tryz.prog 13 [.pointer (some ⟨ab, 0, none⟩)] m L fun m' L' u => L' = L ∧ Sl m' 8 isNd u ns := by
  have hlen := hO.len
  refine Fn.enter (N := 24) hX Tryz.func13 rfl rfl (by show _ ≤ _; simp) (fun w0 hL => ?_)
  conv => whnf
  generalize keys L = S0 at hL ⊢
  have hA2 := hA
  obtain ⟨A, c, mb, L1, rfl, ho⟩ := hA2
  conv => whnf
  repeat ((first | refine zT ?_ | refine zF ?_ | refine zL hX hL ?_ | refine zB hX hL ?_ | (refine zS hX hL ?_; clear hL; intro w hL) | refine zI ?_ | refine zG hX ?_ | refine zO ?_); conv => whnf)
  refine CallReq.li (L1 := [(ab, arO (.slice A ns.length c) mb)]) (L2 := (mb, mapW (ndW ns 0)) :: L1) (Len_fn m ab mb ns.length c A) hL ?_
  clear hL
  intro w hL
  replace hL : Ev.Loc m S0 w0 m ((ab, arO (.slice A ns.length c) mb) :: (mb, mapW (ndW ns 0)) :: L1) w := hL
  generalize hLa : (ab, arO (.slice A ns.length c) mb) :: (mb, mapW (ndW ns 0)) :: L1 = La at hL hA ⊢
  clear hLa ho
  conv => whnf
  repeat ((first | refine zT ?_ | refine zF ?_ | refine zL hX hL ?_ | refine zB hX hL ?_ | (refine zS hX hL ?_; clear hL; intro w hL) | refine zI ?_ | refine zG hX ?_ | refine zO ?_); conv => whnf)
  refine LoopReq.inv hX (fun s : Nat × Option Addr × Nat × Nat => [(3, .slice s.2.1 s.2.2.1 s.2.2.2), (9, .int .i64 s.1)]) [0, 8]
    (fun s w => s.1 ≤ ns.length ∧ ∃ Lo, OwnS 61 8 (.slice s.2.1 s.2.2.1 s.2.2.2) (ndsC (ns.take s.1)) Lo ∧ Ev.Loc m S0 w0 m (Lo ++ La) w) (fun s => ns.length - s.1) (0, none, 0, 0)
    ⟨by simp, [], OwnS.nil _ _, hL⟩ ⟨rfl, rfl, trivial⟩ ?_
  clear hL
  rintro ⟨j, A1, n1, c1⟩ w f ⟨hj, Lo, ho, hL⟩
  simp only at hj ho
  have hnode := Node_fn m ab ns La hA j
  conv => whnf
  repeat ((first | refine zT ?_ | refine zF ?_ | refine zL hX hL ?_ | refine zB hX hL ?_ | (refine zS hX hL ?_; clear hL; intro w hL) | refine zI ?_ | refine zG hX ?_ | refine zO ?_); conv => whnf)
  refine BrReq.dec (fun hlt => ?_) (fun hlt => ?_)
  · have hlt' : j < ns.length := by simp only at hlt; omega
    have hnd : nodeN ns j = (ns[j], true) := by
      unfold nodeN; rw [if_pos ⟨by omega, by omega⟩]; simp [List.getD, List.getElem?_eq_getElem hlt']
    rw [hnd] at hnode
    have htk : ndsC (ns.take (j + 1)) = ndsC (ns.take j) ++ ndC ns[j] := by
      unfold ndsC; rw [List.take_succ_eq_append_getElem hlt', List.map_append, List.flatten_append]; simp only [List.map_cons, List.map_nil, List.flatten_cons, List.flatten_nil, List.append_nil]
    have hlj := nds_len (ns.take j)
    rw [List.length_take] at hlj
    generalize ns[j] = x at hnode htk
    conv => whnf
    repeat ((first | refine zT ?_ | refine zF ?_ | refine zL hX hL ?_ | refine zB hX hL ?_ | (refine zS hX hL ?_; clear hL; intro w hL) | refine zI ?_ | refine zG hX ?_ | refine zO ?_); conv => whnf)
    refine CallReq.li (L1 := La) hnode hL.back ?_
    clear hL
    intro w hL
    conv => whnf
    repeat ((first | refine zT ?_ | refine zF ?_ | refine zL hX hL ?_ | refine zB hX hL ?_ | (refine zS hX hL ?_; clear hL; intro w hL) | refine zI ?_ | refine zG hX ?_ | refine zO ?_); conv => whnf)
    refine NewReq.mk hL ?_
    clear hL
    intro b5 w hL
    conv => whnf
    replace hL : Ev.Loc m S0 w0 m ((b5, .cells (toArr (ndC nd0)) 61 (0, 0)) :: (La ++ Lo)) w := hL
    conv => whnf
    repeat ((first | refine zT ?_ | refine zF ?_ | refine zL hX hL ?_ | refine zB hX hL ?_ | (refine zS hX hL ?_; clear hL; intro w hL) | refine zI ?_ | refine zG hX ?_ | refine zO ?_); conv => whnf)
    refine NewReq.mk hL ?_
    clear hL
    intro g w hL
    conv => whnf
    replace hL : Ev.Loc m S0 w0 m ((g, .cells (toArr (ndC x)) 61 (0, 0)) :: (b5, .cells (toArr (ndC x)) 61 (0, 0)) :: (La ++ Lo)) w := hL
    conv => whnf
    repeat ((first | refine zT ?_ | refine zF ?_ | refine zL hX hL ?_ | refine zB hX hL ?_ | (refine zS hX hL ?_; clear hL; intro w hL) | refine zI ?_ | refine zG hX ?_ | refine zO ?_); conv => whnf)
    refine RunReq.push hX 47 61 rfl rfl rfl rfl rfl ho (L2 := La) ((hL.sublist (.cons_cons _ (.cons _ (List.Sublist.refl _)))).perm (List.Perm.cons _ List.perm_append_comm)) rfl rfl (by show _ + 8 ≤ _; omega) rfl ?_
    clear hL
    intro A2 n2 c2 L2 w hn2 ho2 hL
    rw [← htk] at ho2
    conv => whnf
    repeat ((first | refine zT ?_ | refine zF ?_ | refine zL hX hL ?_ | refine zB hX hL ?_ | (refine zS hX hL ?_; clear hL; intro w hL) | refine zI ?_ | refine zG hX ?_ | refine zO ?_); conv => whnf)
    refine ⟨(j + 1, A2, n2, c2), ⟨by simp only; omega, L2, ho2, hL⟩, by first | omega | (simp only; omega), ?_, ?_⟩
    · repeat (first | exact trivial | (refine And.intro (by (conv => lhs; whnf) <;> (conv => rhs; whnf) <;> (first | rfl)) ?_))
    · repeat (first | exact trivial | (refine And.intro (by (conv => lhs; whnf) <;> (conv => rhs; whnf) <;> (first | rfl)) ?_))
  · have ej : j = ns.length := by simp only at hlt; omega
    subst ej
    rw [List.take_length] at ho
    conv => whnf
    repeat ((first | refine zT ?_ | refine zF ?_ | refine zL hX hL ?_ | refine zB hX hL ?_ | (refine zS hX hL ?_; clear hL; intro w hL) | refine zI ?_ | refine zG hX ?_ | refine zO ?_); conv => whnf)
    obtain ⟨m', A2, c2, e, hL2, hm2, hsl, -⟩ := OwnS.freezeRows (R := isNd) (l := ns) (by omega) ho hL (nds_rows ns) (by simp) (fun i x hx => ⟨ndC x, by rw [List.getElem?_map, hx]; rfl, rfl⟩)
    exact RetReq.mk hL2 ⟨rfl, hsl⟩
end Go.Proofs.YtpdiljdklllmjaaGreat.ar
