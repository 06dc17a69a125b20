/- NormSame, proved. Conditions: none beyond the row's own. -/
import Derived.Test.YtblpobeokfkggaaNoLaws
import Derived.Test.YtblpobeokfkggaaNoAwake
import Derived.Test.YtblpobeokfkggaaRows

namespace Go.Proofs.Ytblpobeokfkggaa.nsm
open Go Go.Ev Go.Proofs Go.ChangeShapes Go.WideShapes Go.ChangeAt Go.RowKit Go.Proofs.Ytblpobeokfkggaa.ar

def isSt (cs : List Value) (s : S4) : Prop := cs = stC s
/-- How long a Cat may be, and how many nodes there may be, after so many steps. -/
def cC : Nat → Nat
  | 0 => 1
  | i + 1 => if i % 5 = 2 then 2 * cC i else cC i
def bN : Nat → Nat
  | 0 => 20
  | i + 1 => bN i + (16 + i) + cC i + 7 * (17 + i) + 9 * cC (i + 1) + 31
theorem cC_pos : ∀ i, 1 ≤ cC i
  | 0 => Nat.le_refl _
  | i + 1 => by unfold cC; have := cC_pos i; split <;> omega
theorem bN_le : ∀ i, i ≤ 30 → bN i ≤ 19900 := by decide +kernel
theorem bN_mono : ∀ i, i < 30 → bN i + (16 + i) + cC i + 7 * (17 + i) + 9 * cC (i + 1) + 31 ≤ 19900 := fun i hi => bN_le (i + 1) (by omega)

set_option maxHeartbeats 4000000 in
theorem walk (m : Mem) (vl vp : Value) (l : List S4) (k : Int) (neg : Bool) (pick : List Int) (hl : Sl m 4 isSt vl l) (hi : ∀ s ∈ l, InS s) (hk : i64 k) (hp : SlI m .u8 vp pick) (hpi : ∀ z ∈ pick, 0 ≤ z ∧ z ≤ 255) : FnV Try.prog 4 [vl, .int .i64 k, .bool neg, vp] m (.bool true) := by
  obtain ⟨A, n, c, rfl, hn, -, hmn, -⟩ := id hl
  obtain ⟨A', n', c', rfl, hn', -, hmn', -⟩ := id hp
  have hle := hl.elem
  have hpc := hp.cell.2
  have hmx : maxLen = 9223372036854775807 := rfl
  refine Fn.enter (N := 164) hX Try.func4 rfl rfl (by show _ ≤ _; simp) (fun w0 hL => ?_)
  conv => whnf
  conv => whnf
  repeat ((first | refine BrReq.tt ?_ | refine BrReq.ff ?_ | (refine' zl hX rfl rfl hL ?_ ?_ ?_; rotate_left 4; (repeat first | exact .h | refine .t ?_); exact rfl) | (refine' zm hX rfl rfl hL ?_ ?_ ?_; rotate_left 3; (repeat first | exact .h | refine .t ?_); exact rfl) | (refine' zs hX rfl rfl rfl hL ?_ ?_ ?_; rotate_left 3; (repeat first | exact .h | apply Sets.t); exact rfl; clear hL; intro w hL) | refine ArReq.i64 (by omega) (by omega) ?_ | refine SeqReq.go hX ?_ | refine OptReq.mk rfl ?_); conv => whnf)
  refine CallReq.val (awake_fn m) hL ?_
  clear hL
  intro w hL
  by_cases h10 : (10 : Int) < n
  · conv => whnf
    repeat ((first | refine BrReq.yes h10 ?_ | refine BrReq.tt ?_ | refine BrReq.ff ?_ | (refine' zl hX rfl rfl hL ?_ ?_ ?_; rotate_left 4; (repeat first | exact .h | refine .t ?_); exact rfl) | (refine' zm hX rfl rfl hL ?_ ?_ ?_; rotate_left 3; (repeat first | exact .h | refine .t ?_); exact rfl) | (refine' zs hX rfl rfl rfl hL ?_ ?_ ?_; rotate_left 3; (repeat first | exact .h | apply Sets.t); exact rfl; clear hL; intro w hL) | refine ArReq.i64 (by omega) (by omega) ?_ | refine SeqReq.go hX ?_ | refine OptReq.mk rfl ?_); conv => whnf)
    refine CallReq.val (awake_fn m) hL ?_
    clear hL
    intro w hL
    conv => whnf
    repeat ((first | refine BrReq.tt ?_ | refine BrReq.ff ?_ | (refine' zl hX rfl rfl hL ?_ ?_ ?_; rotate_left 4; (repeat first | exact .h | refine .t ?_); exact rfl) | (refine' zm hX rfl rfl hL ?_ ?_ ?_; rotate_left 3; (repeat first | exact .h | refine .t ?_); exact rfl) | (refine' zs hX rfl rfl rfl hL ?_ ?_ ?_; rotate_left 3; (repeat first | exact .h | apply Sets.t); exact rfl; clear hL; intro w hL) | refine ArReq.i64 (by omega) (by omega) ?_ | refine SeqReq.go hX ?_ | refine OptReq.mk rfl ?_); conv => whnf)
    exact RetReq.bool hL rfl
  by_cases h30 : (30 : Int) < n'
  · conv => whnf
    repeat ((first | refine BrReq.no h10 ?_ | refine BrReq.yes h30 ?_ | refine BrReq.tt ?_ | refine BrReq.ff ?_ | (refine' zl hX rfl rfl hL ?_ ?_ ?_; rotate_left 4; (repeat first | exact .h | refine .t ?_); exact rfl) | (refine' zm hX rfl rfl hL ?_ ?_ ?_; rotate_left 3; (repeat first | exact .h | refine .t ?_); exact rfl) | (refine' zs hX rfl rfl rfl hL ?_ ?_ ?_; rotate_left 3; (repeat first | exact .h | apply Sets.t); exact rfl; clear hL; intro w hL) | refine ArReq.i64 (by omega) (by omega) ?_ | refine SeqReq.go hX ?_ | refine OptReq.mk rfl ?_); conv => whnf)
    refine CallReq.val (awake_fn m) hL ?_
    clear hL
    intro w hL
    conv => whnf
    repeat ((first | refine BrReq.tt ?_ | refine BrReq.ff ?_ | (refine' zl hX rfl rfl hL ?_ ?_ ?_; rotate_left 4; (repeat first | exact .h | refine .t ?_); exact rfl) | (refine' zm hX rfl rfl hL ?_ ?_ ?_; rotate_left 3; (repeat first | exact .h | refine .t ?_); exact rfl) | (refine' zs hX rfl rfl rfl hL ?_ ?_ ?_; rotate_left 3; (repeat first | exact .h | apply Sets.t); exact rfl; clear hL; intro w hL) | refine ArReq.i64 (by omega) (by omega) ?_ | refine SeqReq.go hX ?_ | refine OptReq.mk rfl ?_); conv => whnf)
    exact RetReq.bool hL rfl
  conv => whnf
  repeat ((first | refine BrReq.no h10 ?_ | refine BrReq.no h30 ?_ | refine BrReq.tt ?_ | refine BrReq.ff ?_ | (refine' zl hX rfl rfl hL ?_ ?_ ?_; rotate_left 4; (repeat first | exact .h | refine .t ?_); exact rfl) | (refine' zm hX rfl rfl hL ?_ ?_ ?_; rotate_left 3; (repeat first | exact .h | refine .t ?_); exact rfl) | (refine' zs hX rfl rfl rfl hL ?_ ?_ ?_; rotate_left 3; (repeat first | exact .h | apply Sets.t); exact rfl; clear hL; intro w hL) | refine ArReq.i64 (by omega) (by omega) ?_ | refine SeqReq.go hX ?_ | refine OptReq.mk rfl ?_); conv => whnf)
  refine CallReq.mk (L1 := []) (L2 := []) (New_fn m) hL ?_
  clear hL
  rintro u mx La w hL - ⟨hmx', ab, rfl, hA⟩
  rw [hmx', List.append_nil] at hL
  clear hmx' mx
  conv => whnf
  repeat ((first | refine BrReq.tt ?_ | refine BrReq.ff ?_ | (refine' zl hX rfl rfl hL ?_ ?_ ?_; rotate_left 4; (repeat first | exact .h | refine .t ?_); exact rfl) | (refine' zm hX rfl rfl hL ?_ ?_ ?_; rotate_left 3; (repeat first | exact .h | refine .t ?_); exact rfl) | (refine' zs hX rfl rfl rfl hL ?_ ?_ ?_; rotate_left 3; (repeat first | exact .h | apply Sets.t); exact rfl; clear hL; intro w hL) | refine ArReq.i64 (by omega) (by omega) ?_ | refine SeqReq.go hX ?_ | refine OptReq.mk rfl ?_); conv => whnf)
  refine CallReq.mk (L1 := La) (L2 := []) (None_fn m ab [] La hA okA_nil) (by rw [List.append_nil]; exact hL) ?_
  clear hL
  rintro u mx La w hL - ⟨hmx', rfl, hA⟩
  rw [hmx', List.append_nil] at hL
  clear hmx' mx
  rw [show (putN [] (ndK 0)).1 = [ndK 0] by decide] at hA
  rw [show putI [] (ndK 0) = 0 by decide]
  have hO1 : OkA [ndK 0] := okA_put okA_nil (x := ndK 0) (inN_k (by omega))
  have hO2 : OkA [ndK 0, ndK 1] := okA_put hO1 (x := ndK 1) (inN_k (by omega))
  conv => whnf
  repeat ((first | refine BrReq.tt ?_ | refine BrReq.ff ?_ | (refine' zl hX rfl rfl hL ?_ ?_ ?_; rotate_left 4; (repeat first | exact .h | refine .t ?_); exact rfl) | (refine' zm hX rfl rfl hL ?_ ?_ ?_; rotate_left 3; (repeat first | exact .h | refine .t ?_); exact rfl) | (refine' zs hX rfl rfl rfl hL ?_ ?_ ?_; rotate_left 3; (repeat first | exact .h | apply Sets.t); exact rfl; clear hL; intro w hL) | refine ArReq.i64 (by omega) (by omega) ?_ | refine SeqReq.go hX ?_ | refine OptReq.mk rfl ?_); conv => whnf)
  refine CallReq.mk (L1 := La) (L2 := []) (Empty_fn m ab [ndK 0] La hA hO1) (by rw [List.append_nil]; exact hL) ?_
  clear hL
  rintro u mx La w hL - ⟨hmx', rfl, hA⟩
  rw [hmx', List.append_nil] at hL
  clear hmx' mx
  rw [show (putN [ndK 0] (ndK 1)).1 = [ndK 0, ndK 1] by decide] at hA
  rw [show putI [ndK 0] (ndK 1) = 1 by decide]
  conv => whnf
  repeat ((first | refine BrReq.tt ?_ | refine BrReq.ff ?_ | (refine' zl hX rfl rfl hL ?_ ?_ ?_; rotate_left 4; (repeat first | exact .h | refine .t ?_); exact rfl) | (refine' zm hX rfl rfl hL ?_ ?_ ?_; rotate_left 3; (repeat first | exact .h | refine .t ?_); exact rfl) | (refine' zs hX rfl rfl rfl hL ?_ ?_ ?_; rotate_left 3; (repeat first | exact .h | apply Sets.t); exact rfl; clear hL; intro w hL) | refine ArReq.i64 (by omega) (by omega) ?_ | refine SeqReq.go hX ?_ | refine OptReq.mk rfl ?_); conv => whnf)
  refine CallReq.mk (L1 := La) (L2 := []) (All_fn m ab [ndK 0, ndK 1] La hA hO2) (by rw [List.append_nil]; exact hL) ?_
  clear hL
  rintro u mx La w hL - ⟨hmx', rfl, hA⟩
  rw [hmx', List.append_nil] at hL
  clear hmx' mx
  rw [show (putN (putN [ndK 0, ndK 1] (ndK 0)).1 (allX [ndK 0, ndK 1])).1 = nsA by decide] at hA
  rw [show putI (putN [ndK 0, ndK 1] (ndK 0)).1 (allX [ndK 0, ndK 1]) = 2 by decide]
  conv => whnf
  repeat ((first | refine BrReq.tt ?_ | refine BrReq.ff ?_ | (refine' zl hX rfl rfl hL ?_ ?_ ?_; rotate_left 4; (repeat first | exact .h | refine .t ?_); exact rfl) | (refine' zm hX rfl rfl hL ?_ ?_ ?_; rotate_left 3; (repeat first | exact .h | refine .t ?_); exact rfl) | (refine' zs hX rfl rfl rfl hL ?_ ?_ ?_; rotate_left 3; (repeat first | exact .h | apply Sets.t); exact rfl; clear hL; intro w hL) | refine ArReq.i64 (by omega) (by omega) ?_ | refine SeqReq.go hX ?_ | refine OptReq.mk rfl ?_); conv => whnf)
  refine NewReq.mk hL ?_
  clear hL
  intro g w hL
  conv => whnf
  replace hL : Ev.Loc m [] w0 m ([(g, .cells (toArr (ints .i64 [0, 1, 2])) 3 (0, 0))] ++ La) w := hL
  have hids : OwnS 3 1 (.slice (some ⟨g, 0, none⟩) 3 3) (ints .i64 [0, 1, 2]) [(g, .cells (toArr (ints .i64 [0, 1, 2])) 3 (0, 0))] := OwnS.full (n := 3) (by decide) rfl
  generalize [(g, Obj.cells (toArr (ints .i64 [0, 1, 2])) 3 (0, 0))] = Lo at hL hids
  conv => whnf
  repeat ((first | refine BrReq.tt ?_ | refine BrReq.ff ?_ | (refine' zl hX rfl rfl hL ?_ ?_ ?_; rotate_left 4; (repeat first | exact .h | refine .t ?_); exact rfl) | (refine' zm hX rfl rfl hL ?_ ?_ ?_; rotate_left 3; (repeat first | exact .h | refine .t ?_); exact rfl) | (refine' zs hX rfl rfl rfl hL ?_ ?_ ?_; rotate_left 3; (repeat first | exact .h | apply Sets.t); exact rfl; clear hL; intro w hL) | refine ArReq.i64 (by omega) (by omega) ?_ | refine SeqReq.go hX ?_ | refine OptReq.mk rfl ?_); conv => whnf)
  refine LoopReq.inv hX (fun s : Nat × Option Addr × Nat × Nat => [(10, .slice s.2.1 s.2.2.1 s.2.2.2), (40, .int .i64 s.1)]) [0, 1, 2, 3, 9, 39, 60, 61]
    (fun s w => s.1 ≤ n ∧ ∃ ns La Lo V, (Ar ab ns La ∧ Clo ns V 1 ∧ V.length = 3 + s.1 ∧ ns.length ≤ 3 + s.1) ∧ OwnS 3 1 (.slice s.2.1 s.2.2.1 s.2.2.2) (ints .i64 V) Lo ∧ Ev.Loc m [] w0 m (Lo ++ La) w) (fun s => n - s.1) (0, some ⟨g, 0, none⟩, 3, 3)
    ⟨by simp, nsA, La, Lo, [0, 1, 2], ⟨hA, clo_A, rfl, Nat.le_refl 3⟩, hids, hL⟩ ⟨rfl, rfl, trivial⟩ ?_
  clear hL hids hA
  rintro ⟨j, A1, n1, c1⟩ w f ⟨hj, ns, La, Lo, V, ⟨hA, hC, hV, hlen⟩, ho, hL⟩
  simp only at hj hV hlen ho
  conv => whnf
  repeat ((first | refine BrReq.tt ?_ | refine BrReq.ff ?_ | (refine' zl hX rfl rfl hL ?_ ?_ ?_; rotate_left 4; (repeat first | exact .h | refine .t ?_); exact rfl) | (refine' zm hX rfl rfl hL ?_ ?_ ?_; rotate_left 3; (repeat first | exact .h | refine .t ?_); exact rfl) | (refine' zs hX rfl rfl rfl hL ?_ ?_ ?_; rotate_left 3; (repeat first | exact .h | apply Sets.t); exact rfl; clear hL; intro w hL) | refine ArReq.i64 (by omega) (by omega) ?_ | refine SeqReq.go hX ?_ | refine OptReq.mk rfl ?_); conv => whnf)
  refine BrReq.dec (fun hlt => ?_) (fun hlt => ?_)
  · have hlt' : j < l.length := by simp only at hlt; omega
    obtain ⟨a, cs', rfl, hl8, hcells, hcs⟩ := hle j _ (List.getElem?_eq_getElem hlt')
    have hcs : cs' = stC l[j] := hcs
    subst hcs
    have hix := hi _ (List.getElem_mem hlt')
    generalize l[j] = s at hl8 hcells hix
    conv => whnf
    repeat ((first | (refine Idx2Req.mk j a rfl (by simp only at hlt ⊢; omega) rfl ?_) | refine LdReq.agg hX rfl rfl hL hl8 hcells ?_ | refine BrReq.tt ?_ | refine BrReq.ff ?_ | (refine' zl hX rfl rfl hL ?_ ?_ ?_; rotate_left 4; (repeat first | exact .h | refine .t ?_); exact rfl) | (refine' zm hX rfl rfl hL ?_ ?_ ?_; rotate_left 3; (repeat first | exact .h | refine .t ?_); exact rfl) | (refine' zs hX rfl rfl rfl hL ?_ ?_ ?_; rotate_left 3; (repeat first | exact .h | apply Sets.t); exact rfl; clear hL; intro w hL) | refine ArReq.i64 (by omega) (by omega) ?_ | refine SeqReq.go hX ?_ | refine OptReq.mk rfl ?_); conv => whnf)
    refine CallReq.mk (L1 := La) (L2 := Lo) (Bytes_fn m ab ns La hA hC.nm.ok s hix) (Loc.back (L1 := Lo) hL) ?_
    clear hL
    rintro u mx La2 w hL - ⟨hmx', rfl, hA2⟩
    rw [hmx'] at hL
    clear hmx' mx
    obtain ⟨hC2, hpre, hl2, -⟩ := hC.bytes (Nat.le_refl 1) hix (by omega)
    generalize bytesN ns s = r at hA2 hC2 hpre hl2 ⊢
    have hL := Loc.back (L1 := La2) hL
    obtain ⟨hn1, -⟩ := owns_get ho
    conv => whnf
    repeat ((first | refine BrReq.tt ?_ | refine BrReq.ff ?_ | (refine' zl hX rfl rfl hL ?_ ?_ ?_; rotate_left 4; (repeat first | exact .h | refine .t ?_); exact rfl) | (refine' zm hX rfl rfl hL ?_ ?_ ?_; rotate_left 3; (repeat first | exact .h | refine .t ?_); exact rfl) | (refine' zs hX rfl rfl rfl hL ?_ ?_ ?_; rotate_left 3; (repeat first | exact .h | apply Sets.t); exact rfl; clear hL; intro w hL) | refine ArReq.i64 (by omega) (by omega) ?_ | refine SeqReq.go hX ?_ | refine OptReq.mk rfl ?_); conv => whnf)
    refine NewReq.mk hL ?_
    clear hL
    intro g2 w hL
    conv => whnf
    replace hL : Ev.Loc m [] w0 m ((g2, .cells (toArr [.int .i64 r.2]) 3 (0, 0)) :: (Lo ++ La2)) w := hL
    conv => whnf
    repeat ((first | refine BrReq.tt ?_ | refine BrReq.ff ?_ | (refine' zl hX rfl rfl hL ?_ ?_ ?_; rotate_left 4; (repeat first | exact .h | refine .t ?_); exact rfl) | (refine' zm hX rfl rfl hL ?_ ?_ ?_; rotate_left 3; (repeat first | exact .h | refine .t ?_); exact rfl) | (refine' zs hX rfl rfl rfl hL ?_ ?_ ?_; rotate_left 3; (repeat first | exact .h | apply Sets.t); exact rfl; clear hL; intro w hL) | refine ArReq.i64 (by omega) (by omega) ?_ | refine SeqReq.go hX ?_ | refine OptReq.mk rfl ?_); conv => whnf)
    refine RunReq.push hX 40 3 rfl rfl rfl rfl rfl ho (L2 := La2) hL rfl rfl (by simp [ints]; omega) rfl ?_
    clear hL
    intro A2 n2 c2 Lo2 w hn2 ho2 hL
    rw [← show ints .i64 (V ++ [r.2]) = ints .i64 V ++ [Value.int .i64 r.2] from ints_append ..] at ho2
    conv => whnf
    repeat ((first | refine BrReq.tt ?_ | refine BrReq.ff ?_ | (refine' zl hX rfl rfl hL ?_ ?_ ?_; rotate_left 4; (repeat first | exact .h | refine .t ?_); exact rfl) | (refine' zm hX rfl rfl hL ?_ ?_ ?_; rotate_left 3; (repeat first | exact .h | refine .t ?_); exact rfl) | (refine' zs hX rfl rfl rfl hL ?_ ?_ ?_; rotate_left 3; (repeat first | exact .h | apply Sets.t); exact rfl; clear hL; intro w hL) | refine ArReq.i64 (by omega) (by omega) ?_ | refine SeqReq.go hX ?_ | refine OptReq.mk rfl ?_); conv => whnf)
    refine ⟨(j + 1, A2, n2, c2), ⟨by simp only at hlt ⊢; omega, r.1, La2, Lo2, V ++ [r.2], ⟨hA2, hC2, by rw [List.length_append]; simp only [List.length_singleton]; omega, by simp only; omega⟩, ho2, hL⟩, by first | omega | (simp only; omega), ?_, ?_⟩
    · repeat (first | exact trivial | (refine And.intro (by (conv => lhs; whnf) <;> (conv => rhs; whnf) <;> (first | rfl)) ?_))
    · repeat (first | exact trivial | (refine And.intro (by (conv => lhs; whnf) <;> (conv => rhs; whnf) <;> (first | rfl)) ?_))
  · have ej : j = n := by simp only at hlt; omega
    subst ej
    clear hlt
    conv => whnf
    repeat ((first | refine BrReq.tt ?_ | refine BrReq.ff ?_ | (refine' zl hX rfl rfl hL ?_ ?_ ?_; rotate_left 4; (repeat first | exact .h | refine .t ?_); exact rfl) | (refine' zm hX rfl rfl hL ?_ ?_ ?_; rotate_left 3; (repeat first | exact .h | refine .t ?_); exact rfl) | (refine' zs hX rfl rfl rfl hL ?_ ?_ ?_; rotate_left 3; (repeat first | exact .h | apply Sets.t); exact rfl; clear hL; intro w hL) | refine ArReq.i64 (by omega) (by omega) ?_ | refine SeqReq.go hX ?_ | refine OptReq.mk rfl ?_); conv => whnf)
    refine CallReq.mk (L1 := La) (L2 := Lo) (Look_fn m ab ns La hA hC.nm.ok k hk neg) (Loc.back (L1 := Lo) hL) ?_
    clear hL
    rintro u mx La2 w hL - ⟨hmx', rfl, hA2⟩
    rw [hmx'] at hL
    clear hmx' mx
    have hL := Loc.back (L1 := La2) hL
    obtain ⟨hn1, -⟩ := owns_get ho
    by_cases hk4 : 0 ≤ k ∧ k < 4
    · obtain ⟨hC2, hpre, hl2, -⟩ := hC.look (Nat.le_refl 1) hk4 neg (by omega)
      generalize lookN ns k neg = r at hA2 hC2 hpre hl2 ⊢
      obtain ⟨hk0, hk4⟩ := hk4
      conv => whnf
      repeat ((first | refine BrReq.yes hk0 ?_ | refine BrReq.yes hk4 ?_ | refine BrReq.tt ?_ | refine BrReq.ff ?_ | (refine' zl hX rfl rfl hL ?_ ?_ ?_; rotate_left 4; (repeat first | exact .h | refine .t ?_); exact rfl) | (refine' zm hX rfl rfl hL ?_ ?_ ?_; rotate_left 3; (repeat first | exact .h | refine .t ?_); exact rfl) | (refine' zs hX rfl rfl rfl hL ?_ ?_ ?_; rotate_left 3; (repeat first | exact .h | apply Sets.t); exact rfl; clear hL; intro w hL) | refine ArReq.i64 (by omega) (by omega) ?_ | refine SeqReq.go hX ?_ | refine OptReq.mk rfl ?_); conv => whnf)
      refine NewReq.mk hL ?_
      clear hL
      intro g2 w hL
      conv => whnf
      replace hL : Ev.Loc m [] w0 m ((g2, .cells (toArr [.int .i64 r.2]) 3 (0, 0)) :: (Lo ++ La2)) w := hL
      conv => whnf
      repeat ((first | refine BrReq.tt ?_ | refine BrReq.ff ?_ | (refine' zl hX rfl rfl hL ?_ ?_ ?_; rotate_left 4; (repeat first | exact .h | refine .t ?_); exact rfl) | (refine' zm hX rfl rfl hL ?_ ?_ ?_; rotate_left 3; (repeat first | exact .h | refine .t ?_); exact rfl) | (refine' zs hX rfl rfl rfl hL ?_ ?_ ?_; rotate_left 3; (repeat first | exact .h | apply Sets.t); exact rfl; clear hL; intro w hL) | refine ArReq.i64 (by omega) (by omega) ?_ | refine SeqReq.go hX ?_ | refine OptReq.mk rfl ?_); conv => whnf)
      refine RunReq.push hX 40 3 rfl rfl rfl rfl rfl ho (L2 := La2) hL rfl rfl (by simp [ints]; omega) rfl ?_
      clear hL
      intro A2 n2 c2 Lo2 w hn2 ho2 hL
      rw [← show ints .i64 (V ++ [r.2]) = ints .i64 V ++ [Value.int .i64 r.2] from ints_append ..] at ho2
      conv => whnf
      repeat ((first | refine BrReq.tt ?_ | refine BrReq.ff ?_ | (refine' zl hX rfl rfl hL ?_ ?_ ?_; rotate_left 4; (repeat first | exact .h | refine .t ?_); exact rfl) | (refine' zm hX rfl rfl hL ?_ ?_ ?_; rotate_left 3; (repeat first | exact .h | refine .t ?_); exact rfl) | (refine' zs hX rfl rfl rfl hL ?_ ?_ ?_; rotate_left 3; (repeat first | exact .h | apply Sets.t); exact rfl; clear hL; intro w hL) | refine ArReq.i64 (by omega) (by omega) ?_ | refine SeqReq.go hX ?_ | refine OptReq.mk rfl ?_); conv => whnf)
      refine LoopReq.inv hX (fun s : Nat × Option Addr × Nat × Nat => [(10, .slice s.2.1 s.2.2.1 s.2.2.2), (71, .int .i64 s.1)]) [3, 9, 70]
        (fun s w => s.1 ≤ n' ∧ ∃ m1 ns La Lo V, (Mem.Le m m1 ∧ Ar ab ns La ∧ Clo ns V (cC s.1) ∧ V.length ≤ 14 + s.1 ∧ ns.length ≤ bN s.1) ∧ OwnS 3 1 (.slice s.2.1 s.2.2.1 s.2.2.2) (ints .i64 V) Lo ∧ Ev.Loc m [] w0 m1 (Lo ++ La) w) (fun s => n' - s.1) (0, A2, n2, c2)
        ⟨by simp, m, _, La2, _, _, ⟨Mem.Le.refl m, hA2, hC2, by first | (simp only [List.length_append, List.length_singleton]; omega) | (simp only; omega), by show _ ≤ 20; first | (simp only; omega) | omega⟩, ho2, hL⟩ ⟨rfl, rfl, trivial⟩ ?_
      clear hL ho hA hC hA2 ho2 hC2
      rintro ⟨i, A3, n3, c3⟩ w f ⟨hj, m1, ns, La, Lo, V, ⟨hm1, hA, hC, hV, hlen⟩, ho, hL⟩
      simp only at hj hC hV hlen ho
      have hp1 : SlI m1 .u8 _ pick := hp.le hm1 (fun _ _ _ h => h)
      have hpc := hp1.cell.2
      clear hp1
      have hcp := cC_pos i
      conv => whnf
      repeat ((first | refine BrReq.tt ?_ | refine BrReq.ff ?_ | (refine' zl hX rfl rfl hL ?_ ?_ ?_; rotate_left 4; (repeat first | exact .h | refine .t ?_); exact rfl) | (refine' zm hX rfl rfl hL ?_ ?_ ?_; rotate_left 3; (repeat first | exact .h | refine .t ?_); exact rfl) | (refine' zs hX rfl rfl rfl hL ?_ ?_ ?_; rotate_left 3; (repeat first | exact .h | apply Sets.t); exact rfl; clear hL; intro w hL) | refine ArReq.i64 (by omega) (by omega) ?_ | refine SeqReq.go hX ?_ | refine OptReq.mk rfl ?_); conv => whnf)
      refine BrReq.dec (fun hlt => ?_) (fun hlt => ?_)
      · have hlt' : i < pick.length := by simp only at hlt; omega
        have hbm := bN_mono i (by omega)
        obtain ⟨a, ea, hc⟩ := hpc i _ (List.getElem?_eq_getElem hlt')
        have hzr := hpi _ (List.getElem_mem hlt')
        generalize pick[i] = z at hc hzr
        obtain ⟨p, rfl⟩ : ∃ p : Nat, z = p := ⟨z.toNat, by omega⟩
        obtain ⟨hn3, hnc3, hm3, hget⟩ := owns_get ho
        obtain ⟨g, cur, rfl, rfl, hcl, hct, hcg⟩ := hget (by rintro rfl; exact absurd hC.v0 (by simp))
        have hVp : 0 < V.length := List.length_pos_of_mem hC.v0
        have hx := hcg (p % V.length) _ (List.getElem?_eq_getElem (Nat.mod_lt _ hVp))
        have hy := hcg ((p * 7 + i) % V.length) _ (List.getElem?_eq_getElem (Nat.mod_lt _ hVp))
        have hxV := List.getElem_mem (Nat.mod_lt p hVp)
        have hyV := List.getElem_mem (Nat.mod_lt (p * 7 + i) hVp)
        have hpl := Nat.mod_lt p hVp
        have hql := Nat.mod_lt (p * 7 + i) hVp
        have hrem : ((p : Int) * 7 + i).tmod n3 = ((p * 7 + i) % V.length : Nat) := by
          rw [hn3, show ((p : Int) * 7 + i) = ((p * 7 + i : Nat) : Int) by push_cast; rfl, tmod_nat]
        generalize V[p % V.length] = x at hx hxV
        generalize V[(p * 7 + i) % V.length] = y at hy hyV
        generalize (p * 7 + i) % V.length = q at hy hql hrem
        replace hL : Ev.Loc m [] w0 m1 ((g, .cells (toArr cur) 3 (0, 0)) :: La) w := hL
        conv => whnf
        repeat ((first | refine BrReq.tt ?_ | refine BrReq.ff ?_ | (refine' zl hX rfl rfl hL ?_ ?_ ?_; rotate_left 4; (repeat first | exact .h | refine .t ?_); exact rfl) | (refine' zm hX rfl rfl hL ?_ ?_ ?_; rotate_left 3; (repeat first | exact .h | refine .t ?_); exact rfl) | (refine' zs hX rfl rfl rfl hL ?_ ?_ ?_; rotate_left 3; (repeat first | exact .h | apply Sets.t); exact rfl; clear hL; intro w hL) | refine ArReq.i64 (by omega) (by omega) ?_ | refine SeqReq.go hX ?_ | refine OptReq.mk rfl ?_); conv => whnf)
        refine DrawReq.plan hX (.fst 0 (.fst 1 (.fst 2 (.fst 3 (.fst 4 (.fst 5 (.fst 6 (.fst 7 (.fst 8 (.fst 9 (.fst 10 (.fst 11 (.fst 12 (.fst 13 (.fst 14 (.fst 15 (.fst 16 (.fst 17 (.fst 18 (.fst 19 (.fst 20 (.fst 21 (.fst 22 (.fst 23 (.fst 24 (.fst 25 (.fst 26 (.done)))))))))))))))))))))))))))) [(g, .cells (toArr cur) 3 (0, 0))] (by kernel_rfl) (by kernel_rfl) hL (fun h => h.one 0 rfl) ?_
        clear hL
        intro w hL
        conv => whnf
        repeat ((first | (refine Idx2Req.mk i a (by simp only) (by simp only at hlt ⊢; omega) ea ?_) | refine LdReq.one hX rfl rfl hL hc ?_ | refine QLdReq.one hX rfl rfl hc ?_ | (refine RemReq.nat (a := p) (k := V.length) (by simp only; omega) hVp ?_) | (refine RemReq.mk (n := ((q : Nat) : Int)) (by simp only; omega) hrem ?_) | (refine Idx2Req.mk (p % V.length) _ rfl (by simp only; omega) rfl ?_) | (refine Idx2Req.mk q _ rfl (by simp only; omega) rfl ?_) | (refine QLdReq.ownC hX rfl rfl .h (by rw [scale_eq, Nat.zero_add, Nat.mul_one]; exact hx) ?_) | (refine QLdReq.ownC hX rfl rfl .h (by rw [scale_eq, Nat.zero_add, Nat.mul_one]; exact hy) ?_) | (refine ArReq.i64 (by simp only; omega) (by simp only; omega) ?_) | (refine' zq hX rfl rfl ?_ ?_ ?_; rotate_left 4; (repeat first | exact .h | refine .t ?_); exact rfl) | (refine' zr hX rfl rfl ?_ ?_ ?_; rotate_left 3; (repeat first | exact .h | refine .t ?_); exact rfl) | refine AltReq.one ?_ | refine BrReq.tt ?_ | refine BrReq.ff ?_ | (refine' zl hX rfl rfl hL ?_ ?_ ?_; rotate_left 4; (repeat first | exact .h | refine .t ?_); exact rfl) | (refine' zm hX rfl rfl hL ?_ ?_ ?_; rotate_left 3; (repeat first | exact .h | refine .t ?_); exact rfl) | (refine' zs hX rfl rfl rfl hL ?_ ?_ ?_; rotate_left 3; (repeat first | exact .h | apply Sets.t); exact rfl; clear hL; intro w hL) | refine ArReq.i64 (by omega) (by omega) ?_ | refine SeqReq.go hX ?_ | refine OptReq.mk rfl ?_); conv => whnf)
        have hbl : ∀ z ∈ ints .i64 V, True := fun _ _ => trivial
        clear hbl
        replace hL : Ev.Loc m [] w0 m1 ([(g, .cells (toArr cur) 3 (0, 0))] ++ La) w := hL
        generalize hLo : [(g, Obj.cells (toArr cur) 3 (0, 0))] = Lo at ho hL
        generalize hA3 : some (⟨g, 0, none⟩ : Addr) = A3 at ho
        have hx64 := okId_i64 hC.nm.ok.len (hC.ok x hxV)
        have hy64 := okId_i64 hC.nm.ok.len (hC.ok y hyV)
        have hC' : cC (i + 1) = if i % 5 = 2 then 2 * cC i else cC i := rfl
        have hi5 := Nat.mod_lt i (show 0 < 5 by omega)
        by_cases i0 : i % 5 = 0
        · have i2 : ¬ i % 5 = 2 := by omega
          conv => whnf
          repeat ((first | refine RemReq.nat (a := i) (k := 5) rfl (by omega) ?_ | refine BrReq.no (by omega) ?_ | refine BrReq.yes (by omega) ?_ | refine BrReq.tt ?_ | refine BrReq.ff ?_ | (refine' zl hX rfl rfl hL ?_ ?_ ?_; rotate_left 4; (repeat first | exact .h | refine .t ?_); exact rfl) | (refine' zm hX rfl rfl hL ?_ ?_ ?_; rotate_left 3; (repeat first | exact .h | refine .t ?_); exact rfl) | (refine' zs hX rfl rfl rfl hL ?_ ?_ ?_; rotate_left 3; (repeat first | exact .h | apply Sets.t); exact rfl; clear hL; intro w hL) | refine ArReq.i64 (by omega) (by omega) ?_ | refine SeqReq.go hX ?_ | refine OptReq.mk rfl ?_); conv => whnf)
          refine NewReq.mk hL ?_
          clear hL
          intro g1 w hL
          conv => whnf
          obtain ⟨m0, hL1, hm0, hs⟩ := there_row (l := [x, y]) hL (by simp)
          clear hL
          have hL := hL1
          clear hL1
          conv => whnf
          repeat ((first | refine BrReq.tt ?_ | refine BrReq.ff ?_ | (refine' zl hX rfl rfl hL ?_ ?_ ?_; rotate_left 4; (repeat first | exact .h | refine .t ?_); exact rfl) | (refine' zm hX rfl rfl hL ?_ ?_ ?_; rotate_left 3; (repeat first | exact .h | refine .t ?_); exact rfl) | (refine' zs hX rfl rfl rfl hL ?_ ?_ ?_; rotate_left 3; (repeat first | exact .h | apply Sets.t); exact rfl; clear hL; intro w hL) | refine ArReq.i64 (by omega) (by omega) ?_ | refine SeqReq.go hX ?_ | refine OptReq.mk rfl ?_); conv => whnf)
          refine CallReq.mk (L1 := La) (L2 := Lo) (OrG_fn m0 ab ns La hA hC.nm.ok _ [x, y] hs (by simp)) (Loc.back (L1 := Lo) hL) ?_
          clear hL
          rintro u m2 La2 w hL hm2 ⟨rfl, hA2⟩
          have hL := Loc.back (L1 := La2) hL
          replace hm2 : Mem.Le m1 m2 := hm0.trans hm2
          obtain ⟨hC2, hpre, hl2, hok2⟩ := hC.gput hcp (g := false) hxV hyV (by omega)
          have hlen2 : (gputN false ns [x, y]).1.length ≤ bN i + (16 + i) + cC i := by omega
          have hC3 : Clo (gputN false ns [x, y]).1 (V ++ [(gputN false ns [x, y]).2]) (cC (i + 1)) := by rw [hC']; first | (rw [if_neg i2]; exact hC2) | (rw [if_pos i2]; exact hC2)
          clear hC2 hl2
          generalize gputN false ns [x, y] = r at hA2 hC3 hpre hlen2 hok2 ⊢
          conv => whnf
          repeat ((first | refine BrReq.tt ?_ | refine BrReq.ff ?_ | (refine' zl hX rfl rfl hL ?_ ?_ ?_; rotate_left 4; (repeat first | exact .h | refine .t ?_); exact rfl) | (refine' zm hX rfl rfl hL ?_ ?_ ?_; rotate_left 3; (repeat first | exact .h | refine .t ?_); exact rfl) | (refine' zs hX rfl rfl rfl hL ?_ ?_ ?_; rotate_left 3; (repeat first | exact .h | apply Sets.t); exact rfl; clear hL; intro w hL) | refine ArReq.i64 (by omega) (by omega) ?_ | refine SeqReq.go hX ?_ | refine OptReq.mk rfl ?_); conv => whnf)
          refine NewReq.mk hL ?_
          clear hL
          intro g2 w hL
          conv => whnf
          replace hL : Ev.Loc m [] w0 m2 ((g2, .cells (toArr [.int .i64 r.2]) 3 (0, 0)) :: (Lo ++ La2)) w := hL
          conv => whnf
          repeat ((first | refine BrReq.tt ?_ | refine BrReq.ff ?_ | (refine' zl hX rfl rfl hL ?_ ?_ ?_; rotate_left 4; (repeat first | exact .h | refine .t ?_); exact rfl) | (refine' zm hX rfl rfl hL ?_ ?_ ?_; rotate_left 3; (repeat first | exact .h | refine .t ?_); exact rfl) | (refine' zs hX rfl rfl rfl hL ?_ ?_ ?_; rotate_left 3; (repeat first | exact .h | apply Sets.t); exact rfl; clear hL; intro w hL) | refine ArReq.i64 (by omega) (by omega) ?_ | refine SeqReq.go hX ?_ | refine OptReq.mk rfl ?_); conv => whnf)
          refine RunReq.push hX 40 3 rfl rfl rfl rfl rfl ho (L2 := La2) hL rfl rfl (by simp [ints]; omega) rfl ?_
          clear hL
          intro A2 n2 c2 Lo2 w hn2 ho2 hL
          rw [← show ints .i64 (V ++ [r.2]) = ints .i64 V ++ [Value.int .i64 r.2] from ints_append ..] at ho2
          conv => whnf
          repeat ((first | refine BrReq.tt ?_ | refine BrReq.ff ?_ | (refine' zl hX rfl rfl hL ?_ ?_ ?_; rotate_left 4; (repeat first | exact .h | refine .t ?_); exact rfl) | (refine' zm hX rfl rfl hL ?_ ?_ ?_; rotate_left 3; (repeat first | exact .h | refine .t ?_); exact rfl) | (refine' zs hX rfl rfl rfl hL ?_ ?_ ?_; rotate_left 3; (repeat first | exact .h | apply Sets.t); exact rfl; clear hL; intro w hL) | refine ArReq.i64 (by omega) (by omega) ?_ | refine SeqReq.go hX ?_ | refine OptReq.mk rfl ?_); conv => whnf)
          obtain ⟨hn5, hnc5, hm5, hget5⟩ := owns_get ho2
          obtain ⟨g5, cur5, rfl, rfl, hcl5, hct5, hcg5⟩ := hget5 (by simp)
          rw [List.length_append, List.length_singleton] at hn5
          have hz5 := hcg5 V.length r.2 (by simp)
          have hz0 : 0 ≤ r.2 := hok2.1
          replace hL : Ev.Loc m [] w0 m2 ((g5, .cells (toArr cur5) 3 (0, 0)) :: La2) w := hL
          conv => whnf
          repeat ((first | refine Idx2Req.mk V.length _ (by omega) (by omega) rfl ?_ | (refine LdReq.ownC hX rfl rfl hL .h (by rw [scale_eq, Nat.zero_add, Nat.mul_one]; exact hz5) ?_) | refine BrReq.no (by omega) ?_ | refine BrReq.tt ?_ | refine BrReq.ff ?_ | (refine' zl hX rfl rfl hL ?_ ?_ ?_; rotate_left 4; (repeat first | exact .h | refine .t ?_); exact rfl) | (refine' zm hX rfl rfl hL ?_ ?_ ?_; rotate_left 3; (repeat first | exact .h | refine .t ?_); exact rfl) | (refine' zs hX rfl rfl rfl hL ?_ ?_ ?_; rotate_left 3; (repeat first | exact .h | apply Sets.t); exact rfl; clear hL; intro w hL) | refine ArReq.i64 (by omega) (by omega) ?_ | refine SeqReq.go hX ?_ | refine OptReq.mk rfl ?_); conv => whnf)
          refine CallReq.mk (L1 := La2) (L2 := [_]) (laws_fn m2 ab r.1 La2 hA2 (V ++ [r.2]) (cC (i + 1)) hC3 x y r.2 (by simp [hxV]) (by simp [hyV]) (by simp) (by rw [List.length_append, List.length_singleton]; omega)) (Loc.back (L1 := [_]) hL) ?_
          clear hL
          rintro u m3 La3 w hL hm3 ⟨rfl, ns3, hA3', hN3, hp3, hl3⟩
          have hL := Loc.back (L1 := La3) (L2 := [_]) hL
          rw [List.length_append, List.length_singleton] at hl3
          conv => whnf
          repeat ((first | refine BrReq.tt ?_ | refine BrReq.ff ?_ | (refine' zl hX rfl rfl hL ?_ ?_ ?_; rotate_left 4; (repeat first | exact .h | refine .t ?_); exact rfl) | (refine' zm hX rfl rfl hL ?_ ?_ ?_; rotate_left 3; (repeat first | exact .h | refine .t ?_); exact rfl) | (refine' zs hX rfl rfl rfl hL ?_ ?_ ?_; rotate_left 3; (repeat first | exact .h | apply Sets.t); exact rfl; clear hL; intro w hL) | refine ArReq.i64 (by omega) (by omega) ?_ | refine SeqReq.go hX ?_ | refine OptReq.mk rfl ?_); conv => whnf)
          refine ⟨(i + 1, some ⟨g5, 0, none⟩, n2, c2), ⟨by simp only at hlt ⊢; omega, m3, ns3, La3, _, V ++ [r.2], ⟨(hm1.trans hm2).trans hm3, hA3', hC3.pre hp3 hN3 (Nat.le_refl _), by simp only [List.length_append, List.length_singleton]; omega, by show _ ≤ bN i + (16 + i) + cC i + 7 * (17 + i) + 9 * cC (i + 1) + 31; omega⟩, ho2, hL⟩, by first | omega | (simp only; omega), ?_, ?_⟩
          · repeat (first | exact trivial | (refine And.intro (by (conv => lhs; whnf) <;> (conv => rhs; whnf) <;> (first | rfl)) ?_))
          · repeat (first | exact trivial | (refine And.intro (by (conv => lhs; whnf) <;> (conv => rhs; whnf) <;> (first | rfl)) ?_))
        by_cases i1 : i % 5 = 1
        · have i2 : ¬ i % 5 = 2 := by omega
          conv => whnf
          repeat ((first | refine RemReq.nat (a := i) (k := 5) rfl (by omega) ?_ | refine BrReq.no (by omega) ?_ | refine BrReq.yes (by omega) ?_ | refine BrReq.tt ?_ | refine BrReq.ff ?_ | (refine' zl hX rfl rfl hL ?_ ?_ ?_; rotate_left 4; (repeat first | exact .h | refine .t ?_); exact rfl) | (refine' zm hX rfl rfl hL ?_ ?_ ?_; rotate_left 3; (repeat first | exact .h | refine .t ?_); exact rfl) | (refine' zs hX rfl rfl rfl hL ?_ ?_ ?_; rotate_left 3; (repeat first | exact .h | apply Sets.t); exact rfl; clear hL; intro w hL) | refine ArReq.i64 (by omega) (by omega) ?_ | refine SeqReq.go hX ?_ | refine OptReq.mk rfl ?_); conv => whnf)
          refine NewReq.mk hL ?_
          clear hL
          intro g1 w hL
          conv => whnf
          obtain ⟨m0, hL1, hm0, hs⟩ := there_row (l := [x, y]) hL (by simp)
          clear hL
          have hL := hL1
          clear hL1
          conv => whnf
          repeat ((first | refine BrReq.tt ?_ | refine BrReq.ff ?_ | (refine' zl hX rfl rfl hL ?_ ?_ ?_; rotate_left 4; (repeat first | exact .h | refine .t ?_); exact rfl) | (refine' zm hX rfl rfl hL ?_ ?_ ?_; rotate_left 3; (repeat first | exact .h | refine .t ?_); exact rfl) | (refine' zs hX rfl rfl rfl hL ?_ ?_ ?_; rotate_left 3; (repeat first | exact .h | apply Sets.t); exact rfl; clear hL; intro w hL) | refine ArReq.i64 (by omega) (by omega) ?_ | refine SeqReq.go hX ?_ | refine OptReq.mk rfl ?_); conv => whnf)
          refine CallReq.mk (L1 := La) (L2 := Lo) (AndG_fn m0 ab ns La hA hC.nm.ok _ [x, y] hs (by simp)) (Loc.back (L1 := Lo) hL) ?_
          clear hL
          rintro u m2 La2 w hL hm2 ⟨rfl, hA2⟩
          have hL := Loc.back (L1 := La2) hL
          replace hm2 : Mem.Le m1 m2 := hm0.trans hm2
          obtain ⟨hC2, hpre, hl2, hok2⟩ := hC.gput hcp (g := true) hxV hyV (by omega)
          have hlen2 : (gputN true ns [x, y]).1.length ≤ bN i + (16 + i) + cC i := by omega
          have hC3 : Clo (gputN true ns [x, y]).1 (V ++ [(gputN true ns [x, y]).2]) (cC (i + 1)) := by rw [hC']; first | (rw [if_neg i2]; exact hC2) | (rw [if_pos i2]; exact hC2)
          clear hC2 hl2
          generalize gputN true ns [x, y] = r at hA2 hC3 hpre hlen2 hok2 ⊢
          conv => whnf
          repeat ((first | refine BrReq.tt ?_ | refine BrReq.ff ?_ | (refine' zl hX rfl rfl hL ?_ ?_ ?_; rotate_left 4; (repeat first | exact .h | refine .t ?_); exact rfl) | (refine' zm hX rfl rfl hL ?_ ?_ ?_; rotate_left 3; (repeat first | exact .h | refine .t ?_); exact rfl) | (refine' zs hX rfl rfl rfl hL ?_ ?_ ?_; rotate_left 3; (repeat first | exact .h | apply Sets.t); exact rfl; clear hL; intro w hL) | refine ArReq.i64 (by omega) (by omega) ?_ | refine SeqReq.go hX ?_ | refine OptReq.mk rfl ?_); conv => whnf)
          refine NewReq.mk hL ?_
          clear hL
          intro g2 w hL
          conv => whnf
          replace hL : Ev.Loc m [] w0 m2 ((g2, .cells (toArr [.int .i64 r.2]) 3 (0, 0)) :: (Lo ++ La2)) w := hL
          conv => whnf
          repeat ((first | refine BrReq.tt ?_ | refine BrReq.ff ?_ | (refine' zl hX rfl rfl hL ?_ ?_ ?_; rotate_left 4; (repeat first | exact .h | refine .t ?_); exact rfl) | (refine' zm hX rfl rfl hL ?_ ?_ ?_; rotate_left 3; (repeat first | exact .h | refine .t ?_); exact rfl) | (refine' zs hX rfl rfl rfl hL ?_ ?_ ?_; rotate_left 3; (repeat first | exact .h | apply Sets.t); exact rfl; clear hL; intro w hL) | refine ArReq.i64 (by omega) (by omega) ?_ | refine SeqReq.go hX ?_ | refine OptReq.mk rfl ?_); conv => whnf)
          refine RunReq.push hX 40 3 rfl rfl rfl rfl rfl ho (L2 := La2) hL rfl rfl (by simp [ints]; omega) rfl ?_
          clear hL
          intro A2 n2 c2 Lo2 w hn2 ho2 hL
          rw [← show ints .i64 (V ++ [r.2]) = ints .i64 V ++ [Value.int .i64 r.2] from ints_append ..] at ho2
          conv => whnf
          repeat ((first | refine BrReq.tt ?_ | refine BrReq.ff ?_ | (refine' zl hX rfl rfl hL ?_ ?_ ?_; rotate_left 4; (repeat first | exact .h | refine .t ?_); exact rfl) | (refine' zm hX rfl rfl hL ?_ ?_ ?_; rotate_left 3; (repeat first | exact .h | refine .t ?_); exact rfl) | (refine' zs hX rfl rfl rfl hL ?_ ?_ ?_; rotate_left 3; (repeat first | exact .h | apply Sets.t); exact rfl; clear hL; intro w hL) | refine ArReq.i64 (by omega) (by omega) ?_ | refine SeqReq.go hX ?_ | refine OptReq.mk rfl ?_); conv => whnf)
          obtain ⟨hn5, hnc5, hm5, hget5⟩ := owns_get ho2
          obtain ⟨g5, cur5, rfl, rfl, hcl5, hct5, hcg5⟩ := hget5 (by simp)
          rw [List.length_append, List.length_singleton] at hn5
          have hz5 := hcg5 V.length r.2 (by simp)
          have hz0 : 0 ≤ r.2 := hok2.1
          replace hL : Ev.Loc m [] w0 m2 ((g5, .cells (toArr cur5) 3 (0, 0)) :: La2) w := hL
          conv => whnf
          repeat ((first | refine Idx2Req.mk V.length _ (by omega) (by omega) rfl ?_ | (refine LdReq.ownC hX rfl rfl hL .h (by rw [scale_eq, Nat.zero_add, Nat.mul_one]; exact hz5) ?_) | refine BrReq.no (by omega) ?_ | refine BrReq.tt ?_ | refine BrReq.ff ?_ | (refine' zl hX rfl rfl hL ?_ ?_ ?_; rotate_left 4; (repeat first | exact .h | refine .t ?_); exact rfl) | (refine' zm hX rfl rfl hL ?_ ?_ ?_; rotate_left 3; (repeat first | exact .h | refine .t ?_); exact rfl) | (refine' zs hX rfl rfl rfl hL ?_ ?_ ?_; rotate_left 3; (repeat first | exact .h | apply Sets.t); exact rfl; clear hL; intro w hL) | refine ArReq.i64 (by omega) (by omega) ?_ | refine SeqReq.go hX ?_ | refine OptReq.mk rfl ?_); conv => whnf)
          refine CallReq.mk (L1 := La2) (L2 := [_]) (laws_fn m2 ab r.1 La2 hA2 (V ++ [r.2]) (cC (i + 1)) hC3 x y r.2 (by simp [hxV]) (by simp [hyV]) (by simp) (by rw [List.length_append, List.length_singleton]; omega)) (Loc.back (L1 := [_]) hL) ?_
          clear hL
          rintro u m3 La3 w hL hm3 ⟨rfl, ns3, hA3', hN3, hp3, hl3⟩
          have hL := Loc.back (L1 := La3) (L2 := [_]) hL
          rw [List.length_append, List.length_singleton] at hl3
          conv => whnf
          repeat ((first | refine BrReq.tt ?_ | refine BrReq.ff ?_ | (refine' zl hX rfl rfl hL ?_ ?_ ?_; rotate_left 4; (repeat first | exact .h | refine .t ?_); exact rfl) | (refine' zm hX rfl rfl hL ?_ ?_ ?_; rotate_left 3; (repeat first | exact .h | refine .t ?_); exact rfl) | (refine' zs hX rfl rfl rfl hL ?_ ?_ ?_; rotate_left 3; (repeat first | exact .h | apply Sets.t); exact rfl; clear hL; intro w hL) | refine ArReq.i64 (by omega) (by omega) ?_ | refine SeqReq.go hX ?_ | refine OptReq.mk rfl ?_); conv => whnf)
          refine ⟨(i + 1, some ⟨g5, 0, none⟩, n2, c2), ⟨by simp only at hlt ⊢; omega, m3, ns3, La3, _, V ++ [r.2], ⟨(hm1.trans hm2).trans hm3, hA3', hC3.pre hp3 hN3 (Nat.le_refl _), by simp only [List.length_append, List.length_singleton]; omega, by show _ ≤ bN i + (16 + i) + cC i + 7 * (17 + i) + 9 * cC (i + 1) + 31; omega⟩, ho2, hL⟩, by first | omega | (simp only; omega), ?_, ?_⟩
          · repeat (first | exact trivial | (refine And.intro (by (conv => lhs; whnf) <;> (conv => rhs; whnf) <;> (first | rfl)) ?_))
          · repeat (first | exact trivial | (refine And.intro (by (conv => lhs; whnf) <;> (conv => rhs; whnf) <;> (first | rfl)) ?_))
        by_cases i2 : i % 5 = 2
        · have hcat := hC.cat hcp hxV hyV (by omega)
          unfold catN at hcat
          conv => whnf
          repeat ((first | refine RemReq.nat (a := i) (k := 5) rfl (by omega) ?_ | refine BrReq.no (by omega) ?_ | refine BrReq.yes (by omega) ?_ | refine BrReq.tt ?_ | refine BrReq.ff ?_ | (refine' zl hX rfl rfl hL ?_ ?_ ?_; rotate_left 4; (repeat first | exact .h | refine .t ?_); exact rfl) | (refine' zm hX rfl rfl hL ?_ ?_ ?_; rotate_left 3; (repeat first | exact .h | refine .t ?_); exact rfl) | (refine' zs hX rfl rfl rfl hL ?_ ?_ ?_; rotate_left 3; (repeat first | exact .h | apply Sets.t); exact rfl; clear hL; intro w hL) | refine ArReq.i64 (by omega) (by omega) ?_ | refine SeqReq.go hX ?_ | refine OptReq.mk rfl ?_); conv => whnf)
          refine CallReq.mk (L1 := La) (L2 := Lo) (CatF_fn ab (x.toNat + 1) m1 ns La hA hC.nm.ok x y hx64 hy64 (fun _ => Nat.lt_succ_self _) (by omega)) (Loc.back (L1 := Lo) hL) ?_
          clear hL
          rintro u m2 La2 w hL hm2 ⟨rfl, hA2⟩
          have hL := Loc.back (L1 := La2) hL
          obtain ⟨hC2, hpre, hl2, hok2⟩ := hcat
          have hlen2 : (catF (x.toNat + 1) ns x y).1.length ≤ bN i + (16 + i) + cC i := by omega
          have hC3 : Clo (catF (x.toNat + 1) ns x y).1 (V ++ [(catF (x.toNat + 1) ns x y).2]) (cC (i + 1)) := by rw [hC']; first | (rw [if_neg i2]; exact hC2) | (rw [if_pos i2]; exact hC2)
          clear hC2 hl2
          generalize catF (x.toNat + 1) ns x y = r at hA2 hC3 hpre hlen2 hok2 ⊢
          conv => whnf
          repeat ((first | refine BrReq.tt ?_ | refine BrReq.ff ?_ | (refine' zl hX rfl rfl hL ?_ ?_ ?_; rotate_left 4; (repeat first | exact .h | refine .t ?_); exact rfl) | (refine' zm hX rfl rfl hL ?_ ?_ ?_; rotate_left 3; (repeat first | exact .h | refine .t ?_); exact rfl) | (refine' zs hX rfl rfl rfl hL ?_ ?_ ?_; rotate_left 3; (repeat first | exact .h | apply Sets.t); exact rfl; clear hL; intro w hL) | refine ArReq.i64 (by omega) (by omega) ?_ | refine SeqReq.go hX ?_ | refine OptReq.mk rfl ?_); conv => whnf)
          refine NewReq.mk hL ?_
          clear hL
          intro g2 w hL
          conv => whnf
          replace hL : Ev.Loc m [] w0 m2 ((g2, .cells (toArr [.int .i64 r.2]) 3 (0, 0)) :: (Lo ++ La2)) w := hL
          conv => whnf
          repeat ((first | refine BrReq.tt ?_ | refine BrReq.ff ?_ | (refine' zl hX rfl rfl hL ?_ ?_ ?_; rotate_left 4; (repeat first | exact .h | refine .t ?_); exact rfl) | (refine' zm hX rfl rfl hL ?_ ?_ ?_; rotate_left 3; (repeat first | exact .h | refine .t ?_); exact rfl) | (refine' zs hX rfl rfl rfl hL ?_ ?_ ?_; rotate_left 3; (repeat first | exact .h | apply Sets.t); exact rfl; clear hL; intro w hL) | refine ArReq.i64 (by omega) (by omega) ?_ | refine SeqReq.go hX ?_ | refine OptReq.mk rfl ?_); conv => whnf)
          refine RunReq.push hX 40 3 rfl rfl rfl rfl rfl ho (L2 := La2) hL rfl rfl (by simp [ints]; omega) rfl ?_
          clear hL
          intro A2 n2 c2 Lo2 w hn2 ho2 hL
          rw [← show ints .i64 (V ++ [r.2]) = ints .i64 V ++ [Value.int .i64 r.2] from ints_append ..] at ho2
          conv => whnf
          repeat ((first | refine BrReq.tt ?_ | refine BrReq.ff ?_ | (refine' zl hX rfl rfl hL ?_ ?_ ?_; rotate_left 4; (repeat first | exact .h | refine .t ?_); exact rfl) | (refine' zm hX rfl rfl hL ?_ ?_ ?_; rotate_left 3; (repeat first | exact .h | refine .t ?_); exact rfl) | (refine' zs hX rfl rfl rfl hL ?_ ?_ ?_; rotate_left 3; (repeat first | exact .h | apply Sets.t); exact rfl; clear hL; intro w hL) | refine ArReq.i64 (by omega) (by omega) ?_ | refine SeqReq.go hX ?_ | refine OptReq.mk rfl ?_); conv => whnf)
          obtain ⟨hn5, hnc5, hm5, hget5⟩ := owns_get ho2
          obtain ⟨g5, cur5, rfl, rfl, hcl5, hct5, hcg5⟩ := hget5 (by simp)
          rw [List.length_append, List.length_singleton] at hn5
          have hz5 := hcg5 V.length r.2 (by simp)
          have hz0 : 0 ≤ r.2 := hok2.1
          replace hL : Ev.Loc m [] w0 m2 ((g5, .cells (toArr cur5) 3 (0, 0)) :: La2) w := hL
          conv => whnf
          repeat ((first | refine Idx2Req.mk V.length _ (by omega) (by omega) rfl ?_ | (refine LdReq.ownC hX rfl rfl hL .h (by rw [scale_eq, Nat.zero_add, Nat.mul_one]; exact hz5) ?_) | refine BrReq.no (by omega) ?_ | refine BrReq.tt ?_ | refine BrReq.ff ?_ | (refine' zl hX rfl rfl hL ?_ ?_ ?_; rotate_left 4; (repeat first | exact .h | refine .t ?_); exact rfl) | (refine' zm hX rfl rfl hL ?_ ?_ ?_; rotate_left 3; (repeat first | exact .h | refine .t ?_); exact rfl) | (refine' zs hX rfl rfl rfl hL ?_ ?_ ?_; rotate_left 3; (repeat first | exact .h | apply Sets.t); exact rfl; clear hL; intro w hL) | refine ArReq.i64 (by omega) (by omega) ?_ | refine SeqReq.go hX ?_ | refine OptReq.mk rfl ?_); conv => whnf)
          refine CallReq.mk (L1 := La2) (L2 := [_]) (laws_fn m2 ab r.1 La2 hA2 (V ++ [r.2]) (cC (i + 1)) hC3 x y r.2 (by simp [hxV]) (by simp [hyV]) (by simp) (by rw [List.length_append, List.length_singleton]; omega)) (Loc.back (L1 := [_]) hL) ?_
          clear hL
          rintro u m3 La3 w hL hm3 ⟨rfl, ns3, hA3', hN3, hp3, hl3⟩
          have hL := Loc.back (L1 := La3) (L2 := [_]) hL
          rw [List.length_append, List.length_singleton] at hl3
          conv => whnf
          repeat ((first | refine BrReq.tt ?_ | refine BrReq.ff ?_ | (refine' zl hX rfl rfl hL ?_ ?_ ?_; rotate_left 4; (repeat first | exact .h | refine .t ?_); exact rfl) | (refine' zm hX rfl rfl hL ?_ ?_ ?_; rotate_left 3; (repeat first | exact .h | refine .t ?_); exact rfl) | (refine' zs hX rfl rfl rfl hL ?_ ?_ ?_; rotate_left 3; (repeat first | exact .h | apply Sets.t); exact rfl; clear hL; intro w hL) | refine ArReq.i64 (by omega) (by omega) ?_ | refine SeqReq.go hX ?_ | refine OptReq.mk rfl ?_); conv => whnf)
          refine ⟨(i + 1, some ⟨g5, 0, none⟩, n2, c2), ⟨by simp only at hlt ⊢; omega, m3, ns3, La3, _, V ++ [r.2], ⟨(hm1.trans hm2).trans hm3, hA3', hC3.pre hp3 hN3 (Nat.le_refl _), by simp only [List.length_append, List.length_singleton]; omega, by show _ ≤ bN i + (16 + i) + cC i + 7 * (17 + i) + 9 * cC (i + 1) + 31; omega⟩, ho2, hL⟩, by first | omega | (simp only; omega), ?_, ?_⟩
          · repeat (first | exact trivial | (refine And.intro (by (conv => lhs; whnf) <;> (conv => rhs; whnf) <;> (first | rfl)) ?_))
          · repeat (first | exact trivial | (refine And.intro (by (conv => lhs; whnf) <;> (conv => rhs; whnf) <;> (first | rfl)) ?_))
        by_cases i3 : i % 5 = 3
        · conv => whnf
          repeat ((first | refine RemReq.nat (a := i) (k := 5) rfl (by omega) ?_ | refine BrReq.no (by omega) ?_ | refine BrReq.yes (by omega) ?_ | refine BrReq.tt ?_ | refine BrReq.ff ?_ | (refine' zl hX rfl rfl hL ?_ ?_ ?_; rotate_left 4; (repeat first | exact .h | refine .t ?_); exact rfl) | (refine' zm hX rfl rfl hL ?_ ?_ ?_; rotate_left 3; (repeat first | exact .h | refine .t ?_); exact rfl) | (refine' zs hX rfl rfl rfl hL ?_ ?_ ?_; rotate_left 3; (repeat first | exact .h | apply Sets.t); exact rfl; clear hL; intro w hL) | refine ArReq.i64 (by omega) (by omega) ?_ | refine SeqReq.go hX ?_ | refine OptReq.mk rfl ?_); conv => whnf)
          refine CallReq.mk (L1 := La) (L2 := Lo) (NotG_fn m1 ab ns La hA hC.nm.ok x) (Loc.back (L1 := Lo) hL) ?_
          clear hL
          rintro u m2 La2 w hL hm2 ⟨rfl, hA2⟩
          have hL := Loc.back (L1 := La2) hL
          obtain ⟨hC2, hpre, hl2, hok2⟩ := hC.not hcp hxV (by omega)
          have hlen2 : (notN ns x).1.length ≤ bN i + (16 + i) + cC i := by omega
          have hC3 : Clo (notN ns x).1 (V ++ [(notN ns x).2]) (cC (i + 1)) := by rw [hC']; first | (rw [if_neg i2]; exact hC2) | (rw [if_pos i2]; exact hC2)
          clear hC2 hl2
          generalize notN ns x = r at hA2 hC3 hpre hlen2 hok2 ⊢
          conv => whnf
          repeat ((first | refine BrReq.tt ?_ | refine BrReq.ff ?_ | (refine' zl hX rfl rfl hL ?_ ?_ ?_; rotate_left 4; (repeat first | exact .h | refine .t ?_); exact rfl) | (refine' zm hX rfl rfl hL ?_ ?_ ?_; rotate_left 3; (repeat first | exact .h | refine .t ?_); exact rfl) | (refine' zs hX rfl rfl rfl hL ?_ ?_ ?_; rotate_left 3; (repeat first | exact .h | apply Sets.t); exact rfl; clear hL; intro w hL) | refine ArReq.i64 (by omega) (by omega) ?_ | refine SeqReq.go hX ?_ | refine OptReq.mk rfl ?_); conv => whnf)
          refine NewReq.mk hL ?_
          clear hL
          intro g2 w hL
          conv => whnf
          replace hL : Ev.Loc m [] w0 m2 ((g2, .cells (toArr [.int .i64 r.2]) 3 (0, 0)) :: (Lo ++ La2)) w := hL
          conv => whnf
          repeat ((first | refine BrReq.tt ?_ | refine BrReq.ff ?_ | (refine' zl hX rfl rfl hL ?_ ?_ ?_; rotate_left 4; (repeat first | exact .h | refine .t ?_); exact rfl) | (refine' zm hX rfl rfl hL ?_ ?_ ?_; rotate_left 3; (repeat first | exact .h | refine .t ?_); exact rfl) | (refine' zs hX rfl rfl rfl hL ?_ ?_ ?_; rotate_left 3; (repeat first | exact .h | apply Sets.t); exact rfl; clear hL; intro w hL) | refine ArReq.i64 (by omega) (by omega) ?_ | refine SeqReq.go hX ?_ | refine OptReq.mk rfl ?_); conv => whnf)
          refine RunReq.push hX 40 3 rfl rfl rfl rfl rfl ho (L2 := La2) hL rfl rfl (by simp [ints]; omega) rfl ?_
          clear hL
          intro A2 n2 c2 Lo2 w hn2 ho2 hL
          rw [← show ints .i64 (V ++ [r.2]) = ints .i64 V ++ [Value.int .i64 r.2] from ints_append ..] at ho2
          conv => whnf
          repeat ((first | refine BrReq.tt ?_ | refine BrReq.ff ?_ | (refine' zl hX rfl rfl hL ?_ ?_ ?_; rotate_left 4; (repeat first | exact .h | refine .t ?_); exact rfl) | (refine' zm hX rfl rfl hL ?_ ?_ ?_; rotate_left 3; (repeat first | exact .h | refine .t ?_); exact rfl) | (refine' zs hX rfl rfl rfl hL ?_ ?_ ?_; rotate_left 3; (repeat first | exact .h | apply Sets.t); exact rfl; clear hL; intro w hL) | refine ArReq.i64 (by omega) (by omega) ?_ | refine SeqReq.go hX ?_ | refine OptReq.mk rfl ?_); conv => whnf)
          obtain ⟨hn5, hnc5, hm5, hget5⟩ := owns_get ho2
          obtain ⟨g5, cur5, rfl, rfl, hcl5, hct5, hcg5⟩ := hget5 (by simp)
          rw [List.length_append, List.length_singleton] at hn5
          have hz5 := hcg5 V.length r.2 (by simp)
          have hz0 : 0 ≤ r.2 := hok2.1
          replace hL : Ev.Loc m [] w0 m2 ((g5, .cells (toArr cur5) 3 (0, 0)) :: La2) w := hL
          conv => whnf
          repeat ((first | refine Idx2Req.mk V.length _ (by omega) (by omega) rfl ?_ | (refine LdReq.ownC hX rfl rfl hL .h (by rw [scale_eq, Nat.zero_add, Nat.mul_one]; exact hz5) ?_) | refine BrReq.no (by omega) ?_ | refine BrReq.tt ?_ | refine BrReq.ff ?_ | (refine' zl hX rfl rfl hL ?_ ?_ ?_; rotate_left 4; (repeat first | exact .h | refine .t ?_); exact rfl) | (refine' zm hX rfl rfl hL ?_ ?_ ?_; rotate_left 3; (repeat first | exact .h | refine .t ?_); exact rfl) | (refine' zs hX rfl rfl rfl hL ?_ ?_ ?_; rotate_left 3; (repeat first | exact .h | apply Sets.t); exact rfl; clear hL; intro w hL) | refine ArReq.i64 (by omega) (by omega) ?_ | refine SeqReq.go hX ?_ | refine OptReq.mk rfl ?_); conv => whnf)
          refine CallReq.mk (L1 := La2) (L2 := [_]) (laws_fn m2 ab r.1 La2 hA2 (V ++ [r.2]) (cC (i + 1)) hC3 x y r.2 (by simp [hxV]) (by simp [hyV]) (by simp) (by rw [List.length_append, List.length_singleton]; omega)) (Loc.back (L1 := [_]) hL) ?_
          clear hL
          rintro u m3 La3 w hL hm3 ⟨rfl, ns3, hA3', hN3, hp3, hl3⟩
          have hL := Loc.back (L1 := La3) (L2 := [_]) hL
          rw [List.length_append, List.length_singleton] at hl3
          conv => whnf
          repeat ((first | refine BrReq.tt ?_ | refine BrReq.ff ?_ | (refine' zl hX rfl rfl hL ?_ ?_ ?_; rotate_left 4; (repeat first | exact .h | refine .t ?_); exact rfl) | (refine' zm hX rfl rfl hL ?_ ?_ ?_; rotate_left 3; (repeat first | exact .h | refine .t ?_); exact rfl) | (refine' zs hX rfl rfl rfl hL ?_ ?_ ?_; rotate_left 3; (repeat first | exact .h | apply Sets.t); exact rfl; clear hL; intro w hL) | refine ArReq.i64 (by omega) (by omega) ?_ | refine SeqReq.go hX ?_ | refine OptReq.mk rfl ?_); conv => whnf)
          refine ⟨(i + 1, some ⟨g5, 0, none⟩, n2, c2), ⟨by simp only at hlt ⊢; omega, m3, ns3, La3, _, V ++ [r.2], ⟨(hm1.trans hm2).trans hm3, hA3', hC3.pre hp3 hN3 (Nat.le_refl _), by simp only [List.length_append, List.length_singleton]; omega, by show _ ≤ bN i + (16 + i) + cC i + 7 * (17 + i) + 9 * cC (i + 1) + 31; omega⟩, ho2, hL⟩, by first | omega | (simp only; omega), ?_, ?_⟩
          · repeat (first | exact trivial | (refine And.intro (by (conv => lhs; whnf) <;> (conv => rhs; whnf) <;> (first | rfl)) ?_))
          · repeat (first | exact trivial | (refine And.intro (by (conv => lhs; whnf) <;> (conv => rhs; whnf) <;> (first | rfl)) ?_))
        · conv => whnf
          repeat ((first | refine RemReq.nat (a := i) (k := 5) rfl (by omega) ?_ | refine BrReq.no (by omega) ?_ | refine BrReq.yes (by omega) ?_ | refine BrReq.tt ?_ | refine BrReq.ff ?_ | (refine' zl hX rfl rfl hL ?_ ?_ ?_; rotate_left 4; (repeat first | exact .h | refine .t ?_); exact rfl) | (refine' zm hX rfl rfl hL ?_ ?_ ?_; rotate_left 3; (repeat first | exact .h | refine .t ?_); exact rfl) | (refine' zs hX rfl rfl rfl hL ?_ ?_ ?_; rotate_left 3; (repeat first | exact .h | apply Sets.t); exact rfl; clear hL; intro w hL) | refine ArReq.i64 (by omega) (by omega) ?_ | refine SeqReq.go hX ?_ | refine OptReq.mk rfl ?_); conv => whnf)
          refine CallReq.mk (L1 := La) (L2 := Lo) (StarG_fn m1 ab ns La hA hC.nm.ok x) (Loc.back (L1 := Lo) hL) ?_
          clear hL
          rintro u m2 La2 w hL hm2 ⟨rfl, hA2⟩
          have hL := Loc.back (L1 := La2) hL
          obtain ⟨hC2, hpre, hl2, hok2⟩ := hC.star hcp hxV (by omega)
          have hlen2 : (starN ns x).1.length ≤ bN i + (16 + i) + cC i := by omega
          have hC3 : Clo (starN ns x).1 (V ++ [(starN ns x).2]) (cC (i + 1)) := by rw [hC']; first | (rw [if_neg i2]; exact hC2) | (rw [if_pos i2]; exact hC2)
          clear hC2 hl2
          generalize starN ns x = r at hA2 hC3 hpre hlen2 hok2 ⊢
          conv => whnf
          repeat ((first | refine BrReq.tt ?_ | refine BrReq.ff ?_ | (refine' zl hX rfl rfl hL ?_ ?_ ?_; rotate_left 4; (repeat first | exact .h | refine .t ?_); exact rfl) | (refine' zm hX rfl rfl hL ?_ ?_ ?_; rotate_left 3; (repeat first | exact .h | refine .t ?_); exact rfl) | (refine' zs hX rfl rfl rfl hL ?_ ?_ ?_; rotate_left 3; (repeat first | exact .h | apply Sets.t); exact rfl; clear hL; intro w hL) | refine ArReq.i64 (by omega) (by omega) ?_ | refine SeqReq.go hX ?_ | refine OptReq.mk rfl ?_); conv => whnf)
          refine NewReq.mk hL ?_
          clear hL
          intro g2 w hL
          conv => whnf
          replace hL : Ev.Loc m [] w0 m2 ((g2, .cells (toArr [.int .i64 r.2]) 3 (0, 0)) :: (Lo ++ La2)) w := hL
          conv => whnf
          repeat ((first | refine BrReq.tt ?_ | refine BrReq.ff ?_ | (refine' zl hX rfl rfl hL ?_ ?_ ?_; rotate_left 4; (repeat first | exact .h | refine .t ?_); exact rfl) | (refine' zm hX rfl rfl hL ?_ ?_ ?_; rotate_left 3; (repeat first | exact .h | refine .t ?_); exact rfl) | (refine' zs hX rfl rfl rfl hL ?_ ?_ ?_; rotate_left 3; (repeat first | exact .h | apply Sets.t); exact rfl; clear hL; intro w hL) | refine ArReq.i64 (by omega) (by omega) ?_ | refine SeqReq.go hX ?_ | refine OptReq.mk rfl ?_); conv => whnf)
          refine RunReq.push hX 40 3 rfl rfl rfl rfl rfl ho (L2 := La2) hL rfl rfl (by simp [ints]; omega) rfl ?_
          clear hL
          intro A2 n2 c2 Lo2 w hn2 ho2 hL
          rw [← show ints .i64 (V ++ [r.2]) = ints .i64 V ++ [Value.int .i64 r.2] from ints_append ..] at ho2
          conv => whnf
          repeat ((first | refine BrReq.tt ?_ | refine BrReq.ff ?_ | (refine' zl hX rfl rfl hL ?_ ?_ ?_; rotate_left 4; (repeat first | exact .h | refine .t ?_); exact rfl) | (refine' zm hX rfl rfl hL ?_ ?_ ?_; rotate_left 3; (repeat first | exact .h | refine .t ?_); exact rfl) | (refine' zs hX rfl rfl rfl hL ?_ ?_ ?_; rotate_left 3; (repeat first | exact .h | apply Sets.t); exact rfl; clear hL; intro w hL) | refine ArReq.i64 (by omega) (by omega) ?_ | refine SeqReq.go hX ?_ | refine OptReq.mk rfl ?_); conv => whnf)
          obtain ⟨hn5, hnc5, hm5, hget5⟩ := owns_get ho2
          obtain ⟨g5, cur5, rfl, rfl, hcl5, hct5, hcg5⟩ := hget5 (by simp)
          rw [List.length_append, List.length_singleton] at hn5
          have hz5 := hcg5 V.length r.2 (by simp)
          have hz0 : 0 ≤ r.2 := hok2.1
          replace hL : Ev.Loc m [] w0 m2 ((g5, .cells (toArr cur5) 3 (0, 0)) :: La2) w := hL
          conv => whnf
          repeat ((first | refine Idx2Req.mk V.length _ (by omega) (by omega) rfl ?_ | (refine LdReq.ownC hX rfl rfl hL .h (by rw [scale_eq, Nat.zero_add, Nat.mul_one]; exact hz5) ?_) | refine BrReq.no (by omega) ?_ | refine BrReq.tt ?_ | refine BrReq.ff ?_ | (refine' zl hX rfl rfl hL ?_ ?_ ?_; rotate_left 4; (repeat first | exact .h | refine .t ?_); exact rfl) | (refine' zm hX rfl rfl hL ?_ ?_ ?_; rotate_left 3; (repeat first | exact .h | refine .t ?_); exact rfl) | (refine' zs hX rfl rfl rfl hL ?_ ?_ ?_; rotate_left 3; (repeat first | exact .h | apply Sets.t); exact rfl; clear hL; intro w hL) | refine ArReq.i64 (by omega) (by omega) ?_ | refine SeqReq.go hX ?_ | refine OptReq.mk rfl ?_); conv => whnf)
          refine CallReq.mk (L1 := La2) (L2 := [_]) (laws_fn m2 ab r.1 La2 hA2 (V ++ [r.2]) (cC (i + 1)) hC3 x y r.2 (by simp [hxV]) (by simp [hyV]) (by simp) (by rw [List.length_append, List.length_singleton]; omega)) (Loc.back (L1 := [_]) hL) ?_
          clear hL
          rintro u m3 La3 w hL hm3 ⟨rfl, ns3, hA3', hN3, hp3, hl3⟩
          have hL := Loc.back (L1 := La3) (L2 := [_]) hL
          rw [List.length_append, List.length_singleton] at hl3
          conv => whnf
          repeat ((first | refine BrReq.tt ?_ | refine BrReq.ff ?_ | (refine' zl hX rfl rfl hL ?_ ?_ ?_; rotate_left 4; (repeat first | exact .h | refine .t ?_); exact rfl) | (refine' zm hX rfl rfl hL ?_ ?_ ?_; rotate_left 3; (repeat first | exact .h | refine .t ?_); exact rfl) | (refine' zs hX rfl rfl rfl hL ?_ ?_ ?_; rotate_left 3; (repeat first | exact .h | apply Sets.t); exact rfl; clear hL; intro w hL) | refine ArReq.i64 (by omega) (by omega) ?_ | refine SeqReq.go hX ?_ | refine OptReq.mk rfl ?_); conv => whnf)
          refine ⟨(i + 1, some ⟨g5, 0, none⟩, n2, c2), ⟨by simp only at hlt ⊢; omega, m3, ns3, La3, _, V ++ [r.2], ⟨(hm1.trans hm2).trans hm3, hA3', hC3.pre hp3 hN3 (Nat.le_refl _), by simp only [List.length_append, List.length_singleton]; omega, by show _ ≤ bN i + (16 + i) + cC i + 7 * (17 + i) + 9 * cC (i + 1) + 31; omega⟩, ho2, hL⟩, by first | omega | (simp only; omega), ?_, ?_⟩
          · repeat (first | exact trivial | (refine And.intro (by (conv => lhs; whnf) <;> (conv => rhs; whnf) <;> (first | rfl)) ?_))
          · repeat (first | exact trivial | (refine And.intro (by (conv => lhs; whnf) <;> (conv => rhs; whnf) <;> (first | rfl)) ?_))
      · conv => whnf
        repeat ((first | refine BrReq.tt ?_ | refine BrReq.ff ?_ | (refine' zl hX rfl rfl hL ?_ ?_ ?_; rotate_left 4; (repeat first | exact .h | refine .t ?_); exact rfl) | (refine' zm hX rfl rfl hL ?_ ?_ ?_; rotate_left 3; (repeat first | exact .h | refine .t ?_); exact rfl) | (refine' zs hX rfl rfl rfl hL ?_ ?_ ?_; rotate_left 3; (repeat first | exact .h | apply Sets.t); exact rfl; clear hL; intro w hL) | refine ArReq.i64 (by omega) (by omega) ?_ | refine SeqReq.go hX ?_ | refine OptReq.mk rfl ?_); conv => whnf)
        exact RetReq.bool (hL.sublist (List.nil_sublist _)) rfl
    · rw [look_no neg hk4] at hA2 ⊢
      by_cases hk0 : 0 ≤ k
      · conv => whnf
        repeat ((first | refine BrReq.yes hk0 ?_ | refine BrReq.no (fun h => hk4 ⟨hk0, h⟩) ?_ | refine BrReq.tt ?_ | refine BrReq.ff ?_ | (refine' zl hX rfl rfl hL ?_ ?_ ?_; rotate_left 4; (repeat first | exact .h | refine .t ?_); exact rfl) | (refine' zm hX rfl rfl hL ?_ ?_ ?_; rotate_left 3; (repeat first | exact .h | refine .t ?_); exact rfl) | (refine' zs hX rfl rfl rfl hL ?_ ?_ ?_; rotate_left 3; (repeat first | exact .h | apply Sets.t); exact rfl; clear hL; intro w hL) | refine ArReq.i64 (by omega) (by omega) ?_ | refine SeqReq.go hX ?_ | refine OptReq.mk rfl ?_); conv => whnf)
        refine LoopReq.inv hX (fun s : Nat × Option Addr × Nat × Nat => [(10, .slice s.2.1 s.2.2.1 s.2.2.2), (71, .int .i64 s.1)]) [3, 9, 70]
          (fun s w => s.1 ≤ n' ∧ ∃ m1 ns La Lo V, (Mem.Le m m1 ∧ Ar ab ns La ∧ Clo ns V (cC s.1) ∧ V.length ≤ 14 + s.1 ∧ ns.length ≤ bN s.1) ∧ OwnS 3 1 (.slice s.2.1 s.2.2.1 s.2.2.2) (ints .i64 V) Lo ∧ Ev.Loc m [] w0 m1 (Lo ++ La) w) (fun s => n' - s.1) (0, A1, n1, c1)
          ⟨by simp, m, _, La2, _, _, ⟨Mem.Le.refl m, hA2, hC, by first | (simp only [List.length_append, List.length_singleton]; omega) | (simp only; omega), by show _ ≤ 20; first | (simp only; omega) | omega⟩, ho, hL⟩ ⟨rfl, rfl, trivial⟩ ?_
        clear hL ho hA hC hA2 hn1
        rintro ⟨i, A3, n3, c3⟩ w f ⟨hj, m1, ns, La, Lo, V, ⟨hm1, hA, hC, hV, hlen⟩, ho, hL⟩
        simp only at hj hC hV hlen ho
        have hp1 : SlI m1 .u8 _ pick := hp.le hm1 (fun _ _ _ h => h)
        have hpc := hp1.cell.2
        clear hp1
        have hcp := cC_pos i
        conv => whnf
        repeat ((first | refine BrReq.tt ?_ | refine BrReq.ff ?_ | (refine' zl hX rfl rfl hL ?_ ?_ ?_; rotate_left 4; (repeat first | exact .h | refine .t ?_); exact rfl) | (refine' zm hX rfl rfl hL ?_ ?_ ?_; rotate_left 3; (repeat first | exact .h | refine .t ?_); exact rfl) | (refine' zs hX rfl rfl rfl hL ?_ ?_ ?_; rotate_left 3; (repeat first | exact .h | apply Sets.t); exact rfl; clear hL; intro w hL) | refine ArReq.i64 (by omega) (by omega) ?_ | refine SeqReq.go hX ?_ | refine OptReq.mk rfl ?_); conv => whnf)
        refine BrReq.dec (fun hlt => ?_) (fun hlt => ?_)
        · have hlt' : i < pick.length := by simp only at hlt; omega
          have hbm := bN_mono i (by omega)
          obtain ⟨a, ea, hc⟩ := hpc i _ (List.getElem?_eq_getElem hlt')
          have hzr := hpi _ (List.getElem_mem hlt')
          generalize pick[i] = z at hc hzr
          obtain ⟨p, rfl⟩ : ∃ p : Nat, z = p := ⟨z.toNat, by omega⟩
          obtain ⟨hn3, hnc3, hm3, hget⟩ := owns_get ho
          obtain ⟨g, cur, rfl, rfl, hcl, hct, hcg⟩ := hget (by rintro rfl; exact absurd hC.v0 (by simp))
          have hVp : 0 < V.length := List.length_pos_of_mem hC.v0
          have hx := hcg (p % V.length) _ (List.getElem?_eq_getElem (Nat.mod_lt _ hVp))
          have hy := hcg ((p * 7 + i) % V.length) _ (List.getElem?_eq_getElem (Nat.mod_lt _ hVp))
          have hxV := List.getElem_mem (Nat.mod_lt p hVp)
          have hyV := List.getElem_mem (Nat.mod_lt (p * 7 + i) hVp)
          have hpl := Nat.mod_lt p hVp
          have hql := Nat.mod_lt (p * 7 + i) hVp
          have hrem : ((p : Int) * 7 + i).tmod n3 = ((p * 7 + i) % V.length : Nat) := by
            rw [hn3, show ((p : Int) * 7 + i) = ((p * 7 + i : Nat) : Int) by push_cast; rfl, tmod_nat]
          generalize V[p % V.length] = x at hx hxV
          generalize V[(p * 7 + i) % V.length] = y at hy hyV
          generalize (p * 7 + i) % V.length = q at hy hql hrem
          replace hL : Ev.Loc m [] w0 m1 ((g, .cells (toArr cur) 3 (0, 0)) :: La) w := hL
          conv => whnf
          repeat ((first | refine BrReq.tt ?_ | refine BrReq.ff ?_ | (refine' zl hX rfl rfl hL ?_ ?_ ?_; rotate_left 4; (repeat first | exact .h | refine .t ?_); exact rfl) | (refine' zm hX rfl rfl hL ?_ ?_ ?_; rotate_left 3; (repeat first | exact .h | refine .t ?_); exact rfl) | (refine' zs hX rfl rfl rfl hL ?_ ?_ ?_; rotate_left 3; (repeat first | exact .h | apply Sets.t); exact rfl; clear hL; intro w hL) | refine ArReq.i64 (by omega) (by omega) ?_ | refine SeqReq.go hX ?_ | refine OptReq.mk rfl ?_); conv => whnf)
          refine DrawReq.plan hX (.fst 0 (.fst 1 (.fst 2 (.fst 3 (.fst 4 (.fst 5 (.fst 6 (.fst 7 (.fst 8 (.fst 9 (.fst 10 (.fst 11 (.fst 12 (.fst 13 (.fst 14 (.fst 15 (.fst 16 (.fst 17 (.fst 18 (.fst 19 (.fst 20 (.fst 21 (.fst 22 (.fst 23 (.fst 24 (.fst 25 (.fst 26 (.done)))))))))))))))))))))))))))) [(g, .cells (toArr cur) 3 (0, 0))] (by kernel_rfl) (by kernel_rfl) hL (fun h => h.one 0 rfl) ?_
          clear hL
          intro w hL
          conv => whnf
          repeat ((first | (refine Idx2Req.mk i a (by simp only) (by simp only at hlt ⊢; omega) ea ?_) | refine LdReq.one hX rfl rfl hL hc ?_ | refine QLdReq.one hX rfl rfl hc ?_ | (refine RemReq.nat (a := p) (k := V.length) (by simp only; omega) hVp ?_) | (refine RemReq.mk (n := ((q : Nat) : Int)) (by simp only; omega) hrem ?_) | (refine Idx2Req.mk (p % V.length) _ rfl (by simp only; omega) rfl ?_) | (refine Idx2Req.mk q _ rfl (by simp only; omega) rfl ?_) | (refine QLdReq.ownC hX rfl rfl .h (by rw [scale_eq, Nat.zero_add, Nat.mul_one]; exact hx) ?_) | (refine QLdReq.ownC hX rfl rfl .h (by rw [scale_eq, Nat.zero_add, Nat.mul_one]; exact hy) ?_) | (refine ArReq.i64 (by simp only; omega) (by simp only; omega) ?_) | (refine' zq hX rfl rfl ?_ ?_ ?_; rotate_left 4; (repeat first | exact .h | refine .t ?_); exact rfl) | (refine' zr hX rfl rfl ?_ ?_ ?_; rotate_left 3; (repeat first | exact .h | refine .t ?_); exact rfl) | refine AltReq.one ?_ | refine BrReq.tt ?_ | refine BrReq.ff ?_ | (refine' zl hX rfl rfl hL ?_ ?_ ?_; rotate_left 4; (repeat first | exact .h | refine .t ?_); exact rfl) | (refine' zm hX rfl rfl hL ?_ ?_ ?_; rotate_left 3; (repeat first | exact .h | refine .t ?_); exact rfl) | (refine' zs hX rfl rfl rfl hL ?_ ?_ ?_; rotate_left 3; (repeat first | exact .h | apply Sets.t); exact rfl; clear hL; intro w hL) | refine ArReq.i64 (by omega) (by omega) ?_ | refine SeqReq.go hX ?_ | refine OptReq.mk rfl ?_); conv => whnf)
          have hbl : ∀ z ∈ ints .i64 V, True := fun _ _ => trivial
          clear hbl
          replace hL : Ev.Loc m [] w0 m1 ([(g, .cells (toArr cur) 3 (0, 0))] ++ La) w := hL
          generalize hLo : [(g, Obj.cells (toArr cur) 3 (0, 0))] = Lo at ho hL
          generalize hA3 : some (⟨g, 0, none⟩ : Addr) = A3 at ho
          have hx64 := okId_i64 hC.nm.ok.len (hC.ok x hxV)
          have hy64 := okId_i64 hC.nm.ok.len (hC.ok y hyV)
          have hC' : cC (i + 1) = if i % 5 = 2 then 2 * cC i else cC i := rfl
          have hi5 := Nat.mod_lt i (show 0 < 5 by omega)
          by_cases i0 : i % 5 = 0
          · have i2 : ¬ i % 5 = 2 := by omega
            conv => whnf
            repeat ((first | refine RemReq.nat (a := i) (k := 5) rfl (by omega) ?_ | refine BrReq.no (by omega) ?_ | refine BrReq.yes (by omega) ?_ | refine BrReq.tt ?_ | refine BrReq.ff ?_ | (refine' zl hX rfl rfl hL ?_ ?_ ?_; rotate_left 4; (repeat first | exact .h | refine .t ?_); exact rfl) | (refine' zm hX rfl rfl hL ?_ ?_ ?_; rotate_left 3; (repeat first | exact .h | refine .t ?_); exact rfl) | (refine' zs hX rfl rfl rfl hL ?_ ?_ ?_; rotate_left 3; (repeat first | exact .h | apply Sets.t); exact rfl; clear hL; intro w hL) | refine ArReq.i64 (by omega) (by omega) ?_ | refine SeqReq.go hX ?_ | refine OptReq.mk rfl ?_); conv => whnf)
            refine NewReq.mk hL ?_
            clear hL
            intro g1 w hL
            conv => whnf
            obtain ⟨m0, hL1, hm0, hs⟩ := there_row (l := [x, y]) hL (by simp)
            clear hL
            have hL := hL1
            clear hL1
            conv => whnf
            repeat ((first | refine BrReq.tt ?_ | refine BrReq.ff ?_ | (refine' zl hX rfl rfl hL ?_ ?_ ?_; rotate_left 4; (repeat first | exact .h | refine .t ?_); exact rfl) | (refine' zm hX rfl rfl hL ?_ ?_ ?_; rotate_left 3; (repeat first | exact .h | refine .t ?_); exact rfl) | (refine' zs hX rfl rfl rfl hL ?_ ?_ ?_; rotate_left 3; (repeat first | exact .h | apply Sets.t); exact rfl; clear hL; intro w hL) | refine ArReq.i64 (by omega) (by omega) ?_ | refine SeqReq.go hX ?_ | refine OptReq.mk rfl ?_); conv => whnf)
            refine CallReq.mk (L1 := La) (L2 := Lo) (OrG_fn m0 ab ns La hA hC.nm.ok _ [x, y] hs (by simp)) (Loc.back (L1 := Lo) hL) ?_
            clear hL
            rintro u m2 La2 w hL hm2 ⟨rfl, hA2⟩
            have hL := Loc.back (L1 := La2) hL
            replace hm2 : Mem.Le m1 m2 := hm0.trans hm2
            obtain ⟨hC2, hpre, hl2, hok2⟩ := hC.gput hcp (g := false) hxV hyV (by omega)
            have hlen2 : (gputN false ns [x, y]).1.length ≤ bN i + (16 + i) + cC i := by omega
            have hC3 : Clo (gputN false ns [x, y]).1 (V ++ [(gputN false ns [x, y]).2]) (cC (i + 1)) := by rw [hC']; first | (rw [if_neg i2]; exact hC2) | (rw [if_pos i2]; exact hC2)
            clear hC2 hl2
            generalize gputN false ns [x, y] = r at hA2 hC3 hpre hlen2 hok2 ⊢
            conv => whnf
            repeat ((first | refine BrReq.tt ?_ | refine BrReq.ff ?_ | (refine' zl hX rfl rfl hL ?_ ?_ ?_; rotate_left 4; (repeat first | exact .h | refine .t ?_); exact rfl) | (refine' zm hX rfl rfl hL ?_ ?_ ?_; rotate_left 3; (repeat first | exact .h | refine .t ?_); exact rfl) | (refine' zs hX rfl rfl rfl hL ?_ ?_ ?_; rotate_left 3; (repeat first | exact .h | apply Sets.t); exact rfl; clear hL; intro w hL) | refine ArReq.i64 (by omega) (by omega) ?_ | refine SeqReq.go hX ?_ | refine OptReq.mk rfl ?_); conv => whnf)
            refine NewReq.mk hL ?_
            clear hL
            intro g2 w hL
            conv => whnf
            replace hL : Ev.Loc m [] w0 m2 ((g2, .cells (toArr [.int .i64 r.2]) 3 (0, 0)) :: (Lo ++ La2)) w := hL
            conv => whnf
            repeat ((first | refine BrReq.tt ?_ | refine BrReq.ff ?_ | (refine' zl hX rfl rfl hL ?_ ?_ ?_; rotate_left 4; (repeat first | exact .h | refine .t ?_); exact rfl) | (refine' zm hX rfl rfl hL ?_ ?_ ?_; rotate_left 3; (repeat first | exact .h | refine .t ?_); exact rfl) | (refine' zs hX rfl rfl rfl hL ?_ ?_ ?_; rotate_left 3; (repeat first | exact .h | apply Sets.t); exact rfl; clear hL; intro w hL) | refine ArReq.i64 (by omega) (by omega) ?_ | refine SeqReq.go hX ?_ | refine OptReq.mk rfl ?_); conv => whnf)
            refine RunReq.push hX 40 3 rfl rfl rfl rfl rfl ho (L2 := La2) hL rfl rfl (by simp [ints]; omega) rfl ?_
            clear hL
            intro A2 n2 c2 Lo2 w hn2 ho2 hL
            rw [← show ints .i64 (V ++ [r.2]) = ints .i64 V ++ [Value.int .i64 r.2] from ints_append ..] at ho2
            conv => whnf
            repeat ((first | refine BrReq.tt ?_ | refine BrReq.ff ?_ | (refine' zl hX rfl rfl hL ?_ ?_ ?_; rotate_left 4; (repeat first | exact .h | refine .t ?_); exact rfl) | (refine' zm hX rfl rfl hL ?_ ?_ ?_; rotate_left 3; (repeat first | exact .h | refine .t ?_); exact rfl) | (refine' zs hX rfl rfl rfl hL ?_ ?_ ?_; rotate_left 3; (repeat first | exact .h | apply Sets.t); exact rfl; clear hL; intro w hL) | refine ArReq.i64 (by omega) (by omega) ?_ | refine SeqReq.go hX ?_ | refine OptReq.mk rfl ?_); conv => whnf)
            obtain ⟨hn5, hnc5, hm5, hget5⟩ := owns_get ho2
            obtain ⟨g5, cur5, rfl, rfl, hcl5, hct5, hcg5⟩ := hget5 (by simp)
            rw [List.length_append, List.length_singleton] at hn5
            have hz5 := hcg5 V.length r.2 (by simp)
            have hz0 : 0 ≤ r.2 := hok2.1
            replace hL : Ev.Loc m [] w0 m2 ((g5, .cells (toArr cur5) 3 (0, 0)) :: La2) w := hL
            conv => whnf
            repeat ((first | refine Idx2Req.mk V.length _ (by omega) (by omega) rfl ?_ | (refine LdReq.ownC hX rfl rfl hL .h (by rw [scale_eq, Nat.zero_add, Nat.mul_one]; exact hz5) ?_) | refine BrReq.no (by omega) ?_ | refine BrReq.tt ?_ | refine BrReq.ff ?_ | (refine' zl hX rfl rfl hL ?_ ?_ ?_; rotate_left 4; (repeat first | exact .h | refine .t ?_); exact rfl) | (refine' zm hX rfl rfl hL ?_ ?_ ?_; rotate_left 3; (repeat first | exact .h | refine .t ?_); exact rfl) | (refine' zs hX rfl rfl rfl hL ?_ ?_ ?_; rotate_left 3; (repeat first | exact .h | apply Sets.t); exact rfl; clear hL; intro w hL) | refine ArReq.i64 (by omega) (by omega) ?_ | refine SeqReq.go hX ?_ | refine OptReq.mk rfl ?_); conv => whnf)
            refine CallReq.mk (L1 := La2) (L2 := [_]) (laws_fn m2 ab r.1 La2 hA2 (V ++ [r.2]) (cC (i + 1)) hC3 x y r.2 (by simp [hxV]) (by simp [hyV]) (by simp) (by rw [List.length_append, List.length_singleton]; omega)) (Loc.back (L1 := [_]) hL) ?_
            clear hL
            rintro u m3 La3 w hL hm3 ⟨rfl, ns3, hA3', hN3, hp3, hl3⟩
            have hL := Loc.back (L1 := La3) (L2 := [_]) hL
            rw [List.length_append, List.length_singleton] at hl3
            conv => whnf
            repeat ((first | refine BrReq.tt ?_ | refine BrReq.ff ?_ | (refine' zl hX rfl rfl hL ?_ ?_ ?_; rotate_left 4; (repeat first | exact .h | refine .t ?_); exact rfl) | (refine' zm hX rfl rfl hL ?_ ?_ ?_; rotate_left 3; (repeat first | exact .h | refine .t ?_); exact rfl) | (refine' zs hX rfl rfl rfl hL ?_ ?_ ?_; rotate_left 3; (repeat first | exact .h | apply Sets.t); exact rfl; clear hL; intro w hL) | refine ArReq.i64 (by omega) (by omega) ?_ | refine SeqReq.go hX ?_ | refine OptReq.mk rfl ?_); conv => whnf)
            refine ⟨(i + 1, some ⟨g5, 0, none⟩, n2, c2), ⟨by simp only at hlt ⊢; omega, m3, ns3, La3, _, V ++ [r.2], ⟨(hm1.trans hm2).trans hm3, hA3', hC3.pre hp3 hN3 (Nat.le_refl _), by simp only [List.length_append, List.length_singleton]; omega, by show _ ≤ bN i + (16 + i) + cC i + 7 * (17 + i) + 9 * cC (i + 1) + 31; omega⟩, ho2, hL⟩, by first | omega | (simp only; omega), ?_, ?_⟩
            · repeat (first | exact trivial | (refine And.intro (by (conv => lhs; whnf) <;> (conv => rhs; whnf) <;> (first | rfl)) ?_))
            · repeat (first | exact trivial | (refine And.intro (by (conv => lhs; whnf) <;> (conv => rhs; whnf) <;> (first | rfl)) ?_))
          by_cases i1 : i % 5 = 1
          · have i2 : ¬ i % 5 = 2 := by omega
            conv => whnf
            repeat ((first | refine RemReq.nat (a := i) (k := 5) rfl (by omega) ?_ | refine BrReq.no (by omega) ?_ | refine BrReq.yes (by omega) ?_ | refine BrReq.tt ?_ | refine BrReq.ff ?_ | (refine' zl hX rfl rfl hL ?_ ?_ ?_; rotate_left 4; (repeat first | exact .h | refine .t ?_); exact rfl) | (refine' zm hX rfl rfl hL ?_ ?_ ?_; rotate_left 3; (repeat first | exact .h | refine .t ?_); exact rfl) | (refine' zs hX rfl rfl rfl hL ?_ ?_ ?_; rotate_left 3; (repeat first | exact .h | apply Sets.t); exact rfl; clear hL; intro w hL) | refine ArReq.i64 (by omega) (by omega) ?_ | refine SeqReq.go hX ?_ | refine OptReq.mk rfl ?_); conv => whnf)
            refine NewReq.mk hL ?_
            clear hL
            intro g1 w hL
            conv => whnf
            obtain ⟨m0, hL1, hm0, hs⟩ := there_row (l := [x, y]) hL (by simp)
            clear hL
            have hL := hL1
            clear hL1
            conv => whnf
            repeat ((first | refine BrReq.tt ?_ | refine BrReq.ff ?_ | (refine' zl hX rfl rfl hL ?_ ?_ ?_; rotate_left 4; (repeat first | exact .h | refine .t ?_); exact rfl) | (refine' zm hX rfl rfl hL ?_ ?_ ?_; rotate_left 3; (repeat first | exact .h | refine .t ?_); exact rfl) | (refine' zs hX rfl rfl rfl hL ?_ ?_ ?_; rotate_left 3; (repeat first | exact .h | apply Sets.t); exact rfl; clear hL; intro w hL) | refine ArReq.i64 (by omega) (by omega) ?_ | refine SeqReq.go hX ?_ | refine OptReq.mk rfl ?_); conv => whnf)
            refine CallReq.mk (L1 := La) (L2 := Lo) (AndG_fn m0 ab ns La hA hC.nm.ok _ [x, y] hs (by simp)) (Loc.back (L1 := Lo) hL) ?_
            clear hL
            rintro u m2 La2 w hL hm2 ⟨rfl, hA2⟩
            have hL := Loc.back (L1 := La2) hL
            replace hm2 : Mem.Le m1 m2 := hm0.trans hm2
            obtain ⟨hC2, hpre, hl2, hok2⟩ := hC.gput hcp (g := true) hxV hyV (by omega)
            have hlen2 : (gputN true ns [x, y]).1.length ≤ bN i + (16 + i) + cC i := by omega
            have hC3 : Clo (gputN true ns [x, y]).1 (V ++ [(gputN true ns [x, y]).2]) (cC (i + 1)) := by rw [hC']; first | (rw [if_neg i2]; exact hC2) | (rw [if_pos i2]; exact hC2)
            clear hC2 hl2
            generalize gputN true ns [x, y] = r at hA2 hC3 hpre hlen2 hok2 ⊢
            conv => whnf
            repeat ((first | refine BrReq.tt ?_ | refine BrReq.ff ?_ | (refine' zl hX rfl rfl hL ?_ ?_ ?_; rotate_left 4; (repeat first | exact .h | refine .t ?_); exact rfl) | (refine' zm hX rfl rfl hL ?_ ?_ ?_; rotate_left 3; (repeat first | exact .h | refine .t ?_); exact rfl) | (refine' zs hX rfl rfl rfl hL ?_ ?_ ?_; rotate_left 3; (repeat first | exact .h | apply Sets.t); exact rfl; clear hL; intro w hL) | refine ArReq.i64 (by omega) (by omega) ?_ | refine SeqReq.go hX ?_ | refine OptReq.mk rfl ?_); conv => whnf)
            refine NewReq.mk hL ?_
            clear hL
            intro g2 w hL
            conv => whnf
            replace hL : Ev.Loc m [] w0 m2 ((g2, .cells (toArr [.int .i64 r.2]) 3 (0, 0)) :: (Lo ++ La2)) w := hL
            conv => whnf
            repeat ((first | refine BrReq.tt ?_ | refine BrReq.ff ?_ | (refine' zl hX rfl rfl hL ?_ ?_ ?_; rotate_left 4; (repeat first | exact .h | refine .t ?_); exact rfl) | (refine' zm hX rfl rfl hL ?_ ?_ ?_; rotate_left 3; (repeat first | exact .h | refine .t ?_); exact rfl) | (refine' zs hX rfl rfl rfl hL ?_ ?_ ?_; rotate_left 3; (repeat first | exact .h | apply Sets.t); exact rfl; clear hL; intro w hL) | refine ArReq.i64 (by omega) (by omega) ?_ | refine SeqReq.go hX ?_ | refine OptReq.mk rfl ?_); conv => whnf)
            refine RunReq.push hX 40 3 rfl rfl rfl rfl rfl ho (L2 := La2) hL rfl rfl (by simp [ints]; omega) rfl ?_
            clear hL
            intro A2 n2 c2 Lo2 w hn2 ho2 hL
            rw [← show ints .i64 (V ++ [r.2]) = ints .i64 V ++ [Value.int .i64 r.2] from ints_append ..] at ho2
            conv => whnf
            repeat ((first | refine BrReq.tt ?_ | refine BrReq.ff ?_ | (refine' zl hX rfl rfl hL ?_ ?_ ?_; rotate_left 4; (repeat first | exact .h | refine .t ?_); exact rfl) | (refine' zm hX rfl rfl hL ?_ ?_ ?_; rotate_left 3; (repeat first | exact .h | refine .t ?_); exact rfl) | (refine' zs hX rfl rfl rfl hL ?_ ?_ ?_; rotate_left 3; (repeat first | exact .h | apply Sets.t); exact rfl; clear hL; intro w hL) | refine ArReq.i64 (by omega) (by omega) ?_ | refine SeqReq.go hX ?_ | refine OptReq.mk rfl ?_); conv => whnf)
            obtain ⟨hn5, hnc5, hm5, hget5⟩ := owns_get ho2
            obtain ⟨g5, cur5, rfl, rfl, hcl5, hct5, hcg5⟩ := hget5 (by simp)
            rw [List.length_append, List.length_singleton] at hn5
            have hz5 := hcg5 V.length r.2 (by simp)
            have hz0 : 0 ≤ r.2 := hok2.1
            replace hL : Ev.Loc m [] w0 m2 ((g5, .cells (toArr cur5) 3 (0, 0)) :: La2) w := hL
            conv => whnf
            repeat ((first | refine Idx2Req.mk V.length _ (by omega) (by omega) rfl ?_ | (refine LdReq.ownC hX rfl rfl hL .h (by rw [scale_eq, Nat.zero_add, Nat.mul_one]; exact hz5) ?_) | refine BrReq.no (by omega) ?_ | refine BrReq.tt ?_ | refine BrReq.ff ?_ | (refine' zl hX rfl rfl hL ?_ ?_ ?_; rotate_left 4; (repeat first | exact .h | refine .t ?_); exact rfl) | (refine' zm hX rfl rfl hL ?_ ?_ ?_; rotate_left 3; (repeat first | exact .h | refine .t ?_); exact rfl) | (refine' zs hX rfl rfl rfl hL ?_ ?_ ?_; rotate_left 3; (repeat first | exact .h | apply Sets.t); exact rfl; clear hL; intro w hL) | refine ArReq.i64 (by omega) (by omega) ?_ | refine SeqReq.go hX ?_ | refine OptReq.mk rfl ?_); conv => whnf)
            refine CallReq.mk (L1 := La2) (L2 := [_]) (laws_fn m2 ab r.1 La2 hA2 (V ++ [r.2]) (cC (i + 1)) hC3 x y r.2 (by simp [hxV]) (by simp [hyV]) (by simp) (by rw [List.length_append, List.length_singleton]; omega)) (Loc.back (L1 := [_]) hL) ?_
            clear hL
            rintro u m3 La3 w hL hm3 ⟨rfl, ns3, hA3', hN3, hp3, hl3⟩
            have hL := Loc.back (L1 := La3) (L2 := [_]) hL
            rw [List.length_append, List.length_singleton] at hl3
            conv => whnf
            repeat ((first | refine BrReq.tt ?_ | refine BrReq.ff ?_ | (refine' zl hX rfl rfl hL ?_ ?_ ?_; rotate_left 4; (repeat first | exact .h | refine .t ?_); exact rfl) | (refine' zm hX rfl rfl hL ?_ ?_ ?_; rotate_left 3; (repeat first | exact .h | refine .t ?_); exact rfl) | (refine' zs hX rfl rfl rfl hL ?_ ?_ ?_; rotate_left 3; (repeat first | exact .h | apply Sets.t); exact rfl; clear hL; intro w hL) | refine ArReq.i64 (by omega) (by omega) ?_ | refine SeqReq.go hX ?_ | refine OptReq.mk rfl ?_); conv => whnf)
            refine ⟨(i + 1, some ⟨g5, 0, none⟩, n2, c2), ⟨by simp only at hlt ⊢; omega, m3, ns3, La3, _, V ++ [r.2], ⟨(hm1.trans hm2).trans hm3, hA3', hC3.pre hp3 hN3 (Nat.le_refl _), by simp only [List.length_append, List.length_singleton]; omega, by show _ ≤ bN i + (16 + i) + cC i + 7 * (17 + i) + 9 * cC (i + 1) + 31; omega⟩, ho2, hL⟩, by first | omega | (simp only; omega), ?_, ?_⟩
            · repeat (first | exact trivial | (refine And.intro (by (conv => lhs; whnf) <;> (conv => rhs; whnf) <;> (first | rfl)) ?_))
            · repeat (first | exact trivial | (refine And.intro (by (conv => lhs; whnf) <;> (conv => rhs; whnf) <;> (first | rfl)) ?_))
          by_cases i2 : i % 5 = 2
          · have hcat := hC.cat hcp hxV hyV (by omega)
            unfold catN at hcat
            conv => whnf
            repeat ((first | refine RemReq.nat (a := i) (k := 5) rfl (by omega) ?_ | refine BrReq.no (by omega) ?_ | refine BrReq.yes (by omega) ?_ | refine BrReq.tt ?_ | refine BrReq.ff ?_ | (refine' zl hX rfl rfl hL ?_ ?_ ?_; rotate_left 4; (repeat first | exact .h | refine .t ?_); exact rfl) | (refine' zm hX rfl rfl hL ?_ ?_ ?_; rotate_left 3; (repeat first | exact .h | refine .t ?_); exact rfl) | (refine' zs hX rfl rfl rfl hL ?_ ?_ ?_; rotate_left 3; (repeat first | exact .h | apply Sets.t); exact rfl; clear hL; intro w hL) | refine ArReq.i64 (by omega) (by omega) ?_ | refine SeqReq.go hX ?_ | refine OptReq.mk rfl ?_); conv => whnf)
            refine CallReq.mk (L1 := La) (L2 := Lo) (CatF_fn ab (x.toNat + 1) m1 ns La hA hC.nm.ok x y hx64 hy64 (fun _ => Nat.lt_succ_self _) (by omega)) (Loc.back (L1 := Lo) hL) ?_
            clear hL
            rintro u m2 La2 w hL hm2 ⟨rfl, hA2⟩
            have hL := Loc.back (L1 := La2) hL
            obtain ⟨hC2, hpre, hl2, hok2⟩ := hcat
            have hlen2 : (catF (x.toNat + 1) ns x y).1.length ≤ bN i + (16 + i) + cC i := by omega
            have hC3 : Clo (catF (x.toNat + 1) ns x y).1 (V ++ [(catF (x.toNat + 1) ns x y).2]) (cC (i + 1)) := by rw [hC']; first | (rw [if_neg i2]; exact hC2) | (rw [if_pos i2]; exact hC2)
            clear hC2 hl2
            generalize catF (x.toNat + 1) ns x y = r at hA2 hC3 hpre hlen2 hok2 ⊢
            conv => whnf
            repeat ((first | refine BrReq.tt ?_ | refine BrReq.ff ?_ | (refine' zl hX rfl rfl hL ?_ ?_ ?_; rotate_left 4; (repeat first | exact .h | refine .t ?_); exact rfl) | (refine' zm hX rfl rfl hL ?_ ?_ ?_; rotate_left 3; (repeat first | exact .h | refine .t ?_); exact rfl) | (refine' zs hX rfl rfl rfl hL ?_ ?_ ?_; rotate_left 3; (repeat first | exact .h | apply Sets.t); exact rfl; clear hL; intro w hL) | refine ArReq.i64 (by omega) (by omega) ?_ | refine SeqReq.go hX ?_ | refine OptReq.mk rfl ?_); conv => whnf)
            refine NewReq.mk hL ?_
            clear hL
            intro g2 w hL
            conv => whnf
            replace hL : Ev.Loc m [] w0 m2 ((g2, .cells (toArr [.int .i64 r.2]) 3 (0, 0)) :: (Lo ++ La2)) w := hL
            conv => whnf
            repeat ((first | refine BrReq.tt ?_ | refine BrReq.ff ?_ | (refine' zl hX rfl rfl hL ?_ ?_ ?_; rotate_left 4; (repeat first | exact .h | refine .t ?_); exact rfl) | (refine' zm hX rfl rfl hL ?_ ?_ ?_; rotate_left 3; (repeat first | exact .h | refine .t ?_); exact rfl) | (refine' zs hX rfl rfl rfl hL ?_ ?_ ?_; rotate_left 3; (repeat first | exact .h | apply Sets.t); exact rfl; clear hL; intro w hL) | refine ArReq.i64 (by omega) (by omega) ?_ | refine SeqReq.go hX ?_ | refine OptReq.mk rfl ?_); conv => whnf)
            refine RunReq.push hX 40 3 rfl rfl rfl rfl rfl ho (L2 := La2) hL rfl rfl (by simp [ints]; omega) rfl ?_
            clear hL
            intro A2 n2 c2 Lo2 w hn2 ho2 hL
            rw [← show ints .i64 (V ++ [r.2]) = ints .i64 V ++ [Value.int .i64 r.2] from ints_append ..] at ho2
            conv => whnf
            repeat ((first | refine BrReq.tt ?_ | refine BrReq.ff ?_ | (refine' zl hX rfl rfl hL ?_ ?_ ?_; rotate_left 4; (repeat first | exact .h | refine .t ?_); exact rfl) | (refine' zm hX rfl rfl hL ?_ ?_ ?_; rotate_left 3; (repeat first | exact .h | refine .t ?_); exact rfl) | (refine' zs hX rfl rfl rfl hL ?_ ?_ ?_; rotate_left 3; (repeat first | exact .h | apply Sets.t); exact rfl; clear hL; intro w hL) | refine ArReq.i64 (by omega) (by omega) ?_ | refine SeqReq.go hX ?_ | refine OptReq.mk rfl ?_); conv => whnf)
            obtain ⟨hn5, hnc5, hm5, hget5⟩ := owns_get ho2
            obtain ⟨g5, cur5, rfl, rfl, hcl5, hct5, hcg5⟩ := hget5 (by simp)
            rw [List.length_append, List.length_singleton] at hn5
            have hz5 := hcg5 V.length r.2 (by simp)
            have hz0 : 0 ≤ r.2 := hok2.1
            replace hL : Ev.Loc m [] w0 m2 ((g5, .cells (toArr cur5) 3 (0, 0)) :: La2) w := hL
            conv => whnf
            repeat ((first | refine Idx2Req.mk V.length _ (by omega) (by omega) rfl ?_ | (refine LdReq.ownC hX rfl rfl hL .h (by rw [scale_eq, Nat.zero_add, Nat.mul_one]; exact hz5) ?_) | refine BrReq.no (by omega) ?_ | refine BrReq.tt ?_ | refine BrReq.ff ?_ | (refine' zl hX rfl rfl hL ?_ ?_ ?_; rotate_left 4; (repeat first | exact .h | refine .t ?_); exact rfl) | (refine' zm hX rfl rfl hL ?_ ?_ ?_; rotate_left 3; (repeat first | exact .h | refine .t ?_); exact rfl) | (refine' zs hX rfl rfl rfl hL ?_ ?_ ?_; rotate_left 3; (repeat first | exact .h | apply Sets.t); exact rfl; clear hL; intro w hL) | refine ArReq.i64 (by omega) (by omega) ?_ | refine SeqReq.go hX ?_ | refine OptReq.mk rfl ?_); conv => whnf)
            refine CallReq.mk (L1 := La2) (L2 := [_]) (laws_fn m2 ab r.1 La2 hA2 (V ++ [r.2]) (cC (i + 1)) hC3 x y r.2 (by simp [hxV]) (by simp [hyV]) (by simp) (by rw [List.length_append, List.length_singleton]; omega)) (Loc.back (L1 := [_]) hL) ?_
            clear hL
            rintro u m3 La3 w hL hm3 ⟨rfl, ns3, hA3', hN3, hp3, hl3⟩
            have hL := Loc.back (L1 := La3) (L2 := [_]) hL
            rw [List.length_append, List.length_singleton] at hl3
            conv => whnf
            repeat ((first | refine BrReq.tt ?_ | refine BrReq.ff ?_ | (refine' zl hX rfl rfl hL ?_ ?_ ?_; rotate_left 4; (repeat first | exact .h | refine .t ?_); exact rfl) | (refine' zm hX rfl rfl hL ?_ ?_ ?_; rotate_left 3; (repeat first | exact .h | refine .t ?_); exact rfl) | (refine' zs hX rfl rfl rfl hL ?_ ?_ ?_; rotate_left 3; (repeat first | exact .h | apply Sets.t); exact rfl; clear hL; intro w hL) | refine ArReq.i64 (by omega) (by omega) ?_ | refine SeqReq.go hX ?_ | refine OptReq.mk rfl ?_); conv => whnf)
            refine ⟨(i + 1, some ⟨g5, 0, none⟩, n2, c2), ⟨by simp only at hlt ⊢; omega, m3, ns3, La3, _, V ++ [r.2], ⟨(hm1.trans hm2).trans hm3, hA3', hC3.pre hp3 hN3 (Nat.le_refl _), by simp only [List.length_append, List.length_singleton]; omega, by show _ ≤ bN i + (16 + i) + cC i + 7 * (17 + i) + 9 * cC (i + 1) + 31; omega⟩, ho2, hL⟩, by first | omega | (simp only; omega), ?_, ?_⟩
            · repeat (first | exact trivial | (refine And.intro (by (conv => lhs; whnf) <;> (conv => rhs; whnf) <;> (first | rfl)) ?_))
            · repeat (first | exact trivial | (refine And.intro (by (conv => lhs; whnf) <;> (conv => rhs; whnf) <;> (first | rfl)) ?_))
          by_cases i3 : i % 5 = 3
          · conv => whnf
            repeat ((first | refine RemReq.nat (a := i) (k := 5) rfl (by omega) ?_ | refine BrReq.no (by omega) ?_ | refine BrReq.yes (by omega) ?_ | refine BrReq.tt ?_ | refine BrReq.ff ?_ | (refine' zl hX rfl rfl hL ?_ ?_ ?_; rotate_left 4; (repeat first | exact .h | refine .t ?_); exact rfl) | (refine' zm hX rfl rfl hL ?_ ?_ ?_; rotate_left 3; (repeat first | exact .h | refine .t ?_); exact rfl) | (refine' zs hX rfl rfl rfl hL ?_ ?_ ?_; rotate_left 3; (repeat first | exact .h | apply Sets.t); exact rfl; clear hL; intro w hL) | refine ArReq.i64 (by omega) (by omega) ?_ | refine SeqReq.go hX ?_ | refine OptReq.mk rfl ?_); conv => whnf)
            refine CallReq.mk (L1 := La) (L2 := Lo) (NotG_fn m1 ab ns La hA hC.nm.ok x) (Loc.back (L1 := Lo) hL) ?_
            clear hL
            rintro u m2 La2 w hL hm2 ⟨rfl, hA2⟩
            have hL := Loc.back (L1 := La2) hL
            obtain ⟨hC2, hpre, hl2, hok2⟩ := hC.not hcp hxV (by omega)
            have hlen2 : (notN ns x).1.length ≤ bN i + (16 + i) + cC i := by omega
            have hC3 : Clo (notN ns x).1 (V ++ [(notN ns x).2]) (cC (i + 1)) := by rw [hC']; first | (rw [if_neg i2]; exact hC2) | (rw [if_pos i2]; exact hC2)
            clear hC2 hl2
            generalize notN ns x = r at hA2 hC3 hpre hlen2 hok2 ⊢
            conv => whnf
            repeat ((first | refine BrReq.tt ?_ | refine BrReq.ff ?_ | (refine' zl hX rfl rfl hL ?_ ?_ ?_; rotate_left 4; (repeat first | exact .h | refine .t ?_); exact rfl) | (refine' zm hX rfl rfl hL ?_ ?_ ?_; rotate_left 3; (repeat first | exact .h | refine .t ?_); exact rfl) | (refine' zs hX rfl rfl rfl hL ?_ ?_ ?_; rotate_left 3; (repeat first | exact .h | apply Sets.t); exact rfl; clear hL; intro w hL) | refine ArReq.i64 (by omega) (by omega) ?_ | refine SeqReq.go hX ?_ | refine OptReq.mk rfl ?_); conv => whnf)
            refine NewReq.mk hL ?_
            clear hL
            intro g2 w hL
            conv => whnf
            replace hL : Ev.Loc m [] w0 m2 ((g2, .cells (toArr [.int .i64 r.2]) 3 (0, 0)) :: (Lo ++ La2)) w := hL
            conv => whnf
            repeat ((first | refine BrReq.tt ?_ | refine BrReq.ff ?_ | (refine' zl hX rfl rfl hL ?_ ?_ ?_; rotate_left 4; (repeat first | exact .h | refine .t ?_); exact rfl) | (refine' zm hX rfl rfl hL ?_ ?_ ?_; rotate_left 3; (repeat first | exact .h | refine .t ?_); exact rfl) | (refine' zs hX rfl rfl rfl hL ?_ ?_ ?_; rotate_left 3; (repeat first | exact .h | apply Sets.t); exact rfl; clear hL; intro w hL) | refine ArReq.i64 (by omega) (by omega) ?_ | refine SeqReq.go hX ?_ | refine OptReq.mk rfl ?_); conv => whnf)
            refine RunReq.push hX 40 3 rfl rfl rfl rfl rfl ho (L2 := La2) hL rfl rfl (by simp [ints]; omega) rfl ?_
            clear hL
            intro A2 n2 c2 Lo2 w hn2 ho2 hL
            rw [← show ints .i64 (V ++ [r.2]) = ints .i64 V ++ [Value.int .i64 r.2] from ints_append ..] at ho2
            conv => whnf
            repeat ((first | refine BrReq.tt ?_ | refine BrReq.ff ?_ | (refine' zl hX rfl rfl hL ?_ ?_ ?_; rotate_left 4; (repeat first | exact .h | refine .t ?_); exact rfl) | (refine' zm hX rfl rfl hL ?_ ?_ ?_; rotate_left 3; (repeat first | exact .h | refine .t ?_); exact rfl) | (refine' zs hX rfl rfl rfl hL ?_ ?_ ?_; rotate_left 3; (repeat first | exact .h | apply Sets.t); exact rfl; clear hL; intro w hL) | refine ArReq.i64 (by omega) (by omega) ?_ | refine SeqReq.go hX ?_ | refine OptReq.mk rfl ?_); conv => whnf)
            obtain ⟨hn5, hnc5, hm5, hget5⟩ := owns_get ho2
            obtain ⟨g5, cur5, rfl, rfl, hcl5, hct5, hcg5⟩ := hget5 (by simp)
            rw [List.length_append, List.length_singleton] at hn5
            have hz5 := hcg5 V.length r.2 (by simp)
            have hz0 : 0 ≤ r.2 := hok2.1
            replace hL : Ev.Loc m [] w0 m2 ((g5, .cells (toArr cur5) 3 (0, 0)) :: La2) w := hL
            conv => whnf
            repeat ((first | refine Idx2Req.mk V.length _ (by omega) (by omega) rfl ?_ | (refine LdReq.ownC hX rfl rfl hL .h (by rw [scale_eq, Nat.zero_add, Nat.mul_one]; exact hz5) ?_) | refine BrReq.no (by omega) ?_ | refine BrReq.tt ?_ | refine BrReq.ff ?_ | (refine' zl hX rfl rfl hL ?_ ?_ ?_; rotate_left 4; (repeat first | exact .h | refine .t ?_); exact rfl) | (refine' zm hX rfl rfl hL ?_ ?_ ?_; rotate_left 3; (repeat first | exact .h | refine .t ?_); exact rfl) | (refine' zs hX rfl rfl rfl hL ?_ ?_ ?_; rotate_left 3; (repeat first | exact .h | apply Sets.t); exact rfl; clear hL; intro w hL) | refine ArReq.i64 (by omega) (by omega) ?_ | refine SeqReq.go hX ?_ | refine OptReq.mk rfl ?_); conv => whnf)
            refine CallReq.mk (L1 := La2) (L2 := [_]) (laws_fn m2 ab r.1 La2 hA2 (V ++ [r.2]) (cC (i + 1)) hC3 x y r.2 (by simp [hxV]) (by simp [hyV]) (by simp) (by rw [List.length_append, List.length_singleton]; omega)) (Loc.back (L1 := [_]) hL) ?_
            clear hL
            rintro u m3 La3 w hL hm3 ⟨rfl, ns3, hA3', hN3, hp3, hl3⟩
            have hL := Loc.back (L1 := La3) (L2 := [_]) hL
            rw [List.length_append, List.length_singleton] at hl3
            conv => whnf
            repeat ((first | refine BrReq.tt ?_ | refine BrReq.ff ?_ | (refine' zl hX rfl rfl hL ?_ ?_ ?_; rotate_left 4; (repeat first | exact .h | refine .t ?_); exact rfl) | (refine' zm hX rfl rfl hL ?_ ?_ ?_; rotate_left 3; (repeat first | exact .h | refine .t ?_); exact rfl) | (refine' zs hX rfl rfl rfl hL ?_ ?_ ?_; rotate_left 3; (repeat first | exact .h | apply Sets.t); exact rfl; clear hL; intro w hL) | refine ArReq.i64 (by omega) (by omega) ?_ | refine SeqReq.go hX ?_ | refine OptReq.mk rfl ?_); conv => whnf)
            refine ⟨(i + 1, some ⟨g5, 0, none⟩, n2, c2), ⟨by simp only at hlt ⊢; omega, m3, ns3, La3, _, V ++ [r.2], ⟨(hm1.trans hm2).trans hm3, hA3', hC3.pre hp3 hN3 (Nat.le_refl _), by simp only [List.length_append, List.length_singleton]; omega, by show _ ≤ bN i + (16 + i) + cC i + 7 * (17 + i) + 9 * cC (i + 1) + 31; omega⟩, ho2, hL⟩, by first | omega | (simp only; omega), ?_, ?_⟩
            · repeat (first | exact trivial | (refine And.intro (by (conv => lhs; whnf) <;> (conv => rhs; whnf) <;> (first | rfl)) ?_))
            · repeat (first | exact trivial | (refine And.intro (by (conv => lhs; whnf) <;> (conv => rhs; whnf) <;> (first | rfl)) ?_))
          · conv => whnf
            repeat ((first | refine RemReq.nat (a := i) (k := 5) rfl (by omega) ?_ | refine BrReq.no (by omega) ?_ | refine BrReq.yes (by omega) ?_ | refine BrReq.tt ?_ | refine BrReq.ff ?_ | (refine' zl hX rfl rfl hL ?_ ?_ ?_; rotate_left 4; (repeat first | exact .h | refine .t ?_); exact rfl) | (refine' zm hX rfl rfl hL ?_ ?_ ?_; rotate_left 3; (repeat first | exact .h | refine .t ?_); exact rfl) | (refine' zs hX rfl rfl rfl hL ?_ ?_ ?_; rotate_left 3; (repeat first | exact .h | apply Sets.t); exact rfl; clear hL; intro w hL) | refine ArReq.i64 (by omega) (by omega) ?_ | refine SeqReq.go hX ?_ | refine OptReq.mk rfl ?_); conv => whnf)
            refine CallReq.mk (L1 := La) (L2 := Lo) (StarG_fn m1 ab ns La hA hC.nm.ok x) (Loc.back (L1 := Lo) hL) ?_
            clear hL
            rintro u m2 La2 w hL hm2 ⟨rfl, hA2⟩
            have hL := Loc.back (L1 := La2) hL
            obtain ⟨hC2, hpre, hl2, hok2⟩ := hC.star hcp hxV (by omega)
            have hlen2 : (starN ns x).1.length ≤ bN i + (16 + i) + cC i := by omega
            have hC3 : Clo (starN ns x).1 (V ++ [(starN ns x).2]) (cC (i + 1)) := by rw [hC']; first | (rw [if_neg i2]; exact hC2) | (rw [if_pos i2]; exact hC2)
            clear hC2 hl2
            generalize starN ns x = r at hA2 hC3 hpre hlen2 hok2 ⊢
            conv => whnf
            repeat ((first | refine BrReq.tt ?_ | refine BrReq.ff ?_ | (refine' zl hX rfl rfl hL ?_ ?_ ?_; rotate_left 4; (repeat first | exact .h | refine .t ?_); exact rfl) | (refine' zm hX rfl rfl hL ?_ ?_ ?_; rotate_left 3; (repeat first | exact .h | refine .t ?_); exact rfl) | (refine' zs hX rfl rfl rfl hL ?_ ?_ ?_; rotate_left 3; (repeat first | exact .h | apply Sets.t); exact rfl; clear hL; intro w hL) | refine ArReq.i64 (by omega) (by omega) ?_ | refine SeqReq.go hX ?_ | refine OptReq.mk rfl ?_); conv => whnf)
            refine NewReq.mk hL ?_
            clear hL
            intro g2 w hL
            conv => whnf
            replace hL : Ev.Loc m [] w0 m2 ((g2, .cells (toArr [.int .i64 r.2]) 3 (0, 0)) :: (Lo ++ La2)) w := hL
            conv => whnf
            repeat ((first | refine BrReq.tt ?_ | refine BrReq.ff ?_ | (refine' zl hX rfl rfl hL ?_ ?_ ?_; rotate_left 4; (repeat first | exact .h | refine .t ?_); exact rfl) | (refine' zm hX rfl rfl hL ?_ ?_ ?_; rotate_left 3; (repeat first | exact .h | refine .t ?_); exact rfl) | (refine' zs hX rfl rfl rfl hL ?_ ?_ ?_; rotate_left 3; (repeat first | exact .h | apply Sets.t); exact rfl; clear hL; intro w hL) | refine ArReq.i64 (by omega) (by omega) ?_ | refine SeqReq.go hX ?_ | refine OptReq.mk rfl ?_); conv => whnf)
            refine RunReq.push hX 40 3 rfl rfl rfl rfl rfl ho (L2 := La2) hL rfl rfl (by simp [ints]; omega) rfl ?_
            clear hL
            intro A2 n2 c2 Lo2 w hn2 ho2 hL
            rw [← show ints .i64 (V ++ [r.2]) = ints .i64 V ++ [Value.int .i64 r.2] from ints_append ..] at ho2
            conv => whnf
            repeat ((first | refine BrReq.tt ?_ | refine BrReq.ff ?_ | (refine' zl hX rfl rfl hL ?_ ?_ ?_; rotate_left 4; (repeat first | exact .h | refine .t ?_); exact rfl) | (refine' zm hX rfl rfl hL ?_ ?_ ?_; rotate_left 3; (repeat first | exact .h | refine .t ?_); exact rfl) | (refine' zs hX rfl rfl rfl hL ?_ ?_ ?_; rotate_left 3; (repeat first | exact .h | apply Sets.t); exact rfl; clear hL; intro w hL) | refine ArReq.i64 (by omega) (by omega) ?_ | refine SeqReq.go hX ?_ | refine OptReq.mk rfl ?_); conv => whnf)
            obtain ⟨hn5, hnc5, hm5, hget5⟩ := owns_get ho2
            obtain ⟨g5, cur5, rfl, rfl, hcl5, hct5, hcg5⟩ := hget5 (by simp)
            rw [List.length_append, List.length_singleton] at hn5
            have hz5 := hcg5 V.length r.2 (by simp)
            have hz0 : 0 ≤ r.2 := hok2.1
            replace hL : Ev.Loc m [] w0 m2 ((g5, .cells (toArr cur5) 3 (0, 0)) :: La2) w := hL
            conv => whnf
            repeat ((first | refine Idx2Req.mk V.length _ (by omega) (by omega) rfl ?_ | (refine LdReq.ownC hX rfl rfl hL .h (by rw [scale_eq, Nat.zero_add, Nat.mul_one]; exact hz5) ?_) | refine BrReq.no (by omega) ?_ | refine BrReq.tt ?_ | refine BrReq.ff ?_ | (refine' zl hX rfl rfl hL ?_ ?_ ?_; rotate_left 4; (repeat first | exact .h | refine .t ?_); exact rfl) | (refine' zm hX rfl rfl hL ?_ ?_ ?_; rotate_left 3; (repeat first | exact .h | refine .t ?_); exact rfl) | (refine' zs hX rfl rfl rfl hL ?_ ?_ ?_; rotate_left 3; (repeat first | exact .h | apply Sets.t); exact rfl; clear hL; intro w hL) | refine ArReq.i64 (by omega) (by omega) ?_ | refine SeqReq.go hX ?_ | refine OptReq.mk rfl ?_); conv => whnf)
            refine CallReq.mk (L1 := La2) (L2 := [_]) (laws_fn m2 ab r.1 La2 hA2 (V ++ [r.2]) (cC (i + 1)) hC3 x y r.2 (by simp [hxV]) (by simp [hyV]) (by simp) (by rw [List.length_append, List.length_singleton]; omega)) (Loc.back (L1 := [_]) hL) ?_
            clear hL
            rintro u m3 La3 w hL hm3 ⟨rfl, ns3, hA3', hN3, hp3, hl3⟩
            have hL := Loc.back (L1 := La3) (L2 := [_]) hL
            rw [List.length_append, List.length_singleton] at hl3
            conv => whnf
            repeat ((first | refine BrReq.tt ?_ | refine BrReq.ff ?_ | (refine' zl hX rfl rfl hL ?_ ?_ ?_; rotate_left 4; (repeat first | exact .h | refine .t ?_); exact rfl) | (refine' zm hX rfl rfl hL ?_ ?_ ?_; rotate_left 3; (repeat first | exact .h | refine .t ?_); exact rfl) | (refine' zs hX rfl rfl rfl hL ?_ ?_ ?_; rotate_left 3; (repeat first | exact .h | apply Sets.t); exact rfl; clear hL; intro w hL) | refine ArReq.i64 (by omega) (by omega) ?_ | refine SeqReq.go hX ?_ | refine OptReq.mk rfl ?_); conv => whnf)
            refine ⟨(i + 1, some ⟨g5, 0, none⟩, n2, c2), ⟨by simp only at hlt ⊢; omega, m3, ns3, La3, _, V ++ [r.2], ⟨(hm1.trans hm2).trans hm3, hA3', hC3.pre hp3 hN3 (Nat.le_refl _), by simp only [List.length_append, List.length_singleton]; omega, by show _ ≤ bN i + (16 + i) + cC i + 7 * (17 + i) + 9 * cC (i + 1) + 31; omega⟩, ho2, hL⟩, by first | omega | (simp only; omega), ?_, ?_⟩
            · repeat (first | exact trivial | (refine And.intro (by (conv => lhs; whnf) <;> (conv => rhs; whnf) <;> (first | rfl)) ?_))
            · repeat (first | exact trivial | (refine And.intro (by (conv => lhs; whnf) <;> (conv => rhs; whnf) <;> (first | rfl)) ?_))
        · conv => whnf
          repeat ((first | refine BrReq.tt ?_ | refine BrReq.ff ?_ | (refine' zl hX rfl rfl hL ?_ ?_ ?_; rotate_left 4; (repeat first | exact .h | refine .t ?_); exact rfl) | (refine' zm hX rfl rfl hL ?_ ?_ ?_; rotate_left 3; (repeat first | exact .h | refine .t ?_); exact rfl) | (refine' zs hX rfl rfl rfl hL ?_ ?_ ?_; rotate_left 3; (repeat first | exact .h | apply Sets.t); exact rfl; clear hL; intro w hL) | refine ArReq.i64 (by omega) (by omega) ?_ | refine SeqReq.go hX ?_ | refine OptReq.mk rfl ?_); conv => whnf)
          exact RetReq.bool (hL.sublist (List.nil_sublist _)) rfl
      · conv => whnf
        repeat ((first | refine BrReq.no hk0 ?_ | refine BrReq.tt ?_ | refine BrReq.ff ?_ | (refine' zl hX rfl rfl hL ?_ ?_ ?_; rotate_left 4; (repeat first | exact .h | refine .t ?_); exact rfl) | (refine' zm hX rfl rfl hL ?_ ?_ ?_; rotate_left 3; (repeat first | exact .h | refine .t ?_); exact rfl) | (refine' zs hX rfl rfl rfl hL ?_ ?_ ?_; rotate_left 3; (repeat first | exact .h | apply Sets.t); exact rfl; clear hL; intro w hL) | refine ArReq.i64 (by omega) (by omega) ?_ | refine SeqReq.go hX ?_ | refine OptReq.mk rfl ?_); conv => whnf)
        refine LoopReq.inv hX (fun s : Nat × Option Addr × Nat × Nat => [(10, .slice s.2.1 s.2.2.1 s.2.2.2), (71, .int .i64 s.1)]) [3, 9, 70]
          (fun s w => s.1 ≤ n' ∧ ∃ m1 ns La Lo V, (Mem.Le m m1 ∧ Ar ab ns La ∧ Clo ns V (cC s.1) ∧ V.length ≤ 14 + s.1 ∧ ns.length ≤ bN s.1) ∧ OwnS 3 1 (.slice s.2.1 s.2.2.1 s.2.2.2) (ints .i64 V) Lo ∧ Ev.Loc m [] w0 m1 (Lo ++ La) w) (fun s => n' - s.1) (0, A1, n1, c1)
          ⟨by simp, m, _, La2, _, _, ⟨Mem.Le.refl m, hA2, hC, by first | (simp only [List.length_append, List.length_singleton]; omega) | (simp only; omega), by show _ ≤ 20; first | (simp only; omega) | omega⟩, ho, hL⟩ ⟨rfl, rfl, trivial⟩ ?_
        clear hL ho hA hC hA2 hn1
        rintro ⟨i, A3, n3, c3⟩ w f ⟨hj, m1, ns, La, Lo, V, ⟨hm1, hA, hC, hV, hlen⟩, ho, hL⟩
        simp only at hj hC hV hlen ho
        have hp1 : SlI m1 .u8 _ pick := hp.le hm1 (fun _ _ _ h => h)
        have hpc := hp1.cell.2
        clear hp1
        have hcp := cC_pos i
        conv => whnf
        repeat ((first | refine BrReq.tt ?_ | refine BrReq.ff ?_ | (refine' zl hX rfl rfl hL ?_ ?_ ?_; rotate_left 4; (repeat first | exact .h | refine .t ?_); exact rfl) | (refine' zm hX rfl rfl hL ?_ ?_ ?_; rotate_left 3; (repeat first | exact .h | refine .t ?_); exact rfl) | (refine' zs hX rfl rfl rfl hL ?_ ?_ ?_; rotate_left 3; (repeat first | exact .h | apply Sets.t); exact rfl; clear hL; intro w hL) | refine ArReq.i64 (by omega) (by omega) ?_ | refine SeqReq.go hX ?_ | refine OptReq.mk rfl ?_); conv => whnf)
        refine BrReq.dec (fun hlt => ?_) (fun hlt => ?_)
        · have hlt' : i < pick.length := by simp only at hlt; omega
          have hbm := bN_mono i (by omega)
          obtain ⟨a, ea, hc⟩ := hpc i _ (List.getElem?_eq_getElem hlt')
          have hzr := hpi _ (List.getElem_mem hlt')
          generalize pick[i] = z at hc hzr
          obtain ⟨p, rfl⟩ : ∃ p : Nat, z = p := ⟨z.toNat, by omega⟩
          obtain ⟨hn3, hnc3, hm3, hget⟩ := owns_get ho
          obtain ⟨g, cur, rfl, rfl, hcl, hct, hcg⟩ := hget (by rintro rfl; exact absurd hC.v0 (by simp))
          have hVp : 0 < V.length := List.length_pos_of_mem hC.v0
          have hx := hcg (p % V.length) _ (List.getElem?_eq_getElem (Nat.mod_lt _ hVp))
          have hy := hcg ((p * 7 + i) % V.length) _ (List.getElem?_eq_getElem (Nat.mod_lt _ hVp))
          have hxV := List.getElem_mem (Nat.mod_lt p hVp)
          have hyV := List.getElem_mem (Nat.mod_lt (p * 7 + i) hVp)
          have hpl := Nat.mod_lt p hVp
          have hql := Nat.mod_lt (p * 7 + i) hVp
          have hrem : ((p : Int) * 7 + i).tmod n3 = ((p * 7 + i) % V.length : Nat) := by
            rw [hn3, show ((p : Int) * 7 + i) = ((p * 7 + i : Nat) : Int) by push_cast; rfl, tmod_nat]
          generalize V[p % V.length] = x at hx hxV
          generalize V[(p * 7 + i) % V.length] = y at hy hyV
          generalize (p * 7 + i) % V.length = q at hy hql hrem
          replace hL : Ev.Loc m [] w0 m1 ((g, .cells (toArr cur) 3 (0, 0)) :: La) w := hL
          conv => whnf
          repeat ((first | refine BrReq.tt ?_ | refine BrReq.ff ?_ | (refine' zl hX rfl rfl hL ?_ ?_ ?_; rotate_left 4; (repeat first | exact .h | refine .t ?_); exact rfl) | (refine' zm hX rfl rfl hL ?_ ?_ ?_; rotate_left 3; (repeat first | exact .h | refine .t ?_); exact rfl) | (refine' zs hX rfl rfl rfl hL ?_ ?_ ?_; rotate_left 3; (repeat first | exact .h | apply Sets.t); exact rfl; clear hL; intro w hL) | refine ArReq.i64 (by omega) (by omega) ?_ | refine SeqReq.go hX ?_ | refine OptReq.mk rfl ?_); conv => whnf)
          refine DrawReq.plan hX (.fst 0 (.fst 1 (.fst 2 (.fst 3 (.fst 4 (.fst 5 (.fst 6 (.fst 7 (.fst 8 (.fst 9 (.fst 10 (.fst 11 (.fst 12 (.fst 13 (.fst 14 (.fst 15 (.fst 16 (.fst 17 (.fst 18 (.fst 19 (.fst 20 (.fst 21 (.fst 22 (.fst 23 (.fst 24 (.fst 25 (.fst 26 (.done)))))))))))))))))))))))))))) [(g, .cells (toArr cur) 3 (0, 0))] (by kernel_rfl) (by kernel_rfl) hL (fun h => h.one 0 rfl) ?_
          clear hL
          intro w hL
          conv => whnf
          repeat ((first | (refine Idx2Req.mk i a (by simp only) (by simp only at hlt ⊢; omega) ea ?_) | refine LdReq.one hX rfl rfl hL hc ?_ | refine QLdReq.one hX rfl rfl hc ?_ | (refine RemReq.nat (a := p) (k := V.length) (by simp only; omega) hVp ?_) | (refine RemReq.mk (n := ((q : Nat) : Int)) (by simp only; omega) hrem ?_) | (refine Idx2Req.mk (p % V.length) _ rfl (by simp only; omega) rfl ?_) | (refine Idx2Req.mk q _ rfl (by simp only; omega) rfl ?_) | (refine QLdReq.ownC hX rfl rfl .h (by rw [scale_eq, Nat.zero_add, Nat.mul_one]; exact hx) ?_) | (refine QLdReq.ownC hX rfl rfl .h (by rw [scale_eq, Nat.zero_add, Nat.mul_one]; exact hy) ?_) | (refine ArReq.i64 (by simp only; omega) (by simp only; omega) ?_) | (refine' zq hX rfl rfl ?_ ?_ ?_; rotate_left 4; (repeat first | exact .h | refine .t ?_); exact rfl) | (refine' zr hX rfl rfl ?_ ?_ ?_; rotate_left 3; (repeat first | exact .h | refine .t ?_); exact rfl) | refine AltReq.one ?_ | refine BrReq.tt ?_ | refine BrReq.ff ?_ | (refine' zl hX rfl rfl hL ?_ ?_ ?_; rotate_left 4; (repeat first | exact .h | refine .t ?_); exact rfl) | (refine' zm hX rfl rfl hL ?_ ?_ ?_; rotate_left 3; (repeat first | exact .h | refine .t ?_); exact rfl) | (refine' zs hX rfl rfl rfl hL ?_ ?_ ?_; rotate_left 3; (repeat first | exact .h | apply Sets.t); exact rfl; clear hL; intro w hL) | refine ArReq.i64 (by omega) (by omega) ?_ | refine SeqReq.go hX ?_ | refine OptReq.mk rfl ?_); conv => whnf)
          have hbl : ∀ z ∈ ints .i64 V, True := fun _ _ => trivial
          clear hbl
          replace hL : Ev.Loc m [] w0 m1 ([(g, .cells (toArr cur) 3 (0, 0))] ++ La) w := hL
          generalize hLo : [(g, Obj.cells (toArr cur) 3 (0, 0))] = Lo at ho hL
          generalize hA3 : some (⟨g, 0, none⟩ : Addr) = A3 at ho
          have hx64 := okId_i64 hC.nm.ok.len (hC.ok x hxV)
          have hy64 := okId_i64 hC.nm.ok.len (hC.ok y hyV)
          have hC' : cC (i + 1) = if i % 5 = 2 then 2 * cC i else cC i := rfl
          have hi5 := Nat.mod_lt i (show 0 < 5 by omega)
          by_cases i0 : i % 5 = 0
          · have i2 : ¬ i % 5 = 2 := by omega
            conv => whnf
            repeat ((first | refine RemReq.nat (a := i) (k := 5) rfl (by omega) ?_ | refine BrReq.no (by omega) ?_ | refine BrReq.yes (by omega) ?_ | refine BrReq.tt ?_ | refine BrReq.ff ?_ | (refine' zl hX rfl rfl hL ?_ ?_ ?_; rotate_left 4; (repeat first | exact .h | refine .t ?_); exact rfl) | (refine' zm hX rfl rfl hL ?_ ?_ ?_; rotate_left 3; (repeat first | exact .h | refine .t ?_); exact rfl) | (refine' zs hX rfl rfl rfl hL ?_ ?_ ?_; rotate_left 3; (repeat first | exact .h | apply Sets.t); exact rfl; clear hL; intro w hL) | refine ArReq.i64 (by omega) (by omega) ?_ | refine SeqReq.go hX ?_ | refine OptReq.mk rfl ?_); conv => whnf)
            refine NewReq.mk hL ?_
            clear hL
            intro g1 w hL
            conv => whnf
            obtain ⟨m0, hL1, hm0, hs⟩ := there_row (l := [x, y]) hL (by simp)
            clear hL
            have hL := hL1
            clear hL1
            conv => whnf
            repeat ((first | refine BrReq.tt ?_ | refine BrReq.ff ?_ | (refine' zl hX rfl rfl hL ?_ ?_ ?_; rotate_left 4; (repeat first | exact .h | refine .t ?_); exact rfl) | (refine' zm hX rfl rfl hL ?_ ?_ ?_; rotate_left 3; (repeat first | exact .h | refine .t ?_); exact rfl) | (refine' zs hX rfl rfl rfl hL ?_ ?_ ?_; rotate_left 3; (repeat first | exact .h | apply Sets.t); exact rfl; clear hL; intro w hL) | refine ArReq.i64 (by omega) (by omega) ?_ | refine SeqReq.go hX ?_ | refine OptReq.mk rfl ?_); conv => whnf)
            refine CallReq.mk (L1 := La) (L2 := Lo) (OrG_fn m0 ab ns La hA hC.nm.ok _ [x, y] hs (by simp)) (Loc.back (L1 := Lo) hL) ?_
            clear hL
            rintro u m2 La2 w hL hm2 ⟨rfl, hA2⟩
            have hL := Loc.back (L1 := La2) hL
            replace hm2 : Mem.Le m1 m2 := hm0.trans hm2
            obtain ⟨hC2, hpre, hl2, hok2⟩ := hC.gput hcp (g := false) hxV hyV (by omega)
            have hlen2 : (gputN false ns [x, y]).1.length ≤ bN i + (16 + i) + cC i := by omega
            have hC3 : Clo (gputN false ns [x, y]).1 (V ++ [(gputN false ns [x, y]).2]) (cC (i + 1)) := by rw [hC']; first | (rw [if_neg i2]; exact hC2) | (rw [if_pos i2]; exact hC2)
            clear hC2 hl2
            generalize gputN false ns [x, y] = r at hA2 hC3 hpre hlen2 hok2 ⊢
            conv => whnf
            repeat ((first | refine BrReq.tt ?_ | refine BrReq.ff ?_ | (refine' zl hX rfl rfl hL ?_ ?_ ?_; rotate_left 4; (repeat first | exact .h | refine .t ?_); exact rfl) | (refine' zm hX rfl rfl hL ?_ ?_ ?_; rotate_left 3; (repeat first | exact .h | refine .t ?_); exact rfl) | (refine' zs hX rfl rfl rfl hL ?_ ?_ ?_; rotate_left 3; (repeat first | exact .h | apply Sets.t); exact rfl; clear hL; intro w hL) | refine ArReq.i64 (by omega) (by omega) ?_ | refine SeqReq.go hX ?_ | refine OptReq.mk rfl ?_); conv => whnf)
            refine NewReq.mk hL ?_
            clear hL
            intro g2 w hL
            conv => whnf
            replace hL : Ev.Loc m [] w0 m2 ((g2, .cells (toArr [.int .i64 r.2]) 3 (0, 0)) :: (Lo ++ La2)) w := hL
            conv => whnf
            repeat ((first | refine BrReq.tt ?_ | refine BrReq.ff ?_ | (refine' zl hX rfl rfl hL ?_ ?_ ?_; rotate_left 4; (repeat first | exact .h | refine .t ?_); exact rfl) | (refine' zm hX rfl rfl hL ?_ ?_ ?_; rotate_left 3; (repeat first | exact .h | refine .t ?_); exact rfl) | (refine' zs hX rfl rfl rfl hL ?_ ?_ ?_; rotate_left 3; (repeat first | exact .h | apply Sets.t); exact rfl; clear hL; intro w hL) | refine ArReq.i64 (by omega) (by omega) ?_ | refine SeqReq.go hX ?_ | refine OptReq.mk rfl ?_); conv => whnf)
            refine RunReq.push hX 40 3 rfl rfl rfl rfl rfl ho (L2 := La2) hL rfl rfl (by simp [ints]; omega) rfl ?_
            clear hL
            intro A2 n2 c2 Lo2 w hn2 ho2 hL
            rw [← show ints .i64 (V ++ [r.2]) = ints .i64 V ++ [Value.int .i64 r.2] from ints_append ..] at ho2
            conv => whnf
            repeat ((first | refine BrReq.tt ?_ | refine BrReq.ff ?_ | (refine' zl hX rfl rfl hL ?_ ?_ ?_; rotate_left 4; (repeat first | exact .h | refine .t ?_); exact rfl) | (refine' zm hX rfl rfl hL ?_ ?_ ?_; rotate_left 3; (repeat first | exact .h | refine .t ?_); exact rfl) | (refine' zs hX rfl rfl rfl hL ?_ ?_ ?_; rotate_left 3; (repeat first | exact .h | apply Sets.t); exact rfl; clear hL; intro w hL) | refine ArReq.i64 (by omega) (by omega) ?_ | refine SeqReq.go hX ?_ | refine OptReq.mk rfl ?_); conv => whnf)
            obtain ⟨hn5, hnc5, hm5, hget5⟩ := owns_get ho2
            obtain ⟨g5, cur5, rfl, rfl, hcl5, hct5, hcg5⟩ := hget5 (by simp)
            rw [List.length_append, List.length_singleton] at hn5
            have hz5 := hcg5 V.length r.2 (by simp)
            have hz0 : 0 ≤ r.2 := hok2.1
            replace hL : Ev.Loc m [] w0 m2 ((g5, .cells (toArr cur5) 3 (0, 0)) :: La2) w := hL
            conv => whnf
            repeat ((first | refine Idx2Req.mk V.length _ (by omega) (by omega) rfl ?_ | (refine LdReq.ownC hX rfl rfl hL .h (by rw [scale_eq, Nat.zero_add, Nat.mul_one]; exact hz5) ?_) | refine BrReq.no (by omega) ?_ | refine BrReq.tt ?_ | refine BrReq.ff ?_ | (refine' zl hX rfl rfl hL ?_ ?_ ?_; rotate_left 4; (repeat first | exact .h | refine .t ?_); exact rfl) | (refine' zm hX rfl rfl hL ?_ ?_ ?_; rotate_left 3; (repeat first | exact .h | refine .t ?_); exact rfl) | (refine' zs hX rfl rfl rfl hL ?_ ?_ ?_; rotate_left 3; (repeat first | exact .h | apply Sets.t); exact rfl; clear hL; intro w hL) | refine ArReq.i64 (by omega) (by omega) ?_ | refine SeqReq.go hX ?_ | refine OptReq.mk rfl ?_); conv => whnf)
            refine CallReq.mk (L1 := La2) (L2 := [_]) (laws_fn m2 ab r.1 La2 hA2 (V ++ [r.2]) (cC (i + 1)) hC3 x y r.2 (by simp [hxV]) (by simp [hyV]) (by simp) (by rw [List.length_append, List.length_singleton]; omega)) (Loc.back (L1 := [_]) hL) ?_
            clear hL
            rintro u m3 La3 w hL hm3 ⟨rfl, ns3, hA3', hN3, hp3, hl3⟩
            have hL := Loc.back (L1 := La3) (L2 := [_]) hL
            rw [List.length_append, List.length_singleton] at hl3
            conv => whnf
            repeat ((first | refine BrReq.tt ?_ | refine BrReq.ff ?_ | (refine' zl hX rfl rfl hL ?_ ?_ ?_; rotate_left 4; (repeat first | exact .h | refine .t ?_); exact rfl) | (refine' zm hX rfl rfl hL ?_ ?_ ?_; rotate_left 3; (repeat first | exact .h | refine .t ?_); exact rfl) | (refine' zs hX rfl rfl rfl hL ?_ ?_ ?_; rotate_left 3; (repeat first | exact .h | apply Sets.t); exact rfl; clear hL; intro w hL) | refine ArReq.i64 (by omega) (by omega) ?_ | refine SeqReq.go hX ?_ | refine OptReq.mk rfl ?_); conv => whnf)
            refine ⟨(i + 1, some ⟨g5, 0, none⟩, n2, c2), ⟨by simp only at hlt ⊢; omega, m3, ns3, La3, _, V ++ [r.2], ⟨(hm1.trans hm2).trans hm3, hA3', hC3.pre hp3 hN3 (Nat.le_refl _), by simp only [List.length_append, List.length_singleton]; omega, by show _ ≤ bN i + (16 + i) + cC i + 7 * (17 + i) + 9 * cC (i + 1) + 31; omega⟩, ho2, hL⟩, by first | omega | (simp only; omega), ?_, ?_⟩
            · repeat (first | exact trivial | (refine And.intro (by (conv => lhs; whnf) <;> (conv => rhs; whnf) <;> (first | rfl)) ?_))
            · repeat (first | exact trivial | (refine And.intro (by (conv => lhs; whnf) <;> (conv => rhs; whnf) <;> (first | rfl)) ?_))
          by_cases i1 : i % 5 = 1
          · have i2 : ¬ i % 5 = 2 := by omega
            conv => whnf
            repeat ((first | refine RemReq.nat (a := i) (k := 5) rfl (by omega) ?_ | refine BrReq.no (by omega) ?_ | refine BrReq.yes (by omega) ?_ | refine BrReq.tt ?_ | refine BrReq.ff ?_ | (refine' zl hX rfl rfl hL ?_ ?_ ?_; rotate_left 4; (repeat first | exact .h | refine .t ?_); exact rfl) | (refine' zm hX rfl rfl hL ?_ ?_ ?_; rotate_left 3; (repeat first | exact .h | refine .t ?_); exact rfl) | (refine' zs hX rfl rfl rfl hL ?_ ?_ ?_; rotate_left 3; (repeat first | exact .h | apply Sets.t); exact rfl; clear hL; intro w hL) | refine ArReq.i64 (by omega) (by omega) ?_ | refine SeqReq.go hX ?_ | refine OptReq.mk rfl ?_); conv => whnf)
            refine NewReq.mk hL ?_
            clear hL
            intro g1 w hL
            conv => whnf
            obtain ⟨m0, hL1, hm0, hs⟩ := there_row (l := [x, y]) hL (by simp)
            clear hL
            have hL := hL1
            clear hL1
            conv => whnf
            repeat ((first | refine BrReq.tt ?_ | refine BrReq.ff ?_ | (refine' zl hX rfl rfl hL ?_ ?_ ?_; rotate_left 4; (repeat first | exact .h | refine .t ?_); exact rfl) | (refine' zm hX rfl rfl hL ?_ ?_ ?_; rotate_left 3; (repeat first | exact .h | refine .t ?_); exact rfl) | (refine' zs hX rfl rfl rfl hL ?_ ?_ ?_; rotate_left 3; (repeat first | exact .h | apply Sets.t); exact rfl; clear hL; intro w hL) | refine ArReq.i64 (by omega) (by omega) ?_ | refine SeqReq.go hX ?_ | refine OptReq.mk rfl ?_); conv => whnf)
            refine CallReq.mk (L1 := La) (L2 := Lo) (AndG_fn m0 ab ns La hA hC.nm.ok _ [x, y] hs (by simp)) (Loc.back (L1 := Lo) hL) ?_
            clear hL
            rintro u m2 La2 w hL hm2 ⟨rfl, hA2⟩
            have hL := Loc.back (L1 := La2) hL
            replace hm2 : Mem.Le m1 m2 := hm0.trans hm2
            obtain ⟨hC2, hpre, hl2, hok2⟩ := hC.gput hcp (g := true) hxV hyV (by omega)
            have hlen2 : (gputN true ns [x, y]).1.length ≤ bN i + (16 + i) + cC i := by omega
            have hC3 : Clo (gputN true ns [x, y]).1 (V ++ [(gputN true ns [x, y]).2]) (cC (i + 1)) := by rw [hC']; first | (rw [if_neg i2]; exact hC2) | (rw [if_pos i2]; exact hC2)
            clear hC2 hl2
            generalize gputN true ns [x, y] = r at hA2 hC3 hpre hlen2 hok2 ⊢
            conv => whnf
            repeat ((first | refine BrReq.tt ?_ | refine BrReq.ff ?_ | (refine' zl hX rfl rfl hL ?_ ?_ ?_; rotate_left 4; (repeat first | exact .h | refine .t ?_); exact rfl) | (refine' zm hX rfl rfl hL ?_ ?_ ?_; rotate_left 3; (repeat first | exact .h | refine .t ?_); exact rfl) | (refine' zs hX rfl rfl rfl hL ?_ ?_ ?_; rotate_left 3; (repeat first | exact .h | apply Sets.t); exact rfl; clear hL; intro w hL) | refine ArReq.i64 (by omega) (by omega) ?_ | refine SeqReq.go hX ?_ | refine OptReq.mk rfl ?_); conv => whnf)
            refine NewReq.mk hL ?_
            clear hL
            intro g2 w hL
            conv => whnf
            replace hL : Ev.Loc m [] w0 m2 ((g2, .cells (toArr [.int .i64 r.2]) 3 (0, 0)) :: (Lo ++ La2)) w := hL
            conv => whnf
            repeat ((first | refine BrReq.tt ?_ | refine BrReq.ff ?_ | (refine' zl hX rfl rfl hL ?_ ?_ ?_; rotate_left 4; (repeat first | exact .h | refine .t ?_); exact rfl) | (refine' zm hX rfl rfl hL ?_ ?_ ?_; rotate_left 3; (repeat first | exact .h | refine .t ?_); exact rfl) | (refine' zs hX rfl rfl rfl hL ?_ ?_ ?_; rotate_left 3; (repeat first | exact .h | apply Sets.t); exact rfl; clear hL; intro w hL) | refine ArReq.i64 (by omega) (by omega) ?_ | refine SeqReq.go hX ?_ | refine OptReq.mk rfl ?_); conv => whnf)
            refine RunReq.push hX 40 3 rfl rfl rfl rfl rfl ho (L2 := La2) hL rfl rfl (by simp [ints]; omega) rfl ?_
            clear hL
            intro A2 n2 c2 Lo2 w hn2 ho2 hL
            rw [← show ints .i64 (V ++ [r.2]) = ints .i64 V ++ [Value.int .i64 r.2] from ints_append ..] at ho2
            conv => whnf
            repeat ((first | refine BrReq.tt ?_ | refine BrReq.ff ?_ | (refine' zl hX rfl rfl hL ?_ ?_ ?_; rotate_left 4; (repeat first | exact .h | refine .t ?_); exact rfl) | (refine' zm hX rfl rfl hL ?_ ?_ ?_; rotate_left 3; (repeat first | exact .h | refine .t ?_); exact rfl) | (refine' zs hX rfl rfl rfl hL ?_ ?_ ?_; rotate_left 3; (repeat first | exact .h | apply Sets.t); exact rfl; clear hL; intro w hL) | refine ArReq.i64 (by omega) (by omega) ?_ | refine SeqReq.go hX ?_ | refine OptReq.mk rfl ?_); conv => whnf)
            obtain ⟨hn5, hnc5, hm5, hget5⟩ := owns_get ho2
            obtain ⟨g5, cur5, rfl, rfl, hcl5, hct5, hcg5⟩ := hget5 (by simp)
            rw [List.length_append, List.length_singleton] at hn5
            have hz5 := hcg5 V.length r.2 (by simp)
            have hz0 : 0 ≤ r.2 := hok2.1
            replace hL : Ev.Loc m [] w0 m2 ((g5, .cells (toArr cur5) 3 (0, 0)) :: La2) w := hL
            conv => whnf
            repeat ((first | refine Idx2Req.mk V.length _ (by omega) (by omega) rfl ?_ | (refine LdReq.ownC hX rfl rfl hL .h (by rw [scale_eq, Nat.zero_add, Nat.mul_one]; exact hz5) ?_) | refine BrReq.no (by omega) ?_ | refine BrReq.tt ?_ | refine BrReq.ff ?_ | (refine' zl hX rfl rfl hL ?_ ?_ ?_; rotate_left 4; (repeat first | exact .h | refine .t ?_); exact rfl) | (refine' zm hX rfl rfl hL ?_ ?_ ?_; rotate_left 3; (repeat first | exact .h | refine .t ?_); exact rfl) | (refine' zs hX rfl rfl rfl hL ?_ ?_ ?_; rotate_left 3; (repeat first | exact .h | apply Sets.t); exact rfl; clear hL; intro w hL) | refine ArReq.i64 (by omega) (by omega) ?_ | refine SeqReq.go hX ?_ | refine OptReq.mk rfl ?_); conv => whnf)
            refine CallReq.mk (L1 := La2) (L2 := [_]) (laws_fn m2 ab r.1 La2 hA2 (V ++ [r.2]) (cC (i + 1)) hC3 x y r.2 (by simp [hxV]) (by simp [hyV]) (by simp) (by rw [List.length_append, List.length_singleton]; omega)) (Loc.back (L1 := [_]) hL) ?_
            clear hL
            rintro u m3 La3 w hL hm3 ⟨rfl, ns3, hA3', hN3, hp3, hl3⟩
            have hL := Loc.back (L1 := La3) (L2 := [_]) hL
            rw [List.length_append, List.length_singleton] at hl3
            conv => whnf
            repeat ((first | refine BrReq.tt ?_ | refine BrReq.ff ?_ | (refine' zl hX rfl rfl hL ?_ ?_ ?_; rotate_left 4; (repeat first | exact .h | refine .t ?_); exact rfl) | (refine' zm hX rfl rfl hL ?_ ?_ ?_; rotate_left 3; (repeat first | exact .h | refine .t ?_); exact rfl) | (refine' zs hX rfl rfl rfl hL ?_ ?_ ?_; rotate_left 3; (repeat first | exact .h | apply Sets.t); exact rfl; clear hL; intro w hL) | refine ArReq.i64 (by omega) (by omega) ?_ | refine SeqReq.go hX ?_ | refine OptReq.mk rfl ?_); conv => whnf)
            refine ⟨(i + 1, some ⟨g5, 0, none⟩, n2, c2), ⟨by simp only at hlt ⊢; omega, m3, ns3, La3, _, V ++ [r.2], ⟨(hm1.trans hm2).trans hm3, hA3', hC3.pre hp3 hN3 (Nat.le_refl _), by simp only [List.length_append, List.length_singleton]; omega, by show _ ≤ bN i + (16 + i) + cC i + 7 * (17 + i) + 9 * cC (i + 1) + 31; omega⟩, ho2, hL⟩, by first | omega | (simp only; omega), ?_, ?_⟩
            · repeat (first | exact trivial | (refine And.intro (by (conv => lhs; whnf) <;> (conv => rhs; whnf) <;> (first | rfl)) ?_))
            · repeat (first | exact trivial | (refine And.intro (by (conv => lhs; whnf) <;> (conv => rhs; whnf) <;> (first | rfl)) ?_))
          by_cases i2 : i % 5 = 2
          · have hcat := hC.cat hcp hxV hyV (by omega)
            unfold catN at hcat
            conv => whnf
            repeat ((first | refine RemReq.nat (a := i) (k := 5) rfl (by omega) ?_ | refine BrReq.no (by omega) ?_ | refine BrReq.yes (by omega) ?_ | refine BrReq.tt ?_ | refine BrReq.ff ?_ | (refine' zl hX rfl rfl hL ?_ ?_ ?_; rotate_left 4; (repeat first | exact .h | refine .t ?_); exact rfl) | (refine' zm hX rfl rfl hL ?_ ?_ ?_; rotate_left 3; (repeat first | exact .h | refine .t ?_); exact rfl) | (refine' zs hX rfl rfl rfl hL ?_ ?_ ?_; rotate_left 3; (repeat first | exact .h | apply Sets.t); exact rfl; clear hL; intro w hL) | refine ArReq.i64 (by omega) (by omega) ?_ | refine SeqReq.go hX ?_ | refine OptReq.mk rfl ?_); conv => whnf)
            refine CallReq.mk (L1 := La) (L2 := Lo) (CatF_fn ab (x.toNat + 1) m1 ns La hA hC.nm.ok x y hx64 hy64 (fun _ => Nat.lt_succ_self _) (by omega)) (Loc.back (L1 := Lo) hL) ?_
            clear hL
            rintro u m2 La2 w hL hm2 ⟨rfl, hA2⟩
            have hL := Loc.back (L1 := La2) hL
            obtain ⟨hC2, hpre, hl2, hok2⟩ := hcat
            have hlen2 : (catF (x.toNat + 1) ns x y).1.length ≤ bN i + (16 + i) + cC i := by omega
            have hC3 : Clo (catF (x.toNat + 1) ns x y).1 (V ++ [(catF (x.toNat + 1) ns x y).2]) (cC (i + 1)) := by rw [hC']; first | (rw [if_neg i2]; exact hC2) | (rw [if_pos i2]; exact hC2)
            clear hC2 hl2
            generalize catF (x.toNat + 1) ns x y = r at hA2 hC3 hpre hlen2 hok2 ⊢
            conv => whnf
            repeat ((first | refine BrReq.tt ?_ | refine BrReq.ff ?_ | (refine' zl hX rfl rfl hL ?_ ?_ ?_; rotate_left 4; (repeat first | exact .h | refine .t ?_); exact rfl) | (refine' zm hX rfl rfl hL ?_ ?_ ?_; rotate_left 3; (repeat first | exact .h | refine .t ?_); exact rfl) | (refine' zs hX rfl rfl rfl hL ?_ ?_ ?_; rotate_left 3; (repeat first | exact .h | apply Sets.t); exact rfl; clear hL; intro w hL) | refine ArReq.i64 (by omega) (by omega) ?_ | refine SeqReq.go hX ?_ | refine OptReq.mk rfl ?_); conv => whnf)
            refine NewReq.mk hL ?_
            clear hL
            intro g2 w hL
            conv => whnf
            replace hL : Ev.Loc m [] w0 m2 ((g2, .cells (toArr [.int .i64 r.2]) 3 (0, 0)) :: (Lo ++ La2)) w := hL
            conv => whnf
            repeat ((first | refine BrReq.tt ?_ | refine BrReq.ff ?_ | (refine' zl hX rfl rfl hL ?_ ?_ ?_; rotate_left 4; (repeat first | exact .h | refine .t ?_); exact rfl) | (refine' zm hX rfl rfl hL ?_ ?_ ?_; rotate_left 3; (repeat first | exact .h | refine .t ?_); exact rfl) | (refine' zs hX rfl rfl rfl hL ?_ ?_ ?_; rotate_left 3; (repeat first | exact .h | apply Sets.t); exact rfl; clear hL; intro w hL) | refine ArReq.i64 (by omega) (by omega) ?_ | refine SeqReq.go hX ?_ | refine OptReq.mk rfl ?_); conv => whnf)
            refine RunReq.push hX 40 3 rfl rfl rfl rfl rfl ho (L2 := La2) hL rfl rfl (by simp [ints]; omega) rfl ?_
            clear hL
            intro A2 n2 c2 Lo2 w hn2 ho2 hL
            rw [← show ints .i64 (V ++ [r.2]) = ints .i64 V ++ [Value.int .i64 r.2] from ints_append ..] at ho2
            conv => whnf
            repeat ((first | refine BrReq.tt ?_ | refine BrReq.ff ?_ | (refine' zl hX rfl rfl hL ?_ ?_ ?_; rotate_left 4; (repeat first | exact .h | refine .t ?_); exact rfl) | (refine' zm hX rfl rfl hL ?_ ?_ ?_; rotate_left 3; (repeat first | exact .h | refine .t ?_); exact rfl) | (refine' zs hX rfl rfl rfl hL ?_ ?_ ?_; rotate_left 3; (repeat first | exact .h | apply Sets.t); exact rfl; clear hL; intro w hL) | refine ArReq.i64 (by omega) (by omega) ?_ | refine SeqReq.go hX ?_ | refine OptReq.mk rfl ?_); conv => whnf)
            obtain ⟨hn5, hnc5, hm5, hget5⟩ := owns_get ho2
            obtain ⟨g5, cur5, rfl, rfl, hcl5, hct5, hcg5⟩ := hget5 (by simp)
            rw [List.length_append, List.length_singleton] at hn5
            have hz5 := hcg5 V.length r.2 (by simp)
            have hz0 : 0 ≤ r.2 := hok2.1
            replace hL : Ev.Loc m [] w0 m2 ((g5, .cells (toArr cur5) 3 (0, 0)) :: La2) w := hL
            conv => whnf
            repeat ((first | refine Idx2Req.mk V.length _ (by omega) (by omega) rfl ?_ | (refine LdReq.ownC hX rfl rfl hL .h (by rw [scale_eq, Nat.zero_add, Nat.mul_one]; exact hz5) ?_) | refine BrReq.no (by omega) ?_ | refine BrReq.tt ?_ | refine BrReq.ff ?_ | (refine' zl hX rfl rfl hL ?_ ?_ ?_; rotate_left 4; (repeat first | exact .h | refine .t ?_); exact rfl) | (refine' zm hX rfl rfl hL ?_ ?_ ?_; rotate_left 3; (repeat first | exact .h | refine .t ?_); exact rfl) | (refine' zs hX rfl rfl rfl hL ?_ ?_ ?_; rotate_left 3; (repeat first | exact .h | apply Sets.t); exact rfl; clear hL; intro w hL) | refine ArReq.i64 (by omega) (by omega) ?_ | refine SeqReq.go hX ?_ | refine OptReq.mk rfl ?_); conv => whnf)
            refine CallReq.mk (L1 := La2) (L2 := [_]) (laws_fn m2 ab r.1 La2 hA2 (V ++ [r.2]) (cC (i + 1)) hC3 x y r.2 (by simp [hxV]) (by simp [hyV]) (by simp) (by rw [List.length_append, List.length_singleton]; omega)) (Loc.back (L1 := [_]) hL) ?_
            clear hL
            rintro u m3 La3 w hL hm3 ⟨rfl, ns3, hA3', hN3, hp3, hl3⟩
            have hL := Loc.back (L1 := La3) (L2 := [_]) hL
            rw [List.length_append, List.length_singleton] at hl3
            conv => whnf
            repeat ((first | refine BrReq.tt ?_ | refine BrReq.ff ?_ | (refine' zl hX rfl rfl hL ?_ ?_ ?_; rotate_left 4; (repeat first | exact .h | refine .t ?_); exact rfl) | (refine' zm hX rfl rfl hL ?_ ?_ ?_; rotate_left 3; (repeat first | exact .h | refine .t ?_); exact rfl) | (refine' zs hX rfl rfl rfl hL ?_ ?_ ?_; rotate_left 3; (repeat first | exact .h | apply Sets.t); exact rfl; clear hL; intro w hL) | refine ArReq.i64 (by omega) (by omega) ?_ | refine SeqReq.go hX ?_ | refine OptReq.mk rfl ?_); conv => whnf)
            refine ⟨(i + 1, some ⟨g5, 0, none⟩, n2, c2), ⟨by simp only at hlt ⊢; omega, m3, ns3, La3, _, V ++ [r.2], ⟨(hm1.trans hm2).trans hm3, hA3', hC3.pre hp3 hN3 (Nat.le_refl _), by simp only [List.length_append, List.length_singleton]; omega, by show _ ≤ bN i + (16 + i) + cC i + 7 * (17 + i) + 9 * cC (i + 1) + 31; omega⟩, ho2, hL⟩, by first | omega | (simp only; omega), ?_, ?_⟩
            · repeat (first | exact trivial | (refine And.intro (by (conv => lhs; whnf) <;> (conv => rhs; whnf) <;> (first | rfl)) ?_))
            · repeat (first | exact trivial | (refine And.intro (by (conv => lhs; whnf) <;> (conv => rhs; whnf) <;> (first | rfl)) ?_))
          by_cases i3 : i % 5 = 3
          · conv => whnf
            repeat ((first | refine RemReq.nat (a := i) (k := 5) rfl (by omega) ?_ | refine BrReq.no (by omega) ?_ | refine BrReq.yes (by omega) ?_ | refine BrReq.tt ?_ | refine BrReq.ff ?_ | (refine' zl hX rfl rfl hL ?_ ?_ ?_; rotate_left 4; (repeat first | exact .h | refine .t ?_); exact rfl) | (refine' zm hX rfl rfl hL ?_ ?_ ?_; rotate_left 3; (repeat first | exact .h | refine .t ?_); exact rfl) | (refine' zs hX rfl rfl rfl hL ?_ ?_ ?_; rotate_left 3; (repeat first | exact .h | apply Sets.t); exact rfl; clear hL; intro w hL) | refine ArReq.i64 (by omega) (by omega) ?_ | refine SeqReq.go hX ?_ | refine OptReq.mk rfl ?_); conv => whnf)
            refine CallReq.mk (L1 := La) (L2 := Lo) (NotG_fn m1 ab ns La hA hC.nm.ok x) (Loc.back (L1 := Lo) hL) ?_
            clear hL
            rintro u m2 La2 w hL hm2 ⟨rfl, hA2⟩
            have hL := Loc.back (L1 := La2) hL
            obtain ⟨hC2, hpre, hl2, hok2⟩ := hC.not hcp hxV (by omega)
            have hlen2 : (notN ns x).1.length ≤ bN i + (16 + i) + cC i := by omega
            have hC3 : Clo (notN ns x).1 (V ++ [(notN ns x).2]) (cC (i + 1)) := by rw [hC']; first | (rw [if_neg i2]; exact hC2) | (rw [if_pos i2]; exact hC2)
            clear hC2 hl2
            generalize notN ns x = r at hA2 hC3 hpre hlen2 hok2 ⊢
            conv => whnf
            repeat ((first | refine BrReq.tt ?_ | refine BrReq.ff ?_ | (refine' zl hX rfl rfl hL ?_ ?_ ?_; rotate_left 4; (repeat first | exact .h | refine .t ?_); exact rfl) | (refine' zm hX rfl rfl hL ?_ ?_ ?_; rotate_left 3; (repeat first | exact .h | refine .t ?_); exact rfl) | (refine' zs hX rfl rfl rfl hL ?_ ?_ ?_; rotate_left 3; (repeat first | exact .h | apply Sets.t); exact rfl; clear hL; intro w hL) | refine ArReq.i64 (by omega) (by omega) ?_ | refine SeqReq.go hX ?_ | refine OptReq.mk rfl ?_); conv => whnf)
            refine NewReq.mk hL ?_
            clear hL
            intro g2 w hL
            conv => whnf
            replace hL : Ev.Loc m [] w0 m2 ((g2, .cells (toArr [.int .i64 r.2]) 3 (0, 0)) :: (Lo ++ La2)) w := hL
            conv => whnf
            repeat ((first | refine BrReq.tt ?_ | refine BrReq.ff ?_ | (refine' zl hX rfl rfl hL ?_ ?_ ?_; rotate_left 4; (repeat first | exact .h | refine .t ?_); exact rfl) | (refine' zm hX rfl rfl hL ?_ ?_ ?_; rotate_left 3; (repeat first | exact .h | refine .t ?_); exact rfl) | (refine' zs hX rfl rfl rfl hL ?_ ?_ ?_; rotate_left 3; (repeat first | exact .h | apply Sets.t); exact rfl; clear hL; intro w hL) | refine ArReq.i64 (by omega) (by omega) ?_ | refine SeqReq.go hX ?_ | refine OptReq.mk rfl ?_); conv => whnf)
            refine RunReq.push hX 40 3 rfl rfl rfl rfl rfl ho (L2 := La2) hL rfl rfl (by simp [ints]; omega) rfl ?_
            clear hL
            intro A2 n2 c2 Lo2 w hn2 ho2 hL
            rw [← show ints .i64 (V ++ [r.2]) = ints .i64 V ++ [Value.int .i64 r.2] from ints_append ..] at ho2
            conv => whnf
            repeat ((first | refine BrReq.tt ?_ | refine BrReq.ff ?_ | (refine' zl hX rfl rfl hL ?_ ?_ ?_; rotate_left 4; (repeat first | exact .h | refine .t ?_); exact rfl) | (refine' zm hX rfl rfl hL ?_ ?_ ?_; rotate_left 3; (repeat first | exact .h | refine .t ?_); exact rfl) | (refine' zs hX rfl rfl rfl hL ?_ ?_ ?_; rotate_left 3; (repeat first | exact .h | apply Sets.t); exact rfl; clear hL; intro w hL) | refine ArReq.i64 (by omega) (by omega) ?_ | refine SeqReq.go hX ?_ | refine OptReq.mk rfl ?_); conv => whnf)
            obtain ⟨hn5, hnc5, hm5, hget5⟩ := owns_get ho2
            obtain ⟨g5, cur5, rfl, rfl, hcl5, hct5, hcg5⟩ := hget5 (by simp)
            rw [List.length_append, List.length_singleton] at hn5
            have hz5 := hcg5 V.length r.2 (by simp)
            have hz0 : 0 ≤ r.2 := hok2.1
            replace hL : Ev.Loc m [] w0 m2 ((g5, .cells (toArr cur5) 3 (0, 0)) :: La2) w := hL
            conv => whnf
            repeat ((first | refine Idx2Req.mk V.length _ (by omega) (by omega) rfl ?_ | (refine LdReq.ownC hX rfl rfl hL .h (by rw [scale_eq, Nat.zero_add, Nat.mul_one]; exact hz5) ?_) | refine BrReq.no (by omega) ?_ | refine BrReq.tt ?_ | refine BrReq.ff ?_ | (refine' zl hX rfl rfl hL ?_ ?_ ?_; rotate_left 4; (repeat first | exact .h | refine .t ?_); exact rfl) | (refine' zm hX rfl rfl hL ?_ ?_ ?_; rotate_left 3; (repeat first | exact .h | refine .t ?_); exact rfl) | (refine' zs hX rfl rfl rfl hL ?_ ?_ ?_; rotate_left 3; (repeat first | exact .h | apply Sets.t); exact rfl; clear hL; intro w hL) | refine ArReq.i64 (by omega) (by omega) ?_ | refine SeqReq.go hX ?_ | refine OptReq.mk rfl ?_); conv => whnf)
            refine CallReq.mk (L1 := La2) (L2 := [_]) (laws_fn m2 ab r.1 La2 hA2 (V ++ [r.2]) (cC (i + 1)) hC3 x y r.2 (by simp [hxV]) (by simp [hyV]) (by simp) (by rw [List.length_append, List.length_singleton]; omega)) (Loc.back (L1 := [_]) hL) ?_
            clear hL
            rintro u m3 La3 w hL hm3 ⟨rfl, ns3, hA3', hN3, hp3, hl3⟩
            have hL := Loc.back (L1 := La3) (L2 := [_]) hL
            rw [List.length_append, List.length_singleton] at hl3
            conv => whnf
            repeat ((first | refine BrReq.tt ?_ | refine BrReq.ff ?_ | (refine' zl hX rfl rfl hL ?_ ?_ ?_; rotate_left 4; (repeat first | exact .h | refine .t ?_); exact rfl) | (refine' zm hX rfl rfl hL ?_ ?_ ?_; rotate_left 3; (repeat first | exact .h | refine .t ?_); exact rfl) | (refine' zs hX rfl rfl rfl hL ?_ ?_ ?_; rotate_left 3; (repeat first | exact .h | apply Sets.t); exact rfl; clear hL; intro w hL) | refine ArReq.i64 (by omega) (by omega) ?_ | refine SeqReq.go hX ?_ | refine OptReq.mk rfl ?_); conv => whnf)
            refine ⟨(i + 1, some ⟨g5, 0, none⟩, n2, c2), ⟨by simp only at hlt ⊢; omega, m3, ns3, La3, _, V ++ [r.2], ⟨(hm1.trans hm2).trans hm3, hA3', hC3.pre hp3 hN3 (Nat.le_refl _), by simp only [List.length_append, List.length_singleton]; omega, by show _ ≤ bN i + (16 + i) + cC i + 7 * (17 + i) + 9 * cC (i + 1) + 31; omega⟩, ho2, hL⟩, by first | omega | (simp only; omega), ?_, ?_⟩
            · repeat (first | exact trivial | (refine And.intro (by (conv => lhs; whnf) <;> (conv => rhs; whnf) <;> (first | rfl)) ?_))
            · repeat (first | exact trivial | (refine And.intro (by (conv => lhs; whnf) <;> (conv => rhs; whnf) <;> (first | rfl)) ?_))
          · conv => whnf
            repeat ((first | refine RemReq.nat (a := i) (k := 5) rfl (by omega) ?_ | refine BrReq.no (by omega) ?_ | refine BrReq.yes (by omega) ?_ | refine BrReq.tt ?_ | refine BrReq.ff ?_ | (refine' zl hX rfl rfl hL ?_ ?_ ?_; rotate_left 4; (repeat first | exact .h | refine .t ?_); exact rfl) | (refine' zm hX rfl rfl hL ?_ ?_ ?_; rotate_left 3; (repeat first | exact .h | refine .t ?_); exact rfl) | (refine' zs hX rfl rfl rfl hL ?_ ?_ ?_; rotate_left 3; (repeat first | exact .h | apply Sets.t); exact rfl; clear hL; intro w hL) | refine ArReq.i64 (by omega) (by omega) ?_ | refine SeqReq.go hX ?_ | refine OptReq.mk rfl ?_); conv => whnf)
            refine CallReq.mk (L1 := La) (L2 := Lo) (StarG_fn m1 ab ns La hA hC.nm.ok x) (Loc.back (L1 := Lo) hL) ?_
            clear hL
            rintro u m2 La2 w hL hm2 ⟨rfl, hA2⟩
            have hL := Loc.back (L1 := La2) hL
            obtain ⟨hC2, hpre, hl2, hok2⟩ := hC.star hcp hxV (by omega)
            have hlen2 : (starN ns x).1.length ≤ bN i + (16 + i) + cC i := by omega
            have hC3 : Clo (starN ns x).1 (V ++ [(starN ns x).2]) (cC (i + 1)) := by rw [hC']; first | (rw [if_neg i2]; exact hC2) | (rw [if_pos i2]; exact hC2)
            clear hC2 hl2
            generalize starN ns x = r at hA2 hC3 hpre hlen2 hok2 ⊢
            conv => whnf
            repeat ((first | refine BrReq.tt ?_ | refine BrReq.ff ?_ | (refine' zl hX rfl rfl hL ?_ ?_ ?_; rotate_left 4; (repeat first | exact .h | refine .t ?_); exact rfl) | (refine' zm hX rfl rfl hL ?_ ?_ ?_; rotate_left 3; (repeat first | exact .h | refine .t ?_); exact rfl) | (refine' zs hX rfl rfl rfl hL ?_ ?_ ?_; rotate_left 3; (repeat first | exact .h | apply Sets.t); exact rfl; clear hL; intro w hL) | refine ArReq.i64 (by omega) (by omega) ?_ | refine SeqReq.go hX ?_ | refine OptReq.mk rfl ?_); conv => whnf)
            refine NewReq.mk hL ?_
            clear hL
            intro g2 w hL
            conv => whnf
            replace hL : Ev.Loc m [] w0 m2 ((g2, .cells (toArr [.int .i64 r.2]) 3 (0, 0)) :: (Lo ++ La2)) w := hL
            conv => whnf
            repeat ((first | refine BrReq.tt ?_ | refine BrReq.ff ?_ | (refine' zl hX rfl rfl hL ?_ ?_ ?_; rotate_left 4; (repeat first | exact .h | refine .t ?_); exact rfl) | (refine' zm hX rfl rfl hL ?_ ?_ ?_; rotate_left 3; (repeat first | exact .h | refine .t ?_); exact rfl) | (refine' zs hX rfl rfl rfl hL ?_ ?_ ?_; rotate_left 3; (repeat first | exact .h | apply Sets.t); exact rfl; clear hL; intro w hL) | refine ArReq.i64 (by omega) (by omega) ?_ | refine SeqReq.go hX ?_ | refine OptReq.mk rfl ?_); conv => whnf)
            refine RunReq.push hX 40 3 rfl rfl rfl rfl rfl ho (L2 := La2) hL rfl rfl (by simp [ints]; omega) rfl ?_
            clear hL
            intro A2 n2 c2 Lo2 w hn2 ho2 hL
            rw [← show ints .i64 (V ++ [r.2]) = ints .i64 V ++ [Value.int .i64 r.2] from ints_append ..] at ho2
            conv => whnf
            repeat ((first | refine BrReq.tt ?_ | refine BrReq.ff ?_ | (refine' zl hX rfl rfl hL ?_ ?_ ?_; rotate_left 4; (repeat first | exact .h | refine .t ?_); exact rfl) | (refine' zm hX rfl rfl hL ?_ ?_ ?_; rotate_left 3; (repeat first | exact .h | refine .t ?_); exact rfl) | (refine' zs hX rfl rfl rfl hL ?_ ?_ ?_; rotate_left 3; (repeat first | exact .h | apply Sets.t); exact rfl; clear hL; intro w hL) | refine ArReq.i64 (by omega) (by omega) ?_ | refine SeqReq.go hX ?_ | refine OptReq.mk rfl ?_); conv => whnf)
            obtain ⟨hn5, hnc5, hm5, hget5⟩ := owns_get ho2
            obtain ⟨g5, cur5, rfl, rfl, hcl5, hct5, hcg5⟩ := hget5 (by simp)
            rw [List.length_append, List.length_singleton] at hn5
            have hz5 := hcg5 V.length r.2 (by simp)
            have hz0 : 0 ≤ r.2 := hok2.1
            replace hL : Ev.Loc m [] w0 m2 ((g5, .cells (toArr cur5) 3 (0, 0)) :: La2) w := hL
            conv => whnf
            repeat ((first | refine Idx2Req.mk V.length _ (by omega) (by omega) rfl ?_ | (refine LdReq.ownC hX rfl rfl hL .h (by rw [scale_eq, Nat.zero_add, Nat.mul_one]; exact hz5) ?_) | refine BrReq.no (by omega) ?_ | refine BrReq.tt ?_ | refine BrReq.ff ?_ | (refine' zl hX rfl rfl hL ?_ ?_ ?_; rotate_left 4; (repeat first | exact .h | refine .t ?_); exact rfl) | (refine' zm hX rfl rfl hL ?_ ?_ ?_; rotate_left 3; (repeat first | exact .h | refine .t ?_); exact rfl) | (refine' zs hX rfl rfl rfl hL ?_ ?_ ?_; rotate_left 3; (repeat first | exact .h | apply Sets.t); exact rfl; clear hL; intro w hL) | refine ArReq.i64 (by omega) (by omega) ?_ | refine SeqReq.go hX ?_ | refine OptReq.mk rfl ?_); conv => whnf)
            refine CallReq.mk (L1 := La2) (L2 := [_]) (laws_fn m2 ab r.1 La2 hA2 (V ++ [r.2]) (cC (i + 1)) hC3 x y r.2 (by simp [hxV]) (by simp [hyV]) (by simp) (by rw [List.length_append, List.length_singleton]; omega)) (Loc.back (L1 := [_]) hL) ?_
            clear hL
            rintro u m3 La3 w hL hm3 ⟨rfl, ns3, hA3', hN3, hp3, hl3⟩
            have hL := Loc.back (L1 := La3) (L2 := [_]) hL
            rw [List.length_append, List.length_singleton] at hl3
            conv => whnf
            repeat ((first | refine BrReq.tt ?_ | refine BrReq.ff ?_ | (refine' zl hX rfl rfl hL ?_ ?_ ?_; rotate_left 4; (repeat first | exact .h | refine .t ?_); exact rfl) | (refine' zm hX rfl rfl hL ?_ ?_ ?_; rotate_left 3; (repeat first | exact .h | refine .t ?_); exact rfl) | (refine' zs hX rfl rfl rfl hL ?_ ?_ ?_; rotate_left 3; (repeat first | exact .h | apply Sets.t); exact rfl; clear hL; intro w hL) | refine ArReq.i64 (by omega) (by omega) ?_ | refine SeqReq.go hX ?_ | refine OptReq.mk rfl ?_); conv => whnf)
            refine ⟨(i + 1, some ⟨g5, 0, none⟩, n2, c2), ⟨by simp only at hlt ⊢; omega, m3, ns3, La3, _, V ++ [r.2], ⟨(hm1.trans hm2).trans hm3, hA3', hC3.pre hp3 hN3 (Nat.le_refl _), by simp only [List.length_append, List.length_singleton]; omega, by show _ ≤ bN i + (16 + i) + cC i + 7 * (17 + i) + 9 * cC (i + 1) + 31; omega⟩, ho2, hL⟩, by first | omega | (simp only; omega), ?_, ?_⟩
            · repeat (first | exact trivial | (refine And.intro (by (conv => lhs; whnf) <;> (conv => rhs; whnf) <;> (first | rfl)) ?_))
            · repeat (first | exact trivial | (refine And.intro (by (conv => lhs; whnf) <;> (conv => rhs; whnf) <;> (first | rfl)) ?_))
        · conv => whnf
          repeat ((first | refine BrReq.tt ?_ | refine BrReq.ff ?_ | (refine' zl hX rfl rfl hL ?_ ?_ ?_; rotate_left 4; (repeat first | exact .h | refine .t ?_); exact rfl) | (refine' zm hX rfl rfl hL ?_ ?_ ?_; rotate_left 3; (repeat first | exact .h | refine .t ?_); exact rfl) | (refine' zs hX rfl rfl rfl hL ?_ ?_ ?_; rotate_left 3; (repeat first | exact .h | apply Sets.t); exact rfl; clear hL; intro w hL) | refine ArReq.i64 (by omega) (by omega) ?_ | refine SeqReq.go hX ?_ | refine OptReq.mk rfl ?_); conv => whnf)
          exact RetReq.bool (hL.sublist (List.nil_sublist _)) rfl

theorem st_of {m : Mem} (n : Nat) (cs : List Value) (h : Rdf X m n 44 cs) : ∃ s, isSt cs s ∧ InS s := by
  obtain ⟨hl, n2, _, hs⟩ := rdf_arrayL (k := 4) (e := 42) (ti := ⟨.array 4 42, 4, 32, [.int .u64 0, .int .u64 0, .int .u64 0, .int .u64 0]⟩) (te := ⟨.int .u64, 1, 8, [.int .u64 0]⟩) rfl rfl rfl h
  match cs, hl with
  | [x1, x2, x3, x4], _ =>
    obtain ⟨s0, e1, h0⟩ := rdf_int (k := .u64) rfl rfl (hs 0 (by omega))
    obtain ⟨s1, e2, h1⟩ := rdf_int (k := .u64) rfl rfl (hs 1 (by omega))
    obtain ⟨s2, e3, h2⟩ := rdf_int (k := .u64) rfl rfl (hs 2 (by omega))
    obtain ⟨s3, e4, h3⟩ := rdf_int (k := .u64) rfl rfl (hs 3 (by omega))
    have e1 : [x1] = [Value.int .u64 s0] := e1
    have e2 : [x2] = [Value.int .u64 s1] := e2
    have e3 : [x3] = [Value.int .u64 s2] := e3
    have e4 : [x4] = [Value.int .u64 s3] := e4
    cases e1; cases e2; cases e3; cases e4
    exact ⟨⟨s0, s1, s2, s3⟩, rfl, h0, h1, h2, h3⟩
theorem sl_in {m : Mem} {v : Value} {l : List S4} (h : Sl m 4 (fun cs x => isSt cs x ∧ InS x) v l) : Sl m 4 isSt v l ∧ ∀ x ∈ l, InS x := by
  refine ⟨h.le (Mem.Le.refl m) fun _ _ _ h => h.1, fun x hx => ?_⟩
  obtain ⟨i, hi, rfl⟩ := List.getElem_of_mem hx
  obtain ⟨A, n, c, rfl, -⟩ := id h
  obtain ⟨a, cs, -, -, -, h2⟩ := h.elem i _ (List.getElem?_eq_getElem hi)
  exact h2.2
theorem contract (m : Mem) (vs : List Value) (hl : vs.length = Try.f4.params.size) (hg : ∀ (j : Nat) t v, Try.f4.params.toList[j]? = some t → vs[j]? = some v → Given X m t v) :
    Ev.Fn Try.prog 4 vs m [] fun _ _ v => v = .bool true := by
  match vs, hl with
  | [va, vb, vc, vd], _ =>
    obtain ⟨l, h1, _⟩ := (hg 0 37 va rfl rfl).slice (R := fun cs x => isSt cs x ∧ InS x) rfl rfl rfl (fun n cs _ h => st_of n cs h)
    obtain ⟨h1, h2⟩ := sl_in h1
    obtain ⟨k, rfl, hk⟩ := (hg 1 3 vb rfl rfl).int (k := .i64) rfl rfl
    obtain ⟨b, rfl⟩ := (hg 2 4 vc rfl rfl).bool rfl rfl
    obtain ⟨p, h3, -, h5⟩ := (hg 3 35 vd rfl rfl).ints (k := .u8) rfl rfl rfl rfl rfl
    exact (walk m va vd l k b p h1 h2 hk h3 h5).mono fun _ _ _ _ h => h.2

theorem spec (H : Type) (ds : List (DataW H)) (h : ds.length = Try.f4.params.size) : Rows.normSameSpec.fn H ds = { results := [.lit (.bool true)], args := ds } := by
  match ds, h with
  | [_, _, _, _], _ => rfl

set_option maxRecDepth 100000 in
theorem lifted (os : Os) (started : os.Started) (H : Type) (enc : TypeId × Value → H) :
    ReturnsInHanded {} Try.checked os 4 .any (Rows.normSameSpec.pre6 enc Try.prog Try.f4 Rows.normSameRow.domain false) (Rows.normSameSpec.post enc Try.prog Try.f4 false true false false) := by
  refine returnsInHanded_of_change_sized (C := Try.checked) (by kernel_rfl) started (by kernel_rfl) Try.func4
    (ChangeSpec.witness6 (enc := enc) (C := Try.checked) false ⟨#[], #[.slice none 0 0, .int .i64 0, .bool false, .slice none 0 0], []⟩ 8 (by kernel_rfl) (by kernel_rfl) (by kernel_rfl) (by kernel_rfl)) ?_
  intro W base args ds gs before hval hW _ hsz _
  exact law_core hX (by kernel_rfl) rfl rfl Try.underlying4 (by decide +kernel) (fun H ds h => spec H ds h) contract W base args ds gs before hval hW hsz

set_option maxRecDepth 100000 in
theorem proved : Rows.NormSameSaid :=
  OpenClaim.holds_of_wide 4 Try.f4 rfl rfl rfl rfl rfl rfl rfl ⟨rfl, rfl, rfl, rfl, rfl⟩ rfl rfl rfl rfl rfl (by kernel_rfl) Try.func4 (by kernel_rfl)
    (of_decide_eq_true (by kernel_rfl)) (by unfold Func.isWrapper; first | (rw [if_pos (by decide +kernel)]; kernel_rfl) | (rw [if_neg (by decide +kernel)]; exact ⟨rfl, rfl⟩))
    (fun os started H enc _ => lifted os started H enc)
end Go.Proofs.Ytblpobeokfkggaa.nsm
