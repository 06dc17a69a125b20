/- TrackRefuses: part 10 of 14 of the proof. Conditions: none. -/
import Derived.Test.YtiololnblplloaaGreatM9
import Derived.Test.YtiololnblplloaaGreatM3
import Derived.Test.YtiololnblplloaaGreatM6
import Derived.Test.YtiololnblplloaaGreatM1
namespace Go.Proofs.YtiololnblplloaaGreat.li
open Go Go.Ev Go.Proofs Go.Proofs.YtiololnblplloaaGreat.ar
def nulP (ns : List Nd) (bits : Nat) (z : Int) : Bool := if 0 ≤ z ∧ z < ns.length then nulN bits ns z.toNat else false
abbrev accL (ab b3 b5 bits : Nat) (La : Ev.Own) : Ev.Own := (b5, .cells (toArr [.int .u8 bits]) 5 (0, 0)) :: (b3, .cells (toArr [.pointer (some ⟨ab, 0, none⟩)]) 47 (0, 0)) :: La
theorem acc1_fn (m : Mem) (ab b3 b5 bits : Nat) (ns : List Nd) (La : Ev.Own) (hA : Ar ab ns La) (hO : OkA ns) (hb : bits < 256) (z : Int) :
    FnM Tryz.prog 64 [.int .i64 z, .pointer (some ⟨b3, 0, none⟩), .pointer (some ⟨b5, 0, none⟩)] m (accL ab b3 b5 bits La) (.bool (!nulP ns bits z)) := by
  have hn := Null_fn m ab bits ns La hA hO hb z
  refine Fn.enter (N := 10) hX Tryz.func64 rfl rfl (by show _ ≤ _; simp) (fun w0 hL => ?_)
  conv => whnf
  generalize keys (accL ab b3 b5 bits La) = S0 at hL ⊢
  conv => whnf
  repeat ((first | refine zT ?_ | refine zF ?_ | refine zL hX hL ?_ | refine zB hX hL ?_ | (refine zS hX hL ?_; clear hL; intro w hL) | refine zI ?_ | refine zG hX ?_ | refine zO ?_); conv => whnf)
  refine CallReq.lm (L1 := La) (L2 := [_, _]) hn (Loc.back (L1 := [_, _]) hL) ?_
  clear hL
  intro m1 w hm1 hL
  have hL := Loc.back (L1 := La) (L2 := [_, _]) hL
  conv => whnf
  repeat ((first | refine zT ?_ | refine zF ?_ | refine zL hX hL ?_ | refine zB hX hL ?_ | (refine zS hX hL ?_; clear hL; intro w hL) | refine zI ?_ | refine zG hX ?_ | refine zO ?_); conv => whnf)
  exact RetReq.mk hL ⟨rfl, rfl⟩
theorem accIx_fn (m : Mem) (ab b3 b5 bits : Nat) (ns : List Nd) (La : Ev.Own) (hA : Ar ab ns La) (hO : OkA ns) (hb : bits < 256) (A : Option Addr) (n c : Nat) (l : List Int) (Lo : Ev.Own) (ho : OwnS 3 1 (.slice A n c) (ints .i64 l) Lo) :
    Ev.Fn Tryz.prog 94 [.slice A n c, .func (.func 64) #[] #[.pointer (some ⟨b3, 0, none⟩), .pointer (some ⟨b5, 0, none⟩)]] m (Lo ++ accL ab b3 b5 bits La)
      fun _ L' u => L' = Lo ++ accL ab b3 b5 bits La ∧ ((u = .int .i64 (-1) ∧ ∀ y ∈ l, nulP ns bits y = true) ∨ ∃ i : Nat, u = .int .i64 i ∧ ∃ h : i < l.length, nulP ns bits l[i] = false ∧ ∀ y ∈ l.take i, nulP ns bits y = true) := by
  obtain ⟨hn, hnc, hm, hget⟩ := owns_get ho
  have hmx : maxLen = 9223372036854775807 := rfl
  refine Fn.enter (N := 19) hX Tryz.func94 rfl rfl (by show _ ≤ _; simp) (fun w0 hL => ?_)
  conv => whnf
  generalize keys (Lo ++ accL ab b3 b5 bits La) = S0 at hL ⊢
  conv => whnf
  repeat ((first | refine zT ?_ | refine zF ?_ | refine zL hX hL ?_ | refine zB hX hL ?_ | (refine zS hX hL ?_; clear hL; intro w hL) | refine zI ?_ | refine zG hX ?_ | refine zO ?_); conv => whnf)
  refine LoopReq.inv hX (fun j : Nat => [(8, .int .i64 j)]) [0, 1, 7]
    (fun j w => (j ≤ n ∧ ∀ y ∈ l.take j, nulP ns bits y = true) ∧ ∃ mm, Mem.Le m mm ∧ Ev.Loc m S0 w0 mm (Lo ++ accL ab b3 b5 bits La) w) (fun j => n - j) 0
    ⟨⟨Nat.zero_le _, by simp⟩, m, Mem.Le.refl m, hL⟩ ⟨rfl, trivial⟩ ?_
  clear hL
  rintro j w g ⟨⟨hj, hdone⟩, mm, hmm, hL⟩
  conv => whnf
  repeat ((first | refine zT ?_ | refine zF ?_ | refine zL hX hL ?_ | refine zB hX hL ?_ | (refine zS hX hL ?_; clear hL; intro w hL) | refine zI ?_ | refine zG hX ?_ | refine zO ?_); conv => whnf)
  refine BrReq.dec (fun hlt => ?_) (fun hlt => ?_)
  · have hj1 : j < l.length := by omega
    have hx := List.getElem?_eq_getElem hj1
    obtain ⟨g, cur, rfl, rfl, -, -, hc⟩ := hget (fun e => by rw [e] at hj1; simp at hj1)
    have hc' := hc j _ hx
    conv => whnf
    repeat ((first | refine Idx2Req.mk j _ rfl (by omega) rfl ?_ | (refine LdReq.ownC hX rfl rfl hL .h (by rw [scale_eq, Nat.zero_add, Nat.mul_one]; exact hc') ?_) | refine zT ?_ | refine zF ?_ | refine zL hX hL ?_ | refine zB hX hL ?_ | (refine zS hX hL ?_; clear hL; intro w hL) | refine zI ?_ | refine zG hX ?_ | refine zO ?_); conv => whnf)
    refine CallReq.lm (L1 := accL ab b3 b5 bits La) (L2 := [_]) (acc1_fn mm ab b3 b5 bits ns La hA hO hb l[j]) (Loc.back (L1 := [_]) hL) ?_
    clear hL
    intro m1 w hm1 hL
    have hL := Loc.back (L1 := accL ab b3 b5 bits La) (L2 := [_]) hL
    cases hq : nulP ns bits l[j] with
    | false =>
      conv => whnf
      repeat ((first | refine zT ?_ | refine zF ?_ | refine zL hX hL ?_ | refine zB hX hL ?_ | (refine zS hX hL ?_; clear hL; intro w hL) | refine zI ?_ | refine zG hX ?_ | refine zO ?_); conv => whnf)
      exact RetReq.mk hL ⟨rfl, .inr ⟨j, rfl, hj1, hq, hdone⟩⟩
    | true =>
      have hd : ∀ y ∈ l.take (j + 1), nulP ns bits y = true := fun y hy => by
        rw [fo.take_succ' hj1] at hy
        rcases List.mem_append.1 hy with h | h
        · exact hdone y h
        · rw [List.mem_singleton.1 h]; exact hq
      conv => whnf
      repeat ((first | refine zT ?_ | refine zF ?_ | refine zL hX hL ?_ | refine zB hX hL ?_ | (refine zS hX hL ?_; clear hL; intro w hL) | refine zI ?_ | refine zG hX ?_ | refine zO ?_); conv => whnf)
      refine ⟨j + 1, ⟨⟨by omega, hd⟩, m1, hmm.trans hm1, hL⟩, by first | omega | (simp only; omega) | (simp only [List.length_cons, List.length_append]; omega), ?_, ?_⟩
      · repeat (first | exact trivial | (refine And.intro (by (conv => lhs; whnf) <;> (conv => rhs; whnf) <;> (first | rfl)) ?_))
      · repeat (first | exact trivial | (refine And.intro (by (conv => lhs; whnf) <;> (conv => rhs; whnf) <;> (first | rfl)) ?_))
  · have ej : j = l.length := by omega
    rw [ej, List.take_length] at hdone
    conv => whnf
    repeat ((first | refine zT ?_ | refine zF ?_ | refine zL hX hL ?_ | refine zB hX hL ?_ | (refine zS hX hL ?_; clear hL; intro w hL) | refine zI ?_ | refine zG hX ?_ | refine zO ?_); conv => whnf)
    exact RetReq.mk hL ⟨rfl, .inl ⟨rfl, hdone⟩⟩
def keepQ (ns : List Nd) (bits : Nat) (l : List Int) : List Int := l.filter (nulP ns bits)
theorem keepQ_all {ns : List Nd} {bits : Nat} {l : List Int} (h : ∀ y ∈ l, nulP ns bits y = true) : keepQ ns bits l = l := List.filter_eq_self.2 h
theorem keepQ_take {ns : List Nd} {bits : Nat} {l : List Int} {j : Nat} (h : j < l.length) : keepQ ns bits (l.take (j + 1)) = keepQ ns bits (l.take j) ++ (if nulP ns bits l[j] = true then [l[j]] else []) := by
  unfold keepQ
  rw [List.take_succ_eq_append_getElem h, List.filter_append]
  congr 1
  by_cases e : nulP ns bits l[j] = true
  · rw [if_pos e, List.filter_cons, if_pos e]; rfl
  · rw [if_neg e, List.filter_cons, if_neg e]; rfl
set_option maxHeartbeats 2000000 in
theorem accDel_fn (m : Mem) (ab b3 b5 bits : Nat) (ns : List Nd) (La : Ev.Own) (hA : Ar ab ns La) (hO : OkA ns) (hb : bits < 256) (A : Option Addr) (n c : Nat) (l : List Int) (Lo : Ev.Own) (ho : OwnS 3 1 (.slice A n c) (ints .i64 l) Lo) :
    Ev.Fn Tryz.prog 62 [.slice A n c, .func (.func 64) #[] #[.pointer (some ⟨b3, 0, none⟩), .pointer (some ⟨b5, 0, none⟩)]] m (Lo ++ accL ab b3 b5 bits La)
      fun _ L' u => ∃ Lo2, L' = Lo2 ++ accL ab b3 b5 bits La ∧ OwnS 3 1 u (ints .i64 (keepQ ns bits l)) Lo2 := by
  have hidx := accIx_fn m ab b3 b5 bits ns La hA hO hb A n c l Lo ho
  obtain ⟨hn, hnc, hm, hget⟩ := owns_get ho
  have hmx : maxLen = 9223372036854775807 := rfl
  refine Fn.enter (N := 42) hX Tryz.func62 rfl rfl (by show _ ≤ _; simp) (fun w0 hL => ?_)
  conv => whnf
  generalize keys (Lo ++ accL ab b3 b5 bits La) = S0 at hL ⊢
  conv => whnf
  repeat ((first | refine zT ?_ | refine zF ?_ | refine zL hX hL ?_ | refine zB hX hL ?_ | (refine zS hX hL ?_; clear hL; intro w hL) | refine zI ?_ | refine zG hX ?_ | refine zO ?_); conv => whnf)
  refine CallReq.mk (L1 := Lo ++ accL ab b3 b5 bits La) (L2 := []) hidx (by rw [List.append_nil]; exact hL) ?_
  clear hL
  rintro u m1 L1 w hL hm1 ⟨rfl, hz⟩
  rw [List.append_nil] at hL
  rcases hz with ⟨rfl, hall⟩ | ⟨i0, rfl, hil, hq0, hno⟩
  · conv => whnf
    repeat ((first | refine zT ?_ | refine zF ?_ | refine zL hX hL ?_ | refine zB hX hL ?_ | (refine zS hX hL ?_; clear hL; intro w hL) | refine zI ?_ | refine zG hX ?_ | refine zO ?_); conv => whnf)
    exact RetReq.mk hL ⟨Lo, rfl, by rw [keepQ_all hall]; exact ho⟩
  · obtain ⟨g, cur, rfl, rfl, hcl, hct, hcg⟩ := hget (fun e => by rw [e] at hil; simp at hil)
    have hd0 : keepQ ns bits (l.take (i0 + 1)) = l.take i0 := by
      rw [keepQ_take hil, hq0, if_neg (by decide), List.append_nil, keepQ_all hno]
    conv => whnf
    repeat ((first | refine zT ?_ | refine zF ?_ | refine zL hX hL ?_ | refine zB hX hL ?_ | (refine zS hX hL ?_; clear hL; intro w hL) | refine zI ?_ | refine zG hX ?_ | refine zO ?_); conv => whnf)
    refine LoopReq.inv hX (fun s : Nat × Nat => [(5, .int .i64 s.1), (6, .int .i64 s.2)]) [0, 1]
      (fun s w => (s.1 < s.2 ∧ s.2 ≤ n ∧ s.1 = (keepQ ns bits (l.take s.2)).length) ∧ ∃ mm, Mem.Le m mm ∧ ∃ cur : List Value, (cur.length = c ∧ cur.take s.1 = ints .i64 (keepQ ns bits (l.take s.2)) ∧ ∀ (q : Nat) (y : Int), s.2 ≤ q → l[q]? = some y → cur[q]? = some (.int .i64 y)) ∧
        Ev.Loc m S0 w0 mm ((g, .cells (toArr cur) 3 (0, 0)) :: accL ab b3 b5 bits La) w) (fun s => n - s.2) (i0, i0 + 1)
      ⟨⟨by simp, by simp only; omega, by simp only; rw [hd0, List.length_take]; omega⟩, m1, hm1, cur, ⟨hcl, by
        simp only
        rw [hd0]
        have : cur.take i0 = (cur.take n).take i0 := by rw [List.take_take]; congr 1; omega
        rw [this, hct]; simp [ints, List.map_take], fun q y _ hq => hcg q y hq⟩, hL⟩ ⟨rfl, rfl, trivial⟩ ?_
    clear hL hcl hct hcg
    rintro ⟨i, j⟩ w f ⟨⟨hij, hjn, hie⟩, mm, hmm, cur, ⟨hcl, hct, hcg⟩, hL⟩
    simp only at hij hjn hie hct hcg
    conv => whnf
    repeat ((first | refine zT ?_ | refine zF ?_ | refine zL hX hL ?_ | refine zB hX hL ?_ | (refine zS hX hL ?_; clear hL; intro w hL) | refine zI ?_ | refine zG hX ?_ | refine zO ?_); conv => whnf)
    refine BrReq.dec (fun hlt => ?_) (fun hlt => ?_)
    · have hlt' : j < l.length := by simp only at hlt; omega
      have hx := List.getElem?_eq_getElem hlt'
      have hc' := hcg j _ (Nat.le_refl j) hx
      have htk := keepQ_take (ns := ns) (bits := bits) hlt'
      generalize l[j] = y at hx hc' htk
      conv => whnf
      repeat ((first | (refine Idx2Req.mk j _ rfl (by simp only at hlt ⊢; omega) rfl ?_) | (refine LdReq.ownC hX rfl rfl hL .h (by rw [scale_eq, Nat.zero_add, Nat.mul_one]; exact hc') ?_) | refine zT ?_ | refine zF ?_ | refine zL hX hL ?_ | refine zB hX hL ?_ | (refine zS hX hL ?_; clear hL; intro w hL) | refine zI ?_ | refine zG hX ?_ | refine zO ?_); conv => whnf)
      refine CallReq.lm (L1 := accL ab b3 b5 bits La) (L2 := [_]) (acc1_fn mm ab b3 b5 bits ns La hA hO hb y) (Loc.back (L1 := [_]) hL) ?_
      clear hL
      intro m2 w hm2 hL
      have hL := Loc.back (L1 := accL ab b3 b5 bits La) (L2 := [_]) hL
      cases hq : nulP ns bits y with
      | false =>
        rw [hq, if_neg (by decide), List.append_nil] at htk
        conv => whnf
        repeat ((first | refine zT ?_ | refine zF ?_ | refine zL hX hL ?_ | refine zB hX hL ?_ | (refine zS hX hL ?_; clear hL; intro w hL) | refine zI ?_ | refine zG hX ?_ | refine zO ?_); conv => whnf)
        refine ⟨(i, j + 1), ⟨⟨by simp only; omega, by simp only; omega, by simp only; rw [htk]; exact hie⟩, m2, hmm.trans hm2, cur, ⟨hcl, by simp only; rw [htk]; exact hct, fun q y hq hy => hcg q y (by simp only at hq; omega) hy⟩, hL⟩, by first | omega | (simp only; omega) | (simp only [List.length_cons, List.length_append]; omega), ?_, ?_⟩
        · repeat (first | exact trivial | (refine And.intro (by (conv => lhs; whnf) <;> (conv => rhs; whnf) <;> (first | rfl)) ?_))
        · repeat (first | exact trivial | (refine And.intro (by (conv => lhs; whnf) <;> (conv => rhs; whnf) <;> (first | rfl)) ?_))
      | true =>
        rw [hq, if_pos rfl] at htk
        conv => whnf
        repeat ((first | refine Idx2Req.mk i _ rfl (by omega) rfl ?_ | refine zT ?_ | refine zF ?_ | refine zL hX hL ?_ | refine zB hX hL ?_ | (refine zS hX hL ?_; clear hL; intro w hL) | refine zI ?_ | refine zG hX ?_ | refine zO ?_); conv => whnf)
        refine StReq.ownAt hX rfl 0 hL rfl rfl (by rw [scale_eq, Nat.zero_add, Nat.mul_one]; show i + 1 ≤ cur.length; omega) rfl ?_
        clear hL
        intro w hL
        replace hL : Ev.Loc m S0 w0 m2 ((g, .cells (toArr (spliceL cur (0 + scale i 1) [.int .i64 y])) 3 (0, 0)) :: accL ab b3 b5 bits La) w := hL
        rw [scale_eq, Nat.zero_add, Nat.mul_one] at hL
        replace hL : Ev.Loc m S0 w0 m2 ((g, .cells (toArr (cur.set i (.int .i64 y))) 3 (0, 0)) :: accL ab b3 b5 bits La) w := hL
        have hct2 : (cur.set i (.int .i64 y)).take (i + 1) = ints .i64 (keepQ ns bits (l.take (j + 1))) := by
          rw [htk, ints_append, ← hct, List.take_set, List.take_succ_eq_append_getElem (by omega : i < cur.length), List.set_append_right _ _ (by rw [List.length_take]; omega)]
          rw [List.length_take, show i - min i cur.length = 0 by omega]; rfl
        conv => whnf
        repeat ((first | refine zT ?_ | refine zF ?_ | refine zL hX hL ?_ | refine zB hX hL ?_ | (refine zS hX hL ?_; clear hL; intro w hL) | refine zI ?_ | refine zG hX ?_ | refine zO ?_); conv => whnf)
        refine ⟨(i + 1, j + 1), ⟨⟨by simp only; omega, by simp only; omega, by simp only; rw [htk, List.length_append, ← hie]; rfl⟩, m2, hmm.trans hm2, cur.set i (.int .i64 y), ⟨by rw [List.length_set]; exact hcl, hct2, fun q y' hq hy => by rw [List.getElem?_set_ne (by simp only at hq; omega)]; exact hcg q y' (by simp only at hq; omega) hy⟩, hL⟩, by first | omega | (simp only; omega) | (simp only [List.length_cons, List.length_append]; omega), ?_, ?_⟩
        · repeat (first | exact trivial | (refine And.intro (by (conv => lhs; whnf) <;> (conv => rhs; whnf) <;> (first | rfl)) ?_))
        · repeat (first | exact trivial | (refine And.intro (by (conv => lhs; whnf) <;> (conv => rhs; whnf) <;> (first | rfl)) ?_))
    · have ej : j = n := by simp only at hlt; omega
      subst ej
      rw [hn, List.take_length] at hie hct
      have hin : i < l.length := by omega
      have hci : ¬ c = i := by omega
      have hc0 : ¬ c = 0 := by omega
      conv => whnf
      repeat ((first | refine SlReq.mk i j rfl rfl (by omega) (by omega) ?_ | refine zT ?_ | refine zF ?_ | refine zL hX hL ?_ | refine zB hX hL ?_ | (refine zS hX hL ?_; clear hL; intro w hL) | refine zI ?_ | refine zG hX ?_ | refine zO ?_); conv => whnf)
      have hsl : ([Value.slice (if c = i then some ⟨g, 0, none⟩ else Option.map (fun x : Addr => x.add (scale i 1)) (some ⟨g, 0, none⟩)) (j - i) (c - i)] : List Value) = [.slice (some ⟨g, i, none⟩) (j - i) (c - i)] := by
        rw [if_neg hci]
        show [Value.slice (some ((⟨g, 0, none⟩ : Addr).add (scale i 1))) (j - i) (c - i)] = _
        rw [addr_add, scale_eq, Nat.zero_add, Nat.mul_one]
      refine GenReq.clear (z := .int .i64 0) rfl rfl rfl Tryz.underlying108 (fun w => Tryz.zeroValue3 w) rfl rfl hsl (by omega) 0 hL rfl (by omega) ?_
      clear hL
      intro w hL
      obtain ⟨k1, k2⟩ := splice_keep (List.replicate (j - i) (.int .i64 0)) cur i i (Nat.le_refl _)
      replace hL : Ev.Loc m S0 w0 mm ((g, .cells (toArr (spliceL cur i (List.replicate (j - i) (.int .i64 0)))) 3 (0, 0)) :: accL ab b3 b5 bits La) w := hL
      generalize spliceL cur i (List.replicate (j - i) (.int .i64 0)) = cur2 at hL k1 k2
      conv => whnf
      repeat ((first | refine SlReq.mk 0 i rfl rfl (by omega) (by omega) ?_ | refine zT ?_ | refine zF ?_ | refine zL hX hL ?_ | refine zB hX hL ?_ | (refine zS hX hL ?_; clear hL; intro w hL) | refine zI ?_ | refine zG hX ?_ | refine zO ?_); conv => whnf)
      refine RetReq.mk hL ⟨[_], rfl, ?_⟩
      show OwnS 3 1 (.slice (if c = 0 then some ⟨g, 0, none⟩ else Option.map (fun x : Addr => x.add (scale 0 1)) (some ⟨g, 0, none⟩)) (i - 0) (c - 0)) _ _
      rw [if_neg hc0]
      have hbk := OwnS.block (te := 3) (size := 1) (g := g) (n := i) (cap := c) (cur := cur2) (by omega) hm (by omega)
      rw [Nat.mul_one, k1, hct] at hbk
      exact hbk
theorem Accepts_fn (m : Mem) (ab bits : Nat) (ns : List Nd) (La : Ev.Own) (hA : Ar ab ns La) (hO : OkA ns) (hb : bits < 256) (fv : Value) (f : fo.Fml) (hf : fo.FmV m fv f) (hF : fo.FB ns.length f) :
    FnM Tryz.prog 46 [.pointer (some ⟨ab, 0, none⟩), fv, .int .u8 bits] m La (.bool (fo.dec (fo.holdsP f (keepQ ns bits (atomsP f))))) := by
  have hr := right_fn m ab ns La hA hO fv f hf hF
  have hfn := hF.len
  have hf' := hf
  obtain ⟨A1, n1, c1, rfl, -⟩ := id hf
  refine Fn.enter (N := 19) hX Tryz.func46 rfl rfl (by show _ ≤ _; simp) (fun w0 hL => ?_)
  conv => whnf
  generalize keys La = S0 at hL ⊢
  refine NewReq.mk hL ?_
  clear hL
  intro b3 w hL
  conv => whnf
  refine NewReq.mk hL ?_
  clear hL
  intro b5 w hL
  conv => whnf
  conv => whnf
  repeat ((first | refine zT ?_ | refine zF ?_ | refine zL hX hL ?_ | refine zB hX hL ?_ | (refine zS hX hL ?_; clear hL; intro w hL) | refine zI ?_ | refine zG hX ?_ | refine zO ?_); conv => whnf)
  refine CallReq.lm (L1 := La) (L2 := [_, _]) hr (Loc.back (L1 := [_, _]) hL) ?_
  clear hL
  intro m1 w hm1 hL
  have hL := Loc.back (L1 := La) (L2 := [_, _]) hL
  have hat := Atoms_fn m1 _ f ns.length hO.len (hf'.le hm1) hF
  conv => whnf
  repeat ((first | refine zT ?_ | refine zF ?_ | refine zL hX hL ?_ | refine zB hX hL ?_ | (refine zS hX hL ?_; clear hL; intro w hL) | refine zI ?_ | refine zG hX ?_ | refine zO ?_); conv => whnf)
  refine CallReq.mk (L1 := []) hat hL ?_
  clear hL
  rintro u mx Lo w hL - ⟨hmx, ho⟩
  rw [hmx] at hL
  clear hmx mx
  obtain ⟨A, n, c, rfl, -⟩ := ho.slice
  conv => whnf
  repeat ((first | refine zT ?_ | refine zF ?_ | refine zL hX hL ?_ | refine zB hX hL ?_ | (refine zS hX hL ?_; clear hL; intro w hL) | refine zI ?_ | refine zG hX ?_ | refine zO ?_); conv => whnf)
  refine CallReq.mk (L1 := Lo ++ accL ab b3 b5 bits La) (L2 := []) (accDel_fn m1 ab b3 b5 bits ns La hA hO hb A n c _ Lo ho) (by rw [List.append_nil]; exact hL) ?_
  clear hL ho
  rintro u m2 L2 w hL hm2 ⟨Lo2, rfl, ho⟩
  rw [List.append_nil] at hL
  obtain ⟨m3, hL3, hm3, hs⟩ := OwnS.freeze ho hL
  clear hL
  have hL := hL3
  clear hL3
  obtain ⟨A2, n2, c2, rfl, -⟩ := id hs
  conv => whnf
  repeat ((first | refine zT ?_ | refine zF ?_ | refine zL hX hL ?_ | refine zB hX hL ?_ | (refine zS hX hL ?_; clear hL; intro w hL) | refine zI ?_ | refine zG hX ?_ | refine zO ?_); conv => whnf)
  refine CallReq.val (Holds_fn m3 _ _ _ f hfn hs (hf'.le (hm1.trans (hm2.trans hm3)))) hL ?_
  clear hL
  intro w hL
  conv => whnf
  repeat ((first | refine zT ?_ | refine zF ?_ | refine zL hX hL ?_ | refine zB hX hL ?_ | (refine zS hX hL ?_; clear hL; intro w hL) | refine zI ?_ | refine zG hX ?_ | refine zO ?_); conv => whnf)
  exact RetReq.mk hL.drop.drop ⟨rfl, rfl⟩
theorem begin_fn (m : Mem) (ab b bits : Nat) (La : Ev.Own) :
    Ev.Fn Tryz.prog 43 [.pointer (some ⟨ab, 0, none⟩), .int .u8 b, .int .u8 bits] m La fun m' L' u => m' = m ∧ ∃ sb ma ml, u = .pointer (some ⟨sb, 0, none⟩) ∧ L' = stL ab sb b bits 0 ma ml [] [] La := by
  refine Fn.enter (N := 14) hX Tryz.func43 rfl rfl (by show _ ≤ _; simp) (fun w0 hL => ?_)
  conv => whnf
  generalize keys La = S0 at hL ⊢
  conv => whnf
  repeat ((first | refine zT ?_ | refine zF ?_ | refine zL hX hL ?_ | refine zB hX hL ?_ | (refine zS hX hL ?_; clear hL; intro w hL) | refine zI ?_ | refine zG hX ?_ | refine zO ?_); conv => whnf)
  refine RunReq.makeMapW hL ?_
  clear hL
  intro ma w hL
  conv => whnf
  repeat ((first | refine zT ?_ | refine zF ?_ | refine zL hX hL ?_ | refine zB hX hL ?_ | (refine zS hX hL ?_; clear hL; intro w hL) | refine zI ?_ | refine zG hX ?_ | refine zO ?_); conv => whnf)
  refine RunReq.makeMapW hL ?_
  clear hL
  intro ml w hL
  conv => whnf
  repeat ((first | refine zT ?_ | refine zF ?_ | refine zL hX hL ?_ | refine zB hX hL ?_ | (refine zS hX hL ?_; clear hL; intro w hL) | refine zI ?_ | refine zG hX ?_ | refine zO ?_); conv => whnf)
  refine NewReq.mk hL ?_
  clear hL
  intro sb w hL
  conv => whnf
  replace hL : Ev.Loc m S0 w0 m ((sb, stO ab b bits 0 ma ml) :: (ml, mapW []) :: (ma, mapW []) :: La) w := hL
  conv => whnf
  repeat ((first | refine zT ?_ | refine zF ?_ | refine zL hX hL ?_ | refine zB hX hL ?_ | (refine zS hX hL ?_; clear hL; intro w hL) | refine zI ?_ | refine zG hX ?_ | refine zO ?_); conv => whnf)
  exact RetReq.mk (hL.perm (List.Perm.cons _ (List.Perm.swap _ _ _))) ⟨rfl, sb, ma, ml, rfl, rfl⟩
theorem end_fn (m : Mem) (ab sb b bits : Nat) (e : Int) (ma ml : Nat) (v : Value) (f : fo.Fml) (hv : fo.FmV m v f) :
    FnL Tryz.prog 44 [.pointer (some ⟨sb, 0, none⟩), v] m [(sb, stO ab b bits e ma ml)] (.tuple (toArr [if e = 0 then v else .slice none 0 0, .int .i64 e])) := by
  obtain ⟨A, n, c, rfl, -⟩ := id hv
  refine Fn.enter (N := 16) hX Tryz.func44 rfl rfl (by show _ ≤ _; simp) (fun w0 hL => ?_)
  conv => whnf
  generalize keys [(sb, stO ab b bits e ma ml)] = S0 at hL ⊢
  by_cases h0 : e = 0
  · subst h0
    conv => whnf
    repeat ((first | refine zT ?_ | refine zF ?_ | refine zL hX hL ?_ | refine zB hX hL ?_ | (refine zS hX hL ?_; clear hL; intro w hL) | refine zI ?_ | refine zG hX ?_ | refine zO ?_); conv => whnf)
    exact RetReq.mk hL ⟨rfl, rfl, rfl⟩
  · rw [if_neg h0]
    conv => whnf
    repeat ((first | refine BrReq.yes (by omega) ?_ | refine zT ?_ | refine zF ?_ | refine zL hX hL ?_ | refine zB hX hL ?_ | (refine zS hX hL ?_; clear hL; intro w hL) | refine zI ?_ | refine zG hX ?_ | refine zO ?_); conv => whnf)
    refine DrawReq.plan hX (.fst 0 (.fst 1 (.fst 2 (.fst 3 (.fst 4 (.fst 5 (.done))))))) [(sb, stO ab b bits e ma ml)] (by kernel_rfl) (by kernel_rfl) hL id ?_
    clear hL
    intro w hL
    conv => whnf
    repeat ((first | refine zQ hX ?_ | refine zR hX ?_ | refine zA ?_ | refine zT ?_ | refine zF ?_ | refine zL hX hL ?_ | refine zB hX hL ?_ | (refine zS hX hL ?_; clear hL; intro w hL) | refine zI ?_ | refine zG hX ?_ | refine zO ?_); conv => whnf)
    exact RetReq.mk hL ⟨rfl, rfl, rfl⟩
theorem stp_start {ab sb b bits : Nat} {m : Mem} {ns : List Nd} {La : Ev.Own} (hA : Ar ab ns La) (hO : OkA ns) (ma ml : Nat) : Stp ab sb b bits m ns 0 ma ml [] [] La :=
  ⟨hA, hO, fun y hy => (by cases hy), fun y hy => (by cases hy), .inl rfl⟩
def OutP (ab : Nat) (ns : List Nd) : Mem → Ev.Own → Value → Prop := fun m' L' u => ∃ ns' e v f, u = .tuple (toArr [v, .int .i64 e]) ∧ (e = 0 ∨ e = 4) ∧ ns <+: ns' ∧ OkA ns' ∧ Ar ab ns' L' ∧ fo.FmV m' v f ∧ fo.FB ns'.length f
theorem Next_fn (m : Mem) (ab b bits : Nat) (ns : List Nd) (La : Ev.Own) (hA : Ar ab ns La) (hO : OkA ns) (hb8 : b < 256) (hb : bits < 256) (fv : Value) (f : fo.Fml) (hf : fo.FmV m fv f) (hF : fo.FB ns.length f) :
    Ev.Fn Tryz.prog 47 [.pointer (some ⟨ab, 0, none⟩), fv, .int .u8 b, .int .u8 bits] m La (OutP ab ns) := by
  have hr := right_fn m ab ns La hA hO fv f hf hF
  have hf' := hf
  obtain ⟨A1, n1, c1, rfl, -⟩ := id hf
  refine Fn.enter (N := 28) hX Tryz.func47 rfl rfl (by show _ ≤ _; simp) (fun w0 hL => ?_)
  conv => whnf
  generalize keys La = S0 at hL ⊢
  conv => whnf
  repeat ((first | refine zT ?_ | refine zF ?_ | refine zL hX hL ?_ | refine zB hX hL ?_ | (refine zS hX hL ?_; clear hL; intro w hL) | refine zI ?_ | refine zG hX ?_ | refine zO ?_); conv => whnf)
  refine CallReq.lm (L1 := La) (L2 := []) hr (by rw [List.append_nil]; exact hL) ?_
  clear hL
  intro m1 w hm1 hL
  rw [List.append_nil] at hL
  conv => whnf
  repeat ((first | refine zT ?_ | refine zF ?_ | refine zL hX hL ?_ | refine zB hX hL ?_ | (refine zS hX hL ?_; clear hL; intro w hL) | refine zI ?_ | refine zG hX ?_ | refine zO ?_); conv => whnf)
  refine CallReq.mk (L1 := La) (L2 := []) (begin_fn m1 ab b bits La) (by rw [List.append_nil]; exact hL) ?_
  clear hL
  rintro u mx L1 w hL - ⟨hmx, sb, ma, ml, rfl, rfl⟩
  rw [hmx] at hL
  clear hmx mx
  rw [List.append_nil] at hL
  have hS : Stp ab sb b bits m1 ns 0 ma ml [] [] La := stp_start hA hO ma ml
  conv => whnf
  repeat ((first | refine zT ?_ | refine zF ?_ | refine zL hX hL ?_ | refine zB hX hL ?_ | (refine zS hX hL ?_; clear hL; intro w hL) | refine zI ?_ | refine zG hX ?_ | refine zO ?_); conv => whnf)
  refine CallReq.mk (L1 := ([] : Ev.Own) ++ stL ab sb b bits 0 ma ml [] [] La) (L2 := []) (put0_fn _ f hS (hf'.le hm1) hF (step_cal hb8 hb ns)) (by rw [List.append_nil]; exact hL) ?_
  clear hL
  rintro u m2 L2 w hL hm2 ⟨ns2, e2, la2, ll2, La2, f2, hp2, hS2, rfl, hf2, hb2⟩
  rw [List.append_nil] at hL
  replace hL : Ev.Loc m S0 w0 m2 ((sb, stO ab b bits e2 ma ml) :: (ma, mapW la2) :: (ml, mapW ll2) :: La2) w := hL
  have hend := end_fn m2 ab sb b bits e2 ma ml _ f2 hf2
  obtain ⟨A2, n2, c2, rfl, -⟩ := id hf2
  by_cases h0 : e2 = 0
  · subst h0
    rw [if_pos rfl] at hend
    conv => whnf
    repeat ((first | refine zT ?_ | refine zF ?_ | refine zL hX hL ?_ | refine zB hX hL ?_ | (refine zS hX hL ?_; clear hL; intro w hL) | refine zI ?_ | refine zG hX ?_ | refine zO ?_); conv => whnf)
    refine CallReq.li (L1 := [_]) (L2 := _ :: _ :: La2) hend hL ?_
    clear hL
    intro w hL
    replace hL : Ev.Loc m S0 w0 m2 ((sb, stO ab b bits 0 ma ml) :: (ma, mapW la2) :: (ml, mapW ll2) :: La2) w := hL
    conv => whnf
    repeat ((first | refine zT ?_ | refine zF ?_ | refine zL hX hL ?_ | refine zB hX hL ?_ | (refine zS hX hL ?_; clear hL; intro w hL) | refine zI ?_ | refine zG hX ?_ | refine zO ?_); conv => whnf)
    exact RetReq.mk hL.drop.drop.drop ⟨ns2, 0, _, f2, rfl, .inl rfl, hp2, hS2.ok, hS2.ar, hf2, hb2⟩
  · rw [if_neg h0] at hend
    conv => whnf
    repeat ((first | refine zT ?_ | refine zF ?_ | refine zL hX hL ?_ | refine zB hX hL ?_ | (refine zS hX hL ?_; clear hL; intro w hL) | refine zI ?_ | refine zG hX ?_ | refine zO ?_); conv => whnf)
    refine CallReq.li (L1 := [_]) (L2 := _ :: _ :: La2) hend hL ?_
    clear hL
    intro w hL
    replace hL : Ev.Loc m S0 w0 m2 ((sb, stO ab b bits e2 ma ml) :: (ma, mapW la2) :: (ml, mapW ll2) :: La2) w := hL
    conv => whnf
    repeat ((first | refine zT ?_ | refine zF ?_ | refine zL hX hL ?_ | refine zB hX hL ?_ | (refine zS hX hL ?_; clear hL; intro w hL) | refine zI ?_ | refine zG hX ?_ | refine zO ?_); conv => whnf)
    exact RetReq.mk hL.drop.drop.drop ⟨ns2, e2, _, [], rfl, hS2.err, hp2, hS2.ok, hS2.ar, Sl.nil _ _ _, fo.FB.nil _⟩
theorem Of_fn (m : Mem) (ab : Nat) (ns : List Nd) (La : Ev.Own) (hA : Ar ab ns La) (hO : OkA ns) (i0 : Int) (hi : i64 i0) (hid : okId ns i0) :
    Ev.Fn Tryz.prog 29 [.pointer (some ⟨ab, 0, none⟩), .int .i64 i0] m La (OutP ab ns) := by
  obtain ⟨x, hx1, hx2⟩ := nodeN_ok hid
  have hnode := Node_fn m ab ns La hA i0
  rw [hx1] at hnode
  simp only at hnode
  refine Fn.enter (N := 26) hX Tryz.func29 rfl rfl (by show _ ≤ _; simp) (fun w0 hL => ?_)
  conv => whnf
  generalize keys La = S0 at hL ⊢
  conv => whnf
  repeat ((first | refine zT ?_ | refine zF ?_ | refine zL hX hL ?_ | refine zB hX hL ?_ | (refine zS hX hL ?_; clear hL; intro w hL) | refine zI ?_ | refine zG hX ?_ | refine zO ?_); conv => whnf)
  refine CallReq.lo hnode hL ?_
  clear hL
  intro w hL
  conv => whnf
  repeat ((first | refine zT ?_ | refine zF ?_ | refine zL hX hL ?_ | refine zB hX hL ?_ | (refine zS hX hL ?_; clear hL; intro w hL) | refine zI ?_ | refine zG hX ?_ | refine zO ?_); conv => whnf)
  refine NewReq.mk hL ?_
  clear hL
  intro bn w hL
  conv => whnf
  conv => whnf
  repeat ((first | refine zT ?_ | refine zF ?_ | refine zL hX hL ?_ | refine zB hX hL ?_ | (refine zS hX hL ?_; clear hL; intro w hL) | refine zI ?_ | refine zG hX ?_ | refine zO ?_); conv => whnf)
  refine CallReq.mk (L1 := La) (L2 := [_]) (begin_fn m ab 0 0 La) (Loc.back (L1 := [_]) hL) ?_
  clear hL
  rintro u mx L1 w hL - ⟨hmx, sb, ma, ml, rfl, rfl⟩
  rw [hmx] at hL
  clear hmx mx
  have hS : Stp ab sb 0 0 m ns 0 ma ml [] [] La := stp_start hA hO ma ml
  conv => whnf
  repeat ((first | refine zT ?_ | refine zF ?_ | refine zL hX hL ?_ | refine zB hX hL ?_ | (refine zS hX hL ?_; clear hL; intro w hL) | refine zI ?_ | refine zG hX ?_ | refine zO ?_); conv => whnf)
  refine CallReq.mk (L1 := stL ab sb 0 0 0 ma ml [] [] La) (L2 := [_]) (of_fn ab sb 0 0 ma ml (dep ns i0 + 1) m ns 0 [] [] La i0 hS hi (fun _ => Nat.lt_succ_self _)) hL ?_
  clear hL
  rintro u m2 L2 w hL hm2 ⟨ns2, e2, la2, ll2, La2, f2, hp2, hS2, rfl, hf2, hb2⟩
  have hL := Loc.back (L1 := stL ab sb 0 0 e2 ma ml la2 ll2 La2) (L2 := [_]) hL
  replace hL := hL.drop
  have hend := end_fn m2 ab sb 0 0 e2 ma ml _ f2 hf2
  obtain ⟨A2, n2, c2, rfl, -⟩ := id hf2
  by_cases h0 : e2 = 0
  · subst h0
    rw [if_pos rfl] at hend
    conv => whnf
    repeat ((first | refine zT ?_ | refine zF ?_ | refine zL hX hL ?_ | refine zB hX hL ?_ | (refine zS hX hL ?_; clear hL; intro w hL) | refine zI ?_ | refine zG hX ?_ | refine zO ?_); conv => whnf)
    refine CallReq.li (L1 := [_]) (L2 := _ :: _ :: La2) hend hL ?_
    clear hL
    intro w hL
    replace hL : Ev.Loc m S0 w0 m2 ((sb, stO ab 0 0 0 ma ml) :: (ma, mapW la2) :: (ml, mapW ll2) :: La2) w := hL
    conv => whnf
    repeat ((first | refine zT ?_ | refine zF ?_ | refine zL hX hL ?_ | refine zB hX hL ?_ | (refine zS hX hL ?_; clear hL; intro w hL) | refine zI ?_ | refine zG hX ?_ | refine zO ?_); conv => whnf)
    exact RetReq.mk hL.drop.drop.drop ⟨ns2, 0, _, f2, rfl, .inl rfl, hp2, hS2.ok, hS2.ar, hf2, hb2⟩
  · rw [if_neg h0] at hend
    conv => whnf
    repeat ((first | refine zT ?_ | refine zF ?_ | refine zL hX hL ?_ | refine zB hX hL ?_ | (refine zS hX hL ?_; clear hL; intro w hL) | refine zI ?_ | refine zG hX ?_ | refine zO ?_); conv => whnf)
    refine CallReq.li (L1 := [_]) (L2 := _ :: _ :: La2) hend hL ?_
    clear hL
    intro w hL
    replace hL : Ev.Loc m S0 w0 m2 ((sb, stO ab 0 0 e2 ma ml) :: (ma, mapW la2) :: (ml, mapW ll2) :: La2) w := hL
    conv => whnf
    repeat ((first | refine zT ?_ | refine zF ?_ | refine zL hX hL ?_ | refine zB hX hL ?_ | (refine zS hX hL ?_; clear hL; intro w hL) | refine zI ?_ | refine zG hX ?_ | refine zO ?_); conv => whnf)
    exact RetReq.mk hL.drop.drop.drop ⟨ns2, e2, _, [], rfl, hS2.err, hp2, hS2.ok, hS2.ar, Sl.nil _ _ _, fo.FB.nil _⟩
end Go.Proofs.YtiololnblplloaaGreat.li
namespace Go.Proofs.YtiololnblplloaaGreat.ar
open Go Go.Ev Go.Proofs
def isT (y : Value × Value) : Prop := ∃ k v : Int, y = (.int .i64 k, .int .i64 v) ∧ i64 k ∧ i64 v
theorem isT_keys {ml : List (Value × Value)} (h : ∀ y ∈ ml, isT y) : ∀ x ∈ ml, IsK Tryz.prog 3 x.1 := fun x hx => by
  obtain ⟨k, v, rfl, h1, -⟩ := h x hx
  exact isK_int _ h1
theorem isT_app {ml : List (Value × Value)} {y : Value × Value} (h : ∀ y ∈ ml, isT y) (hy : isT y) : ∀ x ∈ ml ++ [y], isT x := fun x hx => (List.mem_append.1 hx).elim (h x) fun e => by rw [List.mem_singleton.1 e]; exact hy
theorem isT_set {ml : List (Value × Value)} {y : Value × Value} (h : ∀ y ∈ ml, isT y) (hy : isT y) (q : Nat) : ∀ x ∈ ml.set q y, isT x := fun x hx => by
  rcases List.mem_or_eq_of_mem_set hx with hx | hx
  · exact h x hx
  · rw [hx]; exact hy
theorem tput_pre (ns : List Nd) (x : Nd) : ns <+: (putN ns x).1 := by
  unfold putN
  split
  · exact List.prefix_refl _
  split
  · exact List.prefix_refl _
  split
  · exact List.prefix_refl _
  · exact List.prefix_append ns [x]
def TurQ (ab kb : Nat) (m : Mem) (ns : List Nd) : Mem → Own → Value → Prop := fun m' L' u => m' = m ∧ ∃ z ns' ml' La', u = .int .i64 z ∧ i64 z ∧ ns <+: ns' ∧ OkA ns' ∧ Ar ab ns' La' ∧ L' = (kb, mapW ml') :: La' ∧ ∀ y ∈ ml', isT y
def TurC (ab kb : Nat) (m : Mem) (k : Nat) : Prop := ∀ (ns : List Nd) (ml : List (Value × Value)) (La : Own) (i0 : Int), 0 ≤ i0 → i0 < k → i0 < ns.length → Ar ab ns La → OkA ns → (∀ y ∈ ml, isT y) →
  Ev.Fn Tryz.prog 42 [.agg (toArr [.pointer (some ⟨ab, 0, none⟩), .map (some kb)]), .int .i64 i0] m ((kb, mapW ml) :: La) (TurQ ab kb m ns)
abbrev tuO (ab kb : Nat) : Obj := .cells (toArr [.pointer (some ⟨ab, 0, none⟩), .map (some kb)]) 85 (0, 0)
set_option maxHeartbeats 4000000 in
theorem turn_fn (ab kb : Nat) (m : Mem) : ∀ k, TurC ab kb m k := by
  intro k
  induction k with
  | zero => intro ns ml La i0 h h'; omega
  | succ k ih =>
  intro ns ml La z0 hz0 hk hin hA hO hml
  obtain ⟨i0, rfl⟩ : ∃ i : Nat, z0 = i := ⟨z0.toNat, by omega⟩
  replace hin : i0 < ns.length := by omega
  have hlen := hO.len
  have hi64 : i64 (i0 : Int) := by unfold i64; omega
  have hks := isT_keys hml
  have hx2 := List.getElem?_eq_getElem hin
  have hnd : nodeN ns (i0 : Int) = (ns[i0], true) := by
    unfold nodeN; rw [if_pos ⟨by omega, by omega⟩]; simp [List.getD, hx2]
  have hR := right_lt (hO.right i0 _ hx2)
  have hIn := hO.inn _ (List.getElem_mem hin)
  have hA' := hA
  obtain ⟨A, c, mb, L1, rfl, ho⟩ := hA
  obtain ⟨g, cur, rfl, rfl, hr, hle⟩ := ho.rowAt (nds_rows ns) (by omega) (i := i0) (r := ndC ns[i0]) (by rw [List.getElem?_map, hx2]; rfl)
  generalize hx : ns[i0] = x at hr hle hR hIn hnd
  refine Fn.enter (N := 76) hX Tryz.func42 rfl rfl (by show _ ≤ _; simp) (fun w0 hL => ?_)
  conv => whnf
  generalize keys ((kb, mapW ml) :: (ab, arO (.slice (some ⟨g, 0, none⟩) ns.length c) mb) :: (mb, mapW (ndW ns 0)) :: [(g, .cells (toArr cur) 80 (0, 0))]) = S0 at hL ⊢
  refine NewReq.mk hL ?_
  clear hL
  intro b2 w hL
  conv => whnf
  conv => whnf
  repeat ((first | refine zT ?_ | refine zF ?_ | refine zL hX hL ?_ | refine zB hX hL ?_ | (refine zS hX hL ?_; clear hL; intro w hL) | refine zI ?_ | refine zG hX ?_ | refine zO ?_); conv => whnf)
  refine RunReq.lookW hX rfl rfl key_int (z := .int .i64 0) (by kernel_rfl) hL (.t .h) (isK_int _ hi64) hks (fun hno => ?_) (fun v hv => ?_)
  rotate_left
  · obtain ⟨k', v', e, -, hv64⟩ := hml _ hv
    injection e with e1 e2
    subst e2
    conv => whnf
    repeat ((first | refine zT ?_ | refine zF ?_ | refine zL hX hL ?_ | refine zB hX hL ?_ | (refine zS hX hL ?_; clear hL; intro w hL) | refine zI ?_ | refine zG hX ?_ | refine zO ?_); conv => whnf)
    exact RetReq.mk hL.drop ⟨rfl, v', ns, ml, _, rfl, hv64, List.prefix_refl _, hO, hA', rfl, hml⟩
  conv => whnf
  repeat ((first | refine Idx2Req.mk i0 _ rfl hin rfl ?_ | refine zT ?_ | refine zF ?_ | refine zL hX hL ?_ | refine zB hX hL ?_ | (refine zS hX hL ?_; clear hL; intro w hL) | refine zI ?_ | refine zG hX ?_ | refine zO ?_); conv => whnf)
  refine LdReq.ownRow hX rfl rfl hL (.t (.t (.t (.t .h)))) (r := ndC x) (by rw [scale_eq, Nat.zero_add]; exact hr) (by rw [scale_eq, Nat.zero_add]; exact hle) ?_
  conv => whnf
  repeat ((first | refine zT ?_ | refine zF ?_ | refine zL hX hL ?_ | refine zB hX hL ?_ | (refine zS hX hL ?_; clear hL; intro w hL) | refine zI ?_ | refine zG hX ?_ | refine zO ?_); conv => whnf)
  refine NewReq.mk hL ?_
  clear hL
  intro bn w hL
  conv => whnf
  conv => whnf
  repeat ((first | refine zT ?_ | refine zF ?_ | refine zL hX hL ?_ | refine zB hX hL ?_ | (refine zS hX hL ?_; clear hL; intro w hL) | refine zI ?_ | refine zO ?_); conv => whnf)
  replace hL : Ev.Loc m S0 w0 m ((bn, .cells (toArr (ndC x)) 80 (0, 0)) :: (b2, tuO ab kb) :: (kb, mapW ml) :: (ab, arO (.slice (some ⟨g, 0, none⟩) ns.length c) mb) :: (mb, mapW (ndW ns 0)) :: [(g, Obj.cells (toArr cur) 80 (0, 0))]) w := hL
  generalize hLa : ((ab, arO (.slice (some ⟨g, 0, none⟩) ns.length c) mb) :: (mb, mapW (ndW ns 0)) :: [(g, Obj.cells (toArr cur) 80 (0, 0))]) = La at hA' hL
  clear hLa hr hle ho hx hno
  obtain ⟨hR2, hR1, hR0, hk0, hk8⟩ := hR
  refine SeqReq.cut hX (fun _ : Unit => []) [1, 2, 7] (fun _ w => ∃ ns' ml' La' x', (ns <+: ns' ∧ OkA ns' ∧ Ar ab ns' La' ∧ (∀ y ∈ ml', isT y) ∧ InN x') ∧ Ev.Loc m S0 w0 m ((bn, .cells (toArr (ndC x')) 80 (0, 0)) :: (b2, tuO ab kb) :: (kb, mapW ml') :: La') w) ?_ ?_
  · by_cases h3 : x.k = 3
    · obtain ⟨⟨ha0, ha1⟩, hb0, hb1⟩ := hR2 (.inl h3)
      conv => whnf
      repeat ((first | refine BrReq.yes h3 ?_ | refine zT ?_ | refine zF ?_ | refine zL hX hL ?_ | refine zB hX hL ?_ | (refine zS hX hL ?_; clear hL; intro w hL) | refine zI ?_ | refine zG hX ?_ | refine zO ?_); conv => whnf)
      refine DrawReq.plan hX (.fst 0 (.fst 1 (.fst 4 (.fst 5 (.alt 2 (.alt 3 (.alt 6 (.fst 8 (.alt 7 (.alt 9 (.fst 10 (.alt 11 (.done) (.stop))) (.stop)) (.stop))) (.stop)) (.alt 6 (.alt 3 (.fst 8 (.alt 7 (.alt 9 (.fst 10 (.alt 11 (.done) (.stop))) (.stop)) (.stop))) (.stop)) (.stop))) (.alt 6 (.alt 2 (.alt 3 (.fst 8 (.alt 7 (.alt 9 (.fst 10 (.alt 11 (.done) (.stop))) (.stop)) (.stop))) (.stop)) (.stop)) (.stop))))))) [(b2, tuO ab kb)] (by kernel_rfl) (by kernel_rfl) hL (fun h => h.one 1 rfl) ?_
      clear hL
      intro w hL
      conv => whnf
      repeat ((first | refine SReq.mk (hL.one 1 rfl) ?_ | refine zQ hX ?_ | refine zR hX ?_ | refine zA ?_ | refine zT ?_ | refine zF ?_ | refine zL hX hL ?_ | refine zB hX hL ?_ | (refine zS hX hL ?_; clear hL; intro w hL) | refine zI ?_ | refine zG hX ?_ | refine zO ?_); conv => whnf)
      have hp0 := (List.prefix_refl ns).length_le
      refine AltQ.of ⟨?_, ?_⟩
      · conv => whnf
        repeat ((first | refine SReq.mk (hL.one 1 rfl) ?_ | refine zQ hX ?_ | refine zR hX ?_ | refine zA ?_ | refine zT ?_ | refine zF ?_ | refine zL hX hL ?_ | refine zB hX hL ?_ | (refine zS hX hL ?_; clear hL; intro w hL) | refine zI ?_ | refine zG hX ?_ | refine zO ?_); conv => whnf)
        refine AltQ.of ⟨?_, ?_⟩
        · conv => whnf
          repeat ((first | refine SReq.mk (hL.one 1 rfl) ?_ | refine zQ hX ?_ | refine zR hX ?_ | refine zA ?_ | refine zT ?_ | refine zF ?_ | refine zL hX hL ?_ | refine zB hX hL ?_ | (refine zS hX hL ?_; clear hL; intro w hL) | refine zI ?_ | refine zG hX ?_ | refine zO ?_); conv => whnf)
          refine CallReq.mk (L1 := (kb, mapW ml) :: La) (L2 := [_, _]) (ih ns ml La x.b (by omega) (by omega) (by have := hp0; omega) hA' hO hml) (Loc.back (L1 := [_, _]) hL) ?_
          clear hL
          rintro u mx Lx w hL - ⟨hmx, z1, ns1, ml1, La1, rfl, hz1, hp1, hO1, hA1, hLx, hml1⟩
          rw [hmx, hLx] at hL
          clear hmx hLx mx Lx
          have hL := Loc.back (L1 := (kb, mapW ml1) :: La1) (L2 := [_, _]) hL
          refine SReq.mk (hL.one 1 rfl) ?_
          conv => whnf
          repeat ((first | refine SReq.mk (hL.one 1 rfl) ?_ | refine zQ hX ?_ | refine zR hX ?_ | refine zA ?_ | refine zT ?_ | refine zF ?_ | refine zL hX hL ?_ | refine zB hX hL ?_ | (refine zS hX hL ?_; clear hL; intro w hL) | refine zI ?_ | refine zG hX ?_ | refine zO ?_); conv => whnf)
          refine CallReq.mk (L1 := (kb, mapW ml1) :: La1) (L2 := [_, _]) (ih ns1 ml1 La1 x.a (by omega) (by omega) (by have := hp1.length_le; omega) hA1 hO1 hml1) (Loc.back (L1 := [_, _]) hL) ?_
          clear hL
          rintro u mx Lx w hL - ⟨hmx, z2, ns2, ml2, La2, rfl, hz2, hp2, hO2, hA2, hLx, hml2⟩
          rw [hmx, hLx] at hL
          clear hmx hLx mx Lx
          have hL := Loc.back (L1 := (kb, mapW ml2) :: La2) (L2 := [_, _]) hL
          refine SReq.mk (hL.one 1 rfl) ?_
          conv => whnf
          repeat ((first | refine SReq.mk (hL.one 1 rfl) ?_ | refine zQ hX ?_ | refine zR hX ?_ | refine zA ?_ | refine zT ?_ | refine zF ?_ | refine zL hX hL ?_ | refine zB hX hL ?_ | (refine zS hX hL ?_; clear hL; intro w hL) | refine zI ?_ | refine zG hX ?_ | refine zO ?_); conv => whnf)
          refine ⟨(), ⟨ns2, ml2, La2, { x with a := z1, b := z2 }, ⟨hp1.trans hp2, hO2, hA2, hml2, ⟨hIn.k, hIn.s0, hIn.s1, hIn.s2, hIn.s3, hz1, hz2⟩⟩, hL⟩, ?_, ?_⟩
          · repeat (first | exact trivial | (refine And.intro (by (conv => lhs; whnf) <;> (conv => rhs; whnf) <;> (first | rfl)) ?_))
          · repeat (first | exact trivial | (refine And.intro (by (conv => lhs; whnf) <;> (conv => rhs; whnf) <;> (first | rfl)) ?_))
        · conv => whnf
          repeat ((first | refine SReq.mk (hL.one 1 rfl) ?_ | refine zQ hX ?_ | refine zR hX ?_ | refine zA ?_ | refine zT ?_ | refine zF ?_ | refine zL hX hL ?_ | refine zB hX hL ?_ | (refine zS hX hL ?_; clear hL; intro w hL) | refine zI ?_ | refine zG hX ?_ | refine zO ?_); conv => whnf)
          refine CallReq.mk (L1 := (kb, mapW ml) :: La) (L2 := [_, _]) (ih ns ml La x.b (by omega) (by omega) (by have := hp0; omega) hA' hO hml) (Loc.back (L1 := [_, _]) hL) ?_
          clear hL
          rintro u mx Lx w hL - ⟨hmx, z1, ns1, ml1, La1, rfl, hz1, hp1, hO1, hA1, hLx, hml1⟩
          rw [hmx, hLx] at hL
          clear hmx hLx mx Lx
          have hL := Loc.back (L1 := (kb, mapW ml1) :: La1) (L2 := [_, _]) hL
          refine SReq.mk (hL.one 1 rfl) ?_
          conv => whnf
          repeat ((first | refine SReq.mk (hL.one 1 rfl) ?_ | refine zQ hX ?_ | refine zR hX ?_ | refine zA ?_ | refine zT ?_ | refine zF ?_ | refine zL hX hL ?_ | refine zB hX hL ?_ | (refine zS hX hL ?_; clear hL; intro w hL) | refine zI ?_ | refine zG hX ?_ | refine zO ?_); conv => whnf)
          refine CallReq.mk (L1 := (kb, mapW ml1) :: La1) (L2 := [_, _]) (ih ns1 ml1 La1 x.a (by omega) (by omega) (by have := hp1.length_le; omega) hA1 hO1 hml1) (Loc.back (L1 := [_, _]) hL) ?_
          clear hL
          rintro u mx Lx w hL - ⟨hmx, z2, ns2, ml2, La2, rfl, hz2, hp2, hO2, hA2, hLx, hml2⟩
          rw [hmx, hLx] at hL
          clear hmx hLx mx Lx
          have hL := Loc.back (L1 := (kb, mapW ml2) :: La2) (L2 := [_, _]) hL
          refine SReq.mk (hL.one 1 rfl) ?_
          conv => whnf
          repeat ((first | refine SReq.mk (hL.one 1 rfl) ?_ | refine zQ hX ?_ | refine zR hX ?_ | refine zA ?_ | refine zT ?_ | refine zF ?_ | refine zL hX hL ?_ | refine zB hX hL ?_ | (refine zS hX hL ?_; clear hL; intro w hL) | refine zI ?_ | refine zG hX ?_ | refine zO ?_); conv => whnf)
          refine ⟨(), ⟨ns2, ml2, La2, { x with a := z1, b := z2 }, ⟨hp1.trans hp2, hO2, hA2, hml2, ⟨hIn.k, hIn.s0, hIn.s1, hIn.s2, hIn.s3, hz1, hz2⟩⟩, hL⟩, ?_, ?_⟩
          · repeat (first | exact trivial | (refine And.intro (by (conv => lhs; whnf) <;> (conv => rhs; whnf) <;> (first | rfl)) ?_))
          · repeat (first | exact trivial | (refine And.intro (by (conv => lhs; whnf) <;> (conv => rhs; whnf) <;> (first | rfl)) ?_))
      · conv => whnf
        repeat ((first | refine SReq.mk (hL.one 1 rfl) ?_ | refine zQ hX ?_ | refine zR hX ?_ | refine zA ?_ | refine zT ?_ | refine zF ?_ | refine zL hX hL ?_ | refine zB hX hL ?_ | (refine zS hX hL ?_; clear hL; intro w hL) | refine zI ?_ | refine zG hX ?_ | refine zO ?_); conv => whnf)
        refine CallReq.mk (L1 := (kb, mapW ml) :: La) (L2 := [_, _]) (ih ns ml La x.b (by omega) (by omega) (by have := hp0; omega) hA' hO hml) (Loc.back (L1 := [_, _]) hL) ?_
        clear hL
        rintro u mx Lx w hL - ⟨hmx, z1, ns1, ml1, La1, rfl, hz1, hp1, hO1, hA1, hLx, hml1⟩
        rw [hmx, hLx] at hL
        clear hmx hLx mx Lx
        have hL := Loc.back (L1 := (kb, mapW ml1) :: La1) (L2 := [_, _]) hL
        refine SReq.mk (hL.one 1 rfl) ?_
        conv => whnf
        repeat ((first | refine SReq.mk (hL.one 1 rfl) ?_ | refine zQ hX ?_ | refine zR hX ?_ | refine zA ?_ | refine zT ?_ | refine zF ?_ | refine zL hX hL ?_ | refine zB hX hL ?_ | (refine zS hX hL ?_; clear hL; intro w hL) | refine zI ?_ | refine zG hX ?_ | refine zO ?_); conv => whnf)
        refine CallReq.mk (L1 := (kb, mapW ml1) :: La1) (L2 := [_, _]) (ih ns1 ml1 La1 x.a (by omega) (by omega) (by have := hp1.length_le; omega) hA1 hO1 hml1) (Loc.back (L1 := [_, _]) hL) ?_
        clear hL
        rintro u mx Lx w hL - ⟨hmx, z2, ns2, ml2, La2, rfl, hz2, hp2, hO2, hA2, hLx, hml2⟩
        rw [hmx, hLx] at hL
        clear hmx hLx mx Lx
        have hL := Loc.back (L1 := (kb, mapW ml2) :: La2) (L2 := [_, _]) hL
        refine SReq.mk (hL.one 1 rfl) ?_
        conv => whnf
        repeat ((first | refine SReq.mk (hL.one 1 rfl) ?_ | refine zQ hX ?_ | refine zR hX ?_ | refine zA ?_ | refine zT ?_ | refine zF ?_ | refine zL hX hL ?_ | refine zB hX hL ?_ | (refine zS hX hL ?_; clear hL; intro w hL) | refine zI ?_ | refine zG hX ?_ | refine zO ?_); conv => whnf)
        refine ⟨(), ⟨ns2, ml2, La2, { x with a := z1, b := z2 }, ⟨hp1.trans hp2, hO2, hA2, hml2, ⟨hIn.k, hIn.s0, hIn.s1, hIn.s2, hIn.s3, hz1, hz2⟩⟩, hL⟩, ?_, ?_⟩
        · repeat (first | exact trivial | (refine And.intro (by (conv => lhs; whnf) <;> (conv => rhs; whnf) <;> (first | rfl)) ?_))
        · repeat (first | exact trivial | (refine And.intro (by (conv => lhs; whnf) <;> (conv => rhs; whnf) <;> (first | rfl)) ?_))
    · have hjo : ∀ q : Nd, q = x → True := fun _ _ => trivial
      by_cases h4 : x.k = 4
      · obtain ⟨⟨ha0, ha1⟩, hb0, hb1⟩ := hR2 (.inr (.inl h4))
        conv => whnf
        repeat ((first | refine BrReq.no h3 ?_ | refine BrReq.yes h4 ?_ | refine zT ?_ | refine zF ?_ | refine zL hX hL ?_ | refine zB hX hL ?_ | (refine zS hX hL ?_; clear hL; intro w hL) | refine zI ?_ | refine zG hX ?_ | refine zO ?_); conv => whnf)
        refine DrawReq.plan hX (.fst 0 (.fst 1 (.fst 4 (.fst 5 (.alt 2 (.alt 3 (.alt 6 (.fst 8 (.alt 7 (.alt 9 (.fst 10 (.alt 11 (.done) (.stop))) (.stop)) (.stop))) (.stop)) (.alt 6 (.alt 3 (.fst 8 (.alt 7 (.alt 9 (.fst 10 (.alt 11 (.done) (.stop))) (.stop)) (.stop))) (.stop)) (.stop))) (.alt 6 (.alt 2 (.alt 3 (.fst 8 (.alt 7 (.alt 9 (.fst 10 (.alt 11 (.done) (.stop))) (.stop)) (.stop))) (.stop)) (.stop)) (.stop))))))) [(b2, tuO ab kb)] (by kernel_rfl) (by kernel_rfl) hL (fun h => h.one 1 rfl) ?_
        clear hL
        intro w hL
        conv => whnf
        repeat ((first | refine SReq.mk (hL.one 1 rfl) ?_ | refine zQ hX ?_ | refine zR hX ?_ | refine zA ?_ | refine zT ?_ | refine zF ?_ | refine zL hX hL ?_ | refine zB hX hL ?_ | (refine zS hX hL ?_; clear hL; intro w hL) | refine zI ?_ | refine zG hX ?_ | refine zO ?_); conv => whnf)
        have hp0 := (List.prefix_refl ns).length_le
        refine AltQ.of ⟨?_, ?_⟩
        · conv => whnf
          repeat ((first | refine SReq.mk (hL.one 1 rfl) ?_ | refine zQ hX ?_ | refine zR hX ?_ | refine zA ?_ | refine zT ?_ | refine zF ?_ | refine zL hX hL ?_ | refine zB hX hL ?_ | (refine zS hX hL ?_; clear hL; intro w hL) | refine zI ?_ | refine zG hX ?_ | refine zO ?_); conv => whnf)
          refine AltQ.of ⟨?_, ?_⟩
          · conv => whnf
            repeat ((first | refine SReq.mk (hL.one 1 rfl) ?_ | refine zQ hX ?_ | refine zR hX ?_ | refine zA ?_ | refine zT ?_ | refine zF ?_ | refine zL hX hL ?_ | refine zB hX hL ?_ | (refine zS hX hL ?_; clear hL; intro w hL) | refine zI ?_ | refine zG hX ?_ | refine zO ?_); conv => whnf)
            refine CallReq.mk (L1 := (kb, mapW ml) :: La) (L2 := [_, _]) (ih ns ml La x.a (by omega) (by omega) (by have := hp0; omega) hA' hO hml) (Loc.back (L1 := [_, _]) hL) ?_
            clear hL
            rintro u mx Lx w hL - ⟨hmx, z1, ns1, ml1, La1, rfl, hz1, hp1, hO1, hA1, hLx, hml1⟩
            rw [hmx, hLx] at hL
            clear hmx hLx mx Lx
            have hL := Loc.back (L1 := (kb, mapW ml1) :: La1) (L2 := [_, _]) hL
            refine SReq.mk (hL.one 1 rfl) ?_
            conv => whnf
            repeat ((first | refine SReq.mk (hL.one 1 rfl) ?_ | refine zQ hX ?_ | refine zR hX ?_ | refine zA ?_ | refine zT ?_ | refine zF ?_ | refine zL hX hL ?_ | refine zB hX hL ?_ | (refine zS hX hL ?_; clear hL; intro w hL) | refine zI ?_ | refine zG hX ?_ | refine zO ?_); conv => whnf)
            refine CallReq.mk (L1 := (kb, mapW ml1) :: La1) (L2 := [_, _]) (ih ns1 ml1 La1 x.b (by omega) (by omega) (by have := hp1.length_le; omega) hA1 hO1 hml1) (Loc.back (L1 := [_, _]) hL) ?_
            clear hL
            rintro u mx Lx w hL - ⟨hmx, z2, ns2, ml2, La2, rfl, hz2, hp2, hO2, hA2, hLx, hml2⟩
            rw [hmx, hLx] at hL
            clear hmx hLx mx Lx
            have hL := Loc.back (L1 := (kb, mapW ml2) :: La2) (L2 := [_, _]) hL
            refine SReq.mk (hL.one 1 rfl) ?_
            conv => whnf
            repeat ((first | refine SReq.mk (hL.one 1 rfl) ?_ | refine zQ hX ?_ | refine zR hX ?_ | refine zA ?_ | refine zT ?_ | refine zF ?_ | refine zL hX hL ?_ | refine zB hX hL ?_ | (refine zS hX hL ?_; clear hL; intro w hL) | refine zI ?_ | refine zG hX ?_ | refine zO ?_); conv => whnf)
            refine ⟨(), ⟨ns2, ml2, La2, { x with a := z1, b := z2 }, ⟨hp1.trans hp2, hO2, hA2, hml2, ⟨hIn.k, hIn.s0, hIn.s1, hIn.s2, hIn.s3, hz1, hz2⟩⟩, hL⟩, ?_, ?_⟩
            · repeat (first | exact trivial | (refine And.intro (by (conv => lhs; whnf) <;> (conv => rhs; whnf) <;> (first | rfl)) ?_))
            · repeat (first | exact trivial | (refine And.intro (by (conv => lhs; whnf) <;> (conv => rhs; whnf) <;> (first | rfl)) ?_))
          · conv => whnf
            repeat ((first | refine SReq.mk (hL.one 1 rfl) ?_ | refine zQ hX ?_ | refine zR hX ?_ | refine zA ?_ | refine zT ?_ | refine zF ?_ | refine zL hX hL ?_ | refine zB hX hL ?_ | (refine zS hX hL ?_; clear hL; intro w hL) | refine zI ?_ | refine zG hX ?_ | refine zO ?_); conv => whnf)
            refine CallReq.mk (L1 := (kb, mapW ml) :: La) (L2 := [_, _]) (ih ns ml La x.a (by omega) (by omega) (by have := hp0; omega) hA' hO hml) (Loc.back (L1 := [_, _]) hL) ?_
            clear hL
            rintro u mx Lx w hL - ⟨hmx, z1, ns1, ml1, La1, rfl, hz1, hp1, hO1, hA1, hLx, hml1⟩
            rw [hmx, hLx] at hL
            clear hmx hLx mx Lx
            have hL := Loc.back (L1 := (kb, mapW ml1) :: La1) (L2 := [_, _]) hL
            refine SReq.mk (hL.one 1 rfl) ?_
            conv => whnf
            repeat ((first | refine SReq.mk (hL.one 1 rfl) ?_ | refine zQ hX ?_ | refine zR hX ?_ | refine zA ?_ | refine zT ?_ | refine zF ?_ | refine zL hX hL ?_ | refine zB hX hL ?_ | (refine zS hX hL ?_; clear hL; intro w hL) | refine zI ?_ | refine zG hX ?_ | refine zO ?_); conv => whnf)
            refine CallReq.mk (L1 := (kb, mapW ml1) :: La1) (L2 := [_, _]) (ih ns1 ml1 La1 x.b (by omega) (by omega) (by have := hp1.length_le; omega) hA1 hO1 hml1) (Loc.back (L1 := [_, _]) hL) ?_
            clear hL
            rintro u mx Lx w hL - ⟨hmx, z2, ns2, ml2, La2, rfl, hz2, hp2, hO2, hA2, hLx, hml2⟩
            rw [hmx, hLx] at hL
            clear hmx hLx mx Lx
            have hL := Loc.back (L1 := (kb, mapW ml2) :: La2) (L2 := [_, _]) hL
            refine SReq.mk (hL.one 1 rfl) ?_
            conv => whnf
            repeat ((first | refine SReq.mk (hL.one 1 rfl) ?_ | refine zQ hX ?_ | refine zR hX ?_ | refine zA ?_ | refine zT ?_ | refine zF ?_ | refine zL hX hL ?_ | refine zB hX hL ?_ | (refine zS hX hL ?_; clear hL; intro w hL) | refine zI ?_ | refine zG hX ?_ | refine zO ?_); conv => whnf)
            refine ⟨(), ⟨ns2, ml2, La2, { x with a := z1, b := z2 }, ⟨hp1.trans hp2, hO2, hA2, hml2, ⟨hIn.k, hIn.s0, hIn.s1, hIn.s2, hIn.s3, hz1, hz2⟩⟩, hL⟩, ?_, ?_⟩
            · repeat (first | exact trivial | (refine And.intro (by (conv => lhs; whnf) <;> (conv => rhs; whnf) <;> (first | rfl)) ?_))
            · repeat (first | exact trivial | (refine And.intro (by (conv => lhs; whnf) <;> (conv => rhs; whnf) <;> (first | rfl)) ?_))
        · conv => whnf
          repeat ((first | refine SReq.mk (hL.one 1 rfl) ?_ | refine zQ hX ?_ | refine zR hX ?_ | refine zA ?_ | refine zT ?_ | refine zF ?_ | refine zL hX hL ?_ | refine zB hX hL ?_ | (refine zS hX hL ?_; clear hL; intro w hL) | refine zI ?_ | refine zG hX ?_ | refine zO ?_); conv => whnf)
          refine CallReq.mk (L1 := (kb, mapW ml) :: La) (L2 := [_, _]) (ih ns ml La x.a (by omega) (by omega) (by have := hp0; omega) hA' hO hml) (Loc.back (L1 := [_, _]) hL) ?_
          clear hL
          rintro u mx Lx w hL - ⟨hmx, z1, ns1, ml1, La1, rfl, hz1, hp1, hO1, hA1, hLx, hml1⟩
          rw [hmx, hLx] at hL
          clear hmx hLx mx Lx
          have hL := Loc.back (L1 := (kb, mapW ml1) :: La1) (L2 := [_, _]) hL
          refine SReq.mk (hL.one 1 rfl) ?_
          conv => whnf
          repeat ((first | refine SReq.mk (hL.one 1 rfl) ?_ | refine zQ hX ?_ | refine zR hX ?_ | refine zA ?_ | refine zT ?_ | refine zF ?_ | refine zL hX hL ?_ | refine zB hX hL ?_ | (refine zS hX hL ?_; clear hL; intro w hL) | refine zI ?_ | refine zG hX ?_ | refine zO ?_); conv => whnf)
          refine CallReq.mk (L1 := (kb, mapW ml1) :: La1) (L2 := [_, _]) (ih ns1 ml1 La1 x.b (by omega) (by omega) (by have := hp1.length_le; omega) hA1 hO1 hml1) (Loc.back (L1 := [_, _]) hL) ?_
          clear hL
          rintro u mx Lx w hL - ⟨hmx, z2, ns2, ml2, La2, rfl, hz2, hp2, hO2, hA2, hLx, hml2⟩
          rw [hmx, hLx] at hL
          clear hmx hLx mx Lx
          have hL := Loc.back (L1 := (kb, mapW ml2) :: La2) (L2 := [_, _]) hL
          refine SReq.mk (hL.one 1 rfl) ?_
          conv => whnf
          repeat ((first | refine SReq.mk (hL.one 1 rfl) ?_ | refine zQ hX ?_ | refine zR hX ?_ | refine zA ?_ | refine zT ?_ | refine zF ?_ | refine zL hX hL ?_ | refine zB hX hL ?_ | (refine zS hX hL ?_; clear hL; intro w hL) | refine zI ?_ | refine zG hX ?_ | refine zO ?_); conv => whnf)
          refine ⟨(), ⟨ns2, ml2, La2, { x with a := z1, b := z2 }, ⟨hp1.trans hp2, hO2, hA2, hml2, ⟨hIn.k, hIn.s0, hIn.s1, hIn.s2, hIn.s3, hz1, hz2⟩⟩, hL⟩, ?_, ?_⟩
          · repeat (first | exact trivial | (refine And.intro (by (conv => lhs; whnf) <;> (conv => rhs; whnf) <;> (first | rfl)) ?_))
          · repeat (first | exact trivial | (refine And.intro (by (conv => lhs; whnf) <;> (conv => rhs; whnf) <;> (first | rfl)) ?_))
      by_cases h5 : x.k = 5
      · obtain ⟨⟨ha0, ha1⟩, hb0, hb1⟩ := hR2 (.inr (.inr h5))
        conv => whnf
        repeat ((first | refine BrReq.no h3 ?_ | refine BrReq.no h4 ?_ | refine BrReq.yes h5 ?_ | refine zT ?_ | refine zF ?_ | refine zL hX hL ?_ | refine zB hX hL ?_ | (refine zS hX hL ?_; clear hL; intro w hL) | refine zI ?_ | refine zG hX ?_ | refine zO ?_); conv => whnf)
        refine DrawReq.plan hX (.fst 0 (.fst 1 (.fst 4 (.fst 5 (.alt 2 (.alt 3 (.alt 6 (.fst 8 (.alt 7 (.alt 9 (.fst 10 (.alt 11 (.done) (.stop))) (.stop)) (.stop))) (.stop)) (.alt 6 (.alt 3 (.fst 8 (.alt 7 (.alt 9 (.fst 10 (.alt 11 (.done) (.stop))) (.stop)) (.stop))) (.stop)) (.stop))) (.alt 6 (.alt 2 (.alt 3 (.fst 8 (.alt 7 (.alt 9 (.fst 10 (.alt 11 (.done) (.stop))) (.stop)) (.stop))) (.stop)) (.stop)) (.stop))))))) [(b2, tuO ab kb)] (by kernel_rfl) (by kernel_rfl) hL (fun h => h.one 1 rfl) ?_
        clear hL
        intro w hL
        conv => whnf
        repeat ((first | refine SReq.mk (hL.one 1 rfl) ?_ | refine zQ hX ?_ | refine zR hX ?_ | refine zA ?_ | refine zT ?_ | refine zF ?_ | refine zL hX hL ?_ | refine zB hX hL ?_ | (refine zS hX hL ?_; clear hL; intro w hL) | refine zI ?_ | refine zG hX ?_ | refine zO ?_); conv => whnf)
        have hp0 := (List.prefix_refl ns).length_le
        refine AltQ.of ⟨?_, ?_⟩
        · conv => whnf
          repeat ((first | refine SReq.mk (hL.one 1 rfl) ?_ | refine zQ hX ?_ | refine zR hX ?_ | refine zA ?_ | refine zT ?_ | refine zF ?_ | refine zL hX hL ?_ | refine zB hX hL ?_ | (refine zS hX hL ?_; clear hL; intro w hL) | refine zI ?_ | refine zG hX ?_ | refine zO ?_); conv => whnf)
          refine AltQ.of ⟨?_, ?_⟩
          · conv => whnf
            repeat ((first | refine SReq.mk (hL.one 1 rfl) ?_ | refine zQ hX ?_ | refine zR hX ?_ | refine zA ?_ | refine zT ?_ | refine zF ?_ | refine zL hX hL ?_ | refine zB hX hL ?_ | (refine zS hX hL ?_; clear hL; intro w hL) | refine zI ?_ | refine zG hX ?_ | refine zO ?_); conv => whnf)
            refine CallReq.mk (L1 := (kb, mapW ml) :: La) (L2 := [_, _]) (ih ns ml La x.a (by omega) (by omega) (by have := hp0; omega) hA' hO hml) (Loc.back (L1 := [_, _]) hL) ?_
            clear hL
            rintro u mx Lx w hL - ⟨hmx, z1, ns1, ml1, La1, rfl, hz1, hp1, hO1, hA1, hLx, hml1⟩
            rw [hmx, hLx] at hL
            clear hmx hLx mx Lx
            have hL := Loc.back (L1 := (kb, mapW ml1) :: La1) (L2 := [_, _]) hL
            refine SReq.mk (hL.one 1 rfl) ?_
            conv => whnf
            repeat ((first | refine SReq.mk (hL.one 1 rfl) ?_ | refine zQ hX ?_ | refine zR hX ?_ | refine zA ?_ | refine zT ?_ | refine zF ?_ | refine zL hX hL ?_ | refine zB hX hL ?_ | (refine zS hX hL ?_; clear hL; intro w hL) | refine zI ?_ | refine zG hX ?_ | refine zO ?_); conv => whnf)
            refine CallReq.mk (L1 := (kb, mapW ml1) :: La1) (L2 := [_, _]) (ih ns1 ml1 La1 x.b (by omega) (by omega) (by have := hp1.length_le; omega) hA1 hO1 hml1) (Loc.back (L1 := [_, _]) hL) ?_
            clear hL
            rintro u mx Lx w hL - ⟨hmx, z2, ns2, ml2, La2, rfl, hz2, hp2, hO2, hA2, hLx, hml2⟩
            rw [hmx, hLx] at hL
            clear hmx hLx mx Lx
            have hL := Loc.back (L1 := (kb, mapW ml2) :: La2) (L2 := [_, _]) hL
            refine SReq.mk (hL.one 1 rfl) ?_
            conv => whnf
            repeat ((first | refine SReq.mk (hL.one 1 rfl) ?_ | refine zQ hX ?_ | refine zR hX ?_ | refine zA ?_ | refine zT ?_ | refine zF ?_ | refine zL hX hL ?_ | refine zB hX hL ?_ | (refine zS hX hL ?_; clear hL; intro w hL) | refine zI ?_ | refine zG hX ?_ | refine zO ?_); conv => whnf)
            refine ⟨(), ⟨ns2, ml2, La2, { x with a := z1, b := z2 }, ⟨hp1.trans hp2, hO2, hA2, hml2, ⟨hIn.k, hIn.s0, hIn.s1, hIn.s2, hIn.s3, hz1, hz2⟩⟩, hL⟩, ?_, ?_⟩
            · repeat (first | exact trivial | (refine And.intro (by (conv => lhs; whnf) <;> (conv => rhs; whnf) <;> (first | rfl)) ?_))
            · repeat (first | exact trivial | (refine And.intro (by (conv => lhs; whnf) <;> (conv => rhs; whnf) <;> (first | rfl)) ?_))
          · conv => whnf
            repeat ((first | refine SReq.mk (hL.one 1 rfl) ?_ | refine zQ hX ?_ | refine zR hX ?_ | refine zA ?_ | refine zT ?_ | refine zF ?_ | refine zL hX hL ?_ | refine zB hX hL ?_ | (refine zS hX hL ?_; clear hL; intro w hL) | refine zI ?_ | refine zG hX ?_ | refine zO ?_); conv => whnf)
            refine CallReq.mk (L1 := (kb, mapW ml) :: La) (L2 := [_, _]) (ih ns ml La x.a (by omega) (by omega) (by have := hp0; omega) hA' hO hml) (Loc.back (L1 := [_, _]) hL) ?_
            clear hL
            rintro u mx Lx w hL - ⟨hmx, z1, ns1, ml1, La1, rfl, hz1, hp1, hO1, hA1, hLx, hml1⟩
            rw [hmx, hLx] at hL
            clear hmx hLx mx Lx
            have hL := Loc.back (L1 := (kb, mapW ml1) :: La1) (L2 := [_, _]) hL
            refine SReq.mk (hL.one 1 rfl) ?_
            conv => whnf
            repeat ((first | refine SReq.mk (hL.one 1 rfl) ?_ | refine zQ hX ?_ | refine zR hX ?_ | refine zA ?_ | refine zT ?_ | refine zF ?_ | refine zL hX hL ?_ | refine zB hX hL ?_ | (refine zS hX hL ?_; clear hL; intro w hL) | refine zI ?_ | refine zG hX ?_ | refine zO ?_); conv => whnf)
            refine CallReq.mk (L1 := (kb, mapW ml1) :: La1) (L2 := [_, _]) (ih ns1 ml1 La1 x.b (by omega) (by omega) (by have := hp1.length_le; omega) hA1 hO1 hml1) (Loc.back (L1 := [_, _]) hL) ?_
            clear hL
            rintro u mx Lx w hL - ⟨hmx, z2, ns2, ml2, La2, rfl, hz2, hp2, hO2, hA2, hLx, hml2⟩
            rw [hmx, hLx] at hL
            clear hmx hLx mx Lx
            have hL := Loc.back (L1 := (kb, mapW ml2) :: La2) (L2 := [_, _]) hL
            refine SReq.mk (hL.one 1 rfl) ?_
            conv => whnf
            repeat ((first | refine SReq.mk (hL.one 1 rfl) ?_ | refine zQ hX ?_ | refine zR hX ?_ | refine zA ?_ | refine zT ?_ | refine zF ?_ | refine zL hX hL ?_ | refine zB hX hL ?_ | (refine zS hX hL ?_; clear hL; intro w hL) | refine zI ?_ | refine zG hX ?_ | refine zO ?_); conv => whnf)
            refine ⟨(), ⟨ns2, ml2, La2, { x with a := z1, b := z2 }, ⟨hp1.trans hp2, hO2, hA2, hml2, ⟨hIn.k, hIn.s0, hIn.s1, hIn.s2, hIn.s3, hz1, hz2⟩⟩, hL⟩, ?_, ?_⟩
            · repeat (first | exact trivial | (refine And.intro (by (conv => lhs; whnf) <;> (conv => rhs; whnf) <;> (first | rfl)) ?_))
            · repeat (first | exact trivial | (refine And.intro (by (conv => lhs; whnf) <;> (conv => rhs; whnf) <;> (first | rfl)) ?_))
        · conv => whnf
          repeat ((first | refine SReq.mk (hL.one 1 rfl) ?_ | refine zQ hX ?_ | refine zR hX ?_ | refine zA ?_ | refine zT ?_ | refine zF ?_ | refine zL hX hL ?_ | refine zB hX hL ?_ | (refine zS hX hL ?_; clear hL; intro w hL) | refine zI ?_ | refine zG hX ?_ | refine zO ?_); conv => whnf)
          refine CallReq.mk (L1 := (kb, mapW ml) :: La) (L2 := [_, _]) (ih ns ml La x.a (by omega) (by omega) (by have := hp0; omega) hA' hO hml) (Loc.back (L1 := [_, _]) hL) ?_
          clear hL
          rintro u mx Lx w hL - ⟨hmx, z1, ns1, ml1, La1, rfl, hz1, hp1, hO1, hA1, hLx, hml1⟩
          rw [hmx, hLx] at hL
          clear hmx hLx mx Lx
          have hL := Loc.back (L1 := (kb, mapW ml1) :: La1) (L2 := [_, _]) hL
          refine SReq.mk (hL.one 1 rfl) ?_
          conv => whnf
          repeat ((first | refine SReq.mk (hL.one 1 rfl) ?_ | refine zQ hX ?_ | refine zR hX ?_ | refine zA ?_ | refine zT ?_ | refine zF ?_ | refine zL hX hL ?_ | refine zB hX hL ?_ | (refine zS hX hL ?_; clear hL; intro w hL) | refine zI ?_ | refine zG hX ?_ | refine zO ?_); conv => whnf)
          refine CallReq.mk (L1 := (kb, mapW ml1) :: La1) (L2 := [_, _]) (ih ns1 ml1 La1 x.b (by omega) (by omega) (by have := hp1.length_le; omega) hA1 hO1 hml1) (Loc.back (L1 := [_, _]) hL) ?_
          clear hL
          rintro u mx Lx w hL - ⟨hmx, z2, ns2, ml2, La2, rfl, hz2, hp2, hO2, hA2, hLx, hml2⟩
          rw [hmx, hLx] at hL
          clear hmx hLx mx Lx
          have hL := Loc.back (L1 := (kb, mapW ml2) :: La2) (L2 := [_, _]) hL
          refine SReq.mk (hL.one 1 rfl) ?_
          conv => whnf
          repeat ((first | refine SReq.mk (hL.one 1 rfl) ?_ | refine zQ hX ?_ | refine zR hX ?_ | refine zA ?_ | refine zT ?_ | refine zF ?_ | refine zL hX hL ?_ | refine zB hX hL ?_ | (refine zS hX hL ?_; clear hL; intro w hL) | refine zI ?_ | refine zG hX ?_ | refine zO ?_); conv => whnf)
          refine ⟨(), ⟨ns2, ml2, La2, { x with a := z1, b := z2 }, ⟨hp1.trans hp2, hO2, hA2, hml2, ⟨hIn.k, hIn.s0, hIn.s1, hIn.s2, hIn.s3, hz1, hz2⟩⟩, hL⟩, ?_, ?_⟩
          · repeat (first | exact trivial | (refine And.intro (by (conv => lhs; whnf) <;> (conv => rhs; whnf) <;> (first | rfl)) ?_))
          · repeat (first | exact trivial | (refine And.intro (by (conv => lhs; whnf) <;> (conv => rhs; whnf) <;> (first | rfl)) ?_))
      by_cases h6 : x.k = 6
      · obtain ⟨ha0, ha1⟩ := hR1 (.inl h6)
        conv => whnf
        repeat ((first | refine BrReq.no h3 ?_ | refine BrReq.no h4 ?_ | refine BrReq.no h5 ?_ | refine BrReq.yes h6 ?_ | refine zT ?_ | refine zF ?_ | refine zL hX hL ?_ | refine zB hX hL ?_ | (refine zS hX hL ?_; clear hL; intro w hL) | refine zI ?_ | refine zG hX ?_ | refine zO ?_); conv => whnf)
        refine CallReq.mk (L1 := (kb, mapW ml) :: La) (L2 := [_, _]) (ih ns ml La x.a (by omega) (by omega) (by omega) hA' hO hml) (Loc.back (L1 := [_, _]) hL) ?_
        clear hL
        rintro u mx Lx w hL - ⟨hmx, z1, ns1, ml1, La1, rfl, hz1, hp1, hO1, hA1, hLx, hml1⟩
        rw [hmx, hLx] at hL
        clear hmx hLx mx Lx
        have hL := Loc.back (L1 := (kb, mapW ml1) :: La1) (L2 := [_, _]) hL
        conv => whnf
        repeat ((first | refine zT ?_ | refine zF ?_ | refine zL hX hL ?_ | refine zB hX hL ?_ | (refine zS hX hL ?_; clear hL; intro w hL) | refine zI ?_ | refine zG hX ?_ | refine zO ?_); conv => whnf)
        refine ⟨(), ⟨ns1, ml1, La1, { x with a := z1 }, ⟨hp1, hO1, hA1, hml1, ⟨hIn.k, hIn.s0, hIn.s1, hIn.s2, hIn.s3, hz1, hIn.b⟩⟩, hL⟩, ?_, ?_⟩
        · repeat (first | exact trivial | (refine And.intro (by (conv => lhs; whnf) <;> (conv => rhs; whnf) <;> (first | rfl)) ?_))
        · repeat (first | exact trivial | (refine And.intro (by (conv => lhs; whnf) <;> (conv => rhs; whnf) <;> (first | rfl)) ?_))
      by_cases h7 : x.k = 7
      · obtain ⟨ha0, ha1⟩ := hR1 (.inr h7)
        conv => whnf
        repeat ((first | refine BrReq.no h3 ?_ | refine BrReq.no h4 ?_ | refine BrReq.no h5 ?_ | refine BrReq.no h6 ?_ | refine BrReq.yes h7 ?_ | refine zT ?_ | refine zF ?_ | refine zL hX hL ?_ | refine zB hX hL ?_ | (refine zS hX hL ?_; clear hL; intro w hL) | refine zI ?_ | refine zG hX ?_ | refine zO ?_); conv => whnf)
        refine CallReq.mk (L1 := (kb, mapW ml) :: La) (L2 := [_, _]) (ih ns ml La x.a (by omega) (by omega) (by omega) hA' hO hml) (Loc.back (L1 := [_, _]) hL) ?_
        clear hL
        rintro u mx Lx w hL - ⟨hmx, z1, ns1, ml1, La1, rfl, hz1, hp1, hO1, hA1, hLx, hml1⟩
        rw [hmx, hLx] at hL
        clear hmx hLx mx Lx
        have hL := Loc.back (L1 := (kb, mapW ml1) :: La1) (L2 := [_, _]) hL
        conv => whnf
        repeat ((first | refine zT ?_ | refine zF ?_ | refine zL hX hL ?_ | refine zB hX hL ?_ | (refine zS hX hL ?_; clear hL; intro w hL) | refine zI ?_ | refine zG hX ?_ | refine zO ?_); conv => whnf)
        refine ⟨(), ⟨ns1, ml1, La1, { x with a := z1 }, ⟨hp1, hO1, hA1, hml1, ⟨hIn.k, hIn.s0, hIn.s1, hIn.s2, hIn.s3, hz1, hIn.b⟩⟩, hL⟩, ?_, ?_⟩
        · repeat (first | exact trivial | (refine And.intro (by (conv => lhs; whnf) <;> (conv => rhs; whnf) <;> (first | rfl)) ?_))
        · repeat (first | exact trivial | (refine And.intro (by (conv => lhs; whnf) <;> (conv => rhs; whnf) <;> (first | rfl)) ?_))
      · conv => whnf
        repeat ((first | refine BrReq.no h3 ?_ | refine BrReq.no h4 ?_ | refine BrReq.no h5 ?_ | refine BrReq.no h6 ?_ | refine BrReq.no h7 ?_ | refine zT ?_ | refine zF ?_ | refine zL hX hL ?_ | refine zB hX hL ?_ | (refine zS hX hL ?_; clear hL; intro w hL) | refine zI ?_ | refine zG hX ?_ | refine zO ?_); conv => whnf)
        refine ⟨(), ⟨ns, ml, La, x, ⟨List.prefix_refl ns, hO, hA', hml, hIn⟩, hL⟩, ?_, ?_⟩
        · repeat (first | exact trivial | (refine And.intro (by (conv => lhs; whnf) <;> (conv => rhs; whnf) <;> (first | rfl)) ?_))
        · repeat (first | exact trivial | (refine And.intro (by (conv => lhs; whnf) <;> (conv => rhs; whnf) <;> (first | rfl)) ?_))
  clear hL hml hks
  rintro _ w f ⟨ns1, ml1, La1, x1, ⟨hp1, hO1, hA1, hml1, hI1⟩, hL⟩
  conv => whnf
  repeat ((first | refine zT ?_ | refine zF ?_ | refine zL hX hL ?_ | refine zB hX hL ?_ | (refine zS hX hL ?_; clear hL; intro w hL) | refine zI ?_ | refine zG hX ?_ | refine zO ?_); conv => whnf)
  refine CallReq.mk (L1 := La1) (L2 := [_, _, _]) (Put_fn m ab ns1 La1 hA1 hO1 x1 hI1) (Loc.back (L1 := [_, _, _]) hL) ?_
  clear hL
  rintro u mx La2 w hL - ⟨hmx, rfl, hA2⟩
  rw [hmx] at hL
  clear hmx mx
  have hL := Loc.back (L1 := La2) (L2 := [_, _, _]) hL
  replace hL : Ev.Loc m S0 w0 m ((bn, .cells (toArr (ndC x1)) 80 (0, 0)) :: (b2, tuO ab kb) :: (kb, mapW ml1) :: La2) w := hL
  have hO2 := okA_put hO1 hI1
  have hp2 := tput_pre ns1 x1
  have hle2 := putN_le ns1 x1 hO1.len
  generalize putN ns1 x1 = q at hA2 hO2 hp2 hle2 ⊢
  obtain ⟨ns2, z, e⟩ := q
  simp only at hA2 hO2 hp2 hle2
  have hz64 : i64 (z : Int) := by unfold i64; omega
  have hks1 := isT_keys hml1
  by_cases he : e = 0
  · subst he
    conv => whnf
    repeat ((first | refine zT ?_ | refine zF ?_ | refine zL hX hL ?_ | refine zB hX hL ?_ | (refine zS hX hL ?_; clear hL; intro w hL) | refine zI ?_ | refine zG hX ?_ | refine zO ?_); conv => whnf)
    refine RunUReq.updW hX rfl rfl key_int (k := .int .i64 i0) (v := .int .i64 (z:Int)) 2 hL rfl (isK_int _ hi64) hks1 (fun hno w hL => ?_) (fun q u hq w hL => ?_)
    · replace hL : Ev.Loc m S0 w0 m ((bn, .cells (toArr (ndC x1)) 80 (0, 0)) :: (b2, tuO ab kb) :: (kb, mapW (ml1 ++ [(.int .i64 i0, .int .i64 (z:Int))])) :: La2) w := hL
      conv => whnf
      repeat ((first | refine zT ?_ | refine zF ?_ | refine zL hX hL ?_ | refine zB hX hL ?_ | (refine zS hX hL ?_; clear hL; intro w hL) | refine zI ?_ | refine zG hX ?_ | refine zO ?_); conv => whnf)
      exact RetReq.mk hL.drop.drop ⟨rfl, (z:Int), ns2, _, La2, rfl, hz64, hp1.trans hp2, hO2, hA2, rfl, isT_app hml1 ⟨_, _, rfl, hi64, hz64⟩⟩
    · replace hL : Ev.Loc m S0 w0 m ((bn, .cells (toArr (ndC x1)) 80 (0, 0)) :: (b2, tuO ab kb) :: (kb, mapW (ml1.set q (.int .i64 i0, .int .i64 (z:Int)))) :: La2) w := hL
      conv => whnf
      repeat ((first | refine zT ?_ | refine zF ?_ | refine zL hX hL ?_ | refine zB hX hL ?_ | (refine zS hX hL ?_; clear hL; intro w hL) | refine zI ?_ | refine zG hX ?_ | refine zO ?_); conv => whnf)
      exact RetReq.mk hL.drop.drop ⟨rfl, (z:Int), ns2, _, La2, rfl, hz64, hp1.trans hp2, hO2, hA2, rfl, isT_set hml1 ⟨_, _, rfl, hi64, hz64⟩ q⟩
  · conv => whnf
    repeat ((first | refine BrReq.yes he ?_ | refine zT ?_ | refine zF ?_ | refine zL hX hL ?_ | refine zB hX hL ?_ | (refine zS hX hL ?_; clear hL; intro w hL) | refine zI ?_ | refine zG hX ?_ | refine zO ?_); conv => whnf)
    refine RunUReq.updW hX rfl rfl key_int (k := .int .i64 i0) (v := .int .i64 (-1)) 2 hL rfl (isK_int _ hi64) hks1 (fun hno w hL => ?_) (fun q u hq w hL => ?_)
    · replace hL : Ev.Loc m S0 w0 m ((bn, .cells (toArr (ndC x1)) 80 (0, 0)) :: (b2, tuO ab kb) :: (kb, mapW (ml1 ++ [(.int .i64 i0, .int .i64 (-1))])) :: La2) w := hL
      conv => whnf
      repeat ((first | refine zT ?_ | refine zF ?_ | refine zL hX hL ?_ | refine zB hX hL ?_ | (refine zS hX hL ?_; clear hL; intro w hL) | refine zI ?_ | refine zG hX ?_ | refine zO ?_); conv => whnf)
      exact RetReq.mk hL.drop.drop ⟨rfl, (-1), ns2, _, La2, rfl, (by unfold i64; omega), hp1.trans hp2, hO2, hA2, rfl, isT_app hml1 ⟨_, _, rfl, hi64, (by unfold i64; omega)⟩⟩
    · replace hL : Ev.Loc m S0 w0 m ((bn, .cells (toArr (ndC x1)) 80 (0, 0)) :: (b2, tuO ab kb) :: (kb, mapW (ml1.set q (.int .i64 i0, .int .i64 (-1)))) :: La2) w := hL
      conv => whnf
      repeat ((first | refine zT ?_ | refine zF ?_ | refine zL hX hL ?_ | refine zB hX hL ?_ | (refine zS hX hL ?_; clear hL; intro w hL) | refine zI ?_ | refine zG hX ?_ | refine zO ?_); conv => whnf)
      exact RetReq.mk hL.drop.drop ⟨rfl, (-1), ns2, _, La2, rfl, (by unfold i64; omega), hp1.trans hp2, hO2, hA2, rfl, isT_set hml1 ⟨_, _, rfl, hi64, (by unfold i64; omega)⟩ q⟩
theorem Turn_fn (m : Mem) (ab : Nat) (ns : List Nd) (La : Own) (hA : Ar ab ns La) (hO : OkA ns) (z : Int) (hz : 0 ≤ z ∧ z < ns.length) :
    Ev.Fn Tryz.prog 28 [.pointer (some ⟨ab, 0, none⟩), .int .i64 z] m La fun m' L' u => m' = m ∧ ∃ z2 ns', u = .int .i64 z2 ∧ i64 z2 ∧ ns <+: ns' ∧ OkA ns' ∧ Ar ab ns' L' := by
  have hnode := Node_fn m ab ns La hA z
  have h2 : (nodeN ns z).2 = true := by unfold nodeN; rw [if_pos hz]
  rw [h2] at hnode
  generalize (nodeN ns z).1 = x at hnode
  refine Fn.enter (N := 20) hX Tryz.func28 rfl rfl (by show _ ≤ _; simp) (fun w0 hL => ?_)
  conv => whnf
  generalize keys La = S0 at hL ⊢
  conv => whnf
  repeat ((first | refine zT ?_ | refine zF ?_ | refine zL hX hL ?_ | refine zB hX hL ?_ | (refine zS hX hL ?_; clear hL; intro w hL) | refine zI ?_ | refine zG hX ?_ | refine zO ?_); conv => whnf)
  refine CallReq.lo hnode hL ?_
  clear hL
  intro w hL
  conv => whnf
  repeat ((first | refine zT ?_ | refine zF ?_ | refine zL hX hL ?_ | refine zB hX hL ?_ | (refine zS hX hL ?_; clear hL; intro w hL) | refine zI ?_ | refine zG hX ?_ | refine zO ?_); conv => whnf)
  refine NewReq.mk hL ?_
  clear hL
  intro bn w hL
  conv => whnf
  conv => whnf
  repeat ((first | refine zT ?_ | refine zF ?_ | refine zL hX hL ?_ | refine zB hX hL ?_ | (refine zS hX hL ?_; clear hL; intro w hL) | refine zI ?_ | refine zG hX ?_ | refine zO ?_); conv => whnf)
  refine RunReq.makeMapW hL ?_
  clear hL
  intro kb w hL
  conv => whnf
  repeat ((first | refine zT ?_ | refine zF ?_ | refine zL hX hL ?_ | refine zB hX hL ?_ | (refine zS hX hL ?_; clear hL; intro w hL) | refine zI ?_ | refine zG hX ?_ | refine zO ?_); conv => whnf)
  replace hL : Ev.Loc m S0 w0 m ((kb, mapW []) :: (bn, .cells (toArr (ndC x)) 80 (0, 0)) :: La) w := hL
  replace hL := hL.perm (List.Perm.swap _ _ _)
  replace hL := hL.drop
  refine CallReq.mk (L1 := (kb, mapW []) :: La) (L2 := []) (turn_fn ab kb m (z.toNat + 1) ns [] La z hz.1 (by omega) hz.2 hA hO (fun y hy => by cases hy)) (by rw [List.append_nil]; exact hL) ?_
  clear hL
  rintro u mx Lx w hL - ⟨hmx, z1, ns1, ml1, La1, rfl, hz1, hp1, hO1, hA1, hLx, hml1⟩
  rw [hmx, hLx, List.append_nil] at hL
  conv => whnf
  repeat ((first | refine zT ?_ | refine zF ?_ | refine zL hX hL ?_ | refine zB hX hL ?_ | (refine zS hX hL ?_; clear hL; intro w hL) | refine zI ?_ | refine zG hX ?_ | refine zO ?_); conv => whnf)
  exact RetReq.mk hL.drop ⟨rfl, z1, ns1, rfl, hz1, hp1, hO1, hA1⟩
end Go.Proofs.YtiololnblplloaaGreat.ar
namespace Go.Proofs.YtiololnblplloaaGreat.tree
open Go Go.Ev Go.Proofs
theorem equal_fn (m : Mem) (v v' : Value) (rs rs' : List Re) (f : Re → Re → Bool) (hs : Sl m 9 (RepRe m) v rs) (hs' : Sl m 9 (RepRe m) v' rs')
    (hf : ∀ p ∈ rs, ∀ q cs cs', RepRe m cs p → RepRe m cs' q → FnV Tryz.prog 38 [.agg (toArr cs), .agg (toArr cs')] m (.bool (f p q))) :
    FnV Tryz.prog 25 [v, v', .func (.func 38) #[] #[]] m (.bool (decide (rs.length = rs'.length) && (List.zipWith f rs rs').all id)) := by
  have hs0 := hs
  have hs0' := hs'
  obtain ⟨A, n, c, rfl, hn, hc, hm, -⟩ := hs
  obtain ⟨A', n', c', rfl, hn', hc', hm', -⟩ := hs'
  have he := hs0.elem
  have he' := hs0'.elem
  have hmx : maxLen = 9223372036854775807 := rfl
  refine Fn.enter (N := 32) hX Tryz.func25 rfl rfl (by show _ ≤ _; simp) (fun w0 hL => ?_)
  conv => whnf
  conv => whnf
  repeat ((first | refine zT ?_ | refine zF ?_ | refine zL hX hL ?_ | refine zB hX hL ?_ | (refine zS hX hL ?_; clear hL; intro w hL) | refine zI ?_ | refine zG hX ?_ | refine zO ?_); conv => whnf)
  refine BrReq.dec (fun g6 => ?_) (fun g6 => ?_)
  · conv => whnf
    repeat ((first | refine zT ?_ | refine zF ?_ | refine zL hX hL ?_ | refine zB hX hL ?_ | (refine zS hX hL ?_; clear hL; intro w hL) | refine zI ?_ | refine zG hX ?_ | refine zO ?_); conv => whnf)
    exact RetReq.bool hL (by rw [decide_eq_false (by omega), Bool.false_and])
  conv => whnf
  repeat ((first | refine zT ?_ | refine zF ?_ | refine zL hX hL ?_ | refine zB hX hL ?_ | (refine zS hX hL ?_; clear hL; intro w hL) | refine zI ?_ | refine zG hX ?_ | refine zO ?_); conv => whnf)
  have hg6 : rs.length = rs'.length := by omega
  refine LoopReq.inv hX (fun j : Nat => [(17, .int .i64 j)]) [1, 2, 15, 16]
    (fun j w => (j ≤ n ∧ ∀ (i : Nat) (x y : Re), i < j → rs[i]? = some x → rs'[i]? = some y → f x y = true) ∧ Ev.Loc m [] w0 m [] w) (fun j => n - j) 0
    ⟨⟨by omega, fun i x y h => absurd h (by omega)⟩, hL⟩ ⟨rfl, trivial⟩ ?_
  clear hL
  rintro j w g ⟨⟨hj, hdone⟩, hL⟩
  conv => whnf
  repeat ((first | refine zT ?_ | refine zF ?_ | refine zL hX hL ?_ | refine zB hX hL ?_ | (refine zS hX hL ?_; clear hL; intro w hL) | refine zI ?_ | refine zG hX ?_ | refine zO ?_); conv => whnf)
  refine BrReq.dec (fun hlt => ?_) (fun hlt => ?_)
  · have hlt' : j < rs.length := by omega
    have hlt2 : j < rs'.length := by omega
    obtain ⟨a, cs1, rfl, hl9, hcells, hrep⟩ := he j _ (List.getElem?_eq_getElem hlt')
    obtain ⟨k1, u0, u1, u2, u3, A1, n1, c1, lo1, hi1, neg1, rfl⟩ := hrep.form
    obtain ⟨a', cs2, rfl, hl9', hcells', hrep'⟩ := he' j _ (List.getElem?_eq_getElem hlt2)
    obtain ⟨k2, v0, v1, v2, v3, A2, n2, c2, lo2, hi2, neg2, rfl⟩ := hrep'.form
    conv => whnf
    repeat ((first | refine Idx2Req.mk j a rfl (by omega) rfl ?_ | refine LdReq.agg hX rfl rfl hL hl9 hcells ?_ | refine zT ?_ | refine zF ?_ | refine zL hX hL ?_ | refine zB hX hL ?_ | (refine zS hX hL ?_; clear hL; intro w hL) | refine zI ?_ | refine zG hX ?_ | refine zO ?_); conv => whnf)
    refine NewReq.mk hL ?_
    clear hL
    intro b8 w hL
    conv => whnf
    conv => whnf
    repeat ((first | refine Idx2Req.mk j a' rfl (by omega) rfl ?_ | refine LdReq.agg hX rfl rfl hL hl9' hcells' ?_ | refine zT ?_ | refine zF ?_ | refine zL hX hL ?_ | refine zB hX hL ?_ | (refine zS hX hL ?_; clear hL; intro w hL) | refine zI ?_ | refine zG hX ?_ | refine zO ?_); conv => whnf)
    refine NewReq.mk hL ?_
    clear hL
    intro b9 w hL
    conv => whnf
    conv => whnf
    repeat ((first | refine zT ?_ | refine zF ?_ | refine zL hX hL ?_ | refine zB hX hL ?_ | (refine zS hX hL ?_; clear hL; intro w hL) | refine zI ?_ | refine zG hX ?_ | refine zO ?_); conv => whnf)
    refine CallReq.val (hf _ (List.getElem_mem hlt') _ _ _ hrep hrep') hL ?_
    clear hL
    intro w hL
    conv => whnf
    repeat ((first | refine zT ?_ | refine zF ?_ | refine zL hX hL ?_ | refine zB hX hL ?_ | (refine zS hX hL ?_; clear hL; intro w hL) | refine zI ?_ | refine zG hX ?_ | refine zO ?_); conv => whnf)
    refine BrReq.not ?_
    refine BrReq.bool (fun hb => ?_) (fun hb => ?_)
    · have hd : ∀ (i : Nat) (x y : Re), i < j + 1 → rs[i]? = some x → rs'[i]? = some y → f x y = true := by
        intro i x y hi hx hy
        by_cases e : i = j
        · subst e
          rw [List.getElem?_eq_getElem hlt'] at hx; rw [List.getElem?_eq_getElem hlt2] at hy
          cases hx; cases hy; exact hb
        · exact hdone i x y (by omega) hx hy
      conv => whnf
      repeat ((first | refine zT ?_ | refine zF ?_ | refine zL hX hL ?_ | refine zB hX hL ?_ | (refine zS hX hL ?_; clear hL; intro w hL) | refine zI ?_ | refine zG hX ?_ | refine zO ?_); conv => whnf)
      refine ⟨j + 1, ⟨⟨by omega, hd⟩, hL.drop.drop⟩, by first | omega | (simp only; omega) | (simp only [List.length_cons, List.length_append]; omega), ?_, ?_⟩
      · repeat (first | exact trivial | (refine And.intro (by (conv => lhs; whnf) <;> (conv => rhs; whnf) <;> (first | rfl)) ?_))
      · repeat (first | exact trivial | (refine And.intro (by (conv => lhs; whnf) <;> (conv => rhs; whnf) <;> (first | rfl)) ?_))
    · conv => whnf
      repeat ((first | refine zT ?_ | refine zF ?_ | refine zL hX hL ?_ | refine zB hX hL ?_ | (refine zS hX hL ?_; clear hL; intro w hL) | refine zI ?_ | refine zG hX ?_ | refine zO ?_); conv => whnf)
      refine RetReq.bool hL.drop.drop ?_
      rw [decide_eq_true hg6, Bool.true_and]
      symm
      rw [Bool.eq_false_iff]
      intro hc
      have := (all_zip rs rs' hg6).1 hc j _ _ (List.getElem?_eq_getElem hlt') (List.getElem?_eq_getElem hlt2)
      rw [hb] at this; cases this
  · conv => whnf
    repeat ((first | refine zT ?_ | refine zF ?_ | refine zL hX hL ?_ | refine zB hX hL ?_ | (refine zS hX hL ?_; clear hL; intro w hL) | refine zI ?_ | refine zG hX ?_ | refine zO ?_); conv => whnf)
    refine RetReq.bool hL ?_
    rw [decide_eq_true hg6, Bool.true_and]
    symm
    exact (all_zip rs rs' hg6).2 fun i x y hx hy => hdone i x y (by have := (List.getElem?_eq_some_iff.1 hx).1; omega) hx hy
theorem deep_part {k : Nat} {kd s0 s1 s2 s3 lo hi : Int} {neg : Bool} {rs : List Re} (h : deepR (k + 1) (.mk kd s0 s1 s2 s3 rs lo hi neg) ≤ k + 1) : ∀ p ∈ rs, deepR k p ≤ k := by
  intro p hp
  simp only [deepR, Re.parts] at h
  have key : ∀ (l : List Nat) (a x : Nat), (x ∈ l ∨ x ≤ a) → x ≤ l.foldl max a := by
    intro l
    induction l with
    | nil => intro a x h; simpa using h
    | cons y l ih =>
      intro a x h
      refine ih _ _ ?_
      rcases h with h | h
      · rcases List.mem_cons.1 h with rfl | h
        · right; omega
        · left; exact h
      · right; omega
  have := key (rs.map (deepR k)) 0 (deepR k p) (.inl (List.mem_map.2 ⟨p, hp, rfl⟩))
  omega
theorem same_fn : ∀ (k : Nat) (m : Mem) (r r' : Re) (cs cs' : List Value), RepRe m cs r → RepRe m cs' r' → deepR k r ≤ k →
    FnV Tryz.prog 38 [.agg (toArr cs), .agg (toArr cs')] m (.bool (sameR (k + 1) r r')) := by
  intro k
  induction k with
  | zero => intro m r r' cs cs' h h' hd; simp [deepR] at hd
  | succ k ih =>
    intro m r r' cs cs' h h' hd
    obtain ⟨kd, s0, s1, s2, s3, rs, lo, hi, neg⟩ := r
    obtain ⟨A, n, c, rfl, hs, _⟩ := h.open
    obtain ⟨kd', t0, t1, t2, t3, rs', lo', hi', neg'⟩ := r'
    obtain ⟨A', n', c', rfl, hs', _⟩ := h'.open
    obtain ⟨hn, hc, hm⟩ := hs.lens
    obtain ⟨hn', hc', hm'⟩ := hs'.lens
    have hpd := deep_part hd
    have hno : ¬(kd = kd' ∧ (s0 = t0 ∧ s1 = t1 ∧ s2 = t2 ∧ s3 = t3) ∧ lo = lo' ∧ hi = hi' ∧ neg = neg') → sameR (k + 2) (.mk kd s0 s1 s2 s3 rs lo hi neg) (.mk kd' t0 t1 t2 t3 rs' lo' hi' neg') = false := by
      intro h; simp only [sameR, headEq]; rw [decide_eq_false (fun h' => h ⟨h'.1, h'.2.1, h'.2.2.1, h'.2.2.2.1, h'.2.2.2.2.1⟩), Bool.false_and]
    have hset : (decide (s0 = t0) && (decide (s1 = t1) && (decide (s2 = t2) && (decide (s3 = t3) && true)))) = false → ¬(s0 = t0 ∧ s1 = t1 ∧ s2 = t2 ∧ s3 = t3) := by
      rintro h ⟨h0, h1, h2, h3⟩; simp [h0, h1, h2, h3] at h
    have hset' : (decide (s0 = t0) && (decide (s1 = t1) && (decide (s2 = t2) && (decide (s3 = t3) && true)))) = true → (s0 = t0 ∧ s1 = t1 ∧ s2 = t2 ∧ s3 = t3) := by
      intro h; simpa using h
    refine Fn.enter (N := 45) hX Tryz.func38 rfl rfl (by show _ ≤ _; simp) (fun w0 hL => ?_)
    conv => whnf
    refine NewReq.mk hL ?_
    clear hL
    intro b2 w hL
    conv => whnf
    refine NewReq.mk hL ?_
    clear hL
    intro b3 w hL
    conv => whnf
    conv => whnf
    repeat ((first | refine zT ?_ | refine zF ?_ | refine zL hX hL ?_ | refine zB hX hL ?_ | (refine zS hX hL ?_; clear hL; intro w hL) | refine zI ?_ | refine zG hX ?_ | refine zO ?_); conv => whnf)
    refine BrReq.dec (fun g1 => ?_) (fun g1 => ?_)
    rotate_left
    · conv => whnf
      repeat ((first | refine zT ?_ | refine zF ?_ | refine zL hX hL ?_ | refine zB hX hL ?_ | (refine zS hX hL ?_; clear hL; intro w hL) | refine zI ?_ | refine zG hX ?_ | refine zO ?_); conv => whnf)
      exact RetReq.bool hL.drop.drop (by rw [hno (fun h => g1 h.1)])
    conv => whnf
    repeat ((first | refine UGenReq.eqA hX rfl rfl rfl Tryz.eqGuardType28 rfl rfl rfl ?_ | refine zT ?_ | refine zF ?_ | refine zL hX hL ?_ | refine zB hX hL ?_ | (refine zS hX hL ?_; clear hL; intro w hL) | refine zI ?_ | refine zG hX ?_ | refine zO ?_); conv => whnf)
    refine BrReq.bool (fun g2 => ?_) (fun g2 => ?_)
    rotate_left
    · conv => whnf
      repeat ((first | refine zT ?_ | refine zF ?_ | refine zL hX hL ?_ | refine zB hX hL ?_ | (refine zS hX hL ?_; clear hL; intro w hL) | refine zI ?_ | refine zG hX ?_ | refine zO ?_); conv => whnf)
      exact RetReq.bool hL.drop.drop (by rw [hno (fun h => hset g2 h.2.1)])
    conv => whnf
    repeat ((first | refine zT ?_ | refine zF ?_ | refine zL hX hL ?_ | refine zB hX hL ?_ | (refine zS hX hL ?_; clear hL; intro w hL) | refine zI ?_ | refine zG hX ?_ | refine zO ?_); conv => whnf)
    refine BrReq.dec (fun g3 => ?_) (fun g3 => ?_)
    rotate_left
    · conv => whnf
      repeat ((first | refine zT ?_ | refine zF ?_ | refine zL hX hL ?_ | refine zB hX hL ?_ | (refine zS hX hL ?_; clear hL; intro w hL) | refine zI ?_ | refine zG hX ?_ | refine zO ?_); conv => whnf)
      exact RetReq.bool hL.drop.drop (by rw [hno (fun h => g3 h.2.2.1)])
    conv => whnf
    repeat ((first | refine zT ?_ | refine zF ?_ | refine zL hX hL ?_ | refine zB hX hL ?_ | (refine zS hX hL ?_; clear hL; intro w hL) | refine zI ?_ | refine zG hX ?_ | refine zO ?_); conv => whnf)
    refine BrReq.dec (fun g4 => ?_) (fun g4 => ?_)
    rotate_left
    · conv => whnf
      repeat ((first | refine zT ?_ | refine zF ?_ | refine zL hX hL ?_ | refine zB hX hL ?_ | (refine zS hX hL ?_; clear hL; intro w hL) | refine zI ?_ | refine zG hX ?_ | refine zO ?_); conv => whnf)
      exact RetReq.bool hL.drop.drop (by rw [hno (fun h => g4 h.2.2.2.1)])
    conv => whnf
    repeat ((first | refine zT ?_ | refine zF ?_ | refine zL hX hL ?_ | refine zB hX hL ?_ | (refine zS hX hL ?_; clear hL; intro w hL) | refine zI ?_ | refine zG hX ?_ | refine zO ?_); conv => whnf)
    refine BrReq.bool (fun g5 => ?_) (fun g5 => ?_)
    rotate_left
    · conv => whnf
      repeat ((first | refine zT ?_ | refine zF ?_ | refine zL hX hL ?_ | refine zB hX hL ?_ | (refine zS hX hL ?_; clear hL; intro w hL) | refine zI ?_ | refine zG hX ?_ | refine zO ?_); conv => whnf)
      exact RetReq.bool hL.drop.drop (by rw [hno (fun h => by rw [h.2.2.2.2] at g5; simp at g5)])
    conv => whnf
    repeat ((first | refine zT ?_ | refine zF ?_ | refine zL hX hL ?_ | refine zB hX hL ?_ | (refine zS hX hL ?_; clear hL; intro w hL) | refine zI ?_ | refine zG hX ?_ | refine zO ?_); conv => whnf)
    refine CallReq.val (equal_fn m _ _ rs rs' (sameR (k + 1)) hs hs' fun p hp q cs1 cs2 h1 h2 => ih m p q cs1 cs2 h1 h2 (hpd p hp)) hL ?_
    clear hL
    intro w hL
    conv => whnf
    repeat ((first | refine zT ?_ | refine zF ?_ | refine zL hX hL ?_ | refine zB hX hL ?_ | (refine zS hX hL ?_; clear hL; intro w hL) | refine zI ?_ | refine zG hX ?_ | refine zO ?_); conv => whnf)
    refine RetReq.bool hL.drop.drop ?_
    have hg5 : neg = neg' := by simpa using g5
    simp only [sameR, headEq, Re.parts]
    congr 1
    refine decide_eq_decide.2 ⟨fun h => ⟨g1, hset' g2, g3, g4, hg5, h⟩, fun h => h.2.2.2.2.2⟩
theorem Same_fn (m : Mem) (r r' : Re) (cs cs' : List Value) (h : RepRe m cs r) (h' : RepRe m cs' r') :
    FnV Tryz.prog 26 [.agg (toArr cs), .agg (toArr cs')] m (.bool (decide (deepR 40 r ≤ 40) && decide (deepR 40 r' ≤ 40) && sameR 41 r r')) := by
  obtain ⟨k1, u0, u1, u2, u3, A1, n1, c1, lo1, hi1, neg1, rfl⟩ := h.form
  obtain ⟨k2, v0, v1, v2, v3, A2, n2, c2, lo2, hi2, neg2, rfl⟩ := h'.form
  refine Fn.enter (N := 18) hX Tryz.func26 rfl rfl (by show _ ≤ _; simp) (fun w0 hL => ?_)
  conv => whnf
  refine NewReq.mk hL ?_
  clear hL
  intro b2 w hL
  conv => whnf
  refine NewReq.mk hL ?_
  clear hL
  intro b3 w hL
  conv => whnf
  conv => whnf
  repeat ((first | refine zT ?_ | refine zF ?_ | refine zL hX hL ?_ | refine zB hX hL ?_ | (refine zS hX hL ?_; clear hL; intro w hL) | refine zI ?_ | refine zG hX ?_ | refine zO ?_); conv => whnf)
  refine CallReq.val (Deep_fn m r _ h) hL ?_
  clear hL
  intro w hL
  conv => whnf
  repeat ((first | refine zT ?_ | refine zF ?_ | refine zL hX hL ?_ | refine zB hX hL ?_ | (refine zS hX hL ?_; clear hL; intro w hL) | refine zI ?_ | refine zG hX ?_ | refine zO ?_); conv => whnf)
  refine BrReq.dec (fun g => ?_) (fun g => ?_)
  · conv => whnf
    repeat ((first | refine zT ?_ | refine zF ?_ | refine zL hX hL ?_ | refine zB hX hL ?_ | (refine zS hX hL ?_; clear hL; intro w hL) | refine zI ?_ | refine zG hX ?_ | refine zO ?_); conv => whnf)
    refine CallReq.val (Deep_fn m r' _ h') hL ?_
    clear hL
    intro w hL
    conv => whnf
    repeat ((first | refine zT ?_ | refine zF ?_ | refine zL hX hL ?_ | refine zB hX hL ?_ | (refine zS hX hL ?_; clear hL; intro w hL) | refine zI ?_ | refine zG hX ?_ | refine zO ?_); conv => whnf)
    refine BrReq.dec (fun g2 => ?_) (fun g2 => ?_)
    · conv => whnf
      repeat ((first | refine zT ?_ | refine zF ?_ | refine zL hX hL ?_ | refine zB hX hL ?_ | (refine zS hX hL ?_; clear hL; intro w hL) | refine zI ?_ | refine zG hX ?_ | refine zO ?_); conv => whnf)
      refine CallReq.val (same_fn 40 m r r' _ _ h h' (by omega)) hL ?_
      clear hL
      intro w hL
      conv => whnf
      repeat ((first | refine zT ?_ | refine zF ?_ | refine zL hX hL ?_ | refine zB hX hL ?_ | (refine zS hX hL ?_; clear hL; intro w hL) | refine zI ?_ | refine zG hX ?_ | refine zO ?_); conv => whnf)
      exact RetReq.bool hL.drop.drop (by rw [decide_eq_true (by omega : deepR 40 r ≤ 40), decide_eq_true (by omega : deepR 40 r' ≤ 40)]; rfl)
    · conv => whnf
      repeat ((first | refine zT ?_ | refine zF ?_ | refine zL hX hL ?_ | refine zB hX hL ?_ | (refine zS hX hL ?_; clear hL; intro w hL) | refine zI ?_ | refine zG hX ?_ | refine zO ?_); conv => whnf)
      exact RetReq.bool hL.drop.drop (by rw [decide_eq_false (by omega : ¬ deepR 40 r' ≤ 40), Bool.and_false, Bool.false_and])
  · conv => whnf
    repeat ((first | refine zT ?_ | refine zF ?_ | refine zL hX hL ?_ | refine zB hX hL ?_ | (refine zS hX hL ?_; clear hL; intro w hL) | refine zI ?_ | refine zG hX ?_ | refine zO ?_); conv => whnf)
    exact RetReq.bool hL.drop.drop (by rw [decide_eq_false (by omega : ¬ deepR 40 r ≤ 40), Bool.false_and, Bool.false_and])
theorem sameR_refl : ∀ (k : Nat) (r : Re), deepR k r ≤ k → sameR (k + 1) r r = true := by
  intro k
  induction k with
  | zero => intro r h; simp [deepR] at h
  | succ k ih =>
    intro r h
    obtain ⟨kd, s0, s1, s2, s3, rs, lo, hi, neg⟩ := r
    have hp := deep_part h
    have e : sameR (k + 2) (.mk kd s0 s1 s2 s3 rs lo hi neg) (.mk kd s0 s1 s2 s3 rs lo hi neg) = (List.zipWith (sameR (k + 1)) rs rs).all id := by
      simp only [sameR, headEq, Re.parts]; rw [decide_eq_true (by simp), Bool.true_and]
    rw [e]
    refine (all_zip rs rs rfl).2 fun i x y hx hy => ?_
    rw [hx] at hy; cases hy
    exact ih x (hp x (List.mem_of_getElem? hx))
end Go.Proofs.YtiololnblplloaaGreat.tree
namespace Go.Proofs.YtiololnblplloaaGreat.tree
open Go Go.Ev Go.Proofs
inductive OwnT : Re → List Value → Ev.Own → Prop
  | mk (k s0 s1 s2 s3 lo hi : Int) (neg : Bool) (g : Nat) (rs : List Re) (blk : List (List Value)) (Ls : List Ev.Own)
      (h1 : blk.length = rs.length) (h2 : Ls.length = rs.length) (h3 : rs.length ≤ maxLen)
      (hr : inI k ∧ inU s0 ∧ inU s1 ∧ inU s2 ∧ inU s3 ∧ inI lo ∧ inI hi)
      (hs : ∀ (i : Nat) (r : Re) (cs : List Value) (L : Ev.Own), rs[i]? = some r → blk[i]? = some cs → Ls[i]? = some L → OwnT r cs L) :
      OwnT (.mk k s0 s1 s2 s3 rs lo hi neg) (reC k s0 s1 s2 s3 (.slice (some ⟨g, 0, none⟩) rs.length rs.length) lo hi neg) ((g, .cells (toArr blk.flatten) 30 (0, 0)) :: Ls.flatten)
theorem OwnT.len {r : Re} {cs : List Value} {L : Ev.Own} (h : OwnT r cs L) : cs.length = 9 := by cases h; rfl
theorem OwnT.form {r : Re} {cs : List Value} {L : Ev.Own} (h : OwnT r cs L) : ∃ k s0 s1 s2 s3 g n lo hi neg, cs = reC k s0 s1 s2 s3 (.slice (some ⟨g, 0, none⟩) n n) lo hi neg := by
  cases h; exact ⟨_, _, _, _, _, _, _, _, _, _, rfl⟩
theorem rows9 {rs : List Re} {blk : List (List Value)} {Ls : List Ev.Own} (h1 : blk.length = rs.length) (h2 : Ls.length = rs.length)
    (hs : ∀ (i : Nat) (r : Re) (cs : List Value) (L : Ev.Own), rs[i]? = some r → blk[i]? = some cs → Ls[i]? = some L → OwnT r cs L) : ∀ r ∈ blk, r.length = 9 := by
  intro r hr
  obtain ⟨i, hi, rfl⟩ := List.getElem_of_mem hr
  exact (hs i _ _ _ (List.getElem?_eq_getElem (by omega)) (List.getElem?_eq_getElem hi) (List.getElem?_eq_getElem (by omega))).len
section
variable {m0 m : Mem} {S : List Nat} {w0 w : World}
theorem OwnT.freeze {r : Re} : ∀ {cs : List Value} {L L2 : Ev.Own} {m : Mem}, OwnT r cs L → Ev.Loc m0 S w0 m (L ++ L2) w → ∃ m', Ev.Loc m0 S w0 m' L2 w ∧ Mem.Le m m' ∧ RepRe m' cs r := by
  induction r using Re.ind with
  | h k s0 s1 s2 s3 rs lo hi neg ih =>
    intro cs L L2 m h hL
    cases h with
    | mk _ _ _ _ _ _ _ _ g _ blk Ls h1 h2 h3 hr hs =>
      have h9 := rows9 h1 h2 hs
      have hL : Ev.Loc m0 S w0 m (Ls.flatten ++ ((g, .cells (toArr blk.flatten) 30 (0, 0)) :: L2)) w := hL.perm (List.perm_middle.symm)
      have key : ∀ (j : Nat) (m : Mem), j ≤ rs.length → Ev.Loc m0 S w0 m ((Ls.drop (rs.length - j)).flatten ++ ((g, .cells (toArr blk.flatten) 30 (0, 0)) :: L2)) w →
          ∃ m', Ev.Loc m0 S w0 m' ((g, .cells (toArr blk.flatten) 30 (0, 0)) :: L2) w ∧ Mem.Le m m' ∧ ∀ (i : Nat) (x : Re), rs.length - j ≤ i → rs[i]? = some x → ∃ cs, blk[i]? = some cs ∧ RepRe m' cs x := by
        intro j
        induction j with
        | zero =>
          intro m hj hL
          rw [Nat.sub_zero, ← h2, List.drop_length] at hL
          exact ⟨m, hL, Mem.Le.refl m, fun i x hi hx => absurd (List.getElem?_eq_some_iff.1 hx).1 (by omega)⟩
        | succ j ihj =>
          intro m hj hL
          have hlt : rs.length - (j + 1) < Ls.length := by omega
          rw [List.drop_eq_getElem_cons hlt, List.flatten_cons, List.append_assoc, show rs.length - (j + 1) + 1 = rs.length - j by omega] at hL
          have hx0 := List.getElem?_eq_getElem (l := rs) (i := rs.length - (j + 1)) (by omega)
          have hb0 := List.getElem?_eq_getElem (l := blk) (i := rs.length - (j + 1)) (by omega)
          obtain ⟨m1, hL1, hm1, hrep⟩ := ih _ (List.getElem_mem _) (hs _ _ _ _ hx0 hb0 (List.getElem?_eq_getElem hlt)) hL
          obtain ⟨m2, hL2, hm2, hall⟩ := ihj m1 (by omega) hL1
          refine ⟨m2, hL2, hm1.trans hm2, fun i x hi hx => ?_⟩
          by_cases e : i = rs.length - (j + 1)
          · subst e
            rw [hx0] at hx; cases hx
            exact ⟨_, hb0, hrep.le hm2⟩
          · exact hall i x (by omega) hx
      obtain ⟨m1, hL1, hm1, hall⟩ := key rs.length m (Nat.le_refl _) (by rw [Nat.sub_self, List.drop_zero]; exact hL)
      obtain ⟨m2, hL2, hm2, hsl⟩ := rows_freeze (L := L2) (R := RepRe m1) hL1 rfl (Nat.le_refl _) h3 h9 fun i x hx => hall i x (by omega) hx
      exact ⟨m2, hL2, hm1.trans hm2, RepRe.shut (hsl.le (Mem.Le.refl m2) fun cs x _ hx => hx.le hm2) hr⟩
end
set_option maxHeartbeats 1000000 in
theorem cloneT_fn (r : Re) : ∀ (m : Mem) (cs : List Value), RepRe m cs r → Small r → Ev.Fn Tryz.prog 75 [.agg (toArr cs)] m [] fun _ L' u => ∃ cs', u = .agg (toArr cs') ∧ OwnT r cs' L' := by
  induction r using Re.ind with
  | h kd s0 s1 s2 s3 rs lo hi neg ih =>
    intro m cs h hsm
    obtain ⟨A, n, c, rfl, hs, hrng⟩ := h.open
    obtain ⟨hn, hc, hm⟩ := hs.lens
    have hmx : maxLen = 9223372036854775807 := rfl
    have he := hs.elem
    have hsub : rs.length ≤ 2000 ∧ ∀ p ∈ rs, Small p := by cases hsm; exact ⟨by assumption, by assumption⟩
    refine Fn.enter (N := 27) hX Tryz.func75 rfl rfl (by show _ ≤ _; simp) (fun w0 hL => ?_)
    conv => whnf
    refine NewReq.mk hL ?_
    clear hL
    intro b1 w hL
    conv => whnf
    refine NewReq.mk hL ?_
    clear hL
    intro b2 w hL
    conv => whnf
    conv => whnf
    repeat ((first | refine zT ?_ | refine zF ?_ | refine zL hX hL ?_ | refine zB hX hL ?_ | (refine zS hX hL ?_; clear hL; intro w hL) | refine zI ?_ | refine zG hX ?_ | refine zO ?_); conv => whnf)
    refine RunReq.make hX rfl rfl rfl rfl n n rfl rfl (Nat.le_refl _) (by omega) rfl hL ?_
    clear hL
    intro g w hL
    rw [zeros_rows] at hL
    conv => whnf
    repeat ((first | refine zT ?_ | refine zF ?_ | refine zL hX hL ?_ | refine zB hX hL ?_ | (refine zS hX hL ?_; clear hL; intro w hL) | refine zI ?_ | refine zG hX ?_ | refine zO ?_); conv => whnf)
    refine LoopReq.inv hX (fun j : Nat => [(13, .int .i64 j)]) [1, 2, 3, 11, 12]
      (fun j w => j ≤ n ∧ ∃ m1 blk Ls, Mem.Le m m1 ∧ List.length blk = n ∧ List.length Ls = j ∧ (∀ r ∈ blk, r.length = 9) ∧ (∀ (i : Nat) (r : Re) (cs : List Value) (L : Ev.Own), rs[i]? = some r → blk[i]? = some cs → Ls[i]? = some L → OwnT r cs L) ∧
        Ev.Loc m [] w0 m1 ((g, .cells (toArr (List.flatten blk)) 30 (0, 0)) :: (b2, .cells (toArr (reC 0 0 0 0 0 (.slice none 0 0) 0 0 false)) 30 (0, 0)) :: (b1, .cells (toArr (reC kd s0 s1 s2 s3 (.slice A n c) lo hi neg)) 30 (0, 0)) :: List.flatten Ls) w) (fun j => n - j) 0
      ⟨by omega, m, List.replicate n (reC 0 0 0 0 0 (.slice none 0 0) 0 0 false), [], Mem.Le.refl m, by simp, rfl, by intro r hr; rw [(List.mem_replicate.1 hr).2]; rfl, fun i r cs L _ _ h => by simp at h, hL⟩ ⟨rfl, trivial⟩ ?_
    clear hL
    rintro j w f ⟨hj, m1, blk, Ls, hm1, hbl, hLs, hrows, hdone, hL⟩
    conv => whnf
    repeat ((first | refine zT ?_ | refine zF ?_ | refine zL hX hL ?_ | refine zB hX hL ?_ | (refine zS hX hL ?_; clear hL; intro w hL) | refine zI ?_ | refine zG hX ?_ | refine zO ?_); conv => whnf)
    refine BrReq.dec (fun hlt => ?_) (fun hlt => ?_)
    · have hlt' : j < rs.length := by omega
      obtain ⟨a, cs', rfl, hl9, hcells, hrep⟩ := he j _ (List.getElem?_eq_getElem hlt')
      obtain ⟨k1, u0, u1, u2, u3, A1, n1, c1, lo1, hi1, neg1, rfl⟩ := hrep.form
      conv => whnf
      repeat ((first | refine Idx2Req.mk j a rfl (by omega) rfl ?_ | refine LdReq.agg hX rfl rfl hL hl9 (hcells.le hm1) ?_ | refine zT ?_ | refine zF ?_ | refine zL hX hL ?_ | refine zB hX hL ?_ | (refine zS hX hL ?_; clear hL; intro w hL) | refine zI ?_ | refine zG hX ?_ | refine zO ?_); conv => whnf)
      refine NewReq.mk hL ?_
      clear hL
      intro b5 w hL
      conv => whnf
      conv => whnf
      repeat ((first | refine zT ?_ | refine zF ?_ | refine zL hX hL ?_ | refine zB hX hL ?_ | (refine zS hX hL ?_; clear hL; intro w hL) | refine zI ?_ | refine zG hX ?_ | refine zO ?_); conv => whnf)
      refine CallReq.mk (L1 := []) (ih _ (List.getElem_mem hlt') m1 _ (hrep.le hm1) (hsub.2 _ (List.getElem_mem hlt'))) hL ?_
      clear hL
      rintro v m2 L1 w hL hm2 ⟨cs3, rfl, ho⟩
      obtain ⟨k3, v0, v1, v2, v3, g3, n3, lo3, hi3, neg3, rfl⟩ := ho.form
      replace hL : Ev.Loc m [] w0 m2 ((b5, .cells (toArr (reC k1 u0 u1 u2 u3 (.slice A1 n1 c1) lo1 hi1 neg1)) 30 (0, 0)) :: (g, .cells (toArr (List.flatten blk)) 30 (0, 0)) :: (b2, .cells (toArr (reC 0 0 0 0 0 (.slice none 0 0) 0 0 false)) 30 (0, 0)) :: (b1, .cells (toArr (reC kd s0 s1 s2 s3 (.slice (some a) n c) lo hi neg)) 30 (0, 0)) :: (Ls ++ [L1]).flatten) w := by
        refine hL.perm ?_
        rw [List.flatten_append, List.flatten_cons, List.flatten_nil, List.append_nil]
        exact List.perm_append_comm
      conv => whnf
      repeat ((first | refine Idx2Req.mk j _ rfl (by omega) rfl ?_ | refine zT ?_ | refine zF ?_ | refine zL hX hL ?_ | refine zB hX hL ?_ | (refine zS hX hL ?_; clear hL; intro w hL) | refine zI ?_ | refine zG hX ?_ | refine zO ?_); conv => whnf)
      refine rows_store hX rfl 1 hL rfl hrows (by omega) rfl rfl ?_
      clear hL
      intro w hL
      have hL : Ev.Loc m [] w0 m2 (_ :: _ :: _ :: _ :: (Ls ++ [L1]).flatten) w := hL
      have hrows' : ∀ r ∈ blk.set j (reC k3 v0 v1 v2 v3 (.slice (some ⟨g3, 0, none⟩) n3 n3) lo3 hi3 neg3), r.length = 9 := by
        intro r hr
        rcases List.mem_or_eq_of_mem_set hr with h | rfl
        · exact hrows _ h
        · rfl
      have hdone' : ∀ (i : Nat) (r : Re) (cs : List Value) (L : Ev.Own), rs[i]? = some r → (blk.set j (reC k3 v0 v1 v2 v3 (.slice (some ⟨g3, 0, none⟩) n3 n3) lo3 hi3 neg3))[i]? = some cs → (Ls ++ [L1])[i]? = some L → OwnT r cs L := by
        intro i x cs L hx hcs hl
        by_cases e : i = j
        · subst e
          rw [List.getElem?_eq_getElem hlt'] at hx; cases hx
          rw [List.getElem?_set_self (by omega)] at hcs; cases hcs
          rw [List.getElem?_append_right (by omega), hLs, Nat.sub_self] at hl
          simp at hl; subst hl
          exact ho
        · rw [List.getElem?_set_ne (Ne.symm e)] at hcs
          have hil : i < (Ls ++ [L1]).length := (List.getElem?_eq_some_iff.1 hl).1
          rw [List.length_append, List.length_singleton] at hil
          rw [List.getElem?_append_left (by omega)] at hl
          exact hdone i x cs L hx hcs hl
      conv => whnf
      repeat ((first | refine zT ?_ | refine zF ?_ | refine zL hX hL ?_ | refine zB hX hL ?_ | (refine zS hX hL ?_; clear hL; intro w hL) | refine zI ?_ | refine zG hX ?_ | refine zO ?_); conv => whnf)
      refine ⟨j + 1, ⟨by omega, m2, _, Ls ++ [L1], hm1.trans hm2, by rw [List.length_set]; exact hbl, by rw [List.length_append, hLs]; rfl, hrows', hdone', hL.drop⟩, by first | omega | (simp only; omega) | (simp only [List.length_cons, List.length_append]; omega), ?_, ?_⟩
      · repeat (first | exact trivial | (refine And.intro (by (conv => lhs; whnf) <;> (conv => rhs; whnf) <;> (first | rfl)) ?_))
      · repeat (first | exact trivial | (refine And.intro (by (conv => lhs; whnf) <;> (conv => rhs; whnf) <;> (first | rfl)) ?_))
    conv => whnf
    repeat ((first | refine zT ?_ | refine zF ?_ | refine zL hX hL ?_ | refine zB hX hL ?_ | (refine zS hX hL ?_; clear hL; intro w hL) | refine zI ?_ | refine zG hX ?_ | refine zO ?_); conv => whnf)
    subst hn
    have hjn : j = rs.length := by omega
    refine RetReq.mk (L := (g, .cells (toArr (List.flatten blk)) 30 (0, 0)) :: Ls.flatten) (hL.sublist ?_) ⟨_, rfl, ?_⟩
    · exact List.Sublist.cons_cons _ (List.Sublist.cons _ (List.Sublist.cons _ (List.Sublist.refl _)))
    · exact .mk kd s0 s1 s2 s3 lo hi neg g rs blk Ls hbl (by omega) (by omega) hrng hdone
end Go.Proofs.YtiololnblplloaaGreat.tree
