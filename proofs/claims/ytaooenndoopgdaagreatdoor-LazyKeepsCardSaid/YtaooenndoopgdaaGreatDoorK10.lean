/- LazyKeeps, proved: a lazy machine keeps no more than it may, makes nothing twice that it keeps, and forgets all at a flush. Conditions: none beyond the row its own.: part 10 of 13 of the proof. Conditions: none. -/
import Derived.Test.YtaooenndoopgdaaGreatDoorK9
import Derived.Test.YtaooenndoopgdaaGreatDoorK6
import Derived.Test.YtaooenndoopgdaaGreatDoorK7
namespace Go.Proofs.YtaooenndoopgdaaGreatDoor.li
open Go Go.Ev Go.Proofs Go.Proofs.YtaooenndoopgdaaGreatDoor.ar
def nulP (ns : List Nd) (bits : Nat) (z : Int) : Bool := if 0 ≤ z ∧ z < ns.length then nulN bits ns z.toNat else false
abbrev accL (ab b3 b5 bits : Nat) (La : Ev.Own) : Ev.Own := (b5, .cells (toArr [.int .u8 bits]) 5 (0, 0)) :: (b3, .cells (toArr [.pointer (some ⟨ab, 0, none⟩)]) 95 (0, 0)) :: La
theorem acc1_fn (m : Mem) (ab b3 b5 bits : Nat) (ns : List Nd) (La : Ev.Own) (hA : Ar ab ns La) (hO : OkA ns) (hb : bits < 256) (z : Int) :
  FnM Tryz.prog 89 [.int .i64 z, .pointer (some ⟨b3, 0, none⟩), .pointer (some ⟨b5, 0, none⟩)] m (accL ab b3 b5 bits La) (.bool (!nulP ns bits z)) := by
 have hn := Null_fn m ab bits ns La hA hO hb z
 refine Fn.enter (N := 10) hX Tryz.func89 rfl rfl (by show _ ≤ _; simp) (fun w0 hL => ?_)
 conv => whnf
 generalize keys (accL ab b3 b5 bits La) = S0 at hL ⊢
 refine go ?_;try(clear hL;intro w hL)
 refine CallReq.lm (L1 := La) (L2 := [_, _]) hn (Loc.back (L1 := [_, _]) hL) ?_
 clear hL
 intro m1 w hm1 hL
 have hL := Loc.back (L1 := La) (L2 := [_, _]) hL
 refine go ?_;try(clear hL;intro w hL)
 exact RetReq.mk hL ⟨rfl, rfl⟩
theorem accIx_fn (m : Mem) (ab b3 b5 bits : Nat) (ns : List Nd) (La : Ev.Own) (hA : Ar ab ns La) (hO : OkA ns) (hb : bits < 256) (A : Option Addr) (n c : Nat) (l : List Int) (Lo : Ev.Own) (ho : OwnS 3 1 (.slice A n c) (ints .i64 l) Lo) :
  Ev.Fn Tryz.prog 128 [.slice A n c, .func (.func 89) #[] #[.pointer (some ⟨b3, 0, none⟩), .pointer (some ⟨b5, 0, none⟩)]] m (Lo ++ accL ab b3 b5 bits La)
   fun _ L' u => L' = Lo ++ accL ab b3 b5 bits La ∧ ((u = .int .i64 (-1) ∧ ∀ y ∈ l, nulP ns bits y = true) ∨ ∃ i : Nat, u = .int .i64 i ∧ ∃ h : i < l.length, nulP ns bits l[i] = false ∧ ∀ y ∈ l.take i, nulP ns bits y = true) := by
 obtain ⟨hn, hnc, hm, hget⟩ := owns_get ho
 have hmx : maxLen = 9223372036854775807 := rfl
 refine Fn.enter (N := 19) hX Tryz.func128 rfl rfl (by show _ ≤ _; simp) (fun w0 hL => ?_)
 conv => whnf
 generalize keys (Lo ++ accL ab b3 b5 bits La) = S0 at hL ⊢
 refine go ?_;try(clear hL;intro w hL)
 refine LoopReq.inv hX (fun j : Nat => [(8, .int .i64 j)]) [0, 1, 7]
  (fun j w => (j ≤ n ∧ ∀ y ∈ l.take j, nulP ns bits y = true) ∧ ∃ mm, Mem.Le m mm ∧ Ev.Loc m S0 w0 mm (Lo ++ accL ab b3 b5 bits La) w) (fun j => n - j) 0
  ⟨⟨Nat.zero_le _, by simp⟩, m, Mem.Le.refl m, hL⟩ ⟨rfl, trivial⟩ ?_
 clear hL
 rintro j w g ⟨⟨hj, hdone⟩, mm, hmm, hL⟩
 refine go ?_;try(clear hL;intro w hL)
 refine BrReq.dec (fun hlt => ?_) (fun hlt => ?_)
 ·have hj1 : j < l.length := by omega
  have hx := List.getElem?_eq_getElem hj1
  obtain ⟨g, cur, rfl, rfl, -, -, hc⟩ := hget (fun e => by rw [e] at hj1; simp at hj1)
  have hc' := hc j _ hx
  conv => whnf
  repeat ((first | refine Idx2Req.mk j _ rfl (by omega) rfl ?_ | (refine LdReq.ownC hX rfl rfl hL .h (by rw [scale_eq, Nat.zero_add, Nat.mul_one]; exact hc') ?_) | (refine go1 ?_;try(clear hL;intro w hL))); conv => whnf)
  refine CallReq.lm (L1 := accL ab b3 b5 bits La) (L2 := [_]) (acc1_fn mm ab b3 b5 bits ns La hA hO hb l[j]) (Loc.back (L1 := [_]) hL) ?_
  clear hL
  intro m1 w hm1 hL
  have hL := Loc.back (L1 := accL ab b3 b5 bits La) (L2 := [_]) hL
  cases hq : nulP ns bits l[j] with
  | false =>
    refine go ?_;try(clear hL;intro w hL)
    exact RetReq.mk hL ⟨rfl, .inr ⟨j, rfl, hj1, hq, hdone⟩⟩
  | true =>
    have hd : ∀ y ∈ l.take (j + 1), nulP ns bits y = true := fun y hy => by
     rw [fo.take_succ' hj1] at hy
     rcases List.mem_append.1 hy with h | h
     ·exact hdone y h
     ·rw [List.mem_singleton.1 h]; exact hq
    refine go ?_;try(clear hL;intro w hL)
    exact rnd (j + 1) ⟨⟨by omega, hd⟩, m1, hmm.trans hm1, hL⟩
 ·have ej : j = l.length := by omega
  rw [ej, List.take_length] at hdone
  refine go ?_;try(clear hL;intro w hL)
  exact RetReq.mk hL ⟨rfl, .inl ⟨rfl, hdone⟩⟩
def keepQ (ns : List Nd) (bits : Nat) (l : List Int) : List Int := l.filter (nulP ns bits)
theorem keepQ_all {ns : List Nd} {bits : Nat} {l : List Int} (h : ∀ y ∈ l, nulP ns bits y = true) : keepQ ns bits l = l := List.filter_eq_self.2 h
theorem keepQ_take {ns : List Nd} {bits : Nat} {l : List Int} {j : Nat} (h : j < l.length) : keepQ ns bits (l.take (j + 1)) = keepQ ns bits (l.take j) ++ (if nulP ns bits l[j] = true then [l[j]] else []) := by
 unfold keepQ
 rw [List.take_succ_eq_append_getElem h, List.filter_append]
 congr 1
 by_cases e : nulP ns bits l[j] = true
 ·rw [if_pos e, List.filter_cons, if_pos e]; rfl
 ·rw [if_neg e, List.filter_cons, if_neg e]; rfl
set_option maxHeartbeats 2000000 in
theorem accDel_fn (m : Mem) (ab b3 b5 bits : Nat) (ns : List Nd) (La : Ev.Own) (hA : Ar ab ns La) (hO : OkA ns) (hb : bits < 256) (A : Option Addr) (n c : Nat) (l : List Int) (Lo : Ev.Own) (ho : OwnS 3 1 (.slice A n c) (ints .i64 l) Lo) :
  Ev.Fn Tryz.prog 87 [.slice A n c, .func (.func 89) #[] #[.pointer (some ⟨b3, 0, none⟩), .pointer (some ⟨b5, 0, none⟩)]] m (Lo ++ accL ab b3 b5 bits La)
   fun _ L' u => ∃ Lo2, L' = Lo2 ++ accL ab b3 b5 bits La ∧ OwnS 3 1 u (ints .i64 (keepQ ns bits l)) Lo2 := by
 have hidx := accIx_fn m ab b3 b5 bits ns La hA hO hb A n c l Lo ho
 obtain ⟨hn, hnc, hm, hget⟩ := owns_get ho
 have hmx : maxLen = 9223372036854775807 := rfl
 refine Fn.enter (N := 42) hX Tryz.func87 rfl rfl (by show _ ≤ _; simp) (fun w0 hL => ?_)
 conv => whnf
 generalize keys (Lo ++ accL ab b3 b5 bits La) = S0 at hL ⊢
 refine go ?_;try(clear hL;intro w hL)
 refine CallReq.mk (L1 := Lo ++ accL ab b3 b5 bits La) (L2 := []) hidx (by rw [List.append_nil]; exact hL) ?_
 clear hL
 rintro u m1 L1 w hL hm1 ⟨rfl, hz⟩
 rw [List.append_nil] at hL
 rcases hz with ⟨rfl, hall⟩ | ⟨i0, rfl, hil, hq0, hno⟩
 ·refine go ?_;try(clear hL;intro w hL)
  exact RetReq.mk hL ⟨Lo, rfl, by rw [keepQ_all hall]; exact ho⟩
 ·obtain ⟨g, cur, rfl, rfl, hcl, hct, hcg⟩ := hget (fun e => by rw [e] at hil; simp at hil)
  have hd0 : keepQ ns bits (l.take (i0 + 1)) = l.take i0 := by
   rw [keepQ_take hil, hq0, if_neg (by decide), List.append_nil, keepQ_all hno]
  refine go ?_;try(clear hL;intro w hL)
  refine LoopReq.inv hX (fun s : Nat × Nat => [(5, .int .i64 s.1), (6, .int .i64 s.2)]) [0, 1]
   (fun s w => (s.1 < s.2 ∧ s.2 ≤ n ∧ s.1 = (keepQ ns bits (l.take s.2)).length) ∧ ∃ mm, Mem.Le m mm ∧ ∃ cur : List Value, (cur.length = c ∧ cur.take s.1 = ints .i64 (keepQ ns bits (l.take s.2)) ∧ ∀ (q : Nat) (y : Int), s.2 ≤ q → l[q]? = some y → cur[q]? = some (.int .i64 y)) ∧
    Ev.Loc m S0 w0 mm ((g, .cells (toArr cur) 3 (0, 0)) :: accL ab b3 b5 bits La) w) (fun s => n - s.2) (i0, i0 + 1)
   ⟨⟨by simp, by simp only; omega, by simp only; rw [hd0, List.length_take]; omega⟩, m1, hm1, cur, ⟨hcl, by
     simp only
     rw [hd0]
     have : cur.take i0 = (cur.take n).take i0 := by rw [List.take_take]; congr 1; omega
     rw [this, hct]; simp [ints, List.map_take], fun q y _ hq => hcg q y hq⟩, hL⟩ ⟨rfl, rfl, trivial⟩ ?_
  clear hL hcl hct hcg
  rintro ⟨i, j⟩ w f ⟨⟨hij, hjn, hie⟩, mm, hmm, cur, ⟨hcl, hct, hcg⟩, hL⟩
  simp only at hij hjn hie hct hcg
  refine go ?_;try(clear hL;intro w hL)
  refine BrReq.dec (fun hlt => ?_) (fun hlt => ?_)
  ·have hlt' : j < l.length := by simp only at hlt; omega
   have hx := List.getElem?_eq_getElem hlt'
   have hc' := hcg j _ (Nat.le_refl j) hx
   have htk := keepQ_take (ns := ns) (bits := bits) hlt'
   generalize l[j] = y at hx hc' htk
   conv => whnf
   repeat ((first | (refine Idx2Req.mk j _ rfl (by simp only at hlt ⊢; omega) rfl ?_) | (refine LdReq.ownC hX rfl rfl hL .h (by rw [scale_eq, Nat.zero_add, Nat.mul_one]; exact hc') ?_) | (refine go1 ?_;try(clear hL;intro w hL))); conv => whnf)
   refine CallReq.lm (L1 := accL ab b3 b5 bits La) (L2 := [_]) (acc1_fn mm ab b3 b5 bits ns La hA hO hb y) (Loc.back (L1 := [_]) hL) ?_
   clear hL
   intro m2 w hm2 hL
   have hL := Loc.back (L1 := accL ab b3 b5 bits La) (L2 := [_]) hL
   cases hq : nulP ns bits y with
   | false =>
     rw [hq, if_neg (by decide), List.append_nil] at htk
     refine go ?_;try(clear hL;intro w hL)
     exact rnd (i, j + 1) ⟨⟨by simp only; omega, by simp only; omega, by simp only; rw [htk]; exact hie⟩, m2, hmm.trans hm2, cur, ⟨hcl, by simp only; rw [htk]; exact hct, fun q y hq hy => hcg q y (by simp only at hq; omega) hy⟩, hL⟩
   | true =>
     rw [hq, if_pos rfl] at htk
     conv => whnf
     repeat ((first | refine Idx2Req.mk i _ rfl (by omega) rfl ?_ | (refine go1 ?_;try(clear hL;intro w hL))); conv => whnf)
     refine StReq.ownAt hX rfl 0 hL rfl rfl (by rw [scale_eq, Nat.zero_add, Nat.mul_one]; show i + 1 ≤ cur.length; omega) rfl ?_
     clear hL
     intro w hL
     replace hL : Ev.Loc m S0 w0 m2 ((g, .cells (toArr (spliceL cur (0 + scale i 1) [.int .i64 y])) 3 (0, 0)) :: accL ab b3 b5 bits La) w := hL
     rw [scale_eq, Nat.zero_add, Nat.mul_one] at hL
     replace hL : Ev.Loc m S0 w0 m2 ((g, .cells (toArr (cur.set i (.int .i64 y))) 3 (0, 0)) :: accL ab b3 b5 bits La) w := hL
     have hct2 : (cur.set i (.int .i64 y)).take (i + 1) = ints .i64 (keepQ ns bits (l.take (j + 1))) := by
      rw [htk, ints_append, ← hct, List.take_set, List.take_succ_eq_append_getElem (by omega : i < cur.length), List.set_append_right _ _ (by rw [List.length_take]; omega)]
      rw [List.length_take, show i - min i cur.length = 0 by omega]; rfl
     refine go ?_;try(clear hL;intro w hL)
     exact rnd (i + 1, j + 1) ⟨⟨by simp only; omega, by simp only; omega, by simp only; rw [htk, List.length_append, ← hie]; rfl⟩, m2, hmm.trans hm2, cur.set i (.int .i64 y), ⟨by rw [List.length_set]; exact hcl, hct2, fun q y' hq hy => by rw [List.getElem?_set_ne (by simp only at hq; omega)]; exact hcg q y' (by simp only at hq; omega) hy⟩, hL⟩
  ·have ej : j = n := by simp only at hlt; omega
   subst ej
   rw [hn, List.take_length] at hie hct
   have hin : i < l.length := by omega
   have hci : ¬ c = i := by omega
   have hc0 : ¬ c = 0 := by omega
   conv => whnf
   repeat ((first | refine SlReq.mk i j rfl rfl (by omega) (by omega) ?_ | (refine go1 ?_;try(clear hL;intro w hL))); conv => whnf)
   have hsl : ([Value.slice (if c = i then some ⟨g, 0, none⟩ else Option.map (fun x : Addr => x.add (scale i 1)) (some ⟨g, 0, none⟩)) (j - i) (c - i)] : List Value) = [.slice (some ⟨g, i, none⟩) (j - i) (c - i)] := by
    rw [if_neg hci]
    show [Value.slice (some ((⟨g, 0, none⟩ : Addr).add (scale i 1))) (j - i) (c - i)] = _
    rw [addr_add, scale_eq, Nat.zero_add, Nat.mul_one]
   refine GenReq.clear (z := .int .i64 0) rfl rfl rfl Tryz.underlying53 (fun w => Tryz.zeroValue3 w) rfl rfl hsl (by omega) 0 hL rfl (by omega) ?_
   clear hL
   intro w hL
   obtain ⟨k1, k2⟩ := splice_keep (List.replicate (j - i) (.int .i64 0)) cur i i (Nat.le_refl _)
   replace hL : Ev.Loc m S0 w0 mm ((g, .cells (toArr (spliceL cur i (List.replicate (j - i) (.int .i64 0)))) 3 (0, 0)) :: accL ab b3 b5 bits La) w := hL
   generalize spliceL cur i (List.replicate (j - i) (.int .i64 0)) = cur2 at hL k1 k2
   conv => whnf
   repeat ((first | refine SlReq.mk 0 i rfl rfl (by omega) (by omega) ?_ | (refine go1 ?_;try(clear hL;intro w hL))); conv => whnf)
   refine RetReq.mk hL ⟨[_], rfl, ?_⟩
   show OwnS 3 1 (.slice (if c = 0 then some ⟨g, 0, none⟩ else Option.map (fun x : Addr => x.add (scale 0 1)) (some ⟨g, 0, none⟩)) (i - 0) (c - 0)) _ _
   rw [if_neg hc0]
   have hbk := OwnS.block (te := 3) (size := 1) (g := g) (n := i) (cap := c) (cur := cur2) (by omega) hm (by omega)
   rw [Nat.mul_one, k1, hct] at hbk
   exact hbk
theorem Accepts_fn (m : Mem) (ab bits : Nat) (ns : List Nd) (La : Ev.Own) (hA : Ar ab ns La) (hO : OkA ns) (hb : bits < 256) (fv : Value) (f : fo.Fml) (hf : fo.FmV m fv f) (hF : fo.FB ns.length f) :
  FnM Tryz.prog 57 [.pointer (some ⟨ab, 0, none⟩), fv, .int .u8 bits] m La (.bool (fo.dec (fo.holdsP f (keepQ ns bits (atomsP f))))) := by
 have hr := right_fn m ab ns La hA hO fv f hf hF
 have hfn := hF.len
 have hf' := hf
 obtain ⟨A1, n1, c1, rfl, -⟩ := id hf
 refine Fn.enter (N := 19) hX Tryz.func57 rfl rfl (by show _ ≤ _; simp) (fun w0 hL => ?_)
 conv => whnf
 generalize keys La = S0 at hL ⊢
 refine NewReq.mk hL ?_
 clear hL
 intro b3 w hL
 conv => whnf
 refine NewReq.mk hL ?_
 clear hL
 intro b5 w hL
 conv => whnf
 refine go ?_;try(clear hL;intro w hL)
 refine CallReq.lm (L1 := La) (L2 := [_, _]) hr (Loc.back (L1 := [_, _]) hL) ?_
 clear hL
 intro m1 w hm1 hL
 have hL := Loc.back (L1 := La) (L2 := [_, _]) hL
 have hat := Atoms_fn m1 _ f ns.length hO.len (hf'.le hm1) hF
 refine go ?_;try(clear hL;intro w hL)
 refine CallReq.mk (L1 := []) hat hL ?_
 clear hL
 rintro u mx Lo w hL - ⟨hmx, ho⟩
 rw [hmx] at hL
 clear hmx mx
 obtain ⟨A, n, c, rfl, -⟩ := ho.slice
 refine go ?_;try(clear hL;intro w hL)
 refine CallReq.mk (L1 := Lo ++ accL ab b3 b5 bits La) (L2 := []) (accDel_fn m1 ab b3 b5 bits ns La hA hO hb A n c _ Lo ho) (by rw [List.append_nil]; exact hL) ?_
 clear hL ho
 rintro u m2 L2 w hL hm2 ⟨Lo2, rfl, ho⟩
 rw [List.append_nil] at hL
 obtain ⟨m3, hL3, hm3, hs⟩ := OwnS.freeze ho hL
 clear hL
 have hL := hL3
 clear hL3
 obtain ⟨A2, n2, c2, rfl, -⟩ := id hs
 refine go ?_;try(clear hL;intro w hL)
 refine CallReq.val (Holds_fn m3 _ _ _ f hfn hs (hf'.le (hm1.trans (hm2.trans hm3)))) hL ?_
 clear hL
 intro w hL
 refine go ?_;try(clear hL;intro w hL)
 exact RetReq.mk hL.drop.drop ⟨rfl, rfl⟩
theorem begin_fn (m : Mem) (ab b bits : Nat) (La : Ev.Own) :
  Ev.Fn Tryz.prog 70 [.pointer (some ⟨ab, 0, none⟩), .int .u8 b, .int .u8 bits] m La fun m' L' u => m' = m ∧ ∃ sb ma ml, u = .pointer (some ⟨sb, 0, none⟩) ∧ L' = stL ab sb b bits 0 ma ml [] [] La := by
 refine Fn.enter (N := 14) hX Tryz.func70 rfl rfl (by show _ ≤ _; simp) (fun w0 hL => ?_)
 conv => whnf
 generalize keys La = S0 at hL ⊢
 refine go ?_;try(clear hL;intro w hL)
 refine RunReq.makeMapW hL ?_
 clear hL
 intro ma w hL
 refine go ?_;try(clear hL;intro w hL)
 refine RunReq.makeMapW hL ?_
 clear hL
 intro ml w hL
 refine go ?_;try(clear hL;intro w hL)
 refine NewReq.mk hL ?_
 clear hL
 intro sb w hL
 conv => whnf
 replace hL : Ev.Loc m S0 w0 m ((sb, stO ab b bits 0 ma ml) :: (ml, mapW []) :: (ma, mapW []) :: La) w := hL
 refine go ?_;try(clear hL;intro w hL)
 exact RetReq.mk (hL.perm (List.Perm.cons _ (List.Perm.swap _ _ _))) ⟨rfl, sb, ma, ml, rfl, rfl⟩
theorem end_fn (m : Mem) (ab sb b bits : Nat) (e : Int) (ma ml : Nat) (v : Value) (f : fo.Fml) (hv : fo.FmV m v f) :
  FnL Tryz.prog 71 [.pointer (some ⟨sb, 0, none⟩), v] m [(sb, stO ab b bits e ma ml)] (.tuple (toArr [if e = 0 then v else .slice none 0 0, .int .i64 e])) := by
 obtain ⟨A, n, c, rfl, -⟩ := id hv
 refine Fn.enter (N := 16) hX Tryz.func71 rfl rfl (by show _ ≤ _; simp) (fun w0 hL => ?_)
 conv => whnf
 generalize keys [(sb, stO ab b bits e ma ml)] = S0 at hL ⊢
 by_cases h0 : e = 0
 ·subst h0
  refine go ?_;try(clear hL;intro w hL)
  exact RetReq.mk hL ⟨rfl, rfl, rfl⟩
 ·rw [if_neg h0]
  conv => whnf
  repeat ((first | refine BrReq.yes (by omega) ?_ | (refine go1 ?_;try(clear hL;intro w hL))); conv => whnf)
  refine DrawReq.plan hX (.fst 0 (.fst 1 (.fst 2 (.fst 3 (.fst 4 (.fst 5 (.done))))))) [(sb, stO ab b bits e ma ml)] (by kernel_rfl) (by kernel_rfl) hL id ?_
  clear hL
  intro w hL
  refine goq ?_;try(clear hL;intro w hL)
  exact RetReq.mk hL ⟨rfl, rfl, rfl⟩
theorem stp_start {ab sb b bits : Nat} {m : Mem} {ns : List Nd} {La : Ev.Own} (hA : Ar ab ns La) (hO : OkA ns) (ma ml : Nat) : Stp ab sb b bits m ns 0 ma ml [] [] La :=
 ⟨hA, hO, fun y hy => (by cases hy), fun y hy => (by cases hy), .inl rfl⟩
def OutP (ab : Nat) (ns : List Nd) : Mem → Ev.Own → Value → Prop := fun m' L' u => ∃ ns' e v f, u = .tuple (toArr [v, .int .i64 e]) ∧ (e = 0 ∨ e = 4) ∧ ns <+: ns' ∧ OkA ns' ∧ Ar ab ns' L' ∧ fo.FmV m' v f ∧ fo.FB ns'.length f
theorem Next_fn (m : Mem) (ab b bits : Nat) (ns : List Nd) (La : Ev.Own) (hA : Ar ab ns La) (hO : OkA ns) (hb8 : b < 256) (hb : bits < 256) (fv : Value) (f : fo.Fml) (hf : fo.FmV m fv f) (hF : fo.FB ns.length f) :
  Ev.Fn Tryz.prog 51 [.pointer (some ⟨ab, 0, none⟩), fv, .int .u8 b, .int .u8 bits] m La (OutP ab ns) := by
 have hr := right_fn m ab ns La hA hO fv f hf hF
 have hf' := hf
 obtain ⟨A1, n1, c1, rfl, -⟩ := id hf
 refine Fn.enter (N := 28) hX Tryz.func51 rfl rfl (by show _ ≤ _; simp) (fun w0 hL => ?_)
 conv => whnf
 generalize keys La = S0 at hL ⊢
 refine go ?_;try(clear hL;intro w hL)
 refine CallReq.lm (L1 := La) (L2 := []) hr (by rw [List.append_nil]; exact hL) ?_
 clear hL
 intro m1 w hm1 hL
 rw [List.append_nil] at hL
 refine go ?_;try(clear hL;intro w hL)
 refine CallReq.mk (L1 := La) (L2 := []) (begin_fn m1 ab b bits La) (by rw [List.append_nil]; exact hL) ?_
 clear hL
 rintro u mx L1 w hL - ⟨hmx, sb, ma, ml, rfl, rfl⟩
 rw [hmx] at hL
 clear hmx mx
 rw [List.append_nil] at hL
 have hS : Stp ab sb b bits m1 ns 0 ma ml [] [] La := stp_start hA hO ma ml
 refine go ?_;try(clear hL;intro w hL)
 refine CallReq.mk (L1 := ([] : Ev.Own) ++ stL ab sb b bits 0 ma ml [] [] La) (L2 := []) (put0_fn _ f hS (hf'.le hm1) hF (step_cal hb8 hb ns)) (by rw [List.append_nil]; exact hL) ?_
 clear hL
 rintro u m2 L2 w hL hm2 ⟨ns2, e2, la2, ll2, La2, f2, hp2, hS2, rfl, hf2, hb2⟩
 rw [List.append_nil] at hL
 replace hL : Ev.Loc m S0 w0 m2 ((sb, stO ab b bits e2 ma ml) :: (ma, mapW la2) :: (ml, mapW ll2) :: La2) w := hL
 have hend := end_fn m2 ab sb b bits e2 ma ml _ f2 hf2
 obtain ⟨A2, n2, c2, rfl, -⟩ := id hf2
 by_cases h0 : e2 = 0
 ·subst h0
  rw [if_pos rfl] at hend
  refine go ?_;try(clear hL;intro w hL)
  refine CallReq.li (L1 := [_]) (L2 := _ :: _ :: La2) hend hL ?_
  clear hL
  intro w hL
  replace hL : Ev.Loc m S0 w0 m2 ((sb, stO ab b bits 0 ma ml) :: (ma, mapW la2) :: (ml, mapW ll2) :: La2) w := hL
  refine go ?_;try(clear hL;intro w hL)
  exact RetReq.mk hL.drop.drop.drop ⟨ns2, 0, _, f2, rfl, .inl rfl, hp2, hS2.ok, hS2.ar, hf2, hb2⟩
 ·rw [if_neg h0] at hend
  refine go ?_;try(clear hL;intro w hL)
  refine CallReq.li (L1 := [_]) (L2 := _ :: _ :: La2) hend hL ?_
  clear hL
  intro w hL
  replace hL : Ev.Loc m S0 w0 m2 ((sb, stO ab b bits e2 ma ml) :: (ma, mapW la2) :: (ml, mapW ll2) :: La2) w := hL
  refine go ?_;try(clear hL;intro w hL)
  exact RetReq.mk hL.drop.drop.drop ⟨ns2, e2, _, [], rfl, hS2.err, hp2, hS2.ok, hS2.ar, Sl.nil _ _ _, fo.FB.nil _⟩
theorem Of_fn (m : Mem) (ab : Nat) (ns : List Nd) (La : Ev.Own) (hA : Ar ab ns La) (hO : OkA ns) (i0 : Int) (hi : i64 i0) (hid : okId ns i0) :
  Ev.Fn Tryz.prog 44 [.pointer (some ⟨ab, 0, none⟩), .int .i64 i0] m La (OutP ab ns) := by
 obtain ⟨x, hx1, hx2⟩ := nodeN_ok hid
 have hnode := Node_fn m ab ns La hA i0
 rw [hx1] at hnode
 simp only at hnode
 refine Fn.enter (N := 26) hX Tryz.func44 rfl rfl (by show _ ≤ _; simp) (fun w0 hL => ?_)
 conv => whnf
 generalize keys La = S0 at hL ⊢
 refine go ?_;try(clear hL;intro w hL)
 refine CallReq.lo hnode hL ?_
 clear hL
 intro w hL
 refine go ?_;try(clear hL;intro w hL)
 refine NewReq.mk hL ?_
 clear hL
 intro bn w hL
 conv => whnf
 refine go ?_;try(clear hL;intro w hL)
 refine CallReq.mk (L1 := La) (L2 := [_]) (begin_fn m ab 0 0 La) (Loc.back (L1 := [_]) hL) ?_
 clear hL
 rintro u mx L1 w hL - ⟨hmx, sb, ma, ml, rfl, rfl⟩
 rw [hmx] at hL
 clear hmx mx
 have hS : Stp ab sb 0 0 m ns 0 ma ml [] [] La := stp_start hA hO ma ml
 refine go ?_;try(clear hL;intro w hL)
 refine CallReq.mk (L1 := stL ab sb 0 0 0 ma ml [] [] La) (L2 := [_]) (of_fn ab sb 0 0 ma ml (dep ns i0 + 1) m ns 0 [] [] La i0 hS hi (fun _ => Nat.lt_succ_self _)) hL ?_
 clear hL
 rintro u m2 L2 w hL hm2 ⟨ns2, e2, la2, ll2, La2, f2, hp2, hS2, rfl, hf2, hb2⟩
 have hL := Loc.back (L1 := stL ab sb 0 0 e2 ma ml la2 ll2 La2) (L2 := [_]) hL
 replace hL := hL.drop
 have hend := end_fn m2 ab sb 0 0 e2 ma ml _ f2 hf2
 obtain ⟨A2, n2, c2, rfl, -⟩ := id hf2
 by_cases h0 : e2 = 0
 ·subst h0
  rw [if_pos rfl] at hend
  refine go ?_;try(clear hL;intro w hL)
  refine CallReq.li (L1 := [_]) (L2 := _ :: _ :: La2) hend hL ?_
  clear hL
  intro w hL
  replace hL : Ev.Loc m S0 w0 m2 ((sb, stO ab 0 0 0 ma ml) :: (ma, mapW la2) :: (ml, mapW ll2) :: La2) w := hL
  refine go ?_;try(clear hL;intro w hL)
  exact RetReq.mk hL.drop.drop.drop ⟨ns2, 0, _, f2, rfl, .inl rfl, hp2, hS2.ok, hS2.ar, hf2, hb2⟩
 ·rw [if_neg h0] at hend
  refine go ?_;try(clear hL;intro w hL)
  refine CallReq.li (L1 := [_]) (L2 := _ :: _ :: La2) hend hL ?_
  clear hL
  intro w hL
  replace hL : Ev.Loc m S0 w0 m2 ((sb, stO ab 0 0 e2 ma ml) :: (ma, mapW la2) :: (ml, mapW ll2) :: La2) w := hL
  refine go ?_;try(clear hL;intro w hL)
  exact RetReq.mk hL.drop.drop.drop ⟨ns2, e2, _, [], rfl, hS2.err, hp2, hS2.ok, hS2.ar, Sl.nil _ _ _, fo.FB.nil _⟩
end Go.Proofs.YtaooenndoopgdaaGreatDoor.li
namespace Go.Proofs.YtaooenndoopgdaaGreatDoor.li
open Go Go.Ev Go.Proofs Go.Proofs.YtaooenndoopgdaaGreatDoor.ar
theorem makeE_fn (m : Mem) (sb : Nat) (L : Ev.Own) (i0 : Int) (h0 : 0 ≤ i0) (x : Nd) (hk : x.k = 1) :
  Ev.Fn Tryz.prog 103 [.pointer (some ⟨sb, 0, none⟩), .int .i64 i0, .agg (toArr (ndC x))] m L fun m' L' u => L' = L ∧ fo.FmV m' u [[i0]] := by
 obtain ⟨xk, s0, s1, s2, s3, a, b', neg⟩ := x
 dsimp only at hk
 subst hk
 refine Fn.enter (N := 45) hX Tryz.func103 rfl rfl (by show _ ≤ _; simp) (fun w0 hL => ?_)
 conv => whnf
 generalize keys L = S0 at hL ⊢
 refine NewReq.mk hL ?_
 clear hL
 intro bn w hL
 conv => whnf
 refine go ?_;try(clear hL;intro w hL)
 refine CallReq.pure (atomG_fn m i0 h0) hL ?_
 clear hL
 rintro u m1 w hL hm1 hf
 obtain ⟨A1, n1, c1, rfl, -⟩ := id hf
 refine go ?_;try(clear hL;intro w hL)
 exact RetReq.mk hL.drop ⟨rfl, hf⟩
theorem ofE_fn (m : Mem) (ab sb ma ml : Nat) (ns : List Nd) (La : Ev.Own) (hA : Ar ab ns La) (i0 : Int) (hi : i64 i0) (hid : okId ns i0) (x : Nd) (hx : nodeN ns i0 = (x, true)) (hk : x.k = 1) :
  Ev.Fn Tryz.prog 72 [.pointer (some ⟨sb, 0, none⟩), .int .i64 i0] m (stL ab sb 0 0 0 ma ml [] [] La) fun m' L' u => ∃ la, L' = stL ab sb 0 0 0 ma ml la [] La ∧ fo.FmV m' u [[i0]] := by
 have hnode := Node_fn m ab ns La hA i0
 rw [hx] at hnode
 dsimp only at hnode
 refine Fn.enter (N := 51) hX Tryz.func72 rfl rfl (by show _ ≤ _; simp) (fun w0 hL => ?_)
 conv => whnf
 generalize keys (stL ab sb 0 0 0 ma ml [] [] La) = S0 at hL ⊢
 refine go ?_;try(clear hL;intro w hL)
 refine CallReq.li (L1 := La) hnode (Loc.back (L1 := [_, _, _]) hL) ?_
 clear hL
 intro w hL
 have hL := Loc.back (L1 := La) (L2 := [_, _, _]) hL
 refine go ?_;try(clear hL;intro w hL)
 refine NewReq.mk hL ?_
 clear hL
 intro bn w hL
 conv => whnf
 refine go ?_;try(clear hL;intro w hL)
 refine RunReq.lookW hX rfl rfl key_int (z := .slice none 0 0) (by kernel_rfl) hL (.t (.t .h)) (isK_int _ hi) (fun y hy => by cases hy) (fun hno => ?_) (fun v hv => by cases hv)
 refine go ?_;try(clear hL;intro w hL)
 refine CallReq.mk (L1 := stL ab sb 0 0 0 ma ml [] [] La) (L2 := [_]) (makeE_fn m sb (stL ab sb 0 0 0 ma ml [] [] La) i0 hid.1 x hk) (Loc.back (L1 := [_]) hL) ?_
 clear hL
 rintro u m2 L2 w hL hm2 ⟨rfl, hf2⟩
 obtain ⟨A2, n2, c2, rfl, -⟩ := id hf2
 have hL := Loc.back (L1 := stL ab sb 0 0 0 ma ml [] [] La) (L2 := [_]) hL
 refine go ?_;try(clear hL;intro w hL)
 refine RunUReq.updW hX rfl rfl key_int (k := .int .i64 i0) (v := .slice A2 n2 c2) 2 hL rfl (isK_int _ hi) (fun y hy => by cases hy) (fun _ w hL => ?_) (fun q u hq w hL => by cases hq)
 refine go ?_;try(clear hL;intro w hL)
 exact RetReq.mk hL.drop ⟨_, rfl, hf2⟩
theorem OfE_fn (m : Mem) (ab : Nat) (ns : List Nd) (La : Ev.Own) (hA : Ar ab ns La) (i0 : Int) (hi : i64 i0) (hid : okId ns i0) (x : Nd) (hx : nodeN ns i0 = (x, true)) (hk : x.k = 1) :
  Ev.Fn Tryz.prog 44 [.pointer (some ⟨ab, 0, none⟩), .int .i64 i0] m La fun m' L' u => L' = La ∧ ∃ v, u = .tuple (toArr [v, .int .i64 0]) ∧ fo.FmV m' v [[i0]] := by
 have hnode := Node_fn m ab ns La hA i0
 rw [hx] at hnode
 dsimp only at hnode
 refine Fn.enter (N := 26) hX Tryz.func44 rfl rfl (by show _ ≤ _; simp) (fun w0 hL => ?_)
 conv => whnf
 generalize keys La = S0 at hL ⊢
 refine go ?_;try(clear hL;intro w hL)
 refine CallReq.lo hnode hL ?_
 clear hL
 intro w hL
 refine go ?_;try(clear hL;intro w hL)
 refine NewReq.mk hL ?_
 clear hL
 intro bn w hL
 conv => whnf
 refine go ?_;try(clear hL;intro w hL)
 replace hL := hL.drop
 refine CallReq.mk (L1 := La) (L2 := []) (begin_fn m ab 0 0 La) (by rw [List.append_nil]; exact hL) ?_
 clear hL
 rintro u mx L1 w hL - ⟨hmx, sb, ma, ml, rfl, rfl⟩
 rw [hmx, List.append_nil] at hL
 clear hmx mx
 refine go ?_;try(clear hL;intro w hL)
 refine CallReq.mk (L1 := stL ab sb 0 0 0 ma ml [] [] La) (L2 := []) (ofE_fn m ab sb ma ml ns La hA i0 hi hid x hx hk) (by rw [List.append_nil]; exact hL) ?_
 clear hL
 rintro u m2 L2 w hL hm2 ⟨la, rfl, hf2⟩
 rw [List.append_nil] at hL
 have hend := end_fn m2 ab sb 0 0 0 ma ml _ [[i0]] hf2
 rw [if_pos rfl] at hend
 obtain ⟨A2, n2, c2, rfl, -⟩ := id hf2
 refine go ?_;try(clear hL;intro w hL)
 refine CallReq.li (L1 := [_]) (L2 := _ :: _ :: La) hend hL ?_
 clear hL
 intro w hL
 replace hL : Ev.Loc m S0 w0 m2 ((sb, stO ab 0 0 0 ma ml) :: (ma, mapW la) :: (ml, mapW []) :: La) w := hL
 refine go ?_;try(clear hL;intro w hL)
 exact RetReq.mk hL.drop.drop.drop ⟨rfl, _, rfl, hf2⟩
end Go.Proofs.YtaooenndoopgdaaGreatDoor.li
namespace Go.Proofs.YtaooenndoopgdaaGreatDoor.looks
open Go Go.Ev Go.Proofs Go.Proofs.YtaooenndoopgdaaGreatDoor.tree Go.Proofs.YtaooenndoopgdaaGreatDoor.ar
theorem same_eq : ∀ (k : Nat) (x y : Re), sameR k x y = true → x = y := by
 intro k
 induction k with
 | zero => intro x y h; cases h
 | succ k ih =>
   intro x y h
   obtain ⟨k1, s0, s1, s2, s3, rs, lo, hi, neg⟩ := x
   obtain ⟨k2, t0, t1, t2, t3, rs', lo', hi', neg'⟩ := y
   simp only [sameR, headEq, Re.parts, Bool.and_eq_true, decide_eq_true_eq] at h
   obtain ⟨⟨rfl, ⟨rfl, rfl, rfl, rfl⟩, rfl, rfl, rfl, hl⟩, hp⟩ := h
   have := (all_zip rs rs' hl).1 hp
   have e : rs = rs' := by
    apply List.ext_getElem hl
    intro i h1 h2
    exact ih _ _ (this i _ _ (List.getElem?_eq_getElem h1) (List.getElem?_eq_getElem h2))
   subst e; rfl
theorem idxR_get {f : Re → Bool} : ∀ (l : List Re), 0 ≤ idxR f l → ∃ x, l[(idxR f l).toNat]? = some x ∧ f x = true := by
 intro l
 induction l with
 | nil => intro h; simp [idxR] at h
 | cons p l ih =>
   intro h
   simp only [idxR] at h ⊢
   by_cases hp : f p = true
   ·rw [if_pos hp]; exact ⟨p, rfl, hp⟩
   ·rw [if_neg hp] at h ⊢
    by_cases h2 : idxR f l < 0
    ·rw [if_pos h2] at h; omega
    ·rw [if_neg h2]
     obtain ⟨x, hx, hf⟩ := ih (by omega)
     refine ⟨x, ?_, hf⟩
     rw [show (idxR f l + 1).toNat = (idxR f l).toNat + 1 by omega]
     simpa using hx
def lkR (ls : List Re) (r : Re) : Int := idxR (fun y => likeR y r) ls
theorem lkR_lt {ls : List Re} {r : Re} (h : 0 ≤ lkR ls r) : lkR ls r < ls.length := by
 obtain ⟨x, hx, -⟩ := idxR_get ls h
 have := (List.getElem?_eq_some_iff.1 hx).1
 unfold lkR at h ⊢
 omega
mutual
def fndR (ls : List Re) : Re → Prop
 | .mk k s0 s1 s2 s3 rs lo hi neg => (8 ≤ k → 0 ≤ lkR ls (.mk k s0 s1 s2 s3 rs lo hi false)) ∧ fndL ls rs
def fndL (ls : List Re) : List Re → Prop
 | [] => True
 | r :: l => fndR ls r ∧ fndL ls l
end
mutual
theorem looks_sub : ∀ (r : Re) (ls : List Re), ∀ x ∈ ls, x ∈ looksR r ls
 | .mk k s0 s1 s2 s3 rs lo hi neg, ls, x, hx => by
   have ih := looks_subL rs ls x hx
   rw [looksR]
   split
   ·exact ih
   split
   ·exact ih
   ·exact List.mem_append.2 (.inl ih)
theorem looks_subL : ∀ (l ls : List Re), ∀ x ∈ ls, x ∈ looksL l ls
 | [], ls, x, hx => hx
 | r :: l, ls, x, hx => looks_subL l _ x (looks_sub r ls x hx)
end
mutual
theorem looks_fnd (LS : List Re) : ∀ (r : Re) (ls : List Re), deepR 40 r ≤ 40 → (∀ x ∈ ls, deepR 40 x ≤ 40) → (∀ x ∈ looksR r ls, x ∈ LS) → fndR LS r
 | .mk k s0 s1 s2 s3 rs lo hi neg, ls, hd, hls, h => by
   have hp := deep40_part hd
   have hsub : ∀ x ∈ looksL rs ls, x ∈ looksR (.mk k s0 s1 s2 s3 rs lo hi neg) ls := fun x hx => by
    rw [looksR]
    split
    ·exact hx
    split
    ·exact hx
    ·exact List.mem_append.2 (.inl hx)
   rw [fndR]
   refine ⟨fun hk => ?_, looks_fndL LS rs ls hp hls (fun x hx => h x (hsub x hx))⟩
   refine (idxR_neg (f := fun y => likeR y (.mk k s0 s1 s2 s3 rs lo hi false)) LS).2 (List.any_eq_true.2 ?_)
   have hdb : deepR 40 (bareR (.mk k s0 s1 s2 s3 rs lo hi neg)) ≤ 40 := by rw [deep_bare]; exact hd
   have hlike : ∀ x, x = bareR (.mk k s0 s1 s2 s3 rs lo hi neg) → likeR x (.mk k s0 s1 s2 s3 rs lo hi false) = true := fun x e => by
    subst e
    unfold likeR
    rw [decide_eq_true hdb, show bareR (.mk k s0 s1 s2 s3 rs lo hi false) = bareR (.mk k s0 s1 s2 s3 rs lo hi neg) from rfl, decide_eq_true hdb, sameR_refl 40 _ hdb]; rfl
   by_cases ha : (looksL rs ls).any (fun x => sameR 41 x (bareR (.mk k s0 s1 s2 s3 rs lo hi neg))) = true
   ·obtain ⟨x, hx, hs⟩ := List.any_eq_true.1 ha
    exact ⟨x, h x (hsub x hx), hlike x (same_eq _ _ _ hs)⟩
   ·refine ⟨_, h (bareR (.mk k s0 s1 s2 s3 rs lo hi neg)) ?_, hlike _ rfl⟩
    rw [looksR, if_neg (by omega), if_neg ha]
    simp
theorem looks_fndL (LS : List Re) : ∀ (l ls : List Re), (∀ p ∈ l, deepR 40 p ≤ 40) → (∀ x ∈ ls, deepR 40 x ≤ 40) → (∀ x ∈ looksL l ls, x ∈ LS) → fndL LS l
 | [], _, _, _, _ => by rw [fndL]; trivial
 | r :: l, ls, hd, hls, h => by
   rw [fndL]
   have hr := hd r (by simp)
   exact ⟨looks_fnd LS r ls hr hls fun x hx => h x (looks_subL l _ x hx), looks_fndL LS l _ (fun p hp => hd p (by simp [hp])) (looks_deep r ls hr hls) h⟩
end
mutual
theorem err_fnd {ls : List Re} (h4 : ls.length ≤ 4) : ∀ r : Re, fndR ls r → ∀ (ns : List Nd) (e : Int), (∀ k s0 s1 s2 s3 rs lo hi neg, r = .mk k s0 s1 s2 s3 rs lo hi neg → True) → allR r = true → (bR (lkR ls) r ns e).1.2 = e
 | .mk k s0 s1 s2 s3 rs lo hi neg, hf, ns, e, _, hall => by
   simp only [allR, Bool.and_eq_true, decide_eq_true_eq] at hall
   obtain ⟨hOw, hall⟩ := hall
   rw [allL_eq, List.all_eq_true] at hall
   obtain ⟨⟨hk0, -⟩, -⟩ := hOw
   rw [fndR] at hf
   obtain ⟨hf1, hf2⟩ := hf
   have ih := err_fndL h4 rs hf2 hall
   rw [bR]
   split
   ·rfl
   split
   ·rfl
   split
   ·rfl
   split
   ·exact ih _ e
   split
   ·exact ih _ e
   split
   ·exact ih _ e
   split
   ·exact ih _ e
   split
   ·exact ih _ e
   ·have h0 := hf1 (by omega)
    have h1 := lkR_lt h0
    unfold lookedN
    rw [if_neg (by omega)]
theorem err_fndL {ls : List Re} (h4 : ls.length ≤ 4) : ∀ l : List Re, fndL ls l → (∀ p ∈ l, allR p = true) → ∀ (ns : List Nd) (e : Int), (bL (lkR ls) l ns e).1.2 = e
 | [], _, _, ns, e => rfl
 | r :: l, hf, h, ns, e => by
   rw [fndL] at hf
   rw [bL]
   dsimp only
   rw [err_fndL h4 l hf.2 (fun p hp => h p (by simp [hp])), err_fnd h4 r hf.1 ns e (fun _ _ _ _ _ _ _ _ _ _ => trivial) (h r (by simp))]
end
end Go.Proofs.YtaooenndoopgdaaGreatDoor.looks
namespace Go.Proofs.YtaooenndoopgdaaGreatDoor.ar
open Go Go.Ev Go.Proofs Go.Proofs.YtaooenndoopgdaaGreatDoor.tree
def boO (ab : Nat) (lv : Value) (e : Int) : Obj := .cells (toArr [.pointer (some ⟨ab, 0, none⟩), lv, .int .i64 e]) 178 (0, 0)
def BQ (ab bb : Nat) (lv : Value) (r : Bs) : Mem → Own → Value → Prop := fun _ L' u => u = .int .i64 r.2 ∧ ∃ L2, L' = (bb, boO ab lv r.1.2) :: L2 ∧ Ar ab r.1.1 L2
def Bld (lk : Re → Int) (lv : Value) (m0 : Mem) (p : Re) : Prop := ∀ (m : Mem) (ab bb : Nat) (ns : List Nd) (L : Own) (e : Int) (cs : List Value), Mem.Le m0 m → RepRe m cs p → Ar ab ns L → OkA ns →
 Ev.Fn Tryz.prog 98 [.pointer (some ⟨bb, 0, none⟩), .agg (toArr cs)] m ((bb, boO ab lv e) :: L) (BQ ab bb lv (bR lk p ns e))
theorem all_fn (lk : Re → Int) (lv : Value) (hlv : lv.oneCell' = true) (m0 : Mem) (rs : List Re) (hb : ∀ p ∈ rs, Bld lk lv m0 p) (hin : ∀ p ∈ rs, InRe p) (hln : rs.length ≤ 1000) (m : Mem) (ab bb : Nat) (ns : List Nd) (L : Own) (e : Int) (v : Value)
  (hm0 : Mem.Le m0 m) (hs : Sl m 9 (RepRe m) v rs) (hA : Ar ab ns L) (hO : OkA ns) :
  Ev.Fn Tryz.prog 144 [.pointer (some ⟨bb, 0, none⟩), v] m ((bb, boO ab lv e) :: L) fun m' L' u => Mem.Le m m' ∧ ∃ Lo L2, L' = Lo ++ ((bb, boO ab lv (bL lk rs ns e).1.2) :: L2) ∧ Ar ab (bL lk rs ns e).1.1 L2 ∧ OwnS 3 1 u (ints .i64 (bL lk rs ns e).2) Lo := by
 obtain ⟨A, n, c, rfl, hn, -, hmn, -⟩ := id hs
 have hmx : maxLen = 9223372036854775807 := rfl
 refine Fn.enter (N := 22) hX Tryz.func144 rfl rfl (by show _ ≤ _; simp) (fun w0 hL => ?_)
 conv => whnf
 generalize keys ((bb, boO ab lv e) :: L) = S0 at hL ⊢
 refine go ?_;try(clear hL;intro w hL)
 refine LoopReq.inv hX (fun s : Nat × Option Addr × Nat × Nat => [(5, .slice s.2.1 s.2.2.1 s.2.2.2), (10, .int .i64 s.1)]) [0, 8, 9]
  (fun s w => s.1 ≤ n ∧ ∃ m1 Lo L2, (Mem.Le m m1 ∧ Ar ab (bL lk (rs.take s.1) ns e).1.1 L2) ∧ OwnS 3 1 (.slice s.2.1 s.2.2.1 s.2.2.2) (ints .i64 (bL lk (rs.take s.1) ns e).2) Lo ∧ Ev.Loc m S0 w0 m1 (Lo ++ ((bb, boO ab lv (bL lk (rs.take s.1) ns e).1.2) :: L2)) w) (fun s => n - s.1) (0, none, 0, 0)
  ⟨by simp, m, [], L, ⟨Mem.Le.refl m, hA⟩, OwnS.nil _ _, hL⟩ ⟨rfl, rfl, trivial⟩ ?_
 clear hL
 rintro ⟨j, A1, n1, c1⟩ w f ⟨hj, m1, Lo, L2, ⟨hm1, hA⟩, ho, hL⟩
 simp only at hj hA ho hL
 refine go ?_;try(clear hL;intro w hL)
 refine BrReq.dec (fun hlt => ?_) (fun hlt => ?_)
 ·have hlt' : j < rs.length := by simp only at hlt; omega
  have hs1 : Sl m1 9 (RepRe m1) (.slice A n c) rs := hs.le hm1 fun _ _ _ h => h.le hm1
  obtain ⟨a, cs', eA, hl9, hcells, hrep⟩ := hs1.elem j _ (List.getElem?_eq_getElem hlt')
  have hbp := hb _ (List.getElem_mem hlt')
  have hlen := bL_len lk (rs.take j) ns e
  rw [List.length_take] at hlen
  have htk := bL_take lk rs ns e j hlt'
  have hok := okB_L lk (rs.take j) (fun p hp => hin p (List.mem_of_mem_take hp)) ns e hO
  have hok2 := okB_L lk (rs.take (j + 1)) (fun p hp => hin p (List.mem_of_mem_take hp)) ns e hO
  rw [htk] at hok2
  generalize rs[j] = p at hrep hbp htk hok2
  generalize bL lk (rs.take j) ns e = q at hA ho hL hlen htk hok hok2
  conv => whnf
  repeat ((first | (refine Idx2Req.mk j a rfl (by simp only at hlt ⊢; omega) eA ?_) | refine LdReq.agg hX rfl rfl hL hl9 hcells ?_ | (refine go1 ?_;try(clear hL;intro w hL))); conv => whnf)
  obtain ⟨kp, sp0, sp1, sp2, sp3, Ap, np, cp, lop, hip, negp, rfl⟩ := hrep.form
  refine NewReq.mk hL ?_
  clear hL
  intro b7 w hL
  conv => whnf
  refine go ?_;try(clear hL;intro w hL)
  replace hL : Ev.Loc m S0 w0 m1 (((b7, .cells (toArr (reC kp sp0 sp1 sp2 sp3 (.slice Ap np cp) lop hip negp)) 52 (0, 0)) :: Lo) ++ ((bb, boO ab lv q.1.2) :: L2)) w := hL
  refine CallReq.mk (L1 := (bb, boO ab lv q.1.2) :: L2) (L2 := (b7, .cells (toArr (reC kp sp0 sp1 sp2 sp3 (.slice Ap np cp) lop hip negp)) 52 (0, 0)) :: Lo) (hbp m1 ab bb q.1.1 L2 q.1.2 _ (hm0.trans hm1) hrep hA hok.1) (Loc.back hL) ?_
  clear hL
  rintro u m2 Lx w hL hm2 ⟨rfl, L3, rfl, hA3⟩
  have hL := Loc.back (L1 := (bb, boO ab lv (bR lk p q.1.1 q.1.2).1.2) :: L3) hL
  replace hL := hL.drop
  generalize bR lk p q.1.1 q.1.2 = r at hA3 hL htk hok2 ⊢
  refine go ?_;try(clear hL;intro w hL)
  refine NewReq.mk hL ?_
  clear hL
  intro g2 w hL
  conv => whnf
  replace hL : Ev.Loc m S0 w0 m2 ((g2, .cells (toArr [.int .i64 r.2]) 3 (0, 0)) :: (Lo ++ ((bb, boO ab lv r.1.2) :: L3))) w := hL
  refine go ?_;try(clear hL;intro w hL)
  refine RunReq.push hX 53 3 rfl rfl rfl rfl rfl ho (L2 := (bb, boO ab lv r.1.2) :: L3) hL rfl rfl (by simp [ints]; omega) rfl ?_
  clear hL
  intro A2 n2 c2 Lo2 w hn2 ho2 hL
  rw [← show ints .i64 (q.2 ++ [r.2]) = ints .i64 q.2 ++ [Value.int .i64 r.2] from ints_append ..] at ho2
  refine go ?_;try(clear hL;intro w hL)
  exact rnd (j + 1, A2, n2, c2) ⟨by simp only at hlt ⊢; omega, m2, Lo2, L3, ⟨hm1.trans hm2, by simp only [htk]; exact hA3⟩, by simp only [htk]; exact ho2, by simp only [htk]; exact hL⟩
 ·have ej : j = n := by simp only at hlt; omega
  subst ej
  rw [List.take_of_length_le (by omega)] at hA ho hL
  refine go ?_;try(clear hL;intro w hL)
  exact RetReq.mk hL ⟨hm1, Lo, L2, rfl, hA, ho⟩
set_option maxHeartbeats 4000000 in
theorem times_fn (lk : Re → Int) (lv : Value) (m0 : Mem) (p : Re) (hb : Bld lk lv m0 p) (hinp : InRe p) (m : Mem) (ab bb : Nat) (ns : List Nd) (L : Own) (e : Int) (kd s0 s1 s2 s3 lo hi : Int) (neg : Bool) (A : Option Addr) (n c : Nat)
  (hm0 : Mem.Le m0 m) (hs : Sl m 9 (RepRe m) (.slice A n c) [p]) (hlo : 0 ≤ lo ∧ lo ≤ 1000) (hhi : -1 ≤ hi ∧ hi ≤ 1000) (hA : Ar ab ns L) (hO : OkA ns) :
  Ev.Fn Tryz.prog 149 [.pointer (some ⟨bb, 0, none⟩), .agg (toArr (reC kd s0 s1 s2 s3 (.slice A n c) lo hi neg))] m ((bb, boO ab lv e) :: L)
   (BQ ab bb lv (((timesN lo hi (bR lk p ns e).1.1 (bR lk p ns e).2).1, (bR lk p ns e).1.2), (timesN lo hi (bR lk p ns e).1.1 (bR lk p ns e).2).2)) := by
 obtain ⟨a, cs', eA, hl9, hcells, hrep⟩ := hs.elem 0 p rfl
 have hn1 : n = 1 := by obtain ⟨_, _, _, h1, h2, -⟩ := hs; cases h1; exact h2
 have hok := okB_R lk p hinp ns e hO
 obtain ⟨rc, hrc⟩ : ∃ rc, rc = reC kd s0 s1 s2 s3 (.slice A n c) lo hi neg := ⟨_, rfl⟩
 refine Fn.enter (N := 67) hX Tryz.func149 rfl rfl (by show _ ≤ _; simp) (fun w0 hL => ?_)
 conv => whnf
 generalize keys ((bb, boO ab lv e) :: L) = S0 at hL ⊢
 refine NewReq.mk hL ?_
 clear hL
 intro b3 w hL
 conv => whnf
 replace hL : Ev.Loc m S0 w0 m ((b3, .cells (toArr (reC kd s0 s1 s2 s3 (.slice A n c) lo hi neg)) 52 (0, 0)) :: (bb, boO ab lv e) :: L) w := hL
 have hbp := hb m ab bb ns L e cs' hm0 hrep hA hO
 have hq : ∃ q, q = bR lk p ns e := ⟨_, rfl⟩
 conv => whnf
 repeat ((first | refine Idx2Req.mk 0 a rfl (by omega) eA ?_ | refine LdReq.agg hX rfl rfl hL hl9 hcells ?_ | (refine go1 ?_;try(clear hL;intro w hL))); conv => whnf)
 refine CallReq.mk (L1 := (bb, boO ab lv e) :: L) (L2 := [_]) hbp (Loc.back (L1 := [_]) hL) ?_
 clear hL hq
 rintro u m1 Lx w hL hm1 ⟨rfl, L2, rfl, hA2⟩
 have hL := Loc.back (L1 := (bb, boO ab lv (bR lk p ns e).1.2) :: L2) (L2 := [_]) hL
 generalize bR lk p ns e = q at hA2 hL hok ⊢
 obtain ⟨⟨ns1, e1⟩, x⟩ := q
 obtain ⟨hok1, hx⟩ := hok
 simp only at hA2 hL hok1 hx ⊢
 replace hL : Ev.Loc m S0 w0 m1 ((b3, .cells (toArr (reC kd s0 s1 s2 s3 (.slice A n c) lo hi neg)) 52 (0, 0)) :: (bb, boO ab lv e1) :: L2) w := hL
 clear hbp hA hrc
 refine go ?_;try(clear hL;intro w hL)
 refine CallReq.mk (L1 := L2) (L2 := [_, _]) (Empty_fn m1 ab ns1 L2 hA2 hok1) (Loc.back (L1 := [_, _]) hL) ?_
 clear hL
 rintro u mx L3 w hL - ⟨hmx, rfl, hA3⟩
 rw [hmx] at hL
 clear hmx mx
 have hL := Loc.back (L1 := L3) (L2 := [_, _]) hL
 unfold timesN
 rw [show putI ns1 (ndK 1) = (emptyN ns1).2 from rfl]
 change Ar ab (emptyN ns1).1 L3 at hA3
 have hem := okB_empty hok1
 generalize emptyN ns1 = em at hA3 hem ⊢
 obtain ⟨ns2, out⟩ := em
 obtain ⟨hok2, hout⟩ := hem
 simp only at hA3 hok2 hout ⊢
 clear hA2
 replace hL : Ev.Loc m S0 w0 m1 ((b3, .cells (toArr (reC kd s0 s1 s2 s3 (.slice A n c) lo hi neg)) 52 (0, 0)) :: (bb, boO ab lv e1) :: L3) w := hL
 have hst : OkB (if hi < 0 then starN ns2 x else (ns2, out)) := by split; exact okB_star hok2 hx; exact ⟨hok2, hout⟩
 by_cases hneg : hi < 0
 ·rw [if_pos hneg] at hst
  rw [if_pos hneg]
  conv => whnf
  repeat ((first | refine BrReq.yes hneg ?_ | (refine go1 ?_;try(clear hL;intro w hL))); conv => whnf)
  refine CallReq.mk (L1 := L3) (L2 := [_, _]) (StarG_fn m1 ab ns2 L3 hA3 hok2 x) (Loc.back (L1 := [_, _]) hL) ?_
  clear hL
  rintro u m2 L4 w hL hm2 ⟨rfl, hA4⟩
  have hL := Loc.back (L1 := L4) (L2 := [_, _]) hL
  replace hL : Ev.Loc m S0 w0 m2 ((b3, .cells (toArr (reC kd s0 s1 s2 s3 (.slice A n c) lo hi neg)) 52 (0, 0)) :: (bb, boO ab lv e1) :: L4) w := hL
  generalize starN ns2 x = st at hA4 hst ⊢
  refine go ?_;try(clear hL;intro w hL)
  generalize hR : repN x lo.toNat (optN x (hi - lo).toNat st.1 st.2).1 (optN x (hi - lo).toNat st.1 st.2).2 = R
  refine LoopReq.inv hX (fun s : Nat × Int × Int => [(6, .int .i64 s.2.2), (7, .int .i64 s.2.1)]) [0, 3, 5]
   (fun s w => (s.1 = (hi - s.2.1).toNat ∧ (0 ≤ s.2.1 ∧ s.2.1 ≤ 1000) ∧ i64 s.2.2) ∧ ∃ m1 ns' L', (Mem.Le m m1 ∧ Ar ab ns' L' ∧ OkA ns' ∧ repN x lo.toNat (optN x s.1 ns' s.2.2).1 (optN x s.1 ns' s.2.2).2 = R) ∧ Ev.Loc m S0 w0 m1 ((b3, .cells (toArr (reC kd s0 s1 s2 s3 (.slice A n c) lo hi neg)) 52 (0, 0)) :: (bb, boO ab lv e1) :: L') w) (fun s => s.1) ((hi - lo).toNat, lo, st.2)
   ⟨⟨rfl, hlo, hst.2⟩, m2, st.1, L4, ⟨(hm1.trans hm2), hA4, hst.1, hR⟩, hL⟩ ⟨rfl, rfl, trivial⟩ ?_
  clear hL hR hA4 hm2
  rintro ⟨k, i, out⟩ w f ⟨⟨hk, hir, hout⟩, m1, ns', L', ⟨hm1, hA', hO', hR⟩, hL⟩
  simp only at hk hir hout hR
  refine go ?_;try(clear hL;intro w hL)
  refine BrReq.dec (fun hlt => ?_) (fun hlt => ?_)
  ·simp only at hlt
   obtain ⟨k', rfl⟩ : ∃ k', k = k' + 1 := ⟨k - 1, by omega⟩
   rw [optN] at hR
   refine go ?_;try(clear hL;intro w hL)
   refine DrawReq.plan hX (.fst 0 (.fst 1 (.fst 2 (.fst 3 (.fst 4 (.fst 5 (.fst 6 (.fst 7 (.fst 9 (.fst 10 (.fst 11 (.fst 12 (.fst 13 (.fst 14 (.alt 8 (.alt 15 (.alt 16 (.alt 17 (.fst 18 (.done)) (.stop)) (.stop)) (.stop)) (.stop)))))))))))))))) [(bb, boO ab lv e1)] (by kernel_rfl) (by kernel_rfl) hL (fun h => h.one 1 rfl) ?_
   clear hL
   intro w hL
   have hem := okB_empty hO'
   have hct := okB_cat hem.1 hx hout
   have hor := okB_or hct.1 false [(emptyN ns').2, (catN (emptyN ns').1 x out).2]
   refine goq ?_;try(clear hL;intro w hL)
   refine CallReq.mk (L1 := L') (L2 := [_, _]) (Empty_fn m1 ab ns' L' hA' hO') (Loc.back (L1 := [_, _]) hL) ?_
   clear hL
   rintro u mx La w hL - ⟨hmx, rfl, hA3⟩
   rw [hmx] at hL
   clear hmx mx
   have hL := Loc.back (L1 := La) (L2 := [_, _]) hL
   rw [show putI ns' (ndK 1) = (emptyN ns').2 from rfl]
   change Ar ab (emptyN ns').1 La at hA3
   refine SReq.mk (hL.one 1 rfl) ?_
   refine goq ?_;try(clear hL;intro w hL)
   generalize emptyN ns' = em at hA3 hem hct hor hR ⊢
   refine CallReq.mk (L1 := La) (L2 := [_, _]) (CatF_fn ab (x.toNat + 1) m1 em.1 La hA3 hem.1 x out hx hout (fun _ => Nat.lt_succ_self _) (by omega)) (Loc.back (L1 := [_, _]) hL) ?_
   clear hL
   rintro u m2 Lb w hL hm2 ⟨rfl, hA4⟩
   have hL := Loc.back (L1 := Lb) (L2 := [_, _]) hL
   refine SReq.mk ((hL.one 1 rfl).weaken hm2 hm1) ?_
   refine goq ?_;try(clear hL;intro w hL)
   rw [show catF (x.toNat + 1) em.1 x out = catN em.1 x out from rfl] at hA4 ⊢
   generalize catN em.1 x out = ct at hA4 hct hor hR ⊢
   refine NewReq.mk hL ?_
   clear hL
   intro g w hL
   conv => whnf
   refine SReq.mk ((hL.one 2 rfl).weaken hm2 hm1) ?_
   obtain ⟨m3, hL1, hm3, hs3⟩ := there_row (l := [em.2, ct.2]) hL (by simp)
   clear hL
   have hL := hL1
   clear hL1
   refine goq ?_;try(clear hL;intro w hL)
   refine CallReq.mk (L1 := Lb) (L2 := [_, _]) (OrG_fn m3 ab ct.1 Lb hA4 hct.1 _ [em.2, ct.2] hs3 (by simp)) (Loc.back (L1 := [_, _]) hL) ?_
   clear hL
   rintro u m4 Lc w hL hm4 ⟨rfl, hA5⟩
   have hL := Loc.back (L1 := Lc) (L2 := [_, _]) hL
   refine SReq.mk ((hL.one 1 rfl).weaken ((hm2.trans hm3).trans hm4) hm1) ?_
   rw [show gputN false ct.1 [em.2, ct.2] = orN ct.1 [em.2, ct.2] from rfl] at hA5 hor ⊢
   generalize orN ct.1 [em.2, ct.2] = o at hA5 hor hR ⊢
   conv => whnf
   repeat ((first | (refine ArReq.i64 (by simp only; omega) (by simp only; omega) ?_) | (refine goq1 ?_;try(clear hL;intro w hL))); conv => whnf)
   exact rnd (k', i + 1, o.2) ⟨⟨by simp only; omega, by simp only; omega, hor.2⟩, m4, o.1, Lc, ⟨((hm1.trans hm2).trans hm3).trans hm4, hA5, hor.1, hR⟩, hL⟩
  ·simp only at hlt
   have hk0 : k = 0 := by omega
   subst hk0
   rw [show optN x 0 ns' out = (ns', out) from rfl] at hR
   simp only at hR
   refine go ?_;try(clear hL;intro w hL)
   refine LoopReq.inv hX (fun s : Nat × Int => [(6, .int .i64 s.2), (56, .int .i64 (lo - s.1))]) [0, 5, 55]
    (fun s w => (s.1 ≤ lo.toNat ∧ i64 s.2) ∧ ∃ m1 ns' L', (Ar ab ns' L' ∧ OkA ns' ∧ repN x s.1 ns' s.2 = R) ∧ Ev.Loc m S0 w0 m1 ((b3, .cells (toArr (reC kd s0 s1 s2 s3 (.slice A n c) lo hi neg)) 52 (0, 0)) :: (bb, boO ab lv e1) :: L') w) (fun s => s.1) (lo.toNat, out)
    ⟨⟨Nat.le_refl _, hout⟩, m1, ns', L', ⟨hA', hO', hR⟩, hL⟩ ⟨rfl, by simp only; rw [show lo - (lo.toNat : Int) = 0 by omega]; rfl, trivial⟩ ?_
   clear hL hR hA' hO' hout
   rintro ⟨k, out⟩ w f ⟨⟨hk, hout⟩, m1, ns', L', ⟨hA', hO', hR⟩, hL⟩
   simp only at hk hout hR
   refine go ?_;try(clear hL;intro w hL)
   refine BrReq.dec (fun hlt => ?_) (fun hlt => ?_)
   ·simp only at hlt
    obtain ⟨k', rfl⟩ : ∃ k', k = k' + 1 := ⟨k - 1, by omega⟩
    rw [repN] at hR
    have hct := okB_cat hO' hx hout
    refine go ?_;try(clear hL;intro w hL)
    refine CallReq.mk (L1 := L') (L2 := [_, _]) (CatF_fn ab (x.toNat + 1) m1 ns' L' hA' hO' x out hx hout (fun _ => Nat.lt_succ_self _) (by omega)) (Loc.back (L1 := [_, _]) hL) ?_
    clear hL
    rintro u m2 Lb w hL hm2 ⟨rfl, hA4⟩
    have hL := Loc.back (L1 := Lb) (L2 := [_, _]) hL
    rw [show catF (x.toNat + 1) ns' x out = catN ns' x out from rfl] at hA4 ⊢
    generalize catN ns' x out = ct at hA4 hct hR ⊢
    conv => whnf
    repeat ((first | (refine ArReq.i64 (by simp only; omega) (by simp only; omega) ?_) | (refine go1 ?_;try(clear hL;intro w hL))); conv => whnf)
    refine ⟨(k', ct.2), ⟨⟨by simp only; omega, hct.2⟩, m2, ct.1, Lb, ⟨hA4, hct.1, hR⟩, hL⟩, by first | omega | (simp only; omega) | (simp only [List.length_cons, List.length_append]; omega), ?_, ?_⟩
    ·repeat (first | exact trivial | (refine And.intro (by (conv => lhs; whnf) <;> (conv => rhs; whnf) <;> (first | rfl | ((congr 1; simp only; omega)))) ?_))
    ·repeat (first | exact trivial | (refine And.intro (by (conv => lhs; whnf) <;> (conv => rhs; whnf) <;> (first | rfl | ((congr 1; simp only; omega)))) ?_))
   ·simp only at hlt
    have hk0 : k = 0 := by omega
    subst hk0
    have hR : (ns', out) = R := hR
    subst hR
    refine go ?_;try(clear hL;intro w hL)
    exact RetReq.mk (hL.sublist (.cons _ (List.Sublist.refl _))) ⟨rfl, L', rfl, hA'⟩
 ·rw [if_neg hneg] at hst
  rw [if_neg hneg]
  conv => whnf
  repeat ((first | refine BrReq.no hneg ?_ | (refine go1 ?_;try(clear hL;intro w hL))); conv => whnf)
  generalize hR : repN x lo.toNat (optN x (hi - lo).toNat ns2 out).1 (optN x (hi - lo).toNat ns2 out).2 = R
  refine LoopReq.inv hX (fun s : Nat × Int × Int => [(6, .int .i64 s.2.2), (7, .int .i64 s.2.1)]) [0, 3, 5]
   (fun s w => (s.1 = (hi - s.2.1).toNat ∧ (0 ≤ s.2.1 ∧ s.2.1 ≤ 1000) ∧ i64 s.2.2) ∧ ∃ m1 ns' L', (Mem.Le m m1 ∧ Ar ab ns' L' ∧ OkA ns' ∧ repN x lo.toNat (optN x s.1 ns' s.2.2).1 (optN x s.1 ns' s.2.2).2 = R) ∧ Ev.Loc m S0 w0 m1 ((b3, .cells (toArr (reC kd s0 s1 s2 s3 (.slice A n c) lo hi neg)) 52 (0, 0)) :: (bb, boO ab lv e1) :: L') w) (fun s => s.1) ((hi - lo).toNat, lo, out)
   ⟨⟨rfl, hlo, hout⟩, m1, ns2, L3, ⟨hm1, hA3, hok2, hR⟩, hL⟩ ⟨rfl, rfl, trivial⟩ ?_
  clear hL hR hA3
  rintro ⟨k, i, out⟩ w f ⟨⟨hk, hir, hout⟩, m1, ns', L', ⟨hm1, hA', hO', hR⟩, hL⟩
  simp only at hk hir hout hR
  refine go ?_;try(clear hL;intro w hL)
  refine BrReq.dec (fun hlt => ?_) (fun hlt => ?_)
  ·simp only at hlt
   obtain ⟨k', rfl⟩ : ∃ k', k = k' + 1 := ⟨k - 1, by omega⟩
   rw [optN] at hR
   refine go ?_;try(clear hL;intro w hL)
   refine DrawReq.plan hX (.fst 0 (.fst 1 (.fst 2 (.fst 3 (.fst 4 (.fst 5 (.fst 6 (.fst 7 (.fst 9 (.fst 10 (.fst 11 (.fst 12 (.fst 13 (.fst 14 (.alt 8 (.alt 15 (.alt 16 (.alt 17 (.fst 18 (.done)) (.stop)) (.stop)) (.stop)) (.stop)))))))))))))))) [(bb, boO ab lv e1)] (by kernel_rfl) (by kernel_rfl) hL (fun h => h.one 1 rfl) ?_
   clear hL
   intro w hL
   have hem := okB_empty hO'
   have hct := okB_cat hem.1 hx hout
   have hor := okB_or hct.1 false [(emptyN ns').2, (catN (emptyN ns').1 x out).2]
   refine goq ?_;try(clear hL;intro w hL)
   refine CallReq.mk (L1 := L') (L2 := [_, _]) (Empty_fn m1 ab ns' L' hA' hO') (Loc.back (L1 := [_, _]) hL) ?_
   clear hL
   rintro u mx La w hL - ⟨hmx, rfl, hA3⟩
   rw [hmx] at hL
   clear hmx mx
   have hL := Loc.back (L1 := La) (L2 := [_, _]) hL
   rw [show putI ns' (ndK 1) = (emptyN ns').2 from rfl]
   change Ar ab (emptyN ns').1 La at hA3
   refine SReq.mk (hL.one 1 rfl) ?_
   refine goq ?_;try(clear hL;intro w hL)
   generalize emptyN ns' = em at hA3 hem hct hor hR ⊢
   refine CallReq.mk (L1 := La) (L2 := [_, _]) (CatF_fn ab (x.toNat + 1) m1 em.1 La hA3 hem.1 x out hx hout (fun _ => Nat.lt_succ_self _) (by omega)) (Loc.back (L1 := [_, _]) hL) ?_
   clear hL
   rintro u m2 Lb w hL hm2 ⟨rfl, hA4⟩
   have hL := Loc.back (L1 := Lb) (L2 := [_, _]) hL
   refine SReq.mk ((hL.one 1 rfl).weaken hm2 hm1) ?_
   refine goq ?_;try(clear hL;intro w hL)
   rw [show catF (x.toNat + 1) em.1 x out = catN em.1 x out from rfl] at hA4 ⊢
   generalize catN em.1 x out = ct at hA4 hct hor hR ⊢
   refine NewReq.mk hL ?_
   clear hL
   intro g w hL
   conv => whnf
   refine SReq.mk ((hL.one 2 rfl).weaken hm2 hm1) ?_
   obtain ⟨m3, hL1, hm3, hs3⟩ := there_row (l := [em.2, ct.2]) hL (by simp)
   clear hL
   have hL := hL1
   clear hL1
   refine goq ?_;try(clear hL;intro w hL)
   refine CallReq.mk (L1 := Lb) (L2 := [_, _]) (OrG_fn m3 ab ct.1 Lb hA4 hct.1 _ [em.2, ct.2] hs3 (by simp)) (Loc.back (L1 := [_, _]) hL) ?_
   clear hL
   rintro u m4 Lc w hL hm4 ⟨rfl, hA5⟩
   have hL := Loc.back (L1 := Lc) (L2 := [_, _]) hL
   refine SReq.mk ((hL.one 1 rfl).weaken ((hm2.trans hm3).trans hm4) hm1) ?_
   rw [show gputN false ct.1 [em.2, ct.2] = orN ct.1 [em.2, ct.2] from rfl] at hA5 hor ⊢
   generalize orN ct.1 [em.2, ct.2] = o at hA5 hor hR ⊢
   conv => whnf
   repeat ((first | (refine ArReq.i64 (by simp only; omega) (by simp only; omega) ?_) | (refine goq1 ?_;try(clear hL;intro w hL))); conv => whnf)
   exact rnd (k', i + 1, o.2) ⟨⟨by simp only; omega, by simp only; omega, hor.2⟩, m4, o.1, Lc, ⟨((hm1.trans hm2).trans hm3).trans hm4, hA5, hor.1, hR⟩, hL⟩
  ·simp only at hlt
   have hk0 : k = 0 := by omega
   subst hk0
   rw [show optN x 0 ns' out = (ns', out) from rfl] at hR
   simp only at hR
   refine go ?_;try(clear hL;intro w hL)
   refine LoopReq.inv hX (fun s : Nat × Int => [(6, .int .i64 s.2), (56, .int .i64 (lo - s.1))]) [0, 5, 55]
    (fun s w => (s.1 ≤ lo.toNat ∧ i64 s.2) ∧ ∃ m1 ns' L', (Ar ab ns' L' ∧ OkA ns' ∧ repN x s.1 ns' s.2 = R) ∧ Ev.Loc m S0 w0 m1 ((b3, .cells (toArr (reC kd s0 s1 s2 s3 (.slice A n c) lo hi neg)) 52 (0, 0)) :: (bb, boO ab lv e1) :: L') w) (fun s => s.1) (lo.toNat, out)
    ⟨⟨Nat.le_refl _, hout⟩, m1, ns', L', ⟨hA', hO', hR⟩, hL⟩ ⟨rfl, by simp only; rw [show lo - (lo.toNat : Int) = 0 by omega]; rfl, trivial⟩ ?_
   clear hL hR hA' hO' hout
   rintro ⟨k, out⟩ w f ⟨⟨hk, hout⟩, m1, ns', L', ⟨hA', hO', hR⟩, hL⟩
   simp only at hk hout hR
   refine go ?_;try(clear hL;intro w hL)
   refine BrReq.dec (fun hlt => ?_) (fun hlt => ?_)
   ·simp only at hlt
    obtain ⟨k', rfl⟩ : ∃ k', k = k' + 1 := ⟨k - 1, by omega⟩
    rw [repN] at hR
    have hct := okB_cat hO' hx hout
    refine go ?_;try(clear hL;intro w hL)
    refine CallReq.mk (L1 := L') (L2 := [_, _]) (CatF_fn ab (x.toNat + 1) m1 ns' L' hA' hO' x out hx hout (fun _ => Nat.lt_succ_self _) (by omega)) (Loc.back (L1 := [_, _]) hL) ?_
    clear hL
    rintro u m2 Lb w hL hm2 ⟨rfl, hA4⟩
    have hL := Loc.back (L1 := Lb) (L2 := [_, _]) hL
    rw [show catF (x.toNat + 1) ns' x out = catN ns' x out from rfl] at hA4 ⊢
    generalize catN ns' x out = ct at hA4 hct hR ⊢
    conv => whnf
    repeat ((first | (refine ArReq.i64 (by simp only; omega) (by simp only; omega) ?_) | (refine go1 ?_;try(clear hL;intro w hL))); conv => whnf)
    refine ⟨(k', ct.2), ⟨⟨by simp only; omega, hct.2⟩, m2, ct.1, Lb, ⟨hA4, hct.1, hR⟩, hL⟩, by first | omega | (simp only; omega) | (simp only [List.length_cons, List.length_append]; omega), ?_, ?_⟩
    ·repeat (first | exact trivial | (refine And.intro (by (conv => lhs; whnf) <;> (conv => rhs; whnf) <;> (first | rfl | ((congr 1; simp only; omega)))) ?_))
    ·repeat (first | exact trivial | (refine And.intro (by (conv => lhs; whnf) <;> (conv => rhs; whnf) <;> (first | rfl | ((congr 1; simp only; omega)))) ?_))
   ·simp only at hlt
    have hk0 : k = 0 := by omega
    subst hk0
    have hR : (ns', out) = R := hR
    subst hR
    refine go ?_;try(clear hL;intro w hL)
    exact RetReq.mk (hL.sublist (.cons _ (List.Sublist.refl _))) ⟨rfl, L', rfl, hA'⟩
theorem run_eq_nilFunc {P : Program} {t : Nat} {a b : Array TypeId} {c : Bool} (hu : P.underlying t = some (.func a b c)) (v : Value) (r : Bool) (hv : v = .nilFunc ∧ r = true ∨ (∃ f x y, v = .func f x y) ∧ r = false) (w : World) : (Op.equal t v .nilFunc).run P w = .ok r w := by
 have h : ∀ d : Nat, (Op.equalIn (d + 1) t v .nilFunc).run P w = .ok r w := fun d => by
  rcases hv with ⟨rfl, rfl⟩ | ⟨⟨f, x, y, rfl⟩, rfl⟩ <;> simp [Op.equalIn, run_underlying hu]
 exact h 9999
theorem UGenReq.nilFuncNe {P : Program} {o : Oper} {ρ : Operand → Value} {t yt : Nat} {x y : Operand} {a b : Array TypeId} {c : Bool} {v : Value} {K : Value → Prop} (ho : o.op = .binOp .neq t x y yt) (hx : ρ x = v) (hy : ρ y = .nilFunc)
  (hu : P.underlying t = some (.func a b c)) (r : Bool) (hv : v = .nilFunc ∧ r = true ∨ (∃ f x y, v = .func f x y) ∧ r = false) (h : K (.bool (!r))) : UGenReq P o ρ K := by
 have hex : execOp ρ o = (do pure (.value (← (do eqGuard .neq t x y v .nilFunc; binOp .neq t v .nilFunc : Sem Value)))) := by
  simp only [execOp, ho, hx, hy]
 have hg : eqGuard .neq t x y v .nilFunc = pure () := by
  rcases hv with ⟨rfl, -⟩ | ⟨⟨f, p, q, rfl⟩, -⟩ <;> simp [eqGuard]
 refine ⟨UOk.of_run (.bool (!r)) hex (fun w => ?_) h⟩
 rw [hg]
 simp only [Sem.run_bind, Sem.run_pure, Result.andThen_ok, binOp, run_eq_nilFunc hu v r hv]
theorem QLdReq.toldA {P : Program} {X : Tab} (hX : TabsOk P X) {t : Nat} {ti : TI} (ht : Ev.look X.T t = some (some ti)) (hd : ti.d.isAgg = true) {a : Addr} {vs : List Value} {T : World → Prop} {K : Value → Prop} (hl : vs.length = ti.size) (hv : ∀ w, T w → ∀ (j : Nat) (v : Value), vs[j]? = some v → w.cell? (a.add j) = some v) (h : K (.agg (toArr vs))) :
  QLdReq P t T a K := ⟨_, fun w hw => run_loadVar_agg (hX.t _ _ ht) hd hl (fun j v hj => hv w hw j v hj), h⟩
def TB (m : Mem) (S : List Nat) (w0 : World) (b3 bb ab : Nat) (lv : Value) (rc : List Value) (w : World) : Prop := ∃ e, Ev.Loc m S w0 m [(b3, .cells (toArr rc) 52 (0, 0)), (bb, boO ab lv e)] w
theorem TB.ab {m : Mem} {S : List Nat} {w0 : World} {b3 bb ab : Nat} {lv : Value} {rc : List Value} (w : World) (h : TB m S w0 b3 bb ab lv rc w) : w.cell? ⟨bb, 0, none⟩ = some (.pointer (some ⟨ab, 0, none⟩)) := by
 obtain ⟨e, h⟩ := h
 rw [h.ownCell (b := bb) (List.mem_cons_of_mem _ List.mem_cons_self)]; rfl
theorem TB.parts {m : Mem} {S : List Nat} {w0 : World} {b3 bb ab : Nat} {lv : Value} {k s0 s1 s2 s3 lo hi : Int} {v : Value} {neg : Bool} (w : World) (h : TB m S w0 b3 bb ab lv (reC k s0 s1 s2 s3 v lo hi neg) w) : w.cell? ((⟨b3, 0, none⟩ : Addr).add 5) = some v := by
 obtain ⟨e, h⟩ := h
 rw [addr_add, h.ownCell (b := b3) List.mem_cons_self]; rfl
theorem TB.of {m m' : Mem} {S : List Nat} {w0 : World} {b3 bb ab : Nat} {lv : Value} {rc : List Value} {e : Int} {L : Own} {w : World} (h : Ev.Loc m S w0 m' ((b3, .cells (toArr rc) 52 (0, 0)) :: (bb, boO ab lv e) :: L) w) (hm : Mem.Le m m') : TB m S w0 b3 bb ab lv rc w :=
 ⟨e, (h.sublist (.cons_cons _ (.cons_cons _ (List.nil_sublist _)))).weaken hm (Mem.Le.refl _)⟩
def Lkd (lk : Re → Int) (lv : Value) (m0 : Mem) (r : Re) : Prop := ∀ (m : Mem) (ab bb : Nat) (ns : List Nd) (L : Own) (e k s0 s1 s2 s3 lo hi : Int) (neg : Bool) (A : Option Addr) (n c : Nat), Mem.Le m0 m → RepRe m (reC k s0 s1 s2 s3 (.slice A n c) lo hi neg) r → Ar ab ns L → OkA ns →
 Ev.Fn Tryz.prog 150 [.pointer (some ⟨bb, 0, none⟩), .agg (toArr (reC k s0 s1 s2 s3 (.slice A n c) lo hi neg))] m ((bb, boO ab lv e) :: L)
  (BQ ab bb lv (lookedN ns e (lk (.mk k s0 s1 s2 s3 r.parts lo hi false)) neg))
set_option maxHeartbeats 4000000 in
theorem build_fn (lk : Re → Int) (lv : Value) (hlv : lv.oneCell' = true) (m0 : Mem) (r : Re) (hlk : ∀ q : Re, InRe q → Lkd lk lv m0 q) : allR r = true → sizeR r ≤ 1000 → InRe r → Bld lk lv m0 r := by
 induction r using Re.ind with
 | h k s0 s1 s2 s3 rs lo hi neg ih =>
 intro hall hsz hin m ab bb ns L e cs hm0 hrep hA hO
 obtain ⟨A, n, c, rfl, hs, hrng⟩ := hrep.open
 have hsS : InS ⟨s0, s1, s2, s3⟩ := by cases hin; assumption
 have hpi : ∀ p ∈ rs, InRe p := by cases hin; assumption
 have hlk := hlk (.mk k s0 s1 s2 s3 rs lo hi neg) hin m ab bb ns L e k s0 s1 s2 s3 lo hi neg A n c hm0 hrep hA hO
 simp only [allR, Bool.and_eq_true, decide_eq_true_eq] at hall
 obtain ⟨hOw, hall⟩ := hall
 rw [allL_eq, List.all_eq_true] at hall
 have hszL : sizeL rs ≤ 1000 ∧ ∀ p ∈ rs, sizeR p ≤ 1000 := by
  have hc : capR k lo hi (sizeL rs) ≤ 1000 := hsz
  have h1 : sizeL rs ≤ 1000 := by
   unfold capR at hc
   split at hc <;> omega
  refine ⟨h1, fun p hp => ?_⟩
  obtain ⟨i, hi, rfl⟩ := List.getElem_of_mem hp
  have h2 := sizeL_take_le rs (i + 1)
  rw [sizeL_take_succ rs i hi] at h2
  omega
 have hlen : rs.length ≤ 1000 := by
  have : ∀ l : List Re, l.length ≤ sizeL l := fun l => by
   induction l with
   | nil => simp
   | cons p l ih =>
     have : 1 ≤ sizeR p := by
      obtain ⟨k, s0, s1, s2, s3, rs, lo, hi, neg⟩ := p
      simp only [sizeR]
      have := timesR_pos k lo hi
      unfold capR
      split
      ·omega
      ·have : 0 ≤ (sizeL rs : Int) * timesR k lo hi := Int.mul_nonneg (by omega) (by omega)
       omega
     simp only [sizeL, List.length_cons]; omega
  have := this rs
  omega
 have hb : ∀ p ∈ rs, Bld lk lv m0 p := fun p hp => ih p hp (hall p hp) (hszL.2 p hp) (hpi p hp)
 clear ih
 obtain ⟨hOk, hOp, -, -, hO7, -⟩ := hOw
 have hn1 : n = rs.length := by obtain ⟨_, _, _, h1, h2, -⟩ := hs; cases h1; exact h2
 have hsl := fun m' (hm' : Mem.Le m m') => (hs.le hm' fun _ _ _ h => RepRe.le hm' h : Sl m' 9 (RepRe m') (.slice A n c) rs)
 rw [bR]
 refine Fn.enter (N := 105) hX Tryz.func98 rfl rfl (by show _ ≤ _; simp) (fun w0 hL => ?_)
 conv => whnf
 generalize keys ((bb, boO ab lv e) :: L) = S0 at hL ⊢
 refine NewReq.mk hL ?_
 clear hL
 intro b3 w hL
 conv => whnf
 replace hL : Ev.Loc m S0 w0 m ((b3, .cells (toArr (reC k s0 s1 s2 s3 (.slice A n c) lo hi neg)) 52 (0, 0)) :: (bb, boO ab lv e) :: L) w := hL
 by_cases k0 : k = 0
 ·subst k0
  rw [if_pos rfl]
  refine go ?_;try(clear hL;intro w hL)
  refine CallReq.mk (L1 := L) (L2 := [_, _]) (None_fn m ab ns L hA hO) (Loc.back (L1 := [_, _]) hL) ?_
  clear hL
  rintro u mx L2 w hL - ⟨hmx, rfl, hA2⟩
  rw [hmx] at hL
  clear hmx mx
  have hL := Loc.back (L1 := L2) (L2 := [_, _]) hL
  refine go ?_;try(clear hL;intro w hL)
  exact RetReq.mk hL.drop ⟨rfl, L2, rfl, hA2⟩
 rw [if_neg k0]
 by_cases k1 : k = 1
 ·subst k1
  rw [if_pos rfl]
  refine go ?_;try(clear hL;intro w hL)
  refine CallReq.mk (L1 := L) (L2 := [_, _]) (Empty_fn m ab ns L hA hO) (Loc.back (L1 := [_, _]) hL) ?_
  clear hL
  rintro u mx L2 w hL - ⟨hmx, rfl, hA2⟩
  rw [hmx] at hL
  clear hmx mx
  have hL := Loc.back (L1 := L2) (L2 := [_, _]) hL
  refine go ?_;try(clear hL;intro w hL)
  exact RetReq.mk hL.drop ⟨rfl, L2, rfl, hA2⟩
 rw [if_neg k1]
 by_cases k2 : k = 2
 ·subst k2
  rw [if_pos rfl]
  refine go ?_;try(clear hL;intro w hL)
  refine DrawReq.plan hX (.fst 0 (.fst 1 (.fst 2 (.fst 3 (.fst 4 (.fst 5 (.alt 6 (.fst 7 (.done)) (.stop)))))))) [(b3, .cells (toArr (reC 2 s0 s1 s2 s3 (.slice A n c) lo hi neg)) 52 (0, 0)), (bb, boO ab lv e)] (by kernel_rfl) (by kernel_rfl) hL (fun h => h.sublist (.cons_cons _ (.cons_cons _ (List.nil_sublist _)))) ?_
  clear hL
  intro w hL
  refine goq ?_;try(clear hL;intro w hL)
  refine CallReq.mk (L1 := L) (L2 := [_, _]) (Bytes_fn m ab ns L hA hO ⟨s0, s1, s2, s3⟩ hsS) (Loc.back (L1 := [_, _]) hL) ?_
  clear hL
  rintro u mx L2 w hL - ⟨hmx, rfl, hA2⟩
  rw [hmx] at hL
  clear hmx mx
  have hL := Loc.back (L1 := L2) (L2 := [_, _]) hL
  refine SReq.mk (hL.sublist (.cons_cons _ (.cons_cons _ (List.nil_sublist _)))) ?_
  refine goq ?_;try(clear hL;intro w hL)
  exact RetReq.mk hL.drop ⟨rfl, L2, rfl, hA2⟩
 rw [if_neg k2]
 by_cases k3 : k = 3
 ·subst k3
  rw [if_pos rfl]
  refine go ?_;try(clear hL;intro w hL)
  refine CallReq.mk (L1 := L) (L2 := [_, _]) (Empty_fn m ab ns L hA hO) (Loc.back (L1 := [_, _]) hL) ?_
  clear hL
  rintro u mx L2 w hL - ⟨hmx, rfl, hA2⟩
  rw [hmx] at hL
  clear hmx mx
  have hL := Loc.back (L1 := L2) (L2 := [_, _]) hL
  rw [show putI ns (ndK 1) = (emptyN ns).2 from rfl]
  change Ar ab (emptyN ns).1 L2 at hA2
  have hem := okB_empty hO
  generalize emptyN ns = em at hA2 hem ⊢
  replace hL : Ev.Loc m S0 w0 m ((b3, .cells (toArr (reC 3 s0 s1 s2 s3 (.slice A n c) lo hi neg)) 52 (0, 0)) :: (bb, boO ab lv e) :: L2) w := hL
  clear hA
  refine go ?_;try(clear hL;intro w hL)
  refine CallReq.mk (L1 := (bb, boO ab lv e) :: L2) (L2 := [_]) (all_fn lk lv hlv m0 rs hb hpi hlen m ab bb em.1 L2 e _ hm0 hs hA2 hem.1) (Loc.back (L1 := [_]) hL) ?_
  clear hL
  rintro u m1 Lx w hL hm1 ⟨-, Lo, L3, rfl, hA3, ho⟩
  have hok := okB_L lk rs hpi em.1 e hem.1
  have hln := bL_len lk rs em.1 e
  generalize bL lk rs em.1 e = q at hA3 ho hL hok hln ⊢
  obtain ⟨A1, n2, c1, rfl, hn2⟩ := ho.slice
  rw [List.append_assoc] at hL
  obtain ⟨m2, hL1, hm2, hsl⟩ := OwnS.freeze ho hL
  clear hL ho
  have hL := Loc.back (L1 := (bb, boO ab lv q.1.2) :: L3) (L2 := [_]) hL1
  clear hL1
  replace hL : Ev.Loc m S0 w0 m2 ((b3, .cells (toArr (reC 3 s0 s1 s2 s3 (.slice A n c) lo hi neg)) 52 (0, 0)) :: (bb, boO ab lv q.1.2) :: L3) w := hL
  obtain ⟨hq2, hcl⟩ := hsl.cell
  dsimp only
  generalize hR : catsN q.1.1 q.2.reverse em.2 = R
  have hmx : maxLen = 9223372036854775807 := rfl
  refine go ?_;try(clear hL;intro w hL)
  refine LoopReq.inv hX (fun s : Nat × Int × Int => [(5, .int .i64 s.2.1), (7, .int .i64 s.2.2)]) [0, 6]
   (fun s w => (s.1 ≤ q.2.length ∧ i64 s.2.1 ∧ s.2.2 = (s.1 : Int) - 1) ∧ ∃ m3 ns' L', (Mem.Le m2 m3 ∧ Ar ab ns' L' ∧ OkA ns' ∧ catsN ns' (q.2.take s.1).reverse s.2.1 = R) ∧ Ev.Loc m S0 w0 m3 ((b3, .cells (toArr (reC 3 s0 s1 s2 s3 (.slice A n c) lo hi neg)) 52 (0, 0)) :: (bb, boO ab lv q.1.2) :: L') w) (fun s => s.1) (q.2.length, em.2, (n2 : Int) - 1)
   ⟨⟨Nat.le_refl _, hem.2, by simp only; omega⟩, m2, q.1.1, L3, ⟨Mem.Le.refl m2, hA3, hok.1, by rw [List.take_length]; exact hR⟩, hL⟩ ⟨rfl, rfl, trivial⟩ ?_
  clear hL hR hA3
  rintro ⟨j, out, i⟩ w f ⟨⟨hj, hout, hi⟩, m3, ns', L', ⟨hm3, hA', hO', hR⟩, hL⟩
  simp only at hj hout hi hR
  refine go ?_;try(clear hL;intro w hL)
  cases j with
  | zero =>
    refine BrReq.no (by simp only; omega) ?_
    refine go ?_;try(clear hL;intro w hL)
    have hR : (ns', out) = R := hR
    subst hR
    exact RetReq.mk hL.drop ⟨rfl, L', rfl, hA'⟩
  | succ j =>
    refine BrReq.yes (by simp only; omega) ?_
    have hjl : j < q.2.length := by omega
    have hsl3 : SlI m3 .i64 (.slice A1 n2 c1) q.2 := hsl.le hm3 (fun _ _ _ h => h)
    obtain ⟨a, ea, hc3⟩ := hsl3.cell.2 j _ (List.getElem?_eq_getElem hjl)
    have hzi := hok.2 _ (List.getElem_mem hjl)
    rw [List.take_succ_eq_append_getElem hjl, List.reverse_append] at hR
    generalize q.2[j] = z at hc3 hzi hR
    replace hR : catsN (catN ns' z out).1 (q.2.take j).reverse (catN ns' z out).2 = R := hR
    have hct := okB_cat hO' hzi hout
    refine go ?_;try(clear hL;intro w hL)
    refine DrawReq.plan hX (.fst 0 (.fst 1 (.fst 2 (.fst 3 (.fst 4 (.fst 5 (.fst 6 (.fst 7 (.fst 8 (.alt 9 (.fst 10 (.done)) (.stop))))))))))) [(bb, boO ab lv q.1.2)] (by kernel_rfl) (by kernel_rfl) hL (fun h => h.one 1 rfl) ?_
    clear hL
    intro w hL
    conv => whnf
    repeat ((first | (refine Idx2Req.mk j a (by simp only; omega) (by omega) ea ?_) | refine LdReq.one hX rfl rfl hL hc3 ?_ | refine QLdReq.one hX rfl rfl hc3 ?_ | (refine goq1 ?_;try(clear hL;intro w hL))); conv => whnf)
    refine CallReq.mk (L1 := L') (L2 := [_, _]) (CatF_fn ab (z.toNat + 1) m3 ns' L' hA' hO' z out hzi hout (fun _ => Nat.lt_succ_self _) (by omega)) (Loc.back (L1 := [_, _]) hL) ?_
    clear hL
    rintro u m4 Lb w hL hm4 ⟨rfl, hA4⟩
    have hL := Loc.back (L1 := Lb) (L2 := [_, _]) hL
    rw [show catF (z.toNat + 1) ns' z out = catN ns' z out from rfl] at hA4 ⊢
    generalize catN ns' z out = ct at hA4 hct hR ⊢
    refine SReq.mk ((hL.one 1 rfl).weaken hm4 (hm1.trans (hm2.trans hm3))) ?_
    conv => whnf
    repeat ((first | (refine ArReq.i64 (by simp only; omega) (by simp only; omega) ?_) | (refine goq1 ?_;try(clear hL;intro w hL))); conv => whnf)
    exact rnd (j, ct.2, i - 1) ⟨⟨by simp only; omega, hct.2, by simp only; omega⟩, m4, ct.1, Lb, ⟨hm3.trans hm4, hA4, hct.1, hR⟩, hL⟩
 rw [if_neg k3]
 by_cases k4 : k = 4
 ·subst k4
  rw [if_pos rfl]
  refine go ?_;try(clear hL;intro w hL)
  refine DrawReq.planS hX (.fst 0 (.fst 1 (.fst 2 (.fst 3 (.fst 4 (.fst 5 (.fst 6 (.alt 7 (.alt 8 (.fst 9 (.done)) (.stop)) (.stop))))))))) (TB m S0 w0 b3 bb ab lv (reC 4 s0 s1 s2 s3 (.slice A n c) lo hi neg)) (by kernel_rfl) (by kernel_rfl) hL (fun w h => TB.of h (Mem.Le.refl _)) ?_
  clear hL
  intro w hL
  conv => whnf
  repeat ((first | refine QLdReq.told hX rfl rfl TB.ab ?_ | refine QLdReq.told hX rfl rfl TB.parts ?_ | (refine goq1 ?_;try(clear hL;intro w hL))); conv => whnf)
  refine CallReq.mk (L1 := (bb, boO ab lv e) :: L) (L2 := [_]) (all_fn lk lv hlv m0 rs hb hpi hlen m ab bb ns L e _ hm0 hs hA hO) (Loc.back (L1 := [_]) hL) ?_
  clear hL
  rintro u m1 Lx w hL hm1 ⟨-, Lo, L3, rfl, hA3, ho⟩
  have hok := okB_L lk rs hpi ns e hO
  have hln := bL_len lk rs ns e
  generalize bL lk rs ns e = q at hA3 ho hL hok hln ⊢
  obtain ⟨A1, n1, c1, rfl, hn1⟩ := ho.slice
  rw [List.append_assoc] at hL
  obtain ⟨m2, hL1, hm2, hsl⟩ := OwnS.freeze ho hL
  clear hL ho
  have hL := Loc.back (L1 := (bb, boO ab lv q.1.2) :: L3) (L2 := [_]) hL1
  clear hL1
  replace hL : Ev.Loc m S0 w0 m2 ((b3, .cells (toArr (reC 4 s0 s1 s2 s3 (.slice A n c) lo hi neg)) 52 (0, 0)) :: (bb, boO ab lv q.1.2) :: L3) w := hL
  refine SReq.mk (TB.of hL (hm1.trans hm2)) ?_
  dsimp only
  refine goq ?_;try(clear hL;intro w hL)
  refine CallReq.mk (L1 := L3) (L2 := [_, _]) (OrG_fn m2 ab q.1.1 L3 hA3 hok.1 _ q.2 hsl (by omega)) (Loc.back (L1 := [_, _]) hL) ?_
  clear hL
  rintro u m3 L4 w hL hm3 ⟨rfl, hA4⟩
  have hL := Loc.back (L1 := L4) (L2 := [_, _]) hL
  refine SReq.mk (TB.of hL ((hm1.trans hm2).trans hm3)) ?_
  refine goq ?_;try(clear hL;intro w hL)
  exact RetReq.mk hL.drop ⟨rfl, L4, rfl, hA4⟩
 rw [if_neg k4]
 by_cases k5 : k = 5
 ·subst k5
  rw [if_pos rfl]
  refine go ?_;try(clear hL;intro w hL)
  refine DrawReq.planS hX (.fst 0 (.fst 1 (.fst 2 (.fst 3 (.fst 4 (.fst 5 (.fst 6 (.alt 7 (.alt 8 (.fst 9 (.done)) (.stop)) (.stop))))))))) (TB m S0 w0 b3 bb ab lv (reC 5 s0 s1 s2 s3 (.slice A n c) lo hi neg)) (by kernel_rfl) (by kernel_rfl) hL (fun w h => TB.of h (Mem.Le.refl _)) ?_
  clear hL
  intro w hL
  conv => whnf
  repeat ((first | refine QLdReq.told hX rfl rfl TB.ab ?_ | refine QLdReq.told hX rfl rfl TB.parts ?_ | (refine goq1 ?_;try(clear hL;intro w hL))); conv => whnf)
  refine CallReq.mk (L1 := (bb, boO ab lv e) :: L) (L2 := [_]) (all_fn lk lv hlv m0 rs hb hpi hlen m ab bb ns L e _ hm0 hs hA hO) (Loc.back (L1 := [_]) hL) ?_
  clear hL
  rintro u m1 Lx w hL hm1 ⟨-, Lo, L3, rfl, hA3, ho⟩
  have hok := okB_L lk rs hpi ns e hO
  have hln := bL_len lk rs ns e
  generalize bL lk rs ns e = q at hA3 ho hL hok hln ⊢
  obtain ⟨A1, n1, c1, rfl, hn1⟩ := ho.slice
  rw [List.append_assoc] at hL
  obtain ⟨m2, hL1, hm2, hsl⟩ := OwnS.freeze ho hL
  clear hL ho
  have hL := Loc.back (L1 := (bb, boO ab lv q.1.2) :: L3) (L2 := [_]) hL1
  clear hL1
  replace hL : Ev.Loc m S0 w0 m2 ((b3, .cells (toArr (reC 5 s0 s1 s2 s3 (.slice A n c) lo hi neg)) 52 (0, 0)) :: (bb, boO ab lv q.1.2) :: L3) w := hL
  refine SReq.mk (TB.of hL (hm1.trans hm2)) ?_
  dsimp only
  refine goq ?_;try(clear hL;intro w hL)
  refine CallReq.mk (L1 := L3) (L2 := [_, _]) (AndG_fn m2 ab q.1.1 L3 hA3 hok.1 _ q.2 hsl (by omega)) (Loc.back (L1 := [_, _]) hL) ?_
  clear hL
  rintro u m3 L4 w hL hm3 ⟨rfl, hA4⟩
  have hL := Loc.back (L1 := L4) (L2 := [_, _]) hL
  refine SReq.mk (TB.of hL ((hm1.trans hm2).trans hm3)) ?_
  refine goq ?_;try(clear hL;intro w hL)
  exact RetReq.mk hL.drop ⟨rfl, L4, rfl, hA4⟩
 rw [if_neg k5]
 have hone : k = 6 ∨ k = 7 → ∃ p, rs = [p] := fun h => by
  have e : partsK k = 1 := by unfold partsK; rw [if_neg (by omega), if_pos (by omega)]
  rw [e] at hOp
  have := hOp (by omega)
  match rs, this with
  | [p], _ => exact ⟨p, rfl⟩
  | [], h => simp at h
  | _ :: _ :: _, h => simp at h; omega
 have hbl : ∀ p, bL lk [p] ns e = ((bR lk p ns e).1, [(bR lk p ns e).2]) := fun p => by simp [bL]
 by_cases k6 : k = 6
 ·subst k6
  obtain ⟨p, rfl⟩ := hone (.inl rfl)
  obtain ⟨a, cs', eA, hl9, hcells, hrep'⟩ := hs.elem 0 p rfl
  rw [if_pos rfl, hbl]
  dsimp only
  rw [show ([(bR lk p ns e).2] : List Int).headD 0 = (bR lk p ns e).2 from rfl]
  have hok := okB_R lk p (hpi p (by simp)) ns e hO
  have hbp := hb p (by simp) m ab bb ns L e cs' hm0 hrep' hA hO
  have hcw : ∀ w, TB m S0 w0 b3 bb ab lv (reC 6 s0 s1 s2 s3 (.slice A n c) lo hi neg) w → ∀ (j : Nat) (v : Value), cs'[j]? = some v → w.cell? ((a.add (scale 0 9)).add j) = some v := fun w ⟨_, h⟩ j v hj => h.cell (hcells j v hj)
  refine go ?_;try(clear hL;intro w hL)
  refine DrawReq.planS hX (.fst 0 (.fst 1 (.fst 2 (.fst 3 (.fst 4 (.fst 5 (.fst 6 (.fst 7 (.fst 8 (.alt 9 (.alt 10 (.fst 11 (.done)) (.stop)) (.stop))))))))))) (TB m S0 w0 b3 bb ab lv (reC 6 s0 s1 s2 s3 (.slice A n c) lo hi neg)) (by kernel_rfl) (by kernel_rfl) hL (fun w h => TB.of h (Mem.Le.refl _)) ?_
  clear hL
  intro w hL
  conv => whnf
  repeat ((first | refine QLdReq.told hX rfl rfl TB.ab ?_ | refine QLdReq.told hX rfl rfl TB.parts ?_ | (refine Idx2Req.mk 0 a rfl (by rw [hn1]; simp) eA ?_) | refine QLdReq.toldA hX rfl rfl hl9 hcw ?_ | (refine goq1 ?_;try(clear hL;intro w hL))); conv => whnf)
  refine CallReq.mk (L1 := (bb, boO ab lv e) :: L) (L2 := [_]) hbp (Loc.back (L1 := [_]) hL) ?_
  clear hL
  rintro u m1 Lx w hL hm1 ⟨rfl, L3, rfl, hA3⟩
  generalize bR lk p ns e = q at hA3 hL hok ⊢
  have hL := Loc.back (L1 := (bb, boO ab lv q.1.2) :: L3) (L2 := [_]) hL
  refine SReq.mk (TB.of hL hm1) ?_
  refine goq ?_;try(clear hL;intro w hL)
  refine CallReq.mk (L1 := L3) (L2 := [_, _]) (NotG_fn m1 ab q.1.1 L3 hA3 hok.1 q.2) (Loc.back (L1 := [_, _]) hL) ?_
  clear hL
  rintro u m3 L4 w hL hm3 ⟨rfl, hA4⟩
  have hL := Loc.back (L1 := L4) (L2 := [_, _]) hL
  refine SReq.mk (TB.of hL (hm1.trans hm3)) ?_
  refine goq ?_;try(clear hL;intro w hL)
  exact RetReq.mk hL.drop ⟨rfl, L4, rfl, hA4⟩
 rw [if_neg k6]
 by_cases k7 : k = 7
 ·subst k7
  obtain ⟨p, rfl⟩ := hone (.inr rfl)
  obtain ⟨h71, h72, h73⟩ := hO7 rfl
  rw [if_pos rfl, hbl]
  dsimp only
  rw [show ([(bR lk p ns e).2] : List Int).headD 0 = (bR lk p ns e).2 from rfl]
  have htf := times_fn lk lv m0 p (hb p (by simp)) (hpi p (by simp)) m ab bb ns L e 7 s0 s1 s2 s3 lo hi neg A n c hm0 hs (by omega) (by omega) hA hO
  refine go ?_;try(clear hL;intro w hL)
  refine CallReq.mk (L1 := (bb, boO ab lv e) :: L) (L2 := [_]) htf (Loc.back (L1 := [_]) hL) ?_
  clear hL
  rintro u m1 Lx w hL hm1 ⟨rfl, L3, rfl, hA3⟩
  have hL := Loc.back (L2 := [_]) hL
  refine go ?_;try(clear hL;intro w hL)
  exact RetReq.mk hL.drop ⟨rfl, L3, rfl, hA3⟩
 rw [if_neg k7]
 obtain ⟨hr0, hr11⟩ := hOk
 conv => whnf
 repeat ((first | refine BrReq.no (by omega) ?_ | (refine go1 ?_;try(clear hL;intro w hL))); conv => whnf)
 refine CallReq.mk (L1 := (bb, boO ab lv e) :: L) (L2 := [_]) hlk (Loc.back (L1 := [_]) hL) ?_
 clear hL
 rintro u m1 Lx w hL hm1 ⟨rfl, L3, rfl, hA3⟩
 have hL := Loc.back (L2 := [_]) hL
 refine go ?_;try(clear hL;intro w hL)
 exact RetReq.mk hL.drop ⟨rfl, L3, rfl, hA3⟩
def buildN (lk : Re → Int) (ns : List Nd) (r : Re) : List Nd × Int × Int :=
 if formedR r = false then (ns, 0, 1) else
 let b := bR lk r ns 0
 if b.1.2 ≠ 0 then (b.1.1, 0, b.1.2) else if b.2 < 0 then (b.1.1, 0, 4) else (b.1.1, b.2, 0)
theorem formed_size {r : Re} (h : formedR r = true) : allR r = true ∧ sizeR r ≤ 1000 := by
 unfold formedR at h
 simp only [Bool.and_eq_true, decide_eq_true_eq] at h
 exact ⟨h.1.2, h.2⟩
theorem Build_fn (lk : Re → Int) (lv : Value) (hlv : lv = .nilFunc ∨ ∃ f x y, lv = .func f x y) (m : Mem) (r : Re) (hlk : ∀ q : Re, InRe q → Lkd lk lv m q) (cs : List Value) (hrep : RepRe m cs r) (ab : Nat) (ns : List Nd) (L : Own) (hA : Ar ab ns L) (hO : OkA ns) :
  Ev.Fn Tryz.prog 67 [.pointer (some ⟨ab, 0, none⟩), .agg (toArr cs), lv] m L fun _ L' u => u = .tuple (toArr [.int .i64 (buildN lk ns r).2.1, .int .i64 (buildN lk ns r).2.2]) ∧ Ar ab (buildN lk ns r).1 L' := by
 obtain ⟨k, s0, s1, s2, s3, A, n, c, lo, hi, neg, rfl⟩ := hrep.form
 have hl1 : lv.oneCell' = true := by rcases hlv with rfl | ⟨f, x, y, rfl⟩ <;> rfl
 have hbf := fun (h1 : allR r = true) (h2 : sizeR r ≤ 1000) => build_fn lk lv hl1 m r hlk h1 h2 (rep_in r hrep)
 have hok := okB_R lk r (rep_in r hrep) ns 0 hO
 clear hl1 hlk
 rcases hlv with rfl | ⟨f, x, y, rfl⟩
 ·refine Fn.enter (N := 38) hX Tryz.func67 rfl rfl (by show _ ≤ _; simp) (fun w0 hL => ?_)
  conv => whnf
  generalize keys L = S0 at hL ⊢
  refine NewReq.mk hL ?_
  clear hL
  intro b4 w hL
  conv => whnf
  replace hL : Ev.Loc m S0 w0 m ((b4, .cells (toArr (reC k s0 s1 s2 s3 (.slice A n c) lo hi neg)) 52 (0, 0)) :: L) w := hL
  conv => whnf
  repeat ((first | refine UGenReq.nilPtr hX rfl rfl rfl rfl rfl ?_ | (refine go1 ?_;try(clear hL;intro w hL))); conv => whnf)
  refine CallReq.val (Formed_fn m r _ hrep) hL ?_
  clear hL
  intro w hL
  unfold buildN
  cases hf : formedR r with
  | false =>
    rw [if_pos rfl]
    refine go ?_;try(clear hL;intro w hL)
    exact RetReq.mk hL.drop ⟨rfl, hA⟩
  | true =>
  rw [if_neg (by decide)]
  obtain ⟨hall, hsz⟩ := formed_size hf
  have hbf := hbf hall hsz m ab
  refine go ?_;try(clear hL;intro w hL)
  refine NewReq.mk hL ?_
  clear hL
  intro bb w hL
  conv => whnf
  replace hL : Ev.Loc m S0 w0 m ([(b4, .cells (toArr (reC k s0 s1 s2 s3 (.slice A n c) lo hi neg)) 52 (0, 0))] ++ ((bb, boO ab .nilFunc 0) :: L)) w := hL.perm (List.Perm.swap _ _ _)
  refine go ?_;try(clear hL;intro w hL)
  refine CallReq.mk (L1 := (bb, boO ab .nilFunc 0) :: L) (L2 := [_]) (hbf bb ns L 0 _ (Mem.Le.refl m) hrep hA hO) (Loc.back (L1 := [_]) hL) ?_
  clear hL
  rintro u m2 Lx w hL hm2 ⟨rfl, L2, rfl, hA2⟩
  generalize bR lk r ns 0 = b at hA2 hL hok ⊢
  dsimp only
  replace hL : Ev.Loc m S0 w0 m2 ((bb, boO ab .nilFunc b.1.2) :: (L2 ++ [(b4, .cells (toArr (reC k s0 s1 s2 s3 (.slice A n c) lo hi neg)) 52 (0, 0))])) w := hL
  by_cases he : b.1.2 = 0
  ·rw [if_neg (fun h => h he)]
   by_cases hb : b.2 < 0
   ·rw [if_pos hb]
    conv => whnf
    repeat ((first | refine BrReq.no (fun h => h he) ?_ | refine BrReq.yes hb ?_ | (refine go1 ?_;try(clear hL;intro w hL))); conv => whnf)
    exact RetReq.mk (hL.drop.sublist (List.sublist_append_left _ _)) ⟨rfl, hA2⟩
   ·rw [if_neg hb]
    conv => whnf
    repeat ((first | refine BrReq.no (fun h => h he) ?_ | refine BrReq.no hb ?_ | (refine go1 ?_;try(clear hL;intro w hL))); conv => whnf)
    exact RetReq.mk (hL.drop.sublist (List.sublist_append_left _ _)) ⟨rfl, hA2⟩
  ·rw [if_pos he]
   conv => whnf
   repeat ((first | refine BrReq.yes he ?_ | (refine go1 ?_;try(clear hL;intro w hL))); conv => whnf)
   refine DrawReq.plan hX (.fst 0 (.fst 1 (.fst 2 (.fst 3 (.fst 4 (.fst 5 (.done))))))) [(bb, boO ab .nilFunc b.1.2)] (by kernel_rfl) (by kernel_rfl) hL (fun h => h.one 0 rfl) ?_
   clear hL
   intro w hL
   refine goq ?_;try(clear hL;intro w hL)
   exact RetReq.mk (hL.drop.sublist (List.sublist_append_left _ _)) ⟨rfl, hA2⟩
 ·refine Fn.enter (N := 38) hX Tryz.func67 rfl rfl (by show _ ≤ _; simp) (fun w0 hL => ?_)
  conv => whnf
  generalize keys L = S0 at hL ⊢
  refine NewReq.mk hL ?_
  clear hL
  intro b4 w hL
  conv => whnf
  replace hL : Ev.Loc m S0 w0 m ((b4, .cells (toArr (reC k s0 s1 s2 s3 (.slice A n c) lo hi neg)) 52 (0, 0)) :: L) w := hL
  conv => whnf
  repeat ((first | refine UGenReq.nilPtr hX rfl rfl rfl rfl rfl ?_ | (refine go1 ?_;try(clear hL;intro w hL))); conv => whnf)
  refine CallReq.val (Formed_fn m r _ hrep) hL ?_
  clear hL
  intro w hL
  unfold buildN
  cases hf : formedR r with
  | false =>
    rw [if_pos rfl]
    refine go ?_;try(clear hL;intro w hL)
    exact RetReq.mk hL.drop ⟨rfl, hA⟩
  | true =>
  rw [if_neg (by decide)]
  obtain ⟨hall, hsz⟩ := formed_size hf
  have hbf := hbf hall hsz m ab
  refine go ?_;try(clear hL;intro w hL)
  refine NewReq.mk hL ?_
  clear hL
  intro bb w hL
  conv => whnf
  replace hL : Ev.Loc m S0 w0 m ([(b4, .cells (toArr (reC k s0 s1 s2 s3 (.slice A n c) lo hi neg)) 52 (0, 0))] ++ ((bb, boO ab (.func f x y) 0) :: L)) w := hL.perm (List.Perm.swap _ _ _)
  refine go ?_;try(clear hL;intro w hL)
  refine CallReq.mk (L1 := (bb, boO ab (.func f x y) 0) :: L) (L2 := [_]) (hbf bb ns L 0 _ (Mem.Le.refl m) hrep hA hO) (Loc.back (L1 := [_]) hL) ?_
  clear hL
  rintro u m2 Lx w hL hm2 ⟨rfl, L2, rfl, hA2⟩
  generalize bR lk r ns 0 = b at hA2 hL hok ⊢
  dsimp only
  replace hL : Ev.Loc m S0 w0 m2 ((bb, boO ab (.func f x y) b.1.2) :: (L2 ++ [(b4, .cells (toArr (reC k s0 s1 s2 s3 (.slice A n c) lo hi neg)) 52 (0, 0))])) w := hL
  by_cases he : b.1.2 = 0
  ·rw [if_neg (fun h => h he)]
   by_cases hb : b.2 < 0
   ·rw [if_pos hb]
    conv => whnf
    repeat ((first | refine BrReq.no (fun h => h he) ?_ | refine BrReq.yes hb ?_ | (refine go1 ?_;try(clear hL;intro w hL))); conv => whnf)
    exact RetReq.mk (hL.drop.sublist (List.sublist_append_left _ _)) ⟨rfl, hA2⟩
   ·rw [if_neg hb]
    conv => whnf
    repeat ((first | refine BrReq.no (fun h => h he) ?_ | refine BrReq.no hb ?_ | (refine go1 ?_;try(clear hL;intro w hL))); conv => whnf)
    exact RetReq.mk (hL.drop.sublist (List.sublist_append_left _ _)) ⟨rfl, hA2⟩
  ·rw [if_pos he]
   conv => whnf
   repeat ((first | refine BrReq.yes he ?_ | (refine go1 ?_;try(clear hL;intro w hL))); conv => whnf)
   refine DrawReq.plan hX (.fst 0 (.fst 1 (.fst 2 (.fst 3 (.fst 4 (.fst 5 (.done))))))) [(bb, boO ab (.func f x y) b.1.2)] (by kernel_rfl) (by kernel_rfl) hL (fun h => h.one 0 rfl) ?_
   clear hL
   intro w hL
   refine goq ?_;try(clear hL;intro w hL)
   exact RetReq.mk (hL.drop.sublist (List.sublist_append_left _ _)) ⟨rfl, hA2⟩
end Go.Proofs.YtaooenndoopgdaaGreatDoor.ar
namespace Go.Proofs.YtaooenndoopgdaaGreatDoor.looks
open Go Go.Ev Go.Proofs Go.Proofs.YtaooenndoopgdaaGreatDoor.tree Go.Proofs.YtaooenndoopgdaaGreatDoor.ar
def ixV (v : Value) : Value := .func (.func 68) #[.agg (toArr [v])] #[]
theorem rep_bare {m : Mem} {k s0 s1 s2 s3 lo hi : Int} {neg : Bool} {A : Option Addr} {n c : Nat} {r : Re} (h : RepRe m (reC k s0 s1 s2 s3 (.slice A n c) lo hi neg) r) : r = .mk k s0 s1 s2 s3 r.parts lo hi neg := by
 obtain ⟨k', t0, t1, t2, t3, rs, lo', hi', neg'⟩ := r
 obtain ⟨A', n', c', e, hs, hr⟩ := h.open
 injection e with e0 e; injection e with e1 e; injection e with e2 e; injection e with e3 e; injection e with e4 e; injection e with e5 e; injection e with e6 e; injection e with e7 e; injection e with e8 e
 cases e0; cases e1; cases e2; cases e3; cases e4; cases e5; cases e6; cases e7; cases e8
 rfl
theorem looked_ix (m0 : Mem) (v : Value) (ls : List Re) (hs : Sl m0 9 (RepRe m0) v ls) (r : Re) : Lkd (lkR ls) (ixV v) m0 r := by
 intro m ab bb ns L e k s0 s1 s2 s3 lo hi neg A n c hm0 hr hA hO
 have hsm : Sl m 9 (RepRe m) v ls := hs.le hm0 fun _ _ _ h => h.le hm0
 have hrb := bare_rep hr
 have hre := rep_bare hr
 have hbe : bareR r = .mk k s0 s1 s2 s3 r.parts lo hi false := by rw [hre]; rfl
 have hix := Index_fn m v ls (bareR r) _ hsm hrb
 rw [show idxR (fun x => likeR x (bareR r)) ls = lkR ls (bareR r) from rfl, hbe] at hix
 generalize lkR ls (.mk k s0 s1 s2 s3 r.parts lo hi false) = q at hix ⊢
 obtain ⟨V, hV⟩ : ∃ V, V = ixV v := ⟨_, rfl⟩
 have hVf : V = .func (.func 68) #[.agg (toArr [v])] #[] := hV
 rw [← hV]
 refine Fn.enter (N := 42) hX Tryz.func150 rfl rfl (by show _ ≤ _; simp) (fun w0 hL => ?_)
 conv => whnf
 generalize keys ((bb, boO ab V e) :: L) = S0 at hL ⊢
 refine NewReq.mk hL ?_
 clear hL
 intro b3 w hL
 conv => whnf
 replace hL : Ev.Loc m S0 w0 m ((b3, .cells (toArr (reC k s0 s1 s2 s3 (.slice A n c) lo hi neg)) 52 (0, 0)) :: (bb, boO ab V e) :: L) w := hL
 subst hVf
 conv => whnf
 repeat ((first | refine UGenReq.nilFuncNe rfl rfl rfl Tryz.underlying144 false (.inr ⟨⟨_, _, _, rfl⟩, rfl⟩) ?_ | (refine go1 ?_;try(clear hL;intro w hL))); conv => whnf)
 refine DrawReq.plan hX (.fst 0 (.fst 1 (.fst 2 (.fst 3 (.fst 4 (.alt 5 (.fst 6 (.done)) (.stop))))))) [(b3, .cells (toArr (reC k s0 s1 s2 s3 (.slice A n c) lo hi false)) 52 (0, 0)), (bb, boO ab (.func (.func 68) #[.agg (toArr [v])] #[]) e)] (by kernel_rfl) (by kernel_rfl) hL (fun h => h.sublist (.cons_cons _ (.cons_cons _ (List.nil_sublist _)))) ?_
 clear hL
 intro w hL
 refine goq ?_;try(clear hL;intro w hL)
 refine CallReq.val hix hL ?_
 clear hL
 intro w hL
 refine SReq.mk (hL.sublist (.cons_cons _ (.cons_cons _ (List.nil_sublist _)))) ?_
 refine goq ?_;try(clear hL;intro w hL)
 unfold lookedN
 by_cases hq : q < 0
 ·rw [if_pos (.inl hq)]
  conv => whnf
  repeat ((first | refine BrReq.yes hq ?_ | (refine goq1 ?_;try(clear hL;intro w hL))); conv => whnf)
  refine CallReq.mk (L1 := L) (L2 := [_, _]) (None_fn m ab ns L hA hO) (Loc.back (L1 := [_, _]) hL) ?_
  clear hL
  rintro u mx L2 w hL - ⟨hmx, rfl, hA2⟩
  rw [hmx] at hL
  clear hmx mx
  have hL := Loc.back (L1 := L2) (L2 := [_, _]) hL
  refine go ?_;try(clear hL;intro w hL)
  exact RetReq.mk hL.drop ⟨rfl, L2, rfl, hA2⟩
 by_cases hq4 : 4 ≤ q
 ·rw [if_pos (.inr hq4)]
  conv => whnf
  repeat ((first | refine BrReq.no hq ?_ | refine BrReq.yes (show 4 ≤ q from hq4) ?_ | (refine goq1 ?_;try(clear hL;intro w hL))); conv => whnf)
  refine CallReq.mk (L1 := L) (L2 := [_, _]) (None_fn m ab ns L hA hO) (Loc.back (L1 := [_, _]) hL) ?_
  clear hL
  rintro u mx L2 w hL - ⟨hmx, rfl, hA2⟩
  rw [hmx] at hL
  clear hmx mx
  have hL := Loc.back (L1 := L2) (L2 := [_, _]) hL
  refine go ?_;try(clear hL;intro w hL)
  exact RetReq.mk hL.drop ⟨rfl, L2, rfl, hA2⟩
 ·rw [if_neg (by omega)]
  conv => whnf
  repeat ((first | refine BrReq.no hq ?_ | refine BrReq.no (show ¬ 4 ≤ q from hq4) ?_ | (refine goq1 ?_;try(clear hL;intro w hL))); conv => whnf)
  refine CallReq.mk (L1 := L) (L2 := [_, _]) (Look_fn m ab ns L hA hO q (by unfold i64; omega) neg) (Loc.back (L1 := [_, _]) hL) ?_
  clear hL
  rintro u mx L2 w hL - ⟨hmx, rfl, hA2⟩
  rw [hmx] at hL
  clear hmx mx
  have hL := Loc.back (L1 := L2) (L2 := [_, _]) hL
  refine go ?_;try(clear hL;intro w hL)
  exact RetReq.mk hL.drop ⟨rfl, L2, rfl, hA2⟩
theorem PlanBuild_fn (m : Mem) (v : Value) (ls : List Re) (hs : Sl m 9 (RepRe m) v ls) (r : Re) (cs : List Value) (hrep : RepRe m cs r) (ab : Nat) (ns : List Nd) (L : Ev.Own) (hA : Ar ab ns L) (hO : OkA ns) :
  Ev.Fn Tryz.prog 43 [.agg (toArr [v]), .pointer (some ⟨ab, 0, none⟩), .agg (toArr cs)] m L fun _ L' u => u = .tuple (toArr [.int .i64 (buildN (lkR ls) ns r).2.1, .int .i64 (buildN (lkR ls) ns r).2.2]) ∧ Ar ab (buildN (lkR ls) ns r).1 L' := by
 have hbf := Build_fn (lkR ls) (ixV v) (.inr ⟨_, _, _, rfl⟩) m r (fun q _ => looked_ix m v ls hs q) cs hrep ab ns L hA hO
 obtain ⟨k, s0, s1, s2, s3, A, n, c, lo, hi, neg, rfl⟩ := hrep.form
 obtain ⟨A1, n1, c1, rfl, -⟩ := id hs
 refine Fn.enter (N := 15) hX Tryz.func43 rfl rfl (by show _ ≤ _; simp) (fun w0 hL => ?_)
 conv => whnf
 generalize keys L = S0 at hL ⊢
 refine NewReq.mk hL ?_
 clear hL
 intro b3 w hL
 conv => whnf
 refine NewReq.mk hL ?_
 clear hL
 intro b5 w hL
 conv => whnf
 replace hL : Ev.Loc m S0 w0 m ((b5, .cells (toArr (reC k s0 s1 s2 s3 (.slice A n c) lo hi neg)) 52 (0, 0)) :: (b3, .cells (toArr [.slice A1 n1 c1]) 44 (0, 0)) :: L) w := hL
 refine go ?_;try(clear hL;intro w hL)
 refine CallReq.mk (L1 := L) (L2 := [_, _]) hbf (Loc.back (L1 := [_, _]) hL) ?_
 clear hL
 rintro u m2 L2 w hL hm2 ⟨rfl, hA2⟩
 have hL := Loc.back (L1 := L2) (L2 := [_, _]) hL
 refine go ?_;try(clear hL;intro w hL)
 exact RetReq.mk hL.drop.drop ⟨rfl, hA2⟩
end Go.Proofs.YtaooenndoopgdaaGreatDoor.looks
namespace Go.Proofs.YtaooenndoopgdaaGreatDoor.ar
open Go Go.Ev Go.Proofs Go.Proofs.YtaooenndoopgdaaGreatDoor.tree
theorem cats_pre : ∀ (l : List Int) (ns : List Nd) (out : Int), ns <+: (catsN ns l out).1
 | [], ns, out => List.prefix_refl _
 | z :: l, ns, out => (catF_pre _ ns z out).trans (cats_pre l _ _)
theorem opt_pre (x : Int) : ∀ (n : Nat) (ns : List Nd) (out : Int), ns <+: (optN x n ns out).1
 | 0, ns, out => List.prefix_refl _
 | n + 1, ns, out => ((pN_pre ns (ndK 1)).trans ((catF_pre _ _ _ _).trans (gput_pre _ _ _))).trans (opt_pre x n _ _)
theorem rep_pre (x : Int) : ∀ (n : Nat) (ns : List Nd) (out : Int), ns <+: (repN x n ns out).1
 | 0, ns, out => List.prefix_refl _
 | n + 1, ns, out => (catF_pre _ ns x out).trans (rep_pre x n _ _)
theorem times_pre (lo hi : Int) (ns : List Nd) (x : Int) : ns <+: (timesN lo hi ns x).1 := by
 unfold timesN
 have h1 : ns <+: (emptyN ns).1 := pN_pre _ _
 have h2 : (emptyN ns).1 <+: (if hi < 0 then starN (emptyN ns).1 x else emptyN ns).1 := by
  split
  ·exact starN_pre _ _
  ·exact List.prefix_refl _
 exact h1.trans (h2.trans ((opt_pre x _ _ _).trans (rep_pre x _ _ _)))
theorem looked_pre (ns : List Nd) (e k : Int) (neg : Bool) : ns <+: (lookedN ns e k neg).1.1 := by
 unfold lookedN
 split
 ·exact none_pre ns
 ·exact pN_pre _ _
mutual
theorem bR_pre (lk : Re → Int) : ∀ (r : Re) (ns : List Nd) (e : Int), ns <+: (bR lk r ns e).1.1
 | .mk k s0 s1 s2 s3 rs lo hi neg, ns, e => by
   rw [bR]
   split
   ·exact none_pre ns
   split
   ·exact pN_pre _ _
   split
   ·exact bytesN_pre _ _
   split
   ·exact (pN_pre ns (ndK 1)).trans ((bL_pre lk rs _ e).trans (cats_pre _ _ _))
   split
   ·exact (bL_pre lk rs ns e).trans (gput_pre _ _ _)
   split
   ·exact (bL_pre lk rs ns e).trans (gput_pre _ _ _)
   split
   ·exact (bL_pre lk rs ns e).trans (notN_pre _ _)
   split
   ·exact (bL_pre lk rs ns e).trans (times_pre _ _ _ _)
   ·exact looked_pre _ _ _ _
theorem bL_pre (lk : Re → Int) : ∀ (l : List Re) (ns : List Nd) (e : Int), ns <+: (bL lk l ns e).1.1
 | [], ns, e => List.prefix_refl _
 | r :: l, ns, e => by
   rw [bL]
   exact (bR_pre lk r ns e).trans (bL_pre lk l _ _)
end
end Go.Proofs.YtaooenndoopgdaaGreatDoor.ar
namespace Go.Proofs.YtaooenndoopgdaaGreatDoor.lz
open Go Go.Ev Go.Proofs Go.Proofs.YtaooenndoopgdaaGreatDoor.ar Go.Proofs.YtaooenndoopgdaaGreatDoor.tree Go.Proofs.YtaooenndoopgdaaGreatDoor.looks
def mkC (a p : Value) (of : List Nat) (N : Nat) (r sv rv : Value) : List Value := a :: p :: (clC of N ++ [r, sv, rv])
theorem mkC_len {a p : Value} {of : List Nat} {N : Nat} {r sv rv : Value} (h : of.length = 256) : (mkC a p of N r sv rv).length = 262 := by
 unfold mkC; simp only [List.length_cons, List.length_append, clC_len, h, List.length_nil]
theorem mkC_get {a p : Value} {of : List Nat} {N : Nat} {r sv rv : Value} (h : of.length = 256) : (mkC a p of N r sv rv)[259]? = some r ∧ (mkC a p of N r sv rv)[260]? = some sv ∧ (mkC a p of N r sv rv)[261]? = some rv := by
 unfold mkC
 refine ⟨?_, ?_, ?_⟩ <;> (rw [List.getElem?_cons_succ, List.getElem?_cons_succ, List.getElem?_append_right (by rw [clC_len]; omega), clC_len, h]; rfl)
theorem mkC_set {a p : Value} {of : List Nat} {N : Nat} {r sv rv : Value} (h : of.length = 256) (r2 : Value) : (mkC a p of N r sv rv).set 259 r2 = mkC a p of N r2 sv rv := by
 unfold mkC
 rw [List.set_cons_succ, List.set_cons_succ, List.set_append_right _ _ (by rw [clC_len]; omega), clC_len, h]; rfl
theorem mkC_cls {a p : Value} {of of2 : List Nat} {N N2 : Nat} {r sv rv : Value} (h : of.length = 256) (h2 : of2.length = 256) : spliceL (mkC a p of N r sv rv) 2 (clC of2 N2) = mkC a p of2 N2 r sv rv := by
 refine (splice_append [a, p] (clC of N ++ [r, sv, rv]) (clC of2 N2) 0).trans ?_
 rw [splice_zero _ _ _ (by rw [clC_len, clC_len, h, h2])]; rfl
def fmR (m : Mem) (cs : List Value) (f : fo.Fml) : Prop := ∃ u, cs = [u] ∧ fo.FmV m u f
theorem fmR.le {m m' : Mem} (h : Mem.Le m m') {cs : List Value} {f : fo.Fml} (k : fmR m cs f) : fmR m' cs f := by
 obtain ⟨u, e, hu⟩ := k
 exact ⟨u, e, hu.le h⟩
abbrev MnV (m : Mem) (v : Value) (fs : List fo.Fml) : Prop := Sl m 1 (fmR m) v fs
structure Mkr (m : Mem) (mb ab : Nat) (s : Sp) (ls : List Re) (fs : List fo.Fml) (of : List Nat) (N : Nat) : Prop where
 ex : ∃ A n c A2 n2 c2 A3 n3 c3 A4 n4 c4, Cells m ⟨mb, 0, none⟩ (mkC (.pointer (some ⟨ab, 0, none⟩)) (.slice A n c) of N (.slice A2 n2 c2) (.slice A3 n3 c3) (.slice A4 n4 c4)) ∧ Sl m 9 (RepRe m) (.slice A n c) ls ∧ MnV m (.slice A2 n2 c2) fs ∧ spV m [.slice A3 n3 c3, .slice A4 n4 c4] s
 cls : Cls of N
 l4 : ls.length ≤ 4
 len : fs.length = s.rules.length
theorem OfX_fn (m : Mem) (ab : Nat) (ns : List Nd) (La : Ev.Own) (hA : Ar ab ns La) (hO : OkA ns) (i0 : Int) (hi : i64 i0) (hid : okId ns i0) :
  Ev.Fn Tryz.prog 44 [.pointer (some ⟨ab, 0, none⟩), .int .i64 i0] m La fun m' L' u => ∃ ns' e v f, u = .tuple (toArr [v, .int .i64 e]) ∧ (e = 0 ∨ e = 4) ∧ ns <+: ns' ∧ OkA ns' ∧ Ar ab ns' L' ∧ fo.FmV m' v f ∧ fo.FB ns'.length f ∧ (kindN ns i0 = 1 → e = 0 ∧ f = [[i0]] ∧ ns' = ns) := by
 by_cases hk : kindN ns i0 = 1
 ·obtain ⟨x, hx, -⟩ := nodeN_ok hid
  have hk2 : x.k = 1 := by unfold kindN at hk; rw [hx] at hk; exact hk
  refine (li.OfE_fn m ab ns La hA i0 hi hid x hx hk2).mono ?_
  rintro m' L' u hm ⟨rfl, v, rfl, hf⟩
  exact ⟨ns, 0, v, [[i0]], rfl, .inl rfl, List.prefix_refl _, hO, hA, hf, li.atom_FB hid.1 hid.2, fun _ => ⟨rfl, rfl, rfl⟩⟩
 ·refine (li.Of_fn m ab ns La hA hO i0 hi hid).mono ?_
  rintro m' L' u hm ⟨ns', e, v, f, h1, h2, h3, h4, h5, h6, h7⟩
  exact ⟨ns', e, v, f, h1, h2, h3, h4, h5, h6, h7, fun h => absurd h hk⟩
theorem build_any {lk : Re → Int} {r : Re} {ns : List Nd} (hO : OkA ns) (hin : InRe r) (hf : formedR r = true) (he : (bR lk r ns 0).1.2 = 0) :
  ns <+: (buildN lk ns r).1 ∧ OkA (buildN lk ns r).1 ∧ i64 (buildN lk ns r).2.1 ∧ ((buildN lk ns r).2.2 = 0 ∨ (buildN lk ns r).2.2 = 4) := by
 have h1 := bR_pre lk r ns 0
 have h2 := okB_R lk r hin ns 0 hO
 unfold buildN
 rw [if_neg (by rw [hf]; decide)]
 dsimp only
 rw [if_neg (by rw [he]; decide)]
 split
 ·exact ⟨h1, h2.1, by simp [i64], .inr rfl⟩
 ·exact ⟨h1, h2.1, h2.2, .inl rfl⟩
theorem OfBad_fn (m : Mem) (ab : Nat) (ns : List Nd) (La : Ev.Own) (hA : Ar ab ns La) (z : Int) (hz : ¬ (0 ≤ z ∧ z < ns.length)) :
  FnM Tryz.prog 44 [.pointer (some ⟨ab, 0, none⟩), .int .i64 z] m La (.tuple (toArr [.slice none 0 0, .int .i64 1])) := by
 have hnode := Node_fn m ab ns La hA z
 have h2 : (nodeN ns z).2 = false := by unfold nodeN; rw [if_neg hz]
 rw [h2] at hnode
 generalize (nodeN ns z).1 = x at hnode
 refine Fn.enter (N := 26) hX Tryz.func44 rfl rfl (by show _ ≤ _; simp) (fun w0 hL => ?_)
 conv => whnf
 generalize keys La = S0 at hL ⊢
 refine go ?_;try(clear hL;intro w hL)
 refine CallReq.lo hnode hL ?_
 clear hL
 intro w hL
 refine go ?_;try(clear hL;intro w hL)
 refine NewReq.mk hL ?_
 clear hL
 intro bn w hL
 conv => whnf
 refine go ?_;try(clear hL;intro w hL)
 replace hL := hL.drop
 exact RetReq.mk hL ⟨rfl, rfl⟩
theorem build_one (lk : Re → Int) : buildN lk [] (leafR 1) = ([ndK 1], 0, 0) := by
 have hf : formedR (leafR 1) = true := by decide
 unfold buildN
 rw [if_neg (by rw [hf]; decide)]
 rfl
theorem stR_one (l : List S4) : ∀ u ∈ (stR l).flatten, u.oneCell' = true := fun u hu => by
 obtain ⟨r, hr, hu⟩ := List.mem_flatten.1 hu
 obtain ⟨s, -, rfl⟩ := List.mem_map.1 hr
 simp only [stC, List.mem_cons, List.not_mem_nil, or_false] at hu
 rcases hu with rfl | rfl | rfl | rfl <;> rfl
theorem snoc_get {α : Type} {R : Value → α → Prop} {us : List Value} {fs : List α} {u : Value} {f : α} (h : fs.length = us.length) (hR : ∀ (i : Nat) (x : α), fs[i]? = some x → ∃ v, us[i]? = some v ∧ R v x) (hu : R u f) : ∀ (i : Nat) (x : α), (fs ++ [f])[i]? = some x → ∃ v, (us ++ [u])[i]? = some v ∧ R v x := fun i x hx => by
 by_cases hi : i < fs.length
 ·rw [List.getElem?_append_left hi] at hx
  obtain ⟨v, e1, e2⟩ := hR i x hx
  exact ⟨v, by rw [List.getElem?_append_left (by omega)]; exact e1, e2⟩
 ·have hl := (List.getElem?_eq_some_iff.1 hx).1
  rw [List.length_append, List.length_singleton] at hl
  rw [List.getElem?_append_right (by omega), show i - fs.length = 0 by omega] at hx
  cases hx
  exact ⟨u, by rw [List.getElem?_append_right (by omega), show i - us.length = 0 by omega]; rfl, hu⟩
theorem one_rows : ∀ us : List Value, us = (us.map fun u => [u]).flatten
 | [] => rfl
 | a :: r => by rw [List.map_cons, List.flatten_cons, ← one_rows r]; rfl
def tup (s : S4) : Int × Int × Int × Int := (s.x0, s.x1, s.x2, s.x3)
theorem fnd_mem {ls : List Re} : ∀ {l : List Re}, fndL ls l → ∀ r ∈ l, fndR ls r
 | [], _, r, hr => by cases hr
 | x :: l, h, r, hr => by
   rw [fndL] at h
   rcases List.mem_cons.1 hr with rfl | hr
   ·exact h.1
   ·exact fnd_mem h.2 r hr
theorem small_all {s : Sp} (hF : FewS s) : ∀ r ∈ s.rules.map (fun x => x.re), Small r := fun r hr => by
 obtain ⟨x, hx, rfl⟩ := List.mem_map.1 hr
 exact small_of _ _ (hF.res x hx).2
def MkQ (s : Sp) (m' : Mem) (L' : Ev.Own) (u : Value) : Prop := (∃ e, u = .tuple (toArr [.pointer none, .int .i64 e]) ∧ e ≠ 0 ∧ ¬ OneS s) ∨
 ∃ mb ab ns ls fs of N, u = .tuple (toArr [.pointer (some ⟨mb, 0, none⟩), .int .i64 0]) ∧ OkA ns ∧ Ar ab ns L' ∧ Mkr m' mb ab s ls fs of N ∧ (∀ f ∈ fs, fo.FB ns.length f) ∧ (OneS s → fs = [[[0]]] ∧ ns = [ndK 1])
set_option maxRecDepth 100000 in
set_option maxHeartbeats 4000000 in
theorem NewMaker_fn (m : Mem) (cs : List Value) (s : Sp) (hs : spV m cs s) (hF : FewS s) (hS : FormS s) (hnb : nodesL (s.rules.map fun x => x.re) ≤ 1000000) :
  Ev.Fn Tryz.prog 21 [.agg (toArr cs)] m [] (MkQ s) := by
 have hpt := patterns_fn m cs s hs hF.rules
 have hs' := hs
 obtain ⟨A, n, c, A', n', c', rfl, h1, h2⟩ := hs
 obtain ⟨hn', hc', hm'⟩ := h2.lens
 have hmx : maxLen = 9223372036854775807 := rfl
 have hsm := small_all hF
 have h40 := hF.rules
 refine Fn.enter (N := 85) hX Tryz.func21 rfl rfl (by show _ ≤ _; simp) (fun w0 hL => ?_)
 conv => whnf
 refine NewReq.mk hL ?_
 clear hL
 intro b1 w hL
 conv => whnf
 refine go ?_;try(clear hL;intro w hL)
 refine CallReq.pure hpt hL ?_
 clear hL
 rintro u m1 w hL hm1 ⟨A1, n1, c1, rfl, hps⟩
 refine go ?_;try(clear hL;intro w hL)
 refine CallReq.pure (looks.Make_fn m1 _ _ hps hsm hnb) hL ?_
 clear hL
 rintro u m2 w hL hm2 ⟨A2, n2, c2, rfl, hls⟩
 have hm02 := hm1.trans hm2
 have hform : ∀ r ∈ s.rules.map (fun x => x.re), formedR r = true := fun r hr => by
  obtain ⟨x, hx, rfl⟩ := List.mem_map.1 hr
  exact hS.form x hx
 have hmk : makeR (s.rules.map fun x => x.re) = if 4 < (looksL (s.rules.map fun x => x.re) []).length then (10, []) else (0, looksL (s.rules.map fun x => x.re) []) := by
  unfold makeR
  rw [if_neg (by rw [List.any_eq_true]; rintro ⟨x, hx, h⟩; rw [hform x hx] at h; cases h)]
 have hfnd := looks_fndL (looksL (s.rules.map fun x => x.re) []) (s.rules.map fun x => x.re) [] (fun p hp => formed_deep (hform p hp)) (fun x hx => by cases hx) (fun x hx => hx)
 have hone : OneS s → looksL (s.rules.map fun x => x.re) [] = [] := fun h => by
  obtain ⟨-, h2, h3⟩ := h
  match hr : s.rules, h2 with
  | [x], _ =>
    have := h3 x (by rw [hr]; simp)
    rw [List.map_cons, List.map_nil, this.2.1]; decide
 rw [hmk] at hls ⊢
 generalize looksL (s.rules.map fun x => x.re) [] = ls at hls hfnd hone ⊢
 by_cases h4 : 4 < ls.length
 ·rw [if_pos h4] at hls ⊢
  refine go ?_;try(clear hL;intro w hL)
  refine NewReq.mk hL ?_
  clear hL
  intro b4 w hL
  conv => whnf
  refine go ?_;try(clear hL;intro w hL)
  exact RetReq.mk (hL.sublist (List.nil_sublist _)) (.inl ⟨10, rfl, by decide, fun h => by rw [hone h] at h4; simp at h4⟩)
 rw [if_neg h4] at hls ⊢
 dsimp only at hls ⊢
 refine go ?_;try(clear hL;intro w hL)
 refine NewReq.mk hL ?_
 clear hL
 intro b4 w hL
 conv => whnf
 refine go ?_;try(clear hL;intro w hL)
 replace hL : Ev.Loc m [] w0 m2 ((b4, .cells (toArr [.slice A2 n2 c2]) 44 (0, 0)) :: (b1, .cells (toArr [.slice A n c, .slice A' n' c']) 25 (0, 0)) :: []) w := hL
 have hle1 := hL.le_add
 replace hL := hL.freeze
 have hle2 := hL.le_add
 replace hL := hL.freeze
 generalize hm3e : (m2.add b4 _).add b1 _ = m3 at hL hle2
 have hb4 : Cells m3 ⟨b4, 0, none⟩ [.slice A2 n2 c2] := (cells_add0 (m := m2) (b := b4) (te := 44) (fz := (0, 0)) [.slice A2 n2 c2]).le hle2
 have hb1 : Cells m3 ⟨b1, 0, none⟩ [.slice A n c, .slice A' n' c'] := by rw [← hm3e]; exact cells_add0 _
 have hm23 := hle1.trans hle2
 clear hm3e hle1 hle2
 have hm03 := hm02.trans hm23
 have hls3 : Sl m3 9 (RepRe m3) (.slice A2 n2 c2) ls := hls.le hm23 fun _ _ _ h => h.le hm23
 have hs3 : spV m3 [.slice A n c, .slice A' n' c'] s := hs'.le hm03
 have h23 : Sl m3 12 (ruV m3) (.slice A' n' c') s.rules := h2.le hm03 fun _ _ _ h => h.le hm03
 have hb40 := hb4 0 _ rfl
 have hb11 := hb1 1 _ rfl
 replace hL : Ev.Loc m [] w0 m3 [] w := hL
 refine DrawReq.cut (fun s : Nat × Nat => [(6, .pointer (some ⟨s.1, 0, none⟩))]) [1, 4] (fun q w => ∃ La, Ar q.2 [] La ∧ Ev.Loc m [] w0 m3 ((q.1, .cells (toArr (mkC (.pointer (some ⟨q.2, 0, none⟩)) (.slice A2 n2 c2) (List.replicate 256 0) 0 (.slice none 0 0) (.slice A n c) (.slice A' n' c'))) 100 (0, 0)) :: La) w) ?_ ?_
 ·refine DrawReq.plan hX (.fst 1 (.fst 2 (.alt 0 (.fst 3 (.alt 4 (.fst 5 (.done)) (.stop))) (.stop)))) [] (by kernel_rfl) (by kernel_rfl) hL (fun h => h.sublist (List.nil_sublist _)) ?_
  clear hL
  intro w hL
  conv => whnf
  repeat ((first | refine QLdReq.agg hX rfl rfl rfl hb4 ?_ | refine QLdReq.agg hX rfl rfl rfl hb1 ?_ | (refine goq1 ?_;try(clear hL;intro w hL))); conv => whnf)
  refine CallReq.mk (L1 := []) (L2 := []) (New_fn m3) (by rw [List.append_nil]; exact hL) ?_
  clear hL
  rintro u mx La w hL - ⟨hmx', ab, rfl, hA⟩
  rw [hmx', List.append_nil] at hL
  clear hmx' mx
  refine SReq.mk (hL.sublist (List.nil_sublist _)) ?_
  refine goq ?_;try(clear hL;intro w hL)
  refine NewReq.mk hL ?_
  clear hL
  intro mb w hL
  conv => whnf
  replace hL : Ev.Loc m [] w0 m3 ((mb, .cells (toArr (mkC (.pointer (some ⟨ab, 0, none⟩)) (.slice A2 n2 c2) (List.replicate 256 0) 0 (.slice none 0 0) (.slice A n c) (.slice A' n' c'))) 100 (0, 0)) :: La) w := hL
  refine SReq.mk (hL.sublist (List.nil_sublist _)) ?_
  refine goq ?_;try(clear hL;intro w hL)
  refine ⟨(mb, ab), ⟨La, hA, hL⟩, ?_, ?_⟩
  ·repeat (first | exact trivial | (refine And.intro (by (conv => lhs; whnf) <;> (conv => rhs; whnf) <;> (first | rfl)) ?_))
  ·repeat (first | exact trivial | (refine And.intro (by (conv => lhs; whnf) <;> (conv => rhs; whnf) <;> (first | rfl)) ?_))
 clear hL
 rintro ⟨mb, ab⟩ w f ⟨La, hA, hL⟩
 dsimp only at hA hL
 have hr256 : (List.replicate 256 0 : List Nat).length = 256 := List.length_replicate
 generalize (List.replicate 256 0 : List Nat) = of0 at hL hr256
 conv => whnf
 repeat ((first | refine LdReq.one hX rfl rfl hL hb11 ?_ | (refine go1 ?_;try(clear hL;intro w hL))); conv => whnf)
 refine LoopReq.inv hX (fun q : Nat × Option Addr × Nat × Nat => [(7, .slice q.2.1 q.2.2.1 q.2.2.2), (30, .int .i64 q.1)]) [4, 6, 28, 29]
  (fun q w => q.1 ≤ n' ∧ ∃ m4 Ar5 nr5 cr5 us Lr l Ls ns La fs, (Mem.Le m3 m4 ∧ OwnS 88 1 (.slice Ar5 nr5 cr5) us Lr ∧ us.length = q.1 ∧ fs.length = q.1 ∧ ∀ (i : Nat) (f : fo.Fml), fs[i]? = some f → ∃ u, us[i]? = some u ∧ fo.FmV m4 u f) ∧
   (OwnS 50 4 (.slice q.2.1 q.2.2.1 q.2.2.2) (stR l).flatten Ls ∧ l.length ≤ q.1 * 20000 ∧ ∀ x ∈ l, InS4 x) ∧ (OkA ns ∧ Ar ab ns La ∧ (∀ f ∈ fs, fo.FB ns.length f) ∧ (OneS s → (q.1 = 0 ∧ ns = [] ∧ fs = []) ∨ (q.1 = 1 ∧ ns = [ndK 1] ∧ fs = [[[0]]]))) ∧
   Ev.Loc m [] w0 m4 ((mb, .cells (toArr (mkC (.pointer (some ⟨ab, 0, none⟩)) (.slice A2 n2 c2) of0 0 (.slice Ar5 nr5 cr5) (.slice A n c) (.slice A' n' c'))) 100 (0, 0)) :: (Lr ++ (Ls ++ La))) w) (fun q => n' - q.1) (0, none, 0, 0)
  ⟨by simp, m3, none, 0, 0, [], [], [], [], [], La, [], ⟨Mem.Le.refl m3, OwnS.nil _ _, rfl, rfl, by simp⟩, ⟨OwnS.nil _ _, by simp, by simp⟩, ⟨okA_nil, hA, by simp, fun _ => .inl ⟨rfl, rfl, rfl⟩⟩, hL⟩ ⟨rfl, rfl, trivial⟩ ?_
 clear hL hA
 rintro ⟨j, As, nsl, csl⟩ w f5 ⟨hj, m4, Ar5, nr5, cr5, us, Lr, l, Ls, ns, La, fs, ⟨hm4, hor, hul, hfl, hfv⟩, ⟨hos, hll, hin4⟩, ⟨hO, hA, hFB, hone2⟩, hL⟩
 dsimp only at hj hos hll hul hfl hone2
 refine go ?_;try(clear hL;intro w hL)
 refine BrReq.dec (fun hlt => ?_) (fun hlt => ?_)
 ·have hjl : j < s.rules.length := by simp only at hlt; omega
  have h24 : Sl m4 12 (ruV m4) (.slice A' n' c') s.rules := h23.le hm4 fun _ _ _ h => h.le hm4
  have hls4 : Sl m4 9 (RepRe m4) (.slice A2 n2 c2) ls := hls3.le hm4 fun _ _ _ h => h.le hm4
  obtain ⟨a, cs', rfl, hl12, hcells, hru⟩ := h24.elem j _ (List.getElem?_eq_getElem hjl)
  have hfx := hS.form _ (List.getElem_mem hjl)
  have hox : OneS s → s.rules[j].re = leafR 1 ∧ j = 0 := fun h => ⟨(h.2.2 _ (List.getElem_mem hjl)).2.1, by have := h.2.1; omega⟩
  have hfd := fnd_mem hfnd s.rules[j].re (List.mem_map.2 ⟨_, List.getElem_mem hjl, rfl⟩)
  generalize s.rules[j] = x at hru hfx hox hfd
  obtain ⟨A6, n6, c6, k, s0, s1, s2, s3, A7, n7, c7, lo, hi, neg, rfl, -, hre⟩ := hru
  conv => whnf
  repeat ((first | (refine Idx2Req.mk j a rfl (by simp only at hlt ⊢; omega) rfl ?_) | refine LdReq.agg hX rfl rfl hL hl12 hcells ?_ | (refine go1 ?_;try(clear hL;intro w hL))); conv => whnf)
  refine NewReq.mk hL ?_
  clear hL
  intro b9 w hL
  conv => whnf
  refine go ?_;try(clear hL;intro w hL)
  replace hL : Ev.Loc m [] w0 m4 ((b9, .cells (toArr (ruC (.slice A6 n6 c6) k s0 s1 s2 s3 (.slice A7 n7 c7) lo hi neg x.act x.to)) 55 (0, 0)) :: (mb, .cells (toArr (mkC (.pointer (some ⟨ab, 0, none⟩)) (.slice A2 n2 c2) of0 0 (.slice Ar5 nr5 cr5) (.slice A n c) (.slice (some a) n' c'))) 100 (0, 0)) :: (Lr ++ (Ls ++ La))) w := hL
  have hb44 := hb4.le hm4
  have hin := rep_in x.re hre
  have herr := err_fnd (by omega) x.re hfd ns 0 (fun _ _ _ _ _ _ _ _ _ _ => trivial) (formed_size hfx).1
  have hbu := PlanBuild_fn m4 _ ls hls4 x.re _ hre ab ns La hA hO
  obtain ⟨hp1, hO1, hi1, he1⟩ := build_any hO hin hfx herr
  have hone3 : OneS s → buildN (lkR ls) ns x.re = ([ndK 1], 0, 0) := fun h => by
   obtain ⟨e1, e2⟩ := hox h
   rcases hone2 h with ⟨-, e3, -⟩ | ⟨e3, -, -⟩
   ·rw [e1, e3]; exact build_one _
   ·omega
  generalize buildN (lkR ls) ns x.re = q at hbu hp1 hO1 hi1 he1 hone3
  obtain ⟨ns1, z, e⟩ := q
  dsimp only at hbu hp1 hO1 hi1 he1
  refine DrawReq.plan hX (.fst 0 (.fst 1 (.fst 2 (.fst 3 (.fst 4 (.fst 5 (.fst 6 (.alt 7 (.fst 8 (.fst 9 (.fst 10 (.fst 11 (.fst 12 (.done)))))) (.stop))))))))) [(b9, .cells (toArr (ruC (.slice A6 n6 c6) k s0 s1 s2 s3 (.slice A7 n7 c7) lo hi neg x.act x.to)) 55 (0, 0)), (mb, .cells (toArr (mkC (.pointer (some ⟨ab, 0, none⟩)) (.slice A2 n2 c2) of0 0 (.slice Ar5 nr5 cr5) (.slice A n c) (.slice (some a) n' c'))) 100 (0, 0))] (by kernel_rfl) (by kernel_rfl) hL (fun h => h.sublist (.cons_cons _ (.cons_cons _ (List.nil_sublist _)))) ?_
  clear hL
  intro w hL
  conv => whnf
  repeat ((first | refine QLdReq.agg hX rfl rfl rfl hb44 ?_ | (refine goq1 ?_;try(clear hL;intro w hL))); conv => whnf)
  replace hL : Ev.Loc m [] w0 m4 (((b9, .cells (toArr (ruC (.slice A6 n6 c6) k s0 s1 s2 s3 (.slice A7 n7 c7) lo hi neg x.act x.to)) 55 (0, 0)) :: (mb, .cells (toArr (mkC (.pointer (some ⟨ab, 0, none⟩)) (.slice A2 n2 c2) of0 0 (.slice Ar5 nr5 cr5) (.slice A n c) (.slice (some a) n' c'))) 100 (0, 0)) :: (Lr ++ Ls)) ++ La) w := by
   rw [show ((b9, .cells (toArr (ruC (.slice A6 n6 c6) k s0 s1 s2 s3 (.slice A7 n7 c7) lo hi neg x.act x.to)) 55 (0, 0)) :: (mb, Obj.cells (toArr (mkC (.pointer (some ⟨ab, 0, none⟩)) (.slice A2 n2 c2) of0 0 (.slice Ar5 nr5 cr5) (.slice A n c) (.slice (some a) n' c'))) 100 (0, 0)) :: (Lr ++ Ls)) ++ La = (b9, .cells (toArr (ruC (.slice A6 n6 c6) k s0 s1 s2 s3 (.slice A7 n7 c7) lo hi neg x.act x.to)) 55 (0, 0)) :: (mb, Obj.cells (toArr (mkC (.pointer (some ⟨ab, 0, none⟩)) (.slice A2 n2 c2) of0 0 (.slice Ar5 nr5 cr5) (.slice A n c) (.slice (some a) n' c'))) 100 (0, 0)) :: (Lr ++ (Ls ++ La)) by simp]
   exact hL
  refine CallReq.mk (L1 := La) hbu (Loc.back hL) ?_
  clear hL
  rintro u m5 L5 w hL hm5 ⟨rfl, hA1⟩
  have hL := Loc.back (L1 := L5) hL
  refine SReq.mk ((hL.sublist (.cons_cons _ (.cons_cons _ (List.nil_sublist _)))).weaken hm5 (hm03.trans hm4)) ?_
  rcases he1 with rfl | rfl
  rotate_left
  ·refine goq ?_;try(clear hL;intro w hL)
   exact RetReq.mk (hL.sublist (List.nil_sublist _)) (.inl ⟨4, rfl, by decide, fun h => by have := hone3 h; injection this with _ h2; injection h2 with _ h3; cases h3⟩)
  refine goq ?_;try(clear hL;intro w hL)
  replace hL : Ev.Loc m [] w0 m5 (L5 ++ ((mb, .cells (toArr (mkC (.pointer (some ⟨ab, 0, none⟩)) (.slice A2 n2 c2) of0 0 (.slice Ar5 nr5 cr5) (.slice A n c) (.slice (some a) n' c'))) 100 (0, 0)) :: (Lr ++ Ls))) w :=
   (Loc.back (L1 := (b9, _) :: (mb, _) :: (Lr ++ Ls)) hL).sublist (List.Sublist.append_left (.cons _ (List.Sublist.refl _)) L5)
  have hm05 := hm4.trans hm5
  by_cases hok : 0 ≤ z ∧ z < ns1.length
  rotate_left
  ·refine CallReq.lm (L1 := L5) (OfBad_fn m5 ab ns1 L5 hA1 z hok) hL ?_
   clear hL
   intro m6 w hm6 hL
   have hL := Loc.back (L1 := L5) hL
   refine go ?_;try(clear hL;intro w hL)
   refine RetReq.mk (hL.sublist (List.nil_sublist _)) (.inl ⟨1, rfl, by decide, fun h => hok ?_⟩)
   have := hone3 h
   injection this with e1 e2
   injection e2 with e2 _
   rw [e1, e2]; decide
  refine CallReq.mk (L1 := L5) (OfX_fn m5 ab ns1 L5 hA1 hO1 z hi1 hok) hL ?_
  clear hL
  rintro u m6 L6 w hL hm6 ⟨ns6, e6, v6, f6, rfl, he6, hp6, hO6, hA6, hf6, hF6, hx6⟩
  have hL := Loc.back (L1 := L6) hL
  obtain ⟨Af, nf, cf, rfl, -⟩ := id hf6
  have hk1 : OneS s → kindN ns1 z = 1 ∧ z = 0 ∧ ns1 = [ndK 1] := fun h => by
   have := hone3 h
   injection this with e1 e2
   injection e2 with e2 _
   rw [e1, e2]; exact ⟨rfl, rfl, rfl⟩
  rcases he6 with rfl | rfl
  rotate_left
  ·refine go ?_;try(clear hL;intro w hL)
   exact RetReq.mk (hL.sublist (List.nil_sublist _)) (.inl ⟨4, rfl, by decide, fun h => by have := (hx6 (hk1 h).1).1; cases this⟩)
  have hm06 := hm05.trans hm6
  have hg := (mkC_get (a := .pointer (some ⟨ab, 0, none⟩)) (p := .slice A2 n2 c2) (N := 0) (r := .slice Ar5 nr5 cr5) (sv := .slice A n c) (rv := .slice (some a) n' c') hr256).1
  conv => whnf
  repeat ((first | (refine LdReq.ownC hX rfl rfl hL .h (by rw [Nat.zero_add]; exact hg) ?_) | (refine go1 ?_;try(clear hL;intro w hL))); conv => whnf)
  refine NewReq.mk hL ?_
  clear hL
  intro g2 w hL
  conv => whnf
  replace hL : Ev.Loc m [] w0 m6 ((g2, .cells (toArr [.slice Af nf cf]) 88 (0, 0)) :: (Lr ++ ((mb, .cells (toArr (mkC (.pointer (some ⟨ab, 0, none⟩)) (.slice A2 n2 c2) of0 0 (.slice Ar5 nr5 cr5) (.slice A n c) (.slice (some a) n' c'))) 100 (0, 0)) :: (Ls ++ L6)))) w := by
   refine hL.perm (List.Perm.cons _ (List.Perm.trans ?_ List.perm_middle.symm))
   rw [List.cons_append, List.append_assoc]
  refine go ?_;try(clear hL;intro w hL)
  refine RunReq.push hX 84 88 rfl rfl rfl rfl rfl hor hL rfl rfl (by show us.length + 1 ≤ _; omega) rfl ?_
  clear hL
  intro A7' n7' c7' Lr7 w hn7 hor7 hL
  replace hL := hL.perm List.perm_middle
  refine go ?_;try(clear hL;intro w hL)
  refine StReq.ownAt hX rfl 0 hL rfl rfl (by show 0 + 259 + 1 ≤ (mkC _ _ of0 0 _ _ _).length; rw [mkC_len hr256]; omega) rfl ?_
  clear hL
  intro w hL
  replace hL : Ev.Loc m [] w0 m6 ((mb, .cells (toArr ((mkC (.pointer (some ⟨ab, 0, none⟩)) (.slice A2 n2 c2) of0 0 (.slice Ar5 nr5 cr5) (.slice A n c) (.slice (some a) n' c')).set 259 (.slice A7' n7' c7'))) 100 (0, 0)) :: (Lr7 ++ (Ls ++ L6))) w := hL
  rw [mkC_set hr256] at hL
  have hz6 : 0 ≤ z ∧ z < ns6.length := ⟨hok.1, by have := hp6.length_le; omega⟩
  refine go ?_;try(clear hL;intro w hL)
  replace hL : Ev.Loc m [] w0 m6 (L6 ++ ((mb, .cells (toArr (mkC (.pointer (some ⟨ab, 0, none⟩)) (.slice A2 n2 c2) of0 0 (.slice A7' n7' c7') (.slice A n c) (.slice (some a) n' c'))) 100 (0, 0)) :: (Lr7 ++ Ls))) w := by
   refine Loc.back (L1 := (mb, _) :: (Lr7 ++ Ls)) ?_
   rw [List.cons_append, List.append_assoc]; exact hL
  refine CallReq.mk (L1 := L6) (Sets_fn m6 ab ns6 L6 hA6 hO6 z hz6) hL ?_
  clear hL
  rintro u mx Lx w hL - ⟨hmx, l8, Lo8, hLx, hos8, hl8, hin8⟩
  rw [hmx, hLx] at hL
  clear hmx hLx mx Lx
  obtain ⟨A8, n8, c8, rfl, -⟩ := hos8.slice
  replace hL : Ev.Loc m [] w0 m6 (Lo8 ++ (Ls ++ ((mb, .cells (toArr (mkC (.pointer (some ⟨ab, 0, none⟩)) (.slice A2 n2 c2) of0 0 (.slice A7' n7' c7') (.slice A n c) (.slice (some a) n' c'))) 100 (0, 0)) :: (Lr7 ++ L6)))) w := by
   refine hL.perm ?_
   rw [List.append_assoc]
   refine List.Perm.append_left Lo8 ((List.perm_append_comm (l₁ := L6)).trans ?_)
   rw [List.cons_append, List.append_assoc]
   refine List.Perm.trans ?_ List.perm_middle.symm
   exact List.Perm.cons _ (List.perm_append_comm_assoc Lr7 Ls L6)
  have hfl1 : (stR l).flatten.length = l.length * 4 := by rw [flat_len _ (stR_rows l)]; simp [stR]
  have hfl8 : (stR l8).flatten.length = l8.length * 4 := by rw [flat_len _ (stR_rows l8)]; simp [stR]
  refine go ?_;try(clear hL;intro w hL)
  refine RunReq.cat hX 113 50 rfl rfl rfl rfl rfl hos hos8 hL (stR_one l8) (by rw [hfl1, hfl8]; simp only at hlt; omega) rfl ?_
  clear hL
  intro A9 n9 c9 Ls9 w hn9 hos9 hL
  rw [show (stR l).flatten ++ (stR l8).flatten = (stR (l ++ l8)).flatten by unfold stR; simp] at hos9
  replace hL : Ev.Loc m [] w0 m6 ((mb, .cells (toArr (mkC (.pointer (some ⟨ab, 0, none⟩)) (.slice A2 n2 c2) of0 0 (.slice A7' n7' c7') (.slice A n c) (.slice (some a) n' c'))) 100 (0, 0)) :: (Lr7 ++ (Ls9 ++ L6))) w := by
   refine hL.perm (List.perm_middle.trans (List.Perm.cons _ ?_))
   exact List.perm_append_comm_assoc Ls9 Lr7 L6
  have hfs9 : ∀ f ∈ fs ++ [f6], fo.FB ns6.length f := all_snoc rfl (fun f hf => (hFB f hf).mono (by have := hp1.length_le; have := hp6.length_le; omega)) hF6
  have hin9 : ∀ y ∈ l ++ l8, InS4 y := fun y hy => (List.mem_append.1 hy).elim (hin4 y) (hin8 y)
  have hl9 : (l ++ l8).length ≤ (j + 1) * 20000 := by rw [List.length_append]; omega
  have hfv9 : ∀ (i : Nat) (f : fo.Fml), (fs ++ [f6])[i]? = some f → ∃ u, (us ++ [Value.slice Af nf cf])[i]? = some u ∧ fo.FmV m6 u f := snoc_get (by omega) (fun i f hf => by obtain ⟨u, e1, e2⟩ := hfv i f hf; exact ⟨u, e1, e2.le (hm5.trans hm6)⟩) hf6
  have hone9 : OneS s → (j + 1 = 0 ∧ ns6 = [] ∧ fs ++ [f6] = []) ∨ (j + 1 = 1 ∧ ns6 = [ndK 1] ∧ fs ++ [f6] = [[[0]]]) := fun h => by
   obtain ⟨k1, k2, k3⟩ := hk1 h
   obtain ⟨-, x2, x3⟩ := hx6 k1
   rcases hone2 h with ⟨e1, -, e3⟩ | ⟨e1, -, -⟩
   ·exact .inr ⟨by omega, by rw [x3, k3], by rw [e3, x2, k2]; rfl⟩
   ·have := (hox h).2; omega
  generalize l ++ l8 = l9 at hos9 hin9 hl9
  refine go ?_;try(clear hL;intro w hL)
  exact rnd (j + 1, A9, n9, c9) ⟨by simp only at hlt ⊢; omega, m6, A7', n7', c7', _, Lr7, l9, Ls9, ns6, L6, fs ++ [f6], ⟨hm06, hor7, by rw [List.length_append, hul]; rfl, by rw [List.length_append, hfl]; rfl, hfv9⟩, ⟨hos9, hl9, hin9⟩, ⟨hO6, hA6, hfs9, hone9⟩, hL⟩
 ·have hjn : j = s.rules.length := by simp only at hlt; omega
  replace hL : Ev.Loc m [] w0 m4 (Ls ++ ((mb, .cells (toArr (mkC (.pointer (some ⟨ab, 0, none⟩)) (.slice A2 n2 c2) of0 0 (.slice Ar5 nr5 cr5) (.slice A n c) (.slice A' n' c'))) 100 (0, 0)) :: (Lr ++ La))) w := by
   refine hL.perm (List.Perm.trans (List.Perm.cons _ (List.perm_append_comm_assoc Lr Ls La)) List.perm_middle.symm)
  have hR4 : ∀ (i : Nat) (x : Int × Int × Int × Int), (l.map tup)[i]? = some x → ∃ cs, (stR l)[i]? = some cs ∧ Set4 cs x := fun i x hx => by
   rw [List.getElem?_map] at hx
   cases hs4 : l[i]? with
   | none => rw [hs4] at hx; cases hx
   | some y =>
     rw [hs4] at hx; cases hx
     exact ⟨stC y, by unfold stR; rw [List.getElem?_map, hs4]; rfl, rfl, hin4 y (List.mem_of_getElem? hs4)⟩
  obtain ⟨m5, A5, c5, e5, hL5, hm5, hsl5, -⟩ := OwnS.freezeRows (R := Set4) (by omega) hos hL (stR_rows l) (by rw [List.length_map]; simp [stR]) hR4
  cases e5
  clear hL
  have hL := hL5
  clear hL5
  refine go ?_;try(clear hL;intro w hL)
  refine CallReq.pure (lz.Make_fn m5 _ _ (hsl5.le (Mem.Le.refl m5) (fun _ _ _ h => h))) hL ?_
  clear hL
  rintro u m6 w hL hm6 ⟨of, N, rfl, hC⟩
  have hcl : (clC of N).length = 257 := by rw [clC_len, hC.len]
  refine go ?_;try(clear hL;intro w hL)
  refine StReq.ownAt hX rfl 0 hL rfl (by show Nat.beq (clC of N).length 257 = true; rw [hcl]; rfl) (by show 0 + 2 + (clC of N).length ≤ (mkC _ _ of0 0 _ _ _).length; rw [mkC_len hr256, hcl]; omega) (clC_one of N) ?_
  clear hL
  intro w hL
  replace hL : Ev.Loc m [] w0 m6 ((mb, .cells (toArr (spliceL (mkC (.pointer (some ⟨ab, 0, none⟩)) (.slice A2 n2 c2) of0 0 (.slice Ar5 nr5 cr5) (.slice A n c) (.slice A' n' c')) 2 (clC of N))) 100 (0, 0)) :: (Lr ++ La)) w := hL
  rw [mkC_cls hr256 hC.len] at hL
  have hm46 := hm5.trans hm6
  have hus := one_rows us
  rw [hus] at hor
  replace hL := hL.perm (List.perm_middle (l₁ := Lr)).symm
  have hRf : ∀ (i : Nat) (f : fo.Fml), fs[i]? = some f → ∃ cs, (us.map fun u => [u])[i]? = some cs ∧ fmR m6 cs f := fun i f hf => by
   obtain ⟨u, e1, e2⟩ := hfv i f hf
   exact ⟨[u], by rw [List.getElem?_map, e1]; rfl, u, rfl, e2.le hm46⟩
  obtain ⟨m7, A7, c7, e7, hL7, hm7, hsl7, -⟩ := OwnS.freezeRows (R := fmR m6) (by omega) hor hL (fun r hr => by obtain ⟨u, -, rfl⟩ := List.mem_map.1 hr; rfl) (by rw [List.length_map]; omega) hRf
  cases e7
  clear hL
  have hL := hL7
  clear hL7
  have hle8 := hL.le_add
  replace hL := hL.freeze
  generalize hm8e : m7.add mb _ = m8 at hL hle8
  have hcm : Cells m8 ⟨mb, 0, none⟩ (mkC (.pointer (some ⟨ab, 0, none⟩)) (.slice A2 n2 c2) of N (.slice Ar5 (us.map fun u => [u]).length cr5) (.slice A n c) (.slice A' n' c')) := by rw [← hm8e]; exact cells_add0 _
  clear hm8e
  have hm68 := hm7.trans hle8
  have hm38 := (hm4.trans hm46).trans hm68
  refine go ?_;try(clear hL;intro w hL)
  refine RetReq.mk hL (.inr ⟨mb, ab, ns, ls, fs, of, N, rfl, hO, hA, ⟨⟨_, _, _, _, _, _, _, _, _, _, _, _, hcm, hls3.le hm38 fun _ _ _ h => h.le hm38, hsl7.le hle8 fun _ _ _ h => h.le hm68, hs3.le hm38⟩, hC, by omega, by omega⟩, hFB, fun h => ?_⟩)
  rcases hone2 h with ⟨e1, -, -⟩ | ⟨-, e2, e3⟩
  ·have := h.2.1; omega
  ·exact ⟨e3, e2⟩
end Go.Proofs.YtaooenndoopgdaaGreatDoor.lz
