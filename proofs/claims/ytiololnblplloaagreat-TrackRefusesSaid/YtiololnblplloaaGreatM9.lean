/- TrackRefuses: part 9 of 14 of the proof. Conditions: none. -/
import Derived.Test.YtiololnblplloaaGreatM1
import Derived.Test.YtiololnblplloaaGreatM8
import Derived.Test.YtiololnblplloaaGreatM4
namespace Go.Proofs.YtiololnblplloaaGreat.tabs
open Go Go.Ev Go.Proofs
theorem ofInt_nat {n : Nat} (a : Nat) : BitVec.ofInt n (a : Int) = BitVec.ofNat n a := by
  apply BitVec.eq_of_toNat_eq
  rw [BitVec.toNat_ofInt, BitVec.toNat_ofNat]
  omega
theorem wrap_nat {k : IntKind} {a : Nat} (h0 : k.min ≤ 0) (h : (a : Int) ≤ k.max) : k.wrap (a : Int) = (a : Int) := wrap_keep k (by omega) h
theorem and1_u64 {a : Nat} (ha : a ≤ 18446744073709551615) : bitsOf .and .u64 (a : Int) 1 = ((a % 2 : Nat) : Int) := by
  have h : (BitVec.ofInt 64 (a : Int) &&& BitVec.ofInt 64 ((1 : Nat) : Int)).toNat = a % 2 := by
    rw [ofInt_nat, ofInt_nat, BitVec.toNat_and, BitVec.toNat_ofNat, BitVec.toNat_ofNat, Nat.mod_eq_of_lt (by omega), Nat.mod_eq_of_lt (by omega), Nat.and_one_is_mod]
  show IntKind.wrap .u64 ((BitVec.ofInt 64 (a : Int) &&& BitVec.ofInt 64 ((1 : Nat) : Int)).toNat : Int) = _
  rw [h]
  exact wrap_nat (by decide) (by show _ ≤ (18446744073709551615 : Int); omega)
def in64 (s : Int) : Prop := 0 ≤ s ∧ s ≤ 18446744073709551615
theorem setHas_fn (m : Mem) (s0 s1 s2 s3 : Int) (h0 : in64 s0) (h1 : in64 s1) (h2 : in64 s2) (h3 : in64 s3) (b : Nat) (hb : b < 256) :
    FnV Tryz.prog 130 [.agg (toArr [.int .u64 s0, .int .u64 s1, .int .u64 s2, .int .u64 s3]), .int .u8 b] m (.bool (hasR s0 s1 s2 s3 b)) := by
  unfold in64 at h0 h1 h2 h3
  obtain ⟨x, hx, hxm⟩ : ∃ x : Nat, selR s0 s1 s2 s3 (b / 64) = x ∧ x ≤ 18446744073709551615 := by
    refine ⟨(selR s0 s1 s2 s3 (b / 64)).toNat, ?_, ?_⟩ <;> unfold selR <;> split <;> (try split) <;> (try split) <;> omega
  have hsel : Ev.look [Value.int .u64 s0, .int .u64 s1, .int .u64 s2, .int .u64 s3] (b / 64) = some (.int .u64 x) := by
    rw [← hx]
    have : b / 64 = 0 ∨ b / 64 = 1 ∨ b / 64 = 2 ∨ b / 64 = 3 := by omega
    rcases this with e | e | e | e <;> rw [e] <;> rfl
  have hsx : x >>> (b % 64) ≤ x := by rw [Nat.shiftRight_eq_div_pow]; exact Nat.div_le_self _ _
  refine Fn.enter (N := 14) hX Tryz.func130 rfl rfl (by show _ ≤ _; simp) (fun w0 hL => ?_)
  conv => whnf
  refine NewReq.mk hL ?_
  clear hL
  intro b2 w hL
  conv => whnf
  conv => whnf
  repeat ((first | refine zT ?_ | refine zF ?_ | refine zL hX hL ?_ | refine zB hX hL ?_ | (refine zS hX hL ?_; clear hL; intro w hL) | refine zI ?_ | refine zG hX ?_ | refine zO ?_); conv => whnf)
  refine DivReq.mk (n := ((b / 64 : Nat) : Int)) (by decide) (by rw [show ((64 : Int)) = ((64 : Nat) : Int) from rfl, tdiv_nat]; exact wrap_nat (by decide) (by show _ ≤ (255 : Int); omega)) ?_
  conv => whnf
  repeat ((first | refine IdxReq.mk (b / 64) rfl (by omega) ?_ | (refine LdReq.ownAt hX rfl rfl 0 hL rfl (v := .int .u64 x) (by rw [← look_eq, scale_eq, Nat.zero_add, Nat.mul_one]; exact hsel) ?_) | refine zT ?_ | refine zF ?_ | refine zL hX hL ?_ | refine zB hX hL ?_ | (refine zS hX hL ?_; clear hL; intro w hL) | refine zI ?_ | refine zG hX ?_ | refine zO ?_); conv => whnf)
  refine RemReq.nat (k := 64) rfl (by omega) ?_
  conv => whnf
  repeat ((first | refine zT ?_ | refine zF ?_ | refine zL hX hL ?_ | refine zB hX hL ?_ | (refine zS hX hL ?_; clear hL; intro w hL) | refine zI ?_ | refine zG hX ?_ | refine zO ?_); conv => whnf)
  refine ShrReq.mk (n := ((x >>> (b % 64) : Nat) : Int)) (by omega) (by
    rw [show min (Int.toNat ((b % 64 : Nat) : Int)) (IntKind.bits .u64) = b % 64 from by show min (Int.toNat ((b % 64 : Nat) : Int)) 64 = b % 64; omega]
    rw [Int.fdiv_eq_ediv_of_nonneg _ (Int.le_of_lt (Int.pow_pos (by decide))), Nat.shiftRight_eq_div_pow]
    norm_cast) ?_
  conv => whnf
  repeat ((first | refine zT ?_ | refine zF ?_ | refine zL hX hL ?_ | refine zB hX hL ?_ | (refine zS hX hL ?_; clear hL; intro w hL) | refine zI ?_ | refine zG hX ?_ | refine zO ?_); conv => whnf)
  refine BitReq.mk (and1_u64 (by omega)) ?_
  conv => whnf
  repeat ((first | refine zT ?_ | refine zF ?_ | refine zL hX hL ?_ | refine zB hX hL ?_ | (refine zS hX hL ?_; clear hL; intro w hL) | refine zI ?_ | refine zG hX ?_ | refine zO ?_); conv => whnf)
  refine RetReq.bool (hL.sublist (List.nil_sublist _)) ?_
  unfold hasR
  rw [hx]
  refine decide_eq_decide.2 ?_
  rw [Int.toNat_natCast, Nat.shiftRight_eq_div_pow]
  omega
end Go.Proofs.YtiololnblplloaaGreat.tabs
namespace Go.Proofs.YtiololnblplloaaGreat.li
open Go Go.Ev Go.Proofs Go.Proofs.YtiololnblplloaaGreat.ar
theorem closed_fn (m : Mem) (ab : Nat) (ns : List Nd) (La : Ev.Own) (hA : Ar ab ns La) (hO : OkA ns) (v : Value) (f : fo.Fml) (hv : fo.FmV m v f) (hf : fo.FB ns.length f) :
    Ev.Fn Tryz.prog 154 [.pointer (some ⟨ab, 0, none⟩), v] m La fun m' L' u => ∃ ns' z, u = .int .i64 z ∧ i64 z ∧ ns <+: ns' ∧ OkA ns' ∧ Ar ab ns' L' := by
  have hmx : maxLen = 9223372036854775807 := rfl
  have hfl := hf.len
  have hnl := hO.len
  have hv' := hv
  obtain ⟨A0, n0, c0, rfl, hn0, -⟩ := id hv
  subst hn0
  refine Fn.enter (N := 24) hX Tryz.func154 rfl rfl (by show _ ≤ _; simp) (fun w0 hL => ?_)
  conv => whnf
  generalize keys La = S0 at hL ⊢
  conv => whnf
  repeat ((first | refine zT ?_ | refine zF ?_ | refine zL hX hL ?_ | refine zB hX hL ?_ | (refine zS hX hL ?_; clear hL; intro w hL) | refine zI ?_ | refine zG hX ?_ | refine zO ?_); conv => whnf)
  refine LoopReq.inv hX (fun s : Nat × Option Addr × Nat × Nat => [(5, .slice s.2.1 s.2.2.1 s.2.2.2), (10, .int .i64 s.1)]) [0, 8, 9]
    (fun s w => s.1 ≤ f.length ∧ ∃ m1 ns1 La1 l Lo, Mem.Le m m1 ∧ ns <+: ns1 ∧ OkA ns1 ∧ Ar ab ns1 La1 ∧ l.length = s.1 ∧ OwnS 3 1 (.slice s.2.1 s.2.2.1 s.2.2.2) (ints .i64 l) Lo ∧ Ev.Loc m S0 w0 m1 (Lo ++ La1) w) (fun s => f.length - s.1) (0, none, 0, 0)
    ⟨Nat.zero_le _, m, ns, La, [], [], Mem.Le.refl m, List.prefix_refl _, hO, hA, rfl, OwnS.nil _ _, hL⟩ ⟨rfl, rfl, trivial⟩ ?_
  clear hL
  rintro ⟨j, A1, n1, c1⟩ w g ⟨hj, m1, ns1, La1, l, Lo, hm1, hp1, hO1, hA1, hll, ho, hL⟩
  simp only at hj ho hll
  conv => whnf
  repeat ((first | refine zT ?_ | refine zF ?_ | refine zL hX hL ?_ | refine zB hX hL ?_ | (refine zS hX hL ?_; clear hL; intro w hL) | refine zI ?_ | refine zG hX ?_ | refine zO ?_); conv => whnf)
  refine BrReq.dec (fun hlt => ?_) (fun hlt => ?_)
  · have hj1 : j < f.length := by simp only at hlt; omega
    have hjm := List.getElem_mem hj1
    have hpl := hf.part hjm
    obtain ⟨a5, A5, n5, c5, ea, hcell, hpq⟩ := (hv'.le hm1).at_ hj1
    conv => whnf
    repeat ((first | (refine Idx2Req.mk j a5 rfl (by simp only at hlt; omega) ea ?_) | refine LdReq.one hX rfl rfl hL hcell ?_ | refine zT ?_ | refine zF ?_ | refine zL hX hL ?_ | refine zB hX hL ?_ | (refine zS hX hL ?_; clear hL; intro w hL) | refine zI ?_ | refine zG hX ?_ | refine zO ?_); conv => whnf)
    refine CallReq.mk (L1 := La1) (L2 := Lo) (AndG_fn m1 ab ns1 La1 hA1 hO1 _ f[j] hpq (by omega)) (Loc.back (L1 := Lo) hL) ?_
    clear hL
    rintro u m2 L2 w hL hm2 ⟨rfl, hA2⟩
    have hO2 := okA_gput hO1 true f[j]
    have hp2 := gput_pre true ns1 f[j]
    generalize gputN true ns1 f[j] = q at hA2 hO2 hp2 ⊢
    conv => whnf
    repeat ((first | refine zT ?_ | refine zF ?_ | refine zL hX hL ?_ | refine zB hX hL ?_ | (refine zS hX hL ?_; clear hL; intro w hL) | refine zI ?_ | refine zG hX ?_ | refine zO ?_); conv => whnf)
    refine NewReq.mk hL ?_
    clear hL
    intro b18 w hL
    conv => whnf
    replace hL : Ev.Loc m S0 w0 m2 ((b18, .cells (toArr [.int .i64 q.2]) 3 (0, 0)) :: (Lo ++ L2)) w := (hL.perm (List.Perm.cons _ List.perm_append_comm))
    conv => whnf
    repeat ((first | refine zT ?_ | refine zF ?_ | refine zL hX hL ?_ | refine zB hX hL ?_ | (refine zS hX hL ?_; clear hL; intro w hL) | refine zI ?_ | refine zG hX ?_ | refine zO ?_); conv => whnf)
    refine RunReq.push hX 108 3 rfl rfl rfl rfl rfl ho (L2 := L2) hL rfl rfl (by simp only [ints, List.length_map]; omega) rfl ?_
    clear hL
    intro A4 n4 c4 L4 w hn4 ho4 hL
    have ho5 : OwnS 3 1 (.slice A4 n4 c4) (ints .i64 (l ++ [q.2])) L4 := by rw [ints_append]; exact ho4
    conv => whnf
    repeat ((first | refine zT ?_ | refine zF ?_ | refine zL hX hL ?_ | refine zB hX hL ?_ | (refine zS hX hL ?_; clear hL; intro w hL) | refine zI ?_ | refine zG hX ?_ | refine zO ?_); conv => whnf)
    refine ⟨(j + 1, A4, n4, c4), ⟨by simp only; omega, m2, q.1, L2, l ++ [q.2], L4, hm1.trans hm2, hp1.trans hp2, hO2, hA2, by rw [List.length_append, hll]; rfl, ho5, hL⟩, by first | omega | (simp only; omega) | (simp only [List.length_cons, List.length_append]; omega), ?_, ?_⟩
    · repeat (first | exact trivial | (refine And.intro (by (conv => lhs; whnf) <;> (conv => rhs; whnf) <;> (first | rfl)) ?_))
    · repeat (first | exact trivial | (refine And.intro (by (conv => lhs; whnf) <;> (conv => rhs; whnf) <;> (first | rfl)) ?_))
  · obtain ⟨m2, hL2, hm2, hs⟩ := OwnS.freeze ho hL
    clear hL
    have hL := hL2
    clear hL2
    conv => whnf
    repeat ((first | refine zT ?_ | refine zF ?_ | refine zL hX hL ?_ | refine zB hX hL ?_ | (refine zS hX hL ?_; clear hL; intro w hL) | refine zI ?_ | refine zG hX ?_ | refine zO ?_); conv => whnf)
    refine CallReq.mk (L1 := La1) (L2 := []) (OrG_fn m2 ab ns1 La1 hA1 hO1 _ l hs (by omega)) (by rw [List.append_nil]; exact hL) ?_
    clear hL
    rintro u m3 L3 w hL hm3 ⟨rfl, hA3⟩
    rw [List.append_nil] at hL
    have hB := okB_or hO1 false l
    have hp3 := gput_pre false ns1 l
    generalize gputN false ns1 l = q at hA3 hB hp3 ⊢
    conv => whnf
    repeat ((first | refine zT ?_ | refine zF ?_ | refine zL hX hL ?_ | refine zB hX hL ?_ | (refine zS hX hL ?_; clear hL; intro w hL) | refine zI ?_ | refine zG hX ?_ | refine zO ?_); conv => whnf)
    exact RetReq.mk hL ⟨q.1, q.2, rfl, hB.2, hp1.trans hp3, hB.1, hA3⟩
def TG (m : Mem) (S : List Nat) (w0 : World) (Ls : Ev.Own) (sb ab b bits ma ml : Nat) (w : World) : Prop := ∃ e, Ev.Loc m S w0 m (Ls ++ [(sb, stO ab b bits e ma ml)]) w
theorem TG.own {m : Mem} {S : List Nat} {w0 : World} {Ls : Ev.Own} {sb ab b bits ma ml bk i te : Nat} {fz : Nat × Nat} {cs : List Value} {v : Value} (hx : (bk, .cells (toArr cs) te fz) ∈ Ls) (hv : cs[i]? = some v) (w : World) (h : TG m S w0 Ls sb ab b bits ma ml w) : w.cell? ((⟨bk, 0, none⟩ : Addr).add i) = some v := by
  obtain ⟨e, h⟩ := h
  rw [addr_add, Nat.zero_add, h.ownCell (List.mem_append_left _ hx)]
  simpa [toArr] using hv
theorem TG.own0 {m : Mem} {S : List Nat} {w0 : World} {Ls : Ev.Own} {sb ab b bits ma ml bk te : Nat} {fz : Nat × Nat} {cs : List Value} {v : Value} (hx : (bk, .cells (toArr cs) te fz) ∈ Ls) (hv : cs[0]? = some v) (w : World) (h : TG m S w0 Ls sb ab b bits ma ml w) : w.cell? ⟨bk, 0, none⟩ = some v := by
  have := TG.own (i := 0) hx hv w h
  rwa [addr_add] at this
theorem TG.st {m : Mem} {S : List Nat} {w0 : World} {Ls : Ev.Own} {sb ab b bits ma ml i : Nat} {v : Value} (hv : ∀ e, (([.pointer (some ⟨ab, 0, none⟩), .int .u8 b, .int .u8 bits, .int .i64 e, .map (some ma), .map (some ml)] : List Value))[i]? = some v) (w : World) (h : TG m S w0 Ls sb ab b bits ma ml w) : w.cell? ((⟨sb, 0, none⟩ : Addr).add i) = some v := by
  obtain ⟨e, h⟩ := h
  rw [addr_add, Nat.zero_add, h.ownCell (List.mem_append_right _ List.mem_cons_self)]
  simpa [toArr] using hv e
theorem TG.st0 {m : Mem} {S : List Nat} {w0 : World} {Ls : Ev.Own} {sb ab b bits ma ml : Nat} (w : World) (h : TG m S w0 Ls sb ab b bits ma ml w) : w.cell? ⟨sb, 0, none⟩ = some (.pointer (some ⟨ab, 0, none⟩)) := by
  have := TG.st (i := 0) (v := .pointer (some ⟨ab, 0, none⟩)) (fun _ => rfl) w h
  rwa [addr_add] at this
theorem TG.of {m m' : Mem} {S : List Nat} {w0 : World} {Ls : Ev.Own} {sb ab b bits ma ml : Nat} {e : Int} {L : Ev.Own} {w : World} (h : Ev.Loc m S w0 m' (Ls ++ (sb, stO ab b bits e ma ml) :: L) w) (hm : Mem.Le m m') : TG m S w0 Ls sb ab b bits ma ml w :=
  ⟨e, (h.sublist (List.Sublist.append_left (.cons_cons _ (List.nil_sublist _)) _)).weaken hm (Mem.Le.refl _)⟩
theorem containsA_fn (m : Mem) (v : Value) (f : fo.Fml) (hv : fo.FmV m v f) (hfl : f.length ≤ 200) : Fn0 Tryz.prog 100 [v, .func (.func 153) #[] #[]] m fun _ u => ∃ b, u = .bool b := by
  have hv' := hv
  obtain ⟨A0, n0, c0, rfl, hn0, -, hm0, -⟩ := id hv
  subst hn0
  have hmx : maxLen = 9223372036854775807 := rfl
  have hix : Fn0 Tryz.prog 128 [.slice A0 f.length c0, .func (.func 153) #[] #[]] m fun _ u => ∃ z, u = .int .i64 z := by
    refine Fn.enter (N := 19) hX Tryz.func128 rfl rfl (by show _ ≤ _; simp) (fun w0 hL => ?_)
    conv => whnf
    conv => whnf
    repeat ((first | refine zT ?_ | refine zF ?_ | refine zL hX hL ?_ | refine zB hX hL ?_ | (refine zS hX hL ?_; clear hL; intro w hL) | refine zI ?_ | refine zG hX ?_ | refine zO ?_); conv => whnf)
    refine LoopReq.inv hX (fun j : Nat => [(8, .int .i64 j)]) [0, 1, 7]
      (fun j w => j ≤ f.length ∧ Ev.Loc m [] w0 m [] w) (fun j => f.length - j) 0 ⟨Nat.zero_le _, hL⟩ ⟨rfl, trivial⟩ ?_
    clear hL
    rintro j w g ⟨hj, hL⟩
    conv => whnf
    repeat ((first | refine zT ?_ | refine zF ?_ | refine zL hX hL ?_ | refine zB hX hL ?_ | (refine zS hX hL ?_; clear hL; intro w hL) | refine zI ?_ | refine zG hX ?_ | refine zO ?_); conv => whnf)
    refine BrReq.dec (fun hlt => ?_) (fun hlt => ?_)
    · have hj1 : j < f.length := by omega
      obtain ⟨a5, A5, n5, c5, ea, hcell, hpq⟩ := hv'.at_ hj1
      have ha1 : FnV Tryz.prog 153 [.slice A5 n5 c5] m (.bool (decide ((n5 : Int) ≠ 1))) := by
        refine Fn.enter (N := 6) hX Tryz.func153 rfl rfl (by show _ ≤ _; simp) (fun w0 hL => ?_)
        conv => whnf
        conv => whnf
        repeat ((first | refine zT ?_ | refine zF ?_ | refine zL hX hL ?_ | refine zB hX hL ?_ | (refine zS hX hL ?_; clear hL; intro w hL) | refine zI ?_ | refine zG hX ?_ | refine zO ?_); conv => whnf)
        exact RetReq.bool hL rfl
      conv => whnf
      repeat ((first | refine Idx2Req.mk j a5 rfl (by omega) ea ?_ | refine LdReq.one hX rfl rfl hL hcell ?_ | refine zT ?_ | refine zF ?_ | refine zL hX hL ?_ | refine zB hX hL ?_ | (refine zS hX hL ?_; clear hL; intro w hL) | refine zI ?_ | refine zG hX ?_ | refine zO ?_); conv => whnf)
      refine CallReq.val ha1 hL ?_
      clear hL
      intro w hL
      conv => whnf
      repeat ((first | refine zT ?_ | refine zF ?_ | refine zL hX hL ?_ | refine zB hX hL ?_ | (refine zS hX hL ?_; clear hL; intro w hL) | refine zI ?_ | refine zG hX ?_ | refine zO ?_); conv => whnf)
      refine BrReq.bool (fun hb => ?_) (fun hb => ?_)
      · conv => whnf
        repeat ((first | refine zT ?_ | refine zF ?_ | refine zL hX hL ?_ | refine zB hX hL ?_ | (refine zS hX hL ?_; clear hL; intro w hL) | refine zI ?_ | refine zG hX ?_ | refine zO ?_); conv => whnf)
        exact RetReq.mk hL ⟨rfl, _, rfl⟩
      · conv => whnf
        repeat ((first | refine zT ?_ | refine zF ?_ | refine zL hX hL ?_ | refine zB hX hL ?_ | (refine zS hX hL ?_; clear hL; intro w hL) | refine zI ?_ | refine zG hX ?_ | refine zO ?_); conv => whnf)
        refine ⟨j + 1, ⟨by omega, hL⟩, by first | omega | (simp only; omega) | (simp only [List.length_cons, List.length_append]; omega), ?_, ?_⟩
        · repeat (first | exact trivial | (refine And.intro (by (conv => lhs; whnf) <;> (conv => rhs; whnf) <;> (first | rfl)) ?_))
        · repeat (first | exact trivial | (refine And.intro (by (conv => lhs; whnf) <;> (conv => rhs; whnf) <;> (first | rfl)) ?_))
    · conv => whnf
      repeat ((first | refine zT ?_ | refine zF ?_ | refine zL hX hL ?_ | refine zB hX hL ?_ | (refine zS hX hL ?_; clear hL; intro w hL) | refine zI ?_ | refine zG hX ?_ | refine zO ?_); conv => whnf)
      exact RetReq.mk hL ⟨rfl, _, rfl⟩
  refine Fn.enter (N := 9) hX Tryz.func100 rfl rfl (by show _ ≤ _; simp) (fun w0 hL => ?_)
  conv => whnf
  conv => whnf
  repeat ((first | refine zT ?_ | refine zF ?_ | refine zL hX hL ?_ | refine zB hX hL ?_ | (refine zS hX hL ?_; clear hL; intro w hL) | refine zI ?_ | refine zG hX ?_ | refine zO ?_); conv => whnf)
  refine CallReq.pure hix hL ?_
  clear hL
  rintro u m1 w hL hm1 ⟨z, rfl⟩
  conv => whnf
  repeat ((first | refine zT ?_ | refine zF ?_ | refine zL hX hL ?_ | refine zB hX hL ?_ | (refine zS hX hL ?_; clear hL; intro w hL) | refine zI ?_ | refine zG hX ?_ | refine zO ?_); conv => whnf)
  exact RetReq.mk hL ⟨rfl, _, rfl⟩
theorem ahead2_cal {ab sb b bits ma ml : Nat} (b3 b5 : Nat) (y : Int) (hy : i64 y) (ns0 : List Nd) :
    CalC ab sb b bits ma ml 155 (fun z => [.int .i64 z, .pointer (some ⟨b3, 0, none⟩), .pointer (some ⟨b5, 0, none⟩)]) [(b5, .cells (toArr [.int .i64 y]) 3 (0, 0)), (b3, .cells (toArr [.pointer (some ⟨sb, 0, none⟩)]) 86 (0, 0))] ns0 := by
  intro m ns e la ll La z hpre hz hS
  have hzk := okId_pre hpre hz
  refine Fn.enter (N := 14) hX Tryz.func155 rfl rfl (by show _ ≤ _; simp) (fun w0 hL => ?_)
  conv => whnf
  generalize keys ([(b5, Obj.cells (toArr [.int .i64 y]) 3 (0, 0)), (b3, .cells (toArr [.pointer (some ⟨sb, 0, none⟩)]) 86 (0, 0))] ++ stL ab sb b bits e ma ml la ll La) = S0 at hL ⊢
  conv => whnf
  repeat ((first | refine zT ?_ | refine zF ?_ | refine zL hX hL ?_ | refine zB hX hL ?_ | (refine zS hX hL ?_; clear hL; intro w hL) | refine zI ?_ | refine zG hX ?_ | refine zO ?_); conv => whnf)
  refine DrawReq.planS hX (.fst 0 (.fst 1 (.fst 2 (.fst 3 (.fst 4 (.fst 5 (.fst 6 (.alt 7 (.alt 8 (.fst 9 (.done)) (.stop)) (.stop))))))))) (TG m S0 w0 [(b5, .cells (toArr [.int .i64 y]) 3 (0, 0)), (b3, .cells (toArr [.pointer (some ⟨sb, 0, none⟩)]) 86 (0, 0))] sb ab b bits ma ml) (by kernel_rfl) (by kernel_rfl) hL (fun w h => TG.of (Ls := [_, _]) h (Mem.Le.refl _)) ?_
  clear hL
  intro w hL
  conv => whnf
  repeat ((first | refine QLdReq.told hX rfl rfl TG.st0 ?_ | refine QLdReq.told hX rfl rfl (TG.own0 (bk := b3) (List.mem_cons_of_mem _ List.mem_cons_self) rfl) ?_ | refine QLdReq.told hX rfl rfl (TG.own0 (bk := b5) List.mem_cons_self rfl) ?_ | refine zQ hX ?_ | refine zR hX ?_ | refine zA ?_ | refine zT ?_ | refine zF ?_ | refine zL hX hL ?_ | refine zB hX hL ?_ | (refine zS hX hL ?_; clear hL; intro w hL) | refine zI ?_ | refine zG hX ?_ | refine zO ?_); conv => whnf)
  refine CallReq.mk (L1 := La) (L2 := [_, _, _, _, _]) (CatF_fn ab (z.toNat + 1) m ns La hS.ar hS.ok z y (okId_i64 hS.ok.len hzk) hy (fun _ => Nat.lt_succ_self _) (Nat.succ_pos _)) (Loc.back (L1 := [_, _, _, _, _]) hL) ?_
  clear hL
  rintro u m1 L1 w hL hm1 ⟨rfl, hA1⟩
  have hL := Loc.back (L1 := L1) (L2 := [_, _, _, _, _]) hL
  have hB := catF_i64 (z.toNat + 1) hS.ok (okId_i64 hS.ok.len hzk) hy
  have hp1 := catF_pre (z.toNat + 1) ns z y
  generalize catF (z.toNat + 1) ns z y = q at hA1 hB hp1 hL ⊢
  have hS1 := (hS.grow hm1).arena hp1 hB.1 hA1
  refine SReq.mk (TG.of (Ls := [_, _]) hL hm1) ?_
  conv => whnf
  repeat ((first | refine zQ hX ?_ | refine zR hX ?_ | refine zA ?_ | refine zT ?_ | refine zF ?_ | refine zL hX hL ?_ | refine zB hX hL ?_ | (refine zS hX hL ?_; clear hL; intro w hL) | refine zI ?_ | refine zG hX ?_ | refine zO ?_); conv => whnf)
  refine CallReq.mk (L1 := stL ab sb b bits _ ma ml _ _ _) (L2 := [_, _]) (of_fn ab sb b bits ma ml _ _ _ _ _ _ _ _ hS1 hB.2 (fun _ => Nat.lt_succ_self _)) (Loc.back (L1 := [_, _]) hL) ?_
  clear hL
  rintro u m2 L2 w hL hm2 ⟨ns2, e2, la2, ll2, La2, f2, hp2, hS2, rfl, hf2, hb2⟩
  obtain ⟨A2, n2, c2, rfl, -⟩ := id hf2
  have hL := Loc.back (L1 := stL ab sb b bits e2 ma ml la2 ll2 La2) (L2 := [_, _]) hL
  refine SReq.mk (TG.of (Ls := [_, _]) hL (hm1.trans hm2)) ?_
  conv => whnf
  repeat ((first | refine zQ hX ?_ | refine zR hX ?_ | refine zA ?_ | refine zT ?_ | refine zF ?_ | refine zL hX hL ?_ | refine zB hX hL ?_ | (refine zS hX hL ?_; clear hL; intro w hL) | refine zI ?_ | refine zG hX ?_ | refine zO ?_); conv => whnf)
  exact RetReq.mk hL ⟨ns2, e2, la2, ll2, La2, f2, hp1.trans hp2, hS2, rfl, hf2, hb2⟩
theorem behind1_cal {ab sb b bits ma ml : Nat} (b3 : Nat) (ns0 : List Nd) :
    CalC ab sb b bits ma ml 133 (fun z => [.int .i64 z, .pointer (some ⟨b3, 0, none⟩)]) [(b3, .cells (toArr [.pointer (some ⟨sb, 0, none⟩)]) 86 (0, 0))] ns0 := by
  intro m ns e la ll La z hpre hz hS
  have hzk := okId_pre hpre hz
  refine Fn.enter (N := 12) hX Tryz.func133 rfl rfl (by show _ ≤ _; simp) (fun w0 hL => ?_)
  conv => whnf
  generalize keys ([(b3, Obj.cells (toArr [.pointer (some ⟨sb, 0, none⟩)]) 86 (0, 0))] ++ stL ab sb b bits e ma ml la ll La) = S0 at hL ⊢
  conv => whnf
  repeat ((first | refine zT ?_ | refine zF ?_ | refine zL hX hL ?_ | refine zB hX hL ?_ | (refine zS hX hL ?_; clear hL; intro w hL) | refine zI ?_ | refine zG hX ?_ | refine zO ?_); conv => whnf)
  refine DrawReq.planS hX (.fst 0 (.fst 1 (.fst 2 (.fst 3 (.fst 4 (.fst 5 (.alt 6 (.alt 7 (.fst 8 (.done)) (.stop)) (.stop)))))))) (TG m S0 w0 [(b3, .cells (toArr [.pointer (some ⟨sb, 0, none⟩)]) 86 (0, 0))] sb ab b bits ma ml) (by kernel_rfl) (by kernel_rfl) hL (fun w h => TG.of (Ls := [_]) h (Mem.Le.refl _)) ?_
  clear hL
  intro w hL
  conv => whnf
  repeat ((first | refine QLdReq.told hX rfl rfl TG.st0 ?_ | refine QLdReq.told hX rfl rfl (TG.own0 (bk := b3) List.mem_cons_self rfl) ?_ | refine zQ hX ?_ | refine zR hX ?_ | refine zA ?_ | refine zT ?_ | refine zF ?_ | refine zL hX hL ?_ | refine zB hX hL ?_ | (refine zS hX hL ?_; clear hL; intro w hL) | refine zI ?_ | refine zG hX ?_ | refine zO ?_); conv => whnf)
  refine CallReq.mk (L1 := La) (L2 := [_, _, _, _]) (NotG_fn m ab ns La hS.ar hS.ok z) (Loc.back (L1 := [_, _, _, _]) hL) ?_
  clear hL
  rintro u m1 L1 w hL hm1 ⟨rfl, hA1⟩
  have hL := Loc.back (L1 := L1) (L2 := [_, _, _, _]) hL
  have hB := okB_not hS.ok (okId_i64 hS.ok.len hzk)
  have hp1 := notN_pre ns z
  generalize notN ns z = q at hA1 hB hp1 hL ⊢
  have hS1 := (hS.grow hm1).arena hp1 hB.1 hA1
  refine SReq.mk (TG.of (Ls := [_]) hL hm1) ?_
  conv => whnf
  repeat ((first | refine zQ hX ?_ | refine zR hX ?_ | refine zA ?_ | refine zT ?_ | refine zF ?_ | refine zL hX hL ?_ | refine zB hX hL ?_ | (refine zS hX hL ?_; clear hL; intro w hL) | refine zI ?_ | refine zG hX ?_ | refine zO ?_); conv => whnf)
  refine CallReq.mk (L1 := stL ab sb b bits _ ma ml _ _ _) (L2 := [_]) (of_fn ab sb b bits ma ml _ _ _ _ _ _ _ _ hS1 hB.2 (fun _ => Nat.lt_succ_self _)) (Loc.back (L1 := [_]) hL) ?_
  clear hL
  rintro u m2 L2 w hL hm2 ⟨ns2, e2, la2, ll2, La2, f2, hp2, hS2, rfl, hf2, hb2⟩
  obtain ⟨A2, n2, c2, rfl, -⟩ := id hf2
  have hL := Loc.back (L1 := stL ab sb b bits e2 ma ml la2 ll2 La2) (L2 := [_]) hL
  refine SReq.mk (TG.of (Ls := [_]) hL (hm1.trans hm2)) ?_
  conv => whnf
  repeat ((first | refine zQ hX ?_ | refine zR hX ?_ | refine zA ?_ | refine zT ?_ | refine zF ?_ | refine zL hX hL ?_ | refine zB hX hL ?_ | (refine zS hX hL ?_; clear hL; intro w hL) | refine zI ?_ | refine zG hX ?_ | refine zO ?_); conv => whnf)
  exact RetReq.mk hL ⟨ns2, e2, la2, ll2, La2, f2, hp1.trans hp2, hS2, rfl, hf2, hb2⟩
set_option maxHeartbeats 4000000 in
theorem ahead_fn {ab sb b bits : Nat} {m : Mem} {ns : List Nd} {e : Int} {ma ml : Nat} {la ll : List (Value × Value)} {La : Ev.Own} (hS : Stp ab sb b bits m ns e ma ml la ll La) (v : Value) (f : fo.Fml) (hv : fo.FmV m v f) (hf : fo.FB ns.length f) (y : Int) (hy : i64 y) :
    Ev.Fn Tryz.prog 131 [.pointer (some ⟨sb, 0, none⟩), v, .int .i64 y] m (stL ab sb b bits e ma ml la ll La) (StQ ab sb b bits ns ma ml) := by
  have hcon := containsA_fn m v f hv hf.len
  have hcl := closed_fn m ab ns La hS.ar hS.ok v f hv hf
  obtain ⟨A0, n0, c0, rfl, -⟩ := id hv
  refine Fn.enter (N := 27) hX Tryz.func131 rfl rfl (by show _ ≤ _; simp) (fun w0 hL => ?_)
  conv => whnf
  generalize keys (stL ab sb b bits e ma ml la ll La) = S0 at hL ⊢
  refine NewReq.mk hL ?_
  clear hL
  intro b3 w hL
  conv => whnf
  refine NewReq.mk hL ?_
  clear hL
  intro b5 w hL
  conv => whnf
  conv => whnf
  repeat ((first | refine zT ?_ | refine zF ?_ | refine zL hX hL ?_ | refine zB hX hL ?_ | (refine zS hX hL ?_; clear hL; intro w hL) | refine zI ?_ | refine zG hX ?_ | refine zO ?_); conv => whnf)
  refine CallReq.pure hcon hL ?_
  clear hL
  rintro u m' w hL hm' ⟨bo, rfl⟩
  replace hL := hL.weaken hm' (Mem.Le.refl _)
  conv => whnf
  repeat ((first | refine zT ?_ | refine zF ?_ | refine zL hX hL ?_ | refine zB hX hL ?_ | (refine zS hX hL ?_; clear hL; intro w hL) | refine zI ?_ | refine zG hX ?_ | refine zO ?_); conv => whnf)
  refine BrReq.bool (fun hb => ?_) (fun hb => ?_)
  · conv => whnf
    repeat ((first | refine zT ?_ | refine zF ?_ | refine zL hX hL ?_ | refine zB hX hL ?_ | (refine zS hX hL ?_; clear hL; intro w hL) | refine zI ?_ | refine zG hX ?_ | refine zO ?_); conv => whnf)
    refine DrawReq.planS hX (.fst 0 (.fst 1 (.fst 2 (.fst 3 (.fst 4 (.fst 5 (.fst 6 (.fst 7 (.fst 8 (.fst 9 (.fst 11 (.alt 10 (.alt 12 (.alt 13 (.fst 14 (.done)) (.stop)) (.stop)) (.stop))))))))))))) (TG m S0 w0 [(b5, .cells (toArr [.int .i64 y]) 3 (0, 0)), (b3, .cells (toArr [.pointer (some ⟨sb, 0, none⟩)]) 86 (0, 0))] sb ab b bits ma ml) (by kernel_rfl) (by kernel_rfl) hL (fun w h => TG.of (Ls := [_, _]) h (Mem.Le.refl _)) ?_
    clear hL
    intro w hL
    conv => whnf
    repeat ((first | refine QLdReq.told hX rfl rfl TG.st0 ?_ | refine QLdReq.told hX rfl rfl (TG.own0 (bk := b3) (List.mem_cons_of_mem _ List.mem_cons_self) rfl) ?_ | refine QLdReq.told hX rfl rfl (TG.own0 (bk := b5) List.mem_cons_self rfl) ?_ | refine zQ hX ?_ | refine zR hX ?_ | refine zA ?_ | refine zT ?_ | refine zF ?_ | refine zL hX hL ?_ | refine zB hX hL ?_ | (refine zS hX hL ?_; clear hL; intro w hL) | refine zI ?_ | refine zG hX ?_ | refine zO ?_); conv => whnf)
    refine CallReq.mk (L1 := La) (L2 := [_, _, _, _, _]) hcl (Loc.back (L1 := [_, _, _, _, _]) hL) ?_
    clear hL
    rintro u m1 L1 w hL hm1 ⟨ns1, z, rfl, hz, hp1, hO1, hA1⟩
    have hL := Loc.back (L1 := L1) (L2 := [_, _, _, _, _]) hL
    have hS1 := (hS.grow hm1).arena hp1 hO1 hA1
    refine SReq.mk (TG.of (Ls := [_, _]) hL hm1) ?_
    conv => whnf
    repeat ((first | refine zQ hX ?_ | refine zR hX ?_ | refine zA ?_ | refine zT ?_ | refine zF ?_ | refine zL hX hL ?_ | refine zB hX hL ?_ | (refine zS hX hL ?_; clear hL; intro w hL) | refine zI ?_ | refine zG hX ?_ | refine zO ?_); conv => whnf)
    refine CallReq.mk (L1 := L1) (L2 := [_, _, _, _, _]) (CatF_fn ab (z.toNat + 1) m1 ns1 L1 hA1 hO1 z y hz hy (fun _ => Nat.lt_succ_self _) (Nat.succ_pos _)) (Loc.back (L1 := [_, _, _, _, _]) hL) ?_
    clear hL
    rintro u m2 L2 w hL hm2 ⟨rfl, hA2⟩
    have hL := Loc.back (L1 := L2) (L2 := [_, _, _, _, _]) hL
    have hB := catF_i64 (z.toNat + 1) hO1 hz hy
    have hp2 := catF_pre (z.toNat + 1) ns1 z y
    generalize catF (z.toNat + 1) ns1 z y = q at hA2 hB hp2 hL ⊢
    have hS2 := (hS1.grow hm2).arena hp2 hB.1 hA2
    refine SReq.mk (TG.of (Ls := [_, _]) hL (hm1.trans hm2)) ?_
    conv => whnf
    repeat ((first | refine zQ hX ?_ | refine zR hX ?_ | refine zA ?_ | refine zT ?_ | refine zF ?_ | refine zL hX hL ?_ | refine zB hX hL ?_ | (refine zS hX hL ?_; clear hL; intro w hL) | refine zI ?_ | refine zG hX ?_ | refine zO ?_); conv => whnf)
    refine CallReq.mk (L1 := stL ab sb b bits _ ma ml _ _ _) (L2 := [_, _]) (of_fn ab sb b bits ma ml _ _ _ _ _ _ _ _ hS2 hB.2 (fun _ => Nat.lt_succ_self _)) (Loc.back (L1 := [_, _]) hL) ?_
    clear hL
    rintro u m3 L3 w hL hm3 ⟨ns3, e3, la3, ll3, La3, f3, hp3, hS3, rfl, hf3, hb3⟩
    obtain ⟨A3, n3, c3, rfl, -⟩ := id hf3
    have hL := Loc.back (L1 := stL ab sb b bits e3 ma ml la3 ll3 La3) (L2 := [_, _]) hL
    refine SReq.mk (TG.of (Ls := [_, _]) hL (hm1.trans (hm2.trans hm3))) ?_
    conv => whnf
    repeat ((first | refine zQ hX ?_ | refine zR hX ?_ | refine zA ?_ | refine zT ?_ | refine zF ?_ | refine zL hX hL ?_ | refine zB hX hL ?_ | (refine zS hX hL ?_; clear hL; intro w hL) | refine zI ?_ | refine zG hX ?_ | refine zO ?_); conv => whnf)
    exact RetReq.mk hL.drop.drop ⟨ns3, e3, la3, ll3, La3, f3, hp1.trans (hp2.trans hp3), hS3, rfl, hf3, hb3⟩
  · conv => whnf
    repeat ((first | refine zT ?_ | refine zF ?_ | refine zL hX hL ?_ | refine zB hX hL ?_ | (refine zS hX hL ?_; clear hL; intro w hL) | refine zI ?_ | refine zG hX ?_ | refine zO ?_); conv => whnf)
    refine CallReq.mk (L1 := [(b5, .cells (toArr [.int .i64 y]) 3 (0, 0)), (b3, .cells (toArr [.pointer (some ⟨sb, 0, none⟩)]) 86 (0, 0))] ++ stL ab sb b bits e ma ml la ll La) (L2 := []) (put2_fn _ f b3 b5 y hS hv hf (ahead2_cal b3 b5 y hy ns)) (by rw [List.append_nil]; exact hL) ?_
    clear hL
    rintro u m3 L3 w hL hm3 ⟨ns3, e3, la3, ll3, La3, f3, hp3, hS3, rfl, hf3, hb3⟩
    obtain ⟨A3, n3, c3, rfl, -⟩ := id hf3
    rw [List.append_nil] at hL
    replace hL : Ev.Loc m S0 w0 m3 ((b5, .cells (toArr [.int .i64 y]) 3 (0, 0)) :: (b3, .cells (toArr [.pointer (some ⟨sb, 0, none⟩)]) 86 (0, 0)) :: stL ab sb b bits e3 ma ml la3 ll3 La3) w := hL
    conv => whnf
    repeat ((first | refine zT ?_ | refine zF ?_ | refine zL hX hL ?_ | refine zB hX hL ?_ | (refine zS hX hL ?_; clear hL; intro w hL) | refine zI ?_ | refine zG hX ?_ | refine zO ?_); conv => whnf)
    exact RetReq.mk hL.drop.drop ⟨ns3, e3, la3, ll3, La3, f3, hp3, hS3, rfl, hf3, hb3⟩
end Go.Proofs.YtiololnblplloaaGreat.li
namespace Go.Proofs.YtiololnblplloaaGreat.li
open Go Go.Ev Go.Proofs Go.Proofs.YtiololnblplloaaGreat.ar
theorem QLdReq.toldB {P : Program} {X : Tab} (hX : TabsOk P X) {t : Nat} {ti : TI} (ht : Ev.look X.T t = some (some ti)) (hd : ti.d.isAgg = true) {a : Addr} {vs : List Value} {T : World → Prop} {K : Value → Prop} (hl : vs.length = ti.size) (hv : ∀ w, T w → ∀ (j : Nat) (v : Value), vs[j]? = some v → w.cell? (a.add j) = some v) (h : K (.agg (toArr vs))) :
    QLdReq P t T a K := ⟨_, fun w hw => run_loadVar_agg (hX.t _ _ ht) hd hl (fun j v hj => hv w hw j v hj), h⟩
def StepC (ab sb b bits ma ml : Nat) (k : Nat) : Prop := ∀ (m : Mem) (ns : List Nd) (e : Int) (la ll : List (Value × Value)) (La : Ev.Own) (i0 : Int), Stp ab sb b bits m ns e ma ml la ll La → okId ns i0 → i0.toNat < k →
  Ev.Fn Tryz.prog 68 [.pointer (some ⟨sb, 0, none⟩), .int .i64 i0] m (stL ab sb b bits e ma ml la ll La) (StQ ab sb b bits ns ma ml)
theorem empty_fn2 (m : Mem) (ab : Nat) (ns : List Nd) (L : Ev.Own) (hA : Ar ab ns L) (hO : OkA ns) :
    Ev.Fn Tryz.prog 77 [.pointer (some ⟨ab, 0, none⟩)] m L (PutQ ab (emptyN ns).1 (emptyN ns).2 m) := Empty_fn m ab ns L hA hO
theorem TG.set {m : Mem} {S : List Nat} {w0 : World} {Ls : Ev.Own} {sb ab b bits ma ml bk te : Nat} {fz : Nat × Nat} {cs vs : List Value} (hx : (bk, .cells (toArr cs) te fz) ∈ Ls) (hv : ∀ (j : Nat) (v : Value), vs[j]? = some v → cs[1 + j]? = some v) (w : World) (h : TG m S w0 Ls sb ab b bits ma ml w) (j : Nat) (v : Value) (hj : vs[j]? = some v) : w.cell? (((⟨bk, 0, none⟩ : Addr).add 1).add j) = some v := by
  have := TG.own (i := 1 + j) hx (hv j v hj) w h
  rw [addr_add] at this
  rw [addr_add, addr_add, Nat.add_assoc]; exact this
set_option maxHeartbeats 8000000 in
theorem behind_fn {ab sb b bits ma ml : Nat} (hb8 : b < 256) (hbits : bits < 256) {k : Nat} (ih : StepC ab sb b bits ma ml k) {m : Mem} {ns : List Nd} {e : Int} {la ll : List (Value × Value)} {La : Ev.Own} (hS : Stp ab sb b bits m ns e ma ml la ll La) (i0 : Int) (hid : okId ns i0) (hk : i0.toNat ≤ k) :
    Ev.Fn Tryz.prog 105 [.pointer (some ⟨sb, 0, none⟩), .int .i64 i0] m (stL ab sb b bits e ma ml la ll La) (StQ ab sb b bits ns ma ml) := by
  have hlen := hS.ok.len
  obtain ⟨x, hx1, hx2⟩ := nodeN_ok hid
  have hnode := Node_fn m ab ns La hS.ar i0
  rw [hx1] at hnode
  simp only at hnode
  have hkx : kindN ns i0 = x.k := by unfold kindN; rw [hx1]
  have hpt := parts_lt hS.ok hid
  rw [hkx, hx1] at hpt
  have hon := one_lt hS.ok hid
  rw [hkx, hx1] at hon
  have hin := hS.ok.inn x (List.mem_of_getElem? hx2)
  have h0 := hid.1
  refine Fn.enter (N := 109) hX Tryz.func105 rfl rfl (by show _ ≤ _; simp) (fun w0 hL => ?_)
  conv => whnf
  generalize keys (stL ab sb b bits e ma ml la ll La) = S0 at hL ⊢
  refine NewReq.mk hL ?_
  clear hL
  intro b2 w hL
  conv => whnf
  conv => whnf
  repeat ((first | refine zT ?_ | refine zF ?_ | refine zL hX hL ?_ | refine zB hX hL ?_ | (refine zS hX hL ?_; clear hL; intro w hL) | refine zI ?_ | refine zG hX ?_ | refine zO ?_); conv => whnf)
  refine CallReq.li (L1 := La) hnode (Loc.back (L1 := [_, _, _, _]) hL) ?_
  clear hL
  intro w hL
  have hL := Loc.back (L1 := La) (L2 := [_, _, _, _]) hL
  conv => whnf
  repeat ((first | refine zT ?_ | refine zF ?_ | refine zL hX hL ?_ | refine zB hX hL ?_ | (refine zS hX hL ?_; clear hL; intro w hL) | refine zI ?_ | refine zG hX ?_ | refine zO ?_); conv => whnf)
  refine NewReq.mk hL ?_
  clear hL
  intro bn w hL
  conv => whnf
  obtain ⟨xk, s0, s1, s2, s3, a, b', neg⟩ := x
  simp only at hpt hkx hon
  by_cases k2 : xk = 2
  · subst k2
    have hhas := tabs.setHas_fn m s0 s1 s2 s3 hin.s0 hin.s1 hin.s2 hin.s3 b hb8
    conv => whnf
    repeat ((first | refine zT ?_ | refine zF ?_ | refine zL hX hL ?_ | refine zB hX hL ?_ | (refine zS hX hL ?_; clear hL; intro w hL) | refine zI ?_ | refine zG hX ?_ | refine zO ?_); conv => whnf)
    refine DrawReq.planS hX (.fst 0 (.fst 1 (.fst 2 (.fst 3 (.fst 4 (.fst 5 (.alt 6 (.done) (.stop)))))))) (TG m S0 w0 [(bn, .cells (toArr (ndC ⟨2, s0, s1, s2, s3, a, b', neg⟩)) 80 (0, 0)), (b2, .cells (toArr [.pointer (some ⟨sb, 0, none⟩)]) 86 (0, 0))] sb ab b bits ma ml) (by kernel_rfl) (by kernel_rfl) hL (fun w h => TG.of (Ls := [_, _]) h (Mem.Le.refl _)) ?_
    clear hL
    intro w hL
    conv => whnf
    repeat ((first | refine QLdReq.told hX rfl rfl TG.st0 ?_ | refine QLdReq.told hX rfl rfl (TG.own0 (bk := b2) (List.mem_cons_of_mem _ List.mem_cons_self) rfl) ?_ | refine QLdReq.told hX rfl rfl (TG.own (bk := bn) (i := 5) List.mem_cons_self rfl) ?_ | refine QLdReq.told hX rfl rfl (TG.own (bk := bn) (i := 6) List.mem_cons_self rfl) ?_ | refine QLdReq.told hX rfl rfl (TG.st (i := 1) (fun _ => rfl)) ?_ | refine QLdReq.told hX rfl rfl (TG.st (i := 2) (fun _ => rfl)) ?_ | refine zQ hX ?_ | refine zR hX ?_ | refine zA ?_ | refine zT ?_ | refine zF ?_ | refine zL hX hL ?_ | refine zB hX hL ?_ | (refine zS hX hL ?_; clear hL; intro w hL) | refine zI ?_ | refine zG hX ?_ | refine zO ?_); conv => whnf)
    refine QLdReq.toldB hX rfl rfl (vs := [.int .u64 s0, .int .u64 s1, .int .u64 s2, .int .u64 s3]) rfl (TG.set (bk := bn) List.mem_cons_self (fun j v hj => by
      match j, hj with
      | 0, hj => exact hj
      | 1, hj => exact hj
      | 2, hj => exact hj
      | 3, hj => exact hj
      | _ + 4, hj => cases hj)) ?_
    conv => whnf
    repeat ((first | refine QLdReq.told hX rfl rfl TG.st0 ?_ | refine QLdReq.told hX rfl rfl (TG.own0 (bk := b2) (List.mem_cons_of_mem _ List.mem_cons_self) rfl) ?_ | refine QLdReq.told hX rfl rfl (TG.st (i := 1) (fun _ => rfl)) ?_ | refine zQ hX ?_ | refine zR hX ?_ | refine zA ?_ | refine zT ?_ | refine zF ?_ | refine zL hX hL ?_ | refine zB hX hL ?_ | (refine zS hX hL ?_; clear hL; intro w hL) | refine zI ?_ | refine zG hX ?_ | refine zO ?_); conv => whnf)
    refine CallReq.val hhas hL ?_
    clear hL
    intro w hL
    refine SReq.mk (TG.of (Ls := [_, _]) hL (Mem.Le.refl _)) ?_
    conv => whnf
    repeat ((first | refine zQ hX ?_ | refine zR hX ?_ | refine zA ?_ | refine zT ?_ | refine zF ?_ | refine zL hX hL ?_ | refine zB hX hL ?_ | (refine zS hX hL ?_; clear hL; intro w hL) | refine zI ?_ | refine zG hX ?_ | refine zO ?_); conv => whnf)
    refine BrReq.bool (fun hb => ?_) (fun hb => ?_)
    · conv => whnf
      repeat ((first | refine zT ?_ | refine zF ?_ | refine zL hX hL ?_ | refine zB hX hL ?_ | (refine zS hX hL ?_; clear hL; intro w hL) | refine zI ?_ | refine zG hX ?_ | refine zO ?_); conv => whnf)
      refine DrawReq.planS hX (.fst 0 (.fst 1 (.fst 2 (.fst 3 (.fst 4 (.alt 5 (.alt 6 (.fst 7 (.done)) (.stop)) (.stop))))))) (TG m S0 w0 [(bn, .cells (toArr (ndC ⟨2, s0, s1, s2, s3, a, b', neg⟩)) 80 (0, 0)), (b2, .cells (toArr [.pointer (some ⟨sb, 0, none⟩)]) 86 (0, 0))] sb ab b bits ma ml) (by kernel_rfl) (by kernel_rfl) hL (fun w h => TG.of (Ls := [_, _]) h (Mem.Le.refl _)) ?_
      clear hL
      intro w hL
      conv => whnf
      repeat ((first | refine QLdReq.told hX rfl rfl TG.st0 ?_ | refine QLdReq.told hX rfl rfl (TG.own0 (bk := b2) (List.mem_cons_of_mem _ List.mem_cons_self) rfl) ?_ | refine QLdReq.told hX rfl rfl (TG.own (bk := bn) (i := 5) List.mem_cons_self rfl) ?_ | refine QLdReq.told hX rfl rfl (TG.own (bk := bn) (i := 6) List.mem_cons_self rfl) ?_ | refine QLdReq.told hX rfl rfl (TG.st (i := 1) (fun _ => rfl)) ?_ | refine QLdReq.told hX rfl rfl (TG.st (i := 2) (fun _ => rfl)) ?_ | refine zQ hX ?_ | refine zR hX ?_ | refine zA ?_ | refine zT ?_ | refine zF ?_ | refine zL hX hL ?_ | refine zB hX hL ?_ | (refine zS hX hL ?_; clear hL; intro w hL) | refine zI ?_ | refine zG hX ?_ | refine zO ?_); conv => whnf)
      refine CallReq.mk (L1 := La) (L2 := [_, _, _, _, _]) (empty_fn2 m ab ns La hS.ar hS.ok) (Loc.back (L1 := [_, _, _, _, _]) hL) ?_
      clear hL
      rintro u m1 L1 w hL hm1 ⟨-, rfl, hA1⟩
      have hL := Loc.back (L1 := L1) (L2 := [_, _, _, _, _]) hL
      have hB := okB_empty hS.ok
      have hp1 := pN_pre ns (ndK 1)
      change Ar ab (emptyN ns).1 L1 at hA1
      change ns <+: (emptyN ns).1 at hp1
      generalize emptyN ns = q at hA1 hB hp1 hL ⊢
      have hS1 := (hS.grow hm1).arena hp1 hB.1 hA1
      refine SReq.mk (TG.of (Ls := [_, _]) hL hm1) ?_
      conv => whnf
      repeat ((first | refine zQ hX ?_ | refine zR hX ?_ | refine zA ?_ | refine zT ?_ | refine zF ?_ | refine zL hX hL ?_ | refine zB hX hL ?_ | (refine zS hX hL ?_; clear hL; intro w hL) | refine zI ?_ | refine zG hX ?_ | refine zO ?_); conv => whnf)
      refine CallReq.mk (L1 := stL ab sb b bits _ ma ml _ _ _) (L2 := [_, _]) (of_fn ab sb b bits ma ml _ _ _ _ _ _ _ _ hS1 hB.2 (fun _ => Nat.lt_succ_self _)) (Loc.back (L1 := [_, _]) hL) ?_
      clear hL
      rintro u m2 L2 w hL hm2 ⟨ns2, e2, la2, ll2, La2, f2, hp2, hS2, rfl, hf2, hb2⟩
      obtain ⟨A2, n2, c2, rfl, -⟩ := id hf2
      have hL := Loc.back (L1 := stL ab sb b bits e2 ma ml la2 ll2 La2) (L2 := [_, _]) hL
      refine SReq.mk (TG.of (Ls := [_, _]) hL (hm1.trans hm2)) ?_
      conv => whnf
      repeat ((first | refine zQ hX ?_ | refine zR hX ?_ | refine zA ?_ | refine zT ?_ | refine zF ?_ | refine zL hX hL ?_ | refine zB hX hL ?_ | (refine zS hX hL ?_; clear hL; intro w hL) | refine zI ?_ | refine zG hX ?_ | refine zO ?_); conv => whnf)
      exact RetReq.mk hL.drop.drop ⟨ns2, e2, la2, ll2, La2, f2, hp1.trans hp2, hS2, rfl, hf2, hb2⟩
    · conv => whnf
      repeat ((first | refine zT ?_ | refine zF ?_ | refine zL hX hL ?_ | refine zB hX hL ?_ | (refine zS hX hL ?_; clear hL; intro w hL) | refine zI ?_ | refine zG hX ?_ | refine zO ?_); conv => whnf)
      refine CallReq.val (fo.false_fn m) hL ?_
      clear hL
      intro w hL
      conv => whnf
      repeat ((first | refine zT ?_ | refine zF ?_ | refine zL hX hL ?_ | refine zB hX hL ?_ | (refine zS hX hL ?_; clear hL; intro w hL) | refine zI ?_ | refine zG hX ?_ | refine zO ?_); conv => whnf)
      exact RetReq.mk hL.drop.drop ⟨ns, e, la, ll, La, [], List.prefix_refl _, hS, rfl, Sl.nil _ _ _, fo.FB.nil _⟩
  by_cases k4 : xk = 4
  · subst k4
    have hp := hpt (by omega)
    conv => whnf
    repeat ((first | refine zT ?_ | refine zF ?_ | refine zL hX hL ?_ | refine zB hX hL ?_ | (refine zS hX hL ?_; clear hL; intro w hL) | refine zI ?_ | refine zG hX ?_ | refine zO ?_); conv => whnf)
    refine DrawReq.planS hX (.fst 0 (.fst 1 (.fst 2 (.fst 3 (.fst 5 (.fst 6 (.fst 7 (.alt 4 (.alt 8 (.alt 9 (.fst 10 (.done)) (.stop)) (.stop)) (.stop))))))))) (TG m S0 w0 [(bn, .cells (toArr (ndC ⟨4, s0, s1, s2, s3, a, b', neg⟩)) 80 (0, 0)), (b2, .cells (toArr [.pointer (some ⟨sb, 0, none⟩)]) 86 (0, 0))] sb ab b bits ma ml) (by kernel_rfl) (by kernel_rfl) hL (fun w h => TG.of (Ls := [_, _]) h (Mem.Le.refl _)) ?_
    clear hL
    intro w hL
    conv => whnf
    repeat ((first | refine QLdReq.told hX rfl rfl TG.st0 ?_ | refine QLdReq.told hX rfl rfl (TG.own0 (bk := b2) (List.mem_cons_of_mem _ List.mem_cons_self) rfl) ?_ | refine QLdReq.told hX rfl rfl (TG.own (bk := bn) (i := 5) List.mem_cons_self rfl) ?_ | refine QLdReq.told hX rfl rfl (TG.own (bk := bn) (i := 6) List.mem_cons_self rfl) ?_ | refine QLdReq.told hX rfl rfl (TG.st (i := 1) (fun _ => rfl)) ?_ | refine QLdReq.told hX rfl rfl (TG.st (i := 2) (fun _ => rfl)) ?_ | refine zQ hX ?_ | refine zR hX ?_ | refine zA ?_ | refine zT ?_ | refine zF ?_ | refine zL hX hL ?_ | refine zB hX hL ?_ | (refine zS hX hL ?_; clear hL; intro w hL) | refine zI ?_ | refine zG hX ?_ | refine zO ?_); conv => whnf)
    refine CallReq.mk (L1 := stL ab sb b bits _ ma ml _ _ _) (L2 := [_, _]) (ih _ _ _ _ _ _ _ hS hp.1.1 (by have := hp.1.1.1; simp only; omega)) (Loc.back (L1 := [_, _]) hL) ?_
    clear hL
    rintro u m2 L2 w hL hm2 ⟨ns2, e2, la2, ll2, La2, f2, hp2, hS2, rfl, hf2, hb2⟩
    obtain ⟨A2, n2, c2, rfl, -⟩ := id hf2
    have hL := Loc.back (L1 := stL ab sb b bits e2 ma ml la2 ll2 La2) (L2 := [_, _]) hL
    refine SReq.mk (TG.of (Ls := [_, _]) hL hm2) ?_
    conv => whnf
    repeat ((first | refine zQ hX ?_ | refine zR hX ?_ | refine zA ?_ | refine zT ?_ | refine zF ?_ | refine zL hX hL ?_ | refine zB hX hL ?_ | (refine zS hX hL ?_; clear hL; intro w hL) | refine zI ?_ | refine zG hX ?_ | refine zO ?_); conv => whnf)
    refine CallReq.mk (L1 := stL ab sb b bits _ ma ml _ _ _) (L2 := [_, _]) (ih _ _ _ _ _ _ _ hS2 (okId_pre hp2 hp.2.1) (by have := hp.2.1.1; simp only; omega)) (Loc.back (L1 := [_, _]) hL) ?_
    clear hL
    rintro u m4 L4 w hL hm4 ⟨ns4, e4, la4, ll4, La4, f4, hp4, hS4, rfl, hf4, hb4⟩
    obtain ⟨A4, n4, c4, rfl, -⟩ := id hf4
    have hL := Loc.back (L1 := stL ab sb b bits e4 ma ml la4 ll4 La4) (L2 := [_, _]) hL
    refine SReq.mk (TG.of (Ls := [_, _]) hL (hm2.trans hm4)) ?_
    conv => whnf
    repeat ((first | refine zQ hX ?_ | refine zR hX ?_ | refine zA ?_ | refine zT ?_ | refine zF ?_ | refine zL hX hL ?_ | refine zB hX hL ?_ | (refine zS hX hL ?_; clear hL; intro w hL) | refine zI ?_ | refine zG hX ?_ | refine zO ?_); conv => whnf)
    refine CallReq.mk (L1 := [_]) (L2 := _ :: _ :: (ma, mapW _) :: (ml, mapW _) :: _) (or_fn _ ab sb b bits e4 ma ml _ _ f2 f4 ns4.length hS4.ok.len hS4.err (hf2.le hm4) hf4 (hb2.mono hp4.length_le) hb4) (p2 (x := _) (z := _) hL) ?_
    clear hL
    rintro u m5 L5 w hL hm5 ⟨e5, r5, he5, rfl, hr5, hb5⟩
    obtain ⟨A5, n5, c5, rfl, -⟩ := id hr5
    have hL := q2 (x := _) (z := _) hL
    refine SReq.mk (TG.of (Ls := [_, _]) hL (hm2.trans (hm4.trans hm5))) ?_
    conv => whnf
    repeat ((first | refine zQ hX ?_ | refine zR hX ?_ | refine zA ?_ | refine zT ?_ | refine zF ?_ | refine zL hX hL ?_ | refine zB hX hL ?_ | (refine zS hX hL ?_; clear hL; intro w hL) | refine zI ?_ | refine zG hX ?_ | refine zO ?_); conv => whnf)
    exact RetReq.mk hL.drop.drop ⟨ns4, e5, la4, ll4, La4, r5, hp2.trans hp4, (hS4.grow hm5).errs he5, rfl, hr5, hb5⟩
  by_cases k5 : xk = 5
  · subst k5
    have hp := hpt (by omega)
    conv => whnf
    repeat ((first | refine zT ?_ | refine zF ?_ | refine zL hX hL ?_ | refine zB hX hL ?_ | (refine zS hX hL ?_; clear hL; intro w hL) | refine zI ?_ | refine zG hX ?_ | refine zO ?_); conv => whnf)
    refine DrawReq.planS hX (.fst 0 (.fst 1 (.fst 2 (.fst 3 (.fst 5 (.fst 6 (.fst 7 (.alt 4 (.alt 8 (.alt 9 (.fst 10 (.done)) (.stop)) (.stop)) (.stop))))))))) (TG m S0 w0 [(bn, .cells (toArr (ndC ⟨5, s0, s1, s2, s3, a, b', neg⟩)) 80 (0, 0)), (b2, .cells (toArr [.pointer (some ⟨sb, 0, none⟩)]) 86 (0, 0))] sb ab b bits ma ml) (by kernel_rfl) (by kernel_rfl) hL (fun w h => TG.of (Ls := [_, _]) h (Mem.Le.refl _)) ?_
    clear hL
    intro w hL
    conv => whnf
    repeat ((first | refine QLdReq.told hX rfl rfl TG.st0 ?_ | refine QLdReq.told hX rfl rfl (TG.own0 (bk := b2) (List.mem_cons_of_mem _ List.mem_cons_self) rfl) ?_ | refine QLdReq.told hX rfl rfl (TG.own (bk := bn) (i := 5) List.mem_cons_self rfl) ?_ | refine QLdReq.told hX rfl rfl (TG.own (bk := bn) (i := 6) List.mem_cons_self rfl) ?_ | refine QLdReq.told hX rfl rfl (TG.st (i := 1) (fun _ => rfl)) ?_ | refine QLdReq.told hX rfl rfl (TG.st (i := 2) (fun _ => rfl)) ?_ | refine zQ hX ?_ | refine zR hX ?_ | refine zA ?_ | refine zT ?_ | refine zF ?_ | refine zL hX hL ?_ | refine zB hX hL ?_ | (refine zS hX hL ?_; clear hL; intro w hL) | refine zI ?_ | refine zG hX ?_ | refine zO ?_); conv => whnf)
    refine CallReq.mk (L1 := stL ab sb b bits _ ma ml _ _ _) (L2 := [_, _]) (ih _ _ _ _ _ _ _ hS hp.1.1 (by have := hp.1.1.1; simp only; omega)) (Loc.back (L1 := [_, _]) hL) ?_
    clear hL
    rintro u m2 L2 w hL hm2 ⟨ns2, e2, la2, ll2, La2, f2, hp2, hS2, rfl, hf2, hb2⟩
    obtain ⟨A2, n2, c2, rfl, -⟩ := id hf2
    have hL := Loc.back (L1 := stL ab sb b bits e2 ma ml la2 ll2 La2) (L2 := [_, _]) hL
    refine SReq.mk (TG.of (Ls := [_, _]) hL hm2) ?_
    conv => whnf
    repeat ((first | refine zQ hX ?_ | refine zR hX ?_ | refine zA ?_ | refine zT ?_ | refine zF ?_ | refine zL hX hL ?_ | refine zB hX hL ?_ | (refine zS hX hL ?_; clear hL; intro w hL) | refine zI ?_ | refine zG hX ?_ | refine zO ?_); conv => whnf)
    refine CallReq.mk (L1 := stL ab sb b bits _ ma ml _ _ _) (L2 := [_, _]) (ih _ _ _ _ _ _ _ hS2 (okId_pre hp2 hp.2.1) (by have := hp.2.1.1; simp only; omega)) (Loc.back (L1 := [_, _]) hL) ?_
    clear hL
    rintro u m4 L4 w hL hm4 ⟨ns4, e4, la4, ll4, La4, f4, hp4, hS4, rfl, hf4, hb4⟩
    obtain ⟨A4, n4, c4, rfl, -⟩ := id hf4
    have hL := Loc.back (L1 := stL ab sb b bits e4 ma ml la4 ll4 La4) (L2 := [_, _]) hL
    refine SReq.mk (TG.of (Ls := [_, _]) hL (hm2.trans hm4)) ?_
    conv => whnf
    repeat ((first | refine zQ hX ?_ | refine zR hX ?_ | refine zA ?_ | refine zT ?_ | refine zF ?_ | refine zL hX hL ?_ | refine zB hX hL ?_ | (refine zS hX hL ?_; clear hL; intro w hL) | refine zI ?_ | refine zG hX ?_ | refine zO ?_); conv => whnf)
    refine CallReq.mk (L1 := [_]) (L2 := _ :: _ :: (ma, mapW _) :: (ml, mapW _) :: _) (and_fn _ ab sb b bits e4 ma ml _ _ f2 f4 ns4.length hS4.ok.len hS4.err (hf2.le hm4) hf4 (hb2.mono hp4.length_le) hb4) (p2 (x := _) (z := _) hL) ?_
    clear hL
    rintro u m5 L5 w hL hm5 ⟨e5, r5, he5, rfl, hr5, hb5⟩
    obtain ⟨A5, n5, c5, rfl, -⟩ := id hr5
    have hL := q2 (x := _) (z := _) hL
    refine SReq.mk (TG.of (Ls := [_, _]) hL (hm2.trans (hm4.trans hm5))) ?_
    conv => whnf
    repeat ((first | refine zQ hX ?_ | refine zR hX ?_ | refine zA ?_ | refine zT ?_ | refine zF ?_ | refine zL hX hL ?_ | refine zB hX hL ?_ | (refine zS hX hL ?_; clear hL; intro w hL) | refine zI ?_ | refine zG hX ?_ | refine zO ?_); conv => whnf)
    exact RetReq.mk hL.drop.drop ⟨ns4, e5, la4, ll4, La4, r5, hp2.trans hp4, (hS4.grow hm5).errs he5, rfl, hr5, hb5⟩
  by_cases k7 : xk = 7
  · subst k7
    have hp := hon (by omega)
    conv => whnf
    repeat ((first | refine zT ?_ | refine zF ?_ | refine zL hX hL ?_ | refine zB hX hL ?_ | (refine zS hX hL ?_; clear hL; intro w hL) | refine zI ?_ | refine zG hX ?_ | refine zO ?_); conv => whnf)
    refine DrawReq.planS hX (.fst 0 (.fst 1 (.fst 2 (.fst 3 (.fst 5 (.alt 4 (.alt 6 (.fst 7 (.done)) (.stop)) (.stop))))))) (TG m S0 w0 [(bn, .cells (toArr (ndC ⟨7, s0, s1, s2, s3, a, b', neg⟩)) 80 (0, 0)), (b2, .cells (toArr [.pointer (some ⟨sb, 0, none⟩)]) 86 (0, 0))] sb ab b bits ma ml) (by kernel_rfl) (by kernel_rfl) hL (fun w h => TG.of (Ls := [_, _]) h (Mem.Le.refl _)) ?_
    clear hL
    intro w hL
    conv => whnf
    repeat ((first | refine QLdReq.told hX rfl rfl TG.st0 ?_ | refine QLdReq.told hX rfl rfl (TG.own0 (bk := b2) (List.mem_cons_of_mem _ List.mem_cons_self) rfl) ?_ | refine QLdReq.told hX rfl rfl (TG.own (bk := bn) (i := 5) List.mem_cons_self rfl) ?_ | refine QLdReq.told hX rfl rfl (TG.own (bk := bn) (i := 6) List.mem_cons_self rfl) ?_ | refine QLdReq.told hX rfl rfl (TG.st (i := 1) (fun _ => rfl)) ?_ | refine QLdReq.told hX rfl rfl (TG.st (i := 2) (fun _ => rfl)) ?_ | refine zQ hX ?_ | refine zR hX ?_ | refine zA ?_ | refine zT ?_ | refine zF ?_ | refine zL hX hL ?_ | refine zB hX hL ?_ | (refine zS hX hL ?_; clear hL; intro w hL) | refine zI ?_ | refine zG hX ?_ | refine zO ?_); conv => whnf)
    refine CallReq.mk (L1 := stL ab sb b bits _ ma ml _ _ _) (L2 := [_, _]) (ih _ _ _ _ _ _ _ hS hp.1 (by have := hp.1.1; simp only; omega)) (Loc.back (L1 := [_, _]) hL) ?_
    clear hL
    rintro u m2 L2 w hL hm2 ⟨ns2, e2, la2, ll2, La2, f2, hp2, hS2, rfl, hf2, hb2⟩
    obtain ⟨A2, n2, c2, rfl, -⟩ := id hf2
    have hL := Loc.back (L1 := stL ab sb b bits e2 ma ml la2 ll2 La2) (L2 := [_, _]) hL
    refine SReq.mk (TG.of (Ls := [_, _]) hL hm2) ?_
    conv => whnf
    repeat ((first | refine zQ hX ?_ | refine zR hX ?_ | refine zA ?_ | refine zT ?_ | refine zF ?_ | refine zL hX hL ?_ | refine zB hX hL ?_ | (refine zS hX hL ?_; clear hL; intro w hL) | refine zI ?_ | refine zG hX ?_ | refine zO ?_); conv => whnf)
    refine CallReq.mk (L1 := stL ab sb b bits _ ma ml _ _ _) (L2 := [_, _]) (ahead_fn hS2 _ f2 hf2 hb2 i0 (okId_i64 hlen hid)) (Loc.back (L1 := [_, _]) hL) ?_
    clear hL
    rintro u m4 L4 w hL hm4 ⟨ns4, e4, la4, ll4, La4, f4, hp4, hS4, rfl, hf4, hb4⟩
    obtain ⟨A4, n4, c4, rfl, -⟩ := id hf4
    have hL := Loc.back (L1 := stL ab sb b bits e4 ma ml la4 ll4 La4) (L2 := [_, _]) hL
    refine SReq.mk (TG.of (Ls := [_, _]) hL (hm2.trans hm4)) ?_
    conv => whnf
    repeat ((first | refine zQ hX ?_ | refine zR hX ?_ | refine zA ?_ | refine zT ?_ | refine zF ?_ | refine zL hX hL ?_ | refine zB hX hL ?_ | (refine zS hX hL ?_; clear hL; intro w hL) | refine zI ?_ | refine zG hX ?_ | refine zO ?_); conv => whnf)
    exact RetReq.mk hL.drop.drop ⟨ns4, e4, la4, ll4, La4, f4, hp2.trans hp4, hS4, rfl, hf4, hb4⟩
  by_cases k3 : xk = 3
  · subst k3
    have hp := hpt (by omega)
    conv => whnf
    repeat ((first | refine zT ?_ | refine zF ?_ | refine zL hX hL ?_ | refine zB hX hL ?_ | (refine zS hX hL ?_; clear hL; intro w hL) | refine zI ?_ | refine zG hX ?_ | refine zO ?_); conv => whnf)
    refine DrawReq.planS hX (.fst 0 (.fst 1 (.fst 2 (.fst 3 (.fst 5 (.fst 6 (.alt 4 (.alt 7 (.fst 8 (.done)) (.stop)) (.stop)))))))) (TG m S0 w0 [(bn, .cells (toArr (ndC ⟨3, s0, s1, s2, s3, a, b', neg⟩)) 80 (0, 0)), (b2, .cells (toArr [.pointer (some ⟨sb, 0, none⟩)]) 86 (0, 0))] sb ab b bits ma ml) (by kernel_rfl) (by kernel_rfl) hL (fun w h => TG.of (Ls := [_, _]) h (Mem.Le.refl _)) ?_
    clear hL
    intro w hL
    conv => whnf
    repeat ((first | refine QLdReq.told hX rfl rfl TG.st0 ?_ | refine QLdReq.told hX rfl rfl (TG.own0 (bk := b2) (List.mem_cons_of_mem _ List.mem_cons_self) rfl) ?_ | refine QLdReq.told hX rfl rfl (TG.own (bk := bn) (i := 5) List.mem_cons_self rfl) ?_ | refine QLdReq.told hX rfl rfl (TG.own (bk := bn) (i := 6) List.mem_cons_self rfl) ?_ | refine QLdReq.told hX rfl rfl (TG.st (i := 1) (fun _ => rfl)) ?_ | refine QLdReq.told hX rfl rfl (TG.st (i := 2) (fun _ => rfl)) ?_ | refine zQ hX ?_ | refine zR hX ?_ | refine zA ?_ | refine zT ?_ | refine zF ?_ | refine zL hX hL ?_ | refine zB hX hL ?_ | (refine zS hX hL ?_; clear hL; intro w hL) | refine zI ?_ | refine zG hX ?_ | refine zO ?_); conv => whnf)
    refine CallReq.mk (L1 := stL ab sb b bits _ ma ml _ _ _) (L2 := [_, _]) (ih _ _ _ _ _ _ _ hS hp.1.1 (by have := hp.1.1.1; simp only; omega)) (Loc.back (L1 := [_, _]) hL) ?_
    clear hL
    rintro u m2 L2 w hL hm2 ⟨ns2, e2, la2, ll2, La2, f2, hp2, hS2, rfl, hf2, hb2⟩
    obtain ⟨A2, n2, c2, rfl, -⟩ := id hf2
    have hL := Loc.back (L1 := stL ab sb b bits e2 ma ml la2 ll2 La2) (L2 := [_, _]) hL
    refine SReq.mk (TG.of (Ls := [_, _]) hL hm2) ?_
    conv => whnf
    repeat ((first | refine zQ hX ?_ | refine zR hX ?_ | refine zA ?_ | refine zT ?_ | refine zF ?_ | refine zL hX hL ?_ | refine zB hX hL ?_ | (refine zS hX hL ?_; clear hL; intro w hL) | refine zI ?_ | refine zG hX ?_ | refine zO ?_); conv => whnf)
    refine CallReq.mk (L1 := stL ab sb b bits _ ma ml _ _ _) (L2 := [_, _]) (ahead_fn hS2 _ f2 hf2 hb2 b' (okId_i64 hlen hp.2.1)) (Loc.back (L1 := [_, _]) hL) ?_
    clear hL
    rintro u m4 L4 w hL hm4 ⟨ns4, e4, la4, ll4, La4, f4, hp4, hS4, rfl, hf4, hb4⟩
    obtain ⟨A4, n4, c4, rfl, -⟩ := id hf4
    have hL := Loc.back (L1 := stL ab sb b bits e4 ma ml la4 ll4 La4) (L2 := [_, _]) hL
    refine SReq.mk (TG.of (Ls := [_, _]) hL (hm2.trans hm4)) ?_
    conv => whnf
    repeat ((first | refine zQ hX ?_ | refine zR hX ?_ | refine zA ?_ | refine zT ?_ | refine zF ?_ | refine zL hX hL ?_ | refine zB hX hL ?_ | (refine zS hX hL ?_; clear hL; intro w hL) | refine zI ?_ | refine zG hX ?_ | refine zO ?_); conv => whnf)
    have hS4m := hS4
    refine DrawReq.planS hX (.fst 0 (.fst 1 (.fst 2 (.fst 3 (.fst 4 (.fst 5 (.fst 6 (.fst 7 (.fst 8 (.fst 9 (.alt 10 (.done) (.stop)))))))))))) (TG m S0 w0 [(bn, .cells (toArr (ndC ⟨3, s0, s1, s2, s3, a, b', neg⟩)) 80 (0, 0)), (b2, .cells (toArr [.pointer (some ⟨sb, 0, none⟩)]) 86 (0, 0))] sb ab b bits ma ml) (by kernel_rfl) (by kernel_rfl) hL (fun w h => TG.of (Ls := [_, _]) h (hm2.trans hm4)) ?_
    clear hL
    intro w hL
    conv => whnf
    repeat ((first | refine QLdReq.told hX rfl rfl TG.st0 ?_ | refine QLdReq.told hX rfl rfl (TG.own0 (bk := b2) (List.mem_cons_of_mem _ List.mem_cons_self) rfl) ?_ | refine QLdReq.told hX rfl rfl (TG.own (bk := bn) (i := 5) List.mem_cons_self rfl) ?_ | refine QLdReq.told hX rfl rfl (TG.own (bk := bn) (i := 6) List.mem_cons_self rfl) ?_ | refine QLdReq.told hX rfl rfl (TG.st (i := 1) (fun _ => rfl)) ?_ | refine QLdReq.told hX rfl rfl (TG.st (i := 2) (fun _ => rfl)) ?_ | refine zQ hX ?_ | refine zR hX ?_ | refine zA ?_ | refine zT ?_ | refine zF ?_ | refine zL hX hL ?_ | refine zB hX hL ?_ | (refine zS hX hL ?_; clear hL; intro w hL) | refine zI ?_ | refine zG hX ?_ | refine zO ?_); conv => whnf)
    refine CallReq.lm (L1 := La4) (L2 := [_, _, _, _, _]) (Null_fn m4 ab bits ns4 La4 hS4.ar hS4.ok hbits a) (Loc.back (L1 := [_, _, _, _, _]) hL) ?_
    clear hL
    intro m5 w hm5 hL
    have hL := Loc.back (L1 := La4) (L2 := [_, _, _, _, _]) hL
    generalize (if 0 ≤ a ∧ a < (ns4.length : Int) then nulN bits ns4 a.toNat else false) = bn0
    refine SReq.mk (TG.of (Ls := [_, _]) hL (hm2.trans (hm4.trans hm5))) ?_
    conv => whnf
    repeat ((first | refine zQ hX ?_ | refine zR hX ?_ | refine zA ?_ | refine zT ?_ | refine zF ?_ | refine zL hX hL ?_ | refine zB hX hL ?_ | (refine zS hX hL ?_; clear hL; intro w hL) | refine zI ?_ | refine zG hX ?_ | refine zO ?_); conv => whnf)
    have hS5 := hS4.grow hm5
    refine BrReq.bool (fun hb => ?_) (fun hb => ?_)
    · conv => whnf
      repeat ((first | refine zT ?_ | refine zF ?_ | refine zL hX hL ?_ | refine zB hX hL ?_ | (refine zS hX hL ?_; clear hL; intro w hL) | refine zI ?_ | refine zG hX ?_ | refine zO ?_); conv => whnf)
      refine DrawReq.planS hX (.fst 0 (.fst 1 (.fst 2 (.fst 3 (.fst 4 (.alt 5 (.alt 6 (.fst 7 (.done)) (.stop)) (.stop))))))) (TG m S0 w0 [(bn, .cells (toArr (ndC ⟨3, s0, s1, s2, s3, a, b', neg⟩)) 80 (0, 0)), (b2, .cells (toArr [.pointer (some ⟨sb, 0, none⟩)]) 86 (0, 0))] sb ab b bits ma ml) (by kernel_rfl) (by kernel_rfl) hL (fun w h => TG.of (Ls := [_, _]) h (hm2.trans (hm4.trans hm5))) ?_
      clear hL
      intro w hL
      conv => whnf
      repeat ((first | refine QLdReq.told hX rfl rfl TG.st0 ?_ | refine QLdReq.told hX rfl rfl (TG.own0 (bk := b2) (List.mem_cons_of_mem _ List.mem_cons_self) rfl) ?_ | refine QLdReq.told hX rfl rfl (TG.own (bk := bn) (i := 5) List.mem_cons_self rfl) ?_ | refine QLdReq.told hX rfl rfl (TG.own (bk := bn) (i := 6) List.mem_cons_self rfl) ?_ | refine QLdReq.told hX rfl rfl (TG.st (i := 1) (fun _ => rfl)) ?_ | refine QLdReq.told hX rfl rfl (TG.st (i := 2) (fun _ => rfl)) ?_ | refine zQ hX ?_ | refine zR hX ?_ | refine zA ?_ | refine zT ?_ | refine zF ?_ | refine zL hX hL ?_ | refine zB hX hL ?_ | (refine zS hX hL ?_; clear hL; intro w hL) | refine zI ?_ | refine zG hX ?_ | refine zO ?_); conv => whnf)
      refine CallReq.mk (L1 := stL ab sb b bits _ ma ml _ _ _) (L2 := [_, _]) (ih _ _ _ _ _ _ _ hS5 (okId_pre (hp2.trans hp4) hp.2.1) (by have := hp.2.1.1; simp only; omega)) (Loc.back (L1 := [_, _]) hL) ?_
      clear hL
      rintro u m6 L6 w hL hm6 ⟨ns6, e6, la6, ll6, La6, f6, hp6, hS6, rfl, hf6, hb6⟩
      obtain ⟨A6, n6, c6, rfl, -⟩ := id hf6
      have hL := Loc.back (L1 := stL ab sb b bits e6 ma ml la6 ll6 La6) (L2 := [_, _]) hL
      refine SReq.mk (TG.of (Ls := [_, _]) hL (hm2.trans (hm4.trans (hm5.trans hm6)))) ?_
      conv => whnf
      repeat ((first | refine zQ hX ?_ | refine zR hX ?_ | refine zA ?_ | refine zT ?_ | refine zF ?_ | refine zL hX hL ?_ | refine zB hX hL ?_ | (refine zS hX hL ?_; clear hL; intro w hL) | refine zI ?_ | refine zG hX ?_ | refine zO ?_); conv => whnf)
      refine CallReq.mk (L1 := [_]) (L2 := _ :: _ :: (ma, mapW _) :: (ml, mapW _) :: _) (or_fn _ ab sb b bits e6 ma ml _ _ f4 f6 ns6.length hS6.ok.len hS6.err (hf4.le (hm5.trans hm6)) hf6 (hb4.mono hp6.length_le) hb6) (p2 (x := _) (z := _) hL) ?_
      clear hL
      rintro u m7 L7 w hL hm7 ⟨e7, r7, he7, rfl, hr7, hb7⟩
      obtain ⟨A7, n7, c7, rfl, -⟩ := id hr7
      have hL := q2 (x := _) (z := _) hL
      refine SReq.mk (TG.of (Ls := [_, _]) hL (hm2.trans (hm4.trans (hm5.trans (hm6.trans hm7))))) ?_
      conv => whnf
      repeat ((first | refine zQ hX ?_ | refine zR hX ?_ | refine zA ?_ | refine zT ?_ | refine zF ?_ | refine zL hX hL ?_ | refine zB hX hL ?_ | (refine zS hX hL ?_; clear hL; intro w hL) | refine zI ?_ | refine zG hX ?_ | refine zO ?_); conv => whnf)
      exact RetReq.mk hL.drop.drop ⟨ns6, e7, la6, ll6, La6, r7, hp2.trans (hp4.trans hp6), (hS6.grow hm7).errs he7, rfl, hr7, hb7⟩
    · conv => whnf
      repeat ((first | refine zT ?_ | refine zF ?_ | refine zL hX hL ?_ | refine zB hX hL ?_ | (refine zS hX hL ?_; clear hL; intro w hL) | refine zI ?_ | refine zG hX ?_ | refine zO ?_); conv => whnf)
      exact RetReq.mk hL.drop.drop ⟨ns4, e4, la4, ll4, La4, f4, hp2.trans hp4, hS5, rfl, hf4.le hm5, hb4⟩
  by_cases k6 : xk = 6
  · subst k6
    have hp := hon (by omega)
    conv => whnf
    repeat ((first | refine zT ?_ | refine zF ?_ | refine zL hX hL ?_ | refine zB hX hL ?_ | (refine zS hX hL ?_; clear hL; intro w hL) | refine zI ?_ | refine zG hX ?_ | refine zO ?_); conv => whnf)
    refine DrawReq.planS hX (.fst 0 (.fst 1 (.fst 2 (.fst 3 (.fst 4 (.fst 7 (.alt 5 (.alt 6 (.alt 8 (.fst 9 (.done)) (.stop)) (.stop)) (.stop)))))))) (TG m S0 w0 [(bn, .cells (toArr (ndC ⟨6, s0, s1, s2, s3, a, b', neg⟩)) 80 (0, 0)), (b2, .cells (toArr [.pointer (some ⟨sb, 0, none⟩)]) 86 (0, 0))] sb ab b bits ma ml) (by kernel_rfl) (by kernel_rfl) hL (fun w h => TG.of (Ls := [_, _]) h (Mem.Le.refl _)) ?_
    clear hL
    intro w hL
    conv => whnf
    repeat ((first | refine QLdReq.told hX rfl rfl TG.st0 ?_ | refine QLdReq.told hX rfl rfl (TG.own0 (bk := b2) (List.mem_cons_of_mem _ List.mem_cons_self) rfl) ?_ | refine QLdReq.told hX rfl rfl (TG.own (bk := bn) (i := 5) List.mem_cons_self rfl) ?_ | refine QLdReq.told hX rfl rfl (TG.own (bk := bn) (i := 6) List.mem_cons_self rfl) ?_ | refine QLdReq.told hX rfl rfl (TG.st (i := 1) (fun _ => rfl)) ?_ | refine QLdReq.told hX rfl rfl (TG.st (i := 2) (fun _ => rfl)) ?_ | refine zQ hX ?_ | refine zR hX ?_ | refine zA ?_ | refine zT ?_ | refine zF ?_ | refine zL hX hL ?_ | refine zB hX hL ?_ | (refine zS hX hL ?_; clear hL; intro w hL) | refine zI ?_ | refine zG hX ?_ | refine zO ?_); conv => whnf)
    refine CallReq.mk (L1 := stL ab sb b bits _ ma ml _ _ _) (L2 := [_, _]) (ih _ _ _ _ _ _ _ hS hp.1 (by have := hp.1.1; simp only; omega)) (Loc.back (L1 := [_, _]) hL) ?_
    clear hL
    rintro u m2 L2 w hL hm2 ⟨ns2, e2, la2, ll2, La2, f2, hp2, hS2, rfl, hf2, hb2⟩
    obtain ⟨A2, n2, c2, rfl, -⟩ := id hf2
    have hL := Loc.back (L1 := stL ab sb b bits e2 ma ml la2 ll2 La2) (L2 := [_, _]) hL
    refine SReq.mk (TG.of (Ls := [_, _]) hL hm2) ?_
    conv => whnf
    repeat ((first | refine zQ hX ?_ | refine zR hX ?_ | refine zA ?_ | refine zT ?_ | refine zF ?_ | refine zL hX hL ?_ | refine zB hX hL ?_ | (refine zS hX hL ?_; clear hL; intro w hL) | refine zI ?_ | refine zG hX ?_ | refine zO ?_); conv => whnf)
    refine CallReq.mk (L1 := [_]) (L2 := _ :: _ :: (ma, mapW _) :: (ml, mapW _) :: _) (dual_fn _ ab sb b bits e2 ma ml _ f2 ns2.length hS2.ok.len hS2.err hf2 hb2) (p2 (x := _) (z := _) hL) ?_
    clear hL
    rintro u m3 L3 w hL hm3 ⟨e3, r3, he3, rfl, hr3, hb3⟩
    obtain ⟨A3, n3, c3, rfl, -⟩ := id hr3
    have hL := q2 (x := _) (z := _) hL
    refine SReq.mk (TG.of (Ls := [_, _]) hL (hm2.trans hm3)) ?_
    conv => whnf
    repeat ((first | refine zQ hX ?_ | refine zR hX ?_ | refine zA ?_ | refine zT ?_ | refine zF ?_ | refine zL hX hL ?_ | refine zB hX hL ?_ | (refine zS hX hL ?_; clear hL; intro w hL) | refine zI ?_ | refine zG hX ?_ | refine zO ?_); conv => whnf)
    have hS3 := (hS2.grow hm3).errs he3
    refine CallReq.mk (L1 := [(b2, .cells (toArr [.pointer (some ⟨sb, 0, none⟩)]) 86 (0, 0))] ++ stL ab sb b bits e3 ma ml la2 ll2 La2) (L2 := [_]) (put1_fn _ r3 b2 hS3 hr3 hb3 (behind1_cal b2 ns2)) (Loc.back (L1 := [_]) hL) ?_
    clear hL
    rintro u m4 L4 w hL hm4 ⟨ns4, e4, la4, ll4, La4, f4, hp4, hS4, rfl, hf4, hb4⟩
    obtain ⟨A4, n4, c4, rfl, -⟩ := id hf4
    have hL := Loc.back (L1 := [(b2, .cells (toArr [.pointer (some ⟨sb, 0, none⟩)]) 86 (0, 0))] ++ stL ab sb b bits e4 ma ml la4 ll4 La4) (L2 := [_]) hL
    refine SReq.mk (TG.of (Ls := [_, _]) hL (hm2.trans (hm3.trans hm4))) ?_
    conv => whnf
    repeat ((first | refine zQ hX ?_ | refine zR hX ?_ | refine zA ?_ | refine zT ?_ | refine zF ?_ | refine zL hX hL ?_ | refine zB hX hL ?_ | (refine zS hX hL ?_; clear hL; intro w hL) | refine zI ?_ | refine zG hX ?_ | refine zO ?_); conv => whnf)
    exact RetReq.mk hL.drop.drop ⟨ns4, e4, la4, ll4, La4, f4, hp2.trans hp4, hS4, rfl, hf4, hb4⟩
  conv => whnf
  repeat ((first | refine BrReq.no (by omega) ?_ | refine zT ?_ | refine zF ?_ | refine zL hX hL ?_ | refine zB hX hL ?_ | (refine zS hX hL ?_; clear hL; intro w hL) | refine zI ?_ | refine zG hX ?_ | refine zO ?_); conv => whnf)
  refine CallReq.val (fo.false_fn m) hL ?_
  clear hL
  intro w hL
  conv => whnf
  repeat ((first | refine zT ?_ | refine zF ?_ | refine zL hX hL ?_ | refine zB hX hL ?_ | (refine zS hX hL ?_; clear hL; intro w hL) | refine zI ?_ | refine zG hX ?_ | refine zO ?_); conv => whnf)
  exact RetReq.mk hL.drop.drop ⟨ns, e, la, ll, La, [], List.prefix_refl _, hS, rfl, Sl.nil _ _ _, fo.FB.nil _⟩
set_option maxHeartbeats 4000000 in
theorem step_fn (ab sb b bits ma ml : Nat) (hb8 : b < 256) (hbits : bits < 256) : ∀ k, StepC ab sb b bits ma ml k := by
  intro k
  induction k with
  | zero => intro m ns e la ll La i0 hS hid hk; omega
  | succ k ih =>
    intro m ns e la ll La i0 hS hid hk
    have hi := okId_i64 hS.ok.len hid
    have hks := hS.left.keys
    have hmk := behind_fn hb8 hbits ih hS i0 hid (by omega)
    refine Fn.enter (N := 35) hX Tryz.func68 rfl rfl (by show _ ≤ _; simp) (fun w0 hL => ?_)
    conv => whnf
    generalize keys (stL ab sb b bits e ma ml la ll La) = S0 at hL ⊢
    conv => whnf
    repeat ((first | refine zT ?_ | refine zF ?_ | refine zL hX hL ?_ | refine zB hX hL ?_ | (refine zS hX hL ?_; clear hL; intro w hL) | refine zI ?_ | refine zG hX ?_ | refine zO ?_); conv => whnf)
    refine RunReq.lookW hX rfl rfl key_int (z := .slice none 0 0) (by kernel_rfl) hL (.t (.t .h)) (isK_int _ hi) hks (fun hno => ?_) (fun v hv => ?_)
    rotate_left
    · obtain ⟨kk, f, -, -, hf, hb⟩ := hS.left _ hv
      obtain ⟨A1, n1, c1, rfl, -⟩ := id hf
      conv => whnf
      repeat ((first | refine zT ?_ | refine zF ?_ | refine zL hX hL ?_ | refine zB hX hL ?_ | (refine zS hX hL ?_; clear hL; intro w hL) | refine zI ?_ | refine zG hX ?_ | refine zO ?_); conv => whnf)
      exact RetReq.mk hL ⟨ns, e, la, ll, La, f, List.prefix_refl _, hS, rfl, hf, hb⟩
    by_cases h0 : e = 0
    rotate_left
    · conv => whnf
      repeat ((first | refine BrReq.no (by omega) ?_ | refine zT ?_ | refine zF ?_ | refine zL hX hL ?_ | refine zB hX hL ?_ | (refine zS hX hL ?_; clear hL; intro w hL) | refine zI ?_ | refine zG hX ?_ | refine zO ?_); conv => whnf)
      exact RetReq.mk hL ⟨ns, e, la, ll, La, [], List.prefix_refl _, hS, rfl, Sl.nil _ _ _, fo.FB.nil _⟩
    subst h0
    conv => whnf
    repeat ((first | refine zT ?_ | refine zF ?_ | refine zL hX hL ?_ | refine zB hX hL ?_ | (refine zS hX hL ?_; clear hL; intro w hL) | refine zI ?_ | refine zG hX ?_ | refine zO ?_); conv => whnf)
    refine CallReq.mk (L1 := stL ab sb b bits _ ma ml _ _ _) (L2 := []) hmk (by rw [List.append_nil]; exact hL) ?_
    clear hL
    rintro u m2 L2 w hL hm2 ⟨ns2, e2, la2, ll2, La2, f2, hp2, hS2, rfl, hf2, hb2⟩
    rw [List.append_nil] at hL
    obtain ⟨A2, n2, c2, rfl, -⟩ := id hf2
    have hnew : isF m2 ns2.length (.int .i64 i0, .slice A2 n2 c2) := ⟨i0, f2, rfl, hi, hf2, hb2⟩
    conv => whnf
    repeat ((first | refine zT ?_ | refine zF ?_ | refine zL hX hL ?_ | refine zB hX hL ?_ | (refine zS hX hL ?_; clear hL; intro w hL) | refine zI ?_ | refine zG hX ?_ | refine zO ?_); conv => whnf)
    refine RunUReq.updW hX rfl rfl key_int (k := .int .i64 i0) (v := .slice A2 n2 c2) 2 hL rfl (isK_int _ hi) hS2.left.keys (fun _ w hL => ?_) (fun q u hq w hL => ?_)
    · conv => whnf
      repeat ((first | refine zT ?_ | refine zF ?_ | refine zL hX hL ?_ | refine zB hX hL ?_ | (refine zS hX hL ?_; clear hL; intro w hL) | refine zI ?_ | refine zG hX ?_ | refine zO ?_); conv => whnf)
      exact RetReq.mk hL ⟨ns2, e2, la2, _, La2, f2, hp2, ⟨hS2.ar, hS2.ok, hS2.are, hS2.left.app hnew, hS2.err⟩, rfl, hf2, hb2⟩
    · conv => whnf
      repeat ((first | refine zT ?_ | refine zF ?_ | refine zL hX hL ?_ | refine zB hX hL ?_ | (refine zS hX hL ?_; clear hL; intro w hL) | refine zI ?_ | refine zG hX ?_ | refine zO ?_); conv => whnf)
      exact RetReq.mk hL ⟨ns2, e2, la2, _, La2, f2, hp2, ⟨hS2.ar, hS2.ok, hS2.are, hS2.left.set hnew q, hS2.err⟩, rfl, hf2, hb2⟩
theorem step_cal {ab sb b bits ma ml : Nat} (hb8 : b < 256) (hbits : bits < 256) (ns0 : List Nd) :
    CalC ab sb b bits ma ml 68 (fun z => [.pointer (some ⟨sb, 0, none⟩), .int .i64 z]) ([] : Ev.Own) ns0 := by
  intro m ns e la ll La z hpre hz hS
  exact step_fn ab sb b bits ma ml hb8 hbits (z.toNat + 1) m ns e la ll La z hS (okId_pre hpre hz) (Nat.lt_succ_self _)
end Go.Proofs.YtiololnblplloaaGreat.li
namespace Go.Proofs.YtiololnblplloaaGreat.li
open Go Go.Ev Go.Proofs Go.Proofs.YtiololnblplloaaGreat.ar
theorem h11_fn (m : Mem) (b3 : Nat) (v : Value) (l : List Int) (hl : SlI m .i64 v l) (z : Int) :
    FnL Tryz.prog 102 [.int .i64 z, .pointer (some ⟨b3, 0, none⟩)] m [(b3, .cells (toArr [v]) 108 (0, 0))] (.bool (!decide (z ∈ l))) := by
  have hc := contains_fn m v l z hl
  obtain ⟨A, n, c, rfl, -⟩ := id hl
  refine Fn.enter (N := 8) hX Tryz.func102 rfl rfl (by show _ ≤ _; simp) (fun w0 hL => ?_)
  conv => whnf
  generalize keys [(b3, Obj.cells (toArr [.slice A n c]) 108 (0, 0))] = S0 at hL ⊢
  conv => whnf
  repeat ((first | refine zT ?_ | refine zF ?_ | refine zL hX hL ?_ | refine zB hX hL ?_ | (refine zS hX hL ?_; clear hL; intro w hL) | refine zI ?_ | refine zG hX ?_ | refine zO ?_); conv => whnf)
  refine CallReq.val hc hL ?_
  clear hL
  intro w hL
  conv => whnf
  repeat ((first | refine zT ?_ | refine zF ?_ | refine zL hX hL ?_ | refine zB hX hL ?_ | (refine zS hX hL ?_; clear hL; intro w hL) | refine zI ?_ | refine zG hX ?_ | refine zO ?_); conv => whnf)
  exact RetReq.mk hL ⟨rfl, rfl, rfl⟩
theorem h1ix_fn (m : Mem) (b3 : Nat) (v pv : Value) (l p : List Int) (hl : SlI m .i64 v l) (hp : SlI m .i64 pv p) :
    Ev.Fn Tryz.prog 94 [pv, .func (.func 102) #[] #[.pointer (some ⟨b3, 0, none⟩)]] m [(b3, .cells (toArr [v]) 108 (0, 0))]
      fun m' L' u => m' = m ∧ L' = [(b3, .cells (toArr [v]) 108 (0, 0))] ∧ ∃ z, u = .int .i64 z ∧ (0 ≤ z ↔ ¬ fo.subP p l) := by
  obtain ⟨A, n, c, rfl, -⟩ := id hl
  obtain ⟨A1, n1, c1, rfl, hn1, hc1, hm1, -⟩ := id hp
  have hcell := hp.cell.2
  have hmx : maxLen = 9223372036854775807 := rfl
  subst hn1
  refine Fn.enter (N := 19) hX Tryz.func94 rfl rfl (by show _ ≤ _; simp) (fun w0 hL => ?_)
  conv => whnf
  generalize keys [(b3, Obj.cells (toArr [.slice A n c]) 108 (0, 0))] = S0 at hL ⊢
  conv => whnf
  repeat ((first | refine zT ?_ | refine zF ?_ | refine zL hX hL ?_ | refine zB hX hL ?_ | (refine zS hX hL ?_; clear hL; intro w hL) | refine zI ?_ | refine zG hX ?_ | refine zO ?_); conv => whnf)
  refine LoopReq.inv hX (fun j : Nat => [(8, .int .i64 j)]) [0, 1, 7]
    (fun j w => (j ≤ p.length ∧ ∀ x ∈ p.take j, x ∈ l) ∧ Ev.Loc m S0 w0 m [(b3, .cells (toArr [.slice A n c]) 108 (0, 0))] w) (fun j => p.length - j) 0
    ⟨⟨Nat.zero_le _, by simp⟩, hL⟩ ⟨rfl, trivial⟩ ?_
  clear hL
  rintro j w g ⟨⟨hj, hdone⟩, hL⟩
  conv => whnf
  repeat ((first | refine zT ?_ | refine zF ?_ | refine zL hX hL ?_ | refine zB hX hL ?_ | (refine zS hX hL ?_; clear hL; intro w hL) | refine zI ?_ | refine zG hX ?_ | refine zO ?_); conv => whnf)
  refine BrReq.dec (fun hlt => ?_) (fun hlt => ?_)
  · have hj1 : j < p.length := by omega
    obtain ⟨a, ea, hc'⟩ := hcell j _ (List.getElem?_eq_getElem hj1)
    conv => whnf
    repeat ((first | refine Idx2Req.mk j a rfl (by omega) ea ?_ | (refine LdReq.one hX rfl rfl hL (by rw [scale_eq, Nat.mul_one]; exact hc') ?_) | refine zT ?_ | refine zF ?_ | refine zL hX hL ?_ | refine zB hX hL ?_ | (refine zS hX hL ?_; clear hL; intro w hL) | refine zI ?_ | refine zG hX ?_ | refine zO ?_); conv => whnf)
    refine CallReq.lo (h11_fn m b3 _ l hl p[j]) hL ?_
    clear hL
    intro w hL
    by_cases hx : p[j] ∈ l
    · rw [decide_eq_true hx]
      have hd : ∀ x ∈ p.take (j + 1), x ∈ l := fun x hx2 => by
        rw [fo.take_succ' hj1] at hx2
        rcases List.mem_append.1 hx2 with h | h
        · exact hdone x h
        · rw [List.mem_singleton.1 h]; exact hx
      conv => whnf
      repeat ((first | refine zT ?_ | refine zF ?_ | refine zL hX hL ?_ | refine zB hX hL ?_ | (refine zS hX hL ?_; clear hL; intro w hL) | refine zI ?_ | refine zG hX ?_ | refine zO ?_); conv => whnf)
      refine ⟨j + 1, ⟨⟨by omega, hd⟩, hL⟩, by first | omega | (simp only; omega) | (simp only [List.length_cons, List.length_append]; omega), ?_, ?_⟩
      · repeat (first | exact trivial | (refine And.intro (by (conv => lhs; whnf) <;> (conv => rhs; whnf) <;> (first | rfl)) ?_))
      · repeat (first | exact trivial | (refine And.intro (by (conv => lhs; whnf) <;> (conv => rhs; whnf) <;> (first | rfl)) ?_))
    · rw [decide_eq_false hx]
      conv => whnf
      repeat ((first | refine zT ?_ | refine zF ?_ | refine zL hX hL ?_ | refine zB hX hL ?_ | (refine zS hX hL ?_; clear hL; intro w hL) | refine zI ?_ | refine zG hX ?_ | refine zO ?_); conv => whnf)
      exact RetReq.mk hL ⟨rfl, rfl, _, rfl, ⟨fun _ hs => hx (hs _ (List.getElem_mem hj1)), fun _ => by omega⟩⟩
  · have ej : j = p.length := by omega
    rw [ej, List.take_length] at hdone
    conv => whnf
    repeat ((first | refine zT ?_ | refine zF ?_ | refine zL hX hL ?_ | refine zB hX hL ?_ | (refine zS hX hL ?_; clear hL; intro w hL) | refine zI ?_ | refine zG hX ?_ | refine zO ?_); conv => whnf)
    exact RetReq.mk hL ⟨rfl, rfl, _, rfl, ⟨fun h => by omega, fun h => absurd hdone h⟩⟩
theorem h1ct_fn (m : Mem) (b3 : Nat) (v pv : Value) (l p : List Int) (hl : SlI m .i64 v l) (hp : SlI m .i64 pv p) :
    FnL Tryz.prog 92 [pv, .func (.func 102) #[] #[.pointer (some ⟨b3, 0, none⟩)]] m [(b3, .cells (toArr [v]) 108 (0, 0))] (.bool (!fo.dec (fo.subP p l))) := by
  have hix := h1ix_fn m b3 v pv l p hl hp
  obtain ⟨A, n, c, rfl, -⟩ := id hl
  obtain ⟨A1, n1, c1, rfl, -⟩ := id hp
  refine Fn.enter (N := 9) hX Tryz.func92 rfl rfl (by show _ ≤ _; simp) (fun w0 hL => ?_)
  conv => whnf
  generalize keys [(b3, Obj.cells (toArr [.slice A n c]) 108 (0, 0))] = S0 at hL ⊢
  conv => whnf
  repeat ((first | refine zT ?_ | refine zF ?_ | refine zL hX hL ?_ | refine zB hX hL ?_ | (refine zS hX hL ?_; clear hL; intro w hL) | refine zI ?_ | refine zG hX ?_ | refine zO ?_); conv => whnf)
  refine CallReq.mk (L1 := [_]) (L2 := []) hix (by rw [List.append_nil]; exact hL) ?_
  clear hL
  rintro u mx Lx w hL - ⟨hmx, rfl, z, rfl, hz⟩
  rw [hmx] at hL
  clear hmx mx
  rw [List.append_nil] at hL
  conv => whnf
  repeat ((first | refine zT ?_ | refine zF ?_ | refine zL hX hL ?_ | refine zB hX hL ?_ | (refine zS hX hL ?_; clear hL; intro w hL) | refine zI ?_ | refine zG hX ?_ | refine zO ?_); conv => whnf)
  have e : decide (0 ≤ z) = !fo.dec (fo.subP p l) := by
    by_cases hs : fo.subP p l
    · rw [fo.dec_t hs, decide_eq_false (fun h => hz.1 h hs)]; rfl
    · rw [fo.dec_f hs, decide_eq_true (hz.2 hs)]; rfl
  exact RetReq.mk hL ⟨rfl, rfl, congrArg Value.bool e⟩
theorem h1_fn (m : Mem) (b3 : Nat) (v pv : Value) (l p : List Int) (hl : SlI m .i64 v l) (hp : SlI m .i64 pv p) :
    FnL Tryz.prog 101 [pv, .pointer (some ⟨b3, 0, none⟩)] m [(b3, .cells (toArr [v]) 108 (0, 0))] (.bool (fo.dec (fo.subP p l))) := by
  have hct := h1ct_fn m b3 v pv l p hl hp
  obtain ⟨A, n, c, rfl, -⟩ := id hl
  obtain ⟨A1, n1, c1, rfl, -⟩ := id hp
  refine Fn.enter (N := 8) hX Tryz.func101 rfl rfl (by show _ ≤ _; simp) (fun w0 hL => ?_)
  conv => whnf
  generalize keys [(b3, Obj.cells (toArr [.slice A n c]) 108 (0, 0))] = S0 at hL ⊢
  conv => whnf
  repeat ((first | refine zT ?_ | refine zF ?_ | refine zL hX hL ?_ | refine zB hX hL ?_ | (refine zS hX hL ?_; clear hL; intro w hL) | refine zI ?_ | refine zG hX ?_ | refine zO ?_); conv => whnf)
  refine CallReq.lo hct hL ?_
  clear hL
  intro w hL
  conv => whnf
  repeat ((first | refine zT ?_ | refine zF ?_ | refine zL hX hL ?_ | refine zB hX hL ?_ | (refine zS hX hL ?_; clear hL; intro w hL) | refine zI ?_ | refine zG hX ?_ | refine zO ?_); conv => whnf)
  exact RetReq.mk hL ⟨rfl, rfl, congrArg Value.bool (Bool.not_not _)⟩
theorem hix_fn (m : Mem) (b3 : Nat) (v fv : Value) (l : List Int) (f : fo.Fml) (hfl : f.length ≤ 200) (hl : SlI m .i64 v l) (hf : fo.FmV m fv f) :
    Ev.Fn Tryz.prog 128 [fv, .func (.func 101) #[] #[.pointer (some ⟨b3, 0, none⟩)]] m [(b3, .cells (toArr [v]) 108 (0, 0))]
      fun m' L' u => m' = m ∧ L' = [(b3, .cells (toArr [v]) 108 (0, 0))] ∧ ∃ z, u = .int .i64 z ∧ (0 ≤ z ↔ fo.holdsP f l) := by
  have hh := fun pv p hp => h1_fn m b3 v pv l p hl hp
  obtain ⟨A, n, c, rfl, -⟩ := id hl
  obtain ⟨A1, n1, c1, rfl, hn1, -⟩ := id hf
  have hmx : maxLen = 9223372036854775807 := rfl
  subst hn1
  refine Fn.enter (N := 19) hX Tryz.func128 rfl rfl (by show _ ≤ _; simp) (fun w0 hL => ?_)
  conv => whnf
  generalize keys [(b3, Obj.cells (toArr [.slice A n c]) 108 (0, 0))] = S0 at hL ⊢
  conv => whnf
  repeat ((first | refine zT ?_ | refine zF ?_ | refine zL hX hL ?_ | refine zB hX hL ?_ | (refine zS hX hL ?_; clear hL; intro w hL) | refine zI ?_ | refine zG hX ?_ | refine zO ?_); conv => whnf)
  refine LoopReq.inv hX (fun j : Nat => [(8, .int .i64 j)]) [0, 1, 7]
    (fun j w => (j ≤ f.length ∧ ∀ x ∈ f.take j, ¬ fo.subP x l) ∧ Ev.Loc m S0 w0 m [(b3, .cells (toArr [.slice A n c]) 108 (0, 0))] w) (fun j => f.length - j) 0
    ⟨⟨Nat.zero_le _, by simp⟩, hL⟩ ⟨rfl, trivial⟩ ?_
  clear hL
  rintro j w g ⟨⟨hj, hdone⟩, hL⟩
  conv => whnf
  repeat ((first | refine zT ?_ | refine zF ?_ | refine zL hX hL ?_ | refine zB hX hL ?_ | (refine zS hX hL ?_; clear hL; intro w hL) | refine zI ?_ | refine zG hX ?_ | refine zO ?_); conv => whnf)
  refine BrReq.dec (fun hlt => ?_) (fun hlt => ?_)
  · have hj1 : j < f.length := by omega
    obtain ⟨a5, A5, n5, c5, ea, hcell, hpq⟩ := hf.at_ hj1
    conv => whnf
    repeat ((first | refine Idx2Req.mk j a5 rfl (by omega) ea ?_ | refine LdReq.one hX rfl rfl hL hcell ?_ | refine zT ?_ | refine zF ?_ | refine zL hX hL ?_ | refine zB hX hL ?_ | (refine zS hX hL ?_; clear hL; intro w hL) | refine zI ?_ | refine zG hX ?_ | refine zO ?_); conv => whnf)
    refine CallReq.lo (hh _ f[j] hpq) hL ?_
    clear hL
    intro w hL
    by_cases hx : fo.subP f[j] l
    · rw [fo.dec_t hx]
      conv => whnf
      repeat ((first | refine zT ?_ | refine zF ?_ | refine zL hX hL ?_ | refine zB hX hL ?_ | (refine zS hX hL ?_; clear hL; intro w hL) | refine zI ?_ | refine zG hX ?_ | refine zO ?_); conv => whnf)
      exact RetReq.mk hL ⟨rfl, rfl, _, rfl, ⟨fun _ => ⟨_, List.getElem_mem hj1, hx⟩, fun _ => by omega⟩⟩
    · rw [fo.dec_f hx]
      have hd : ∀ x ∈ f.take (j + 1), ¬ fo.subP x l := fun x hx2 => by
        rw [fo.take_succ' hj1] at hx2
        rcases List.mem_append.1 hx2 with h | h
        · exact hdone x h
        · rw [List.mem_singleton.1 h]; exact hx
      conv => whnf
      repeat ((first | refine zT ?_ | refine zF ?_ | refine zL hX hL ?_ | refine zB hX hL ?_ | (refine zS hX hL ?_; clear hL; intro w hL) | refine zI ?_ | refine zG hX ?_ | refine zO ?_); conv => whnf)
      refine ⟨j + 1, ⟨⟨by omega, hd⟩, hL⟩, by first | omega | (simp only; omega) | (simp only [List.length_cons, List.length_append]; omega), ?_, ?_⟩
      · repeat (first | exact trivial | (refine And.intro (by (conv => lhs; whnf) <;> (conv => rhs; whnf) <;> (first | rfl)) ?_))
      · repeat (first | exact trivial | (refine And.intro (by (conv => lhs; whnf) <;> (conv => rhs; whnf) <;> (first | rfl)) ?_))
  · have ej : j = f.length := by omega
    rw [ej, List.take_length] at hdone
    conv => whnf
    repeat ((first | refine zT ?_ | refine zF ?_ | refine zL hX hL ?_ | refine zB hX hL ?_ | (refine zS hX hL ?_; clear hL; intro w hL) | refine zI ?_ | refine zG hX ?_ | refine zO ?_); conv => whnf)
    exact RetReq.mk hL ⟨rfl, rfl, _, rfl, ⟨fun h => by omega, fun ⟨p, hp, hs⟩ => absurd hs (hdone p hp)⟩⟩
theorem hct_fn (m : Mem) (b3 : Nat) (v fv : Value) (l : List Int) (f : fo.Fml) (hfl : f.length ≤ 200) (hl : SlI m .i64 v l) (hf : fo.FmV m fv f) :
    FnL Tryz.prog 100 [fv, .func (.func 101) #[] #[.pointer (some ⟨b3, 0, none⟩)]] m [(b3, .cells (toArr [v]) 108 (0, 0))] (.bool (fo.dec (fo.holdsP f l))) := by
  have hix := hix_fn m b3 v fv l f hfl hl hf
  obtain ⟨A, n, c, rfl, -⟩ := id hl
  obtain ⟨A1, n1, c1, rfl, -⟩ := id hf
  refine Fn.enter (N := 9) hX Tryz.func100 rfl rfl (by show _ ≤ _; simp) (fun w0 hL => ?_)
  conv => whnf
  generalize keys [(b3, Obj.cells (toArr [.slice A n c]) 108 (0, 0))] = S0 at hL ⊢
  conv => whnf
  repeat ((first | refine zT ?_ | refine zF ?_ | refine zL hX hL ?_ | refine zB hX hL ?_ | (refine zS hX hL ?_; clear hL; intro w hL) | refine zI ?_ | refine zG hX ?_ | refine zO ?_); conv => whnf)
  refine CallReq.mk (L1 := [_]) (L2 := []) hix (by rw [List.append_nil]; exact hL) ?_
  clear hL
  rintro u mx Lx w hL - ⟨hmx, rfl, z, rfl, hz⟩
  rw [hmx] at hL
  clear hmx mx
  rw [List.append_nil] at hL
  conv => whnf
  repeat ((first | refine zT ?_ | refine zF ?_ | refine zL hX hL ?_ | refine zB hX hL ?_ | (refine zS hX hL ?_; clear hL; intro w hL) | refine zI ?_ | refine zG hX ?_ | refine zO ?_); conv => whnf)
  have e : decide (0 ≤ z) = fo.dec (fo.holdsP f l) := by
    by_cases hs : fo.holdsP f l
    · rw [fo.dec_t hs, decide_eq_true (hz.2 hs)]
    · rw [fo.dec_f hs, decide_eq_false (fun h => hs (hz.1 h))]
  exact RetReq.mk hL ⟨rfl, rfl, congrArg Value.bool e⟩
theorem Holds_fn (m : Mem) (v fv : Value) (l : List Int) (f : fo.Fml) (hfl : f.length ≤ 200) (hl : SlI m .i64 v l) (hf : fo.FmV m fv f) :
    FnV Tryz.prog 66 [fv, v] m (.bool (fo.dec (fo.holdsP f l))) := by
  have hct := fun b3 => hct_fn m b3 v fv l f hfl hl hf
  obtain ⟨A, n, c, rfl, -⟩ := id hl
  obtain ⟨A1, n1, c1, rfl, -⟩ := id hf
  refine Fn.enter (N := 8) hX Tryz.func66 rfl rfl (by show _ ≤ _; simp) (fun w0 hL => ?_)
  conv => whnf
  refine NewReq.mk hL ?_
  clear hL
  intro b3 w hL
  conv => whnf
  conv => whnf
  repeat ((first | refine zT ?_ | refine zF ?_ | refine zL hX hL ?_ | refine zB hX hL ?_ | (refine zS hX hL ?_; clear hL; intro w hL) | refine zI ?_ | refine zG hX ?_ | refine zO ?_); conv => whnf)
  refine CallReq.lo (hct b3) hL ?_
  clear hL
  intro w hL
  conv => whnf
  repeat ((first | refine zT ?_ | refine zF ?_ | refine zL hX hL ?_ | refine zB hX hL ?_ | (refine zS hX hL ?_; clear hL; intro w hL) | refine zI ?_ | refine zG hX ?_ | refine zO ?_); conv => whnf)
  exact RetReq.mk (hL.sublist (List.nil_sublist _)) ⟨rfl, rfl⟩
theorem flat_le {N : Nat} {f : fo.Fml} (h : fo.FB N f) : f.flatten.length ≤ 200 * N := by
  have key : ∀ (g : fo.Fml), (∀ p ∈ g, p.length ≤ N) → g.flatten.length ≤ g.length * N := by
    intro g
    induction g with
    | nil => intro _; simp
    | cons p g ih =>
      intro hp
      have h1 := ih fun q hq => hp q (List.mem_cons_of_mem _ hq)
      have h2 := hp p List.mem_cons_self
      rw [List.flatten_cons, List.length_append, List.length_cons, Nat.succ_mul]
      omega
  have h1 := key f fun p hp => h.part hp
  have h2 := Nat.mul_le_mul_right N h.len
  omega
def atomsP (f : fo.Fml) : List Int := Lib.compact (fo.sortI f.flatten)
theorem atomsP_mem {f : fo.Fml} {z : Int} (h : z ∈ atomsP f) : ∃ p ∈ f, z ∈ p := by
  have h1 := fo.compact_mem h
  unfold fo.sortI at h1
  rw [List.mem_mergeSort] at h1
  exact List.mem_flatten.1 h1
theorem Atoms_fn (m : Mem) (fv : Value) (f : fo.Fml) (N : Nat) (hN : N ≤ 20000) (hf : fo.FmV m fv f) (hb : fo.FB N f) :
    Ev.Fn Tryz.prog 63 [fv] m [] fun m' L' u => m' = m ∧ OwnS 3 1 u (ints .i64 (atomsP f)) L' := by
  have hfl := flat_le hb
  have hfn := hb.len
  have hfi : fo.IsV m fv f := hf
  obtain ⟨A1, n1, c1, rfl, -⟩ := id hf
  refine Fn.enter (N := 10) hX Tryz.func63 rfl rfl (by show _ ≤ _; simp) (fun w0 hL => ?_)
  conv => whnf
  conv => whnf
  repeat ((first | refine zT ?_ | refine zF ?_ | refine zL hX hL ?_ | refine zB hX hL ?_ | (refine zS hX hL ?_; clear hL; intro w hL) | refine zI ?_ | refine zG hX ?_ | refine zO ?_); conv => whnf)
  refine CallReq.mk (L1 := []) (fo.concatI_fn m _ f hfi (by omega) (by omega)) hL ?_
  clear hL
  rintro u mx L1 w hL - ⟨hmx, us, ho, hH⟩
  rw [hmx] at hL
  clear hmx mx
  unfold fo.HdI at hH
  subst hH
  obtain ⟨A, n, c, rfl, -⟩ := ho.slice
  conv => whnf
  repeat ((first | refine zT ?_ | refine zF ?_ | refine zL hX hL ?_ | refine zB hX hL ?_ | (refine zS hX hL ?_; clear hL; intro w hL) | refine zI ?_ | refine zG hX ?_ | refine zO ?_); conv => whnf)
  refine CallReq.mk (L1 := L1) (fo.sortG_fn m A n c f.flatten L1 ho (by omega)) hL ?_
  clear hL ho
  rintro u mx L2 w hL - ⟨hmx, rfl, ho⟩
  rw [hmx] at hL
  clear hmx mx
  conv => whnf
  repeat ((first | refine zT ?_ | refine zF ?_ | refine zL hX hL ?_ | refine zB hX hL ?_ | (refine zS hX hL ?_; clear hL; intro w hL) | refine zI ?_ | refine zG hX ?_ | refine zO ?_); conv => whnf)
  refine CallReq.mk (L1 := L2) (fo.compactG_fn m A n c _ L2 ho (by rw [fo.sortI_len]; omega)) hL ?_
  clear hL ho
  rintro u mx L3 w hL - ⟨hmx, ho⟩
  rw [hmx] at hL
  clear hmx mx
  obtain ⟨A', n', c', rfl, -⟩ := ho.slice
  rw [List.append_nil] at hL
  conv => whnf
  repeat ((first | refine zT ?_ | refine zF ?_ | refine zL hX hL ?_ | refine zB hX hL ?_ | (refine zS hX hL ?_; clear hL; intro w hL) | refine zI ?_ | refine zG hX ?_ | refine zO ?_); conv => whnf)
  exact RetReq.mk hL ⟨rfl, ho⟩
theorem right1_fn (m : Mem) (ab b2 : Nat) (ns : List Nd) (La : Ev.Own) (hA : Ar ab ns La) (z : Int) :
    FnL Tryz.prog 93 [.int .i64 z, .pointer (some ⟨b2, 0, none⟩)] m ((b2, .cells (toArr [.pointer (some ⟨ab, 0, none⟩)]) 47 (0, 0)) :: La) (.bool (decide ((ns.length : Int) ≤ z))) := by
  obtain ⟨A, c, mb, L1, rfl, ho⟩ := hA
  refine Fn.enter (N := 8) hX Tryz.func93 rfl rfl (by show _ ≤ _; simp) (fun w0 hL => ?_)
  conv => whnf
  generalize keys ((b2, Obj.cells (toArr [.pointer (some ⟨ab, 0, none⟩)]) 47 (0, 0)) :: (ab, arO (.slice A ns.length c) mb) :: (mb, mapW (ndW ns 0)) :: L1) = S0 at hL ⊢
  conv => whnf
  repeat ((first | refine zT ?_ | refine zF ?_ | refine zL hX hL ?_ | refine zB hX hL ?_ | (refine zS hX hL ?_; clear hL; intro w hL) | refine zI ?_ | refine zG hX ?_ | refine zO ?_); conv => whnf)
  refine CallReq.li (L1 := [(ab, arO (.slice A ns.length c) mb)]) (L2 := (b2, .cells (toArr [.pointer (some ⟨ab, 0, none⟩)]) 47 (0, 0)) :: (mb, mapW (ndW ns 0)) :: L1) (Len_fn m ab mb ns.length c A) (hL.perm (List.Perm.swap _ _ _)) ?_
  clear hL
  intro w hL
  have hL := hL.perm (List.Perm.swap _ _ _)
  conv => whnf
  repeat ((first | refine zT ?_ | refine zF ?_ | refine zL hX hL ?_ | refine zB hX hL ?_ | (refine zS hX hL ?_; clear hL; intro w hL) | refine zI ?_ | refine zG hX ?_ | refine zO ?_); conv => whnf)
  exact RetReq.mk hL ⟨rfl, rfl, congrArg Value.bool (decide_eq_decide.2 (by omega))⟩
theorem rightIx_fn (m : Mem) (ab b2 : Nat) (ns : List Nd) (La : Ev.Own) (hA : Ar ab ns La) (v : Value) (l : List Int) (hl : SlI m .i64 v l) (hlt : ∀ z ∈ l, z < ns.length) :
    FnL Tryz.prog 94 [v, .func (.func 93) #[] #[.pointer (some ⟨b2, 0, none⟩)]] m ((b2, .cells (toArr [.pointer (some ⟨ab, 0, none⟩)]) 47 (0, 0)) :: La) (.int .i64 (-1)) := by
  obtain ⟨A1, n1, c1, rfl, hn1, hc1, hm1, -⟩ := id hl
  have hcell := hl.cell.2
  have hmx : maxLen = 9223372036854775807 := rfl
  subst hn1
  refine Fn.enter (N := 19) hX Tryz.func94 rfl rfl (by show _ ≤ _; simp) (fun w0 hL => ?_)
  conv => whnf
  generalize keys ((b2, Obj.cells (toArr [.pointer (some ⟨ab, 0, none⟩)]) 47 (0, 0)) :: La) = S0 at hL ⊢
  conv => whnf
  repeat ((first | refine zT ?_ | refine zF ?_ | refine zL hX hL ?_ | refine zB hX hL ?_ | (refine zS hX hL ?_; clear hL; intro w hL) | refine zI ?_ | refine zG hX ?_ | refine zO ?_); conv => whnf)
  refine LoopReq.inv hX (fun j : Nat => [(8, .int .i64 j)]) [0, 1, 7]
    (fun j w => j ≤ l.length ∧ Ev.Loc m S0 w0 m ((b2, .cells (toArr [.pointer (some ⟨ab, 0, none⟩)]) 47 (0, 0)) :: La) w) (fun j => l.length - j) 0 ⟨Nat.zero_le _, hL⟩ ⟨rfl, trivial⟩ ?_
  clear hL
  rintro j w g ⟨hj, hL⟩
  conv => whnf
  repeat ((first | refine zT ?_ | refine zF ?_ | refine zL hX hL ?_ | refine zB hX hL ?_ | (refine zS hX hL ?_; clear hL; intro w hL) | refine zI ?_ | refine zG hX ?_ | refine zO ?_); conv => whnf)
  refine BrReq.dec (fun hlt2 => ?_) (fun hlt2 => ?_)
  · have hj1 : j < l.length := by omega
    obtain ⟨a, ea, hc'⟩ := hcell j _ (List.getElem?_eq_getElem hj1)
    have hx := hlt _ (List.getElem_mem hj1)
    conv => whnf
    repeat ((first | refine Idx2Req.mk j a rfl (by omega) ea ?_ | (refine LdReq.one hX rfl rfl hL (by rw [scale_eq, Nat.mul_one]; exact hc') ?_) | refine zT ?_ | refine zF ?_ | refine zL hX hL ?_ | refine zB hX hL ?_ | (refine zS hX hL ?_; clear hL; intro w hL) | refine zI ?_ | refine zG hX ?_ | refine zO ?_); conv => whnf)
    refine CallReq.lo (right1_fn m ab b2 ns La hA l[j]) hL ?_
    clear hL
    intro w hL
    rw [decide_eq_false (by omega)]
    conv => whnf
    repeat ((first | refine zT ?_ | refine zF ?_ | refine zL hX hL ?_ | refine zB hX hL ?_ | (refine zS hX hL ?_; clear hL; intro w hL) | refine zI ?_ | refine zG hX ?_ | refine zO ?_); conv => whnf)
    refine ⟨j + 1, ⟨by omega, hL⟩, by first | omega | (simp only; omega) | (simp only [List.length_cons, List.length_append]; omega), ?_, ?_⟩
    · repeat (first | exact trivial | (refine And.intro (by (conv => lhs; whnf) <;> (conv => rhs; whnf) <;> (first | rfl)) ?_))
    · repeat (first | exact trivial | (refine And.intro (by (conv => lhs; whnf) <;> (conv => rhs; whnf) <;> (first | rfl)) ?_))
  · conv => whnf
    repeat ((first | refine zT ?_ | refine zF ?_ | refine zL hX hL ?_ | refine zB hX hL ?_ | (refine zS hX hL ?_; clear hL; intro w hL) | refine zI ?_ | refine zG hX ?_ | refine zO ?_); conv => whnf)
    exact RetReq.mk hL ⟨rfl, rfl, rfl⟩
theorem right_fn (m : Mem) (ab : Nat) (ns : List Nd) (La : Ev.Own) (hA : Ar ab ns La) (hO : OkA ns) (fv : Value) (f : fo.Fml) (hf : fo.FmV m fv f) (hb : fo.FB ns.length f) :
    FnM Tryz.prog 61 [.pointer (some ⟨ab, 0, none⟩), fv] m La (.bool true) := by
  have hformed := fo.Formed_fn m fv f hf
  rw [fo.dec_t hb.formed] at hformed
  have hat := Atoms_fn m fv f ns.length hO.len hf hb
  have hlt : ∀ z ∈ atomsP f, z < (ns.length : Int) := fun z hz => by obtain ⟨p, hp, hzp⟩ := atomsP_mem hz; exact hb.lt p hp z hzp
  obtain ⟨A1, n1, c1, rfl, -⟩ := id hf
  refine Fn.enter (N := 18) hX Tryz.func61 rfl rfl (by show _ ≤ _; simp) (fun w0 hL => ?_)
  conv => whnf
  generalize keys La = S0 at hL ⊢
  refine NewReq.mk hL ?_
  clear hL
  intro b2 w hL
  conv => whnf
  conv => whnf
  repeat ((first | refine UGenReq.nilPtrNe hX rfl rfl rfl rfl rfl ?_ | refine zT ?_ | refine zF ?_ | refine zL hX hL ?_ | refine zB hX hL ?_ | (refine zS hX hL ?_; clear hL; intro w hL) | refine zI ?_ | refine zG hX ?_ | refine zO ?_); conv => whnf)
  refine CallReq.val hformed hL ?_
  clear hL
  intro w hL
  conv => whnf
  repeat ((first | refine zT ?_ | refine zF ?_ | refine zL hX hL ?_ | refine zB hX hL ?_ | (refine zS hX hL ?_; clear hL; intro w hL) | refine zI ?_ | refine zG hX ?_ | refine zO ?_); conv => whnf)
  refine CallReq.mk (L1 := []) hat hL ?_
  clear hL
  rintro u mx Lo w hL - ⟨hmx, ho⟩
  rw [hmx] at hL
  clear hmx mx
  obtain ⟨m1, hL1, hm1, hs⟩ := OwnS.freeze ho hL
  clear hL
  have hL := hL1
  clear hL1
  have hix := fun b2 => rightIx_fn m1 ab b2 ns La hA _ _ hs hlt
  obtain ⟨Ao, no, co, rfl, -⟩ := id hs
  have hct : FnL Tryz.prog 92 [.slice Ao no co, .func (.func 93) #[] #[.pointer (some ⟨b2, 0, none⟩)]] m1 ((b2, .cells (toArr [.pointer (some ⟨ab, 0, none⟩)]) 47 (0, 0)) :: La) (.bool false) := by
    clear hL
    refine Fn.enter (N := 9) hX Tryz.func92 rfl rfl (by show _ ≤ _; simp) (fun w0 hL => ?_)
    conv => whnf
    generalize keys ((b2, Obj.cells (toArr [.pointer (some ⟨ab, 0, none⟩)]) 47 (0, 0)) :: La) = S1 at hL ⊢
    conv => whnf
    repeat ((first | refine zT ?_ | refine zF ?_ | refine zL hX hL ?_ | refine zB hX hL ?_ | (refine zS hX hL ?_; clear hL; intro w hL) | refine zI ?_ | refine zG hX ?_ | refine zO ?_); conv => whnf)
    refine CallReq.lo (hix b2) hL ?_
    clear hL
    intro w hL
    conv => whnf
    repeat ((first | refine zT ?_ | refine zF ?_ | refine zL hX hL ?_ | refine zB hX hL ?_ | (refine zS hX hL ?_; clear hL; intro w hL) | refine zI ?_ | refine zG hX ?_ | refine zO ?_); conv => whnf)
    exact RetReq.mk hL ⟨rfl, rfl, rfl⟩
  conv => whnf
  repeat ((first | refine zT ?_ | refine zF ?_ | refine zL hX hL ?_ | refine zB hX hL ?_ | (refine zS hX hL ?_; clear hL; intro w hL) | refine zI ?_ | refine zG hX ?_ | refine zO ?_); conv => whnf)
  refine CallReq.lo hct hL ?_
  clear hL
  intro w hL
  conv => whnf
  repeat ((first | refine zT ?_ | refine zF ?_ | refine zL hX hL ?_ | refine zB hX hL ?_ | (refine zS hX hL ?_; clear hL; intro w hL) | refine zI ?_ | refine zG hX ?_ | refine zO ?_); conv => whnf)
  exact RetReq.mk hL.drop ⟨rfl, rfl⟩
end Go.Proofs.YtiololnblplloaaGreat.li
