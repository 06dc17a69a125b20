/- ToolRefuses: part 9 of 10 of the proof. Conditions: none. -/
import Derived.Test.YtloofgoblodeiaaGreatDoorM8
import Derived.Lib.ItoaLen
namespace Go.Proofs.YtloofgoblodeiaaGreatDoor.tlr
open Go Go.Ev Go.Proofs Go.Proofs.YtloofgoblodeiaaGreatDoor.co Go.Proofs.YtloofgoblodeiaaGreatDoor.am
set_option maxHeartbeats 4000000
set_option maxRecDepth 10000
theorem newA_fn (m : Mem) : Ev.Fn Tryz.prog 97 [] m [] fun m' _ u => m' = m ∧ ∃ ab : Nat, u = .pointer (some ⟨ab, 0, none⟩) := by
  refine Fn.enter (N := 4) hX Tryz.func97 rfl rfl (by show _ ≤ _; simp) (fun w0 hL => ?_)
  conv => whnf
  refine go ?_;try(clear hL;intro w hL)
  refine RunReq.makeMapW hL ?_
  clear hL
  intro mb w hL
  refine go ?_;try(clear hL;intro w hL)
  refine NewReq.mk hL ?_
  clear hL
  intro ab w hL
  conv => whnf
  exact RetReq.mk hL ⟨rfl, ab, rfl⟩
theorem vr_pA {ι : At} {p : List Value} (hp : VRL ι pA p) : p = pA := by
  obtain ⟨x, _, rfl, h, r⟩ := vrl_cons hp
  obtain rfl := vrl_nil r
  cases h
  rfl
theorem bits_fn {m : Mem} {ι : At} {wv : Value} {xs : List Int} (hft : FT ι (fun b o => m b = some o)) (hm : Laid m) (hp : VRL ι pA pA) (hw : SlI m .u8 wv xs) (hn : xs.length ≤ 1000) :
    Ev.Fn Tryz.prog 76 [.agg (toArr [.slice none 0 0]), wv] m [] fun m' L u => m' = m ∧ ∃ (A : Option Addr) (n c : Nat) (L1 L2 : Own), u = .tuple (toArr [.slice A n c, .int .i64 0]) ∧ OwnS 5 1 (.slice A n c) (ints .u8 (List.replicate (xs.length + 1) 0)) L1 ∧ L = L1 ++ L2 := by
  obtain ⟨A, na, ca, rfl, _⟩ := id hw
  obtain ⟨la, la1, la2⟩ := hw.len
  refine Fn.enter (N := 93) hX Tryz.func76 rfl rfl (by show _ ≤ _; simp) (fun w0 hL => ?_)
  conv => whnf
  refine NewReq.mk hL ?_
  clear hL
  intro b2 w hL
  conv => whnf
  refine go ?_;try(clear hL;intro w hL)
  refine CallReq.val (tright_fn hft hm hp) hL ?_
  clear hL
  intro w hL
  refine go ?_;try(clear hL;intro w hL)
  refine RunReq.make hX rfl rfl rfl rfl (na + 1) (na + 1) rfl rfl (Nat.le_refl _) (by omega) rfl hL ?_
  clear hL
  intro g w hL
  refine go ?_;try(clear hL;intro w hL)
  refine CallReq.mk (L1 := []) (L2 := [_, _]) (newA_fn m) hL ?_
  clear hL
  rintro u mx La w hL - ⟨hmx, ab, rfl⟩
  rw [hmx] at hL
  replace hL := hL.perm (List.perm_append_comm (l₁ := La) (l₂ := [_, _]))
  refine go ?_;try(clear hL;intro w hL)
  refine LoopReq.inv hX (fun _ : Nat => [(28, .int .i64 0), (39, undef), (40, undef), (41, undef)]) [1, 2, 6, 7, 26, 27] (fun _ w => Ev.Loc m [] w0 m ((g, .cells (toArr (zerosL (na + 1) [.int .u8 0])) 5 (0, 0)) :: (b2, .cells (toArr [.slice none 0 0]) 41 (0, 0)) :: La) w) (fun _ => 0) 0 hL ?_ ?_
  · exact ⟨rfl, rfl, rfl, rfl, trivial⟩
  clear hL
  rintro _ w f hL
  refine go ?_;try(clear hL;intro w hL)
  rw [zerosL_one] at hL
  refine RetReq.mk hL ⟨rfl, some ⟨g, 0, none⟩, na + 1, na + 1, [_], _, rfl, ?_, rfl⟩
  have hmx : maxLen = 9223372036854775807 := rfl
  rw [← la, ints, List.map_replicate]
  exact OwnS.full (by omega) (by simp)
theorem start_fn (m : Mem) : FnV Tryz.prog 77 [] m (.agg (toArr [.int .i64 0, .int .i64 1, .int .i64 1])) := by
  refine Fn.enter (N := 2) hX Tryz.func77 rfl rfl (by show _ ≤ _; simp) (fun w0 hL => ?_)
  conv => whnf
  refine NewReq.mk hL ?_
  clear hL
  intro b0 w hL
  conv => whnf
  refine go ?_;try(clear hL;intro w hL)
  exact RetReq.mk hL.drop ⟨rfl, rfl⟩
theorem scanAll_fn {m : Mem} {ι : At} {s l p : List Value} {wv : Value} {xs : List Int} (hft : FT ι (fun b o => m b = some o)) (hm : Laid m) (hs : VRL ι sA s) (hl : VRL ι mA l) (hp : VRL ι pA p) (hw : SlI m .u8 wv xs) (hx : ∀ x ∈ xs, 0 ≤ x ∧ x < 256) (hn : xs.length ≤ 1000) :
    Ev.Fn Tryz.prog 32 [.agg (toArr s), .agg (toArr l), .agg (toArr p), wv] m [] fun m' L u => ∃ (A : Option Addr) (n c : Nat) (ts : List (List Value)) (Lo L2 : Own),
      L = Lo ++ L2 ∧ u = .tuple (toArr [.slice A n c, .agg (toArr [.slice none 0 0, .int .i64 0]), .int .i64 0]) ∧ OwnS 94 5 (.slice A n c) ts.flatten Lo ∧ (∀ r ∈ ts, TkOk r) ∧ ts.length ≤ 1000 := by
  obtain ⟨A, na, ca, rfl, _⟩ := id hw
  obtain ⟨s1, s2, c1, c2, A0, k0, A6, k6, rfl, hc1, hc2⟩ := ft_spec hft hs
  obtain rfl := vr_pA hp
  have hlen : l.length = 260 := by rw [hl.len]; rfl
  refine Fn.enter (N := 42) hX Tryz.func32 rfl rfl (by show _ ≤ _; simp) (fun w0 hL => ?_)
  conv => whnf
  refine NewReq.mk hL ?_
  clear hL
  intro b4 w hL
  conv => whnf
  refine NewReq.mk hL ?_
  clear hL
  intro b5 w hL
  conv => whnf
  refine NewReq.mk hL ?_
  clear hL
  intro b6 w hL
  conv => whnf
  refine NewReq.mk hL ?_
  clear hL
  intro b9 w hL
  conv => whnf
  replace hL : Ev.Loc m [] w0 m [(b9, stO), (b6, .cells (toArr [.slice none 0 0]) 41 (0, 0)), (b5, .cells (toArr l) 48 (0, 0)), (b4, .cells (toArr [.slice (some ⟨s1, 0, none⟩) 1 c1, .slice (some ⟨s2, 0, none⟩) 1 c2]) 32 (0, 0))] w := hL
  conv => whnf
  repeat ((first | refine LdReq.whole hX rfl rfl 2 hL rfl hlen ?_ | (refine go1 ?_;try(clear hL;intro w hL))); conv => whnf)
  refine CallReq.val (right_fn hft hm hs hl hp) hL ?_
  clear hL
  intro w hL
  refine go ?_;try(clear hL;intro w hL)
  refine CallReq.mk (L1 := []) (L2 := [_, _, _, _]) (bits_fn hft hm hp hw hn) hL ?_
  clear hL
  rintro u mx La w hL - ⟨hmx, B, nb, cb, Lb, Lc, rfl, ho, rfl⟩
  rw [hmx] at hL
  obtain ⟨m', hL', hle, hb⟩ := ho.freeze (L2 := Lc ++ [_, _, _, _]) (by rw [← List.append_assoc]; exact hL)
  clear hL
  replace hL := hL'.perm (List.perm_append_comm (l₁ := Lc) (l₂ := [_, _, _, _]))
  replace hft := hft.mono (fun b o h => hle b o h)
  replace hm := hm.le hle
  replace hw := hw.le' hle
  refine go ?_;try(clear hL;intro w hL)
  refine DrawReq.plan hX (.fst 0 (.fst 2 (.alt 1 (.fst 3 (.alt 4 (.fst 5 (.done)) (.stop))) (.stop)))) [_] (by kernel_rfl) (by kernel_rfl) hL (fun h => h.one 3 rfl) ?_
  clear hL
  intro w hL
  refine goq ?_;try(clear hL;intro w hL)
  refine CallReq.val (start_fn m') hL ?_
  clear hL
  intro w hL
  refine SReq.mk (hL.one 3 rfl) ?_
  refine goq ?_;try(clear hL;intro w hL)
  refine NewReq.mk hL ?_
  clear hL
  intro bx w hL
  conv => whnf
  refine SReq.mk (hL.one 4 rfl) ?_
  refine goq ?_;try(clear hL;intro w hL)
  replace hL := (hL.sublist (L' := [_, _, _]) (.cons_cons _ (.cons_cons _ (.cons _ (.cons_cons _ (.cons _ (List.nil_sublist _))))))).perm (List.Perm.cons _ (List.Perm.swap _ _ _))
  refine CallReq.mk (L1 := [_, _]) (L2 := [_]) (all_fn hft hm hs hl hw hb hx hn) hL ?_
  clear hL
  rintro u mx La w hL - ⟨hmx, Ao, no, co, ts, Lo, L2, rfl, rfl, ho, h1, h2⟩
  rw [hmx] at hL
  replace hL := hL.perm (List.perm_append_comm (l₁ := Lo ++ L2) (l₂ := [_]))
  refine go ?_;try(clear hL;intro w hL)
  exact RetReq.mk hL.drop ⟨Ao, no, co, ts, Lo, L2, rfl, rfl, ho, h1, h2⟩
end Go.Proofs.YtloofgoblodeiaaGreatDoor.tlr
namespace Go.Proofs.YtloofgoblodeiaaGreatDoor.tlr
open Go Go.Ev Go.Proofs Go.Proofs.YtloofgoblodeiaaGreatDoor.co Go.Proofs.YtloofgoblodeiaaGreatDoor.am Go.Proofs.YtloofgoblodeiaaGreatDoor.bd
set_option maxHeartbeats 4000000
theorem num_fn {m : Mem} (hm : Laid m) (n : Int) (h0 : -9223372036854775808 ≤ n) (h1 : n ≤ 9223372036854775807) : FnV Tryz.prog 10 [.int .i64 n] m (.string (bs (Lib.itoa n))) := by
  refine Fn.enter (N := 5) hX Tryz.func10 rfl rfl (by show _ ≤ _; simp) (fun w0 hL => ?_)
  conv => whnf
  refine go ?_;try(clear hL;intro w hL)
  refine CallReq.val (fk.itoa_fn m hm.1 n h0 h1) hL ?_
  clear hL
  intro w hL
  refine go ?_;try(clear hL;intro w hL)
  exact RetReq.mk hL ⟨rfl, rfl⟩
theorem jn_len (l : List (List UInt8)) : (jn [32] l).length ≤ totL l + l.length := by
  match l with
  | [] => simp [jn]
  | a :: r =>
    rw [jn_cons, List.length_append, jnT_len]
    simp [totL]
    omega
theorem words_fn (m : Mem) (v : Value) (l : List (List UInt8)) (hv : Sl m 1 isS v l) (hl : l.length ≤ 100000) (ht : totL l ≤ 990000000) : FnV Tryz.prog 9 [v] m (.string (bs (jn [32] l ++ [10]))) := by
  obtain ⟨A, n, c, rfl, _⟩ := id hv
  have hj := jn_len l
  refine Fn.enter (N := 6) hX Tryz.func9 rfl rfl (by show _ ≤ _; simp) (fun w0 hL => ?_)
  conv => whnf
  refine go ?_;try(clear hL;intro w hL)
  refine CallReq.val (join1_fn m _ l [32] hv hl rfl ht) hL ?_
  clear hL
  intro w hL
  conv => whnf
  repeat ((first | (refine UGenReq.strB (jn [32] l) [10] rfl rfl rfl rfl rfl (by simp only [List.length_cons, List.length_nil]; omega) ?_) | (refine go1 ?_;try(clear hL;intro w hL))); conv => whnf)
  exact RetReq.mk hL ⟨rfl, rfl⟩
theorem sl_own {m0 m : Mem} {S : List Nat} {w0 w : World} {te : Nat} {v : Value} {l : List (List UInt8)} {L1 L2 : Own} (h : OwnS te 1 v (l.map fun a => Value.string (bs a)) L1) (hL : Ev.Loc m0 S w0 m (L1 ++ L2) w) : Sl (memH w) 1 isS v l := by
  obtain ⟨n, hn, h⟩ := h
  have hln : n = l.length := by simp at hn; exact hn.symm
  rcases h with ⟨rfl, h0, rfl⟩ | ⟨g, cap, cur, rfl, rfl, h1, h2, h3, h4⟩
  · have : l = [] := List.eq_nil_of_length_eq_zero (by omega)
    subst this
    exact Sl.nil _ _ _
  · refine ⟨some ⟨g, 0, none⟩, n, cap, rfl, hln, h1, h2, fun i x hx => ⟨_, [.string (bs x)], rfl, rfl, fun j v hj => ?_, rfl⟩⟩
    have hj0 : j = 0 ∧ v = .string (bs x) := by cases j <;> simp_all
    obtain ⟨rfl, rfl⟩ := hj0
    simp only [scale, addr_add, Nat.add_zero, Nat.zero_add]
    unfold mcell memH
    have hg := hL.own (g, _) (List.mem_append_left _ List.mem_cons_self)
    dsimp only at hg
    simp only [hg, ocell]
    have h5 : (l.map fun a => Value.string (bs a))[i]? = some (.string (bs x)) := by simp [hx]
    rw [← h4, List.getElem?_take] at h5
    split at h5
    · simpa [toArr] using h5
    · cases h5
theorem words_lend {m0 m : Mem} {S : List Nat} {w0 w : World} {te : Nat} {v : Value} {l : List (List UInt8)} {L1 L2 : Own} {K : Value → World → Prop} (h : OwnS te 1 v (l.map fun a => Value.string (bs a)) L1) (hL : Ev.Loc m0 S w0 m (L1 ++ L2) w) (hl : l.length ≤ 100000) (ht : totL l ≤ 990000000)
    (k : ∀ w', Ev.Loc m0 S w0 m (L1 ++ L2) w' → K (.string (bs (jn [32] l ++ [10]))) w') : CallReq Tryz.prog 9 (toArr [v]) w K :=
  CallReq.lend (words_fn (memH w) v l (sl_own h hL) hl ht) (fun _ _ h => h) hL k
end Go.Proofs.YtloofgoblodeiaaGreatDoor.tlr
namespace Go.Proofs.YtloofgoblodeiaaGreatDoor.tlr
open Go Go.Ev Go.Proofs Go.Proofs.YtloofgoblodeiaaGreatDoor.co Go.Proofs.YtloofgoblodeiaaGreatDoor.am
set_option maxHeartbeats 4000000
set_option maxRecDepth 10000
def dg (c : Nat) : Bool := (Nat.ble 48 c && Nat.ble c 57) || (Nat.ble 97 c && Nat.ble c 102)
def hexd : List UInt8 := [48, 49, 50, 51, 52, 53, 54, 55, 56, 57, 97, 98, 99, 100, 101, 102]
def ixd (c : Nat) : Int := bif Nat.ble 48 c && Nat.ble c 57 then (Nat.sub c 48 : Nat) else (bif Nat.ble 97 c && Nat.ble c 102 then (Nat.sub c 87 : Nat) else -1)
set_option maxRecDepth 100000 in
theorem ix_run : ((List.range 256).all fun c => run (smOf smP) 20 74 [.string (bs hexd), .int .u8 (c : Nat)] 16 M00 (fun u _ _ => match flatV u with | true => vEq u (.int .i64 (ixd c)) | false => false)) = true := by kernel_rfl
theorem ix_fn {m : Mem} (hm : Laid m) {c : Nat} (hc : c < 256) : FnV Tryz.prog 74 [.string (bs hexd), .int .u8 (c : Nat)] m (.int .i64 (ixd c)) :=
  fnV_run hm (smP_ok hm) (fun _ => .cons (.same rfl) (.cons (.same rfl) .nil)) rfl (List.all_eq_true.1 ix_run c (List.mem_range.2 hc))
theorem ix_all : ((List.range 256).all fun c => bif dg c then decide (0 ≤ ixd c ∧ ixd c < 16) else decide (ixd c = -1)) = true := by decide +kernel
theorem ix_is (c : Nat) (h : c < 256) : (dg c = true ∧ 0 ≤ ixd c ∧ ixd c < 16) ∨ (dg c = false ∧ ixd c = -1) := by
  have := List.all_eq_true.1 ix_all c (List.mem_range.2 h)
  cases hd : dg c <;> rw [hd] at this <;> simp only [cond_true, cond_false, decide_eq_true_eq] at this
  · exact .inr ⟨rfl, this⟩
  · exact .inl ⟨rfl, this⟩
def isD (c : UInt8) : Bool := dg c.toNat
theorem u8_wrap (n : Int) : 0 ≤ IntKind.u8.wrap n ∧ IntKind.u8.wrap n < 256 := by
  show 0 ≤ n % 256 ∧ n % 256 < 256
  omega
theorem unhex_fn {m : Mem} (hm : Laid m) (s : List UInt8) (hn : s.length ≤ 1000) :
    Ev.Fn Tryz.prog 31 [.string (bs s)] m [] fun m' L u => ∃ A n c b, u = .tuple (toArr [.slice A n c, .bool b]) ∧ (b = true → ∃ xs : List Int, SlI m' .u8 (.slice A n c) xs ∧ (∀ x ∈ xs, 0 ≤ x ∧ x < 256) ∧ xs.length ≤ 1000) ∧ b = (decide (s.length % 2 = 0) && s.all isD) := by
  have hsz : (bs s).size = s.length := bs_size s
  refine Fn.enter (N := 43) hX Tryz.func31 rfl rfl (by show _ ≤ _; simp) (fun w0 hL => ?_)
  conv => whnf
  refine go ?_;try(clear hL;intro w hL)
  refine LoopReq.inv hX (fun s : Nat × List Int × Value × Own × Value × Value => [(4, s.2.2.1), (5, .int .i64 ((2 * s.1 : Nat) : Int)), (27, s.2.2.2.2.1), (28, s.2.2.2.2.2)]) [0]
    (fun t w => (2 * t.1 ≤ s.length ∧ (s.take (2 * t.1)).all isD = true ∧ t.2.1.length = t.1 ∧ (∀ x ∈ t.2.1, 0 ≤ x ∧ x < 256) ∧ OwnS 5 1 t.2.2.1 (ints .u8 t.2.1) t.2.2.2.1) ∧ Ev.Loc m [] w0 m t.2.2.2.1 w) (fun t => s.length - 2 * t.1) (0, [], .slice none 0 0, [], undef, undef)
    ⟨⟨by simp, by simp, rfl, by simp, OwnS.nil _ _⟩, hL⟩ ?_ ?_
  · exact ⟨rfl, rfl, rfl, rfl, trivial⟩
  clear hL
  rintro ⟨j, xs, v, Lo, u1, u2⟩ w f ⟨⟨h1, h2, h3, h4, ho⟩, hL⟩
  dsimp only at h1 h2 h3 h4 ho hL
  obtain ⟨A, n, c, rfl, hno⟩ := ho.slice
  refine go ?_;try(clear hL;intro w hL)
  refine BrReq.dec (fun hlt => ?_) (fun hlt => ?_)
  · have hlt' : 2 * j + 1 < s.length := by rw [hsz] at hlt; dsimp only at hlt; omega
    obtain ⟨a, ha⟩ : ∃ a, s[2 * j]? = some a := ⟨_, List.getElem?_eq_getElem (by omega)⟩
    obtain ⟨b, hb⟩ : ∃ b, s[2 * j + 1]? = some b := ⟨_, List.getElem?_eq_getElem hlt'⟩
    have ha1 := a.toNat_lt
    have hb1 := b.toNat_lt
    refine go ?_;try(clear hL;intro w hL)
    refine DrawReq.plan hX (.fst 0 (.fst 1 (.fst 2 (.fst 4 (.fst 5 (.fst 6 (.fst 7 (.alt 3 (.alt 8 (.fst 9 (.fst 10 (.done))) (.stop)) (.stop))))))))) [] (by kernel_rfl) (by kernel_rfl) hL (fun h => h.sublist (List.nil_sublist _)) ?_
    clear hL
    intro w hL
    conv => whnf
    repeat ((first | (refine StrIdxReq.mk (2 * j) a rfl (by rw [← ha]; exact List.getElem?_toArray) ?_) | (refine StrIdxReq.mk (2 * j + 1) b (by dsimp only; omega) (by rw [← hb]; exact List.getElem?_toArray) ?_) | (refine ArReq.i64 (by dsimp only; omega) (by dsimp only; omega) ?_) | (refine goq1 ?_;try(clear hL;intro w hL))); conv => whnf)
    refine CallReq.val (ix_fn hm ha1) hL ?_
    clear hL
    intro w hL
    refine SReq.mk (hL.sublist (List.nil_sublist _)) ?_
    refine goq ?_;try(clear hL;intro w hL)
    refine CallReq.val (ix_fn hm hb1) hL ?_
    clear hL
    intro w hL
    refine SReq.mk (hL.sublist (List.nil_sublist _)) ?_
    conv => whnf
    repeat ((first | refine SReq.mk (hL.sublist (List.nil_sublist _)) ?_ | (refine goq1 ?_;try(clear hL;intro w hL))); conv => whnf)
    have hno : ∀ (i : Nat) (c : UInt8), s[i]? = some c → ixd c.toNat < 0 → s.all isD = false := fun i c hi hc => by
      rcases ix_is c.toNat c.toNat_lt with ⟨_, h, _⟩ | ⟨h, _⟩
      · omega
      · exact List.all_eq_false.2 ⟨c, List.mem_of_getElem? hi, by unfold isD; rw [h]; simp⟩
    have hyes : ∀ c : UInt8, ¬ ixd c.toNat < 0 → isD c = true ∧ 0 ≤ ixd c.toNat ∧ ixd c.toNat < 16 := fun c hc => by
      rcases ix_is c.toNat c.toNat_lt with h | ⟨h, h'⟩
      · exact h
      · omega
    refine BrReq.dec (fun hia => ?_) (fun hia => ?_)
    · refine go ?_;try(clear hL;intro w hL)
      exact RetReq.mk hL ⟨none, 0, 0, false, rfl, fun h => (by cases h), by rw [hno _ _ ha hia, Bool.and_false]⟩
    · obtain ⟨da, ia0, ia1⟩ := hyes a hia
      refine go ?_;try(clear hL;intro w hL)
      refine BrReq.dec (fun hib => ?_) (fun hib => ?_)
      · refine go ?_;try(clear hL;intro w hL)
        exact RetReq.mk hL ⟨none, 0, 0, false, rfl, fun h => (by cases h), by rw [hno _ _ hb hib, Bool.and_false]⟩
      · obtain ⟨db, ib0, ib1⟩ := hyes b hib
        obtain ⟨N1, hN1⟩ : ∃ n, IntKind.i64.wrap (ixd a.toNat * 2 ^ (min (4 : Int).toNat IntKind.i64.bits)) = n := ⟨_, rfl⟩
        obtain ⟨N2, hN2⟩ : ∃ n, bitsOf .or .i64 N1 (ixd b.toNat) = n := ⟨_, rfl⟩
        obtain ⟨N3, hN3, hN0, hN4⟩ : ∃ n, IntKind.u8.wrap N2 = n ∧ 0 ≤ n ∧ n < 256 := ⟨_, rfl, u8_wrap _⟩
        conv => whnf
        repeat ((first | refine ShlReq.mk (by decide) hN1 ?_ | refine BitReq.mk hN2 ?_ | refine ArReq.as hN3 ?_ | (refine go1 ?_;try(clear hL;intro w hL))); conv => whnf)
        refine NewReq.mk hL ?_
        clear hL
        intro g w hL
        conv => whnf
        refine go ?_;try(clear hL;intro w hL)
        replace hL : Ev.Loc m [] w0 m ((g, .cells (toArr [.int .u8 N3]) 5 (0, 0)) :: (Lo ++ [])) w := by rw [List.append_nil]; exact hL
        have hlx : (ints .u8 xs).length = j := by rw [ints, List.length_map]; exact h3
        refine RunReq.push hX 27 5 rfl rfl rfl rfl rfl ho hL rfl rfl (by rw [hlx]; show j + 1 ≤ _; omega) rfl ?_
        clear hL
        intro A2 n2 c2 L2 w hn2 ho2 hL
        replace ho2 : OwnS 5 1 (.slice A2 n2 c2) (ints .u8 xs ++ ints .u8 [N3]) L2 := ho2
        rw [← ints_append] at ho2
        rw [List.append_nil] at hL
        conv => whnf
        repeat ((first | (refine ArReq.i64 (by dsimp only; omega) (by dsimp only; omega) ?_) | (refine go1 ?_;try(clear hL;intro w hL))); conv => whnf)
        have hall : (s.take (2 * (j + 1))).all isD = true := by
          rw [show 2 * (j + 1) = 2 * j + 1 + 1 by omega, List.take_succ_eq_append_getElem hlt', List.take_succ_eq_append_getElem (show 2 * j < s.length by omega)]
          rw [List.getElem?_eq_getElem hlt'] at hb
          rw [List.getElem?_eq_getElem (show 2 * j < s.length by omega)] at ha
          rw [List.all_append, List.all_append, h2, Option.some.inj ha, Option.some.inj hb]
          simp [da, db]
        have hxs : ∀ x ∈ xs ++ [N3], 0 ≤ x ∧ x < 256 := fun x hx => by
          rcases List.mem_append.1 hx with hx | hx
          · exact h4 x hx
          · rw [List.mem_singleton.1 hx]; exact ⟨hN0, hN4⟩
        exact rnd (j + 1, xs ++ [N3], .slice A2 n2 c2, L2, .int .i64 (ixd b.toNat), .bool (decide (ixd b.toNat < 0))) ⟨⟨by dsimp only; omega, hall, by simp [h3], hxs, ho2⟩, hL⟩
  · have hrem : ∀ K : Int → Prop, K (((s.length % 2 : Nat) : Int)) → RemReq ((bs s).size : Int) 2 K := fun K hk => RemReq.nat (k := 2) rfl (by decide) (by rw [hsz]; exact hk)
    conv => whnf
    repeat ((first | refine hrem _ ?_ | (refine go1 ?_;try(clear hL;intro w hL))); conv => whnf)
    have hlen : (s.length % 2 = 0 ∧ 2 * j = s.length) ∨ (s.length % 2 = 1 ∧ 2 * j + 1 = s.length) := by rw [hsz] at hlt; dsimp only at hlt; omega
    replace hL : Ev.Loc m (keys []) w0 m (Lo ++ []) w := by rw [List.append_nil]; exact hL
    obtain ⟨m', hL', hle, hsl⟩ := ho.freeze hL
    refine RetReq.mk hL' ⟨A, n, c, decide (((s.length % 2 : Nat) : Int) = 0), rfl, fun _ => ⟨xs, hsl, h4, by omega⟩, ?_⟩
    rcases hlen with ⟨e1, e2⟩ | ⟨e1, e2⟩
    · rw [e2, List.take_length] at h2
      rw [e1, h2]; rfl
    · rw [e1]; rfl
end Go.Proofs.YtloofgoblodeiaaGreatDoor.tlr
namespace Go.Proofs.YtloofgoblodeiaaGreatDoor.tlr
open Go Go.Ev Go.Proofs Go.Proofs.YtloofgoblodeiaaGreatDoor.co Go.Proofs.YtloofgoblodeiaaGreatDoor.am Go.Proofs.YtloofgoblodeiaaGreatDoor.bd
set_option maxHeartbeats 4000000
set_option maxRecDepth 10000
structure TkS where
  mm : Mem
  b9 : Nat
  A : Option Addr
  n : Nat
  c : Nat
  ts : List (List Value)
def isTk (cs : List Value) (x : List Value) : Prop := cs = x
def knownT (s : List UInt8) : Bool := decide (s.length % 2 = 0) && s.all isD
theorem tk_five {r : List Value} (h : TkOk r) : r.length = 5 := by
  obtain ⟨a, b, c, d, e, rfl, -⟩ := h
  rfl
theorem stAll_fn (m : Mem) : Ev.Fn Tryz.prog 33 [.agg (toArr [.slice none 0 0, .int .i64 0])] m [] fun m' L u => m' = m ∧ ∃ (A : Option Addr) (n c : Nat) (L1 L2 : Own), L = L1 ++ L2 ∧ u = .slice A n c ∧ OwnS 3 1 (.slice A n c) (ints .i64 [0]) L1 := by
  refine Fn.enter (N := 9) hX Tryz.func33 rfl rfl (by show _ ≤ _; simp) (fun w0 hL => ?_)
  conv => whnf
  refine NewReq.mk hL ?_
  clear hL
  intro b1 w hL
  conv => whnf
  refine go ?_;try(clear hL;intro w hL)
  refine NewReq.mk hL ?_
  clear hL
  intro g w hL
  conv => whnf
  refine go ?_;try(clear hL;intro w hL)
  replace hL : Ev.Loc m [] w0 m ([(g, .cells (toArr (ints .i64 [0])) 3 (0, 0))] ++ [(b1, stO)]) w := hL
  refine RunReq.append hX 46 3 rfl rfl rfl rfl rfl (OwnS.full (n := 1) (by decide) rfl) hL (k := 0) (news := []) rfl (fun j u h => (by simp at h)) (fun u h => (by cases h)) (by decide) rfl ?_
  clear hL
  intro A n c L1 w hn ho hL
  refine go ?_;try(clear hL;intro w hL)
  exact RetReq.mk hL ⟨rfl, A, n, c, L1, _, rfl, rfl, ho⟩
theorem tokens_fn {m : Mem} {ι : At} {b k : Nat} (hft : FT ι (fun b o => m b = some o)) (hm : Laid m) (hι : ι 1290 = some (b, k)) (s : List UInt8) (hn : s.length ≤ 1000) :
    Ev.Fn Tryz.prog 15 [.pointer (some ⟨b, 0, none⟩), .string (bs s)] m [] fun _ _ u => ∃ (o : List UInt8) (e : Int), u = .tuple (toArr [.string (bs o), .int .i64 e]) ∧ (knownT s = true → e = 0 ∧ o ≠ []) ∧ (knownT s = false → e = 2 ∧ o = []) := by
  refine Fn.enter (N := 106) hX Tryz.func15 rfl rfl (by show _ ≤ _; simp) (fun w0 hL => ?_)
  conv => whnf
  refine go ?_;try(clear hL;intro w hL)
  refine CallReq.mk (L1 := []) (L2 := []) (unhex_fn hm s hn) hL ?_
  clear hL
  rintro u m1 L w hL hle ⟨A, n, c, kn, rfl, hk, hk2⟩
  replace hft := hft.mono (fun b o h => hle b o h)
  replace hm := hm.le hle
  obtain ⟨sl, pl, ll, a5, n5, c5, h1, h2, h3, h4, hc⟩ := ft_tool hft hι
  obtain rfl := vr_pA h2
  obtain ⟨s1, s2, c1, c2, A0, k0, A6, k6, rfl, hc1, hc2⟩ := ft_spec hft h1
  have hll : ll.length = 260 := by rw [h3.len]; rfl
  have hcs := cells_l hc
  have hcp := cells_l (cells_r hc)
  have hcl := cells_l (cells_r (cells_r hc))
  cases kn with
  | false =>
    refine go ?_;try(clear hL;intro w hL)
    exact RetReq.mk hL ⟨[], 2, rfl, fun h => absurd (h.symm.trans hk2.symm) (by decide), fun _ => ⟨rfl, rfl⟩⟩
  | true =>
    obtain ⟨xs, hw, hx, hxn⟩ := hk rfl
    refine go ?_;try(clear hL;intro w hL)
    refine DrawReq.cut (fun s : TkS => [(8, .slice s.A s.n s.c), (9, .pointer (some ⟨s.b9, 0, none⟩)), (10, .int .i64 0)]) [0] (fun s w => Mem.Le m1 s.mm ∧ Sl s.mm 5 isTk (.slice s.A s.n s.c) s.ts ∧ (∀ r ∈ s.ts, TkOk r) ∧ s.ts.length ≤ 1000 ∧ Ev.Loc m [] w0 s.mm [(s.b9, stO)] w) ?_ ?_
    · refine DrawReq.plan hX (.fst 0 (.fst 1 (.fst 2 (.fst 3 (.fst 4 (.fst 5 (.fst 6 (.fst 7 (.fst 8 (.fst 9 (.fst 10 (.fst 11 (.fst 12 (.alt 13 (.fst 14 (.fst 15 (.fst 16 (.fst 17 (.alt 18 (.fst 19 (.alt 20 (.fst 21 (.done)) (.stop))) (.stop)))))) (.alt 18 (.alt 13 (.fst 14 (.fst 15 (.fst 16 (.fst 17 (.fst 19 (.alt 20 (.fst 21 (.done)) (.stop))))))) (.stop)) (.stop)))))))))))))))) [] (by kernel_rfl) (by kernel_rfl) hL (fun h => h.sublist (List.nil_sublist _)) ?_
      clear hL
      intro w hL
      conv => whnf
      repeat ((first | refine QLdReq.agg hX rfl rfl rfl hcs ?_ | refine QLdReq.agg hX rfl rfl rfl hcp ?_ | refine QLdReq.agg hX rfl rfl hll hcl ?_ | (refine goq1 ?_;try(clear hL;intro w hL))); conv => whnf)
      refine AltQ.of ⟨?_, ?_⟩
      · refine goq ?_;try(clear hL;intro w hL)
        refine CallReq.mk (L1 := []) (L2 := []) (scanAll_fn hft hm h1 h3 h2 hw hx hxn) (hL.sublist (List.nil_sublist _)) ?_
        clear hL
        rintro u m2 La w hL hle2 ⟨Ao, no, co, ts, Lo, L2, rfl, rfl, ho, g1, g2⟩
        obtain ⟨m3, Ao', co', ev, hL3, hle3, hsl, -⟩ := OwnS.freezeRows (R := isTk) (l := ts) (by decide) ho (L2 := L2 ++ []) (by rw [← List.append_assoc]; exact hL) (fun r hr => tk_five (g1 r hr)) rfl (fun i x hx => ⟨x, hx, rfl⟩)
        cases ev
        clear hL
        have hL := hL3.sublist (List.nil_sublist _)
        have hle4 := hle2.trans hle3
        refine SReq.mk (hL.weaken hle4 hle) ?_
        refine goq ?_;try(clear hL;intro w hL)
        refine NewReq.mk hL ?_
        clear hL
        intro b9 w hL
        conv => whnf
        refine SReq.mk ((hL.weaken hle4 hle).sublist (List.nil_sublist _)) ?_
        conv => whnf
        repeat ((first | refine SReq.mk ((hL.weaken hle4 hle).sublist (List.nil_sublist _)) ?_ | (refine goq1 ?_;try(clear hL;intro w hL))); conv => whnf)
        refine ⟨⟨m3, b9, Ao, ts.length, co, ts⟩, ⟨hle4, hsl, g1, g2, hL⟩, ?_, ?_⟩
        · repeat (first | exact trivial | (refine And.intro (by (conv => lhs; whnf) <;> (conv => rhs; whnf) <;> (first | rfl)) ?_))
        · repeat (first | exact trivial | (refine And.intro (by (conv => lhs; whnf) <;> (conv => rhs; whnf) <;> (first | rfl)) ?_))
      · refine goq ?_;try(clear hL;intro w hL)
        refine NewReq.mk hL ?_
        clear hL
        intro b9 w hL
        conv => whnf
        refine SReq.mk (hL.sublist (List.nil_sublist _)) ?_
        refine goq ?_;try(clear hL;intro w hL)
        refine CallReq.mk (L1 := []) (L2 := [_]) (scanAll_fn hft hm h1 h3 h2 hw hx hxn) (hL.sublist (.cons_cons _ (List.nil_sublist _))) ?_
        clear hL
        rintro u m2 La w hL hle2 ⟨Ao, no, co, ts, Lo, L2, rfl, rfl, ho, g1, g2⟩
        obtain ⟨m3, Ao', co', ev, hL3, hle3, hsl, -⟩ := OwnS.freezeRows (R := isTk) (l := ts) (by decide) ho (L2 := L2 ++ [_]) (by rw [← List.append_assoc]; exact hL) (fun r hr => tk_five (g1 r hr)) rfl (fun i x hx => ⟨x, hx, rfl⟩)
        cases ev
        clear hL
        have hL := hL3.sublist (List.sublist_append_right L2 [_])
        have hle4 := hle2.trans hle3
        refine SReq.mk ((hL.weaken hle4 hle).sublist (List.nil_sublist _)) ?_
        conv => whnf
        repeat ((first | refine SReq.mk ((hL.weaken hle4 hle).sublist (List.nil_sublist _)) ?_ | (refine goq1 ?_;try(clear hL;intro w hL))); conv => whnf)
        refine ⟨⟨m3, b9, Ao, ts.length, co, ts⟩, ⟨hle4, hsl, g1, g2, hL⟩, ?_, ?_⟩
        · repeat (first | exact trivial | (refine And.intro (by (conv => lhs; whnf) <;> (conv => rhs; whnf) <;> (first | rfl)) ?_))
        · repeat (first | exact trivial | (refine And.intro (by (conv => lhs; whnf) <;> (conv => rhs; whnf) <;> (first | rfl)) ?_))
    · rintro ⟨m2, b9, A, n, c, ts⟩ w f ⟨hle2, hsl, g1, g2, hL⟩
      dsimp only at hle2 hsl g1 g2 hL
      replace hft := hft.mono (fun b o h => hle2 b o h)
      replace hm := hm.le hle2
      replace hc := hc.le hle2
      replace hc1 := hc1.le hle2
      clear hcs hcp hcl hw hc2
      refine go ?_;try(clear hL;intro w hL)
      refine LoopReq.inv hX (fun t : Nat × List UInt8 => [(11, .string (bs t.2)), (51, .int .i64 t.1)]) [0, 9, 10, 49, 50] (fun t w => (t.1 ≤ ts.length ∧ t.2.length ≤ 200 * t.1) ∧ Ev.Loc m [] w0 m2 [(b9, stO)] w) (fun t => ts.length - t.1) (0, []) ⟨⟨Nat.zero_le _, Nat.le_refl _⟩, hL⟩ ?_ ?_
      · exact ⟨rfl, rfl, trivial⟩
      clear hL
      rintro ⟨j, o⟩ w f ⟨⟨q1, q2⟩, hL⟩
      dsimp only at q1 q2 hL
      obtain ⟨hln, -, -⟩ := hsl.lens
      refine go ?_;try(clear hL;intro w hL)
      refine BrReq.dec (fun hlt => ?_) (fun hlt => ?_)
      · have hlt' : j < ts.length := by dsimp only at hlt; omega
        obtain ⟨a, cs, ea, -, hcs, e⟩ := hsl.elem j _ (List.getElem?_eq_getElem hlt')
        obtain ⟨t0, t1, t2, t3, t4, er, ⟨u0, v0⟩, ⟨u1, v1⟩, ⟨u2, v2⟩, ⟨u3, v3⟩, ⟨u4, v4⟩⟩ := g1 _ (List.getElem_mem hlt')
        unfold isTk at e
        rw [er] at e
        subst e
        conv => whnf
        repeat ((first | refine Idx2Req.mk j a rfl (by omega) ea ?_ | refine LdReq.agg hX rfl rfl hL rfl hcs ?_ | (refine go1 ?_;try(clear hL;intro w hL))); conv => whnf)
        refine NewReq.mk hL ?_
        clear hL
        intro b13 w hL
        conv => whnf
        refine go ?_;try(clear hL;intro w hL)
        refine DrawReq.plan hX (.fst 0 (.fst 1 (.fst 2 (.fst 4 (.fst 5 (.fst 7 (.fst 8 (.fst 10 (.fst 11 (.fst 13 (.fst 14 (.alt 3 (.alt 6 (.alt 9 (.alt 12 (.alt 15 (.alt 16 (.alt 17 (.fst 18 (.fst 19 (.done))) (.stop)) (.stop)) (.stop)) (.stop)) (.stop)) (.stop)) (.stop))))))))))))) [_] (by kernel_rfl) (by kernel_rfl) hL (fun h => h.one 0 rfl) ?_
        clear hL
        intro w hL
        refine goq ?_;try(clear hL;intro w hL)
        refine CallReq.val (num_fn hm t0 (by omega) (by omega)) hL ?_
        clear hL
        intro w hL
        refine SReq.mk (hL.one 0 rfl) ?_
        refine goq ?_;try(clear hL;intro w hL)
        refine CallReq.val (num_fn hm t1 (by omega) (by omega)) hL ?_
        clear hL
        intro w hL
        refine SReq.mk (hL.one 0 rfl) ?_
        refine goq ?_;try(clear hL;intro w hL)
        refine CallReq.val (num_fn hm t2 (by omega) (by omega)) hL ?_
        clear hL
        intro w hL
        refine SReq.mk (hL.one 0 rfl) ?_
        refine goq ?_;try(clear hL;intro w hL)
        refine CallReq.val (num_fn hm t3 (by omega) (by omega)) hL ?_
        clear hL
        intro w hL
        refine SReq.mk (hL.one 0 rfl) ?_
        refine goq ?_;try(clear hL;intro w hL)
        refine CallReq.val (num_fn hm t4 (by omega) (by omega)) hL ?_
        clear hL
        intro w hL
        refine SReq.mk (hL.one 0 rfl) ?_
        refine goq ?_;try(clear hL;intro w hL)
        refine NewReq.mk hL ?_
        clear hL
        intro g w hL
        conv => whnf
        refine SReq.mk (hL.one 1 rfl) ?_
        refine goq ?_;try(clear hL;intro w hL)
        replace hL : Ev.Loc m [] w0 m2 ((g, .cells (toArr ([Lib.itoa t0, Lib.itoa t1, Lib.itoa t2, Lib.itoa t3, Lib.itoa t4].map fun a => Value.string (bs a))) 9 (0, 0)) :: [(b13, .cells (toArr [.int .i64 t0, .int .i64 t1, .int .i64 t2, .int .i64 t3, .int .i64 t4]) 94 (0, 0)), (b9, stO)]) w := hL
        have e0 := Lib.itoa_length_le t0 (by omega) (by omega)
        have e1 := Lib.itoa_length_le t1 (by omega) (by omega)
        have e2 := Lib.itoa_length_le t2 (by omega) (by omega)
        have e3 := Lib.itoa_length_le t3 (by omega) (by omega)
        have e4 := Lib.itoa_length_le t4 (by omega) (by omega)
        have htl : totL [Lib.itoa t0, Lib.itoa t1, Lib.itoa t2, Lib.itoa t3, Lib.itoa t4] ≤ 105 := by simp [totL]; omega
        obtain ⟨o2, ho2, hl2⟩ : ∃ o2, jn [32] [Lib.itoa t0, Lib.itoa t1, Lib.itoa t2, Lib.itoa t3, Lib.itoa t4] ++ [10] = o2 ∧ o2.length ≤ 150 := by
          refine ⟨_, rfl, ?_⟩
          have hj := jn_len [Lib.itoa t0, Lib.itoa t1, Lib.itoa t2, Lib.itoa t3, Lib.itoa t4]
          simp only [List.length_append, List.length_cons, List.length_nil] at hj ⊢
          omega
        refine words_lend (L1 := [_]) (OwnS.full (by decide) rfl) hL (by show 5 ≤ 100000; decide) (by omega) ?_
        rw [ho2]
        clear hL
        intro w hL
        refine SReq.mk (hL.one 1 rfl) ?_
        conv => whnf
        repeat ((first | (refine UGenReq.strB o o2 rfl rfl rfl rfl rfl (by dsimp only at *; omega) ?_) | refine SReq.mk (hL.one 1 rfl) ?_ | (refine ArReq.i64 (by dsimp only; omega) (by dsimp only; omega) ?_) | (refine goq1 ?_;try(clear hL;intro w hL))); conv => whnf)
        exact rnd (j + 1, o ++ o2) ⟨⟨hlt', by rw [List.length_append]; dsimp only; omega⟩, hL.drop.drop⟩
      · refine go ?_;try(clear hL;intro w hL)
        refine NewReq.mk hL ?_
        clear hL
        intro g w hL
        conv => whnf
        refine go ?_;try(clear hL;intro w hL)
        replace hL : Ev.Loc m [] w0 m2 ((g, .cells (toArr ([([115, 116, 97, 99, 107] : List UInt8)].map fun a => Value.string (bs a))) 9 (0, 0)) :: [(b9, stO)]) w := hL
        refine CallReq.mk (L1 := []) (L2 := [_, _]) (stAll_fn m2) hL ?_
        clear hL
        rintro u mx La w hL - ⟨hmx, A3, n3, c3, L1, L2, rfl, rfl, ho⟩
        rw [hmx] at hL
        obtain ⟨m3, hL', hle3, hz⟩ := ho.freeze (L2 := L2 ++ [_, _]) (by rw [← List.append_assoc]; exact hL)
        clear hL
        have hL := hL'.sublist (L' := [_]) ((List.sublist_append_of_sublist_right (List.Sublist.cons_cons _ (List.nil_sublist _))))
        replace hft := hft.mono (fun b o h => hle3 b o h)
        replace hm := hm.le hle3
        replace hc := hc.le hle3
        replace hc1 := hc1.le hle3
        obtain ⟨hz1, hz2⟩ := hz.cell
        refine go ?_;try(clear hL;intro w hL)
        refine LoopReq.inv hX (fun t : Nat × List (List UInt8) × Value × Own => [(14, t.2.2.1), (79, .int .i64 t.1)]) [0, 10, 11, 77, 78] (fun t w => (t.1 ≤ 1 ∧ t.2.1.length ≤ 1 + t.1 ∧ totL t.2.1 ≤ 5 + 4 * t.1 ∧ OwnS 9 1 t.2.2.1 (t.2.1.map fun a => Value.string (bs a)) t.2.2.2) ∧ Ev.Loc m [] w0 m3 t.2.2.2 w) (fun t => 1 - t.1) (0, [[115, 116, 97, 99, 107]], .slice (some ⟨g, 0, none⟩) 1 1, [_]) ⟨⟨Nat.zero_le _, Nat.le_refl _, Nat.le_refl _, OwnS.full (n := 1) (by decide) rfl⟩, hL⟩ ?_ ?_
        · exact ⟨rfl, rfl, trivial⟩
        clear hL
        rintro ⟨jj, l, v, Lo⟩ w f2 ⟨⟨p1, p2, p3, ho⟩, hL⟩
        dsimp only at p1 p2 p3 ho hL
        obtain ⟨A5, n5, c5, rfl, hno⟩ := ho.slice
        refine go ?_;try(clear hL;intro w hL)
        refine BrReq.dec (fun hlt2 => ?_) (fun hlt2 => ?_)
        · obtain rfl : jj = 0 := by dsimp only [List.length_cons, List.length_nil] at hlt2 hz1; omega
          obtain ⟨a, ea, hca⟩ := hz2 0 0 rfl
          have hst : mcell m3 ⟨b, 0, none⟩ = some (.slice (some ⟨s1, 0, none⟩) 1 c1) := hc 0 _ rfl
          have hmn : mcell m3 ⟨s1, 0, none⟩ = some (.string (bs [109, 97, 105, 110])) := hc1 0 _ rfl
          have hca' : mcell m3 a = some (.int .i64 0) := by cases a; exact hca
          conv => whnf
          repeat ((first | refine Idx2Req.mk 0 a rfl (by omega) ea ?_ | refine Idx2Req.mk 0 _ rfl (by decide) rfl ?_ | refine LdReq.one hX rfl rfl hL hca ?_ | refine LdReq.one hX rfl rfl hL hst ?_ | refine LdReq.one hX rfl rfl hL hmn ?_ | (refine go1 ?_;try(clear hL;intro w hL))); conv => whnf)
          refine NewReq.mk hL ?_
          clear hL
          intro g2 w hL
          conv => whnf
          refine go ?_;try(clear hL;intro w hL)
          replace hL : Ev.Loc m [] w0 m3 ((g2, .cells (toArr [Value.string (bs [109, 97, 105, 110])]) 9 (0, 0)) :: (Lo ++ [])) w := by rw [List.append_nil]; exact hL
          refine RunReq.push hX 29 9 rfl rfl rfl rfl rfl ho hL rfl rfl (by rw [List.length_map]; show _ + 1 ≤ _; omega) rfl ?_
          clear hL
          intro A6 n6 c6 L6 w hn6 ho6 hL
          rw [List.append_nil] at hL
          have ho7 : OwnS 9 1 (.slice A6 n6 c6) ((l ++ [[109, 97, 105, 110]]).map fun a => Value.string (bs a)) L6 := by rw [List.map_append]; exact ho6
          refine go ?_;try(clear hL;intro w hL)
          exact rnd (1, l ++ [[109, 97, 105, 110]], .slice A6 n6 c6, L6) ⟨⟨Nat.le_refl _, by simp; omega, by unfold totL at *; rw [List.map_append, List.sum_append]; simp; omega, ho7⟩, hL⟩
        · refine go ?_;try(clear hL;intro w hL)
          replace hL : Ev.Loc m [] w0 m3 (Lo ++ []) w := by rw [List.append_nil]; exact hL
          refine words_lend ho hL (by omega) (by omega) ?_
          clear hL
          intro w hL
          have hj := jn_len l
          have hlw : (jn [32] l ++ [10]).length ≤ 20 := by rw [List.length_append]; simp only [List.length_cons, List.length_nil]; omega
          have hne : jn [32] l ++ [10] ≠ [] := by simp
          generalize jn [32] l ++ [10] = o2 at hlw hne ⊢
          conv => whnf
          repeat ((first | (refine UGenReq.strB o o2 rfl rfl rfl rfl rfl (by dsimp only at *; omega) ?_) | (refine go1 ?_;try(clear hL;intro w hL))); conv => whnf)
          exact RetReq.mk hL ⟨o ++ o2, 0, rfl, fun _ => ⟨rfl, fun e => hne (List.append_eq_nil_iff.1 e).2⟩, fun h => absurd (h.symm.trans hk2.symm) (by decide)⟩
end Go.Proofs.YtloofgoblodeiaaGreatDoor.tlr
namespace Go.Proofs.YtloofgoblodeiaaGreatDoor.am
open Go Go.Ev Go.Proofs Go.Proofs.YtloofgoblodeiaaGreatDoor.co
noncomputable section
set_option maxRecDepth 100000 in
theorem rules_run : run (smOf smP) 60 5 [.pointer (some ⟨1290, 0, none⟩), .string (bs [114, 117, 108, 101, 115])] 1291 MT (kTup [.string (bs [48, 32, 102, 105, 110, 101, 32, 54, 49, 32, 54, 49, 10]), .int .i64 0]) = true := by kernel_rfl
end
end Go.Proofs.YtloofgoblodeiaaGreatDoor.am
namespace Go.Proofs.YtloofgoblodeiaaGreatDoor.am
open Go Go.Ev Go.Proofs Go.Proofs.YtloofgoblodeiaaGreatDoor.co
noncomputable section
set_option maxRecDepth 100000 in
theorem awake_run : run (smOf smP) 60 4 [] 16 M00 (fun u _ _ => match flatV u with | true => vEq u (.bool true) | false => false) = true := by kernel_rfl
theorem awake_fn {m : Mem} (hm : Laid m) : FnV Tryz.prog 4 [] m (.bool true) :=
  fnV_run hm (smP_ok hm) (fun _ => .nil) rfl awake_run
end
end Go.Proofs.YtloofgoblodeiaaGreatDoor.am
namespace Go.Proofs.YtloofgoblodeiaaGreatDoor.tlr
open Go Go.Ev Go.Proofs Go.Proofs.YtloofgoblodeiaaGreatDoor.co Go.Proofs.YtloofgoblodeiaaGreatDoor.am Go.Proofs.YtloofgoblodeiaaGreatDoor.bd
set_option maxHeartbeats 4000000
set_option maxRecDepth 10000
theorem pre_fn (m : Mem) (s p : List UInt8) : FnV Tryz.prog 73 [.string (bs s), .string (bs p)] m (.bool (decide (s.take p.length = p))) := by
  have hs : (bs s).size = s.length := bs_size s
  have hp : (bs p).size = p.length := bs_size p
  refine Fn.enter (N := 18) hX Tryz.func73 rfl rfl (by show _ ≤ _; simp) (fun w0 hL => ?_)
  conv => whnf
  refine go ?_;try(clear hL;intro w hL)
  refine BrReq.dec (fun h => ?_) (fun h => ?_)
  · rw [hs, hp] at h
    have e : (exS (bs s) 0 p.length == bs p) = decide (s.take p.length = p) := by rw [bs_extract, List.drop_zero, bs_beq]
    conv => whnf
    repeat ((first | (refine SlReq.mk 0 p.length rfl (by rw [hp]) (by omega) (by rw [hs]; omega) ?_) | ((refine UGenReq.strEq rfl rfl rfl ?_; rw [e])) | (refine go1 ?_;try(clear hL;intro w hL))); conv => whnf)
    exact RetReq.mk hL ⟨rfl, rfl⟩
  · rw [hs, hp] at h
    have e : decide (s.take p.length = p) = false := decide_eq_false fun e => by
      have := congrArg List.length e
      rw [List.length_take] at this
      omega
    rw [e]
    refine go ?_;try(clear hL;intro w hL)
    exact RetReq.mk hL ⟨rfl, rfl⟩
theorem cut_fn (m : Mem) (s p : List UInt8) : FnV Tryz.prog 14 [.string (bs s), .string (bs p)] m (.tuple (toArr (if s.take p.length = p then [.string (bs (s.drop p.length)), .bool true] else [.string (bs s), .bool false]))) := by
  have hs : (bs s).size = s.length := bs_size s
  have hp : (bs p).size = p.length := bs_size p
  have h1 : FnV Tryz.prog 30 [.string (bs s), .string (bs p)] m (.tuple (toArr (if s.take p.length = p then [.string (bs (s.drop p.length)), .bool true] else [.string (bs s), .bool false]))) := by
    refine Fn.enter (N := 15) hX Tryz.func30 rfl rfl (by show _ ≤ _; simp) (fun w0 hL => ?_)
    conv => whnf
    refine go ?_;try(clear hL;intro w hL)
    refine CallReq.val (pre_fn m s p) hL ?_
    clear hL
    intro w hL
    by_cases h : s.take p.length = p
    · rw [decide_eq_true h, if_pos h]
      have hle : p.length ≤ s.length := by
        have := congrArg List.length h
        rw [List.length_take] at this
        omega
      have e : exS (bs s) p.length s.length = bs (s.drop p.length) := by rw [bs_extract, List.take_length]
      conv => whnf
      repeat ((first | (refine SlReq.mk p.length s.length (by rw [hp]) (by rw [hs]) hle (by rw [hs]; omega) ?_) | (refine go1 ?_;try(clear hL;intro w hL))); conv => whnf)
      rw [e]
      refine go ?_;try(clear hL;intro w hL)
      exact RetReq.mk hL ⟨rfl, rfl⟩
    · rw [decide_eq_false h, if_neg h]
      refine go ?_;try(clear hL;intro w hL)
      exact RetReq.mk hL ⟨rfl, rfl⟩
  refine Fn.enter (N := 11) hX Tryz.func14 rfl rfl (by show _ ≤ _; simp) (fun w0 hL => ?_)
  conv => whnf
  refine go ?_;try(clear hL;intro w hL)
  refine CallReq.val h1 hL ?_
  clear hL
  intro w hL
  split
  · refine go ?_;try(clear hL;intro w hL)
    exact RetReq.mk hL ⟨rfl, rfl⟩
  · refine go ?_;try(clear hL;intro w hL)
    exact RetReq.mk hL ⟨rfl, rfl⟩
def wStates : List UInt8 := [115, 116, 97, 116, 101, 115]
def wRules : List UInt8 := [114, 117, 108, 101, 115]
def wMeets : List UInt8 := [109, 101, 101, 116, 115]
def wPrint : List UInt8 := [112, 114, 105, 110, 116]
def wTok : List UInt8 := [116, 111, 107, 101, 110, 115, 32]
def knownL (s : List UInt8) : Bool := decide (s = wStates) || decide (s = wRules) || decide (s = wMeets) || decide (s = wPrint) || (decide (s.take 7 = wTok) && knownT (s.drop 7))
theorem beq_no {s p : List UInt8} (h : ¬ s = p) : (bs s == bs p) = false := by rw [bs_beq]; exact decide_eq_false h
theorem ueqB {P : Program} {o : Oper} {ρ : Operand → Value} {t yt : Nat} {x y : Operand} {a b : ByteArray} {v : Bool} {K : Value → Prop} (ho : o.op = .binOp .eql t x y yt) (hx : ρ x = .string a) (hy : ρ y = .string b) (e : (a == b) = v) (h : K (.bool v)) : UGenReq P o ρ K :=
  UGenReq.strEq ho hx hy (by rw [e]; exact h)
theorem run_fn {m : Mem} {ι : At} {b k : Nat} (hft : FT ι (fun b o => m b = some o)) (hm : Laid m) (hι : ι 1290 = some (b, k)) (s : List UInt8) (hn : s.length ≤ 1000) :
    Ev.Fn Tryz.prog 5 [.pointer (some ⟨b, 0, none⟩), .string (bs s)] m [] fun _ _ u => ∃ (o : List UInt8) (e : Int), u = .tuple (toArr [.string (bs o), .int .i64 e]) ∧ (knownL s = true → e = 0 ∧ (o ≠ [] ∨ s = wMeets)) ∧ (knownL s = false → e = 2 ∧ o = []) := by
  by_cases h2 : s = wRules
  · subst h2
    refine Fn.mono (ftT_run hft hm (smP_ok hm) (.cons (.ptr hι) (.cons (.same rfl) .nil)) rules_run) ?_
    rintro m' L u - ⟨-, rfl⟩
    exact ⟨_, 0, rfl, fun _ => ⟨rfl, .inl (by decide)⟩, fun h => absurd h (by decide)⟩
  by_cases h3 : s = wMeets
  · subst h3
    refine Fn.mono (ftT_run hft hm (smP_ok hm) (.cons (.ptr hι) (.cons (.same rfl) .nil)) meets_run) ?_
    rintro m' L u - ⟨-, rfl⟩
    exact ⟨_, 0, rfl, fun _ => ⟨rfl, .inr rfl⟩, fun h => absurd h (by decide)⟩
  by_cases h4 : s = wPrint
  · subst h4
    refine Fn.mono (ftT_run hft hm (smP_ok hm) (.cons (.ptr hι) (.cons (.same rfl) .nil)) print_run) ?_
    rintro m' L u - ⟨-, rfl⟩
    exact ⟨_, 0, rfl, fun _ => ⟨rfl, .inl (by decide)⟩, fun h => absurd h (by decide)⟩
  by_cases h1 : s = wStates
  · subst h1
    obtain ⟨sl, pl, ll, a5, n5, c5, g1, g2, g3, g4, hc⟩ := ft_tool hft hι
    obtain rfl := vr_pA g2
    obtain ⟨s1, s2, c1, c2, A0, k0, A6, k6, rfl, hc1, hc2⟩ := ft_spec hft g1
    have hll : ll.length = 260 := by rw [g3.len]; rfl
    have hct := cells_r (cells_r (cells_r hc))
    have hcl := cells_l (cells_r (cells_r hc))
    rw [hll] at hct
    have hst : mcell m ⟨b, 264, none⟩ = some (.int .i64 3) := hct 1 _ rfl
    have hpk : mcell m ⟨b, 265, none⟩ = some (.slice a5 n5 c5) := hct 2 _ rfl
    obtain ⟨vm, gm, gv⟩ := g3.get (i := 258) (v := .slice (some ⟨1282, 0, none⟩) 3 0) (by kernel_rfl)
    obtain ⟨am, cm, rfl, -⟩ := gv.slc_any
    have hms : mcell m ⟨b, 261, none⟩ = some (.slice am 3 cm) := hcl 258 _ gm
    have e : (bs wStates == (⟨#[115, 116, 97, 116, 101, 115]⟩ : ByteArray)) = true := by decide
    refine Fn.enter (N := 65) hX Tryz.func5 rfl rfl (by show _ ≤ _; simp) (fun w0 hL => ?_)
    conv => whnf
    conv => whnf
    repeat ((first | refine UGenReq.nilPtr hX rfl rfl rfl rfl rfl ?_ | refine ueqB rfl rfl rfl e ?_ | (refine go1 ?_;try(clear hL;intro w hL))); conv => whnf)
    refine DrawReq.plan hX (.fst 0 (.fst 1 (.fst 2 (.fst 3 (.fst 5 (.fst 6 (.fst 7 (.fst 8 (.fst 9 (.fst 10 (.fst 12 (.fst 13 (.fst 14 (.fst 15 (.fst 16 (.alt 4 (.alt 11 (.alt 17 (.alt 18 (.alt 19 (.fst 20 (.fst 21 (.done))) (.stop)) (.stop)) (.stop)) (.stop)) (.stop))))))))))))))))) [] (by kernel_rfl) (by kernel_rfl) hL id ?_
    clear hL
    intro w hL
    conv => whnf
    repeat ((first | refine QLdReq.one hX rfl rfl hst ?_ | refine QLdReq.one hX rfl rfl hpk ?_ | refine QLdReq.one hX rfl rfl hms ?_ | (refine goq1 ?_;try(clear hL;intro w hL))); conv => whnf)
    refine CallReq.val (num_fn hm _ (by omega) (by omega)) hL ?_
    clear hL
    intro w hL
    refine SReq.mk hL ?_
    refine goq ?_;try(clear hL;intro w hL)
    refine CallReq.val (num_fn hm _ (by omega) (by omega)) hL ?_
    clear hL
    intro w hL
    refine SReq.mk hL ?_
    refine goq ?_;try(clear hL;intro w hL)
    refine CallReq.val (num_fn hm _ (by omega) (by omega)) hL ?_
    clear hL
    intro w hL
    refine SReq.mk hL ?_
    refine goq ?_;try(clear hL;intro w hL)
    refine NewReq.mk hL ?_
    clear hL
    intro g w hL
    conv => whnf
    refine SReq.mk hL.drop ?_
    refine goq ?_;try(clear hL;intro w hL)
    replace hL : Ev.Loc m [] w0 m ([(g, .cells (toArr ([Lib.itoa 3, Lib.itoa (3 : Nat), Lib.itoa n5].map fun a => Value.string (bs a))) 9 (0, 0))] ++ []) w := hL
    have i1 := Lib.itoa_length_le n5 (by omega) (by omega)
    have i2 := Lib.itoa_length_le 3 (by omega) (by omega)
    have i3 := Lib.itoa_length_le (3 : Nat) (by omega) (by omega)
    have htl : totL [Lib.itoa 3, Lib.itoa (3 : Nat), Lib.itoa n5] ≤ 105 := by unfold totL; simp only [List.map_cons, List.map_nil, List.sum_cons, List.sum_nil]; omega
    refine words_lend (OwnS.full (n := 3) (by decide) rfl) hL (by show 3 ≤ 100000; decide) (by omega) ?_
    clear hL
    intro w hL
    have hne : jn [32] [Lib.itoa 3, Lib.itoa (3 : Nat), Lib.itoa n5] ++ [10] ≠ [] := by simp
    generalize jn [32] [Lib.itoa 3, Lib.itoa (3 : Nat), Lib.itoa n5] ++ [10] = o2 at hne ⊢
    refine SReq.mk (hL.sublist (List.nil_sublist _)) ?_
    refine goq ?_;try(clear hL;intro w hL)
    exact RetReq.mk hL ⟨o2, 0, rfl, fun _ => ⟨rfl, .inl hne⟩, fun h => absurd h (by decide)⟩
  have e1 : (bs s == (⟨#[115, 116, 97, 116, 101, 115]⟩ : ByteArray)) = false := beq_no h1
  have e2 : (bs s == (⟨#[114, 117, 108, 101, 115]⟩ : ByteArray)) = false := beq_no h2
  have e3 : (bs s == (⟨#[109, 101, 101, 116, 115]⟩ : ByteArray)) = false := beq_no h3
  have e4 : (bs s == (⟨#[112, 114, 105, 110, 116]⟩ : ByteArray)) = false := beq_no h4
  refine Fn.enter (N := 65) hX Tryz.func5 rfl rfl (by show _ ≤ _; simp) (fun w0 hL => ?_)
  conv => whnf
  conv => whnf
  repeat ((first | refine UGenReq.nilPtr hX rfl rfl rfl rfl rfl ?_ | refine ueqB rfl rfl rfl e1 ?_ | refine ueqB rfl rfl rfl e2 ?_ | refine ueqB rfl rfl rfl e3 ?_ | refine ueqB rfl rfl rfl e4 ?_ | (refine go1 ?_;try(clear hL;intro w hL))); conv => whnf)
  have hk : knownL s = (decide (s.take 7 = wTok) && knownT (s.drop 7)) := by
    unfold knownL
    rw [decide_eq_false h1, decide_eq_false h2, decide_eq_false h3, decide_eq_false h4]
    rfl
  have hkt : s.take wTok.length = wTok → knownL s = knownT (s.drop wTok.length) := fun h => by
    rw [hk, show s.take 7 = wTok from h, decide_eq_true rfl, Bool.true_and]
    rfl
  have hnt : ¬ s.take wTok.length = wTok → knownL s = false := fun h => by
    rw [hk, decide_eq_false (show ¬ s.take 7 = wTok from h), Bool.false_and]
  refine CallReq.val (cut_fn m s wTok) hL ?_
  clear hL
  intro w hL
  split
  · rename_i ht
    refine go ?_;try(clear hL;intro w hL)
    refine CallReq.mk (L1 := []) (L2 := []) (tokens_fn hft hm hι (s.drop wTok.length) (by rw [List.length_drop]; omega)) hL ?_
    clear hL
    rintro u m2 L w hL - ⟨o, e, rfl, q1, q2⟩
    refine go ?_;try(clear hL;intro w hL)
    exact RetReq.mk hL ⟨o, e, rfl, fun h => ⟨(q1 ((hkt ht).symm.trans h)).1, .inl (q1 ((hkt ht).symm.trans h)).2⟩, fun h => q2 ((hkt ht).symm.trans h)⟩
  · rename_i ht
    refine go ?_;try(clear hL;intro w hL)
    exact RetReq.mk hL ⟨[], 2, rfl, fun h => absurd (h.symm.trans (hnt ht)) (by decide), fun _ => ⟨rfl, rfl⟩⟩
end Go.Proofs.YtloofgoblodeiaaGreatDoor.tlr
namespace Go.Proofs.YtloofgoblodeiaaGreatDoor.tlr
open Go Go.Ev Go.Proofs Go.Proofs.YtloofgoblodeiaaGreatDoor.co Go.Proofs.YtloofgoblodeiaaGreatDoor.am Go.Proofs.YtloofgoblodeiaaGreatDoor.bd
set_option maxHeartbeats 4000000
set_option maxRecDepth 10000
theorem ueqN {P : Program} {o : Oper} {ρ : Operand → Value} {t yt : Nat} {x y : Operand} {a b : ByteArray} {v : Bool} {K : Value → Prop} (ho : o.op = .binOp .neq t x y yt) (hx : ρ x = .string a) (hy : ρ y = .string b) (e : (!(a == b)) = v) (h : K (.bool v)) : UGenReq P o ρ K :=
  UGenReq.strNe ho hx hy (by rw [e]; exact h)
theorem nrun_fn (m : Mem) (s : List UInt8) : FnV Tryz.prog 5 [.pointer none, .string (bs s)] m (.tuple (toArr [.string (bs []), .int .i64 1])) := by
  refine Fn.enter (N := 65) hX Tryz.func5 rfl rfl (by show _ ≤ _; simp) (fun w0 hL => ?_)
  conv => whnf
  conv => whnf
  repeat ((first | refine UGenReq.nilPtr hX rfl rfl rfl rfl rfl ?_ | (refine go1 ?_;try(clear hL;intro w hL))); conv => whnf)
  exact RetReq.mk hL ⟨rfl, rfl⟩
theorem npacked_fn (m : Mem) : FnV Tryz.prog 6 [.pointer none] m (.slice none 0 0) := by
  refine Fn.enter (N := 11) hX Tryz.func6 rfl rfl (by show _ ≤ _; simp) (fun w0 hL => ?_)
  conv => whnf
  conv => whnf
  repeat ((first | refine UGenReq.nilPtr hX rfl rfl rfl rfl rfl ?_ | (refine go1 ?_;try(clear hL;intro w hL))); conv => whnf)
  exact RetReq.mk hL ⟨rfl, rfl⟩
theorem nspec_fn (m : Mem) : FnV Tryz.prog 7 [.pointer none] m (.agg (toArr [.slice none 0 0, .slice none 0 0])) := by
  refine Fn.enter (N := 45) hX Tryz.func7 rfl rfl (by show _ ≤ _; simp) (fun w0 hL => ?_)
  conv => whnf
  refine NewReq.mk hL ?_
  clear hL
  intro b2 w hL
  conv => whnf
  refine NewReq.mk hL ?_
  clear hL
  intro b3 w hL
  conv => whnf
  conv => whnf
  repeat ((first | refine UGenReq.nilPtr hX rfl rfl rfl rfl rfl ?_ | (refine go1 ?_;try(clear hL;intro w hL))); conv => whnf)
  exact RetReq.mk hL.drop.drop ⟨rfl, rfl⟩
theorem isD_iff (c : UInt8) : isD c = true ↔ (48 ≤ c.toNat ∧ c.toNat ≤ 57) ∨ (97 ≤ c.toNat ∧ c.toNat ≤ 102) := by
  unfold isD dg
  rw [Bool.or_eq_true, Bool.and_eq_true, Bool.and_eq_true, Nat.ble_eq, Nat.ble_eq, Nat.ble_eq, Nat.ble_eq]
theorem law_fn (m : Mem) (hm : Laid m) (s : List UInt8) : Ev.Fn Tryz.prog 3 [.string (bs s)] m [] fun _ _ v => v = .bool true := by
  have hsz : (bs s).size = s.length := bs_size s
  refine Fn.enter (N := 130) hX Tryz.func3 rfl rfl (by show _ ≤ _; simp) (fun w0 hL => ?_)
  conv => whnf
  refine go ?_;try(clear hL;intro w hL)
  refine CallReq.val (awake_fn hm) hL ?_
  clear hL
  intro w hL
  refine go ?_;try(clear hL;intro w hL)
  refine BrReq.dec (fun hgt => ?_) (fun hgt => ?_)
  · refine go ?_;try(clear hL;intro w hL)
    refine CallReq.val (awake_fn hm) hL ?_
    clear hL
    intro w hL
    refine go ?_;try(clear hL;intro w hL)
    exact RetReq.mk hL rfl
  rw [hsz] at hgt
  refine go ?_;try(clear hL;intro w hL)
  refine CallReq.val (nrun_fn m s) hL ?_
  clear hL
  intro w hL
  conv => whnf
  repeat ((first | refine ueqN rfl rfl rfl (show (!(bs [] == (⟨#[]⟩ : ByteArray))) = false by decide) ?_ | (refine go1 ?_;try(clear hL;intro w hL))); conv => whnf)
  refine CallReq.val (npacked_fn m) hL ?_
  clear hL
  intro w hL
  refine go ?_;try(clear hL;intro w hL)
  refine CallReq.val (nspec_fn m) hL ?_
  clear hL
  intro w hL
  refine go ?_;try(clear hL;intro w hL)
  refine CallReq.mk (L1 := []) (L2 := []) (new_fn hm) hL ?_
  clear hL
  rintro u m1 L w hL hle ⟨ι, b, k, hι, hft, rfl⟩
  refine go ?_;try(clear hL;intro w hL)
  refine CallReq.lendFn (run_fn (m := memH w) (hft.mono fun b o h => hL.own (b, o) (List.mem_append_left _ h)) ((hm.le hle).le fun b o h => hL.sub b o h) hι s (by omega)) (fun b o h => h) hL ?_
  rintro u m' L' w' ⟨o, e, rfl, q1, q2⟩ hL
  replace hL := hL.sublist (List.nil_sublist _)
  by_cases h1 : s = wStates
  · subst h1
    obtain ⟨rfl, ho⟩ := q1 (by decide)
    have hne : (!(bs o == (⟨#[]⟩ : ByteArray))) = true := by rw [show (bs o == (⟨#[]⟩ : ByteArray)) = false from beq_no (p := []) (ho.resolve_right (by decide))]; rfl
    conv => whnf
    repeat ((first | refine ueqB rfl rfl rfl (show (bs wStates == (⟨#[115, 116, 97, 116, 101, 115]⟩ : ByteArray)) = true by decide) ?_ | refine ueqB rfl rfl rfl (show (bs wStates == (⟨#[114, 117, 108, 101, 115]⟩ : ByteArray)) = false by decide) ?_ | refine ueqB rfl rfl rfl (show (bs wStates == (⟨#[109, 101, 101, 116, 115]⟩ : ByteArray)) = false by decide) ?_ | refine ueqB rfl rfl rfl (show (bs wStates == (⟨#[112, 114, 105, 110, 116]⟩ : ByteArray)) = false by decide) ?_ | refine ueqN rfl rfl rfl hne ?_ | (refine go1 ?_;try(clear hL;intro w hL))); conv => whnf)
    exact RetReq.mk hL rfl
  by_cases h2 : s = wRules
  · subst h2
    obtain ⟨rfl, ho⟩ := q1 (by decide)
    have hne : (!(bs o == (⟨#[]⟩ : ByteArray))) = true := by rw [show (bs o == (⟨#[]⟩ : ByteArray)) = false from beq_no (p := []) (ho.resolve_right (by decide))]; rfl
    conv => whnf
    repeat ((first | refine ueqB rfl rfl rfl (show (bs wRules == (⟨#[115, 116, 97, 116, 101, 115]⟩ : ByteArray)) = false by decide) ?_ | refine ueqB rfl rfl rfl (show (bs wRules == (⟨#[114, 117, 108, 101, 115]⟩ : ByteArray)) = true by decide) ?_ | refine ueqB rfl rfl rfl (show (bs wRules == (⟨#[109, 101, 101, 116, 115]⟩ : ByteArray)) = false by decide) ?_ | refine ueqB rfl rfl rfl (show (bs wRules == (⟨#[112, 114, 105, 110, 116]⟩ : ByteArray)) = false by decide) ?_ | refine ueqN rfl rfl rfl hne ?_ | (refine go1 ?_;try(clear hL;intro w hL))); conv => whnf)
    exact RetReq.mk hL rfl
  by_cases h3 : s = wMeets
  · subst h3
    obtain ⟨rfl, ho⟩ := q1 (by decide)
    by_cases ho' : o = []
    · subst ho'
      conv => whnf
      repeat ((first | refine ueqB rfl rfl rfl (show (bs wMeets == (⟨#[115, 116, 97, 116, 101, 115]⟩ : ByteArray)) = false by decide) ?_ | refine ueqB rfl rfl rfl (show (bs wMeets == (⟨#[114, 117, 108, 101, 115]⟩ : ByteArray)) = false by decide) ?_ | refine ueqB rfl rfl rfl (show (bs wMeets == (⟨#[109, 101, 101, 116, 115]⟩ : ByteArray)) = true by decide) ?_ | refine ueqB rfl rfl rfl (show (bs wMeets == (⟨#[112, 114, 105, 110, 116]⟩ : ByteArray)) = false by decide) ?_ | refine ueqN rfl rfl rfl (show (!(bs [] == (⟨#[]⟩ : ByteArray))) = false by decide) ?_ | (refine go1 ?_;try(clear hL;intro w hL))); conv => whnf)
      exact RetReq.mk hL rfl
    · have hne : (!(bs o == (⟨#[]⟩ : ByteArray))) = true := by rw [show (bs o == (⟨#[]⟩ : ByteArray)) = false from beq_no (p := []) ho']; rfl
      conv => whnf
      repeat ((first | refine ueqB rfl rfl rfl (show (bs wMeets == (⟨#[115, 116, 97, 116, 101, 115]⟩ : ByteArray)) = false by decide) ?_ | refine ueqB rfl rfl rfl (show (bs wMeets == (⟨#[114, 117, 108, 101, 115]⟩ : ByteArray)) = false by decide) ?_ | refine ueqB rfl rfl rfl (show (bs wMeets == (⟨#[109, 101, 101, 116, 115]⟩ : ByteArray)) = true by decide) ?_ | refine ueqB rfl rfl rfl (show (bs wMeets == (⟨#[112, 114, 105, 110, 116]⟩ : ByteArray)) = false by decide) ?_ | refine ueqN rfl rfl rfl hne ?_ | (refine go1 ?_;try(clear hL;intro w hL))); conv => whnf)
      exact RetReq.mk hL rfl
  by_cases h4 : s = wPrint
  · subst h4
    obtain ⟨rfl, ho⟩ := q1 (by decide)
    have hne : (!(bs o == (⟨#[]⟩ : ByteArray))) = true := by rw [show (bs o == (⟨#[]⟩ : ByteArray)) = false from beq_no (p := []) (ho.resolve_right (by decide))]; rfl
    conv => whnf
    repeat ((first | refine ueqB rfl rfl rfl (show (bs wPrint == (⟨#[115, 116, 97, 116, 101, 115]⟩ : ByteArray)) = false by decide) ?_ | refine ueqB rfl rfl rfl (show (bs wPrint == (⟨#[114, 117, 108, 101, 115]⟩ : ByteArray)) = false by decide) ?_ | refine ueqB rfl rfl rfl (show (bs wPrint == (⟨#[109, 101, 101, 116, 115]⟩ : ByteArray)) = false by decide) ?_ | refine ueqB rfl rfl rfl (show (bs wPrint == (⟨#[112, 114, 105, 110, 116]⟩ : ByteArray)) = true by decide) ?_ | refine ueqN rfl rfl rfl hne ?_ | (refine go1 ?_;try(clear hL;intro w hL))); conv => whnf)
    exact RetReq.mk hL rfl
  have e1 : (bs s == (⟨#[115, 116, 97, 116, 101, 115]⟩ : ByteArray)) = false := beq_no h1
  have e2 : (bs s == (⟨#[114, 117, 108, 101, 115]⟩ : ByteArray)) = false := beq_no h2
  have e3 : (bs s == (⟨#[109, 101, 101, 116, 115]⟩ : ByteArray)) = false := beq_no h3
  have e4 : (bs s == (⟨#[112, 114, 105, 110, 116]⟩ : ByteArray)) = false := beq_no h4
  conv => whnf
  repeat ((first | refine ueqB rfl rfl rfl e1 ?_ | refine ueqB rfl rfl rfl e2 ?_ | refine ueqB rfl rfl rfl e3 ?_ | refine ueqB rfl rfl rfl e4 ?_ | (refine go1 ?_;try(clear hL;intro w hL))); conv => whnf)
  have hk : knownL s = (decide (s.take 7 = wTok) && knownT (s.drop 7)) := by
    unfold knownL
    rw [decide_eq_false h1, decide_eq_false h2, decide_eq_false h3, decide_eq_false h4]
    rfl
  have hno : ¬ s.take 7 = wTok → knownL s = false := fun h => by rw [hk, decide_eq_false h, Bool.false_and]
  refine BrReq.dec (fun h6 => ?_) (fun h6 => ?_)
  · rw [hsz] at h6
    have e5 : (exS (bs s) 0 7 == (⟨#[116, 111, 107, 101, 110, 115, 32]⟩ : ByteArray)) = decide (s.take 7 = wTok) := by rw [bs_extract, List.drop_zero]; exact bs_beq (s.take 7) wTok
    conv => whnf
    repeat ((first | (refine SlReq.mk 0 7 rfl rfl (by decide) (by rw [hsz]; omega) ?_) | refine ueqB rfl rfl rfl e5 ?_ | (refine go1 ?_;try(clear hL;intro w hL))); conv => whnf)
    by_cases ht : s.take 7 = wTok
    · rw [decide_eq_true ht]
      conv => whnf
      repeat ((first | refine RemReq.nat (k := 2) rfl (by decide) ?_ | (refine go1 ?_;try(clear hL;intro w hL))); conv => whnf)
      have hkn : knownL s = (decide (s.length % 2 = 1) && ((s.take s.length).drop 7).all isD) := by
        rw [hk, decide_eq_true ht, Bool.true_and, List.take_length]
        unfold knownT
        rw [List.length_drop]
        congr 1
        exact decide_eq_decide.2 (by omega)
      refine LoopReq.inv hX (fun t : Nat × Bool => [(11, .bool t.2), (12, .int .i64 t.1)]) [0, 9, 10] (fun t w => (7 ≤ t.1 ∧ t.1 ≤ s.length ∧ t.2 = (decide (s.length % 2 = 1) && ((s.take t.1).drop 7).all isD)) ∧ Ev.Loc m [] w0 m1 [] w) (fun t => s.length - t.1) (7, decide ((((bs s).size % 2 : Nat) : Int) = 1)) ⟨⟨Nat.le_refl _, by dsimp only; omega, ?_⟩, hL⟩ ?_ ?_
      · rw [hsz]
        have e : (s.take 7).drop 7 = [] := List.drop_eq_nil_of_le (by rw [List.length_take]; omega)
        rw [e, List.all_nil, Bool.and_true]
        exact decide_eq_decide.2 (by omega)
      · exact ⟨rfl, rfl, trivial⟩
      clear hL
      rintro ⟨i, kn⟩ w f ⟨⟨i1, i2, i3⟩, hL⟩
      dsimp only at i1 i2 i3
      refine go ?_;try(clear hL;intro w hL)
      refine BrReq.dec (fun hlt => ?_) (fun hlt => ?_)
      · rw [hsz] at hlt
        have hlt' : i < s.length := by dsimp only at hlt; omega
        obtain ⟨c, hc⟩ : ∃ c, s[i]? = some c := ⟨_, List.getElem?_eq_getElem hlt'⟩
        have hc1 := c.toNat_lt
        have hst : ((s.take (i + 1)).drop 7).all isD = (((s.take i).drop 7).all isD && isD c) := by
          rw [List.take_succ_eq_append_getElem hlt', List.drop_append_of_le_length (by rw [List.length_take]; omega), List.all_append]
          rw [List.getElem?_eq_getElem hlt'] at hc
          rw [Option.some.inj hc]
          simp
        cases kn with
        | false =>
          conv => whnf
          repeat ((first | (refine StrIdxReq.mk i c rfl (by rw [← hc]; exact List.getElem?_toArray) ?_) | (refine ArReq.i64 (by dsimp only; omega) (by dsimp only; omega) ?_) | (refine go1 ?_;try(clear hL;intro w hL))); conv => whnf)
          exact rnd (i + 1, false) ⟨⟨by dsimp only; omega, by dsimp only; omega, by dsimp only; rw [hst, ← Bool.and_assoc, ← i3]; rfl⟩, hL⟩
        | true =>
          have hfin : ∀ v : Bool, v = isD c → v = (decide (s.length % 2 = 1) && ((s.take (i + 1)).drop 7).all isD) := fun v hv => by rw [hst, ← Bool.and_assoc, ← i3, hv]; rfl
          conv => whnf
          repeat ((first | (refine StrIdxReq.mk i c rfl (by rw [← hc]; exact List.getElem?_toArray) ?_) | (refine go1 ?_;try(clear hL;intro w hL))); conv => whnf)
          refine BrReq.dec (fun a1 => ?_) (fun a1 => ?_)
          · refine go ?_;try(clear hL;intro w hL)
            refine BrReq.dec (fun a2 => ?_) (fun a2 => ?_)
            · conv => whnf
              repeat ((first | (refine ArReq.i64 (by dsimp only; omega) (by dsimp only; omega) ?_) | (refine go1 ?_;try(clear hL;intro w hL))); conv => whnf)
              exact rnd (i + 1, true) ⟨⟨by dsimp only; omega, by dsimp only; omega, hfin _ (((isD_iff c).2 (by omega)).symm)⟩, hL⟩
            · refine go ?_;try(clear hL;intro w hL)
              refine BrReq.dec (fun a3 => ?_) (fun a3 => ?_)
              · conv => whnf
                repeat ((first | (refine ArReq.i64 (by dsimp only; omega) (by dsimp only; omega) ?_) | (refine go1 ?_;try(clear hL;intro w hL))); conv => whnf)
                exact rnd (i + 1, decide ((c.toNat : Int) ≤ 102)) ⟨⟨by dsimp only; omega, by dsimp only; omega, hfin _ (by rw [Bool.eq_iff_iff, decide_eq_true_iff, isD_iff]; omega)⟩, hL⟩
              · conv => whnf
                repeat ((first | (refine ArReq.i64 (by dsimp only; omega) (by dsimp only; omega) ?_) | (refine go1 ?_;try(clear hL;intro w hL))); conv => whnf)
                exact rnd (i + 1, false) ⟨⟨by dsimp only; omega, by dsimp only; omega, hfin _ ((Bool.eq_false_iff.2 fun h => by have := (isD_iff c).1 h; omega).symm)⟩, hL⟩
          · refine go ?_;try(clear hL;intro w hL)
            refine BrReq.dec (fun a3 => absurd a3 (by omega)) (fun a3 => ?_)
            conv => whnf
            repeat ((first | (refine ArReq.i64 (by dsimp only; omega) (by dsimp only; omega) ?_) | (refine go1 ?_;try(clear hL;intro w hL))); conv => whnf)
            exact rnd (i + 1, false) ⟨⟨by dsimp only; omega, by dsimp only; omega, hfin _ ((Bool.eq_false_iff.2 fun h => by have := (isD_iff c).1 h; omega).symm)⟩, hL⟩
      · rw [hsz] at hlt
        obtain rfl : i = s.length := by dsimp only at hlt; omega
        rw [← hkn] at i3
        cases kn with
        | false =>
          refine go ?_;try(clear hL;intro w hL)
          obtain ⟨rfl, rfl⟩ := q2 i3.symm
          conv => whnf
          repeat ((first | refine ueqB rfl rfl rfl (show (bs [] == (⟨#[]⟩ : ByteArray)) = true by decide) ?_ | (refine go1 ?_;try(clear hL;intro w hL))); conv => whnf)
          exact RetReq.mk hL rfl
        | true =>
          obtain ⟨rfl, ho⟩ := q1 i3.symm
          have hne : (!(bs o == (⟨#[]⟩ : ByteArray))) = true := by rw [show (bs o == (⟨#[]⟩ : ByteArray)) = false from beq_no (p := []) (ho.resolve_right h3)]; rfl
          conv => whnf
          repeat ((first | refine ueqN rfl rfl rfl hne ?_ | (refine go1 ?_;try(clear hL;intro w hL))); conv => whnf)
          exact RetReq.mk hL rfl
    · rw [decide_eq_false ht]
      refine go ?_;try(clear hL;intro w hL)
      obtain ⟨rfl, rfl⟩ := q2 (hno ht)
      conv => whnf
      repeat ((first | refine ueqB rfl rfl rfl (show (bs [] == (⟨#[]⟩ : ByteArray)) = true by decide) ?_ | (refine go1 ?_;try(clear hL;intro w hL))); conv => whnf)
      exact RetReq.mk hL rfl
  · rw [hsz] at h6
    refine go ?_;try(clear hL;intro w hL)
    obtain ⟨rfl, rfl⟩ := q2 (hno fun h => by have := congrArg List.length h; rw [List.length_take] at this; simp [wTok] at this; omega)
    conv => whnf
    repeat ((first | refine ueqB rfl rfl rfl (show (bs [] == (⟨#[]⟩ : ByteArray)) = true by decide) ?_ | (refine go1 ?_;try(clear hL;intro w hL))); conv => whnf)
    exact RetReq.mk hL rfl
end Go.Proofs.YtloofgoblodeiaaGreatDoor.tlr
