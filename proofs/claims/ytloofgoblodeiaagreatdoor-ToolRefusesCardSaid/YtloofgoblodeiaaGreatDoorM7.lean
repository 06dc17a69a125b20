/- ToolRefuses: part 7 of 10 of the proof. Conditions: none. -/
import Derived.Test.YtloofgoblodeiaaGreatDoorM6
import Derived.Test.YtloofgoblodeiaaGreatDoorM3
import Derived.Test.YtloofgoblodeiaaGreatDoorM2
import Derived.Test.YtloofgoblodeiaaGreatDoorM1
import Derived.DeepKeys4
namespace Go.Proofs.YtloofgoblodeiaaGreatDoor.am
open Go Go.Ev Go.Proofs Go.Proofs.YtloofgoblodeiaaGreatDoor.co
noncomputable section
def toI (kd : IntKind) (l : List Value) (k : List Int → Bool) : Bool :=
  List.rec (motive := fun _ => (List Int → Bool) → Bool) (fun k => k [])
    (fun v _ ih k => match v with
      | .int kd' n => match kEq kd' kd with | true => ih fun l => k (n :: l) | false => false
      | _ => false) l k
theorem toI_out {kd : IntKind} : ∀ {l : List Value} {k : List Int → Bool}, toI kd l k = true → ∃ xs, k xs = true ∧ l = ints kd xs
  | [], k, h => ⟨[], h, rfl⟩
  | v :: l, k, h => by
    have h : (match (generalizing := false) v with
      | .int kd' n => match kEq kd' kd with | true => toI kd l fun l => k (n :: l) | false => false
      | _ => false) = true := h
    split at h
    case h_2 => cases h
    rename_i kd' n _
    cases hb : kEq kd' kd with
    | false => rw [hb] at h; cases h
    | true =>
      rw [hb] at h
      obtain ⟨xs, h1, h2⟩ := toI_out h
      have e := kEq_eq hb
      subst e
      exact ⟨n :: xs, h1, by rw [h2]; rfl⟩
theorem ints_flat (kd : IntKind) : ∀ l : List Int, flatL (ints kd l) = true
  | [] => rfl
  | _ :: l => ints_flat kd l
theorem lend_ints {m0 : Mem} {S : List Nat} {w0 : World} {c : Cf} (h : Ok m0 S w0 c) {g n : Nat} {v' : Value} {ty sz st : Nat} {cells : List Value} {opn : Bool} {kd : IntKind} {xs : List Int} (hv : VR c.ι (.slice (some ⟨g, 0, none⟩) n 0) v') (hg : c.M.get (pth g) = some (.cs ty sz cells opn st))
    (hle : n ≤ cells.length) (hx : cells.take n = ints kd xs) : ∃ mm : Mem, SlI mm kd v' xs ∧ ∀ b o, mm b = some o → c.w.heap[b]? = some o := by
  obtain ⟨b, kb, hι, -, hdn, rfl⟩ := hv.slc_out rfl
  obtain ⟨pre, rest, p1, p2, p3, p4, p5⟩ := own_at h hι hg
  have hxl : xs.length = n := by have := congrArg List.length hx; rw [List.length_take, Nat.min_eq_left hle] at this; simpa [ints] using this.symm
  refine ⟨fun q => if q = b then some (.cells (toArr (pre ++ rest)) ty (0, 0)) else none, ⟨some ⟨b, 0, none⟩, n, kb, rfl, hxl.symm, by omega, p4, fun i x hi => ⟨_, [.int kd x], rfl, rfl, fun j v hj => ?_, rfl⟩⟩, fun q o hq => ?_⟩
  · have hj0 : j = 0 ∧ v = .int kd x := by cases j <;> simp_all
    obtain ⟨rfl, rfl⟩ := hj0
    have hil := (List.getElem?_eq_some_iff.1 hi).1
    rw [scale_eq, Nat.mul_one, addr_add, addr_add]
    unfold mcell
    simp only [if_pos, ocell, Nat.zero_add, Nat.add_zero]
    have hc : cells[i]? = some (.int kd x) := by
      have : (cells.take n)[i]? = some (.int kd x) := by rw [hx]; unfold ints; rw [List.getElem?_map, hi]; rfl
      rw [List.getElem?_take_of_lt (by omega)] at this
      exact this
    obtain ⟨u, h1, h2⟩ := p1.get hc
    rw [h2.int] at h1
    simp only [toArr, List.getElem?_toArray]
    rw [List.getElem?_append_left (List.getElem?_eq_some_iff.1 h1).1]
    exact h1
  · dsimp only at hq
    split at hq
    · rename_i e
      subst e
      injection hq with hq
      subst hq
      exact h.loc.own _ p5
    · cases hq
def cnt (x : Int) (l : List Int) : Nat := List.rec (motive := fun _ => Nat) 0 (fun y _ n => match iEq x y with | true => Nat.succ n | false => n) l
theorem cnt_eq (x : Int) : ∀ l : List Int, cnt x l = l.count x
  | [] => rfl
  | y :: l => by
    show (match iEq x y with | true => Nat.succ (cnt x l) | false => cnt x l) = _
    rw [List.count_cons, ← cnt_eq x l, iEq_eq]
    by_cases h : x = y
    · subst h; simp
    · have : ¬ y = x := fun hc => h hc.symm
      simp [h, this]
def better (l : List Int) (a b : Int) : Bool := match Nat.blt (cnt b l) (cnt a l) with
  | true => true
  | false => match Nat.beq (cnt b l) (cnt a l) with | true => !iLt b a | false => false
def best (l : List Int) (r : List Int) (a : Int) : Int := List.rec (motive := fun _ => Int → Int) (fun a => a) (fun b _ ih a => match better l a b with | true => ih a | false => ih b) r a
def sUsual : Sm := fun args nx M k => match args with
  | [.slice (some ⟨g, 0, none⟩) n 0] => match M.get (pth g) with
    | some (.cs _ _ cells _ _) => takeK n cells fun cells => toI .i64 cells fun l => match l with
      | [] => false
      | x :: r => fI (best (x :: r) r x) fun d => match isIn' d (x :: r) && (x :: r).all (better (x :: r) d) with
        | true => k (.int .i64 d) nx M
        | false => false
    | _ => false
  | _ => false
where isIn' (d : Int) (l : List Int) : Bool := l.any (iEq d)
theorem sUsual_ok {m0 : Mem} : SmOne m0 199 sUsual := by
  intro S w0 args args' c k K h hv ha hK
  unfold sUsual at ha
  split at ha
  case h_2 => cases ha
  rename_i g n
  match args', hv with
  | [x'], .cons hx .nil =>
  split at ha
  case h_2 => cases ha
  rename_i ty sz cells opn st hg
  obtain ⟨q1, q2⟩ := takeK_out ha
  obtain ⟨xs, q3, q4⟩ := toI_out q2
  cases xs with
  | nil => cases q3
  | cons x r =>
  dsimp only at q3
  rw [fI_eq] at q3
  generalize best (x :: r) r x = d at q3
  split at q3
  case h_2 => cases q3
  rename_i hc
  rw [Bool.and_eq_true] at hc
  have hus : mach.IsUsual (x :: r) d := by
    obtain ⟨y, hy1, hy2⟩ := List.any_eq_true.1 hc.1
    rw [iEq_eq, decide_eq_true_eq] at hy2
    subst hy2
    refine ⟨hy1, fun z hz => ?_⟩
    have hb := List.all_eq_true.1 hc.2 z hz
    unfold better at hb
    rw [cnt_eq, cnt_eq] at hb
    cases h1 : Nat.blt ((x :: r).count z) ((x :: r).count d) with
    | true => exact .inl (by simpa [Nat.blt_eq] using h1)
    | false =>
      rw [h1] at hb
      dsimp only at hb
      cases h2 : Nat.beq ((x :: r).count z) ((x :: r).count d) with
      | true =>
        rw [h2] at hb
        dsimp only at hb
        rw [iLt_eq, Bool.not_eq_true', decide_eq_false_iff_not] at hb
        exact .inr ⟨Nat.eq_of_beq_eq_true h2, by omega⟩
      | false => rw [h2] at hb; cases hb
  obtain ⟨mm, hS, hmm⟩ := lend_ints h hx hg q1 q4
  refine CallReq.lend (mach.usual_fn mm _ (x :: r) hS (Nat.succ_pos _)) hmm h.loc fun w' hL => ?_
  obtain ⟨k1, k2⟩ := h.world hL
  rw [mach.usR_eq hus]
  exact hK _ { c with w := w' } _ q3 k2 k1 (.same rfl)
def isByte (z : Int) : Bool := match z with | .ofNat n => Nat.blt n 256 | .negSucc _ => false
def sCRC : Sm := fun args nx M k => match args with
  | [.slice (some ⟨g, 0, none⟩) n 0] => match M.get (pth g) with
    | some (.cs _ _ cells _ _) => takeK n cells fun cells => toI .u8 cells fun l => match l.all isByte with
      | true => fN (crc.crcR l) fun s => k (.int .u32 (.ofNat s)) nx M
      | false => false
    | _ => false
  | _ => false
theorem sCRC_ok {m0 : Mem} : SmOne m0 51 sCRC := by
  intro S w0 args args' c k K h hv ha hK
  unfold sCRC at ha
  split at ha
  case h_2 => cases ha
  rename_i g n
  match args', hv with
  | [x'], .cons hx .nil =>
  split at ha
  case h_2 => cases ha
  rename_i ty sz cells opn st hg
  obtain ⟨q1, q2⟩ := takeK_out ha
  obtain ⟨xs, q3, q4⟩ := toI_out q2
  cases hb : xs.all isByte with
  | false => rw [hb] at q3; cases q3
  | true =>
  rw [hb] at q3
  dsimp only at q3
  rw [fN_eq] at q3
  obtain ⟨mm, hS, hmm⟩ := lend_ints h hx hg q1 q4
  refine CallReq.lend (crc.CRC_fn mm _ xs hS fun z hz => ?_) hmm h.loc fun w' hL => ?_
  · have := List.all_eq_true.1 hb z hz
    unfold isByte at this
    split at this
    · rename_i q
      have : q < 256 := by simpa [Nat.blt_eq] using this
      constructor
      · exact Int.natCast_nonneg q
      · show (q : Int) ≤ 255; omega
    · cases this
  obtain ⟨k1, k2⟩ := h.world hL
  exact hK _ { c with w := w' } _ q3 k2 k1 (.same rfl)
def smT : List (Nat × Sm) := (199, sUsual) :: (51, sCRC) :: smL
theorem smT_ok {m0 : Mem} (hT : fk.TabMem m0) : ∀ x ∈ smT, SmOne m0 x.1 x.2 := by
  intro x hx
  rcases List.mem_cons.1 hx with rfl | hx
  · exact sUsual_ok
  · rcases List.mem_cons.1 hx with rfl | hx
    · exact sCRC_ok
    · exact smL_ok hT x hx
end
end Go.Proofs.YtloofgoblodeiaaGreatDoor.am
namespace Go.Proofs.YtloofgoblodeiaaGreatDoor.am
open Go Go.Ev Go.Proofs Go.Proofs.YtloofgoblodeiaaGreatDoor.co
noncomputable section
def clV : List Value := List.replicate 97 (.int .u8 0) ++ .int .u8 1 :: (List.replicate 158 (.int .u8 0) ++ [.int .i64 2])
set_option maxRecDepth 100000 in
theorem first0 : run (smOf smT) 20 106 [.agg (toArr clV), .int .i64 0] 16 M00 (fun u _ _ => match flatV u with | true => vEq u (.int .u8 0) | false => false) = true := by kernel_rfl
set_option maxRecDepth 100000 in
theorem first1 : run (smOf smT) 20 106 [.agg (toArr clV), .int .i64 1] 16 M00 (fun u _ _ => match flatV u with | true => vEq u (.int .u8 97) | false => false) = true := by kernel_rfl
end
end Go.Proofs.YtloofgoblodeiaaGreatDoor.am
namespace Go.Proofs.YtloofgoblodeiaaGreatDoor.ar
open Go Go.Ev Go.Proofs
structure Nd where
  k : Int
  s0 : Int
  s1 : Int
  s2 : Int
  s3 : Int
  a : Int
  b : Int
  neg : Bool
  deriving DecidableEq
def ndC (x : Nd) : List Value := [.int .i64 x.k, .int .u64 x.s0, .int .u64 x.s1, .int .u64 x.s2, .int .u64 x.s3, .int .i64 x.a, .int .i64 x.b, .bool x.neg]
def i64 (z : Int) : Prop := -9223372036854775808 ≤ z ∧ z ≤ 9223372036854775807
def u64 (z : Int) : Prop := 0 ≤ z ∧ z ≤ 18446744073709551615
def rightN (x : Nd) (n : Nat) : Bool :=
  if x.k = 0 ∨ x.k = 1 then decide (⟨x.k, 0, 0, 0, 0, 0, 0, false⟩ = x)
  else if x.k = 2 then decide (⟨x.k, x.s0, x.s1, x.s2, x.s3, 0, 0, false⟩ = x)
  else if x.k = 3 ∨ x.k = 4 ∨ x.k = 5 then decide ((0 ≤ x.a ∧ x.a < n) ∧ (0 ≤ x.b ∧ x.b < n)) && decide (⟨x.k, 0, 0, 0, 0, x.a, x.b, false⟩ = x)
  else if x.k = 6 ∨ x.k = 7 then decide (0 ≤ x.a ∧ x.a < n) && decide (⟨x.k, 0, 0, 0, 0, x.a, 0, false⟩ = x)
  else if x.k = 8 then decide (0 ≤ x.a ∧ x.a < 4) && decide (⟨x.k, 0, 0, 0, 0, x.a, 0, x.neg⟩ = x)
  else false
def arO (sl : Value) (mb : Nat) : Obj := .cells (toArr [sl, .map (some mb)]) 301 (0, 0)
theorem there_fn (m : Mem) (b2 ab mb n c : Nat) (A : Option Addr) (id : Int) :
    FnL Tryz.prog 383 [.int .i64 id, .pointer (some ⟨b2, 0, none⟩)] m [(b2, .cells (toArr [.pointer (some ⟨ab, 0, none⟩)]) 111 (0, 0)), (ab, arO (.slice A n c) mb)] (.bool (decide (0 ≤ id ∧ id < n))) := by
  refine Fn.enter (N := 15) hX Tryz.func383 rfl rfl (by show _ ≤ _; simp) (fun w0 hL => ?_)
  conv => whnf
  generalize keys [(b2, Obj.cells (toArr [.pointer (some ⟨ab, 0, none⟩)]) 111 (0, 0)), (ab, arO (.slice A n c) mb)] = S0 at hL ⊢
  refine go ?_;try(clear hL;intro w hL)
  by_cases h0 : 0 ≤ id
  · conv => whnf
    repeat ((first | refine BrReq.yes (by omega) ?_ | (refine go1 ?_;try(clear hL;intro w hL))); conv => whnf)
    exact RetReq.mk hL ⟨rfl, rfl, congrArg Value.bool (decide_eq_decide.2 (by omega))⟩
  · conv => whnf
    repeat ((first | refine BrReq.no (by omega) ?_ | (refine go1 ?_;try(clear hL;intro w hL))); conv => whnf)
    exact RetReq.mk hL ⟨rfl, rfl, congrArg Value.bool (decide_eq_false (by omega)).symm⟩
theorem eq_nd (x y : Nd) : eqB X 9 304 (ndC x) (ndC y) = some (decide (x = y)) := by
  obtain ⟨k, s0, s1, s2, s3, a, b, neg⟩ := x
  obtain ⟨k', s0', s1', s2', s3', a', b', neg'⟩ := y
  conv => lhs; whnf
  refine congrArg some ?_
  rw [Bool.eq_iff_iff]
  simp only [Bool.and_eq_true, decide_eq_true_eq, Bool.and_true, beq_iff_eq, Nd.mk.injEq]
  constructor
  · rintro ⟨h1, ⟨h2, h3, h4, h5⟩, h6, h7, h8⟩; exact ⟨h1, h2, h3, h4, h5, h6, h7, h8⟩
  · rintro ⟨h1, h2, h3, h4, h5, h6, h7, h8⟩; exact ⟨h1, ⟨h2, h3, h4, h5⟩, h6, h7, h8⟩
set_option maxHeartbeats 2000000 in
theorem right_fn (m : Mem) (ab mb n c : Nat) (A : Option Addr) (x : Nd) :
    FnL Tryz.prog 354 [.pointer (some ⟨ab, 0, none⟩), .agg (toArr (ndC x))] m [(ab, arO (.slice A n c) mb)] (.bool (rightN x n)) := by
  obtain ⟨k, s0, s1, s2, s3, a, b, neg⟩ := x
  refine Fn.enter (N := 80) hX Tryz.func354 rfl rfl (by show _ ≤ _; simp) (fun w0 hL => ?_)
  conv => whnf
  generalize keys [(ab, arO (.slice A n c) mb)] = S0 at hL ⊢
  refine NewReq.mk hL ?_
  clear hL
  intro b2 w hL
  conv => whnf
  refine NewReq.mk hL ?_
  clear hL
  intro b3 w hL
  conv => whnf
  refine go ?_;try(clear hL;intro w hL)
  refine NewReq.mk hL ?_
  clear hL
  intro b6 w hL
  conv => whnf
  refine go ?_;try(clear hL;intro w hL)
  have hL := Loc.back (L1 := [_, _]) (L2 := [_, _]) hL
  by_cases k0 : k = 0
  · subst k0
    replace hL : Ev.Loc m S0 w0 m [(b2, .cells (toArr [.pointer (some ⟨ab, 0, none⟩)]) 111 (0, 0)), (ab, arO (.slice A n c) mb), (b6, .cells (toArr (ndC ⟨0, s0, s1, s2, s3, a, b, neg⟩)) 304 (0, 0)), (b3, .cells (toArr (ndC ⟨0, s0, s1, s2, s3, a, b, neg⟩)) 304 (0, 0))] w := hL
    conv => whnf
    repeat ((first | refine UGenReq.eqA hX (xs := ndC ⟨0, 0, 0, 0, 0, 0, 0, false⟩) (ys := ndC ⟨0, s0, s1, s2, s3, a, b, neg⟩) rfl rfl rfl Tryz.eqGuardType304 rfl rfl (eq_nd _ _) ?_ | (refine go1 ?_;try(clear hL;intro w hL))); conv => whnf)
    refine RetReq.mk (hL.sublist (.cons _ (.cons_cons _ (List.nil_sublist _)))) ⟨rfl, rfl, congrArg Value.bool ?_⟩
    rfl
  by_cases k1 : k = 1
  · subst k1
    replace hL : Ev.Loc m S0 w0 m [(b2, .cells (toArr [.pointer (some ⟨ab, 0, none⟩)]) 111 (0, 0)), (ab, arO (.slice A n c) mb), (b6, .cells (toArr (ndC ⟨1, s0, s1, s2, s3, a, b, neg⟩)) 304 (0, 0)), (b3, .cells (toArr (ndC ⟨1, s0, s1, s2, s3, a, b, neg⟩)) 304 (0, 0))] w := hL
    conv => whnf
    repeat ((first | refine UGenReq.eqA hX (xs := ndC ⟨1, 0, 0, 0, 0, 0, 0, false⟩) (ys := ndC ⟨1, s0, s1, s2, s3, a, b, neg⟩) rfl rfl rfl Tryz.eqGuardType304 rfl rfl (eq_nd _ _) ?_ | (refine go1 ?_;try(clear hL;intro w hL))); conv => whnf)
    refine RetReq.mk (hL.sublist (.cons _ (.cons_cons _ (List.nil_sublist _)))) ⟨rfl, rfl, congrArg Value.bool ?_⟩
    rfl
  by_cases k2 : k = 2
  · subst k2
    replace hL : Ev.Loc m S0 w0 m [(b2, .cells (toArr [.pointer (some ⟨ab, 0, none⟩)]) 111 (0, 0)), (ab, arO (.slice A n c) mb), (b6, .cells (toArr (ndC ⟨2, s0, s1, s2, s3, a, b, neg⟩)) 304 (0, 0)), (b3, .cells (toArr (ndC ⟨2, s0, s1, s2, s3, a, b, neg⟩)) 304 (0, 0))] w := hL
    conv => whnf
    repeat ((first | refine UGenReq.eqA hX (xs := ndC ⟨2, s0, s1, s2, s3, 0, 0, false⟩) (ys := ndC ⟨2, s0, s1, s2, s3, a, b, neg⟩) rfl rfl rfl Tryz.eqGuardType304 rfl rfl (eq_nd _ _) ?_ | (refine go1 ?_;try(clear hL;intro w hL))); conv => whnf)
    refine RetReq.mk (hL.sublist (.cons _ (.cons_cons _ (List.nil_sublist _)))) ⟨rfl, rfl, congrArg Value.bool ?_⟩
    rfl
  by_cases k3 : k = 3
  · subst k3
    replace hL : Ev.Loc m S0 w0 m [(b2, .cells (toArr [.pointer (some ⟨ab, 0, none⟩)]) 111 (0, 0)), (ab, arO (.slice A n c) mb), (b6, .cells (toArr (ndC ⟨3, s0, s1, s2, s3, a, b, neg⟩)) 304 (0, 0)), (b3, .cells (toArr (ndC ⟨3, s0, s1, s2, s3, a, b, neg⟩)) 304 (0, 0))] w := hL
    refine go ?_;try(clear hL;intro w hL)
    replace hL : Ev.Loc m S0 w0 m ([(b2, .cells (toArr [.pointer (some ⟨ab, 0, none⟩)]) 111 (0, 0)), (ab, arO (.slice A n c) mb)] ++ [(b6, .cells (toArr (ndC ⟨3, 0, 0, 0, 0, a, b, false⟩)) 304 (0, 0)), (b3, .cells (toArr (ndC ⟨3, s0, s1, s2, s3, a, b, neg⟩)) 304 (0, 0))]) w := hL
    refine CallReq.li (there_fn m b2 ab mb n c A a) hL ?_
    clear hL
    intro w hL
    replace hL : Ev.Loc m S0 w0 m [(b2, .cells (toArr [.pointer (some ⟨ab, 0, none⟩)]) 111 (0, 0)), (ab, arO (.slice A n c) mb), (b6, .cells (toArr (ndC ⟨3, 0, 0, 0, 0, a, b, false⟩)) 304 (0, 0)), (b3, .cells (toArr (ndC ⟨3, s0, s1, s2, s3, a, b, neg⟩)) 304 (0, 0))] w := hL
    by_cases ha : 0 ≤ a ∧ a < n
    · rw [decide_eq_true ha]
      refine go ?_;try(clear hL;intro w hL)
      replace hL : Ev.Loc m S0 w0 m ([(b2, .cells (toArr [.pointer (some ⟨ab, 0, none⟩)]) 111 (0, 0)), (ab, arO (.slice A n c) mb)] ++ [(b6, .cells (toArr (ndC ⟨3, 0, 0, 0, 0, a, b, false⟩)) 304 (0, 0)), (b3, .cells (toArr (ndC ⟨3, s0, s1, s2, s3, a, b, neg⟩)) 304 (0, 0))]) w := hL
      refine CallReq.li (there_fn m b2 ab mb n c A b) hL ?_
      clear hL
      intro w hL
      replace hL : Ev.Loc m S0 w0 m [(b2, .cells (toArr [.pointer (some ⟨ab, 0, none⟩)]) 111 (0, 0)), (ab, arO (.slice A n c) mb), (b6, .cells (toArr (ndC ⟨3, 0, 0, 0, 0, a, b, false⟩)) 304 (0, 0)), (b3, .cells (toArr (ndC ⟨3, s0, s1, s2, s3, a, b, neg⟩)) 304 (0, 0))] w := hL
      by_cases hb : 0 ≤ b ∧ b < n
      · rw [decide_eq_true hb]
        conv => whnf
        repeat ((first | refine UGenReq.eqA hX (xs := ndC ⟨3, 0, 0, 0, 0, a, b, false⟩) (ys := ndC ⟨3, s0, s1, s2, s3, a, b, neg⟩) rfl rfl rfl Tryz.eqGuardType304 rfl rfl (eq_nd _ _) ?_ | (refine go1 ?_;try(clear hL;intro w hL))); conv => whnf)
        refine RetReq.mk (hL.sublist (.cons _ (.cons_cons _ (List.nil_sublist _)))) ⟨rfl, rfl, congrArg Value.bool ?_⟩
        show _ = (decide ((0 ≤ a ∧ a < n) ∧ (0 ≤ b ∧ b < n)) && _)
        rw [decide_eq_true (show (0 ≤ a ∧ a < n) ∧ (0 ≤ b ∧ b < n) from ⟨ha, hb⟩)]; rfl
      · rw [decide_eq_false hb]
        refine go ?_;try(clear hL;intro w hL)
        refine RetReq.mk (hL.sublist (.cons _ (.cons_cons _ (List.nil_sublist _)))) ⟨rfl, rfl, congrArg Value.bool ?_⟩
        show _ = (decide ((0 ≤ a ∧ a < n) ∧ (0 ≤ b ∧ b < n)) && _)
        rw [decide_eq_false (fun h : (0 ≤ a ∧ a < n) ∧ (0 ≤ b ∧ b < n) => hb h.2)]; rfl
    · rw [decide_eq_false ha]
      refine go ?_;try(clear hL;intro w hL)
      refine RetReq.mk (hL.sublist (.cons _ (.cons_cons _ (List.nil_sublist _)))) ⟨rfl, rfl, congrArg Value.bool ?_⟩
      show _ = (decide ((0 ≤ a ∧ a < n) ∧ (0 ≤ b ∧ b < n)) && _)
      rw [decide_eq_false (fun h : (0 ≤ a ∧ a < n) ∧ (0 ≤ b ∧ b < n) => ha h.1)]; rfl
  by_cases k4 : k = 4
  · subst k4
    replace hL : Ev.Loc m S0 w0 m [(b2, .cells (toArr [.pointer (some ⟨ab, 0, none⟩)]) 111 (0, 0)), (ab, arO (.slice A n c) mb), (b6, .cells (toArr (ndC ⟨4, s0, s1, s2, s3, a, b, neg⟩)) 304 (0, 0)), (b3, .cells (toArr (ndC ⟨4, s0, s1, s2, s3, a, b, neg⟩)) 304 (0, 0))] w := hL
    refine go ?_;try(clear hL;intro w hL)
    replace hL : Ev.Loc m S0 w0 m ([(b2, .cells (toArr [.pointer (some ⟨ab, 0, none⟩)]) 111 (0, 0)), (ab, arO (.slice A n c) mb)] ++ [(b6, .cells (toArr (ndC ⟨4, 0, 0, 0, 0, a, b, false⟩)) 304 (0, 0)), (b3, .cells (toArr (ndC ⟨4, s0, s1, s2, s3, a, b, neg⟩)) 304 (0, 0))]) w := hL
    refine CallReq.li (there_fn m b2 ab mb n c A a) hL ?_
    clear hL
    intro w hL
    replace hL : Ev.Loc m S0 w0 m [(b2, .cells (toArr [.pointer (some ⟨ab, 0, none⟩)]) 111 (0, 0)), (ab, arO (.slice A n c) mb), (b6, .cells (toArr (ndC ⟨4, 0, 0, 0, 0, a, b, false⟩)) 304 (0, 0)), (b3, .cells (toArr (ndC ⟨4, s0, s1, s2, s3, a, b, neg⟩)) 304 (0, 0))] w := hL
    by_cases ha : 0 ≤ a ∧ a < n
    · rw [decide_eq_true ha]
      refine go ?_;try(clear hL;intro w hL)
      replace hL : Ev.Loc m S0 w0 m ([(b2, .cells (toArr [.pointer (some ⟨ab, 0, none⟩)]) 111 (0, 0)), (ab, arO (.slice A n c) mb)] ++ [(b6, .cells (toArr (ndC ⟨4, 0, 0, 0, 0, a, b, false⟩)) 304 (0, 0)), (b3, .cells (toArr (ndC ⟨4, s0, s1, s2, s3, a, b, neg⟩)) 304 (0, 0))]) w := hL
      refine CallReq.li (there_fn m b2 ab mb n c A b) hL ?_
      clear hL
      intro w hL
      replace hL : Ev.Loc m S0 w0 m [(b2, .cells (toArr [.pointer (some ⟨ab, 0, none⟩)]) 111 (0, 0)), (ab, arO (.slice A n c) mb), (b6, .cells (toArr (ndC ⟨4, 0, 0, 0, 0, a, b, false⟩)) 304 (0, 0)), (b3, .cells (toArr (ndC ⟨4, s0, s1, s2, s3, a, b, neg⟩)) 304 (0, 0))] w := hL
      by_cases hb : 0 ≤ b ∧ b < n
      · rw [decide_eq_true hb]
        conv => whnf
        repeat ((first | refine UGenReq.eqA hX (xs := ndC ⟨4, 0, 0, 0, 0, a, b, false⟩) (ys := ndC ⟨4, s0, s1, s2, s3, a, b, neg⟩) rfl rfl rfl Tryz.eqGuardType304 rfl rfl (eq_nd _ _) ?_ | (refine go1 ?_;try(clear hL;intro w hL))); conv => whnf)
        refine RetReq.mk (hL.sublist (.cons _ (.cons_cons _ (List.nil_sublist _)))) ⟨rfl, rfl, congrArg Value.bool ?_⟩
        show _ = (decide ((0 ≤ a ∧ a < n) ∧ (0 ≤ b ∧ b < n)) && _)
        rw [decide_eq_true (show (0 ≤ a ∧ a < n) ∧ (0 ≤ b ∧ b < n) from ⟨ha, hb⟩)]; rfl
      · rw [decide_eq_false hb]
        refine go ?_;try(clear hL;intro w hL)
        refine RetReq.mk (hL.sublist (.cons _ (.cons_cons _ (List.nil_sublist _)))) ⟨rfl, rfl, congrArg Value.bool ?_⟩
        show _ = (decide ((0 ≤ a ∧ a < n) ∧ (0 ≤ b ∧ b < n)) && _)
        rw [decide_eq_false (fun h : (0 ≤ a ∧ a < n) ∧ (0 ≤ b ∧ b < n) => hb h.2)]; rfl
    · rw [decide_eq_false ha]
      refine go ?_;try(clear hL;intro w hL)
      refine RetReq.mk (hL.sublist (.cons _ (.cons_cons _ (List.nil_sublist _)))) ⟨rfl, rfl, congrArg Value.bool ?_⟩
      show _ = (decide ((0 ≤ a ∧ a < n) ∧ (0 ≤ b ∧ b < n)) && _)
      rw [decide_eq_false (fun h : (0 ≤ a ∧ a < n) ∧ (0 ≤ b ∧ b < n) => ha h.1)]; rfl
  by_cases k5 : k = 5
  · subst k5
    replace hL : Ev.Loc m S0 w0 m [(b2, .cells (toArr [.pointer (some ⟨ab, 0, none⟩)]) 111 (0, 0)), (ab, arO (.slice A n c) mb), (b6, .cells (toArr (ndC ⟨5, s0, s1, s2, s3, a, b, neg⟩)) 304 (0, 0)), (b3, .cells (toArr (ndC ⟨5, s0, s1, s2, s3, a, b, neg⟩)) 304 (0, 0))] w := hL
    refine go ?_;try(clear hL;intro w hL)
    replace hL : Ev.Loc m S0 w0 m ([(b2, .cells (toArr [.pointer (some ⟨ab, 0, none⟩)]) 111 (0, 0)), (ab, arO (.slice A n c) mb)] ++ [(b6, .cells (toArr (ndC ⟨5, 0, 0, 0, 0, a, b, false⟩)) 304 (0, 0)), (b3, .cells (toArr (ndC ⟨5, s0, s1, s2, s3, a, b, neg⟩)) 304 (0, 0))]) w := hL
    refine CallReq.li (there_fn m b2 ab mb n c A a) hL ?_
    clear hL
    intro w hL
    replace hL : Ev.Loc m S0 w0 m [(b2, .cells (toArr [.pointer (some ⟨ab, 0, none⟩)]) 111 (0, 0)), (ab, arO (.slice A n c) mb), (b6, .cells (toArr (ndC ⟨5, 0, 0, 0, 0, a, b, false⟩)) 304 (0, 0)), (b3, .cells (toArr (ndC ⟨5, s0, s1, s2, s3, a, b, neg⟩)) 304 (0, 0))] w := hL
    by_cases ha : 0 ≤ a ∧ a < n
    · rw [decide_eq_true ha]
      refine go ?_;try(clear hL;intro w hL)
      replace hL : Ev.Loc m S0 w0 m ([(b2, .cells (toArr [.pointer (some ⟨ab, 0, none⟩)]) 111 (0, 0)), (ab, arO (.slice A n c) mb)] ++ [(b6, .cells (toArr (ndC ⟨5, 0, 0, 0, 0, a, b, false⟩)) 304 (0, 0)), (b3, .cells (toArr (ndC ⟨5, s0, s1, s2, s3, a, b, neg⟩)) 304 (0, 0))]) w := hL
      refine CallReq.li (there_fn m b2 ab mb n c A b) hL ?_
      clear hL
      intro w hL
      replace hL : Ev.Loc m S0 w0 m [(b2, .cells (toArr [.pointer (some ⟨ab, 0, none⟩)]) 111 (0, 0)), (ab, arO (.slice A n c) mb), (b6, .cells (toArr (ndC ⟨5, 0, 0, 0, 0, a, b, false⟩)) 304 (0, 0)), (b3, .cells (toArr (ndC ⟨5, s0, s1, s2, s3, a, b, neg⟩)) 304 (0, 0))] w := hL
      by_cases hb : 0 ≤ b ∧ b < n
      · rw [decide_eq_true hb]
        conv => whnf
        repeat ((first | refine UGenReq.eqA hX (xs := ndC ⟨5, 0, 0, 0, 0, a, b, false⟩) (ys := ndC ⟨5, s0, s1, s2, s3, a, b, neg⟩) rfl rfl rfl Tryz.eqGuardType304 rfl rfl (eq_nd _ _) ?_ | (refine go1 ?_;try(clear hL;intro w hL))); conv => whnf)
        refine RetReq.mk (hL.sublist (.cons _ (.cons_cons _ (List.nil_sublist _)))) ⟨rfl, rfl, congrArg Value.bool ?_⟩
        show _ = (decide ((0 ≤ a ∧ a < n) ∧ (0 ≤ b ∧ b < n)) && _)
        rw [decide_eq_true (show (0 ≤ a ∧ a < n) ∧ (0 ≤ b ∧ b < n) from ⟨ha, hb⟩)]; rfl
      · rw [decide_eq_false hb]
        refine go ?_;try(clear hL;intro w hL)
        refine RetReq.mk (hL.sublist (.cons _ (.cons_cons _ (List.nil_sublist _)))) ⟨rfl, rfl, congrArg Value.bool ?_⟩
        show _ = (decide ((0 ≤ a ∧ a < n) ∧ (0 ≤ b ∧ b < n)) && _)
        rw [decide_eq_false (fun h : (0 ≤ a ∧ a < n) ∧ (0 ≤ b ∧ b < n) => hb h.2)]; rfl
    · rw [decide_eq_false ha]
      refine go ?_;try(clear hL;intro w hL)
      refine RetReq.mk (hL.sublist (.cons _ (.cons_cons _ (List.nil_sublist _)))) ⟨rfl, rfl, congrArg Value.bool ?_⟩
      show _ = (decide ((0 ≤ a ∧ a < n) ∧ (0 ≤ b ∧ b < n)) && _)
      rw [decide_eq_false (fun h : (0 ≤ a ∧ a < n) ∧ (0 ≤ b ∧ b < n) => ha h.1)]; rfl
  by_cases k6 : k = 6
  · subst k6
    replace hL : Ev.Loc m S0 w0 m [(b2, .cells (toArr [.pointer (some ⟨ab, 0, none⟩)]) 111 (0, 0)), (ab, arO (.slice A n c) mb), (b6, .cells (toArr (ndC ⟨6, s0, s1, s2, s3, a, b, neg⟩)) 304 (0, 0)), (b3, .cells (toArr (ndC ⟨6, s0, s1, s2, s3, a, b, neg⟩)) 304 (0, 0))] w := hL
    refine go ?_;try(clear hL;intro w hL)
    replace hL : Ev.Loc m S0 w0 m ([(b2, .cells (toArr [.pointer (some ⟨ab, 0, none⟩)]) 111 (0, 0)), (ab, arO (.slice A n c) mb)] ++ [(b6, .cells (toArr (ndC ⟨6, 0, 0, 0, 0, a, 0, false⟩)) 304 (0, 0)), (b3, .cells (toArr (ndC ⟨6, s0, s1, s2, s3, a, b, neg⟩)) 304 (0, 0))]) w := hL
    refine CallReq.li (there_fn m b2 ab mb n c A a) hL ?_
    clear hL
    intro w hL
    replace hL : Ev.Loc m S0 w0 m [(b2, .cells (toArr [.pointer (some ⟨ab, 0, none⟩)]) 111 (0, 0)), (ab, arO (.slice A n c) mb), (b6, .cells (toArr (ndC ⟨6, 0, 0, 0, 0, a, 0, false⟩)) 304 (0, 0)), (b3, .cells (toArr (ndC ⟨6, s0, s1, s2, s3, a, b, neg⟩)) 304 (0, 0))] w := hL
    by_cases ha : 0 ≤ a ∧ a < n
    · rw [decide_eq_true ha]
      conv => whnf
      repeat ((first | refine UGenReq.eqA hX (xs := ndC ⟨6, 0, 0, 0, 0, a, 0, false⟩) (ys := ndC ⟨6, s0, s1, s2, s3, a, b, neg⟩) rfl rfl rfl Tryz.eqGuardType304 rfl rfl (eq_nd _ _) ?_ | (refine go1 ?_;try(clear hL;intro w hL))); conv => whnf)
      refine RetReq.mk (hL.sublist (.cons _ (.cons_cons _ (List.nil_sublist _)))) ⟨rfl, rfl, congrArg Value.bool ?_⟩
      show _ = (decide (0 ≤ a ∧ a < n) && _)
      rw [decide_eq_true ha]; rfl
    · rw [decide_eq_false ha]
      refine go ?_;try(clear hL;intro w hL)
      refine RetReq.mk (hL.sublist (.cons _ (.cons_cons _ (List.nil_sublist _)))) ⟨rfl, rfl, congrArg Value.bool ?_⟩
      show _ = (decide (0 ≤ a ∧ a < n) && _)
      rw [decide_eq_false ha]; rfl
  by_cases k7 : k = 7
  · subst k7
    replace hL : Ev.Loc m S0 w0 m [(b2, .cells (toArr [.pointer (some ⟨ab, 0, none⟩)]) 111 (0, 0)), (ab, arO (.slice A n c) mb), (b6, .cells (toArr (ndC ⟨7, s0, s1, s2, s3, a, b, neg⟩)) 304 (0, 0)), (b3, .cells (toArr (ndC ⟨7, s0, s1, s2, s3, a, b, neg⟩)) 304 (0, 0))] w := hL
    refine go ?_;try(clear hL;intro w hL)
    replace hL : Ev.Loc m S0 w0 m ([(b2, .cells (toArr [.pointer (some ⟨ab, 0, none⟩)]) 111 (0, 0)), (ab, arO (.slice A n c) mb)] ++ [(b6, .cells (toArr (ndC ⟨7, 0, 0, 0, 0, a, 0, false⟩)) 304 (0, 0)), (b3, .cells (toArr (ndC ⟨7, s0, s1, s2, s3, a, b, neg⟩)) 304 (0, 0))]) w := hL
    refine CallReq.li (there_fn m b2 ab mb n c A a) hL ?_
    clear hL
    intro w hL
    replace hL : Ev.Loc m S0 w0 m [(b2, .cells (toArr [.pointer (some ⟨ab, 0, none⟩)]) 111 (0, 0)), (ab, arO (.slice A n c) mb), (b6, .cells (toArr (ndC ⟨7, 0, 0, 0, 0, a, 0, false⟩)) 304 (0, 0)), (b3, .cells (toArr (ndC ⟨7, s0, s1, s2, s3, a, b, neg⟩)) 304 (0, 0))] w := hL
    by_cases ha : 0 ≤ a ∧ a < n
    · rw [decide_eq_true ha]
      conv => whnf
      repeat ((first | refine UGenReq.eqA hX (xs := ndC ⟨7, 0, 0, 0, 0, a, 0, false⟩) (ys := ndC ⟨7, s0, s1, s2, s3, a, b, neg⟩) rfl rfl rfl Tryz.eqGuardType304 rfl rfl (eq_nd _ _) ?_ | (refine go1 ?_;try(clear hL;intro w hL))); conv => whnf)
      refine RetReq.mk (hL.sublist (.cons _ (.cons_cons _ (List.nil_sublist _)))) ⟨rfl, rfl, congrArg Value.bool ?_⟩
      show _ = (decide (0 ≤ a ∧ a < n) && _)
      rw [decide_eq_true ha]; rfl
    · rw [decide_eq_false ha]
      refine go ?_;try(clear hL;intro w hL)
      refine RetReq.mk (hL.sublist (.cons _ (.cons_cons _ (List.nil_sublist _)))) ⟨rfl, rfl, congrArg Value.bool ?_⟩
      show _ = (decide (0 ≤ a ∧ a < n) && _)
      rw [decide_eq_false ha]; rfl
  by_cases k8 : k = 8
  · subst k8
    replace hL : Ev.Loc m S0 w0 m [(b2, .cells (toArr [.pointer (some ⟨ab, 0, none⟩)]) 111 (0, 0)), (ab, arO (.slice A n c) mb), (b6, .cells (toArr (ndC ⟨8, s0, s1, s2, s3, a, b, neg⟩)) 304 (0, 0)), (b3, .cells (toArr (ndC ⟨8, s0, s1, s2, s3, a, b, neg⟩)) 304 (0, 0))] w := hL
    refine go ?_;try(clear hL;intro w hL)
    by_cases ha : 0 ≤ a
    · by_cases ha4 : a < 4
      · conv => whnf
        repeat ((first | (refine BrReq.no (by simp only; omega) ?_) | (refine go1 ?_;try(clear hL;intro w hL))); conv => whnf)
        conv => whnf
        repeat ((first | refine UGenReq.eqA hX (xs := ndC ⟨8, 0, 0, 0, 0, a, 0, neg⟩) (ys := ndC ⟨8, s0, s1, s2, s3, a, b, neg⟩) rfl rfl rfl Tryz.eqGuardType304 rfl rfl (eq_nd _ _) ?_ | (refine go1 ?_;try(clear hL;intro w hL))); conv => whnf)
        refine RetReq.mk (hL.sublist (.cons _ (.cons_cons _ (List.nil_sublist _)))) ⟨rfl, rfl, congrArg Value.bool ?_⟩
        show _ = (decide (0 ≤ a ∧ a < 4) && _)
        rw [decide_eq_true (show 0 ≤ a ∧ a < 4 from ⟨ha, ha4⟩)]; rfl
      · conv => whnf
        repeat ((first | (refine BrReq.no (by simp only; omega) ?_) | (refine go1 ?_;try(clear hL;intro w hL))); conv => whnf)
        refine BrReq.yes (by simp only; omega) ?_
        refine go ?_;try(clear hL;intro w hL)
        refine RetReq.mk (hL.sublist (.cons _ (.cons_cons _ (List.nil_sublist _)))) ⟨rfl, rfl, congrArg Value.bool ?_⟩
        show _ = (decide (0 ≤ a ∧ a < 4) && _)
        rw [decide_eq_false (fun h : 0 ≤ a ∧ a < 4 => ha4 h.2)]; rfl
    · conv => whnf
      repeat ((first | (refine BrReq.yes (by simp only; omega) ?_) | (refine go1 ?_;try(clear hL;intro w hL))); conv => whnf)
      refine RetReq.mk (hL.sublist (.cons _ (.cons_cons _ (List.nil_sublist _)))) ⟨rfl, rfl, congrArg Value.bool ?_⟩
      show _ = (decide (0 ≤ a ∧ a < 4) && _)
      rw [decide_eq_false (fun h : 0 ≤ a ∧ a < 4 => ha h.1)]; rfl
  replace hL : Ev.Loc m S0 w0 m [(b2, .cells (toArr [.pointer (some ⟨ab, 0, none⟩)]) 111 (0, 0)), (ab, arO (.slice A n c) mb), (b6, .cells (toArr (ndC ⟨k, s0, s1, s2, s3, a, b, neg⟩)) 304 (0, 0)), (b3, .cells (toArr (ndC ⟨k, s0, s1, s2, s3, a, b, neg⟩)) 304 (0, 0))] w := hL
  conv => whnf
  repeat ((first | refine BrReq.no (by omega) ?_ | (refine go1 ?_;try(clear hL;intro w hL))); conv => whnf)
  refine RetReq.mk (hL.sublist (.cons _ (.cons_cons _ (List.nil_sublist _)))) ⟨rfl, rfl, congrArg Value.bool ?_⟩
  unfold rightN
  rw [if_neg (show ¬ (k = 0 ∨ k = 1) by omega), if_neg (show ¬ k = 2 from k2), if_neg (show ¬ (k = 3 ∨ k = 4 ∨ k = 5) by omega), if_neg (show ¬ (k = 6 ∨ k = 7) by omega), if_neg (show ¬ k = 8 from k8)]
end Go.Proofs.YtloofgoblodeiaaGreatDoor.ar
namespace Go.Proofs.YtloofgoblodeiaaGreatDoor.ar
open Go Go.Ev Go.Proofs
open Go.Maps (Keyed)
theorem key_nd : Keyed Tryz.prog 304 := Keyed.of_law (deep_law_laid (m := 4) (by kernel_rfl) (by omega) (of_decide_eq_true (by kernel_rfl)) (by kernel_rfl) (by rw [Tryz.underlying304]))
theorem key_int : Keyed Tryz.prog 3 := Go.Maps.int_keyed Tryz.underlying3
theorem lit_b (d : Nat) (b : Bool) : Tryz.prog.keyLits (d + 1) 4 [.bool b] = some [.bool b] := by
  unfold Program.keyLits
  simp only [Tryz.underlying4]
end Go.Proofs.YtloofgoblodeiaaGreatDoor.ar
namespace Go.Proofs.YtloofgoblodeiaaGreatDoor.tabs
open Go Go.Ev Go.Proofs
theorem tdiv_nat (a k : Nat) : (a : Int).tdiv (k : Int) = ((a / k : Nat) : Int) := by
  rw [Int.tdiv_eq_ediv_of_nonneg (by omega)]; rfl
theorem tmod_nat (a k : Nat) : (a : Int).tmod (k : Int) = ((a % k : Nat) : Int) := by
  rw [Int.tmod_eq_emod_of_nonneg (by omega)]; rfl
theorem DivReq.i64 {a k : Nat} {b : Int} {K : Int → Prop} (hb : b = (k : Int)) (hk : 0 < k) (ha : a ≤ 9223372036854775807) (h : K ((a / k : Nat) : Int)) : DivReq .i64 a b K := by
  subst hb
  have := Nat.div_le_self a k
  exact DivReq.mk (by omega) (by rw [tdiv_nat]; generalize a / k = q at this; exact wrap_keep .i64 (by show -9223372036854775808 ≤ _; omega) (by show _ ≤ (9223372036854775807 : Int); omega)) h
theorem DivReq.u64 {a k : Nat} {b : Int} {K : Int → Prop} (hb : b = (k : Int)) (hk : 0 < k) (ha : a ≤ 18446744073709551615) (h : K ((a / k : Nat) : Int)) : DivReq .u64 a b K := by
  subst hb
  have := Nat.div_le_self a k
  exact DivReq.mk (by omega) (by rw [tdiv_nat]; generalize a / k = q at this; exact wrap_keep .u64 (by show 0 ≤ _; omega) (by show _ ≤ (18446744073709551615 : Int); omega)) h
theorem RemReq.nat {a k : Nat} {b : Int} {K : Int → Prop} (hb : b = (k : Int)) (hk : 0 < k) (h : K ((a % k : Nat) : Int)) : RemReq a b K := by
  subst hb
  exact RemReq.mk (by omega) (tmod_nat a k) h
def selR (s0 s1 s2 s3 : Int) (q : Nat) : Int := if q = 0 then s0 else if q = 1 then s1 else if q = 2 then s2 else s3
def hasR (s0 s1 s2 s3 : Int) (b : Nat) : Bool := decide ((selR s0 s1 s2 s3 (b / 64)).toNat / 2 ^ (b % 64) % 2 = 1)
end Go.Proofs.YtloofgoblodeiaaGreatDoor.tabs
namespace Go.Proofs.YtloofgoblodeiaaGreatDoor.tabs
open Go Go.Ev Go.Proofs
theorem ofInt_nat {n : Nat} (a : Nat) : BitVec.ofInt n (a : Int) = BitVec.ofNat n a := by
  apply BitVec.eq_of_toNat_eq
  rw [BitVec.toNat_ofInt, BitVec.toNat_ofNat]
  omega
theorem wrap_nat {k : IntKind} {a : Nat} (h0 : k.min ≤ 0) (h : (a : Int) ≤ k.max) : k.wrap (a : Int) = (a : Int) := wrap_keep k (by omega) h
theorem and1_u64 {a : Nat} (ha : a ≤ 18446744073709551615) : bitsOf .and .u64 (a : Int) 1 = ((a % 2 : Nat) : Int) := by
  have h : (BitVec.ofInt 64 (a : Int) &&& BitVec.ofInt 64 ((1 : Nat) : Int)).toNat = a % 2 := by
    rw [ofInt_nat, ofInt_nat, BitVec.toNat_and, BitVec.toNat_ofNat, BitVec.toNat_ofNat, Nat.mod_eq_of_lt (by omega), Nat.mod_eq_of_lt (by omega), Nat.and_one_is_mod]
  show IntKind.wrap .u64 ((BitVec.ofInt 64 (a : Int) &&& BitVec.ofInt 64 ((1 : Nat) : Int)).toNat : Int) = _
  rw [h]
  exact wrap_nat (by decide) (by show _ ≤ (18446744073709551615 : Int); omega)
def in64 (s : Int) : Prop := 0 ≤ s ∧ s ≤ 18446744073709551615
def setV (s0 s1 s2 s3 : Int) : Value := .agg (toArr [.int .u64 s0, .int .u64 s1, .int .u64 s2, .int .u64 s3])
theorem setHas_fn (m : Mem) (s0 s1 s2 s3 : Int) (h0 : in64 s0) (h1 : in64 s1) (h2 : in64 s2) (h3 : in64 s3) (b : Nat) (hb : b < 256) :
    FnV Tryz.prog 254 [.agg (toArr [.int .u64 s0, .int .u64 s1, .int .u64 s2, .int .u64 s3]), .int .u8 b] m (.bool (hasR s0 s1 s2 s3 b)) := by
  unfold in64 at h0 h1 h2 h3
  obtain ⟨x, hx, hxm⟩ : ∃ x : Nat, selR s0 s1 s2 s3 (b / 64) = x ∧ x ≤ 18446744073709551615 := by
    refine ⟨(selR s0 s1 s2 s3 (b / 64)).toNat, ?_, ?_⟩ <;> unfold selR <;> split <;> (try split) <;> (try split) <;> omega
  have hsel : Ev.look [Value.int .u64 s0, .int .u64 s1, .int .u64 s2, .int .u64 s3] (b / 64) = some (.int .u64 x) := by
    rw [← hx]
    have : b / 64 = 0 ∨ b / 64 = 1 ∨ b / 64 = 2 ∨ b / 64 = 3 := by omega
    rcases this with e | e | e | e <;> rw [e] <;> rfl
  have hsx : x >>> (b % 64) ≤ x := by rw [Nat.shiftRight_eq_div_pow]; exact Nat.div_le_self _ _
  refine Fn.enter (N := 14) hX Tryz.func254 rfl rfl (by show _ ≤ _; simp) (fun w0 hL => ?_)
  conv => whnf
  refine NewReq.mk hL ?_
  clear hL
  intro b2 w hL
  conv => whnf
  refine go ?_;try(clear hL;intro w hL)
  refine DivReq.mk (n := ((b / 64 : Nat) : Int)) (by decide) (by rw [show ((64 : Int)) = ((64 : Nat) : Int) from rfl, tdiv_nat]; exact wrap_nat (by decide) (by show _ ≤ (255 : Int); omega)) ?_
  conv => whnf
  repeat ((first | refine IdxReq.mk (b / 64) rfl (by omega) ?_ | (refine LdReq.ownAt hX rfl rfl 0 hL rfl (v := .int .u64 x) (by rw [← look_eq, scale_eq, Nat.zero_add, Nat.mul_one]; exact hsel) ?_) | (refine go1 ?_;try(clear hL;intro w hL))); conv => whnf)
  refine RemReq.nat (k := 64) rfl (by omega) ?_
  refine go ?_;try(clear hL;intro w hL)
  refine ShrReq.mk (n := ((x >>> (b % 64) : Nat) : Int)) (by omega) (by
    rw [show min (Int.toNat ((b % 64 : Nat) : Int)) (IntKind.bits .u64) = b % 64 from by show min (Int.toNat ((b % 64 : Nat) : Int)) 64 = b % 64; omega]
    rw [Int.fdiv_eq_ediv_of_nonneg _ (Int.le_of_lt (Int.pow_pos (by decide))), Nat.shiftRight_eq_div_pow]
    norm_cast) ?_
  refine go ?_;try(clear hL;intro w hL)
  refine BitReq.mk (and1_u64 (by omega)) ?_
  refine go ?_;try(clear hL;intro w hL)
  refine RetReq.bool (hL.sublist (List.nil_sublist _)) ?_
  unfold hasR
  rw [hx]
  refine decide_eq_decide.2 ?_
  rw [Int.toNat_natCast, Nat.shiftRight_eq_div_pow]
  omega
def stepR (acc : List (Nat × Nat)) (b : Nat) : List (Nat × Nat) := match acc.getLast? with
  | some x => if x.2 + 1 = b then acc.set (acc.length - 1) (x.1, b) else acc ++ [(b, b)]
  | none => [(b, b)]
theorem stepR_mem {acc : List (Nat × Nat)} {b : Nat} {x : Nat × Nat} (h : x ∈ stepR acc b) : x ∈ acc ∨ x = (b, b) ∨ ∃ y ∈ acc, x = (y.1, b) := by
  unfold stepR at h
  split at h
  · rename_i y hy
    have hym := List.mem_of_getLast? hy
    split at h
    · rcases List.mem_or_eq_of_mem_set h with h | rfl
      · exact .inl h
      · exact .inr (.inr ⟨y, hym, rfl⟩)
    · rcases List.mem_append.1 h with h | h
      · exact .inl h
      · exact .inr (.inl (by simpa using h))
  · exact .inr (.inl (by simpa using h))
theorem fold_lt {M : Nat} : ∀ (l : List Nat) (acc : List (Nat × Nat)), (∀ b ∈ l, b < M) → (∀ x ∈ acc, x.1 < M ∧ x.2 < M) → ∀ x ∈ l.foldl stepR acc, x.1 < M ∧ x.2 < M
  | [], acc, _, h, x, hx => h x hx
  | b :: l, acc, hb, h, x, hx => fold_lt l (stepR acc b) (fun y hy => hb y (List.mem_cons_of_mem _ hy)) (fun y hy => by
      have hb0 := hb b List.mem_cons_self
      rcases stepR_mem hy with h1 | rfl | ⟨z, hz, rfl⟩
      · exact h y h1
      · exact ⟨hb0, hb0⟩
      · exact ⟨(h z hz).1, hb0⟩) x hx
end Go.Proofs.YtloofgoblodeiaaGreatDoor.tabs
namespace Go.Proofs.YtloofgoblodeiaaGreatDoor.am
open Go Go.Ev Go.Proofs Go.Proofs.YtloofgoblodeiaaGreatDoor.ar
open Go.Maps (Keyed)
theorem key_pair : Keyed Tryz.prog 391 := Keyed.of_law (deep_law_laid (m := 4) (by kernel_rfl) (by omega) (of_decide_eq_true (by kernel_rfl)) (by kernel_rfl) (by rw [Tryz.underlying391]))
theorem lit_u8 (d : Nat) {z : Nat} (h : z < 256) : Tryz.prog.keyLits (d + 1) 5 [.int .u8 z] = some [.int .u8 z] := by
  unfold Program.keyLits
  simp only [Tryz.underlying5]
  exact if_pos ⟨trivial, by unfold Lit.wf; simp only [Bool.and_eq_true, decide_eq_true_eq]; exact ⟨by show (0 : Int) ≤ _; omega, by show _ ≤ (255 : Int); omega⟩⟩
theorem isK_pair (z : Nat) (b : Bool) (h : z < 256) : IsK Tryz.prog 391 (.agg (toArr [.int .u8 z, .bool b])) := by
  have hk : Tryz.prog.keyType 391 = true := by kernel_rfl
  have hs : ∃ d, Tryz.prog.types.size + 1 = d + 4 := ⟨Tryz.prog.types.size - 3, by have : 4 ≤ Tryz.prog.types.size := of_decide_eq_true (by kernel_rfl); omega⟩
  have c1 : Tryz.prog.cellsOf 5 = 1 := by kernel_rfl
  have c2 : Tryz.prog.cellsOf 4 = 1 := by kernel_rfl
  have c8 : Tryz.prog.cellsOf 391 = 2 := by kernel_rfl
  obtain ⟨d, hd⟩ := hs
  have hf : (Value.agg (toArr [.int .u8 z, .bool b])).formed Tryz.prog 391 = true := by
    unfold Value.formed
    rw [Tryz.underlying391]
    simp only [c8]; rfl
  have hl : Tryz.prog.keyLits (d + 4) 391 [.int .u8 z, .bool b] = some [.int .u8 z, .bool b] := by
    unfold Program.keyLits
    simp only [Tryz.underlying391]
    simp only [c8]
    rw [if_pos ⟨rfl, by decide +kernel⟩]
    simp only [List.mapM_cons, List.mapM_nil, c1, c2, List.drop_zero, List.drop_succ_cons, List.take_succ_cons, List.take_zero, lit_u8 _ h, lit_b]
    rfl
  refine ⟨.string (keyBytes [.int .u8 z, .bool b]), ?_⟩
  unfold keyOf
  rw [Tryz.underlying391]
  simp only [hk, hf, Bool.and_true, if_true, hd]
  rw [show (Value.agg (toArr [.int .u8 z, .bool b])).cells.toList = [.int .u8 z, .bool b] from rfl, hl]
  rfl
def u8s (bs : List Nat) : List Value := bs.map fun q : Nat => .int .u8 q
theorem u8s_get {bs : List Nat} {i : Nat} (h : i < bs.length) : (u8s bs)[i]? = some (.int .u8 bs[i]) := by
  unfold u8s; rw [List.getElem?_map, List.getElem?_eq_getElem h]; rfl
theorem u8s_set (bs : List Nat) (i q : Nat) : (u8s bs).set i (.int .u8 q) = u8s (bs.set i q) := by
  unfold u8s; rw [List.map_set]
theorem u8s_len (bs : List Nat) : (u8s bs).length = bs.length := by simp [u8s]
def clC (of : List Nat) (N : Nat) : List Value := u8s of ++ [.int .i64 N]
theorem clC_len (of : List Nat) (N : Nat) : (clC of N).length = of.length + 1 := by unfold clC; rw [List.length_append, u8s_len]; rfl
theorem clC_set {of : List Nat} {N j q : Nat} (h : j < of.length) : (clC of N).set j (.int .u8 q) = clC (of.set j q) N := by
  unfold clC
  rw [List.set_append_left _ _ (by rw [u8s_len]; exact h), u8s_set]
theorem clC_setN {of : List Nat} {N M : Nat} (h : of.length = 256) : (clC of N).set 256 (.int .i64 M) = clC of M := by
  unfold clC
  rw [List.set_append_right _ _ (by rw [u8s_len]; omega), u8s_len, h]; rfl
theorem clC_one (of : List Nat) (N : Nat) : (clC of N).all Value.oneCell' = true := by
  unfold clC u8s
  rw [List.all_append, List.all_eq_true.2 (fun x hx => by obtain ⟨q, -, rfl⟩ := List.mem_map.1 hx; rfl)]; rfl
theorem take_set {of : List Nat} {j q M N : Nat} (hj : j < of.length) (h : ∀ x ∈ of.take j, x < N) (hq : q < M) (hN : N ≤ M := by omega) : ∀ x ∈ (of.set j q).take (j + 1), x < M := fun x hx => by
  rw [List.take_set, List.take_succ_eq_append_getElem hj, List.set_append_right _ _ (by rw [List.length_take]; omega), List.length_take, show j - min j of.length = 0 by omega] at hx
  rcases List.mem_append.1 hx with h1 | h1
  · have := h x h1; omega
  · rw [List.mem_singleton.1 h1]; exact hq
def isPr (N : Nat) (y : Value × Value) : Prop := ∃ (z : Nat) (b : Bool) (v : Nat), y = (.agg (toArr [.int .u8 z, .bool b]), .int .u8 v) ∧ z < 256 ∧ v < N
theorem cells_add0 {m : Mem} {b te : Nat} {fz : Nat × Nat} (cs : List Value) : Cells (m.add b (.cells (toArr cs) te fz)) ⟨b, 0, none⟩ cs := by
  intro j v hj
  rw [addr_add, Nat.zero_add]
  simp only [mcell, ocell, Mem.add_same, toArr, List.getElem?_toArray]
  exact hj
def ofJ (j : Nat) : List Nat := (List.range 256).map fun i => if i = 97 ∧ i < j then 1 else 0
def NJ (j : Nat) : Nat := if j = 0 then 0 else if j ≤ 97 then 1 else 2
def prJ (b : Bool) : Value := .agg (toArr [.int .u8 0, .bool b])
def mlJ (j : Nat) : List (Value × Value) := if j = 0 then [] else if j ≤ 97 then [(prJ false, .int .u8 0)] else [(prJ false, .int .u8 0), (prJ true, .int .u8 1)]
def InvJ (j : Nat) (of : List Nat) (N : Nat) (ml : List (Value × Value)) : Prop := of = ofJ j ∧ N = NJ j ∧ ml = mlJ j
theorem inv_zero : InvJ 0 (List.replicate 256 0) 0 [] := ⟨by decide +kernel, rfl, rfl⟩
theorem ofJ_len (j : Nat) : (ofJ j).length = 256 := by simp [ofJ]
theorem inv_len {j : Nat} {of : List Nat} {N : Nat} {ml : List (Value × Value)} (h : InvJ j of N ml) : of.length = 256 := by rw [h.1]; exact ofJ_len j
theorem inv_N {j : Nat} {of : List Nat} {N : Nat} {ml : List (Value × Value)} (h : InvJ j of N ml) : N ≤ j := by
  rw [h.2.1]; unfold NJ; split
  · omega
  · split <;> omega
theorem inv_pr {j : Nat} {of : List Nat} {N : Nat} {ml : List (Value × Value)} (h : InvJ j of N ml) : ∀ y ∈ ml, isPr N y := by
  obtain ⟨-, rfl, rfl⟩ := h
  intro y hy
  unfold mlJ at hy
  unfold NJ
  split at hy
  · cases hy
  · rename_i h0
    rw [if_neg h0]
    split at hy
    · rename_i h1
      rw [if_pos h1]
      rw [List.mem_singleton.1 hy]
      exact ⟨0, false, 0, rfl, by decide, by decide⟩
    · rename_i h1
      rw [if_neg h1]
      rcases List.mem_cons.1 hy with rfl | hy
      · exact ⟨0, false, 0, rfl, by decide, by decide⟩
      · rw [List.mem_singleton.1 hy]
        exact ⟨0, true, 1, rfl, by decide, by decide⟩
theorem ofJ_set {j : Nat} (hj : j < 256) : (ofJ j).set j (if j = 97 then 1 else 0) = ofJ (j + 1) := by
  apply List.ext_getElem?
  intro i
  rw [List.getElem?_set]
  by_cases hi : i < 256
  · have e : ∀ q, (ofJ q)[i]? = some (if i = 97 ∧ i < q then 1 else 0) := fun q => by simp [ofJ, hi]
    rw [e, e, ofJ_len]
    by_cases hji : j = i
    · subst hji
      rw [if_pos rfl, if_pos hj]
      congr 1
      by_cases h9 : j = 97
      · rw [if_pos h9, if_pos ⟨h9, by omega⟩]
      · rw [if_neg h9, if_neg (fun h => h9 h.1)]
    · rw [if_neg hji]
      congr 1
      by_cases h9 : i = 97 ∧ i < j
      · rw [if_pos h9, if_pos ⟨h9.1, by omega⟩]
      · rw [if_neg h9, if_neg (fun h => h9 ⟨h.1, by omega⟩)]
  · rw [if_neg (by omega), List.getElem?_eq_none (by rw [ofJ_len]; omega), List.getElem?_eq_none (by rw [ofJ_len]; omega)]
theorem prJ_ne : prJ false ≠ prJ true := fun h => by
  injection h with h
  have := congrArg Array.toList h
  simp [toArr] at this
theorem inv_new {j : Nat} {of : List Nat} {N z : Nat} {t : Bool} {ml : List (Value × Value)} (h : InvJ j of N ml) (hj : j < 256) (hz : z = 0) (ht : t = decide (j = 97)) (hno : ∀ x ∈ ml, x.1 ≠ .agg (toArr [.int .u8 z, .bool t])) :
    InvJ (j + 1) (of.set j N) (N + 1) (ml ++ [(.agg (toArr [.int .u8 z, .bool t]), .int .u8 N)]) := by
  obtain ⟨rfl, rfl, rfl⟩ := h
  subst hz ht
  have h0 : j = 0 ∨ j = 97 := by
    rcases Nat.eq_zero_or_pos j with h | h
    · exact .inl h
    · by_cases h9 : j = 97
      · exact .inr h9
      · exfalso
        refine hno (prJ false, .int .u8 0) ?_ ?_
        · unfold mlJ
          rw [if_neg (by omega)]
          split <;> simp
        · unfold prJ; rw [decide_eq_false h9]; rfl
  rcases h0 with rfl | rfl
  · refine ⟨by rw [← ofJ_set hj]; rfl, rfl, rfl⟩
  · refine ⟨by rw [← ofJ_set hj]; rfl, rfl, rfl⟩
theorem inv_old {j : Nat} {of : List Nat} {N z : Nat} {t : Bool} {ml : List (Value × Value)} {v : Value} (h : InvJ j of N ml) (hj : j < 256) (hz : z = 0) (ht : t = decide (j = 97)) (hv : (.agg (toArr [.int .u8 z, .bool t]), v) ∈ ml) :
    ∃ q : Nat, v = .int .u8 q ∧ q < N ∧ InvJ (j + 1) (of.set j q) N ml := by
  obtain ⟨rfl, rfl, rfl⟩ := h
  subst hz ht
  have hv : (prJ (decide (j = 97)), v) ∈ mlJ j := hv
  rcases Nat.eq_zero_or_pos j with rfl | h0
  · cases hv
  by_cases h9 : j = 97
  · subst h9
    exfalso
    have := List.mem_singleton.1 (show (prJ true, v) ∈ [(prJ false, Value.int .u8 0)] from hv)
    injection this with h _
    exact prJ_ne h.symm
  rw [decide_eq_false h9] at hv
  have hv0 : v = .int .u8 0 := by
    unfold mlJ at hv
    rw [if_neg (by omega)] at hv
    split at hv
    · have := List.mem_singleton.1 hv; injection this
    · rcases List.mem_cons.1 hv with h | h
      · injection h
      · have := List.mem_singleton.1 h
        injection this with h _
        exact absurd h prJ_ne
  refine ⟨0, hv0, ?_, ?_, ?_, ?_⟩
  · unfold NJ; rw [if_neg (by omega)]; split <;> omega
  · rw [← ofJ_set hj, if_neg h9]
  · by_cases h : j ≤ 97
    · simp only [NJ, if_neg (show ¬ j = 0 by omega), if_neg (show ¬ j + 1 = 0 by omega), if_pos h, if_pos (show j + 1 ≤ 97 by omega)]
    · simp only [NJ, if_neg (show ¬ j = 0 by omega), if_neg (show ¬ j + 1 = 0 by omega), if_neg h, if_neg (show ¬ j + 1 ≤ 97 by omega)]
  · by_cases h : j ≤ 97
    · simp only [mlJ, if_neg (show ¬ j = 0 by omega), if_neg (show ¬ j + 1 = 0 by omega), if_pos h, if_pos (show j + 1 ≤ 97 by omega)]
    · simp only [mlJ, if_neg (show ¬ j = 0 by omega), if_neg (show ¬ j + 1 = 0 by omega), if_neg h, if_neg (show ¬ j + 1 ≤ 97 by omega)]
theorem inv_end {of : List Nat} {N : Nat} {ml : List (Value × Value)} (h : InvJ 256 of N ml) : clC of N = clV := by
  obtain ⟨rfl, rfl, -⟩ := h
  have e : ofJ 256 = List.replicate 97 0 ++ 1 :: List.replicate 158 0 := by decide +kernel
  rw [e]
  unfold clC u8s clV
  rw [List.map_append, List.map_cons, List.map_replicate, List.map_replicate, List.append_assoc]
  rfl
theorem has97 : ∀ j, j < 256 → tabs.hasR 0 8589934592 0 0 j = decide (j = 97) := by decide +kernel
set_option maxHeartbeats 2000000 in
set_option maxRecDepth 100000 in
theorem split1_fn (m : Mem) : Fn0 Tryz.prog 186 [.agg (toArr (clC (List.replicate 256 0) 1)), .agg (toArr [.int .u64 0, .int .u64 8589934592, .int .u64 0, .int .u64 0])] m fun _ u => u = .agg (toArr clV) := by
  obtain ⟨of0, hof⟩ : ∃ of0, of0 = List.replicate 256 0 := ⟨_, rfl⟩
  obtain ⟨N0, hN0⟩ : ∃ N0, N0 = 1 := ⟨_, rfl⟩
  rw [← hof, ← hN0]
  obtain ⟨s0, s1, s2, s3, e0, e1, e2, e3⟩ : ∃ s0 s1 s2 s3 : Int, s0 = 0 ∧ s1 = 8589934592 ∧ s2 = 0 ∧ s3 = 0 := ⟨_, _, _, _, rfl, rfl, rfl, rfl⟩
  have hs0 : tabs.in64 s0 := by rw [e0]; exact ⟨by decide, by decide⟩
  have hs1 : tabs.in64 s1 := by rw [e1]; exact ⟨by decide, by decide⟩
  have hs2 : tabs.in64 s2 := by rw [e2]; exact ⟨by decide, by decide⟩
  have hs3 : tabs.in64 s3 := by rw [e3]; exact ⟨by decide, by decide⟩
  have hHs : ∀ j, j < 256 → tabs.hasR s0 s1 s2 s3 j = decide (j = 97) := fun j hj => by rw [e0, e1, e2, e3]; exact has97 j hj
  have hargs : toArr [Value.int .u64 0, .int .u64 8589934592, .int .u64 0, .int .u64 0] = toArr [.int .u64 s0, .int .u64 s1, .int .u64 s2, .int .u64 s3] := by rw [e0, e1, e2, e3]
  rw [hargs]
  clear hargs
  have hlen0 : of0.length = 256 := by rw [hof]; exact List.length_replicate
  refine Fn.enter (N := 48) hX Tryz.func186 rfl rfl (by show _ ≤ _; simp) (fun w0 hL => ?_)
  conv => whnf
  refine NewReq.mk hL ?_
  clear hL
  intro b2 w hL
  conv => whnf
  refine NewReq.mk hL ?_
  clear hL
  intro b3 w hL
  conv => whnf
  refine NewReq.mk hL ?_
  clear hL
  intro b4 w hL
  conv => whnf
  refine NewReq.mk hL ?_
  clear hL
  intro b5 w hL
  conv => whnf
  refine go ?_;try(clear hL;intro w hL)
  refine RunReq.makeMapW hL ?_
  clear hL
  intro mb w hL
  refine go ?_;try(clear hL;intro w hL)
  have hz : { d := TD.struct [(0, 42), (256, 3)], size := 257, bytes := 264, zero := List.replicate 256 (Value.int IntKind.u8 0) ++ [Value.int IntKind.i64 0] : TI }.zero = clC (List.replicate 256 0) 0 := by
    show List.replicate 256 (Value.int IntKind.u8 0) ++ [Value.int IntKind.i64 0] = _
    unfold clC u8s
    rw [List.map_replicate]; rfl
  rw [hz] at hL
  generalize hZ : clC (List.replicate 256 0) 0 = Z at hL
  replace hL : Ev.Loc m [] w0 m ((b2, .cells (toArr (clC of0 N0)) 44 (0, 0)) :: (b3, .cells (toArr [.int .u64 s0, .int .u64 s1, .int .u64 s2, .int .u64 s3]) 57 (0, 0)) :: (mb, mapW []) :: (b5, .cells (toArr Z) 44 (0, 0)) :: (b4, .cells (toArr Z) 44 (0, 0)) :: []) w :=
    hL.perm (by
      refine (List.Perm.trans (List.perm_append_comm (l₁ := [_, _, _]) (l₂ := [_, _])) ?_)
      exact List.Perm.swap _ _ _)
  have hle1 := hL.le_add
  replace hL := hL.freeze
  have hle2 := hL.le_add
  replace hL := hL.freeze
  generalize hm1 : (m.add b2 _).add b3 _ = m1 at hL hle2
  have hc2 : Cells m1 ⟨b2, 0, none⟩ (clC of0 N0) := by
    have := (cells_add0 (m := m) (b := b2) (te := 44) (fz := (0, 0)) (clC of0 N0)).le hle2
    exact this
  have hc3 : Cells m1 ⟨b3, 0, none⟩ [.int .u64 s0, .int .u64 s1, .int .u64 s2, .int .u64 s3] := by rw [← hm1]; exact cells_add0 _
  have hm01 := hle1.trans hle2
  clear hm1 hle1 hle2 hz
  rw [← hZ] at hL
  have hlz : (clC (List.replicate 256 0) 0).length = 257 := by unfold clC; rw [List.length_append, u8s_len, List.length_replicate]; rfl
  refine LoopReq.inv hX (fun j : Nat => [(12, .int .i64 j)]) [2, 3, 4, 5, 6]
    (fun j w => j ≤ 256 ∧ ∃ of N ml, InvJ j of N ml ∧
      Ev.Loc m [] w0 m1 ((mb, mapW ml) :: (b5, .cells (toArr (clC of N)) 44 (0, 0)) :: (b4, .cells (toArr (clC (List.replicate 256 0) 0)) 44 (0, 0)) :: []) w) (fun j => 256 - j) 0
    ⟨by omega, List.replicate 256 0, 0, [], inv_zero, hL⟩ ⟨rfl, trivial⟩ ?_
  clear hL
  rintro j w f ⟨hj, of, N, ml, hI, hL⟩
  have hol := inv_len hI
  have hN := inv_N hI
  have hml := inv_pr hI
  refine go ?_;try(clear hL;intro w hL)
  refine BrReq.dec (fun hlt2 => ?_) (fun hlt2 => ?_)
  · have hj256 : j < 256 := by omega
    have hjo : j < of0.length := by omega
    have hcj : mcell m1 ((⟨b2, 0, none⟩ : Addr).add j) = some (.int .u8 of0[j]) := hc2 j _ (by unfold clC; rw [List.getElem?_append_left (by rw [u8s_len]; omega)]; exact u8s_get hjo)
    have hz0 : of0[j] = 0 := by simp only [hof, List.getElem_replicate]
    generalize of0[j] = z at hcj hz0
    have hz256 : z < 256 := by omega
    have hHas := tabs.setHas_fn m1 s0 s1 s2 s3 hs0 hs1 hs2 hs3 j hj256
    have ht0 := hHs j hj256
    generalize tabs.hasR s0 s1 s2 s3 j = t at hHas ht0
    refine go ?_;try(clear hL;intro w hL)
    refine DrawReq.cut (fun b8 : Nat => [(8, .pointer (some ⟨b8, 0, none⟩))]) [2, 3, 4, 5, 6, 7, 12] (fun b8 w => Ev.Loc m [] w0 m1 ((b8, .cells (toArr [.int .u8 z, .bool t]) 391 (0, 0)) :: (mb, mapW ml) :: (b5, .cells (toArr (clC of N)) 44 (0, 0)) :: (b4, .cells (toArr (clC (List.replicate 256 0) 0)) 44 (0, 0)) :: []) w) ?_ ?_
    · refine DrawReq.plan hX (.fst 0 (.fst 1 (.fst 2 (.fst 3 (.fst 4 (.fst 5 (.fst 6 (.alt 7 (.fst 8 (.alt 9 (.alt 10 (.done) (.stop)) (.stop))) (.alt 9 (.alt 7 (.fst 8 (.alt 10 (.done) (.stop))) (.stop)) (.stop)))))))))) [] (by kernel_rfl) (by kernel_rfl) hL (fun h => h.sublist (List.nil_sublist _)) ?_
      clear hL
      intro w hL
      conv => whnf
      repeat ((first | refine IdxReq.mk j rfl (by omega) ?_ | refine QLdReq.one hX rfl rfl hcj ?_ | refine QLdReq.agg hX rfl rfl rfl hc3 ?_ | refine ArReq.u8 (by omega) (by omega) ?_ | (refine goq1 ?_;try(clear hL;intro w hL))); conv => whnf)
      refine AltQ.of ⟨?_, ?_⟩
      · refine CallReq.val hHas hL ?_
        clear hL
        intro w hL
        refine SReq.mk (hL.sublist (List.nil_sublist _)) ?_
        refine goq ?_;try(clear hL;intro w hL)
        refine NewReq.mk hL ?_
        clear hL
        intro b8 w hL
        conv => whnf
        refine SReq.mk (hL.sublist (List.nil_sublist _)) ?_
        conv => whnf
        repeat ((first | refine SReq.mk (hL.sublist (List.nil_sublist _)) ?_ | (refine goq1 ?_;try(clear hL;intro w hL))); conv => whnf)
        refine ⟨b8, hL, ?_, ?_⟩
        · repeat (first | exact trivial | (refine And.intro (by (conv => lhs; whnf) <;> (conv => rhs; whnf) <;> (first | rfl)) ?_))
        · repeat (first | exact trivial | (refine And.intro (by (conv => lhs; whnf) <;> (conv => rhs; whnf) <;> (first | rfl)) ?_))
      · refine goq ?_;try(clear hL;intro w hL)
        refine NewReq.mk hL ?_
        clear hL
        intro b8 w hL
        conv => whnf
        refine SReq.mk (hL.sublist (List.nil_sublist _)) ?_
        refine goq ?_;try(clear hL;intro w hL)
        refine CallReq.val hHas hL ?_
        clear hL
        intro w hL
        refine SReq.mk (hL.sublist (List.nil_sublist _)) ?_
        conv => whnf
        repeat ((first | refine SReq.mk (hL.sublist (List.nil_sublist _)) ?_ | (refine goq1 ?_;try(clear hL;intro w hL))); conv => whnf)
        refine ⟨b8, hL, ?_, ?_⟩
        · repeat (first | exact trivial | (refine And.intro (by (conv => lhs; whnf) <;> (conv => rhs; whnf) <;> (first | rfl)) ?_))
        · repeat (first | exact trivial | (refine And.intro (by (conv => lhs; whnf) <;> (conv => rhs; whnf) <;> (first | rfl)) ?_))
    clear hL
    rintro b8 w f3 hL
    have hkeys : ∀ x ∈ ml, IsK Tryz.prog 391 x.1 := fun x hx => by
      obtain ⟨z', b', v', rfl, h1, -⟩ := hml x hx
      exact isK_pair z' b' h1
    refine go ?_;try(clear hL;intro w hL)
    refine RunReq.lookW hX rfl rfl key_pair (z := .int .u8 0) (by kernel_rfl) hL (.t .h) (isK_pair z t hz256) hkeys (fun hno => ?_) (fun v hv => ?_)
    · have hNg : (clC of N)[0 + 256]? = some (.int .i64 N) := by unfold clC; rw [List.getElem?_append_right (by rw [u8s_len]; omega), u8s_len, hol]; rfl
      conv => whnf
      repeat ((first | refine LdReq.ownC hX rfl rfl hL (.t (.t .h)) hNg ?_ | refine ArReq.u8 (by omega) (by omega) ?_ | (refine go1 ?_;try(clear hL;intro w hL))); conv => whnf)
      refine RunUReq.updW hX rfl rfl key_pair (k := .agg (toArr [.int .u8 z, .bool t])) (v := .int .u8 N) 1 hL rfl (isK_pair z t hz256) hkeys (fun _ w hL => ?_) (fun q u hq w hL => absurd rfl (hno _ (List.mem_of_getElem? hq)))
      replace hL : Ev.Loc m [] w0 m1 ((b8, .cells (toArr [.int .u8 z, .bool t]) 391 (0, 0)) :: (mb, mapW (ml ++ [(.agg (toArr [.int .u8 z, .bool t]), .int .u8 N)])) :: (b5, .cells (toArr (clC of N)) 44 (0, 0)) :: (b4, .cells (toArr (clC (List.replicate 256 0) 0)) 44 (0, 0)) :: []) w := hL
      have hml2 : InvJ (j + 1) (of.set j N) (N + 1) (ml ++ [(.agg (toArr [.int .u8 z, .bool t]), .int .u8 N)]) := inv_new hI hj256 hz0 ht0 hno
      generalize ml ++ [(.agg (toArr [.int .u8 z, .bool t]), .int .u8 N)] = ml2 at hL hml2
      clear hkeys hno hml hI
      conv => whnf
      repeat ((first | refine LdReq.ownC hX rfl rfl hL (.t (.t .h)) hNg ?_ | (refine go1 ?_;try(clear hL;intro w hL))); conv => whnf)
      refine StReq.ownAt hX rfl 2 hL rfl rfl (by show 0 + 256 + 1 ≤ (clC of N).length; rw [clC_len, hol]; omega) rfl ?_
      clear hL
      intro w hL
      replace hL : Ev.Loc m [] w0 m1 ((b8, .cells (toArr [.int .u8 z, .bool t]) 391 (0, 0)) :: (mb, mapW ml2) :: (b5, .cells (toArr ((clC of N).set 256 (.int .i64 (N + 1 : Nat)))) 44 (0, 0)) :: (b4, .cells (toArr (clC (List.replicate 256 0) 0)) 44 (0, 0)) :: []) w := hL
      rw [clC_setN hol] at hL
      refine go ?_;try(clear hL;intro w hL)
      refine IdxReq.mk j rfl (by omega) ?_
      refine go ?_;try(clear hL;intro w hL)
      refine StReq.ownAt hX rfl 2 hL rfl rfl (by show 0 + j + 1 ≤ (clC of (N + 1)).length; rw [clC_len, hol]; omega) rfl ?_
      clear hL
      intro w hL
      replace hL : Ev.Loc m [] w0 m1 (_ :: (mb, mapW ml2) :: (b5, .cells (toArr (spliceL (clC of (N + 1)) (0 + j) [.int .u8 N])) 44 (0, 0)) :: (b4, .cells (toArr (clC (List.replicate 256 0) 0)) 44 (0, 0)) :: []) w := hL
      rw [Nat.zero_add] at hL
      replace hL : Ev.Loc m [] w0 m1 (_ :: (mb, mapW ml2) :: (b5, .cells (toArr ((clC of (N + 1)).set j (.int .u8 N))) 44 (0, 0)) :: (b4, .cells (toArr (clC (List.replicate 256 0) 0)) 44 (0, 0)) :: []) w := hL
      rw [clC_set (by omega)] at hL
      refine go ?_;try(clear hL;intro w hL)
      exact rnd (j + 1) ⟨by omega, of.set j N, (N + 1), ml2, hml2, hL.drop⟩
    · obtain ⟨q, e2, hq, hI2⟩ := inv_old hI hj256 hz0 ht0 hv
      subst e2
      refine go ?_;try(clear hL;intro w hL)
      refine IdxReq.mk j rfl (by omega) ?_
      refine go ?_;try(clear hL;intro w hL)
      refine StReq.ownAt hX rfl 2 hL rfl rfl (by show 0 + j + 1 ≤ (clC of N).length; rw [clC_len, hol]; omega) rfl ?_
      clear hL
      intro w hL
      replace hL : Ev.Loc m [] w0 m1 (_ :: (mb, mapW ml) :: (b5, .cells (toArr (spliceL (clC of N) (0 + j) [.int .u8 q])) 44 (0, 0)) :: (b4, .cells (toArr (clC (List.replicate 256 0) 0)) 44 (0, 0)) :: []) w := hL
      rw [Nat.zero_add] at hL
      replace hL : Ev.Loc m [] w0 m1 (_ :: (mb, mapW ml) :: (b5, .cells (toArr ((clC of N).set j (.int .u8 q))) 44 (0, 0)) :: (b4, .cells (toArr (clC (List.replicate 256 0) 0)) 44 (0, 0)) :: []) w := hL
      rw [clC_set (by omega)] at hL
      refine go ?_;try(clear hL;intro w hL)
      exact rnd (j + 1) ⟨by omega, of.set j q, N, ml, hI2, hL.drop⟩
  · have hj256 : j = 256 := by omega
    subst hj256
    have hcl : (clC of N).length = 257 := by rw [clC_len, hol]
    refine go ?_;try(clear hL;intro w hL)
    refine LdReq.whole hX rfl rfl 1 hL rfl hcl ?_
    refine go ?_;try(clear hL;intro w hL)
    refine StReq.whole hX rfl 2 hL rfl hlz hcl (clC_one of N) ?_
    clear hL
    intro w hL
    replace hL : Ev.Loc m [] w0 m1 ((mb, mapW ml) :: (b5, .cells (toArr (clC of N)) 44 (0, 0)) :: (b4, .cells (toArr (clC of N)) 44 (0, 0)) :: []) w := hL
    refine go ?_;try(clear hL;intro w hL)
    refine LdReq.whole hX rfl rfl 2 hL rfl hcl ?_
    refine go ?_;try(clear hL;intro w hL)
    exact RetReq.mk (hL.sublist (List.nil_sublist _)) ⟨rfl, by show resV [_] = _; rw [inv_end hI]; rfl⟩
end Go.Proofs.YtloofgoblodeiaaGreatDoor.am
namespace Go.Proofs.YtloofgoblodeiaaGreatDoor.am
open Go Go.Ev Go.Proofs Go.Proofs.YtloofgoblodeiaaGreatDoor.co
noncomputable section
def ι0 : At := fun g => if g < 16 then some (g, 0) else none
def Laid (m : Mem) : Prop := fk.TabMem m ∧ ∃ t f, m 4 = some (.cells (toArr bitV) t f)
theorem Laid.le {m m' : Mem} (h : Mem.Le m m') (k : Laid m) : Laid m' := by
  obtain ⟨h1, t, f, h2⟩ := k
  exact ⟨h1.le h, t, f, h _ _ h2⟩
theorem base_ok {m0 m : Mem} {S : List Nat} {w0 w : World} {L : Own} (hL : Ev.Loc m0 S w0 m L w) (hm : Laid m) : Ok m0 S w0 ⟨ι0, 16, M00, m, L, w⟩ := by
  obtain ⟨-, t, f, h4⟩ := hm
  have hg : ∀ i ab, M00.get (pth i) = some ab → i = 4 ∧ ab = .gl bitV 0 := fun i ab h => by
    unfold M00 at h
    rw [get_putN] at h
    split at h
    · rename_i e; exact ⟨e, (Option.some.inj h).symm⟩
    · cases h
  refine ⟨fun g hg => if_pos hg, Nat.le_refl _, fun i hi => if_neg (by have : 16 ≤ i := hi; omega), hL, fun i ab h => ?_, fun i j ab ab' b k k' h1 h2 => ?_⟩
  · obtain ⟨rfl, rfl⟩ := hg i ab h
    refine ⟨(show (0 : Nat) < 16 by decide), 4, 0, .cells (toArr bitV) t f, (show ι0 4 = some (4, 0) from rfl), ?_, h4⟩
    have := AR.gl (ι := ι0) (c := 0) (ty := t) (fz := f) (cells := bitV) (rest := []) (st := 0) (flatL_out (by decide +kernel))
    rwa [List.append_nil] at this
  · obtain ⟨-, rfl⟩ := hg i ab h1
    cases h2
theorem keys_ok : KeysOk := by
  intro kt h
  have := isIn_iff h
  simp only [keyTs, List.mem_cons, List.not_mem_nil, or_false] at this
  rcases this with rfl | rfl | rfl | rfl
  · exact Go.Maps.string_keyed Tryz.underlying9
  · exact ar.key_int
  · exact Go.Maps.Keyed.of_law (deep_law_laid (m := 4) (by kernel_rfl) (by omega) (of_decide_eq_true (by kernel_rfl)) (by kernel_rfl) (by rw [Tryz.underlying391]))
  · exact ar.key_nd
theorem loc_of_pre {m : Mem} {L : Own} {w : World} (h : Pre m L w) : Ev.Loc m (keys L) w m L w :=
  ⟨rfl, rfl, rfl, Nat.le_refl _, fun _ _ _ => rfl, h.sub, h.apart, h.own, h.nodup, fun _ hb => .inr hb, Mem.Le.refl _, fun _ _ h => .inl h⟩
theorem fnV_run {l : List (Nat × Sm)} {d f : Nat} {args : List Value} {v : Value} {m : Mem} (hm : Laid m) (hl : ∀ x ∈ l, SmOne m x.1 x.2) (hargs : ∀ ι : At, VRL ι args args) (hv : flatV v = true)
    (hrun : run (smOf l) d f args 16 M00 (fun u _ _ => match flatV u with | true => vEq u v | false => false) = true) : FnV Tryz.prog f args m v := by
  intro w hp
  have hL := loc_of_pre hp
  have h := run_ok keys_ok (smOf_ok hl) d (S := []) (w0 := w) f args args ⟨ι0, 16, M00, m, [], w⟩ (fun u _ _ => match flatV u with | true => vEq u v | false => false) (fun u w' => u = v ∧ Ev.Loc m [] w m [] w') (base_ok hL hm) (hargs _) hrun fun u c' u' h1 h2 h3 h4 => by
    cases hf : flatV u with
    | false => rw [hf] at h1; cases h1
    | true =>
      rw [hf] at h1
      rw [h4.flat hf]
      exact ⟨(vEq_iff hf hv).1 h1, (h3.loc.sublist (List.nil_sublist _)).weaken h2.m (Mem.Le.refl m)⟩
  refine h.out.mono fun e w' he => ?_
  cases e with
  | returned u => exact ⟨u, m, [], rfl, he.2, rfl, he.1⟩
  | _ => exact he.elim
theorem clV_flat : flatL clV = true := by decide +kernel
def sFirst : Sm := fun args nx M k => match args with
  | [.agg cs, .int .i64 (.ofNat q)] => match flatL cs.toList && vEqL cs.toList clV with
    | true => match q with
      | 0 => k (.int .u8 0) nx M
      | 1 => k (.int .u8 97) nx M
      | _ => false
    | false => false
  | _ => false
theorem sFirst_ok {m0 : Mem} (hm : Laid m0) : SmOne m0 106 sFirst := by
  intro S w0 args args' c k K h hv ha hK
  unfold sFirst at ha
  split at ha
  case h_2 => cases ha
  rename_i cs q
  match args', hv with
  | [x', y'], .cons hx (.cons hy .nil) =>
  have hy := hy.int
  subst hy
  split at ha
  case h_2 => cases ha
  rename_i hc
  rw [Bool.and_eq_true] at hc
  have e := (vEqL_iff hc.1 clV_flat).1 hc.2
  obtain ⟨l', rfl, hl⟩ := hx.agg_out
  have e2 := hl.flat hc.1
  rw [e] at e2
  subst e2
  have hm := hm.le h.loc.le
  have fin : ∀ (q : Nat) (z : Int), FnV Tryz.prog 106 [.agg (toArr clV), .int .i64 q] c.m (.int .u8 z) → k (.int .u8 z) c.nx c.M = true → CallReq Tryz.prog 106 (toArr [.agg (toArr clV), .int .i64 q]) c.w K := fun q z hf hk => by
    refine CallReq.val hf h.loc fun w' hL => ?_
    obtain ⟨k1, k2⟩ := h.world hL
    exact hK _ { c with w := w' } _ hk k2 k1 (.same rfl)
  split at ha
  · exact fin 0 0 (fnV_run hm (fun x hx => smT_ok hm.1 x hx) (fun ι => .cons (.agg (flatL_out clV_flat)) (.cons (.same rfl) .nil)) rfl first0) ha
  · exact fin 1 97 (fnV_run hm (fun x hx => smT_ok hm.1 x hx) (fun ι => .cons (.agg (flatL_out clV_flat)) (.cons (.same rfl) .nil)) rfl first1) ha
  · cases ha
def spA : List Value := clC (List.replicate 256 0) 1
def spB : List Value := [.int .u64 0, .int .u64 8589934592, .int .u64 0, .int .u64 0]
theorem spA_flat : flatL spA = true := by decide +kernel
def sSplit : Sm := fun args nx M k => match args with
  | [.agg a, .agg b] => match flatL a.toList && vEqL a.toList spA && flatL b.toList && vEqL b.toList spB with
    | true => catK clV [] fun l => k (.agg (toArr l)) nx M
    | false => false
  | _ => false
theorem sSplit_ok {m0 : Mem} : SmOne m0 186 sSplit := by
  intro S w0 args args' c k K h hv ha hK
  unfold sSplit at ha
  split at ha
  case h_2 => cases ha
  rename_i a b
  match args', hv with
  | [x', y'], .cons hx (.cons hy .nil) =>
  split at ha
  case h_2 => cases ha
  rename_i hc
  simp only [Bool.and_eq_true] at hc
  obtain ⟨⟨⟨c1, c2⟩, c3⟩, c4⟩ := hc
  rw [catK_eq, List.append_nil] at ha
  obtain ⟨l1, rfl, r1⟩ := hx.agg_out
  obtain ⟨l2, rfl, r2⟩ := hy.agg_out
  have e1 := r1.flat c1
  have e2 := r2.flat c3
  rw [(vEqL_iff c1 spA_flat).1 c2] at e1
  rw [(vEqL_iff c3 (by decide +kernel)).1 c4] at e2
  subst e1 e2
  refine CallReq.val (v := .agg (toArr clV)) (split1_fn c.m) h.loc fun w' hL => ?_
  obtain ⟨k1, k2⟩ := h.world hL
  exact hK _ { c with w := w' } _ ha k2 k1 (.agg (flatL_out clV_flat))
def smF : List (Nat × Sm) := (106, sFirst) :: (186, sSplit) :: smT
theorem smF_ok {m0 : Mem} (hm : Laid m0) : ∀ x ∈ smF, SmOne m0 x.1 x.2 := by
  intro x hx
  rcases List.mem_cons.1 hx with rfl | hx
  · exact sFirst_ok hm
  · rcases List.mem_cons.1 hx with rfl | hx
    · exact sSplit_ok
    · exact smT_ok hm.1 x hx
end
end Go.Proofs.YtloofgoblodeiaaGreatDoor.am
namespace Go.Proofs.YtloofgoblodeiaaGreatDoor.mach
open Go Go.Ev Go.Proofs
def isC (cs : List Value) (x : Int × Int) : Prop := cs = [.int .i64 x.1, .int .i64 x.2]
def cellR (x : Int × Int) : List Value := [.int .i64 x.1, .int .i64 x.2]
def cellL (cs : List (Int × Int)) : List Value := (cs.map cellR).flatten
theorem cellL_len (cs : List (Int × Int)) : (cellL cs).length = cs.length * 2 := by
  unfold cellL
  rw [flat_len (size := 2) _ (by intro r hr; obtain ⟨x, _, rfl⟩ := List.mem_map.1 hr; rfl), List.length_map]
theorem cellL_push (cs : List (Int × Int)) (x : Int × Int) : cellL cs ++ cellR x = cellL (cs ++ [x]) := by
  unfold cellL; simp
def freeB (cs : List (Int × Int)) (base : Nat) (nd : List Nat) : Bool := nd.all fun i => match cs[base + i]? with | some x => decide (x.1 = 65535) | none => true
def needTo (l : List Int) (d : Int) (j : Nat) : List Nat := (List.range j).filter fun i => decide (l[i]? ≠ some d)
theorem needTo_succ (l : List Int) (d : Int) (j : Nat) : needTo l d (j + 1) = needTo l d j ++ (if l[j]? ≠ some d then [j] else []) := by
  unfold needTo
  rw [List.range_succ, List.filter_append]
  by_cases h : l[j]? = some d <;> simp [h]
theorem needTo_lt {l : List Int} {d : Int} {j : Nat} : ∀ i ∈ needTo l d j, i < j := by
  intro i hi
  unfold needTo at hi
  simpa using (List.mem_filter.1 hi).1
theorem needTo_len (l : List Int) (d : Int) (j : Nat) : (needTo l d j).length ≤ j := by
  unfold needTo
  exact Nat.le_trans (List.length_filter_le _ _) (by simp)
def Least (cs : List (Int × Int)) (nd : List Nat) (b : Nat) : Prop := freeB cs b nd = true ∧ ∀ b', b' < b → freeB cs b' nd = false
theorem Least.one {cs : List (Int × Int)} {nd : List Nat} {a b : Nat} (h : Least cs nd a) (k : Least cs nd b) : a = b := by
  rcases Nat.lt_trichotomy a b with h1 | h1 | h1
  · have := k.2 a h1; rw [h.1] at this; cases this
  · exact h1
  · have := h.2 b h1; rw [k.1] at this; cases this
theorem freeB_end (cs : List (Int × Int)) (nd : List Nat) (b : Nat) (h : cs.length ≤ b) : freeB cs b nd = true := by
  unfold freeB
  rw [List.all_eq_true]
  intro i _
  rw [List.getElem?_eq_none (by omega)]
noncomputable def baseR (cs : List (Int × Int)) (nd : List Nat) : Nat := open Classical in if h : ∃ b, Least cs nd b then Classical.choose h else 0
theorem baseR_eq {cs : List (Int × Int)} {nd : List Nat} {b : Nat} (h : Least cs nd b) : baseR cs nd = b := by
  have hx : ∃ b, Least cs nd b := ⟨b, h⟩
  unfold baseR
  rw [dif_pos hx]
  exact (Classical.choose_spec hx).one h
def growC (cs : List (Int × Int)) (n : Nat) : List (Int × Int) := cs ++ List.replicate (n - cs.length) (65535, 0)
theorem growC_len (cs : List (Int × Int)) (n : Nat) : (growC cs n).length = max cs.length n := by
  simp only [growC, List.length_append, List.length_replicate]; omega
theorem growC_push (cs : List (Int × Int)) (n : Nat) (h : cs.length ≤ n) : growC cs n ++ [(65535, 0)] = growC cs (n + 1) := by
  unfold growC
  rw [show n + 1 - cs.length = (n - cs.length) + 1 from by omega, List.replicate_succ', List.append_assoc]
def putC (cs : List (Int × Int)) (at_ : Nat) (x : Int × Int) : List (Int × Int) := (growC cs (at_ + 1)).set at_ x
theorem putC_len (cs : List (Int × Int)) (at_ : Nat) (x : Int × Int) : (putC cs at_ x).length = max cs.length (at_ + 1) := by
  unfold putC; rw [List.length_set, growC_len]
def layC (st : Int) (l : List Int) (base : Nat) (cs : List (Int × Int)) (nd : List Nat) : List (Int × Int) := nd.foldl (fun cs i => putC cs (base + i) (st, (l[i]?).getD 0)) cs
theorem layC_len (st : Int) (l : List Int) (base B : Nat) : ∀ (nd : List Nat) (cs : List (Int × Int)), (∀ i ∈ nd, base + i + 1 ≤ B) → cs.length ≤ B → (layC st l base cs nd).length ≤ B
  | [], cs, _, h => h
  | i :: nd, cs, hn, h => by
    show (layC st l base (putC cs (base + i) (st, (l[i]?).getD 0)) nd).length ≤ B
    refine layC_len st l base B nd _ (fun j hj => hn j (by simp [hj])) ?_
    rw [putC_len]
    have := hn i (by simp)
    omega
def PkF (m : Mem) (bp : Nat) (cs : List (Int × Int)) : Prop := ∃ v, mcell m ⟨bp, 0, none⟩ = some v ∧ Sl m 2 isC v cs
set_option maxHeartbeats 1000000 in
theorem freeOne_fn (m : Mem) (bp b1 b2 : Nat) (cs : List (Int × Int)) (base : Nat) (h : PkF m bp cs) (h1 : mcell m ⟨b1, 0, none⟩ = some (.int .i64 base)) (h2 : mcell m ⟨b2, 0, none⟩ = some (.pointer (some ⟨bp, 0, none⟩)))
    (hbase : base ≤ 1000000000) (i : Nat) (hi : i ≤ 1000000) :
    FnV Tryz.prog 266 [.int .i64 i, .pointer (some ⟨b1, 0, none⟩), .pointer (some ⟨b2, 0, none⟩)] m (.bool (!(match cs[base + i]? with | some x => decide (x.1 = 65535) | none => true))) := by
  obtain ⟨v, hv, hsl⟩ := h
  have hsl' := hsl
  obtain ⟨A, n, c, rfl, hn, -⟩ := hsl
  refine Fn.enter (N := 27) hX Tryz.func266 rfl rfl (by show _ ≤ _; simp) (fun w0 hL => ?_)
  conv => whnf
  refine DrawReq.plan hX (.fst 0 (.fst 1 (.fst 2 (.fst 3 (.fst 4 (.fst 5 (.fst 6 (.fst 7 (.fst 8 (.fst 9 (.fst 10 (.fst 11 (.fst 12 (.fst 13 (.fst 14 (.fst 15 (.fst 16 (.fst 17 (.fst 18 (.fst 19 (.fst 20 (.fst 21 (.fst 22 (.done)))))))))))))))))))))))) [] (by kernel_rfl) (by kernel_rfl) hL id ?_
  clear hL
  intro w hL
  conv => whnf
  repeat ((first | refine QLdReq.one hX rfl rfl h1 ?_ | refine QLdReq.one hX rfl rfl h2 ?_ | (refine QLdReq.one hX rfl rfl (by rw [addr_add]; exact hv) ?_) | (refine goq1 ?_;try(clear hL;intro w hL))); conv => whnf)
  refine BrReq.dec (fun hlt => ?_) (fun hlt => ?_)
  · have hlt' : base + i < cs.length := by omega
    obtain ⟨a, r, rfl, hl2, hcells, rfl⟩ := hsl'.elem (base + i) _ (List.getElem?_eq_getElem hlt')
    have hc0 := hcells 0 _ rfl
    rw [List.getElem?_eq_getElem hlt']
    conv => whnf
    repeat ((first | refine QLdReq.one hX rfl rfl h1 ?_ | refine QLdReq.one hX rfl rfl h2 ?_ | (refine QLdReq.one hX rfl rfl (by rw [addr_add]; exact hv) ?_) | refine Idx2Req.mk (base + i) a (by omega) (by omega) rfl ?_ | refine QLdReq.one hX rfl rfl hc0 ?_ | (refine goq1 ?_;try(clear hL;intro w hL))); conv => whnf)
    refine RetReq.bool hL ?_
    simp only
    rw [← decide_not]
  · rw [List.getElem?_eq_none (by omega)]
    refine goq ?_;try(clear hL;intro w hL)
    exact RetReq.bool hL rfl
theorem indexFree_fn (m : Mem) (v : Value) (rs : List Int) (f : Int → Bool)(b1 b2 : Nat) (hs : SlI m .i64 v rs) (hf : ∀ p ∈ rs, FnV Tryz.prog 266 ([.int .i64 p] ++ [.pointer (some ⟨b1, 0, none⟩), .pointer (some ⟨b2, 0, none⟩)]) m (.bool (f p))) :
    FnV Tryz.prog 125 [v, .func (.func 266) #[] #[.pointer (some ⟨b1, 0, none⟩), .pointer (some ⟨b2, 0, none⟩)]] m (.int .i64 (idxF f rs)) := by
  have hs' := hs
  obtain ⟨A, n, c, rfl, hn, hc, hm, -⟩ := hs
  have he := hs'.cell.2
  have hmx : maxLen = 9223372036854775807 := rfl
  refine Fn.enter (N := 19) hX Tryz.func125 rfl rfl (by show _ ≤ _; simp) (fun w0 hL => ?_)
  conv => whnf
  refine go ?_;try(clear hL;intro w hL)
  refine LoopReq.inv hX (fun j : Nat => [(8, .int .i64 j)]) [0, 1, 7]
    (fun j w => (j ≤ n ∧ ∀ (i : Nat) (x : Int), i < j → rs[i]? = some x → f x = false) ∧ Ev.Loc m [] w0 m [] w) (fun j => n - j) 0
    ⟨⟨by omega, fun i x h => absurd h (by omega)⟩, hL⟩ ⟨rfl, trivial⟩ ?_
  clear hL
  rintro j w g ⟨⟨hj, hdone⟩, hL⟩
  refine go ?_;try(clear hL;intro w hL)
  refine BrReq.dec (fun hlt => ?_) (fun hlt => ?_)
  · have hlt' : j < rs.length := by omega
    obtain ⟨a, rfl, hcell⟩ := he j _ (List.getElem?_eq_getElem hlt')
    conv => whnf
    repeat ((first | refine Idx2Req.mk j a rfl (by omega) rfl ?_ | (refine LdReq.one hX rfl rfl hL (by rw [scale_eq, Nat.mul_one]; exact hcell) ?_) | (refine go1 ?_;try(clear hL;intro w hL))); conv => whnf)
    refine CallReq.val (hf _ (List.getElem_mem hlt')) hL ?_
    clear hL
    intro w hL
    refine go ?_;try(clear hL;intro w hL)
    refine BrReq.bool (fun hb => ?_) (fun hb => ?_)
    · have e := idxF_at (f := f) rs j _ (List.getElem?_eq_getElem hlt') hb fun q y h1 h2 => hdone q y h1 h2
      refine go ?_;try(clear hL;intro w hL)
      exact RetReq.int hL e.symm
    · have hd : ∀ (i : Nat) (x : Int), i < j + 1 → rs[i]? = some x → f x = false := by
        intro i x hi hx
        by_cases e : i = j
        · subst e
          rw [List.getElem?_eq_getElem hlt'] at hx
          cases hx; exact hb
        · exact hdone i x (by omega) hx
      refine go ?_;try(clear hL;intro w hL)
      exact rnd (j + 1) ⟨⟨by omega, hd⟩, hL⟩
  · refine go ?_;try(clear hL;intro w hL)
    have e : idxF f rs = -1 := idxF_none rs fun x hx => by
      obtain ⟨i, hi, rfl⟩ := List.getElem_of_mem hx
      exact hdone i _ (by omega) (List.getElem?_eq_getElem hi)
    exact RetReq.int hL e.symm
theorem containsFree_fn (m : Mem) (v : Value) (rs : List Int) (f : Int → Bool)(b1 b2 : Nat) (hs : SlI m .i64 v rs) (hf : ∀ p ∈ rs, FnV Tryz.prog 266 ([.int .i64 p] ++ [.pointer (some ⟨b1, 0, none⟩), .pointer (some ⟨b2, 0, none⟩)]) m (.bool (f p))) :
    FnV Tryz.prog 111 [v, .func (.func 266) #[] #[.pointer (some ⟨b1, 0, none⟩), .pointer (some ⟨b2, 0, none⟩)]] m (.bool (rs.any f)) := by
  have hs' := hs
  obtain ⟨A, n, c, rfl, -⟩ := hs
  refine Fn.enter (N := 9) hX Tryz.func111 rfl rfl (by show _ ≤ _; simp) (fun w0 hL => ?_)
  conv => whnf
  refine go ?_;try(clear hL;intro w hL)
  refine CallReq.val (indexFree_fn m _ rs f b1 b2 hs' hf) hL ?_
  clear hL
  intro w hL
  refine go ?_;try(clear hL;intro w hL)
  refine RetReq.bool hL ?_
  rw [Bool.eq_iff_iff, decide_eq_true_iff]
  exact idxF_neg rs
def ndI (nd : List Nat) : List Int := nd.map Int.ofNat
theorem PkF.le {m m' : Mem} (h : Mem.Le m m') {bp : Nat} {cs : List (Int × Int)} (hp : PkF m bp cs) : PkF m' bp cs := by
  obtain ⟨v, h1, h2⟩ := hp
  exact ⟨v, mcell_le h h1, h2.le' h⟩
theorem any_ndI (nd : List Nat) (f : Nat → Bool) : (ndI nd).any (fun p => !f p.toNat) = !nd.all f := by
  induction nd with
  | nil => rfl
  | cons i nd ih =>
    show (!f i || (ndI nd).any fun p => !f p.toNat) = !(f i && nd.all f)
    rw [ih]; cases f i <;> rfl
theorem free_fn (m : Mem) (bp : Nat) (cs : List (Int × Int)) (base : Nat) (nd : List Nat) (v : Value) (h : PkF m bp cs) (hv : SlI m .i64 v (ndI nd)) (hbase : base ≤ 1000000000) (hnd : ∀ i ∈ nd, i ≤ 1000000) :
    FnV Tryz.prog 200 [.pointer (some ⟨bp, 0, none⟩), .int .i64 base, v] m (.bool (freeB cs base nd)) := by
  have hv' := hv
  obtain ⟨A, n, c, rfl, -⟩ := hv
  refine Fn.enter (N := 11) hX Tryz.func200 rfl rfl (by show _ ≤ _; simp) (fun w0 hL => ?_)
  conv => whnf
  refine NewReq.mk hL ?_
  clear hL
  intro b2 w hL
  replace hL : Ev.Loc m [] w0 m [(b2, .cells (toArr [.pointer (some ⟨bp, 0, none⟩)]) 224 (0, 0))] w := hL
  have hle := hL.le_add
  have hc2 : mcell (m.add b2 (.cells (toArr [.pointer (some ⟨bp, 0, none⟩)]) 224 (0, 0))) ⟨b2, 0, none⟩ = some (.pointer (some ⟨bp, 0, none⟩)) := by
    simp [mcell, Mem.add_same, ocell, toArr]
  replace hL := hL.freeze
  generalize Mem.add m b2 _ = m1 at hL hle hc2
  conv => whnf
  refine NewReq.mk hL ?_
  clear hL
  intro b1 w hL
  replace hL : Ev.Loc m [] w0 m1 [(b1, .cells (toArr [.int .i64 base]) 3 (0, 0))] w := hL
  have hle2 := hL.le_add
  have hc1 : mcell (m1.add b1 (.cells (toArr [.int .i64 base]) 3 (0, 0))) ⟨b1, 0, none⟩ = some (.int .i64 base) := by
    simp [mcell, Mem.add_same, ocell, toArr]
  replace hL := hL.freeze
  generalize Mem.add m1 b1 _ = m2 at hL hle2 hc1
  replace hc2 := mcell_le hle2 hc2
  refine go ?_;try(clear hL;intro w hL)
  refine CallReq.val (containsFree_fn m2 _ (ndI nd) (fun p => !(match cs[base + p.toNat]? with | some x => decide (x.1 = 65535) | none => true)) b1 b2 (hv'.le' (hle.trans hle2)) fun p hp => ?_) hL ?_
  · obtain ⟨i, hi, rfl⟩ := List.mem_map.1 hp
    exact freeOne_fn m2 bp b1 b2 cs base (h.le (hle.trans hle2)) hc1 hc2 hbase i (hnd i hi)
  clear hL
  intro w hL
  rw [any_ndI nd fun i => match cs[base + i]? with | some x => decide (x.1 = 65535) | none => true]
  refine go ?_;try(clear hL;intro w hL)
  refine RetReq.bool hL ?_
  rw [Bool.not_not]; rfl
def PkL (bp : Nat) (cs : List (Int × Int)) (bs ds : List Int) (L : Own) : Prop := ∃ v1 v2 v3 L1 L2 L3, L = (bp, .cells (toArr [v1, v2, v3]) 227 (0, 0)) :: (L1 ++ (L2 ++ L3)) ∧
  OwnS 230 2 v1 (cellL cs) L1 ∧ OwnS 3 1 v2 (ints .i64 bs) L2 ∧ OwnS 3 1 v3 (ints .i64 ds) L3
theorem PkL.nil (bp : Nat) : PkL bp [] [] [] [(bp, .cells (toArr [.slice none 0 0, .slice none 0 0, .slice none 0 0]) 227 (0, 0))] :=
  ⟨_, _, _, [], [], [], rfl, OwnS.nil _ _, OwnS.nil _ _, OwnS.nil _ _⟩
theorem cells_freeze {m0 m : Mem} {S : List Nat} {w0 w : World} {v : Value} {cs : List (Int × Int)} {L1 L2 : Own} (h : OwnS 230 2 v (cellL cs) L1) (hL : Ev.Loc m0 S w0 m (L1 ++ L2) w) :
    ∃ m', Ev.Loc m0 S w0 m' L2 w ∧ Mem.Le m m' ∧ Sl m' 2 isC v cs := by
  obtain ⟨m', A, c, -, h1, h2, h3, -⟩ := OwnS.freezeRows (R := isC) (l := cs) (by omega) h hL (by intro r hr; obtain ⟨x, _, rfl⟩ := List.mem_map.1 hr; rfl) (by simp)
    (fun i x hx => ⟨cellR x, by rw [List.getElem?_map, hx]; rfl, rfl⟩)
  exact ⟨m', h1, h2, h3⟩
theorem PkL.lent {m0 m : Mem} {S : List Nat} {w0 w : World} {bp : Nat} {v1 v2 v3 : Value} {cs : List (Int × Int)} {L1 L2 : Own} (h : OwnS 230 2 v1 (cellL cs) L1)
    (hL : Ev.Loc m0 S w0 m ((bp, .cells (toArr [v1, v2, v3]) 227 (0, 0)) :: (L1 ++ L2)) w) : ∃ m', Mem.Le m m' ∧ (∀ b o, m' b = some o → w.heap[b]? = some o) ∧ PkF m' bp cs := by
  have hle := hL.le_add
  have hc : mcell (m.add bp (.cells (toArr [v1, v2, v3]) 227 (0, 0))) ⟨bp, 0, none⟩ = some v1 := by simp [mcell, Mem.add_same, ocell, toArr]
  obtain ⟨m', h1, h2, h3⟩ := cells_freeze h hL.freeze
  exact ⟨m', hle.trans h2, h1.sub, v1, mcell_le h2 hc, h3⟩
theorem ndI_push (l : List Int) (d : Int) (j : Nat) (h : l[j]? ≠ some d) : ints .i64 (ndI (needTo l d j)) ++ [.int .i64 (j : Int)] = ints .i64 (ndI (needTo l d (j + 1))) := by
  rw [needTo_succ, if_pos h]
  simp [ints, ndI]
theorem ndI_skip (l : List Int) (d : Int) (j : Nat) (h : l[j]? = some d) : ndI (needTo l d j) = ndI (needTo l d (j + 1)) := by
  rw [needTo_succ, if_neg (by rw [h]; simp)]
  simp
set_option maxHeartbeats 4000000 in
theorem lay_fn (m : Mem) (bp : Nat) (cs : List (Int × Int)) (bs ds : List Int) (st : Int) (v : Value) (l : List Int) (L : Own) (hv : SlI m .i64 v l) (hne : 0 < l.length) (hl : l.length ≤ 10000)
    (hcs : cs.length ≤ 100000000) (hbs : bs.length ≤ 100000) (hds : ds.length ≤ 100000) (hP : PkL bp cs bs ds L) :
    Ev.Fn Tryz.prog 117 [.pointer (some ⟨bp, 0, none⟩), .int .i64 st, v] m L fun m' L' u => u = .tuple (toArr []) ∧ m' = m ∧
      PkL bp (layC st l (baseR cs (needTo l (usR l) l.length)) cs (needTo l (usR l) l.length)) (bs ++ [(baseR cs (needTo l (usR l) l.length) : Int)]) (ds ++ [usR l]) L' := by
  have hmx : maxLen = 9223372036854775807 := rfl
  obtain ⟨v1, v2, v3, L1, L2, L3, rfl, ho1, ho2, ho3⟩ := hP
  have hv' := hv
  obtain ⟨A, n, c, rfl, hn, -⟩ := hv
  have he := hv'.cell.2
  refine Fn.enter (N := 97) hX Tryz.func117 rfl rfl (by show _ ≤ _; simp) (fun w0 hL => ?_)
  conv => whnf
  generalize keys ((bp, Obj.cells (toArr [v1, v2, v3]) 227 (0, 0)) :: (L1 ++ (L2 ++ L3))) = S0 at hL ⊢
  refine go ?_;try(clear hL;intro w hL)
  refine CallReq.val (usual_fn m _ l hv' hne) hL ?_
  clear hL
  intro w hL
  refine go ?_;try(clear hL;intro w hL)
  generalize hd : usR l = d
  refine LoopReq.inv hX (fun s : Nat × Value => [(7, s.2), (17, .int .i64 s.1)]) [0, 1, 2, 6, 15, 16]
    (fun s w => s.1 ≤ n ∧ ∃ Ln, OwnS 3 1 s.2 (ints .i64 (ndI (needTo l d s.1))) Ln ∧ Ev.Loc m S0 w0 m (Ln ++ ((bp, .cells (toArr [v1, v2, v3]) 227 (0, 0)) :: (L1 ++ (L2 ++ L3)))) w) (fun s => n - s.1) (0, .slice none 0 0)
    ⟨by omega, [], OwnS.nil _ _, hL⟩ ⟨rfl, rfl, trivial⟩ ?_
  clear hL
  rintro ⟨j, u⟩ w f ⟨hj, Ln, hou, hL⟩
  simp only at hj hou hL
  obtain ⟨A1, n1, c1, rfl, hn1⟩ := hou.slice
  refine go ?_;try(clear hL;intro w hL)
  refine BrReq.dec (fun hlt => ?_) (fun hlt => ?_)
  · have hlt' : j < l.length := by simp only at hlt; omega
    obtain ⟨a, rfl, hcell⟩ := he j _ (List.getElem?_eq_getElem hlt')
    conv => whnf
    repeat ((first | (refine Idx2Req.mk j a rfl (by simp only at hlt; omega) rfl ?_) | (refine LdReq.one hX rfl rfl hL (by rw [scale_eq, Nat.mul_one]; exact hcell) ?_) | (refine go1 ?_;try(clear hL;intro w hL))); conv => whnf)
    refine BrReq.dec (fun hne2 => ?_) (fun hne2 => ?_)
    · have hstep := ndI_push l d j (by rw [List.getElem?_eq_getElem hlt']; intro h; exact hne2 (by injection h))
      have hlen := needTo_len l d j
      refine go ?_;try(clear hL;intro w hL)
      refine NewReq.mk hL ?_
      clear hL
      intro g w hL
      refine go ?_;try(clear hL;intro w hL)
      refine RunReq.push hX 46 3 rfl rfl rfl rfl rfl hou hL rfl rfl (by simp [ints, ndI]; omega) rfl ?_
      clear hL
      intro A2 n2 c2 Ln2 w hn2 ho2' hL
      replace ho2' : OwnS 3 1 (.slice A2 n2 c2) (ints .i64 (ndI (needTo l d j)) ++ [.int .i64 (j : Int)]) Ln2 := ho2'
      rw [hstep] at ho2'
      refine go ?_;try(clear hL;intro w hL)
      exact rnd (j + 1, Value.slice A2 n2 c2) ⟨by simp only at hlt ⊢; omega, Ln2, ho2', hL⟩
    · have hstep := ndI_skip l d j (by rw [List.getElem?_eq_getElem hlt', Classical.not_not.1 hne2])
      rw [hstep] at hou
      refine go ?_;try(clear hL;intro w hL)
      exact rnd (j + 1, Value.slice A1 n1 c1) ⟨by simp only at hlt ⊢; omega, Ln, hou, hL⟩
  · have ej : j = l.length := by simp only at hlt; omega
    subst ej
    generalize hnd : needTo l d l.length = nd at hou ⊢
    have hndl : nd.length ≤ l.length := by rw [← hnd]; exact needTo_len l d l.length
    have hndlt : ∀ i ∈ nd, i < l.length := by rw [← hnd]; exact fun i hi => needTo_lt i hi
    obtain ⟨m1, hL, hm1, hsn⟩ := hou.freeze hL
    refine go ?_;try(clear hL;intro w hL)
    refine LoopReq.inv hX (fun b : Nat => [(10, .int .i64 b)]) [0, 1, 2, 6, 7]
      (fun b w => (b ≤ cs.length ∧ ∀ b', b' < b → freeB cs b' nd = false) ∧ Ev.Loc m S0 w0 m1 ((bp, .cells (toArr [v1, v2, v3]) 227 (0, 0)) :: (L1 ++ (L2 ++ L3))) w) (fun b => cs.length - b) 0
      ⟨⟨by omega, by omega⟩, hL⟩ ⟨rfl, trivial⟩ ?_
    clear hL
    rintro b w g ⟨⟨hb, hbs'⟩, hL⟩
    refine go ?_;try(clear hL;intro w hL)
    obtain ⟨m2, hm2, hm2h, hpk⟩ := PkL.lent ho1 hL
    refine CallReq.lend (free_fn m2 bp cs b nd _ hpk (hsn.le' hm2) (by omega) (fun i hi => by have := hndlt i hi; omega)) hm2h hL ?_
    clear hL hm2h
    intro w hL
    refine go ?_;try(clear hL;intro w hL)
    refine BrReq.not ?_
    refine BrReq.bool (fun hfr => ?_) (fun hfr => ?_)
    · have hbase : baseR cs nd = b := baseR_eq ⟨hfr, hbs'⟩
      rw [hbase]
      have hen := hsn.cell.2
      have hn3' : n1 = nd.length := by rw [hsn.len.1]; simp [ndI]
      refine go ?_;try(clear hL;intro w hL)
      refine LoopReq.inv hX (fun q : Nat => [(39, .int .i64 q)]) [0, 1, 2, 6, 10, 37, 38]
        (fun q w => q ≤ n1 ∧ ∃ v1 L1, OwnS 230 2 v1 (cellL (layC st l b cs (nd.take q))) L1 ∧ Ev.Loc m S0 w0 m1 ((bp, .cells (toArr [v1, v2, v3]) 227 (0, 0)) :: (L1 ++ (L2 ++ L3))) w) (fun q => n1 - q) 0
        ⟨by omega, v1, L1, ho1, hL⟩ ⟨rfl, trivial⟩ ?_
      clear hL ho1
      rintro q w g1 ⟨hq, v1, L1, ho1, hL⟩
      have hccl : (layC st l b cs (nd.take q)).length ≤ cs.length + 10001 := layC_len st l b _ _ _ (fun i hi => by have := hndlt i (List.mem_of_mem_take hi); omega) (by omega)
      generalize hcc : layC st l b cs (nd.take q) = cc at ho1 hccl
      refine go ?_;try(clear hL;intro w hL)
      refine BrReq.dec (fun hlt2 => ?_) (fun hlt2 => ?_)
      · have hq' : q < nd.length := by omega
        have hil := hndlt _ (List.getElem_mem hq')
        obtain ⟨a3, rfl, hc3⟩ := hen q (nd[q] : Nat) (by unfold ndI; rw [List.getElem?_map, List.getElem?_eq_getElem hq']; rfl)
        obtain ⟨a, rfl, hcell⟩ := he nd[q] _ (List.getElem?_eq_getElem hil)
        have hstep : layC st l b cs (nd.take (q + 1)) = putC cc (b + nd[q]) (st, l[nd[q]]) := by
          rw [List.take_succ_eq_append_getElem hq']
          unfold layC at hcc ⊢
          rw [List.foldl_append, hcc]
          simp [List.getElem?_eq_getElem hil]
        generalize nd[q] = i at hil hc3 hcell hstep
        conv => whnf
        repeat ((first | refine Idx2Req.mk q a3 rfl (by omega) rfl ?_ | (refine LdReq.one hX rfl rfl hL (by rw [scale_eq, Nat.mul_one]; exact hc3) ?_) | (refine go1 ?_;try(clear hL;intro w hL))); conv => whnf)
        refine LoopReq.inv hX (fun _ : Nat => []) [0, 1, 2, 6, 10, 12, 37, 38, 39]
          (fun k w => cc.length ≤ k ∧ k ≤ max cc.length (b + i + 1) ∧ ∃ v1 L1, OwnS 230 2 v1 (cellL (growC cc k)) L1 ∧ Ev.Loc m S0 w0 m1 ((bp, .cells (toArr [v1, v2, v3]) 227 (0, 0)) :: (L1 ++ (L2 ++ L3))) w) (fun k => b + i + 1 - k) cc.length
          ⟨Nat.le_refl _, by omega, v1, L1, by unfold growC; rw [Nat.sub_self]; simpa using ho1, hL⟩ trivial ?_
        clear hL ho1
        rintro k w g2 ⟨hk1, hk2, v1, L1, ho1, hL⟩
        have hgl := growC_len cc k
        have hcl := cellL_len (growC cc k)
        obtain ⟨A4, n4, c4, rfl, hn4⟩ := ho1.slice
        refine go ?_;try(clear hL;intro w hL)
        have hn4k : n4 = k := by omega
        refine BrReq.dec (fun hlt3 => ?_) (fun hlt3 => ?_)
        · refine go ?_;try(clear hL;intro w hL)
          refine NewReq.mk hL ?_
          clear hL
          intro g w hL
          conv => whnf
          refine go ?_;try(clear hL;intro w hL)
          refine RunReq.push hX 225 230 rfl rfl rfl rfl rfl ho1 (hL.perm (List.Perm.cons _ List.perm_middle.symm)) rfl rfl (by rw [hcl]; show (growC cc k).length * 2 + 2 ≤ _; omega) rfl ?_
          clear hL
          intro A5 n5 c5 L1' w hn5 ho5 hL
          replace ho5 : OwnS 230 2 (.slice A5 n5 c5) (cellL (growC cc k) ++ cellR (65535, 0)) L1' := ho5
          rw [cellL_push, growC_push cc k hk1] at ho5
          replace hL := hL.perm List.perm_middle
          refine go ?_;try(clear hL;intro w hL)
          exact rnd (k + 1) ⟨by omega, by omega, _, L1', ho5, hL⟩
        · have hke : growC cc k = growC cc (b + i + 1) := by unfold growC; congr 2; omega
          have hlen2 : b + i < (growC cc (b + i + 1)).length := by rw [growC_len]; omega
          rw [hke] at ho1 hgl hcl
          obtain ⟨n4', hn4', hh⟩ := ho1
          rcases hh with ⟨e4, h40, -⟩ | ⟨gg, cap, cur, e4, rfl, q1, q2, q3, q4⟩
          · injection e4 with e1 e2 e3; omega
          injection e4 with e1 e2 e3
          subst e1 e2 e3
          refine go ?_;try(clear hL;intro w hL)
          refine DrawReq.plan hX (.fst 0 (.fst 1 (.fst 2 (.fst 3 (.fst 4 (.fst 5 (.fst 6 (.fst 7 (.fst 8 (.fst 9 (.fst 10 (.fst 11 (.fst 12 (.fst 13 (.alt 14 (.done) (.stop)))))))))))))))) [(bp, .cells (toArr [.slice (some ⟨gg, 0, none⟩) n4 c4, v2, v3]) 227 (0, 0))] (by kernel_rfl) (by kernel_rfl) hL (fun h => h.one 0 rfl) ?_
          clear hL
          intro w hL
          conv => whnf
          repeat ((first | (refine QLdReq.one hX rfl rfl (by rw [scale_eq, Nat.mul_one]; exact mcell_le hm1 hcell) ?_) | refine Idx2Req.mk i a rfl (by omega) rfl ?_ | refine Idx2Req.mk (b + i) _ (by omega) (by omega) rfl ?_ | (refine goq1 ?_;try(clear hL;intro w hL))); conv => whnf)
          refine StReq.ownAt hX rfl 1 hL rfl rfl (by rw [q3, scale_eq]; show 0 + (b + i) * 2 + 2 ≤ c4 * 2; omega) rfl ?_
          clear hL
          intro w hL
          have hrow := owns_row (te := 230) (size := 2) (g := gg) (row := cellR (st, l[i])) (b + i) q1 q2 q3 (rows := (growC cc (b + i + 1)).map cellR) q4 (by intro r hr; obtain ⟨x, _, rfl⟩ := List.mem_map.1 hr; rfl) (by simpa using hlen2) rfl (by simp; omega)
          have hput : (((growC cc (b + i + 1)).map cellR).set (b + i) (cellR (st, l[i]))).flatten = cellL (putC cc (b + i) (st, l[i])) := by
            unfold cellL putC; rw [List.map_set]
          rw [hput, ← hstep] at hrow
          replace hL : Ev.Loc m S0 w0 m1 ((bp, .cells (toArr [.slice (some ⟨gg, 0, none⟩) n4 c4, v2, v3]) 227 (0, 0)) :: ([(gg, .cells (toArr (spliceL cur (0 + scale (b + i) 2) (cellR (st, l[i])))) 230 (0, 0))] ++ (L2 ++ L3))) w := hL
          rw [scale_eq, Nat.zero_add] at hL
          conv => whnf
          repeat ((first | refine SReq.mk (hL.one 0 rfl) ?_ | (refine goq1 ?_;try(clear hL;intro w hL))); conv => whnf)
          refine go ?_;try(clear hL;intro w hL)
          exact rnd (q + 1) ⟨by omega, _, _, hrow, hL⟩
      · have eq : q = nd.length := by omega
        subst eq
        rw [List.take_length] at hcc
        subst hcc
        have pm2 : ∀ (x : Nat × Obj) (a b c : Ev.Own), (x :: (a ++ (b ++ c))).Perm (b ++ (x :: (a ++ c))) := fun x a b c => ((List.perm_append_comm_assoc a b c).cons x).trans List.perm_middle.symm
        have pm3 : ∀ (x : Nat × Obj) (a b c : Ev.Own), (x :: (a ++ (b ++ c))).Perm (c ++ (x :: (a ++ b))) := fun x a b c => by
          rw [← List.append_assoc]
          exact ((List.perm_append_comm (l₁ := a ++ b) (l₂ := c)).cons x).trans List.perm_middle.symm
        obtain ⟨A6, n6, c6, rfl, hn6⟩ := ho2.slice
        obtain ⟨A7, n7, c7, rfl, hn7⟩ := ho3.slice
        refine go ?_;try(clear hL;intro w hL)
        refine NewReq.mk hL ?_
        clear hL
        intro g w hL
        conv => whnf
        refine go ?_;try(clear hL;intro w hL)
        refine RunReq.push hX 46 3 rfl rfl rfl rfl rfl ho2 (hL.perm (List.Perm.cons _ (pm2 _ _ _ _))) rfl rfl (by simp [ints]; omega) rfl ?_
        clear hL
        intro A8 n8 c8 L2' w hn8 ho8 hL
        replace ho8 : OwnS 3 1 (.slice A8 n8 c8) (ints .i64 bs ++ ints .i64 [(b : Int)]) L2' := ho8
        rw [← ints_append] at ho8
        replace hL := hL.perm (pm2 _ _ _ _).symm
        refine go ?_;try(clear hL;intro w hL)
        refine NewReq.mk hL ?_
        clear hL
        intro g2 w hL
        conv => whnf
        refine go ?_;try(clear hL;intro w hL)
        refine RunReq.push hX 46 3 rfl rfl rfl rfl rfl ho3 (hL.perm (List.Perm.cons _ (pm3 _ _ _ _))) rfl rfl (by simp [ints]; omega) rfl ?_
        clear hL
        intro A9 n9 c9 L3' w hn9 ho9 hL
        replace ho9 : OwnS 3 1 (.slice A9 n9 c9) (ints .i64 ds ++ ints .i64 [d]) L3' := ho9
        rw [← ints_append] at ho9
        replace hL := hL.perm (pm3 _ _ _ _).symm
        refine go ?_;try(clear hL;intro w hL)
        exact RetReq.mk (hL.weaken hm1 (Mem.Le.refl m)) ⟨rfl, rfl, _, _, _, L1, L2', L3', rfl, ho1, ho8, ho9⟩
    · have hblt : b < cs.length := by
        refine Nat.lt_of_not_le fun hle => ?_
        rw [freeB_end cs nd b hle] at hfr; cases hfr
      have hnext : ∀ b', b' < b + 1 → freeB cs b' nd = false := by
        intro b' hb'
        by_cases e : b' = b
        · subst e; exact hfr
        · exact hbs' b' (by omega)
      refine go ?_;try(clear hL;intro w hL)
      exact rnd (b + 1) ⟨⟨by omega, hnext⟩, hL⟩
end Go.Proofs.YtloofgoblodeiaaGreatDoor.mach
