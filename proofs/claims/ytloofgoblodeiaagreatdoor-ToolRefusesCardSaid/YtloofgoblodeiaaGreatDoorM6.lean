/- ToolRefuses: part 6 of 10 of the proof. Conditions: none. -/
import Derived.Test.YtloofgoblodeiaaGreatDoorM1
import Derived.Test.YtloofgoblodeiaaGreatDoorM2
import Derived.Test.YtloofgoblodeiaaGreatDoorM5
import Derived.Test.YtloofgoblodeiaaGreatDoorM4
import Derived.Lib.LaidTab
import Derived.Lib.Builder
import Derived.Lib.UnsafeStr
import Derived.Lib.AppendStr
import Derived.Laws.Externs
import Derived.Lib.AppendZerosOnto
namespace Go.Proofs.YtloofgoblodeiaaGreatDoor.fk
open Go Go.Ev Go.Proofs
def TabMem (m : Mem) : Prop := ∃ g t f, Tryz.prog.globalNamed "internal/strconv.uint64pow10" = some g ∧ m g = some (.cells (Lib.pow10Tab.map fun z => Value.int .u64 z).toArray t f)
theorem TabMem.le {m m' : Mem} (h : Mem.Le m m') (k : TabMem m) : TabMem m' := by
  obtain ⟨g, t, f, h1, h2⟩ := k
  exact ⟨g, t, f, h1, h _ _ h2⟩
theorem itoa_fn (m : Mem) (hQ : TabMem m) (n : Int) (h0 : -9223372036854775808 ≤ n) (h1 : n ≤ 9223372036854775807) : FnV Tryz.prog 22 [.int .i64 n] m (.string ⟨(Lib.itoa n).toArray⟩) := by
  intro w hw
  obtain ⟨g, t, f, hg, hm⟩ := hQ
  have htab : Lib.TabIs Tryz.prog w "internal/strconv.uint64pow10" .u64 Lib.pow10Tab := by
    unfold Lib.TabIs World.var?
    rw [hg]
    simp only [Option.bind_some]
    rw [hw.sub g _ hm]
  refine (Tryz.strconv_Itoa n h0 h1 w htab).mono ?_
  rintro e w' ⟨rfl, k, os, rfl⟩
  have hold : ∀ b : Nat, b < w.heap.size → (Sort.grow (w.drewN k) os).heap[b]? = w.heap[b]? := fun b hb => by
    show (w.heap ++ os)[b]? = _
    rw [Array.getElem?_append_left hb]
  refine ⟨_, m, [], rfl, ⟨rfl, rfl, rfl, ?_, fun b hb _ => hold b hb, fun b o hb => ?_, fun _ _ _ => by simp [keys], fun x hx => by simp at hx, by simp [keys], fun b hb => by simp [keys] at hb, Mem.Le.refl m, fun b o hb => .inl hb⟩, rfl, rfl⟩
  · show w.heap.size ≤ (w.heap ++ os).size
    simp
  · have := hw.sub b o hb
    rw [hold b (heap_lt this)]; exact this
def bI (l : List UInt8) : List Int := l.map fun b => (b.toNat : Int)
theorem bI_append (a b : List UInt8) : bI (a ++ b) = bI a ++ bI b := by simp [bI]
theorem bI_len (l : List UInt8) : (bI l).length = l.length := by simp [bI]
def bdO (p : Option Addr) (v : Value) : Obj := .cells (toArr [.pointer p, v]) 139 (0, 0)
def Bld (b : Nat) (l : List UInt8) (L : Own) : Prop := ∃ p v L1, L = (b, bdO p v) :: L1 ∧ (p = none ∨ p = some ⟨b, 0, none⟩) ∧ OwnS 5 1 v (ints .u8 (bI l)) L1 ∧ (l = [] → v = .slice none 0 0 ∧ L1 = [])
section
variable {N : Nat} {m0 m : Mem} {S : List Nat} {w0 w : World} {L : Own}
theorem GenReq.extern {o : Oper} {ρ : Operand → Value} {c : Call} {x : Operand} {g : Nat} {v : Value} {args : List Value} {K : Value → World → Prop} (ho : o.op = .call c) (hc : c.callee = .value x) (hx : ρ x = .func (.func g) #[] #[]) (ha : c.args.toList.map ρ = args)
    (hrun : ∀ w, (callFunc g (toArr args)).run Tryz.prog w = .ok (.value v) w) (h : K v w) : GenReq Tryz.prog o ρ w K := by
  constructor
  unfold OpOk
  have hargs : c.args.map ρ = toArr args := by apply Array.ext'; rw [Array.toList_map, ha]; rfl
  have hex : execOp ρ o = callFunc g (toArr args) := by rw [← hargs]; simp [execOp, ho, resolve, hc, hx, Deferred.ofValue, invoke]
  rw [hex, hrun]
  exact h
theorem run_escape (v : Value) (w : World) : (callFunc 201 (toArr [v])).run Tryz.prog w = .ok (.value v) w := by
  rw [run_callFunc_extern Tryz.func201 (by kernel_rfl) (by kernel_rfl) (by kernel_rfl) (e := Extern.AbiNoEscape.same) (by kernel_rfl), show toArr [v] = #[v] from rfl, Lib.run_noEscape]
  rfl
theorem shape_own {i b : Nat} {cs : List Value} {t : TypeId} {f : Nat × Nat} (hL : Ev.Loc m0 S w0 m L w) (hi : Ev.look L i = some (b, .cells (toArr cs) t f)) : w.shape? b = some (t, cs.length) := by
  rw [look_eq] at hi
  have hm := hL.own _ (List.mem_of_getElem? hi)
  unfold World.shape?
  simp only at hm
  rw [hm]; simp [toArr]
theorem UGenReq.ptrNeSame {o : Oper} {ρ : Operand → Value} {t yt e : Nat} {x y : Operand} {a : Addr} {j : TypeInfo} {K : Value → Prop} (ho : o.op = .binOp .neq t x y yt) (hx : ρ x = .pointer (some a)) (hy : ρ y = .pointer (some a))
    (hu : Tryz.prog.underlying t = some (.pointer e)) (hj : Tryz.prog.info? e = some j) (h : K (.bool false)) : UGenReq Tryz.prog o ρ K := by
  have hex : execOp ρ o = (do pure (.value (← (do eqGuard .neq t x y (.pointer (some a)) (.pointer (some a)); binOp .neq t (.pointer (some a)) (.pointer (some a)) : Sem Value)))) := by simp only [execOp, ho, hx, hy]
  have hg : eqGuard .neq t x y (.pointer (some a)) (.pointer (some a)) = pure () := by simp [eqGuard]
  refine ⟨UOk.of_run _ hex (fun w => ?_) h⟩
  rw [hg]
  have := Lib.run_neq_ptr_same (w := w) a hu hj
  simp only [Sem.run_bind, Sem.run_pure, Result.andThen_ok]
  exact this
end
set_option maxRecDepth 10000 in
theorem copyCheck_fn (m : Mem) (b : Nat) (p : Option Addr) (v : Value) (hp : p = none ∨ p = some ⟨b, 0, none⟩) :
    Ev.Fn Tryz.prog 118 [.pointer (some ⟨b, 0, none⟩)] m [(b, bdO p v)] fun m' L' u => u = .tuple (toArr []) ∧ m' = m ∧ L' = [(b, bdO (some ⟨b, 0, none⟩) v)] := by
  obtain ⟨j, hj, hjs⟩ := Option.map_eq_some_iff.1 (show (Tryz.prog.info? 139).map (·.size) = some 2 by kernel_rfl)
  rcases hp with rfl | rfl
  · refine Fn.enter (N := 20) hX Tryz.func118 rfl rfl (by show _ ≤ _; simp) (fun w0 hL => ?_)
    conv => whnf
    replace hL : Ev.Loc m [b] w0 m [(b, .cells (toArr [.pointer none, v]) 139 (0, 0))] w0 := hL
    conv => whnf
    repeat ((first | refine UGenReq.nilPtr hX rfl rfl rfl rfl rfl ?_ | (refine go1 ?_;try(clear hL;intro w hL))); conv => whnf)
    refine RunReq.mk (Lib.run_to_unsafe (w := w0) ⟨b, 0, none⟩ Tryz.underlying137 Tryz.underlying327 hj (by rw [hjs]; decide) (shape_own hL (i := 0) rfl) (by show (0 : Nat) < 2; omega)) ?_
    conv => whnf
    repeat ((first | refine GenReq.extern (v := .pointer (some ⟨b, 0, none⟩)) rfl rfl rfl rfl (fun w => run_escape _ w) ?_ | (refine go1 ?_;try(clear hL;intro w hL))); conv => whnf)
    refine RunReq.mk (Lib.run_from_unsafe (w := w0) ⟨b, 0, none⟩ Tryz.underlying327 Tryz.underlying137 hj (shape_own hL (i := 0) rfl) (by kernel_rfl)) ?_
    refine go ?_;try(clear hL;intro w hL)
    exact RetReq.mk hL ⟨rfl, rfl, rfl⟩
  · refine Fn.enter (N := 20) hX Tryz.func118 rfl rfl (by show _ ≤ _; simp) (fun w0 hL => ?_)
    conv => whnf
    replace hL : Ev.Loc m [b] w0 m [(b, .cells (toArr [.pointer (some ⟨b, 0, none⟩), v]) 139 (0, 0))] w0 := hL
    conv => whnf
    repeat ((first | refine UGenReq.nilPtr hX rfl rfl rfl rfl rfl ?_ | refine UGenReq.ptrNeSame rfl rfl rfl Tryz.underlying137 hj ?_ | (refine go1 ?_;try(clear hL;intro w hL))); conv => whnf)
    exact RetReq.mk hL ⟨rfl, rfl, rfl⟩
theorem strCells_bI (l : List UInt8) : Lib.strCells ⟨l.toArray⟩ = ints .u8 (bI l) := by
  unfold Lib.strCells ints bI
  rw [List.map_map]; rfl
section
variable {m0 m : Mem} {S : List Nat} {w0 w : World} {L1 L2 : Own}
theorem appendStr {ty : TypeId} {v : Value} {xs : List Value} {l : List UInt8} {K : Value → World → Prop} (hown : OwnS 5 1 v xs L1) (hL : Ev.Loc m0 S w0 m (L1 ++ L2) w) (hl : 0 < l.length) (hb : xs.length + l.length ≤ 1099511627776)
    (h : ∀ A n c L1' w', n = xs.length + l.length → OwnS 5 1 (.slice A n c) (xs ++ ints .u8 (bI l)) L1' → Ev.Loc m0 S w0 m (L1' ++ L2) w' → K (.slice A n c) w') :
    RunReq Tryz.prog (Builtin.append_ #[27, 9] ty (toArr [v, .string ⟨l.toArray⟩])) w K := by
  obtain ⟨i, hi, hz, hs1, hb1⟩ : ∃ i, Tryz.prog.info? 5 = some i ∧ i.zero = some (.int .u8 0) ∧ i.size = 1 ∧ i.bytes = 1 := by
    have g1 : (Tryz.prog.info? 5).bind (·.zero) = some (.int .u8 0) := by kernel_rfl
    have g2 : (Tryz.prog.info? 5).map (·.size) = some 1 := by kernel_rfl
    have g3 : (Tryz.prog.info? 5).map (·.bytes) = some 1 := by kernel_rfl
    cases hi : Tryz.prog.info? 5 with
    | none => rw [hi] at g2; cases g2
    | some i =>
      rw [hi] at g1 g2 g3
      exact ⟨i, rfl, g1, Option.some.inj g2, Option.some.inj g3⟩
  have hsz : (⟨l.toArray⟩ : ByteArray).size = l.length := by show l.toArray.size = _; simp
  have hsc := strCells_bI l
  have harg : toArr [v, .string ⟨l.toArray⟩] = #[v, .string ⟨l.toArray⟩] := rfl
  have hbl : (ints .u8 (bI l)).length = l.length := by simp [ints, bI_len]
  have hzc : ∀ n, (Builtin.zeroCells (Value.int .u8 0).cells n).toList.length = n := fun n => by
    rw [Array.length_toList, size_zeroCells]; show n * 1 = n; omega
  rw [harg]
  obtain ⟨n, hn, ⟨rfl, rfl, rfl⟩ | ⟨g, cap, cur, rfl, rfl, h1, h2, h3, h4⟩⟩ := hown
  · have hx : xs = [] := List.eq_nil_of_length_eq_zero (by omega)
    subst hx
    have hrun := run_append_nil_string (P := Tryz.prog) (w := w) 27 9 ty 5 i (.int .u8 0) Tryz.underlying27 Tryz.underlying9 hi hz ⟨l.toArray⟩ (by omega) (by rw [hsz]; simp at hb; omega) (by rw [hsz, hb1]; simp at hb; omega)
    have hge := grownCap_ge w l.length 0 5
    have hle := grownCap_le_maxLen w l.length 0 5 (by simp at hb; simp only [maxLen]; omega)
    rw [hsz] at hrun
    generalize grownCap w l.length 0 5 = gc at *
    have hcells : ((⟨l.toArray⟩ : ByteArray).data.map (fun b => Value.int .u8 b.toNat) ++ Builtin.zeroCells (Value.int .u8 0).cells (gc - l.length)) = toArr (ints .u8 (bI l) ++ (Builtin.zeroCells (Value.int .u8 0).cells (gc - l.length)).toList) := by
      apply Array.ext'
      rw [Array.toList_append, Array.toList_map]
      simp only [toArr, ints, bI, List.map_map]
      rfl
    refine ⟨_, _, hrun, ?_⟩
    rw [hcells]
    refine h (some ⟨w.heap.size, 0, none⟩) l.length gc [(w.heap.size, _)] _ (by simp) ⟨l.length, by simp [hbl], .inr ⟨w.heap.size, gc, _, rfl, rfl, hge, hle, ?_, ?_⟩⟩ (hL.drew.alloc _)
    · rw [List.length_append, hzc, hbl]; omega
    · rw [Nat.mul_one, List.nil_append, List.take_append_of_le_length (by omega), List.take_of_length_le (by omega)]
  · have hxn : xs.length = n := by omega
    have hg := hL.own (g, .cells (toArr cur) 5 (0, 0)) (by simp)
    have hold : ∀ j u, (cur.take n)[j]? = some u → w.cell? ((⟨g, 0, none⟩ : Addr).add j) = some u := by
      intro j u hu
      rw [addr_add, Nat.zero_add, hL.ownCell (b := g) (i := j) (c := toArr cur) (t := 5) (f := (0, 0)) (by simp)]
      rw [List.getElem?_take] at hu
      split at hu
      · simpa [toArr] using hu
      · cases hu
    rw [Nat.mul_one] at h4
    by_cases hroom : n + l.length ≤ cap
    · have hrun := Lib.run_append_room_string (P := Tryz.prog) w 27 9 ty 5 i Tryz.underlying27 Tryz.underlying9 hi hs1 g n cap (toArr cur) hg ⟨l.toArray⟩ (by rw [hsz]; exact hroom) (by rw [hsz]; simp [toArr]; omega)
      rw [hsz, hsc] at hrun
      have hcur : (toArr cur).toList = cur := by simp [toArr]
      rw [hcur] at hrun
      refine ⟨_, _, hrun, ?_⟩
      have hset := setRow_heap w g (toArr cur) (cur.take n ++ ints .u8 (bI l) ++ cur.drop (n + l.length)).toArray 5 (0, 0) hg
      refine h (some ⟨g, 0, none⟩) (n + l.length) cap [(g, .cells (toArr (cur.take n ++ ints .u8 (bI l) ++ cur.drop (n + l.length))) 5 (0, 0))] _ (by omega) ⟨n + l.length, by rw [List.length_append, hbl]; omega, .inr ⟨g, cap, _, rfl, rfl, hroom, h2, ?_, ?_⟩⟩
        (Loc.step (L1 := [(g, .cells (toArr cur) 5 (0, 0))]) hL rfl rfl rfl (by simp [World.setRow]) (fun k hk hne => ?_) (fun x hx => ?_) (by simp [keys]) (fun b hb' => .inl hb'))
      · simp only [List.length_append, List.length_take, List.length_drop, hbl]; omega
      · rw [Nat.mul_one, List.take_append_of_le_length (by simp [hbl]; omega), List.take_of_length_le (by simp [hbl]; omega), h4]
      · simp only [keys, List.mem_singleton] at hne
        simp only [World.setRow, Array.getElem?_modify]
        rw [if_neg (fun e => hne e.symm)]
      · simp only [List.mem_singleton] at hx
        subst hx
        exact hset
    · have hrun := Lib.run_append_grow_string (P := Tryz.prog) w 27 9 ty 5 i (.int .u8 0) Tryz.underlying27 Tryz.underlying9 hi hz ⟨g, 0, none⟩ n cap (cur.take n) (by rw [hs1, List.length_take]; omega) hold ⟨l.toArray⟩ (by rw [hsz]; omega) (by rw [hsz]; omega)
        (by rw [hsz, hb1, Nat.mul_one]; exact Nat.le_trans (nextslicecap_le (by omega)) (by omega))
      have hge := grownCap_ge w (n + l.length) cap 5
      have hle := grownCap_le_maxLen w (n + l.length) cap 5 (by simp only [maxLen]; omega)
      rw [hsz, hsc] at hrun
      generalize grownCap w (n + l.length) cap 5 = gc at *
      have hcells : ((cur.take n).toArray ++ (ints .u8 (bI l)).toArray ++ Builtin.zeroCells (Value.int .u8 0).cells (gc - (n + l.length))) = toArr (cur.take n ++ ints .u8 (bI l) ++ (Builtin.zeroCells (Value.int .u8 0).cells (gc - (n + l.length))).toList) := by
        apply Array.ext'; simp [toArr]
      refine ⟨_, _, hrun, ?_⟩
      rw [hcells]
      have hl0 := hL.drew.alloc (.cells (toArr (cur.take n ++ ints .u8 (bI l) ++ (Builtin.zeroCells (Value.int .u8 0).cells (gc - (n + l.length))).toList)) 5)
      refine h (some ⟨w.heap.size, 0, none⟩) (n + l.length) gc [(w.heap.size, _)] _ (by omega) ⟨n + l.length, by rw [List.length_append, hbl]; omega, .inr ⟨w.heap.size, gc, _, rfl, rfl, hge, hle, ?_, ?_⟩⟩ (hl0.sublist (.cons_cons _ (.cons _ (List.Sublist.refl _))))
      · simp only [List.length_append, List.length_take, hzc, hbl]; omega
      · rw [Nat.mul_one, List.take_append_of_le_length (by simp [hbl]; omega), List.take_of_length_le (by simp [hbl]; omega), h4]
end
theorem writeString_fn (m : Mem) (b : Nat) (l s : List UInt8) (L : Own) (h : Bld b l L) (hl : l.length ≤ 1000000000) (hs : 0 < s.length ∧ s.length ≤ 1000) :
    Ev.Fn Tryz.prog 53 [.pointer (some ⟨b, 0, none⟩), .string ⟨s.toArray⟩] m L fun m' L' u => u = .tuple (toArr [.int .i64 s.length, .nilIface]) ∧ m' = m ∧ Bld b (l ++ s) L' := by
  obtain ⟨p, v, L1, rfl, hp, ho, -⟩ := h
  obtain ⟨A, n, cc, rfl, hn⟩ := ho.slice
  have hsz : (⟨s.toArray⟩ : ByteArray).size = s.length := by show s.toArray.size = _; simp
  refine Fn.enter (N := 19) hX Tryz.func53 rfl rfl (by show _ ≤ _; simp) (fun w0 hL => ?_)
  conv => whnf
  generalize keys ((b, bdO p (Value.slice A n cc)) :: L1) = S0 at hL ⊢
  refine go ?_;try(clear hL;intro w hL)
  refine CallReq.mk (L1 := [(b, bdO p (.slice A n cc))]) (L2 := L1) (copyCheck_fn m b p _ hp) hL ?_
  clear hL
  rintro u m1 L' w hL - ⟨rfl, rfl, rfl⟩
  replace hL : Ev.Loc m1 S0 w0 m1 ((b, .cells (toArr [.pointer (some ⟨b, 0, none⟩), .slice A n cc]) 139 (0, 0)) :: (L1 ++ [])) w := by rw [List.append_nil]; exact hL
  refine go ?_;try(clear hL;intro w hL)
  refine appendStr ho (hL.perm List.perm_middle.symm) hs.1 (by simp [ints, bI_len]; omega) ?_
  clear hL
  intro A2 n2 c2 L2 w hn2 ho2 hL
  rw [← ints_append, ← bI_append] at ho2
  replace hL := hL.perm List.perm_middle
  refine go ?_;try(clear hL;intro w hL)
  rw [List.append_nil] at hL
  exact RetReq.mk hL ⟨by rw [← hsz]; rfl, rfl, _, _, L2, rfl, .inr rfl, ho2, fun e => absurd (congrArg List.length e) (by rw [List.length_append, List.length_nil]; have := hs.1; omega)⟩
section
variable {N : Nat} {m0 m : Mem} {S : List Nat} {w0 w : World} {L : Own}
theorem GenReq.sliceData {o : Oper} {ρ : Operand → Value} {c : Call} {a : Option Addr} {n cap : Nat} {K : Value → World → Prop} (ho : o.op = .call c) (hc : c.callee = .builtin .unsafeSliceData) (ha : c.args.toList.map ρ = [.slice a n cap]) (hcap : a = none ∨ cap ≠ 0)
    (h : K (.pointer a) w) : GenReq Tryz.prog o ρ w K := by
  constructor
  unfold OpOk
  have hargs : c.args.map ρ = #[.slice a n cap] := by apply Array.ext'; rw [Array.toList_map, ha]
  have hex : execOp ρ o = (do pure (.value (← Builtin.unsafeSliceData_ c.argTypes o.type #[.slice a n cap]))) := by rw [← hargs]; simp [execOp, ho, resolve, hc, invoke, builtin]
  have hrun : (Builtin.unsafeSliceData_ c.argTypes o.type #[.slice a n cap]).run Tryz.prog w = .ok (.pointer a) w := by
    cases a with
    | none => exact Lib.run_unsafeSliceData_nil w _ _ _ _
    | some a => exact Lib.run_unsafeSliceData_row w _ _ _ _ _ (hcap.elim (fun e => by cases e) id)
  rw [hex]
  simp only [Sem.run_bind, hrun, Result.andThen_ok, Sem.run_pure, upon]
  exact h
theorem loc_freeze {g n : Nat} {o : Obj} (hL : Ev.Loc m0 S w0 m ((g, o) :: L) w) (hn : n ≠ 0) : Ev.Loc m0 S w0 m L (w.freeze ⟨g, 0, none⟩ n) := by
  refine Loc.step (L1 := [(g, o)]) (L1' := []) hL (by unfold World.freeze; rw [if_neg hn]) (by unfold World.freeze; rw [if_neg hn]) (by unfold World.freeze; rw [if_neg hn]) ?_ (fun k hk hne => ?_) (fun x hx => by simp at hx) (by simp [keys]) (fun b hb => by simp [keys] at hb)
  · unfold World.freeze; rw [if_neg hn]; simp
  · simp only [keys, List.mem_singleton] at hne
    unfold World.freeze
    rw [if_neg hn]
    simp only [Array.getElem?_modify]
    rw [if_neg (fun e => hne e.symm)]
theorem GenReq.string {o : Oper} {ρ : Operand → Value} {c : Call} {g n : Nat} {l : List UInt8} {cur : List Value} {K : Value → World → Prop} (ho : o.op = .call c) (hc : c.callee = .builtin .unsafeString) (ht : c.argTypes = #[231, 3]) (ha : c.args.toList.map ρ = [.pointer (some ⟨g, 0, none⟩), .int .i64 n])
    (hL : Ev.Loc m0 S w0 m ((g, .cells (toArr cur) 5 (0, 0)) :: L) w) (hn : n = l.length) (h0 : l ≠ []) (hcl : n ≤ cur.length) (hmax : n ≤ maxLen) (hcur : cur.take n = ints .u8 (bI l))
    (h : ∀ w', Ev.Loc m0 S w0 m L w' → K (.string ⟨l.toArray⟩) w') : GenReq Tryz.prog o ρ w K := by
  subst hn
  constructor
  unfold OpOk
  have hargs : c.args.map ρ = #[.pointer (some ⟨g, 0, none⟩), .int .i64 l.length] := by apply Array.ext'; rw [Array.toList_map, ha]
  have hex : execOp ρ o = (do pure (.value (← Builtin.unsafeString_ #[231, 3] o.type #[.pointer (some ⟨g, 0, none⟩), .int .i64 l.length]))) := by rw [← hargs, ← ht]; simp [execOp, ho, resolve, hc, invoke, builtin]
  have hrun := Lib.run_unsafeString_row (P := Tryz.prog) w 231 3 o.type 5 Tryz.underlying231 (by kernel_rfl) g cur.length (shape_own hL (i := 0) rfl) l h0 hcl (by simp only [maxLen] at hmax; omega) (fun j x hx => by
    rw [addr_add, Nat.zero_add, hL.ownCell (b := g) (i := j) (c := toArr cur) (t := 5) (f := (0, 0)) (by simp)]
    have hj := (List.getElem?_eq_some_iff.1 hx).1
    have : (cur.take l.length)[j]? = some (.int .u8 x.toNat) := by
      rw [hcur]; simp [ints, bI, hx]
    rw [List.getElem?_take_of_lt hj] at this
    simpa [toArr] using this)
  rw [hex]
  simp only [Sem.run_bind, hrun, Result.andThen_ok, Sem.run_pure, upon]
  exact h _ (loc_freeze hL (by have := List.length_pos_iff.2 h0; omega))
theorem GenReq.string0 {o : Oper} {ρ : Operand → Value} {c : Call} {K : Value → World → Prop} (ho : o.op = .call c) (hc : c.callee = .builtin .unsafeString) (ht : c.argTypes = #[231, 3]) (ha : c.args.toList.map ρ = [.pointer none, .int .i64 0])
    (h : K (.string ⟨([] : List UInt8).toArray⟩) w) : GenReq Tryz.prog o ρ w K := by
  constructor
  unfold OpOk
  have hargs : c.args.map ρ = #[.pointer none, .int .i64 0] := by apply Array.ext'; rw [Array.toList_map, ha]
  have hex : execOp ρ o = (do pure (.value (← Builtin.unsafeString_ #[231, 3] o.type #[.pointer none, .int .i64 0]))) := by rw [← hargs, ← ht]; simp [execOp, ho, resolve, hc, invoke, builtin]
  have hrun := Lib.run_unsafeString_none (P := Tryz.prog) w 231 3 o.type none
  rw [hex]
  simp only [Sem.run_bind, hrun, Result.andThen_ok, Sem.run_pure, upon]
  exact h
end
theorem string_fn (m : Mem) (b : Nat) (l : List UInt8) (L : Own) (h : Bld b l L) :
    Ev.Fn Tryz.prog 54 [.pointer (some ⟨b, 0, none⟩)] m L fun m' L' u => u = .string ⟨l.toArray⟩ ∧ m' = m ∧ L' = [] := by
  obtain ⟨p, v, L1, rfl, hp, ho, he⟩ := h
  by_cases h0 : l = []
  · obtain ⟨rfl, rfl⟩ := he h0
    subst h0
    refine Fn.enter (N := 14) hX Tryz.func54 rfl rfl (by show _ ≤ _; simp) (fun w0 hL => ?_)
    conv => whnf
    replace hL : Ev.Loc m [b] w0 m [(b, .cells (toArr [.pointer p, .slice none 0 0]) 139 (0, 0))] w0 := hL
    refine DrawReq.plan hX (.fst 0 (.fst 1 (.fst 2 (.fst 3 (.fst 5 (.fst 6 (.fst 7 (.fst 8 (.fst 9 (.alt 4 (.alt 10 (.fst 11 (.done)) (.stop)) (.stop))))))))))) [(b, .cells (toArr [.pointer p, .slice none 0 0]) 139 (0, 0))] (by kernel_rfl) (by kernel_rfl) hL id ?_
    clear hL
    intro w hL
    refine goq ?_;try(clear hL;intro w hL)
    refine GenReq.sliceData rfl rfl rfl (.inl rfl) ?_
    conv => whnf
    repeat ((first | refine SReq.mk hL ?_ | (refine goq1 ?_;try(clear hL;intro w hL))); conv => whnf)
    refine GenReq.string0 rfl rfl rfl rfl ?_
    conv => whnf
    repeat ((first | refine SReq.mk hL ?_ | (refine goq1 ?_;try(clear hL;intro w hL))); conv => whnf)
    exact RetReq.mk hL.drop ⟨rfl, rfl, rfl⟩
  · have hlp := List.length_pos_iff.2 h0
    obtain ⟨n, hn, ⟨rfl, rfl, _⟩ | ⟨g, cap, cur, rfl, rfl, h1, h2, h3, h4⟩⟩ := ho
    · simp [ints, bI_len] at hn; exact absurd hn h0
    have hnl : n = l.length := by simp [ints, bI_len] at hn; exact hn.symm
    refine Fn.enter (N := 14) hX Tryz.func54 rfl rfl (by show _ ≤ _; simp) (fun w0 hL => ?_)
    conv => whnf
    generalize keys ((b, bdO p (Value.slice (some ⟨g, 0, none⟩) n cap)) :: [(g, Obj.cells (toArr cur) 5 (0, 0))]) = S0 at hL ⊢
    replace hL : Ev.Loc m S0 w0 m [(b, .cells (toArr [.pointer p, .slice (some ⟨g, 0, none⟩) n cap]) 139 (0, 0)), (g, .cells (toArr cur) 5 (0, 0))] w0 := hL
    refine DrawReq.plan hX (.fst 0 (.fst 1 (.fst 2 (.fst 3 (.fst 5 (.fst 6 (.fst 7 (.fst 8 (.fst 9 (.alt 4 (.alt 10 (.fst 11 (.done)) (.stop)) (.stop))))))))))) [(b, .cells (toArr [.pointer p, .slice (some ⟨g, 0, none⟩) n cap]) 139 (0, 0))] (by kernel_rfl) (by kernel_rfl) hL (fun h => h.one 0 rfl) ?_
    clear hL
    intro w hL
    refine goq ?_;try(clear hL;intro w hL)
    refine GenReq.sliceData rfl rfl rfl (.inr (by omega)) ?_
    conv => whnf
    repeat ((first | refine SReq.mk (hL.one 0 rfl) ?_ | (refine goq1 ?_;try(clear hL;intro w hL))); conv => whnf)
    refine GenReq.string rfl rfl rfl rfl (hL.perm (List.Perm.swap _ _ _)) hnl h0 (by omega) (by omega) (by rw [Nat.mul_one] at h4; exact h4) ?_
    clear hL
    intro w hL
    conv => whnf
    repeat ((first | refine SReq.mk hL ?_ | (refine goq1 ?_;try(clear hL;intro w hL))); conv => whnf)
    exact RetReq.mk hL.drop ⟨rfl, rfl, rfl⟩
end Go.Proofs.YtloofgoblodeiaaGreatDoor.fk
namespace Go.Proofs.YtloofgoblodeiaaGreatDoor.fo
open Go Go.Ev
abbrev Prt := List Int
abbrev Fml := List (List Int)
def subP (a b : Prt) : Prop := ∀ n ∈ a, n ∈ b
def Rises (p : Prt) : Prop := (∀ n ∈ p, 0 ≤ n) ∧ p.Pairwise (· < ·)
def lexB : Prt → Prt → Bool
  | a :: as1, b :: bs => if a = b then lexB as1 bs else decide (a < b)
  | _, _ => false
def lessP (a b : Prt) : Prop := a.length < b.length ∨ (a.length = b.length ∧ lexB a b = true)
structure FormedP (f : Fml) : Prop where
  rises : ∀ p ∈ f, Rises p
  less : f.Pairwise lessP
  apart : f.Pairwise fun a b => ¬ subP a b
theorem FormedP.nil : FormedP [] := ⟨fun _ h => by (cases h), .nil, .nil⟩
def holdsP (f : Fml) (S : Prt) : Prop := ∃ p ∈ f, subP p S
structure Canon (l r : Fml) : Prop where
  formed : FormedP r
  mem : ∀ q ∈ r, q ∈ l
  holds : ∀ S, holdsP r S ↔ holdsP l S
theorem Canon.perm {l l' r : Fml} (h : Canon l r) (hp : l.Perm l') : Canon l' r :=
  ⟨h.formed, fun q hq => hp.mem_iff.1 (h.mem q hq), fun S => (h.holds S).trans ⟨fun ⟨p, hm, hs⟩ => ⟨p, hp.mem_iff.1 hm, hs⟩, fun ⟨p, hm, hs⟩ => ⟨p, hp.mem_iff.2 hm, hs⟩⟩⟩
end Go.Proofs.YtloofgoblodeiaaGreatDoor.fo
namespace Go.Ev
open Go
section
variable {P : Program} {X : Tab} {N : Nat}
end
end Go.Ev
namespace Go.Proofs.YtloofgoblodeiaaGreatDoor.fo
open Go Go.Ev Go.Proofs
end Go.Proofs.YtloofgoblodeiaaGreatDoor.fo
namespace Go.Proofs.YtloofgoblodeiaaGreatDoor.fo
open Go Go.Ev Go.Proofs
noncomputable def dec (p : Prop) : Bool := @decide p (Classical.propDecidable p)
def prV (m : Mem) (cs : List Value) (p : Prt) : Prop := ∃ u, cs = [u] ∧ SlI m .i64 u p
def FmV (m : Mem) (v : Value) (f : Fml) : Prop := Sl m 1 (prV m) v f
theorem FmV.le {m m' : Mem} (h : Mem.Le m m') {v : Value} {f : Fml} (k : FmV m v f) : FmV m' v f := Sl.le k h fun _ _ _ ⟨u, e, hs⟩ => ⟨u, e, hs.le' h⟩
theorem FmV.take {m : Mem} {A : Option Addr} {n c : Nat} {f : Fml} (h : FmV m (.slice A n c) f) {j : Nat} (hj : j ≤ n) : FmV m (.slice A j c) (f.take j) := by
  obtain ⟨A', n', c', e, h1, h2, h3, h4⟩ := h
  injection e with e1 e2 e3
  subst e1 e2 e3
  refine ⟨A, j, c, rfl, by rw [List.length_take]; omega, by omega, h3, fun i x hx => ?_⟩
  rw [List.getElem?_take] at hx
  split at hx
  · exact h4 i x hx
  · cases hx
end Go.Proofs.YtloofgoblodeiaaGreatDoor.fo
namespace Go.Ev
open Go
section
variable {P : Program} {X : Tab} {m0 m : Mem} {S : List Nat} {w0 w : World}
theorem RunReq.zeros (hX : TabsOk P X) (t tn te : Nat) {ti tei tni : TI} {ty : TypeId} (ht : look X.T t = some (some ti)) (hd : ti.d = .slice te) (hte : look X.T te = some (some tei)) (htn : look X.T tn = some (some tni)) (hdn : tni.d = .int .i64)
    (h1s : Nat.beq tei.size 1 = true) (hzs : Nat.beq tei.zero.length tei.size = true) (hby : Nat.ble tei.bytes 64 = true) {k : Nat} {zk : Int} {L : Own} {K : Value → World → Prop} (hzk : zk = (k : Int)) (h0 : 0 < k) (hk : k ≤ 1000000000) (hL : Loc m0 S w0 m L w)
    (h : ∀ g gc cur w', k ≤ gc → gc ≤ maxLen → cur.length = gc → Loc m0 S w0 m ((g, .cells (toArr cur) te (0, 0)) :: L) w' → K (.slice (some ⟨g, 0, none⟩) k gc) w') :
    RunReq P (Builtin.append_ #[t, tn] ty (toArr [.slice none 0 0, .int .i64 zk])) w K := by
  subst hzk
  have h1s := Nat.eq_of_beq_eq_true h1s
  have hzs := Nat.eq_of_beq_eq_true hzs
  have hby := Nat.le_of_ble_eq_true hby
  have hT := hX.t _ _ ht
  have hTe := hX.t _ _ hte
  obtain ⟨i, d, z, hi, _, hz, htei⟩ := tiOf_info hTe
  have e1 : i.size = 1 := by rw [← h1s, htei]
  have e2 : i.bytes ≤ 64 := by have : i.bytes = tei.bytes := by rw [htei]
                               omega
  have e3 : z.cells.size = 1 := by rw [← h1s, ← hzs, htei]; simp
  have hkb : k * i.bytes ≤ 64000000000 := Nat.le_trans (Nat.mul_le_mul_left _ e2) (by omega)
  have hrun := Lib.run_append_grow_zeros (P := P) w t tn ty te i z .i64 .i64 (td_slice hT hd) (td_int (hX.t _ _ htn) hdn) hi hz none 0 0 [] (run_firstCells_none w.drew i.size 0 0 0) k h0 (by omega) (by omega) (by omega) (by omega) (growslice_fits (by omega) (by rw [Nat.zero_add]; omega))
  rw [Nat.zero_add] at hrun
  have hge := grownCap_ge w k 0 te
  have hle := grownCap_le_maxLen w k 0 te (by simp only [maxLen]; omega)
  refine ⟨_, _, hrun, ?_⟩
  generalize grownCap w k 0 te = gc at *
  have hcells : (([] : List Value).toArray ++ Builtin.zeroCells z.cells k ++ Builtin.zeroCells z.cells (gc - k)) = toArr ((Builtin.zeroCells z.cells k).toList ++ (Builtin.zeroCells z.cells (gc - k)).toList) := by
    apply Array.ext'; simp [toArr]
  rw [hcells]
  refine h w.heap.size gc _ _ hge hle ?_ (hL.drew.alloc _)
  rw [List.length_append, Array.length_toList, Array.length_toList, size_zeroCells, size_zeroCells, e3]
  omega
theorem GenReq.cap (hX : TabsOk P X) {w : World} {o : Oper} {ρ : Operand → Value} {c : Call} {t te : Nat} {ti : TI} {a : Option Addr} {n cap : Nat} {K : Value → World → Prop} (ho : o.op = .call c) (hc : c.callee = .builtin .cap) (ht : c.argTypes = #[t]) (ha : c.args.toList.map ρ = [.slice a n cap])
    (hl : look X.T t = some (some ti)) (hd : ti.d = .slice te) (h : K (.int .i64 cap) w) : GenReq P o ρ w K := by
  constructor
  unfold OpOk
  have hargs : c.args.map ρ = #[.slice a n cap] := by apply Array.ext'; rw [Array.toList_map, ha]
  have hex : execOp ρ o = (do pure (.value (← Builtin.cap_ #[t] o.type #[.slice a n cap]))) := by rw [← hargs, ← ht]; simp [execOp, ho, resolve, hc, Go.invoke, Go.builtin]
  have hrun : (Builtin.cap_ #[t] o.type #[.slice a n cap]).run P w = .ok (.int .i64 cap) w := by
    simp [Builtin.cap_, run_underlying (td_slice (hX.t _ _ hl) hd)]; rfl
  rw [hex]
  simp only [Sem.run_bind, hrun, Result.andThen_ok, Sem.run_pure, upon]
  exact h
end
end Go.Ev
namespace Go.Proofs.YtloofgoblodeiaaGreatDoor.fo
open Go Go.Ev Go.Proofs
def HdF (m : Mem) (us : List Value) (f : Fml) : Prop := us.length = f.length ∧ ∀ (i : Nat) (p : Prt), f[i]? = some p → ∃ u, us[i]? = some u ∧ SlI m .i64 u p
def HdI (_ : Mem) (us : List Value) (p : Prt) : Prop := us = ints .i64 p
theorem HdF.nil (m : Mem) : HdF m [] [] := ⟨rfl, fun i p h => by simp at h⟩
theorem HdI.nil (m : Mem) : HdI m [] [] := rfl
theorem HdF.le {m m' : Mem} (h : Mem.Le m m') {us : List Value} {f : Fml} (k : HdF m us f) : HdF m' us f := ⟨k.1, fun i p hp => by obtain ⟨u, a, b⟩ := k.2 i p hp; exact ⟨u, a, b.le' h⟩⟩
theorem growF_fn (m : Mem) (k : Nat) (hk : k ≤ 100000000) : Ev.Fn Tryz.prog 357 [.slice none 0 0, .int .i64 k] m [] fun m' L' u => m' = m ∧ OwnS 46 1 u [] L' := by
  have hmx : maxLen = 9223372036854775807 := rfl
  refine Fn.enter (N := 27) hX Tryz.func357 rfl rfl (by show _ ≤ _; simp) (fun w0 hL => ?_)
  conv => whnf
  by_cases h0 : k = 0
  · subst h0
    conv => whnf
    repeat ((first | refine BrReq.no (by omega) ?_ | refine GenReq.cap hX rfl rfl rfl rfl rfl rfl ?_ | (refine go1 ?_;try(clear hL;intro w hL))); conv => whnf)
    exact RetReq.mk hL ⟨rfl, OwnS.nil _ _⟩
  · conv => whnf
    repeat ((first | refine BrReq.no (by omega) ?_ | refine BrReq.yes (by omega) ?_ | refine GenReq.cap hX rfl rfl rfl rfl rfl rfl ?_ | refine SlReq.mk 0 0 rfl rfl (by omega) (by omega) ?_ | (refine go1 ?_;try(clear hL;intro w hL))); conv => whnf)
    refine RunReq.zeros hX 203 3 46 rfl rfl rfl rfl rfl rfl rfl rfl (k := k) (by show (k : Int) - (((0 : Nat) : Int) - ((0 : Nat) : Int)) = k; omega) (by omega) (by omega) hL ?_
    clear hL
    intro g gc cur w hge hle hcl hL
    conv => whnf
    repeat ((first | refine SlReq.mk 0 0 rfl rfl (by omega) (by omega) ?_ | (refine go1 ?_;try(clear hL;intro w hL))); conv => whnf)
    refine RetReq.mk hL ⟨rfl, ?_⟩
    have ho := OwnS.block (te := 46) (size := 1) (g := g) (n := 0) (cap := gc) (cur := cur) (by omega) hle (by omega)
    simp only [Nat.zero_mul, List.take_zero] at ho
    have ev : (if gc = 0 then some (⟨g, 0, none⟩ : Addr) else Option.map (fun x => Addr.add x (scale 0 1)) (some (⟨g, 0, none⟩ : Addr))) = some ⟨g, 0, none⟩ := by split <;> rfl
    show OwnS 46 1 (.slice (if gc = 0 then some (⟨g, 0, none⟩ : Addr) else Option.map (fun x => Addr.add x (scale 0 1)) (some (⟨g, 0, none⟩ : Addr))) 0 gc) [] _
    rw [ev]
    exact ho
theorem growI_fn (m : Mem) (k : Nat) (hk : k ≤ 100000000) : Ev.Fn Tryz.prog 347 [.slice none 0 0, .int .i64 k] m [] fun m' L' u => m' = m ∧ OwnS 3 1 u [] L' := by
  have hmx : maxLen = 9223372036854775807 := rfl
  refine Fn.enter (N := 27) hX Tryz.func347 rfl rfl (by show _ ≤ _; simp) (fun w0 hL => ?_)
  conv => whnf
  by_cases h0 : k = 0
  · subst h0
    conv => whnf
    repeat ((first | refine BrReq.no (by omega) ?_ | refine GenReq.cap hX rfl rfl rfl rfl rfl rfl ?_ | (refine go1 ?_;try(clear hL;intro w hL))); conv => whnf)
    exact RetReq.mk hL ⟨rfl, OwnS.nil _ _⟩
  · conv => whnf
    repeat ((first | refine BrReq.no (by omega) ?_ | refine BrReq.yes (by omega) ?_ | refine GenReq.cap hX rfl rfl rfl rfl rfl rfl ?_ | refine SlReq.mk 0 0 rfl rfl (by omega) (by omega) ?_ | (refine go1 ?_;try(clear hL;intro w hL))); conv => whnf)
    refine RunReq.zeros hX 46 3 3 rfl rfl rfl rfl rfl rfl rfl rfl (k := k) (by show (k : Int) - (((0 : Nat) : Int) - ((0 : Nat) : Int)) = k; omega) (by omega) (by omega) hL ?_
    clear hL
    intro g gc cur w hge hle hcl hL
    conv => whnf
    repeat ((first | refine SlReq.mk 0 0 rfl rfl (by omega) (by omega) ?_ | (refine go1 ?_;try(clear hL;intro w hL))); conv => whnf)
    refine RetReq.mk hL ⟨rfl, ?_⟩
    have ho := OwnS.block (te := 3) (size := 1) (g := g) (n := 0) (cap := gc) (cur := cur) (by omega) hle (by omega)
    simp only [Nat.zero_mul, List.take_zero] at ho
    have ev : (if gc = 0 then some (⟨g, 0, none⟩ : Addr) else Option.map (fun x => Addr.add x (scale 0 1)) (some (⟨g, 0, none⟩ : Addr))) = some ⟨g, 0, none⟩ := by split <;> rfl
    show OwnS 3 1 (.slice (if gc = 0 then some (⟨g, 0, none⟩ : Addr) else Option.map (fun x => Addr.add x (scale 0 1)) (some (⟨g, 0, none⟩ : Addr))) 0 gc) [] _
    rw [ev]
    exact ho
end Go.Proofs.YtloofgoblodeiaaGreatDoor.fo
namespace Go.Proofs.YtloofgoblodeiaaGreatDoor.am
open Go Go.Ev Go.Proofs Go.Proofs.YtloofgoblodeiaaGreatDoor.bd
theorem bgrow1_fn (m : Mem) (b n : Nat) (h0 : 0 < n) (hn : n ≤ 1000000000) :
    Ev.Fn Tryz.prog 119 [.pointer (some ⟨b, 0, none⟩), .int .i64 n] m [(b, bdO (some ⟨b, 0, none⟩) (.slice none 0 0))] fun m' L' u => u = .tuple (toArr []) ∧ m' = m ∧ ∃ g cap cur, L' = [(b, bdO (some ⟨b, 0, none⟩) (.slice (some ⟨g, 0, none⟩) 0 cap)), (g, .cells (toArr cur) 5 (0, 0))] ∧ cap ≤ maxLen ∧ cur.length = cap := by
  refine Fn.enter (N := 30) hX Tryz.func119 rfl rfl (by show _ ≤ _; simp) (fun w0 hL => ?_)
  conv => whnf
  generalize keys [(b, bdO (some ⟨b, 0, none⟩) (.slice none 0 0))] = S0 at hL ⊢
  replace hL : Ev.Loc m S0 w0 m [(b, .cells (toArr [.pointer (some ⟨b, 0, none⟩), .slice none 0 0]) 139 (0, 0))] w0 := hL
  refine DrawReq.plan hX (.fst 0 (.fst 1 (.fst 2 (.fst 3 (.fst 6 (.fst 9 (.fst 10 (.fst 11 (.fst 12 (.fst 13 (.alt 4 (.fst 5 (.fst 7 (.alt 8 (.fst 14 (.fst 15 (.done))) (.stop)))) (.stop)))))))))))) [(b, .cells (toArr [.pointer (some ⟨b, 0, none⟩), .slice none 0 0]) 139 (0, 0))] (by kernel_rfl) (by kernel_rfl) hL id ?_
  clear hL
  intro w hL
  refine goq ?_;try(clear hL;intro w hL)
  refine GenReq.cap rfl rfl rfl rfl ?_
  conv => whnf
  repeat ((first | refine SReq.mk hL ?_ | (refine ArReq.i64 (by simp; try omega) (by simp; try omega) ?_) | (refine goq1 ?_;try(clear hL;intro w hL))); conv => whnf)
  refine GenReq.makeNoZero n rfl rfl rfl rfl (by omega) (by omega) hL ?_
  clear hL
  intro g cur w hcl hcm hL
  conv => whnf
  repeat ((first | refine SReq.mk (hL.one 1 rfl) ?_ | refine SlReq.mk 0 0 rfl rfl (by omega) (by omega) ?_ | (refine goq1 ?_;try(clear hL;intro w hL))); conv => whnf)
  have he : (if cur.length = 0 then some (⟨g, 0, none⟩ : Addr) else Option.map (fun x : Addr => x.add (scale 0 1)) (some (⟨g, 0, none⟩ : Addr))) = some ⟨g, 0, none⟩ := by split <;> rfl
  refine RunReq.mk (run_copy_none w 27 27 3 5 _ _ _ _ _ _ Tryz.underlying27 (by kernel_rfl) rfl) ?_
  conv => whnf
  repeat ((first | (refine StReq.own hX rfl 1 hL rfl rfl rfl rfl ?_; clear hL; intro w hL) | (refine go1 ?_;try(clear hL;intro w hL))); conv => whnf)
  replace hL : Ev.Loc m S0 w0 m [(g, .cells (toArr cur) 5 (0, 0)), (b, .cells (toArr [.pointer (some ⟨b, 0, none⟩), .slice (if cur.length = 0 then some (⟨g, 0, none⟩ : Addr) else Option.map (fun x : Addr => x.add (scale 0 1)) (some (⟨g, 0, none⟩ : Addr))) 0 cur.length]) 139 (0, 0))] w := hL
  rw [he] at hL
  exact RetReq.mk (hL.perm (List.Perm.swap _ _ _)) ⟨rfl, rfl, _, _, _, rfl, hcm, rfl⟩
theorem bgrow_fn (m : Mem) (b n : Nat) (p : Option Addr) (hp : p = none ∨ p = some ⟨b, 0, none⟩) (h0 : 0 < n) (hn : n ≤ 1000000000) :
    Ev.Fn Tryz.prog 52 [.pointer (some ⟨b, 0, none⟩), .int .i64 n] m [(b, bdO p (.slice none 0 0))] fun m' L' u => u = .tuple (toArr []) ∧ m' = m ∧ ∃ g cap cur, L' = [(b, bdO (some ⟨b, 0, none⟩) (.slice (some ⟨g, 0, none⟩) 0 cap)), (g, .cells (toArr cur) 5 (0, 0))] ∧ cap ≤ maxLen ∧ cur.length = cap := by
  refine Fn.enter (N := 25) hX Tryz.func52 rfl rfl (by show _ ≤ _; simp) (fun w0 hL => ?_)
  conv => whnf
  generalize keys [(b, bdO p (.slice none 0 0))] = S0 at hL ⊢
  refine go ?_;try(clear hL;intro w hL)
  refine CallReq.mk (L1 := [(b, bdO p (.slice none 0 0))]) (L2 := []) (copyCheck_fn m b p _ hp) hL ?_
  clear hL
  rintro u m1 L' w hL - ⟨rfl, rfl, rfl⟩
  replace hL : Ev.Loc m1 S0 w0 m1 [(b, .cells (toArr [.pointer (some ⟨b, 0, none⟩), .slice none 0 0]) 139 (0, 0))] w := hL
  refine go ?_;try(clear hL;intro w hL)
  refine DrawReq.plan hX (.fst 0 (.fst 1 (.fst 2 (.fst 3 (.fst 5 (.fst 6 (.fst 7 (.fst 8 (.fst 9 (.fst 11 (.alt 4 (.fst 10 (.fst 12 (.done))) (.stop)))))))))))) [(b, .cells (toArr [.pointer (some ⟨b, 0, none⟩), .slice none 0 0]) 139 (0, 0))] (by kernel_rfl) (by kernel_rfl) hL id ?_
  clear hL
  intro w hL
  refine goq ?_;try(clear hL;intro w hL)
  refine GenReq.cap rfl rfl rfl rfl ?_
  conv => whnf
  repeat ((first | refine SReq.mk hL ?_ | (refine goq1 ?_;try(clear hL;intro w hL))); conv => whnf)
  refine BrReq.dec (fun _ => ?_) (fun h => absurd (show ((0 : Nat) : Int) - ((0 : Nat) : Int) < n by omega) h)
  refine go ?_;try(clear hL;intro w hL)
  refine CallReq.mk (L1 := [(b, .cells (toArr [.pointer (some ⟨b, 0, none⟩), .slice none 0 0]) 139 (0, 0))]) (L2 := []) (bgrow1_fn m1 b n h0 hn) hL ?_
  clear hL
  rintro u m2 L' w hL - ⟨rfl, rfl, hb⟩
  refine go ?_;try(clear hL;intro w hL)
  rw [List.append_nil] at hL
  exact RetReq.mk hL ⟨rfl, rfl, hb⟩
theorem growF_fn (m : Mem) (k : Nat) (hk : k ≤ 100000000) : Ev.Fn Tryz.prog 357 [.slice none 0 0, .int .i64 k] m [] fun m' L' u => m' = m ∧ ((k = 0 ∧ u = .slice none 0 0 ∧ L' = []) ∨ (0 < k ∧ ∃ g cap cur, u = .slice (some ⟨g, 0, none⟩) 0 cap ∧ L' = [(g, .cells (toArr cur) 46 (0, 0))] ∧ cap ≤ maxLen ∧ cur.length = cap)) := by
  have hmx : maxLen = 9223372036854775807 := rfl
  refine Fn.enter (N := 27) hX Tryz.func357 rfl rfl (by show _ ≤ _; simp) (fun w0 hL => ?_)
  conv => whnf
  by_cases h0 : k = 0
  · subst h0
    conv => whnf
    repeat ((first | refine BrReq.no (by omega) ?_ | refine GenReq.cap hX rfl rfl rfl rfl rfl rfl ?_ | (refine go1 ?_;try(clear hL;intro w hL))); conv => whnf)
    exact RetReq.mk hL ⟨rfl, .inl ⟨rfl, rfl, rfl⟩⟩
  · conv => whnf
    repeat ((first | refine BrReq.no (by omega) ?_ | refine BrReq.yes (by omega) ?_ | refine GenReq.cap hX rfl rfl rfl rfl rfl rfl ?_ | refine SlReq.mk 0 0 rfl rfl (by omega) (by omega) ?_ | (refine go1 ?_;try(clear hL;intro w hL))); conv => whnf)
    refine RunReq.zeros hX 203 3 46 rfl rfl rfl rfl rfl rfl rfl rfl (k := k) (by show (k : Int) - (((0 : Nat) : Int) - ((0 : Nat) : Int)) = k; omega) (by omega) (by omega) hL ?_
    clear hL
    intro g gc cur w hge hle hcl hL
    conv => whnf
    repeat ((first | refine SlReq.mk 0 0 rfl rfl (by omega) (by omega) ?_ | (refine go1 ?_;try(clear hL;intro w hL))); conv => whnf)
    refine RetReq.mk hL ⟨rfl, .inr ⟨by omega, g, gc, cur, ?_, rfl, hle, hcl⟩⟩
    have ev : (if gc = 0 then some (⟨g, 0, none⟩ : Addr) else Option.map (fun x => Addr.add x (scale 0 1)) (some (⟨g, 0, none⟩ : Addr))) = some ⟨g, 0, none⟩ := by split <;> rfl
    show Value.slice (if gc = 0 then some (⟨g, 0, none⟩ : Addr) else Option.map (fun x => Addr.add x (scale 0 1)) (some (⟨g, 0, none⟩ : Addr))) 0 gc = _
    rw [ev]
theorem growI_fn (m : Mem) (k : Nat) (hk : k ≤ 100000000) : Ev.Fn Tryz.prog 347 [.slice none 0 0, .int .i64 k] m [] fun m' L' u => m' = m ∧ ((k = 0 ∧ u = .slice none 0 0 ∧ L' = []) ∨ (0 < k ∧ ∃ g cap cur, u = .slice (some ⟨g, 0, none⟩) 0 cap ∧ L' = [(g, .cells (toArr cur) 3 (0, 0))] ∧ cap ≤ maxLen ∧ cur.length = cap)) := by
  have hmx : maxLen = 9223372036854775807 := rfl
  refine Fn.enter (N := 27) hX Tryz.func347 rfl rfl (by show _ ≤ _; simp) (fun w0 hL => ?_)
  conv => whnf
  by_cases h0 : k = 0
  · subst h0
    conv => whnf
    repeat ((first | refine BrReq.no (by omega) ?_ | refine GenReq.cap hX rfl rfl rfl rfl rfl rfl ?_ | (refine go1 ?_;try(clear hL;intro w hL))); conv => whnf)
    exact RetReq.mk hL ⟨rfl, .inl ⟨rfl, rfl, rfl⟩⟩
  · conv => whnf
    repeat ((first | refine BrReq.no (by omega) ?_ | refine BrReq.yes (by omega) ?_ | refine GenReq.cap hX rfl rfl rfl rfl rfl rfl ?_ | refine SlReq.mk 0 0 rfl rfl (by omega) (by omega) ?_ | (refine go1 ?_;try(clear hL;intro w hL))); conv => whnf)
    refine RunReq.zeros hX 46 3 3 rfl rfl rfl rfl rfl rfl rfl rfl (k := k) (by show (k : Int) - (((0 : Nat) : Int) - ((0 : Nat) : Int)) = k; omega) (by omega) (by omega) hL ?_
    clear hL
    intro g gc cur w hge hle hcl hL
    conv => whnf
    repeat ((first | refine SlReq.mk 0 0 rfl rfl (by omega) (by omega) ?_ | (refine go1 ?_;try(clear hL;intro w hL))); conv => whnf)
    refine RetReq.mk hL ⟨rfl, .inr ⟨by omega, g, gc, cur, ?_, rfl, hle, hcl⟩⟩
    have ev : (if gc = 0 then some (⟨g, 0, none⟩ : Addr) else Option.map (fun x => Addr.add x (scale 0 1)) (some (⟨g, 0, none⟩ : Addr))) = some ⟨g, 0, none⟩ := by split <;> rfl
    show Value.slice (if gc = 0 then some (⟨g, 0, none⟩ : Addr) else Option.map (fun x => Addr.add x (scale 0 1)) (some (⟨g, 0, none⟩ : Addr))) 0 gc = _
    rw [ev]
end Go.Proofs.YtloofgoblodeiaaGreatDoor.am
namespace Go.Proofs.YtloofgoblodeiaaGreatDoor.am
open Go Go.Ev Go.Proofs Go.Proofs.YtloofgoblodeiaaGreatDoor.co
noncomputable section
def sItoa : Sm := fun args nx M k => match args with
  | [.int .i64 z] => match z with
    | .ofNat n => match Nat.blt n 10 with | true => fN (Nat.add 48 n) fun q => k (.string (bs [UInt8.ofNat q])) nx M | false => false
    | .negSucc n => match Nat.blt n 9 with | true => fN (Nat.add 49 n) fun q => k (.string (bs [45, UInt8.ofNat q])) nx M | false => false
  | _ => false
theorem sItoa_ok {m0 : Mem} (hT : fk.TabMem m0) : SmOne m0 22 sItoa := by
  intro S w0 args args' c k K h hv ha hK
  unfold sItoa at ha
  split at ha
  case h_2 => cases ha
  rename_i z
  match args', hv with
  | [x'], .cons hx .nil =>
  have hx := hx.int
  subst hx
  have hT := hT.le h.loc.le
  have key : ∀ l : List UInt8, Lib.itoa z = l → -9223372036854775808 ≤ z → z ≤ 9223372036854775807 → k (.string (bs l)) c.nx c.M = true → CallReq Tryz.prog 22 (toArr [.int .i64 z]) c.w K := fun l hl h0 h1 hk => by
    refine CallReq.val (fk.itoa_fn c.m hT z h0 h1) h.loc fun w' hL => ?_
    obtain ⟨k1, k2⟩ := h.world hL
    have e : (⟨(Lib.itoa z).toArray⟩ : ByteArray) = bs l := by rw [hl]
    rw [e]
    exact hK _ { c with w := w' } _ hk k2 k1 (.same rfl)
  cases z with
  | ofNat n =>
    dsimp only at ha
    cases hb : Nat.blt n 10 with
    | false => rw [hb] at ha; cases ha
    | true =>
      have hlt : n < 10 := by simpa [Nat.blt_eq] using hb
      rw [hb] at ha
      simp only [fN_eq] at ha
      refine key [UInt8.ofNat (48 + n)] ?_ (by show (-9223372036854775808 : Int) ≤ (n : Int); omega) (by show (n : Int) ≤ 9223372036854775807; omega) ha
      unfold Lib.itoa
      rw [if_neg (by simp only [Int.ofNat_eq_natCast]; omega)]
      show Lib.decDigits n = _
      rw [Lib.decDigits, dif_pos hlt]
  | negSucc n =>
    dsimp only at ha
    cases hb : Nat.blt n 9 with
    | false => rw [hb] at ha; cases ha
    | true =>
      have hlt : n < 9 := by simpa [Nat.blt_eq] using hb
      rw [hb] at ha
      simp only [fN_eq] at ha
      refine key [45, UInt8.ofNat (49 + n)] ?_ (by omega) (by omega) ha
      unfold Lib.itoa
      rw [if_pos (by omega)]
      show 45 :: Lib.decDigits (n + 1) = _
      rw [Lib.decDigits, dif_pos (by omega), show 48 + (n + 1) = 49 + n from by omega]
def isSelf (pv : Value) (i : Nat) : Bool := match pv with
  | .pointer none => true
  | .pointer (some a) => match isE a with | true => false | false => Nat.beq a.block i && Nat.beq a.off 0
  | _ => false
theorem isSelf_out {ι : At} {pv pv' : Value} {i b kk : Nat} (h : isSelf pv i = true) (hb : ι i = some (b, kk)) (hv : VR ι pv pv') : ∃ p, pv' = .pointer p ∧ (p = none ∨ p = some ⟨b, 0, none⟩) := by
  cases pv with
  | pointer a =>
    cases a with
    | none => rw [hv.nilp]; exact ⟨_, rfl, .inl rfl⟩
    | some a =>
      unfold isSelf at h
      dsimp only at h
      cases he : isE a with
      | true => rw [he] at h; cases h
      | false =>
        rw [he] at h
        dsimp only at h
        rw [Bool.and_eq_true] at h
        have e1 := Nat.eq_of_beq_eq_true h.1
        have e2 := Nat.eq_of_beq_eq_true h.2
        obtain ⟨b2, k2, h1, h2, h3⟩ := hv.ptr_out
        rw [e1, hb] at h1
        injection h1 with h1
        injection h1 with h1 _
        subst h1
        rw [e2] at h3
        exact ⟨_, h3, .inr rfl⟩
  | _ => cases h
def sCheck : Sm := fun args nx M k => match args with
  | [.pointer (some ⟨i, 0, none⟩)] => match M.get (pth i) with
    | some (.cs ty sz [pv, sv] false _) => match Nat.beq ty 139 && isSelf pv i with
      | true => T.putK (pth i) M (some (.cs ty sz [.pointer (some ⟨i, 0, none⟩), sv] false nx)) fun M => fN (Nat.succ nx) fun nx => k undef nx M
      | false => false
    | _ => false
  | _ => false
theorem sCheck_ok {m0 : Mem} : SmOne m0 118 sCheck := by
  intro S w0 args args' c k K h hv ha hK
  unfold sCheck at ha
  split at ha
  case h_2 => cases ha
  rename_i i
  match args', hv with
  | [x'], .cons hx .nil =>
  obtain ⟨b, kb, hι, -, rfl⟩ := hx.ptr_out
  split at ha
  case h_2 => cases ha
  rename_i ty sz pv sv st hg
  cases hc : Nat.beq ty 139 && isSelf pv i with
  | false => rw [hc] at ha; cases ha
  | true =>
  rw [hc] at ha
  rw [Bool.and_eq_true] at hc
  have e1 := Nat.eq_of_beq_eq_true hc.1
  subst e1
  dsimp only at ha
  rw [putK_eq, fN_eq] at ha
  obtain ⟨pre, rest, p1, p2, p3, p4, p5⟩ := own_at h hι hg
  rw [p2 rfl, List.append_nil] at p3 p5
  match pre, p1 with
  | [pv', sv'], .cons hp (.cons hs .nil) =>
  obtain ⟨p, rfl, hpp⟩ := isSelf_out hc.2 hι hp
  obtain ⟨L2, hP⟩ := mem_out p5
  refine CallReq.mk (L1 := [(b, fk.bdO p sv')]) (L2 := L2) (fk.copyCheck_fn c.m b p sv' hpp) (h.loc.perm hP) ?_
  rintro v m' L1' w' hL - ⟨rfl, rfl, rfl⟩
  obtain ⟨k1, k2⟩ := h.setP hg rfl hι hP hL (ab' := .cs 139 sz [.pointer (some ⟨i, 0, none⟩), sv] false c.nx) (by
    have := AR.cs (ι := c.ι) (c := kb) (ty := 139) (sz := sz) (cells := [.pointer (some ⟨i, 0, none⟩), sv]) (opn := false) (st := c.nx) (rest := []) (.cons (.ptr hι) (.cons hs .nil)) (fun _ => rfl) (by rw [List.append_nil]; exact p3) p4
    rwa [List.append_nil] at this) rfl rfl
  exact hK _ _ _ ha k2 k1 VR.undef
def sString : Sm := fun args nx M k => match args with
  | [.pointer (some ⟨i, 0, none⟩)] => match M.get (pth i) with
    | some (.cs ty _ [pv, sv] false _) => match Nat.beq ty 139 && isSelf pv i with
      | true => match sv with
        | .slice none 0 0 => T.putK (pth i) M none fun M => k (.string (bs [])) nx M
        | .slice (some ⟨g, 0, none⟩) (n + 1) 0 => match M.get (pth g) with
          | some (.cs ty2 sz2 cells _ _) => match Nat.beq ty2 5 && Nat.beq sz2 1 with
            | true => takeK (Nat.succ n) cells fun cells => toB cells fun l => T.putK (pth i) M none fun M => T.putK (pth g) M none fun M => k (.string (bs l)) nx M
            | false => false
          | _ => false
        | _ => false
      | false => false
    | _ => false
  | _ => false
theorem sString_ok {m0 : Mem} : SmOne m0 54 sString := by
  intro S w0 args args' c k K h hv ha hK
  unfold sString at ha
  split at ha
  case h_2 => cases ha
  rename_i i
  match args', hv with
  | [x'], .cons hx .nil =>
  obtain ⟨b, kb, hι, -, rfl⟩ := hx.ptr_out
  split at ha
  case h_2 => cases ha
  rename_i ty sz pv sv st hg
  cases hc : Nat.beq ty 139 && isSelf pv i with
  | false => rw [hc] at ha; cases ha
  | true =>
  rw [hc] at ha
  rw [Bool.and_eq_true] at hc
  have e1 := Nat.eq_of_beq_eq_true hc.1
  subst e1
  dsimp only at ha
  obtain ⟨pre, rest, p1, p2, p3, p4, p5⟩ := own_at h hι hg
  rw [p2 rfl, List.append_nil] at p3 p5
  match pre, p1 with
  | [pv', sv'], .cons hp (.cons hs .nil) =>
  obtain ⟨p, rfl, hpp⟩ := isSelf_out hc.2 hι hp
  split at ha
  · obtain ⟨-, -, rfl⟩ := hs.slc_nil
    rw [putK_eq] at ha
    obtain ⟨L2, hP⟩ := mem_out p5
    obtain ⟨k1, k2⟩ := h.forget i
    refine CallReq.mk (L1 := [(b, fk.bdO p (.slice none 0 0))]) (L2 := L2) (fk.string_fn c.m b [] _ ⟨p, _, [], rfl, hpp, OwnS.nil _ _, fun _ => ⟨rfl, rfl⟩⟩) (h.loc.perm hP) ?_
    rintro v m' L1' w' hL - ⟨rfl, rfl, rfl⟩
    obtain ⟨k3, k4⟩ := k1.move (Mem.Le.refl _) hL fun j ab b2 k2 o hj ho hb hm => by
      have hj : T.get (T.put (pth i) c.M none) (pth j) = some ab := hj
      rw [get_putN] at hj
      split at hj
      · cases hj
      · rename_i hne
        rcases List.mem_cons.1 (hP.subset hm) with e | e
        · injection e with e _
          subst e
          exact absurd (h.inj j i ab _ _ k2 kb hj ho hg rfl hb hι) hne
        · exact e
    exact hK _ _ _ ha (k2.trans k4) k3 (.same rfl)
  · rename_i g n
    split at ha
    case h_2 => cases ha
    rename_i ty2 sz2 cells opn st2 hg2
    split at ha
    case h_2 => cases ha
    rename_i hc2
    rw [Bool.and_eq_true] at hc2
    have e2 := Nat.eq_of_beq_eq_true hc2.1
    have e3 := Nat.eq_of_beq_eq_true hc2.2
    subst e2 e3
    obtain ⟨q1, q2⟩ := takeK_out ha
    obtain ⟨bt, q3, q4⟩ := toB_out q2
    rw [putK_eq, putK_eq] at q3
    obtain ⟨b2, kb2, hι2, -, hdn, rfl⟩ := hs.slc_out rfl
    obtain ⟨pre2, rest2, r1, r2, r3, r4, r5⟩ := own_at h hι2 hg2
    have hgi : g ≠ i := by
      rintro rfl
      rw [hg] at hg2
      injection hg2 with hg2
      injection hg2 with hg2
      exact absurd hg2 (by decide)
    have hb12 : b2 ≠ b := by
      rintro rfl
      exact hgi (h.inj g i _ _ _ kb2 kb hg2 rfl hg rfl hι2 hι)
    obtain ⟨L2, hP⟩ := mem_out p5
    have r6 : (b2, Obj.cells (toArr (pre2 ++ rest2)) 5 (0, 0)) ∈ L2 := by
      rcases List.mem_cons.1 (hP.subset r5) with e | e
      · injection e with e _; exact absurd e hb12
      · exact e
    obtain ⟨L3, hP3⟩ := mem_out r6
    have hPP : c.L.Perm ([(b, fk.bdO p (.slice (some ⟨b2, 0, none⟩) (n + 1) (kb2 - 0))), (b2, Obj.cells (toArr (pre2 ++ rest2)) 5 (0, 0))] ++ L3) := hP.trans (List.Perm.cons _ hP3)
    have hlen : bt.length = n + 1 := by
      have := congrArg List.length q4
      rw [List.length_take, Nat.min_eq_left q1] at this
      have h2 : (byC bt).length = bt.length := by simp [byC]
      rw [← h2]; exact this.symm
    have hpl := r1.len
    have htk : (pre2 ++ rest2).take ((n + 1) * 1) = ints .u8 (fk.bI bt) := by
      rw [Nat.mul_one, List.take_append_of_le_length (by rw [hpl]; exact q1)]
      have h1 := r1.take (n + 1)
      rw [q4] at h1
      rw [h1.flat (byC_flat bt)]
      exact byC_ints bt
    have hown : OwnS 5 1 (.slice (some ⟨b2, 0, none⟩) (n + 1) kb2) (ints .u8 (fk.bI bt)) [(b2, .cells (toArr (pre2 ++ rest2)) 5 (0, 0))] := by
      rw [← htk]; exact OwnS.block (by omega) r4 r3
    obtain ⟨k1, k2⟩ := h.forget i
    obtain ⟨k5, k6⟩ := k1.forget g
    refine CallReq.mk (L1 := _) (L2 := L3) (fk.string_fn c.m b bt _ ⟨p, _, _, rfl, hpp, hown, fun hc => by rw [hc] at hlen; simp at hlen⟩) (h.loc.perm hPP) ?_
    rintro v m' L1' w' hL - ⟨rfl, rfl, rfl⟩
    obtain ⟨k3, k4⟩ := k5.move (Mem.Le.refl _) hL fun j ab b3 k3 o hj ho hb hm => by
      have hj : T.get (T.put (pth g) (T.put (pth i) c.M none) none) (pth j) = some ab := hj
      rw [get_putN, get_putN] at hj
      split at hj
      · cases hj
      · rename_i hne
        split at hj
        · cases hj
        · rename_i hne2
          rcases List.mem_append.1 (hPP.subset hm) with e | e
          · rcases List.mem_cons.1 e with e | e
            · injection e with e _
              subst e
              exact absurd (h.inj j i ab _ _ k3 kb hj ho hg rfl hb hι) hne2
            · rw [List.mem_singleton] at e
              injection e with e _
              subst e
              exact absurd (h.inj j g ab _ _ k3 kb2 hj ho hg2 rfl hb hι2) hne
          · exact e
    exact hK _ _ _ q3 ((k2.trans k6).trans k4) k3 (.same rfl)
  · cases ha
def sBgrow : Sm := fun args nx M k => match args with
  | [.pointer (some ⟨i, 0, none⟩), .int .i64 (.ofNat (n + 1))] => match M.get (pth i) with
    | some (.cs ty sz [pv, .slice none 0 0] false _) => match Nat.beq ty 139 && isSelf pv i && Nat.ble n 1000000 with
      | true => T.putK (pth i) M none fun M => T.putK (pth nx) M (some (.cs 5 1 [] true nx)) fun M => fN (Nat.succ nx) fun nx2 => T.putK (pth i) M (some (.cs ty sz [.pointer (some ⟨i, 0, none⟩), .slice (some ⟨nx, 0, none⟩) 0 0] false nx2)) fun M => fN (Nat.succ nx2) fun nx3 => k undef nx3 M
      | false => false
    | _ => false
  | _ => false
theorem sBgrow_ok {m0 : Mem} : SmOne m0 52 sBgrow := by
  intro S w0 args args' c k K h hv ha hK
  unfold sBgrow at ha
  split at ha
  case h_2 => cases ha
  rename_i i n
  match args', hv with
  | [x', y'], .cons hx (.cons hy .nil) =>
  obtain ⟨b, kb, hι, -, rfl⟩ := hx.ptr_out
  have hy := hy.int
  subst hy
  split at ha
  case h_2 => cases ha
  rename_i ty sz pv st hg
  cases hc : Nat.beq ty 139 && isSelf pv i && Nat.ble n 1000000 with
  | false => rw [hc] at ha; cases ha
  | true =>
  rw [hc] at ha
  simp only [Bool.and_eq_true] at hc
  obtain ⟨⟨c1, c2⟩, c3⟩ := hc
  have e1 := Nat.eq_of_beq_eq_true c1
  have c3 := Nat.le_of_ble_eq_true c3
  subst e1
  dsimp only at ha
  simp only [putK_eq, fN_eq] at ha
  obtain ⟨pre, rest, p1, p2, p3, p4, p5⟩ := own_at h hι hg
  rw [p2 rfl, List.append_nil] at p3 p5
  match pre, p1 with
  | [pv', sv'], .cons hp (.cons hs .nil) =>
  obtain ⟨p, rfl, hpp⟩ := isSelf_out c2 hι hp
  obtain ⟨-, -, rfl⟩ := hs.slc_nil
  obtain ⟨L2, hP⟩ := mem_out p5
  obtain ⟨k1, k2⟩ := h.forget i
  refine CallReq.mk (L1 := [(b, bd.bdO p (.slice none 0 0))]) (L2 := L2) (bgrow_fn c.m b (n + 1) p hpp (by omega) (by omega)) (h.loc.perm hP) ?_
  rintro v m' L1' w' hL - ⟨rfl, rfl, g', cap, cur, rfl, f5, f6⟩
  have hold : ∀ j ab b2 k2 o, T.get (T.put (pth i) c.M none) (pth j) = some ab → ab.own = true → c.ι j = some (b2, k2) → (b2, o) ∈ c.L → (b2, o) ∈ L2 := fun j ab b2 k2 o hj ho hb hm => by
    rw [get_putN] at hj
    split at hj
    · cases hj
    · rename_i hne
      rcases List.mem_cons.1 (hP.subset hm) with e | e
      · injection e with e _
        subst e
        exact absurd (h.inj j i ab _ _ k2 kb hj ho hg rfl hb hι) hne
      · exact e
  obtain ⟨k3, k4⟩ := k1.move (Mem.Le.refl _) hL fun j ab b2 k2 o hj ho hb hm => List.mem_append_right _ (hold j ab b2 k2 o hj ho hb hm)
  have hnd := hL.nodup
  simp only [List.cons_append, List.nil_append, keys, List.nodup_cons, List.mem_cons, not_or] at hnd
  have hno : ∀ j ab k2, T.get (T.put (pth i) c.M none) (pth j) = some ab → ab.own = true → c.ι j = some (g', k2) → False := fun j ab k2 hj ho hb => by
    obtain ⟨-, b4, k4, o4, h4, -, h5⟩ := k1.blk j ab hj
    have h4 : c.ι j = some (b4, k4) := h4
    rw [hb] at h4
    injection h4 with h4
    injection h4 with h4 _
    subst h4
    unfold Holds at h5
    rw [ho] at h5
    exact hnd.2.1 (mem_keys.2 ⟨_, hold j ab _ k2 o4 hj ho hb h5⟩)
  have hno2 : ∀ j ab k2, T.get (T.put (pth i) c.M none) (pth j) = some ab → ab.own = true → c.ι j = some (b, k2) → False := fun j ab k2 hj ho hb => by
    rw [get_putN] at hj
    split at hj
    · cases hj
    · rename_i hne
      exact hne (h.inj j i ab _ _ k2 kb hj ho hg rfl hb hι)
  obtain ⟨k5, k6⟩ := k3.adopt (b := g') (k := cap) (o := .cells (toArr cur) 5 (0, 0)) (ab := .cs 5 1 [] true c.nx) (by simp) (by
    have := AR.cs (ι := upd c.ι c.nx (g', cap)) (c := cap) (ty := 5) (sz := 1) (cells := []) (pre := []) (rest := cur) (opn := true) (st := c.nx) .nil (fun hc => by cases hc) (by rw [List.nil_append, f6, Nat.mul_one]) f5
    simpa using this) rfl rfl hno
  have hι5 : (upd c.ι c.nx (g', cap)) i = some (b, kb) := h.upd_le _ _ _ hι
  have hu : upd c.ι c.nx (g', cap) c.nx = some (g', cap) := by unfold upd; rw [if_pos rfl]
  have hbk : ∀ j ab k2, j ≠ i → T.get (T.put (pth c.nx) (T.put (pth i) c.M none) (some (AB.cs 5 1 [] true c.nx))) (pth j) = some ab → ab.own = true → (upd c.ι c.nx (g', cap)) j = some (b, k2) → False := fun j ab k2 _ hj ho hb => by
    rw [get_putN] at hj
    split at hj
    · rename_i e
      rw [e, hu] at hb
      injection hb with hb
      injection hb with hb _
      exact hnd.1.1 hb.symm
    · rename_i hne
      unfold upd at hb
      rw [if_neg hne] at hb
      exact hno2 j ab k2 hj ho hb
  obtain ⟨k7, k8⟩ := k5.readopt (j := i) (b := b) (k := kb) (o := bd.bdO (some ⟨b, 0, none⟩) (.slice (some ⟨g', 0, none⟩) 0 cap)) (ab := .cs 139 sz [.pointer (some ⟨i, 0, none⟩), .slice (some ⟨c.nx, 0, none⟩) 0 0] false (c.nx + 1)) hι5 (by simp) (by
    have := AR.cs (ι := upd c.ι c.nx (g', cap)) (c := kb) (ty := 139) (sz := sz) (cells := [.pointer (some ⟨i, 0, none⟩), .slice (some ⟨c.nx, 0, none⟩) 0 0]) (opn := false) (st := c.nx + 1) (rest := []) (.cons (.ptr hι5) (.cons (.slc hu (Nat.zero_le _)) .nil)) (fun _ => rfl) (by rw [List.append_nil]; exact p3) p4
    rwa [List.append_nil] at this) rfl rfl hbk
  exact hK _ _ _ ha (((k2.trans k4).trans k6).trans k8) k7 VR.undef
def sGrow (te : Nat) : Sm := fun args nx M k => match args with
  | [.slice none 0 0, .int .i64 (.ofNat n)] => match n with
    | 0 => k (.slice none 0 0) nx M
    | n + 1 => match Nat.ble n 1000000 with
      | true => newB nx M (.cs te 1 [] true nx) fun nx' M => k (.slice (some ⟨nx, 0, none⟩) 0 0) nx' M
      | false => false
  | _ => false
theorem sGrow_ok {m0 : Mem} {f te : Nat} (hf : ∀ (m : Mem) (k : Nat) (hk : k ≤ 100000000), Ev.Fn Tryz.prog f [.slice none 0 0, .int .i64 k] m [] fun m' L' u => m' = m ∧ ((k = 0 ∧ u = .slice none 0 0 ∧ L' = []) ∨ (0 < k ∧ ∃ g cap cur, u = .slice (some ⟨g, 0, none⟩) 0 cap ∧ L' = [(g, .cells (toArr cur) te (0, 0))] ∧ cap ≤ maxLen ∧ cur.length = cap))) : SmOne m0 f (sGrow te) := by
  intro S w0 args args' c k K h hv ha hK
  unfold sGrow at ha
  split at ha
  case h_2 => cases ha
  rename_i n
  match args', hv with
  | [x', y'], .cons hx (.cons hy .nil) =>
  obtain ⟨-, -, rfl⟩ := hx.slc_nil
  have hy := hy.int
  subst hy
  cases n with
  | zero =>
    refine CallReq.mk (L1 := []) (L2 := c.L) (hf c.m 0 (by decide)) h.loc ?_
    rintro v m' L1' w' hL - ⟨rfl, ⟨-, rfl, rfl⟩ | ⟨h0, -⟩⟩
    · obtain ⟨k1, k2⟩ := h.world hL
      exact hK _ { c with w := w' } _ ha k2 k1 (.same rfl)
    · omega
  | succ n =>
    dsimp only at ha
    cases hb : Nat.ble n 1000000 with
    | false => rw [hb] at ha; cases ha
    | true =>
    rw [hb] at ha
    have hb := Nat.le_of_ble_eq_true hb
    dsimp only at ha
    unfold newB at ha
    rw [putK_eq, fN_eq] at ha
    refine CallReq.mk (L1 := []) (L2 := c.L) (hf c.m (n + 1) (by omega)) h.loc ?_
    rintro v m' L1' w' hL - ⟨rfl, ⟨h0, -⟩ | ⟨-, g', cap, cur, rfl, rfl, f5, f6⟩⟩
    · omega
    · obtain ⟨k1, k2⟩ := h.new (k := cap) (ab := .cs te 1 [] true c.nx) (Mem.Le.refl _) hL (by
        have := AR.cs (ι := upd c.ι c.nx (g', cap)) (c := cap) (ty := te) (sz := 1) (cells := []) (pre := []) (rest := cur) (opn := true) (st := c.nx) .nil (fun hc => by cases hc) (by rw [List.nil_append, f6, Nat.mul_one]) f5
        simpa using this) rfl rfl
      have hu : upd c.ι c.nx (g', cap) c.nx = some (g', cap) := by unfold upd; rw [if_pos rfl]
      exact hK _ _ _ ha k2 k1 (VR.slc hu (Nat.zero_le _))
def smL : List (Nat × Sm) := [(22, sItoa), (118, sCheck), (54, sString), (52, sBgrow),
  (357, sGrow 46), (347, sGrow 3)]
theorem smL_ok {m0 : Mem} (hT : fk.TabMem m0) : ∀ x ∈ smL, SmOne m0 x.1 x.2 := by
  intro x hx
  simp only [smL, List.mem_cons, List.not_mem_nil, or_false] at hx
  rcases hx with rfl | rfl | rfl | rfl | rfl | rfl
  · exact sItoa_ok hT
  · exact sCheck_ok
  · exact sString_ok
  · exact sBgrow_ok
  · exact sGrow_ok growF_fn
  · exact sGrow_ok growI_fn
end
end Go.Proofs.YtloofgoblodeiaaGreatDoor.am
namespace Go.Proofs.YtloofgoblodeiaaGreatDoor.am
open Go Go.Ev Go.Proofs Go.Proofs.YtloofgoblodeiaaGreatDoor.co
noncomputable section
def bitL : List Nat := [0, 1, 56, 2, 57, 49, 28, 3, 61, 58, 42, 50, 38, 29, 17, 4, 62, 47, 59, 36, 45, 43, 51, 22, 53, 39, 33, 30, 24, 18, 12, 5, 63, 55, 48, 27, 60, 41, 37, 16, 46, 35, 44, 21, 52, 32, 23, 11, 54, 26, 40, 15, 34, 20, 31, 10, 25, 14, 19, 9, 13, 8, 7, 6]
def bitV : List Value := bitL.map fun n => .int .u8 (.ofNat n)
def M00 : Mm := T.put (pth 4) .e (some (.gl bitV 0))
end
end Go.Proofs.YtloofgoblodeiaaGreatDoor.am
namespace Go.Proofs.YtloofgoblodeiaaGreatDoor.mach
open Go Go.Ev Go.Proofs
def idxF {α : Type} (f : α → Bool) : List α → Int
  | [] => -1
  | p :: l => if f p = true then 0 else if idxF f l < 0 then -1 else idxF f l + 1
theorem idxF_at {α : Type} {f : α → Bool} : ∀ (l : List α) (i : Nat) (x : α), l[i]? = some x → f x = true → (∀ (q : Nat) (y : α), q < i → l[q]? = some y → f y = false) → idxF f l = i := by
  intro l
  induction l with
  | nil => intro i x h; simp at h
  | cons p l ih =>
    intro i x h hx hq
    cases i with
    | zero => simp at h; subst h; simp only [idxF]; rw [if_pos hx]; rfl
    | succ i =>
      have h0 := hq 0 p (by omega) rfl
      simp only [idxF]
      rw [if_neg (by rw [h0]; simp), ih i x (by simpa using h) hx fun q y hlt hy => hq (q + 1) y (by omega) (by simpa using hy), if_neg (by omega)]
      omega
theorem idxF_none {α : Type} {f : α → Bool} : ∀ (l : List α), (∀ x ∈ l, f x = false) → idxF f l = -1 := by
  intro l
  induction l with
  | nil => intro _; rfl
  | cons p l ih =>
    intro h
    simp only [idxF]
    rw [if_neg (by rw [h p (by simp)]; simp), ih fun x hx => h x (by simp [hx]), if_pos (by omega)]
theorem idxF_neg {α : Type} {f : α → Bool} : ∀ (l : List α), 0 ≤ idxF f l ↔ l.any f = true := by
  intro l
  induction l with
  | nil => simp [idxF]
  | cons p l ih =>
    simp only [idxF, List.any_cons, Bool.or_eq_true]
    by_cases h : f p = true
    · rw [if_pos h]; exact ⟨fun _ => .inl h, fun _ => by omega⟩
    · rw [if_neg h]
      by_cases h2 : idxF f l < 0
      · rw [if_pos h2]; exact ⟨fun h' => absurd h' (by omega), fun h' => h'.elim (fun h3 => absurd h3 h) fun h3 => absurd (ih.2 h3) (by omega)⟩
      · rw [if_neg h2]; exact ⟨fun _ => .inr (ih.1 (by omega)), fun _ => by omega⟩
structure St where
  next : List Int
  rule : List Int
structure Mc where
  of : List Int
  n : Int
  looks : Int
  states : List St
  begins : List Int
def stV (m : Mem) (cs : List Value) (s : St) : Prop := ∃ nx ru, cs = [nx, ru] ∧ SlI m .i64 nx s.next ∧ SlI m .i64 ru s.rule
theorem stV.le {m m' : Mem} (h : Mem.Le m m') {cs : List Value} {s : St} (hs : stV m cs s) : stV m' cs s := by
  obtain ⟨nx, ru, e, h1, h2⟩ := hs
  exact ⟨nx, ru, e, h1.le' h, h2.le' h⟩
structure McV (m : Mem) (cs : List Value) (M : Mc) : Prop where
  out : ∃ st be, cs = ints .u8 M.of ++ [.int .i64 M.n, .int .i64 M.looks, st, be] ∧ Sl m 2 (stV m) st M.states ∧ SlI m .i64 be M.begins
  len : M.of.length = 256
  byt : ∀ z ∈ M.of, 0 ≤ z ∧ z ≤ 255
theorem McV.le {m m' : Mem} (h : Mem.Le m m') {cs : List Value} {M : Mc} (hs : McV m cs M) : McV m' cs M := by
  obtain ⟨⟨st, be, e, h1, h2⟩, h3, h4⟩ := hs
  exact ⟨⟨st, be, e, h1.le h fun _ _ _ hr => hr.le h, h2.le' h⟩, h3, h4⟩
def clsGo : List Int → Int → Option Int
  | [], a => some a
  | n :: l, a => if a < n then none else clsGo l (if n = a then a + 1 else a)
def clsR (of : List Int) (n : Int) : Bool := decide (clsGo of 0 = some n)
def rightSt (M : Mc) (s : St) : Bool :=
  (decide ((s.rule.length : Int) = 2 ^ M.looks.toNat) && decide ((s.next.length : Int) = 2 ^ M.looks.toNat * M.n)) &&
  (s.rule.all (fun r => decide (-1 ≤ r) && decide (r < 30)) && s.next.all (fun k => decide (0 ≤ k) && decide (k < (M.states.length : Int))))
def rightM (M : Mc) : Bool :=
  (clsR M.of M.n && (decide (0 ≤ M.looks) && decide (M.looks ≤ 4)) && (decide (1 ≤ M.states.length) && decide (1 ≤ M.begins.length))) &&
  (M.states.all (rightSt M) && M.begins.all (fun k => decide (0 ≤ k) && decide (k < (M.states.length : Int))))
theorem clsGo_lt : ∀ (l : List Int) (a n : Int), clsGo l a = some n → a ≤ n ∧ n ≤ a + l.length
  | [], a, n, h => by simp [clsGo] at h; simp [h]
  | x :: l, a, n, h => by
    simp only [clsGo] at h
    split at h
    · cases h
    · have := clsGo_lt l _ _ h
      split at this <;> simp only [List.length_cons] <;> omega
theorem ints_get {k : IntKind} {l : List Int} (Y : List Value) {j : Nat} (h : j < l.length) : (ints k l ++ Y)[j]? = some (.int k l[j]) := by
  rw [List.getElem?_append_left (by simpa [ints] using h)]
  simp [ints, List.getElem?_map, List.getElem?_eq_getElem h]
theorem ints_at {k : IntKind} {l : List Int} (Y : List Value) {n j : Nat} (h : l.length = n) : (ints k l ++ Y)[n + j]? = Y[j]? := by
  rw [List.getElem?_append_right (by simp [ints, h])]
  simp [ints, h]
set_option maxRecDepth 10000 in
theorem clsRight_fn (m : Mem) (of : List Int) (n : Int) (hl : of.length = 256) (hb : ∀ z ∈ of, 0 ≤ z ∧ z ≤ 255) :
    FnV Tryz.prog 107 [.agg (toArr (ints .u8 of ++ [.int .i64 n]))] m (.bool (clsR of n)) := by
  refine Fn.enter (N := 27) hX Tryz.func107 rfl rfl (by show _ ≤ _; simp) (fun w0 hL => ?_)
  conv => whnf
  refine NewReq.mk hL ?_
  clear hL
  intro b1 w hL
  conv => whnf
  replace hL : Ev.Loc m [] w0 m [(b1, .cells (toArr (ints .u8 of ++ [.int .i64 n])) 44 (0, 0))] w := hL
  refine go ?_;try(clear hL;intro w hL)
  refine LoopReq.inv hX (fun s : Nat × Int => [(3, .int .i64 s.2), (6, .int .i64 s.1)]) [1]
    (fun s w => (s.1 ≤ 256 ∧ 0 ≤ s.2 ∧ s.2 ≤ s.1 ∧ clsGo (of.drop s.1) s.2 = clsGo of 0) ∧ Ev.Loc m [] w0 m [(b1, .cells (toArr (ints .u8 of ++ [.int .i64 n])) 44 (0, 0))] w) (fun s => 256 - s.1) (0, 0)
    ⟨⟨by simp, by simp, by simp, rfl⟩, hL⟩ ⟨rfl, rfl, trivial⟩ ?_
  clear hL
  rintro ⟨j, q⟩ w f ⟨⟨hj, hq0, hq, hqv⟩, hL⟩
  simp only at hj hq0 hq hqv
  refine go ?_;try(clear hL;intro w hL)
  refine BrReq.dec (fun hlt => ?_) (fun hlt => ?_)
  · have hjl : j < of.length := by simp only at hlt; omega
    have hz := hb _ (List.getElem_mem hjl)
    have hd : of.drop j = of[j] :: of.drop (j + 1) := List.drop_eq_getElem_cons hjl
    rw [hd] at hqv
    simp only [clsGo] at hqv
    conv => whnf
    repeat ((first | (refine IdxReq.mk j rfl (by simp only at hlt; omega) ?_) | (refine LdReq.ownAt hX rfl rfl 0 hL rfl (v := .int .u8 of[j]) (by rw [show 0 + scale j 1 = j from by rw [scale_eq]; omega]; exact ints_get _ hjl) ?_) | (refine go1 ?_;try(clear hL;intro w hL))); conv => whnf)
    refine BrReq.dec (fun hgt => ?_) (fun hgt => ?_)
    · rw [if_pos hgt] at hqv
      refine go ?_;try(clear hL;intro w hL)
      refine RetReq.bool hL.drop ?_
      unfold clsR; rw [← hqv]; rfl
    · rw [if_neg hgt] at hqv
      refine go ?_;try(clear hL;intro w hL)
      refine BrReq.dec (fun heq => ?_) (fun heq => ?_)
      · rw [if_pos heq] at hqv
        refine go ?_;try(clear hL;intro w hL)
        exact rnd (j + 1, q + 1) ⟨⟨by simp only at hlt ⊢; omega, by simp only; omega, by simp only at hlt ⊢; omega, hqv⟩, hL⟩
      · rw [if_neg heq] at hqv
        refine go ?_;try(clear hL;intro w hL)
        exact rnd (j + 1, q) ⟨⟨by simp only at hlt ⊢; omega, hq0, by simp only at hlt ⊢; omega, hqv⟩, hL⟩
  · have ej : j = 256 := by simp only at hlt; omega
    subst ej
    rw [List.drop_eq_nil_of_le (by omega)] at hqv
    conv => whnf
    repeat ((first | (refine LdReq.ownAt hX rfl rfl 0 hL rfl (v := .int .i64 n) (by rw [show 0 + 256 = 256 + 0 from rfl, ints_at _ hl]; rfl) ?_) | (refine go1 ?_;try(clear hL;intro w hL))); conv => whnf)
    refine RetReq.bool hL.drop ?_
    unfold clsR; rw [← hqv]; simp [clsGo]
theorem indexRule_fn (m : Mem) (v : Value) (rs : List Int) (f : Int → Bool) (hs : SlI m .i64 v rs) (hf : ∀ p ∈ rs, FnV Tryz.prog 196 ([.int .i64 p] ++ []) m (.bool (f p))) :
    FnV Tryz.prog 125 [v, .func (.func 196) #[] #[]] m (.int .i64 (idxF f rs)) := by
  have hs' := hs
  obtain ⟨A, n, c, rfl, hn, hc, hm, -⟩ := hs
  have he := hs'.cell.2
  have hmx : maxLen = 9223372036854775807 := rfl
  refine Fn.enter (N := 19) hX Tryz.func125 rfl rfl (by show _ ≤ _; simp) (fun w0 hL => ?_)
  conv => whnf
  refine go ?_;try(clear hL;intro w hL)
  refine LoopReq.inv hX (fun j : Nat => [(8, .int .i64 j)]) [0, 1, 7]
    (fun j w => (j ≤ n ∧ ∀ (i : Nat) (x : Int), i < j → rs[i]? = some x → f x = false) ∧ Ev.Loc m [] w0 m [] w) (fun j => n - j) 0
    ⟨⟨by omega, fun i x h => absurd h (by omega)⟩, hL⟩ ⟨rfl, trivial⟩ ?_
  clear hL
  rintro j w g ⟨⟨hj, hdone⟩, hL⟩
  refine go ?_;try(clear hL;intro w hL)
  refine BrReq.dec (fun hlt => ?_) (fun hlt => ?_)
  · have hlt' : j < rs.length := by omega
    obtain ⟨a, rfl, hcell⟩ := he j _ (List.getElem?_eq_getElem hlt')
    conv => whnf
    repeat ((first | refine Idx2Req.mk j a rfl (by omega) rfl ?_ | (refine LdReq.one hX rfl rfl hL (by rw [scale_eq, Nat.mul_one]; exact hcell) ?_) | (refine go1 ?_;try(clear hL;intro w hL))); conv => whnf)
    refine CallReq.val (hf _ (List.getElem_mem hlt')) hL ?_
    clear hL
    intro w hL
    refine go ?_;try(clear hL;intro w hL)
    refine BrReq.bool (fun hb => ?_) (fun hb => ?_)
    · have e := idxF_at (f := f) rs j _ (List.getElem?_eq_getElem hlt') hb fun q y h1 h2 => hdone q y h1 h2
      refine go ?_;try(clear hL;intro w hL)
      exact RetReq.int hL e.symm
    · have hd : ∀ (i : Nat) (x : Int), i < j + 1 → rs[i]? = some x → f x = false := by
        intro i x hi hx
        by_cases e : i = j
        · subst e
          rw [List.getElem?_eq_getElem hlt'] at hx
          cases hx; exact hb
        · exact hdone i x (by omega) hx
      refine go ?_;try(clear hL;intro w hL)
      exact rnd (j + 1) ⟨⟨by omega, hd⟩, hL⟩
  · refine go ?_;try(clear hL;intro w hL)
    have e : idxF f rs = -1 := idxF_none rs fun x hx => by
      obtain ⟨i, hi, rfl⟩ := List.getElem_of_mem hx
      exact hdone i _ (by omega) (List.getElem?_eq_getElem hi)
    exact RetReq.int hL e.symm
theorem indexNext_fn (m : Mem) (v : Value) (rs : List Int) (f : Int → Bool)(b0 : Nat) (hs : SlI m .i64 v rs) (hf : ∀ p ∈ rs, FnV Tryz.prog 197 ([.int .i64 p] ++ [.pointer (some ⟨b0, 0, none⟩)]) m (.bool (f p))) :
    FnV Tryz.prog 125 [v, .func (.func 197) #[] #[.pointer (some ⟨b0, 0, none⟩)]] m (.int .i64 (idxF f rs)) := by
  have hs' := hs
  obtain ⟨A, n, c, rfl, hn, hc, hm, -⟩ := hs
  have he := hs'.cell.2
  have hmx : maxLen = 9223372036854775807 := rfl
  refine Fn.enter (N := 19) hX Tryz.func125 rfl rfl (by show _ ≤ _; simp) (fun w0 hL => ?_)
  conv => whnf
  refine go ?_;try(clear hL;intro w hL)
  refine LoopReq.inv hX (fun j : Nat => [(8, .int .i64 j)]) [0, 1, 7]
    (fun j w => (j ≤ n ∧ ∀ (i : Nat) (x : Int), i < j → rs[i]? = some x → f x = false) ∧ Ev.Loc m [] w0 m [] w) (fun j => n - j) 0
    ⟨⟨by omega, fun i x h => absurd h (by omega)⟩, hL⟩ ⟨rfl, trivial⟩ ?_
  clear hL
  rintro j w g ⟨⟨hj, hdone⟩, hL⟩
  refine go ?_;try(clear hL;intro w hL)
  refine BrReq.dec (fun hlt => ?_) (fun hlt => ?_)
  · have hlt' : j < rs.length := by omega
    obtain ⟨a, rfl, hcell⟩ := he j _ (List.getElem?_eq_getElem hlt')
    conv => whnf
    repeat ((first | refine Idx2Req.mk j a rfl (by omega) rfl ?_ | (refine LdReq.one hX rfl rfl hL (by rw [scale_eq, Nat.mul_one]; exact hcell) ?_) | (refine go1 ?_;try(clear hL;intro w hL))); conv => whnf)
    refine CallReq.val (hf _ (List.getElem_mem hlt')) hL ?_
    clear hL
    intro w hL
    refine go ?_;try(clear hL;intro w hL)
    refine BrReq.bool (fun hb => ?_) (fun hb => ?_)
    · have e := idxF_at (f := f) rs j _ (List.getElem?_eq_getElem hlt') hb fun q y h1 h2 => hdone q y h1 h2
      refine go ?_;try(clear hL;intro w hL)
      exact RetReq.int hL e.symm
    · have hd : ∀ (i : Nat) (x : Int), i < j + 1 → rs[i]? = some x → f x = false := by
        intro i x hi hx
        by_cases e : i = j
        · subst e
          rw [List.getElem?_eq_getElem hlt'] at hx
          cases hx; exact hb
        · exact hdone i x (by omega) hx
      refine go ?_;try(clear hL;intro w hL)
      exact rnd (j + 1) ⟨⟨by omega, hd⟩, hL⟩
  · refine go ?_;try(clear hL;intro w hL)
    have e : idxF f rs = -1 := idxF_none rs fun x hx => by
      obtain ⟨i, hi, rfl⟩ := List.getElem_of_mem hx
      exact hdone i _ (by omega) (List.getElem?_eq_getElem hi)
    exact RetReq.int hL e.symm
theorem indexBegin_fn (m : Mem) (v : Value) (rs : List Int) (f : Int → Bool)(b0 : Nat) (hs : SlI m .i64 v rs) (hf : ∀ p ∈ rs, FnV Tryz.prog 112 ([.int .i64 p] ++ [.pointer (some ⟨b0, 0, none⟩)]) m (.bool (f p))) :
    FnV Tryz.prog 125 [v, .func (.func 112) #[] #[.pointer (some ⟨b0, 0, none⟩)]] m (.int .i64 (idxF f rs)) := by
  have hs' := hs
  obtain ⟨A, n, c, rfl, hn, hc, hm, -⟩ := hs
  have he := hs'.cell.2
  have hmx : maxLen = 9223372036854775807 := rfl
  refine Fn.enter (N := 19) hX Tryz.func125 rfl rfl (by show _ ≤ _; simp) (fun w0 hL => ?_)
  conv => whnf
  refine go ?_;try(clear hL;intro w hL)
  refine LoopReq.inv hX (fun j : Nat => [(8, .int .i64 j)]) [0, 1, 7]
    (fun j w => (j ≤ n ∧ ∀ (i : Nat) (x : Int), i < j → rs[i]? = some x → f x = false) ∧ Ev.Loc m [] w0 m [] w) (fun j => n - j) 0
    ⟨⟨by omega, fun i x h => absurd h (by omega)⟩, hL⟩ ⟨rfl, trivial⟩ ?_
  clear hL
  rintro j w g ⟨⟨hj, hdone⟩, hL⟩
  refine go ?_;try(clear hL;intro w hL)
  refine BrReq.dec (fun hlt => ?_) (fun hlt => ?_)
  · have hlt' : j < rs.length := by omega
    obtain ⟨a, rfl, hcell⟩ := he j _ (List.getElem?_eq_getElem hlt')
    conv => whnf
    repeat ((first | refine Idx2Req.mk j a rfl (by omega) rfl ?_ | (refine LdReq.one hX rfl rfl hL (by rw [scale_eq, Nat.mul_one]; exact hcell) ?_) | (refine go1 ?_;try(clear hL;intro w hL))); conv => whnf)
    refine CallReq.val (hf _ (List.getElem_mem hlt')) hL ?_
    clear hL
    intro w hL
    refine go ?_;try(clear hL;intro w hL)
    refine BrReq.bool (fun hb => ?_) (fun hb => ?_)
    · have e := idxF_at (f := f) rs j _ (List.getElem?_eq_getElem hlt') hb fun q y h1 h2 => hdone q y h1 h2
      refine go ?_;try(clear hL;intro w hL)
      exact RetReq.int hL e.symm
    · have hd : ∀ (i : Nat) (x : Int), i < j + 1 → rs[i]? = some x → f x = false := by
        intro i x hi hx
        by_cases e : i = j
        · subst e
          rw [List.getElem?_eq_getElem hlt'] at hx
          cases hx; exact hb
        · exact hdone i x (by omega) hx
      refine go ?_;try(clear hL;intro w hL)
      exact rnd (j + 1) ⟨⟨by omega, hd⟩, hL⟩
  · refine go ?_;try(clear hL;intro w hL)
    have e : idxF f rs = -1 := idxF_none rs fun x hx => by
      obtain ⟨i, hi, rfl⟩ := List.getElem_of_mem hx
      exact hdone i _ (by omega) (List.getElem?_eq_getElem hi)
    exact RetReq.int hL e.symm
theorem containsRule_fn (m : Mem) (v : Value) (rs : List Int) (f : Int → Bool) (hs : SlI m .i64 v rs) (hf : ∀ p ∈ rs, FnV Tryz.prog 196 ([.int .i64 p] ++ []) m (.bool (f p))) :
    FnV Tryz.prog 111 [v, .func (.func 196) #[] #[]] m (.bool (rs.any f)) := by
  have hs' := hs
  obtain ⟨A, n, c, rfl, -⟩ := hs
  refine Fn.enter (N := 9) hX Tryz.func111 rfl rfl (by show _ ≤ _; simp) (fun w0 hL => ?_)
  conv => whnf
  refine go ?_;try(clear hL;intro w hL)
  refine CallReq.val (indexRule_fn m _ rs f  hs' hf) hL ?_
  clear hL
  intro w hL
  refine go ?_;try(clear hL;intro w hL)
  refine RetReq.bool hL ?_
  rw [Bool.eq_iff_iff, decide_eq_true_iff]
  exact idxF_neg rs
theorem containsNext_fn (m : Mem) (v : Value) (rs : List Int) (f : Int → Bool)(b0 : Nat) (hs : SlI m .i64 v rs) (hf : ∀ p ∈ rs, FnV Tryz.prog 197 ([.int .i64 p] ++ [.pointer (some ⟨b0, 0, none⟩)]) m (.bool (f p))) :
    FnV Tryz.prog 111 [v, .func (.func 197) #[] #[.pointer (some ⟨b0, 0, none⟩)]] m (.bool (rs.any f)) := by
  have hs' := hs
  obtain ⟨A, n, c, rfl, -⟩ := hs
  refine Fn.enter (N := 9) hX Tryz.func111 rfl rfl (by show _ ≤ _; simp) (fun w0 hL => ?_)
  conv => whnf
  refine go ?_;try(clear hL;intro w hL)
  refine CallReq.val (indexNext_fn m _ rs f b0 hs' hf) hL ?_
  clear hL
  intro w hL
  refine go ?_;try(clear hL;intro w hL)
  refine RetReq.bool hL ?_
  rw [Bool.eq_iff_iff, decide_eq_true_iff]
  exact idxF_neg rs
theorem containsBegin_fn (m : Mem) (v : Value) (rs : List Int) (f : Int → Bool)(b0 : Nat) (hs : SlI m .i64 v rs) (hf : ∀ p ∈ rs, FnV Tryz.prog 112 ([.int .i64 p] ++ [.pointer (some ⟨b0, 0, none⟩)]) m (.bool (f p))) :
    FnV Tryz.prog 111 [v, .func (.func 112) #[] #[.pointer (some ⟨b0, 0, none⟩)]] m (.bool (rs.any f)) := by
  have hs' := hs
  obtain ⟨A, n, c, rfl, -⟩ := hs
  refine Fn.enter (N := 9) hX Tryz.func111 rfl rfl (by show _ ≤ _; simp) (fun w0 hL => ?_)
  conv => whnf
  refine go ?_;try(clear hL;intro w hL)
  refine CallReq.val (indexBegin_fn m _ rs f b0 hs' hf) hL ?_
  clear hL
  intro w hL
  refine go ?_;try(clear hL;intro w hL)
  refine RetReq.bool hL ?_
  rw [Bool.eq_iff_iff, decide_eq_true_iff]
  exact idxF_neg rs
theorem ruleBad_fn (m : Mem) (r : Int) : FnV Tryz.prog 196 [.int .i64 r] m (.bool (!(decide (-1 ≤ r) && decide (r < 30)))) := by
  refine Fn.enter (N := 9) hX Tryz.func196 rfl rfl (by show _ ≤ _; simp) (fun w0 hL => ?_)
  conv => whnf
  refine go ?_;try(clear hL;intro w hL)
  refine BrReq.dec (fun h1 => ?_) (fun h1 => ?_)
  · refine go ?_;try(clear hL;intro w hL)
    exact RetReq.bool hL (by rw [decide_eq_false (by omega)]; rfl)
  · refine go ?_;try(clear hL;intro w hL)
    refine RetReq.bool hL ?_
    rw [decide_eq_true (show -1 ≤ r by omega), Bool.true_and, ← decide_not]
    exact decide_eq_decide.2 (by omega)
def McB (m : Mem) (b : Nat) (M : Mc) : Prop := ∃ cs, McV m cs M ∧ Cells m ⟨b, 0, none⟩ cs
theorem McB.freeze {m : Mem} {b : Nat} {cs : List Value} {M : Mc} {t : TypeId} {S : List Nat} {w0 w : World} {L : Own} {m0 : Mem} (h : McV m cs M) (hL : Ev.Loc m0 S w0 m ((b, .cells (toArr cs) t (0, 0)) :: L) w) :
    McB (m.add b (.cells (toArr cs) t (0, 0))) b M := by
  refine ⟨cs, h.le hL.le_add, fun j v hj => ?_⟩
  rw [addr_add, Nat.zero_add]
  show ocell (Mem.add m b _ b) j = _
  rw [Mem.add_same]
  simpa [ocell, toArr] using hj
theorem McB.le {m m' : Mem} (h : Mem.Le m m') {b : Nat} {M : Mc} (hs : McB m b M) : McB m' b M := by
  obtain ⟨cs, h1, h2⟩ := hs
  exact ⟨cs, h1.le h, h2.le h⟩
theorem McV.size {m : Mem} {cs : List Value} {M : Mc} (h : McV m cs M) : cs.length = 260 := by
  obtain ⟨st, be, rfl, -⟩ := h.out
  simp [ints, h.len]
theorem McB.at_ {m : Mem} {b : Nat} {M : Mc} (h : McB m b M) : ∃ st be, Sl m 2 (stV m) st M.states ∧ SlI m .i64 be M.begins ∧ mcell m ⟨b, 256, none⟩ = some (.int .i64 M.n) ∧ mcell m ⟨b, 257, none⟩ = some (.int .i64 M.looks) ∧
    mcell m ⟨b, 258, none⟩ = some st ∧ mcell m ⟨b, 259, none⟩ = some be ∧ Cells m ⟨b, 0, none⟩ (ints .u8 M.of ++ [.int .i64 M.n]) ∧ McV m (ints .u8 M.of ++ [.int .i64 M.n, .int .i64 M.looks, st, be]) M ∧
    Cells m ⟨b, 0, none⟩ (ints .u8 M.of ++ [.int .i64 M.n, .int .i64 M.looks, st, be]) := by
  obtain ⟨cs, h1, h2⟩ := h
  have h1' := h1
  obtain ⟨⟨st, be, rfl, h3, h4⟩, hl, hb⟩ := h1
  have g : ∀ j v, (ints .u8 M.of ++ [.int .i64 M.n, .int .i64 M.looks, st, be])[j]? = some v → mcell m ⟨b, j, none⟩ = some v := fun j v hj => by
    have := h2 j v hj
    rwa [addr_add, Nat.zero_add] at this
  refine ⟨st, be, h3, h4, g 256 _ (ints_at (j := 0) _ hl), g 257 _ (ints_at (j := 1) _ hl), g 258 _ (ints_at (j := 2) _ hl), g 259 _ (ints_at (j := 3) _ hl), fun j v hj => ?_, h1', h2⟩
  refine h2 j v ?_
  have hlt := (List.getElem?_eq_some_iff.1 hj).1
  rw [← hj, show ints .u8 M.of ++ [.int .i64 M.n, .int .i64 M.looks, st, be] = (ints .u8 M.of ++ [.int .i64 M.n]) ++ [.int .i64 M.looks, st, be] from by simp, List.getElem?_append_left hlt]
theorem below_bool (k : Int) (n : Nat) (h : ¬ k < 0) : decide (k ≥ (n : Int)) = !(decide (0 ≤ k) && decide (k < (n : Int))) := by
  rw [decide_eq_true (show 0 ≤ k by omega), Bool.true_and, ← decide_not]
  exact decide_eq_decide.2 (by omega)
theorem nextBad_fn (m : Mem) (b0 : Nat) (M : Mc) (h : McB m b0 M) (k : Int) : FnV Tryz.prog 197 [.int .i64 k, .pointer (some ⟨b0, 0, none⟩)] m (.bool (!(decide (0 ≤ k) && decide (k < (M.states.length : Int))))) := by
  obtain ⟨st, be, hst, -, -, -, hc, -⟩ := h.at_
  obtain ⟨A, n, c, rfl, hn, -⟩ := hst
  refine Fn.enter (N := 13) hX Tryz.func197 rfl rfl (by show _ ≤ _; simp) (fun w0 hL => ?_)
  conv => whnf
  refine go ?_;try(clear hL;intro w hL)
  refine BrReq.dec (fun h1 => ?_) (fun h1 => ?_)
  · refine go ?_;try(clear hL;intro w hL)
    exact RetReq.bool hL (by rw [decide_eq_false (show ¬ 0 ≤ k by omega)]; rfl)
  · conv => whnf
    repeat ((first | (refine LdReq.one hX rfl rfl hL (by rw [addr_add]; exact hc) ?_) | (refine go1 ?_;try(clear hL;intro w hL))); conv => whnf)
    refine RetReq.bool hL ?_
    rw [← hn]; exact below_bool k n h1
theorem beginBad_fn (m : Mem) (b0 : Nat) (M : Mc) (h : McB m b0 M) (k : Int) : FnV Tryz.prog 112 [.int .i64 k, .pointer (some ⟨b0, 0, none⟩)] m (.bool (!(decide (0 ≤ k) && decide (k < (M.states.length : Int))))) := by
  obtain ⟨st, be, hst, -, -, -, hc, -⟩ := h.at_
  obtain ⟨A, n, c, rfl, hn, -⟩ := hst
  refine Fn.enter (N := 13) hX Tryz.func112 rfl rfl (by show _ ≤ _; simp) (fun w0 hL => ?_)
  conv => whnf
  refine go ?_;try(clear hL;intro w hL)
  refine BrReq.dec (fun h1 => ?_) (fun h1 => ?_)
  · refine go ?_;try(clear hL;intro w hL)
    exact RetReq.bool hL (by rw [decide_eq_false (show ¬ 0 ≤ k by omega)]; rfl)
  · conv => whnf
    repeat ((first | (refine LdReq.one hX rfl rfl hL (by rw [addr_add]; exact hc) ?_) | (refine go1 ?_;try(clear hL;intro w hL))); conv => whnf)
    refine RetReq.bool hL ?_
    rw [← hn]; exact below_bool k n h1
theorem pow_looks {z : Int} (h0 : 0 ≤ z) (h4 : z ≤ 4) : 1 ≤ (2 : Int) ^ z.toNat ∧ (2 : Int) ^ z.toNat ≤ 16 ∧ IntKind.wrap .i64 (1 * 2 ^ (min z.toNat (IntKind.bits .i64))) = 2 ^ z.toNat := by
  have : z = 0 ∨ z = 1 ∨ z = 2 ∨ z = 3 ∨ z = 4 := by omega
  rcases this with rfl | rfl | rfl | rfl | rfl <;> decide
theorem any_not {α : Type} (l : List α) (f : α → Bool) : l.any (fun x => !f x) = !l.all f := by
  induction l with
  | nil => rfl
  | cons x l ih => simp [ih]
set_option maxHeartbeats 1000000 in
set_option maxRecDepth 10000 in
theorem rightState_fn (m : Mem) (cs : List Value) (M : Mc) (hM : McV m cs M) (hlk : 0 ≤ M.looks ∧ M.looks ≤ 4) (hN : 0 ≤ M.n ∧ M.n ≤ 256) (s : St) (ss : List Value) (hs : stV m ss s) :
    FnV Tryz.prog 110 [.agg (toArr cs), .agg (toArr ss)] m (.bool (rightSt M s)) := by
  obtain ⟨nx, ru, rfl, hnx, hru⟩ := hs
  obtain ⟨p1, p2, p3⟩ := pow_looks hlk.1 hlk.2
  have hmx : maxLen = 9223372036854775807 := rfl
  refine Fn.enter (N := 33) hX Tryz.func110 rfl rfl (by show _ ≤ _; simp) (fun w0 hL => ?_)
  conv => whnf
  refine NewReq.mk hL ?_
  clear hL
  intro b1 w hL
  replace hL : Ev.Loc m [] w0 m [(b1, .cells (toArr cs) 48 (0, 0))] w := hL
  have hle := hL.le_add
  have hB := McB.freeze hM hL
  replace hL := hL.freeze
  replace hnx := hnx.le' hle
  replace hru := hru.le' hle
  generalize Mem.add m b1 _ = m1 at hL hB hnx hru hle
  obtain ⟨st, be, hst, hbe, c1, c2, -⟩ := hB.at_
  have hnx' := hnx
  have hru' := hru
  obtain ⟨A1, n1, k1, rfl, hn1, hk1, hm1, -⟩ := hnx'
  obtain ⟨A2, n2, k2, rfl, hn2, hk2, hm2, -⟩ := hru'
  conv => whnf
  refine NewReq.mk hL ?_
  clear hL
  intro b2 w hL
  conv => whnf
  conv => whnf
  repeat ((first | (refine LdReq.one hX rfl rfl hL (by rw [addr_add]; exact c2) ?_) | refine ShlReq.mk hlk.1 p3 ?_ | (refine go1 ?_;try(clear hL;intro w hL))); conv => whnf)
  generalize hpw : (2 : Int) ^ M.looks.toNat = pw at p1 p2 p3
  have hfin : rightSt M s = ((decide ((n2 : Int) = pw) && decide ((n1 : Int) = pw * M.n)) && (s.rule.all (fun r => decide (-1 ≤ r) && decide (r < 30)) && s.next.all (fun k => decide (0 ≤ k) && decide (k < (M.states.length : Int))))) := by
    unfold rightSt; rw [hpw, ← hn1, ← hn2]
  have hmul : 0 ≤ pw * M.n ∧ pw * M.n ≤ 4096 := by
    constructor
    · exact Int.mul_nonneg (by omega) hN.1
    · exact Int.le_trans (Int.mul_le_mul p2 hN.2 hN.1 (by omega)) (by omega)
  refine BrReq.dec (fun h1 => ?_) (fun h1 => ?_)
  · refine go ?_;try(clear hL;intro w hL)
    refine RetReq.bool hL.drop ?_
    rw [hfin, decide_eq_false h1]; rfl
  · have h1 : (n2 : Int) = pw := Classical.not_not.1 h1
    conv => whnf
    repeat ((first | (refine LdReq.one hX rfl rfl hL (by rw [addr_add, addr_add]; exact c1) ?_) | (refine go1 ?_;try(clear hL;intro w hL))); conv => whnf)
    refine BrReq.dec (fun h2 => ?_) (fun h2 => ?_)
    · refine go ?_;try(clear hL;intro w hL)
      refine RetReq.bool hL.drop ?_
      rw [hfin, decide_eq_false h2, Bool.and_false]; rfl
    · have h2 : (n1 : Int) = pw * M.n := Classical.not_not.1 h2
      rw [decide_eq_true h1, decide_eq_true h2] at hfin
      refine go ?_;try(clear hL;intro w hL)
      refine CallReq.val (containsRule_fn m1 _ _ _ hru fun p _ => ruleBad_fn m1 p) hL ?_
      clear hL
      intro w hL
      rw [any_not]
      refine go ?_;try(clear hL;intro w hL)
      refine BrReq.not ?_
      refine BrReq.bool (fun h3 => ?_) (fun h3 => ?_)
      · rw [h3] at hfin
        refine go ?_;try(clear hL;intro w hL)
        refine CallReq.val (containsNext_fn m1 _ _ _ b1 hnx fun p _ => nextBad_fn m1 b1 M hB p) hL ?_
        clear hL
        intro w hL
        rw [any_not]
        refine go ?_;try(clear hL;intro w hL)
        exact RetReq.bool hL.drop (by rw [hfin, Bool.not_not]; rfl)
      · rw [h3] at hfin
        refine go ?_;try(clear hL;intro w hL)
        exact RetReq.bool hL.drop (by rw [hfin]; rfl)
theorem stateBad_fn (m : Mem) (b0 : Nat) (M : Mc) (h : McB m b0 M) (hlk : 0 ≤ M.looks ∧ M.looks ≤ 4) (hN : 0 ≤ M.n ∧ M.n ≤ 256) (s : St) (ss : List Value) (hs : stV m ss s) :
    FnV Tryz.prog 109 [.agg (toArr ss), .pointer (some ⟨b0, 0, none⟩)] m (.bool (!rightSt M s)) := by
  obtain ⟨cs, hM, hcs⟩ := h
  have hs' := hs
  obtain ⟨nx, ru, rfl, hnx, hru⟩ := hs
  obtain ⟨A1, n1, k1, rfl, -⟩ := hnx
  obtain ⟨A2, n2, k2, rfl, -⟩ := hru
  refine Fn.enter (N := 8) hX Tryz.func109 rfl rfl (by show _ ≤ _; simp) (fun w0 hL => ?_)
  conv => whnf
  refine NewReq.mk hL ?_
  clear hL
  intro b2 w hL
  conv => whnf
  conv => whnf
  repeat ((first | refine LdReq.agg hX rfl rfl hL hM.size hcs ?_ | (refine go1 ?_;try(clear hL;intro w hL))); conv => whnf)
  refine CallReq.val (rightState_fn m cs M hM hlk hN s _ hs') hL ?_
  clear hL
  intro w hL
  refine go ?_;try(clear hL;intro w hL)
  exact RetReq.bool hL.drop rfl
theorem indexState_fn (m : Mem) (v : Value) (rs : List St) (f : St → Bool) (b0 : Nat) (hs : Sl m 2 (stV m) v rs) (hf : ∀ p ∈ rs, ∀ cs, stV m cs p → FnV Tryz.prog 109 ([.agg (toArr cs)] ++ [.pointer (some ⟨b0, 0, none⟩)]) m (.bool (f p))) :
    FnV Tryz.prog 195 [v, .func (.func 109) #[] #[.pointer (some ⟨b0, 0, none⟩)]] m (.int .i64 (idxF f rs)) := by
  have hs' := hs
  obtain ⟨A, n, c, rfl, hn, hc, hm, -⟩ := hs
  have he := hs'.elem
  have hmx : maxLen = 9223372036854775807 := rfl
  refine Fn.enter (N := 19) hX Tryz.func195 rfl rfl (by show _ ≤ _; simp) (fun w0 hL => ?_)
  conv => whnf
  refine go ?_;try(clear hL;intro w hL)
  refine LoopReq.inv hX (fun j : Nat => [(8, .int .i64 j)]) [0, 1, 7]
    (fun j w => (j ≤ n ∧ ∀ (i : Nat) (x : St), i < j → rs[i]? = some x → f x = false) ∧ Ev.Loc m [] w0 m [] w) (fun j => n - j) 0
    ⟨⟨by omega, fun i x h => absurd h (by omega)⟩, hL⟩ ⟨rfl, trivial⟩ ?_
  clear hL
  rintro j w g ⟨⟨hj, hdone⟩, hL⟩
  refine go ?_;try(clear hL;intro w hL)
  refine BrReq.dec (fun hlt => ?_) (fun hlt => ?_)
  · have hlt' : j < rs.length := by omega
    obtain ⟨a, cs', rfl, hl9, hcells, hrep⟩ := he j _ (List.getElem?_eq_getElem hlt')
    have hrep' := hrep
    obtain ⟨nx, ru, rfl, hnx, hru⟩ := hrep
    obtain ⟨A1, n1, k1, rfl, -⟩ := hnx
    obtain ⟨A2, n2, k2, rfl, -⟩ := hru
    conv => whnf
    repeat ((first | refine Idx2Req.mk j a rfl (by omega) rfl ?_ | refine LdReq.agg hX rfl rfl hL hl9 hcells ?_ | (refine go1 ?_;try(clear hL;intro w hL))); conv => whnf)
    refine CallReq.val (hf _ (List.getElem_mem hlt') _ hrep') hL ?_
    clear hL
    intro w hL
    refine go ?_;try(clear hL;intro w hL)
    refine BrReq.bool (fun hb => ?_) (fun hb => ?_)
    · have e := idxF_at (f := f) rs j _ (List.getElem?_eq_getElem hlt') hb fun q y h1 h2 => hdone q y h1 h2
      refine go ?_;try(clear hL;intro w hL)
      exact RetReq.int hL e.symm
    · have hd : ∀ (i : Nat) (x : St), i < j + 1 → rs[i]? = some x → f x = false := by
        intro i x hi hx
        by_cases e : i = j
        · subst e
          rw [List.getElem?_eq_getElem hlt'] at hx
          cases hx; exact hb
        · exact hdone i x (by omega) hx
      refine go ?_;try(clear hL;intro w hL)
      exact rnd (j + 1) ⟨⟨by omega, hd⟩, hL⟩
  · refine go ?_;try(clear hL;intro w hL)
    have e : idxF f rs = -1 := idxF_none rs fun x hx => by
      obtain ⟨i, hi, rfl⟩ := List.getElem_of_mem hx
      exact hdone i _ (by omega) (List.getElem?_eq_getElem hi)
    exact RetReq.int hL e.symm
theorem containsState_fn (m : Mem) (v : Value) (rs : List St) (f : St → Bool) (b0 : Nat) (hs : Sl m 2 (stV m) v rs) (hf : ∀ p ∈ rs, ∀ cs, stV m cs p → FnV Tryz.prog 109 ([.agg (toArr cs)] ++ [.pointer (some ⟨b0, 0, none⟩)]) m (.bool (f p))) :
    FnV Tryz.prog 108 [v, .func (.func 109) #[] #[.pointer (some ⟨b0, 0, none⟩)]] m (.bool (rs.any f)) := by
  have hs' := hs
  obtain ⟨A, n, c, rfl, -⟩ := hs
  refine Fn.enter (N := 9) hX Tryz.func108 rfl rfl (by show _ ≤ _; simp) (fun w0 hL => ?_)
  conv => whnf
  refine go ?_;try(clear hL;intro w hL)
  refine CallReq.val (indexState_fn m _ rs f b0 hs' hf) hL ?_
  clear hL
  intro w hL
  refine go ?_;try(clear hL;intro w hL)
  refine RetReq.bool hL ?_
  rw [Bool.eq_iff_iff, decide_eq_true_iff]
  exact idxF_neg rs
theorem clsR_range {of : List Int} {n : Int} (hl : of.length = 256) (h : clsR of n = true) : 0 ≤ n ∧ n ≤ 256 := by
  have := clsGo_lt of 0 n (of_decide_eq_true h)
  omega
set_option maxHeartbeats 1000000 in
set_option maxRecDepth 10000 in
theorem right_fn (m : Mem) (cs : List Value) (M : Mc) (hM : McV m cs M) : FnV Tryz.prog 44 [.agg (toArr cs)] m (.bool (rightM M)) := by
  have hmx : maxLen = 9223372036854775807 := rfl
  have hlen := hM.len
  have hbyt := hM.byt
  refine Fn.enter (N := 38) hX Tryz.func44 rfl rfl (by show _ ≤ _; simp) (fun w0 hL => ?_)
  conv => whnf
  refine NewReq.mk hL ?_
  clear hL
  intro b1 w hL
  replace hL : Ev.Loc m [] w0 m [(b1, .cells (toArr cs) 48 (0, 0))] w := hL
  have hle := hL.le_add
  have hB := McB.freeze hM hL
  replace hL := hL.freeze
  generalize Mem.add m b1 _ = m1 at hL hB hle
  obtain ⟨st, be, hst, hbe, c1, c2, c3, c4, hcl, -⟩ := hB.at_
  have hst' := hst
  have hbe' := hbe
  obtain ⟨A1, n1, k1, rfl, hn1, hk1, hm1, -⟩ := hst'
  obtain ⟨A2, n2, k2, rfl, hn2, hk2, hm2, -⟩ := hbe'
  conv => whnf
  conv => whnf
  repeat ((first | (refine LdReq.agg (vs := ints .u8 M.of ++ [.int .i64 M.n]) hX rfl rfl hL (by simp [ints, hlen]) (by rw [addr_add]; exact hcl) ?_) | (refine go1 ?_;try(clear hL;intro w hL))); conv => whnf)
  refine CallReq.val (clsRight_fn m1 M.of M.n hlen hbyt) hL ?_
  clear hL
  intro w hL
  refine go ?_;try(clear hL;intro w hL)
  have hfin : rightM M = ((clsR M.of M.n && (decide (0 ≤ M.looks) && decide (M.looks ≤ 4)) && (decide (1 ≤ n1) && decide (1 ≤ n2))) && (M.states.all (rightSt M) && M.begins.all (fun k => decide (0 ≤ k) && decide (k < (M.states.length : Int))))) := by
    unfold rightM; rw [← hn1, ← hn2]
  refine BrReq.not ?_
  refine BrReq.bool (fun h1 => ?_) (fun h1 => ?_)
  · rw [h1] at hfin
    conv => whnf
    repeat ((first | (refine LdReq.one hX rfl rfl hL (by rw [addr_add]; exact c2) ?_) | (refine go1 ?_;try(clear hL;intro w hL))); conv => whnf)
    refine BrReq.dec (fun h2 => ?_) (fun h2 => ?_)
    · refine go ?_;try(clear hL;intro w hL)
      exact RetReq.bool hL (by rw [hfin, decide_eq_false (show ¬ 0 ≤ M.looks by omega)]; rfl)
    · conv => whnf
      repeat ((first | (refine LdReq.one hX rfl rfl hL (by rw [addr_add]; exact c2) ?_) | (refine go1 ?_;try(clear hL;intro w hL))); conv => whnf)
      refine BrReq.dec (fun h3 => ?_) (fun h3 => ?_)
      · refine go ?_;try(clear hL;intro w hL)
        exact RetReq.bool hL (by rw [hfin, decide_eq_false (show ¬ M.looks ≤ 4 by omega), Bool.and_false, Bool.and_false]; rfl)
      · rw [decide_eq_true (show 0 ≤ M.looks by omega), decide_eq_true (show M.looks ≤ 4 by omega)] at hfin
        conv => whnf
        repeat ((first | (refine LdReq.one hX rfl rfl hL (by rw [addr_add]; exact c3) ?_) | (refine go1 ?_;try(clear hL;intro w hL))); conv => whnf)
        refine BrReq.dec (fun h4 => ?_) (fun h4 => ?_)
        · refine go ?_;try(clear hL;intro w hL)
          exact RetReq.bool hL (by rw [hfin, decide_eq_false (show ¬ 1 ≤ n1 by omega)]; rfl)
        · rw [decide_eq_true (show 1 ≤ n1 by omega)] at hfin
          conv => whnf
          repeat ((first | (refine LdReq.one hX rfl rfl hL (by rw [addr_add]; exact c4) ?_) | (refine go1 ?_;try(clear hL;intro w hL))); conv => whnf)
          refine BrReq.dec (fun h5 => ?_) (fun h5 => ?_)
          · refine go ?_;try(clear hL;intro w hL)
            exact RetReq.bool hL (by rw [hfin, decide_eq_false (show ¬ 1 ≤ n2 by omega)]; rfl)
          · rw [decide_eq_true (show 1 ≤ n2 by omega)] at hfin
            conv => whnf
            repeat ((first | (refine LdReq.one hX rfl rfl hL (by rw [addr_add]; exact c3) ?_) | (refine go1 ?_;try(clear hL;intro w hL))); conv => whnf)
            refine CallReq.val (containsState_fn m1 _ _ (fun s => !rightSt M s) b1 hst fun p _ cs hcs => stateBad_fn m1 b1 M hB ⟨by omega, by omega⟩ (clsR_range hlen h1) p cs hcs) hL ?_
            clear hL
            intro w hL
            rw [any_not]
            refine go ?_;try(clear hL;intro w hL)
            refine BrReq.not ?_
            refine BrReq.bool (fun h6 => ?_) (fun h6 => ?_)
            · rw [h6] at hfin
              conv => whnf
              repeat ((first | (refine LdReq.one hX rfl rfl hL (by rw [addr_add]; exact c4) ?_) | (refine go1 ?_;try(clear hL;intro w hL))); conv => whnf)
              refine CallReq.val (containsBegin_fn m1 _ _ _ b1 hbe fun p _ => beginBad_fn m1 b1 M hB p) hL ?_
              clear hL
              intro w hL
              rw [any_not]
              refine go ?_;try(clear hL;intro w hL)
              exact RetReq.bool hL (by rw [hfin, Bool.not_not]; rfl)
            · rw [h6] at hfin
              refine go ?_;try(clear hL;intro w hL)
              exact RetReq.bool hL (by rw [hfin]; rfl)
  · rw [h1] at hfin
    refine go ?_;try(clear hL;intro w hL)
    exact RetReq.bool hL (by rw [hfin]; rfl)
end Go.Proofs.YtloofgoblodeiaaGreatDoor.mach
namespace Go.Proofs.YtloofgoblodeiaaGreatDoor.crc
open Go Go.Ev Go.Proofs
theorem wrap_nat {k : IntKind} {n : Nat} (h1 : k.min ≤ 0) (h2 : (n : Int) ≤ k.max) : k.wrap (n : Int) = n := wrap_keep k (by omega) h2
theorem ofInt_nat (w n : Nat) : BitVec.ofInt w (n : Int) = BitVec.ofNat w n := by simp
theorem xor_u32 {a b : Nat} (ha : a < 4294967296) (hb : b < 4294967296) : bitsOf .xor .u32 (a : Int) (b : Int) = ((a ^^^ b : Nat) : Int) := by
  have h : (BitVec.ofInt 32 (a : Int) ^^^ BitVec.ofInt 32 (b : Int)).toNat = a ^^^ b := by
    rw [ofInt_nat, ofInt_nat, BitVec.toNat_xor, BitVec.toNat_ofNat, BitVec.toNat_ofNat, Nat.mod_eq_of_lt (by omega), Nat.mod_eq_of_lt (by omega)]
  have hx : a ^^^ b < 2 ^ 32 := Nat.xor_lt_two_pow (by omega) (by omega)
  show IntKind.wrap .u32 ((BitVec.ofInt 32 (a : Int) ^^^ BitVec.ofInt 32 (b : Int)).toNat : Int) = _
  rw [h]
  exact wrap_nat (by decide) (by show _ ≤ (4294967295 : Int); omega)
theorem and1_u32 {a : Nat} (ha : a < 4294967296) : bitsOf .and .u32 (a : Int) 1 = ((a % 2 : Nat) : Int) := by
  have h : (BitVec.ofInt 32 (a : Int) &&& BitVec.ofInt 32 ((1 : Nat) : Int)).toNat = a % 2 := by
    rw [ofInt_nat, ofInt_nat, BitVec.toNat_and, BitVec.toNat_ofNat, BitVec.toNat_ofNat, Nat.mod_eq_of_lt (by omega), Nat.mod_eq_of_lt (by omega), Nat.and_one_is_mod]
  show IntKind.wrap .u32 ((BitVec.ofInt 32 (a : Int) &&& BitVec.ofInt 32 ((1 : Nat) : Int)).toNat : Int) = _
  rw [h]
  exact wrap_nat (by decide) (by show _ ≤ (4294967295 : Int); omega)
def stepT (c : Nat) : Nat := if c % 2 = 1 then (c / 2) ^^^ 3988292384 else c / 2
def iterT : Nat → Nat → Nat
  | 0, c => c
  | k + 1, c => stepT (iterT k c)
def byteT (c : Nat) (x : Int) : Nat := iterT 8 (c ^^^ x.toNat)
def crcR (l : List Int) : Nat := (l.foldl byteT 4294967295) ^^^ 4294967295
theorem stepT_lt {c : Nat} (h : c < 4294967296) : stepT c < 4294967296 := by
  unfold stepT
  split
  · exact Nat.xor_lt_two_pow (n := 32) (by omega) (by omega)
  · omega
theorem iterT_lt {c : Nat} (h : c < 4294967296) : ∀ k, iterT k c < 4294967296 := by
  intro k
  induction k with
  | zero => exact h
  | succ k ih => exact stepT_lt ih
theorem byteT_lt {c : Nat} {x : Int} (h : c < 4294967296) (hx : 0 ≤ x ∧ x ≤ 255) : byteT c x < 4294967296 := iterT_lt (Nat.xor_lt_two_pow (n := 32) (by omega) (by omega)) 8
theorem fold_lt : ∀ (l : List Int) (c : Nat), c < 4294967296 → (∀ x ∈ l, 0 ≤ x ∧ x ≤ 255) → l.foldl byteT c < 4294967296 := by
  intro l
  induction l with
  | nil => intro c h _; exact h
  | cons x l ih => intro c h hx; exact ih _ (byteT_lt h (hx x (by simp))) fun y hy => hx y (by simp [hy])
theorem CRC_fn (m : Mem) (v : Value) (l : List Int) (hv : SlI m .u8 v l) (hb : ∀ z ∈ l, 0 ≤ z ∧ z ≤ 255) : FnV Tryz.prog 51 [v] m (.int .u32 (crcR l : Nat)) := by
  have hmx : maxLen = 9223372036854775807 := rfl
  obtain ⟨A, n, c, rfl, hn, hc, hm, he⟩ := hv
  have add0 : ∀ x : Addr, x.add 0 = x := fun x => by cases x; rfl
  have hbyte : ∀ (i : Nat) (z : Int), l[i]? = some z → ∃ a, A = some a ∧ mcell m (a.add (scale i 1)) = some (.int .u8 z) := by
    intro i z hz
    obtain ⟨a, cs, e1, e2, e3, rfl⟩ := he i z hz
    have := e3 0 _ rfl
    rw [add0] at this
    exact ⟨a, e1, this⟩
  refine Fn.enter (N := 31) hX Tryz.func51 rfl rfl (by show _ ≤ _; simp) (fun w0 hL => ?_)
  conv => whnf
  refine go ?_;try(clear hL;intro w hL)
  refine LoopReq.inv hX (fun s : Nat × Nat => [(3, .int .u32 s.2), (9, .int .i64 s.1)]) [7, 8]
    (fun s w => (s.1 ≤ n ∧ s.2 < 4294967296 ∧ s.2 = (l.take s.1).foldl byteT 4294967295) ∧ Ev.Loc m [] w0 m [] w) (fun s => n - s.1) (0, 4294967295)
    ⟨⟨by simp, by decide, rfl⟩, hL⟩ ⟨rfl, rfl, trivial⟩ ?_
  clear hL
  rintro ⟨j, q⟩ w f ⟨⟨hj, hq, hqv⟩, hL⟩
  simp only at hj hq hqv
  refine go ?_;try(clear hL;intro w hL)
  refine BrReq.dec (fun hlt => ?_) (fun hlt => ?_)
  · have hjl : j < l.length := by simp only at hlt; omega
    obtain ⟨a, ea, hval⟩ := hbyte j _ (List.getElem?_eq_getElem hjl)
    cases ea
    obtain ⟨hz0, hz1⟩ := hb _ (List.getElem_mem hjl)
    obtain ⟨x, hx⟩ : ∃ x : Nat, l[j] = (x : Int) := ⟨l[j].toNat, by omega⟩
    have hx0 : l[j].toNat = x := by omega
    rw [hx] at hval
    conv => whnf
    repeat ((first | (refine Idx2Req.mk j _ rfl (by simp only at hlt; omega) rfl ?_) | refine LdReq.one hX rfl rfl hL hval ?_ | (refine go1 ?_;try(clear hL;intro w hL))); conv => whnf)
    refine ArReq.u32 (by omega) (by omega) ?_
    refine go ?_;try(clear hL;intro w hL)
    refine BitReq.mk (xor_u32 (show q < _ from hq) (show x < _ by omega)) ?_
    refine go ?_;try(clear hL;intro w hL)
    have hlt0 : q ^^^ x < 4294967296 := Nat.xor_lt_two_pow (n := 32) (by omega) (by omega)
    refine LoopReq.inv hX (fun k : Nat => [(3, .int .u32 (iterT k (q ^^^ x) : Nat)), (17, .int .i64 k)]) [7, 8, 9]
      (fun k w => k ≤ 8 ∧ Ev.Loc m [] w0 m [] w) (fun k => 8 - k) 0
      ⟨by omega, hL⟩ ⟨rfl, rfl, trivial⟩ ?_
    clear hL
    rintro k w g ⟨hk, hL⟩
    have hc := iterT_lt hlt0 k
    refine go ?_;try(clear hL;intro w hL)
    refine BrReq.dec (fun hlt2 => ?_) (fun hlt2 => ?_)
    · refine go ?_;try(clear hL;intro w hL)
      refine BitReq.mk (and1_u32 hc) ?_
      refine go ?_;try(clear hL;intro w hL)
      refine ShrReq.mk (n := ((iterT k (q ^^^ x) / 2 : Nat) : Int)) (by omega) (by show ((iterT k (q ^^^ x) : Nat) : Int).fdiv (2 ^ 1) = _; rw [Int.fdiv_eq_ediv_of_nonneg _ (by decide)]; rfl) ?_
      refine go ?_;try(clear hL;intro w hL)
      refine BrReq.dec (fun hodd => ?_) (fun hodd => ?_)
      · have e : iterT (k + 1) (q ^^^ x) = iterT k (q ^^^ x) / 2 ^^^ 3988292384 := by
          show stepT _ = _; unfold stepT; rw [if_pos (by omega)]
        refine go ?_;try(clear hL;intro w hL)
        refine BitReq.mk (xor_u32 (b := 3988292384) (show iterT k (q ^^^ x) / 2 < 4294967296 by omega) (by decide)) ?_
        refine go ?_;try(clear hL;intro w hL)
        refine ⟨k + 1, ⟨by omega, hL⟩, by first | omega | (simp only; omega) | (simp only [List.length_cons, List.length_append]; omega), ?_, ?_⟩
        · repeat (first | exact trivial | (refine And.intro (by (conv => lhs; whnf) <;> (conv => rhs; whnf) <;> (first | rfl | (rw [e]))) ?_))
        · repeat (first | exact trivial | (refine And.intro (by (conv => lhs; whnf) <;> (conv => rhs; whnf) <;> (first | rfl | (rw [e]))) ?_))
      · have e : iterT (k + 1) (q ^^^ x) = iterT k (q ^^^ x) / 2 := by
          show stepT _ = _; unfold stepT; rw [if_neg (by omega)]
        refine go ?_;try(clear hL;intro w hL)
        refine ⟨k + 1, ⟨by omega, hL⟩, by first | omega | (simp only; omega) | (simp only [List.length_cons, List.length_append]; omega), ?_, ?_⟩
        · repeat (first | exact trivial | (refine And.intro (by (conv => lhs; whnf) <;> (conv => rhs; whnf) <;> (first | rfl | (rw [e]))) ?_))
        · repeat (first | exact trivial | (refine And.intro (by (conv => lhs; whnf) <;> (conv => rhs; whnf) <;> (first | rfl | (rw [e]))) ?_))
    · have ek : k = 8 := by omega
      subst ek
      have hstep : (l.take (j + 1)).foldl byteT 4294967295 = iterT 8 (q ^^^ x) := by
        rw [List.take_succ_eq_append_getElem hjl, List.foldl_append, ← hqv]
        show byteT q l[j] = _
        unfold byteT; rw [hx0]
      refine go ?_;try(clear hL;intro w hL)
      exact rnd (j + 1, iterT 8 (q ^^^ x)) ⟨⟨by simp only at hlt ⊢; omega, hc, hstep.symm⟩, hL⟩
  · have ej : j = l.length := by simp only at hlt; omega
    rw [ej, List.take_length] at hqv
    refine go ?_;try(clear hL;intro w hL)
    refine BitReq.mk (n := ((4294967295 ^^^ q : Nat) : Int)) (xor_u32 (a := 4294967295) (b := q) (by decide) hq) ?_
    refine go ?_;try(clear hL;intro w hL)
    exact RetReq.int hL (by unfold crcR; rw [← hqv, Nat.xor_comm])
end Go.Proofs.YtloofgoblodeiaaGreatDoor.crc
namespace Go.Proofs.YtloofgoblodeiaaGreatDoor.mach
open Go Go.Ev Go.Proofs
def FnO (f : Nat) (args : List Value) (m : Mem) (te size : Nat) (xs : List Value) : Prop := Ev.Fn Tryz.prog f args m [] fun m' L' v => m' = m ∧ OwnS te size v xs L'
theorem callO {f : Nat} {args : List Value} {m0 m : Mem} {S : List Nat} {w0 w : World} {L : Own} {te size : Nat} {xs : List Value} {K : Value → World → Prop} (h : FnO f args m te size xs) (hL : Ev.Loc m0 S w0 m L w)
    (k : ∀ A n c L1 w', xs.length = n * size → OwnS te size (.slice A n c) xs L1 → Ev.Loc m0 S w0 m (L1 ++ L) w' → K (.slice A n c) w') : CallReq Tryz.prog f (toArr args) w K :=
  CallReq.mk (L1 := []) h hL fun v m' L1' w' hl hle ⟨h1, h2⟩ => by
    subst h1
    obtain ⟨A, n, c, rfl, hn⟩ := h2.slice
    exact k A n c L1' w' hn h2 hl
def wideR : Nat → Int → List Int
  | 0, _ => []
  | k + 1, n => wideR k (n / 256) ++ [n % 256]
theorem wideR_len : ∀ (k : Nat) (n : Int), (wideR k n).length = k
  | 0, _ => rfl
  | k + 1, n => by simp [wideR, wideR_len k]
theorem wideR_byte : ∀ (k : Nat) (n : Int), ∀ z ∈ wideR k n, 0 ≤ z ∧ z ≤ 255
  | 0, _ => by simp [wideR]
  | k + 1, n => by
    intro z hz
    simp only [wideR, List.mem_append, List.mem_singleton] at hz
    rcases hz with hz | rfl
    · exact wideR_byte k _ z hz
    · omega
theorem zeros_ints (k : IntKind) (n : Nat) : zerosL n [Value.int k 0] = ints k (List.replicate n 0) := by
  induction n with
  | zero => rfl
  | succ n ih => show [Value.int k 0] ++ zerosL n [Value.int k 0] = _; rw [ih]; rfl
theorem wrap_u8 (n : Int) : IntKind.wrap .u8 n = n % 256 := by
  simp only [IntKind.wrap, IntKind.signed, IntKind.bits]
  simp
set_option maxHeartbeats 1000000 in
theorem wide_fn (m : Mem) (n : Int) (size : Nat) (hs : size ≤ 8) : FnO 50 [.int .i64 n, .int .i64 size] m 5 1 (ints .u8 (wideR size n)) := by
  have hmx : maxLen = 9223372036854775807 := rfl
  refine Fn.enter (N := 23) hX Tryz.func50 rfl rfl (by show _ ≤ _; simp) (fun w0 hL => ?_)
  conv => whnf
  refine go ?_;try(clear hL;intro w hL)
  refine RunReq.make hX rfl rfl rfl rfl size size rfl rfl (Nat.le_refl _) (by omega) rfl hL ?_
  clear hL
  intro b w hL
  replace hL : Ev.Loc m [] w0 m [(b, .cells (toArr (zerosL size [Value.int .u8 0])) 5 (0, 0))] w := hL
  rw [zeros_ints] at hL
  refine go ?_;try(clear hL;intro w hL)
  refine LoopReq.inv hX (fun s : Nat × Int => [(0, .int .i64 s.2), (6, .int .i64 (s.1 - 1))]) [5]
    (fun s w => s.1 ≤ size ∧ ∃ tl, wideR size n = wideR s.1 s.2 ++ tl ∧ tl.length + s.1 = size ∧ Ev.Loc m [] w0 m [(b, .cells (toArr (ints .u8 (List.replicate s.1 0 ++ tl))) 5 (0, 0))] w) (fun s => s.1) (size, n)
    ⟨Nat.le_refl _, [], by simp, by simp, by simpa using hL⟩ ⟨rfl, rfl, trivial⟩ ?_
  clear hL
  rintro ⟨k, q⟩ w f ⟨hk, tl, htl, hlen, hL⟩
  simp only at hk htl hlen hL
  refine go ?_;try(clear hL;intro w hL)
  refine BrReq.dec (fun hlt => ?_) (fun hlt => ?_)
  · obtain ⟨j, rfl⟩ : ∃ j, k = j + 1 := ⟨k - 1, by simp only at hlt; omega⟩
    refine go ?_;try(clear hL;intro w hL)
    refine ArReq.as (wrap_u8 q) ?_
    conv => whnf
    repeat ((first | (refine Idx2Req.mk j _ (by simp only; omega) (by omega) rfl ?_) | (refine go1 ?_;try(clear hL;intro w hL))); conv => whnf)
    refine StReq.ownAt hX rfl 0 hL rfl rfl (by show 0 + scale j 1 + 1 ≤ (ints .u8 (List.replicate (j + 1) 0 ++ tl)).length; rw [scale_eq]; simp only [ints, List.length_map, List.length_append, List.length_replicate]; omega) rfl ?_
    clear hL
    intro w hL
    have e1 : spliceL (ints .u8 (List.replicate (j + 1) 0 ++ tl)) (0 + scale j 1) (Value.int .u8 (q % 256)).cells.toList = ints .u8 (List.replicate j 0 ++ (q % 256 :: tl)) := by
      show (ints .u8 (List.replicate (j + 1) 0 ++ tl)).set (0 + scale j 1) (.int .u8 (q % 256)) = _
      rw [scale_eq, Nat.zero_add, Nat.mul_one, List.replicate_succ', List.append_assoc]
      simp only [ints, List.map_append, List.map_replicate]
      rw [List.set_append_right _ _ (by simp)]
      simp
    replace hL : Ev.Loc m [] w0 m [(b, .cells (toArr (spliceL (ints .u8 (List.replicate (j + 1) 0 ++ tl)) (0 + scale j 1) (Value.int .u8 (q % 256)).cells.toList)) 5 (0, 0))] w := hL
    rw [e1] at hL
    refine go ?_;try(clear hL;intro w hL)
    refine ShrReq.mk (n := q / 256) (by omega) (by show q.fdiv (2 ^ 8) = _; rw [Int.fdiv_eq_ediv_of_nonneg _ (by decide)]; rfl) ?_
    refine go ?_;try(clear hL;intro w hL)
    refine ⟨(j, q / 256), ⟨by omega, q % 256 :: tl, by rw [htl]; simp [wideR], by simp only [List.length_cons]; omega, hL⟩, by first | omega | (simp only; omega) | (simp only [List.length_cons, List.length_append]; omega), ?_, ?_⟩
    · repeat (first | exact trivial | (refine And.intro (by (conv => lhs; whnf) <;> (conv => rhs; whnf) <;> (first | rfl | ((simp only; congr 1; omega)))) ?_))
    · repeat (first | exact trivial | (refine And.intro (by (conv => lhs; whnf) <;> (conv => rhs; whnf) <;> (first | rfl | ((simp only; congr 1; omega)))) ?_))
  · have ek : k = 0 := by simp only at hlt; omega
    subst ek
    have e : tl = wideR size n := by rw [htl]; rfl
    subst e
    refine go ?_;try(clear hL;intro w hL)
    refine RetReq.mk hL ⟨rfl, ?_⟩
    exact OwnS.full (by omega) (by simp [ints, wideR_len])
def IsUsual (l : List Int) (d : Int) : Prop := d ∈ l ∧ ∀ k ∈ l, l.count k < l.count d ∨ (l.count k = l.count d ∧ d ≤ k)
theorem IsUsual.one {l : List Int} {d e : Int} (h : IsUsual l d) (k : IsUsual l e) : d = e := by
  have h1 := h.2 e k.1
  have h2 := k.2 d h.1
  omega
noncomputable def usR (l : List Int) : Int := open Classical in if h : ∃ d, IsUsual l d then Classical.choose h else 0
theorem usR_eq {l : List Int} {d : Int} (h : IsUsual l d) : usR l = d := by
  have hx : ∃ d, IsUsual l d := ⟨d, h⟩
  unfold usR
  rw [dif_pos hx]
  exact (Classical.choose_spec hx).one h
theorem getV_set (k v : Int) : ∀ (l : List (Int × Int)) (k' : Int), getV k' (setV k v l) = if k' = k then v else getV k' l
  | [], k' => by simp [setV, getV]
  | x :: l, k' => by
    by_cases h : k = x.1
    · simp only [setV, if_pos h, getV]
      by_cases h2 : k' = k
      · rw [if_pos h2, if_pos h2]
      · rw [if_neg h2, if_neg h2, if_neg (by rw [← h]; exact h2)]
    · simp only [setV, if_neg h, getV]
      rw [getV_set k v l k']
      by_cases h2 : k' = x.1
      · rw [if_pos h2, if_pos h2, if_neg (fun e => h (by rw [← e]; exact h2))]
      · rw [if_neg h2, if_neg h2]
theorem setV_keys (k v : Int) : ∀ (l : List (Int × Int)), (setV k v l).map (·.1) = if k ∈ l.map (·.1) then l.map (·.1) else l.map (·.1) ++ [k]
  | [] => by simp [setV]
  | x :: l => by
    by_cases h : k = x.1
    · simp [setV, h]
    · have ih := setV_keys k v l
      simp only [setV, if_neg h, List.map_cons, ih]
      by_cases h2 : k ∈ l.map (·.1)
      · rw [if_pos h2, if_pos (List.mem_cons_of_mem _ h2)]
      · rw [if_neg h2, if_neg (by simp only [List.mem_cons, not_or]; exact ⟨h, h2⟩)]; rfl
theorem getV_mem : ∀ (l : List (Int × Int)) (x : Int × Int), (l.map (·.1)).Nodup → x ∈ l → getV x.1 l = x.2
  | [], _, _, h => by simp at h
  | y :: l, x, hn, h => by
    simp only [List.map_cons, List.nodup_cons] at hn
    rcases List.mem_cons.1 h with rfl | h
    · simp [getV]
    · have : x.1 ≠ y.1 := fun e => hn.1 (by rw [← e]; exact List.mem_map_of_mem h)
      simp only [getV, if_neg this]; exact getV_mem l x hn.2 h
structure Cnt (c : List (Int × Int)) (l : List Int) : Prop where
  get : ∀ k, getV k c = l.count k
  nodup : (c.map (·.1)).Nodup
  keys : ∀ k, k ∈ c.map (·.1) ↔ k ∈ l
theorem Cnt.nil : Cnt [] [] := ⟨by simp [getV], by simp, by simp⟩
theorem Cnt.step {c : List (Int × Int)} {l : List Int} (h : Cnt c l) (k : Int) : Cnt (setV k (getV k c + 1) c) (l ++ [k]) := by
  refine ⟨fun k' => ?_, ?_, fun k' => ?_⟩
  · rw [getV_set, List.count_append, h.get, h.get]
    by_cases e : k' = k
    · subst e; rw [if_pos rfl]; simp
    · rw [if_neg e]
      have : [k].count k' = 0 := by simp [List.count_cons, Ne.symm e]
      rw [this]; rfl
  · rw [setV_keys]
    by_cases e : k ∈ c.map (·.1)
    · rw [if_pos e]; exact h.nodup
    · rw [if_neg e, List.nodup_append]
      exact ⟨h.nodup, by simp, by intro a ha b hb hab; simp at hb; subst hb hab; exact e ha⟩
  · rw [setV_keys]
    by_cases e : k ∈ c.map (·.1)
    · rw [if_pos e, h.keys, List.mem_append, List.mem_singleton]
      exact ⟨.inl, fun h' => h'.elim id fun h' => by subst h'; exact (h.keys _).1 e⟩
    · rw [if_neg e, List.mem_append, h.keys, List.mem_append]
theorem Cnt.val {c : List (Int × Int)} {l : List Int} (h : Cnt c l) {x : Int × Int} (hx : x ∈ c) : x.2 = l.count x.1 ∧ x.1 ∈ l :=
  ⟨by rw [← h.get, getV_mem c x h.nodup hx], (h.keys _).1 (List.mem_map_of_mem hx)⟩
def unseen (n : Nat) (seen : List Nat) : Nat := ((List.range n).filter fun q => decide (q ∉ seen)).length
theorem unseen_lt {n q : Nat} {seen : List Nat} (hq : q < n) (hs : q ∉ seen) : unseen n (seen ++ [q]) < unseen n seen := by
  have h1 : (List.range n).filter (fun p => decide (p ∉ seen ++ [q])) = ((List.range n).filter fun p => decide (p ∉ seen)).filter fun p => decide (p ≠ q) := by
    rw [List.filter_filter]
    congr 1
    funext p
    simp [not_or, Bool.and_comm]
  unfold unseen
  rw [h1]
  refine List.length_filter_lt_length_iff_exists.2 ⟨q, ?_, by simp⟩
  simp [hq, hs]
set_option maxHeartbeats 2000000 in
theorem usual_fn (m : Mem) (v : Value) (l : List Int) (hv : SlI m .i64 v l) (hne : 0 < l.length) : FnV Tryz.prog 199 [v] m (.int .i64 (usR l)) := by
  have hmx : maxLen = 9223372036854775807 := rfl
  have hv' := hv
  obtain ⟨A, n, c, rfl, hn, hc, hm, -⟩ := hv
  have he := hv'.cell.2
  obtain ⟨a0, rfl, hc0⟩ := he 0 _ (List.getElem?_eq_getElem hne)
  refine Fn.enter (N := 50) hX Tryz.func199 rfl rfl (by show _ ≤ _; simp) (fun w0 hL => ?_)
  conv => whnf
  refine go ?_;try(clear hL;intro w hL)
  refine RunReq.makeMap hL ?_
  clear hL
  intro b1 w hL
  conv => whnf
  repeat ((first | refine Idx2Req.mk 0 a0 rfl (by omega) rfl ?_ | (refine LdReq.one hX rfl rfl hL (by rw [scale_eq, Nat.zero_mul]; exact hc0) ?_) | (refine go1 ?_;try(clear hL;intro w hL))); conv => whnf)
  refine LoopReq.inv hX (fun j : Nat => [(15, .int .i64 j)]) [3, 4, 13, 14, 37, 38, 39, 40, 41, 42, 43, 44, 45, 46]
    (fun j w => j ≤ n ∧ ∃ cn, Cnt cn (l.take j) ∧ Ev.Loc m [] w0 m [(b1, mapO cn)] w) (fun j => n - j) 0
    ⟨by omega, [], Cnt.nil, hL⟩ ⟨rfl, trivial⟩ ?_
  · clear hL
    rintro j w f ⟨hj, cn, hcn, hL⟩
    refine go ?_;try(clear hL;intro w hL)
    refine BrReq.dec (fun hlt => ?_) (fun hlt => ?_)
    · have hlt' : j < l.length := by omega
      obtain ⟨a, e, hcell⟩ := he j _ (List.getElem?_eq_getElem hlt')
      cases e
      have hget : getV l[j] cn ≤ j ∧ 0 ≤ getV l[j] cn := by
        rw [hcn.get]
        have := List.count_le_length (a := l[j]) (l := l.take j)
        rw [List.length_take] at this
        omega
      conv => whnf
      repeat ((first | refine Idx2Req.mk j a0 rfl (by omega) rfl ?_ | (refine LdReq.one hX rfl rfl hL (by rw [scale_eq, Nat.mul_one]; exact hcell) ?_) | (refine go1 ?_;try(clear hL;intro w hL))); conv => whnf)
      refine RunReq.lookup hX rfl rfl rfl rfl 0 hL rfl (by kernel_rfl) ?_
      refine go ?_;try(clear hL;intro w hL)
      refine RunUReq.update hX rfl rfl rfl rfl 0 hL rfl ?_
      clear hL
      intro w hL
      have hs := hcn.step l[j]
      rw [← List.take_succ_eq_append_getElem hlt'] at hs
      refine go ?_;try(clear hL;intro w hL)
      exact rnd (j + 1) ⟨by omega, _, hs, hL⟩
    · have ej : j = l.length := by omega
      rw [ej, List.take_length] at hcn
      refine go ?_;try(clear hL;intro w hL)
      refine RunReq.range hX rfl rfl 0 hL rfl ?_
      clear hL
      intro b2 w hL
      conv => whnf
      refine LoopReq.inv hX (fun s : Array Nat × Int => [(4, .int .i64 s.2)]) [3, 25]
        (fun s w => (s.2 ∈ l ∧ ∀ q x, cn[q]? = some x → q ∈ s.1.toList → l.count x.1 < l.count s.2 ∨ (l.count x.1 = l.count s.2 ∧ s.2 ≤ x.1)) ∧ Ev.Loc m [] w0 m [(b2, .mapIter (some b1) cn.length s.1 cn.length), (b1, mapO cn)] w) (fun s => unseen cn.length s.1.toList) (#[], l[0])
        ⟨⟨List.getElem_mem hne, by simp⟩, hL⟩ ⟨rfl, trivial⟩ ?_
      clear hL
      rintro ⟨seen, best⟩ w g ⟨⟨hbest, hall⟩, hL⟩
      simp only at hbest hall hL
      conv => whnf
      refine RunReq.next 0 1 hL rfl rfl rfl (fun hend => ?_) (fun q x w hq hns hL => ?_)
      · refine go ?_;try(clear hL;intro w hL)
        refine RetReq.int hL.drop.drop ?_
        refine (usR_eq ⟨hbest, fun k hk => ?_⟩).symm
        obtain ⟨x, hx, rfl⟩ := List.mem_map.1 ((hcn.keys k).2 hk)
        obtain ⟨q, hq⟩ := List.getElem?_of_mem hx
        exact hall q x hq (hend q (List.getElem?_eq_some_iff.1 hq).1)
      · have hqlt := (List.getElem?_eq_some_iff.1 hq).1
        have hxm := List.mem_of_getElem? hq
        obtain ⟨hx2, hx1⟩ := hcn.val hxm
        have hpush : (seen.push q).toList = seen.toList ++ [q] := by simp
        have hun := unseen_lt hqlt hns
        rw [← hpush] at hun
        refine go ?_;try(clear hL;intro w hL)
        refine GenReq.entry rfl rfl 0 1 hL rfl rfl rfl hq ?_
        refine go ?_;try(clear hL;intro w hL)
        refine RunReq.lookup hX rfl rfl rfl rfl 1 hL rfl (by kernel_rfl) ?_
        refine go ?_;try(clear hL;intro w hL)
        have hgb := hcn.get best
        have keep : (l.count x.1 < l.count best ∨ (l.count x.1 = l.count best ∧ best ≤ x.1)) → ∀ q' x', cn[q']? = some x' → q' ∈ (seen.push q).toList → l.count x'.1 < l.count best ∨ (l.count x'.1 = l.count best ∧ best ≤ x'.1) := by
          intro h q' x' hq' hm'
          rw [hpush, List.mem_append, List.mem_singleton] at hm'
          rcases hm' with hm' | rfl
          · exact hall q' x' hq' hm'
          · rw [hq] at hq'; cases hq'; exact h
        have swap : (l.count best < l.count x.1 ∨ (l.count best = l.count x.1 ∧ x.1 < best)) → ∀ q' x', cn[q']? = some x' → q' ∈ (seen.push q).toList → l.count x'.1 < l.count x.1 ∨ (l.count x'.1 = l.count x.1 ∧ x.1 ≤ x'.1) := by
          intro h q' x' hq' hm'
          rw [hpush, List.mem_append, List.mem_singleton] at hm'
          rcases hm' with hm' | rfl
          · have := hall q' x' hq' hm'; omega
          · rw [hq] at hq'; cases hq'; exact .inr ⟨rfl, Int.le_refl _⟩
        refine BrReq.dec (fun h1 => ?_) (fun h1 => ?_) <;> simp only at h1
        · refine go ?_;try(clear hL;intro w hL)
          exact rnd (seen.push q, x.1) ⟨⟨hx1, swap (by omega)⟩, hL⟩
        · refine go ?_;try(clear hL;intro w hL)
          refine RunReq.lookup hX rfl rfl rfl rfl 1 hL rfl (by kernel_rfl) ?_
          refine go ?_;try(clear hL;intro w hL)
          refine BrReq.dec (fun h2 => ?_) (fun h2 => ?_) <;> simp only at h2
          · refine go ?_;try(clear hL;intro w hL)
            refine BrReq.dec (fun h3 => ?_) (fun h3 => ?_) <;> simp only at h3
            · refine go ?_;try(clear hL;intro w hL)
              exact rnd (seen.push q, x.1) ⟨⟨hx1, swap (by omega)⟩, hL⟩
            · refine go ?_;try(clear hL;intro w hL)
              exact rnd (seen.push q, best) ⟨⟨hbest, keep (by omega)⟩, hL⟩
          · refine go ?_;try(clear hL;intro w hL)
            exact rnd (seen.push q, best) ⟨⟨hbest, keep (by omega)⟩, hL⟩
end Go.Proofs.YtloofgoblodeiaaGreatDoor.mach
