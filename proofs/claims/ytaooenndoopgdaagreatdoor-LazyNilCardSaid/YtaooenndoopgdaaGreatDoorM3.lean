/- LazyNil, proved: a nil machine has nothing. Conditions: none beyond the row its own.: part 3 of 12 of the proof. Conditions: none. -/
import Derived.Test.YtaooenndoopgdaaGreatDoorM1
import Derived.Test.YtaooenndoopgdaaGreatDoorM2
import Derived.Lib.LaidTab
import Derived.Lib.Builder
import Derived.Lib.UnsafeStr
import Derived.Lib.AppendStr
import Derived.Laws.Externs
import Derived.Lib.ItoaLen
import Derived.Lib.MakeNoZero
import Derived.Laws.IdiomCopy
namespace Go.Proofs.YtaooenndoopgdaaGreatDoor.fk
open Go Go.Ev Go.Proofs
def TabMem (m : Mem) : Prop := ∃ g t f, Tryz.prog.globalNamed "internal/strconv.uint64pow10" = some g ∧ m g = some (.cells (Lib.pow10Tab.map fun z => Value.int .u64 z).toArray t f)
theorem TabMem.le {m m' : Mem} (h : Mem.Le m m') (k : TabMem m) : TabMem m' := by
  obtain ⟨g, t, f, h1, h2⟩ := k
  exact ⟨g, t, f, h1, h _ _ h2⟩
theorem itoa_fn (m : Mem) (hQ : TabMem m) (n : Int) (h0 : -9223372036854775808 ≤ n) (h1 : n ≤ 9223372036854775807) : FnV Tryz.prog 107 [.int .i64 n] m (.string ⟨(Lib.itoa n).toArray⟩) := by
  intro w hw
  obtain ⟨g, t, f, hg, hm⟩ := hQ
  have htab : Lib.TabIs Tryz.prog w "internal/strconv.uint64pow10" .u64 Lib.pow10Tab := by
    unfold Lib.TabIs World.var?
    rw [hg]
    simp only [Option.bind_some]
    rw [hw.sub g _ hm]
  refine (Tryz.strconv_Itoa n h0 h1 w htab).mono ?_
  rintro e w' ⟨rfl, k, os, rfl⟩
  have hold : ∀ b : Nat, b < w.heap.size → (Sort.grow (w.drewN k) os).heap[b]? = w.heap[b]? := fun b hb => by
    show (w.heap ++ os)[b]? = _
    rw [Array.getElem?_append_left hb]
  refine ⟨_, m, [], rfl, ⟨rfl, rfl, rfl, ?_, fun b hb _ => hold b hb, fun b o hb => ?_, fun _ _ _ => by simp [keys], fun x hx => by simp at hx, by simp [keys], fun b hb => by simp [keys] at hb, Mem.Le.refl m, fun b o hb => .inl hb⟩, rfl, rfl⟩
  · show w.heap.size ≤ (w.heap ++ os).size
    simp
  · have := hw.sub b o hb
    rw [hold b (heap_lt this)]; exact this
def bI (l : List UInt8) : List Int := l.map fun b => (b.toNat : Int)
theorem bI_append (a b : List UInt8) : bI (a ++ b) = bI a ++ bI b := by simp [bI]
theorem bI_len (l : List UInt8) : (bI l).length = l.length := by simp [bI]
def bdO (p : Option Addr) (v : Value) : Obj := .cells (toArr [.pointer p, v]) 193 (0, 0)
def Bld (b : Nat) (l : List UInt8) (L : Own) : Prop := ∃ p v L1, L = (b, bdO p v) :: L1 ∧ (p = none ∨ p = some ⟨b, 0, none⟩) ∧ OwnS 5 1 v (ints .u8 (bI l)) L1 ∧ (l = [] → v = .slice none 0 0 ∧ L1 = [])
section
variable {N : Nat} {m0 m : Mem} {S : List Nat} {w0 w : World} {L : Own}
theorem GenReq.extern {o : Oper} {ρ : Operand → Value} {c : Call} {x : Operand} {g : Nat} {v : Value} {args : List Value} {K : Value → World → Prop} (ho : o.op = .call c) (hc : c.callee = .value x) (hx : ρ x = .func (.func g) #[] #[]) (ha : c.args.toList.map ρ = args)
    (hrun : ∀ w, (callFunc g (toArr args)).run Tryz.prog w = .ok (.value v) w) (h : K v w) : GenReq Tryz.prog o ρ w K := by
  constructor
  unfold OpOk
  have hargs : c.args.map ρ = toArr args := by apply Array.ext'; rw [Array.toList_map, ha]; rfl
  have hex : execOp ρ o = callFunc g (toArr args) := by rw [← hargs]; simp [execOp, ho, resolve, hc, hx, Deferred.ofValue, invoke]
  rw [hex, hrun]
  exact h
theorem run_escape (v : Value) (w : World) : (callFunc 183 (toArr [v])).run Tryz.prog w = .ok (.value v) w := by
  rw [run_callFunc_extern Tryz.func183 (by kernel_rfl) (by kernel_rfl) (by kernel_rfl) (e := Extern.AbiNoEscape.same) (by kernel_rfl), show toArr [v] = #[v] from rfl, Lib.run_noEscape]
  rfl
theorem shape_own {i b : Nat} {cs : List Value} {t : TypeId} {f : Nat × Nat} (hL : Ev.Loc m0 S w0 m L w) (hi : Ev.look L i = some (b, .cells (toArr cs) t f)) : w.shape? b = some (t, cs.length) := by
  rw [look_eq] at hi
  have hm := hL.own _ (List.mem_of_getElem? hi)
  unfold World.shape?
  simp only at hm
  rw [hm]; simp [toArr]
theorem UGenReq.ptrNeSame {o : Oper} {ρ : Operand → Value} {t yt e : Nat} {x y : Operand} {a : Addr} {j : TypeInfo} {K : Value → Prop} (ho : o.op = .binOp .neq t x y yt) (hx : ρ x = .pointer (some a)) (hy : ρ y = .pointer (some a))
    (hu : Tryz.prog.underlying t = some (.pointer e)) (hj : Tryz.prog.info? e = some j) (h : K (.bool false)) : UGenReq Tryz.prog o ρ K := by
  have hex : execOp ρ o = (do pure (.value (← (do eqGuard .neq t x y (.pointer (some a)) (.pointer (some a)); binOp .neq t (.pointer (some a)) (.pointer (some a)) : Sem Value)))) := by simp only [execOp, ho, hx, hy]
  have hg : eqGuard .neq t x y (.pointer (some a)) (.pointer (some a)) = pure () := by simp [eqGuard]
  refine ⟨UOk.of_run _ hex (fun w => ?_) h⟩
  rw [hg]
  have := Lib.run_neq_ptr_same (w := w) a hu hj
  simp only [Sem.run_bind, Sem.run_pure, Result.andThen_ok]
  exact this
end
set_option maxRecDepth 10000 in
theorem copyCheck_fn (m : Mem) (b : Nat) (p : Option Addr) (v : Value) (hp : p = none ∨ p = some ⟨b, 0, none⟩) :
    Ev.Fn Tryz.prog 154 [.pointer (some ⟨b, 0, none⟩)] m [(b, bdO p v)] fun m' L' u => u = .tuple (toArr []) ∧ m' = m ∧ L' = [(b, bdO (some ⟨b, 0, none⟩) v)] := by
  obtain ⟨j, hj, hjs⟩ := Option.map_eq_some_iff.1 (show (Tryz.prog.info? 193).map (·.size) = some 2 by kernel_rfl)
  rcases hp with rfl | rfl
  · refine Fn.enter (N := 20) hX Tryz.func154 rfl rfl (by show _ ≤ _; simp) (fun w0 hL => ?_)
    conv => whnf
    replace hL : Ev.Loc m [b] w0 m [(b, .cells (toArr [.pointer none, v]) 193 (0, 0))] w0 := hL
    conv => whnf
    repeat ((first | refine UGenReq.nilPtr hX rfl rfl rfl rfl rfl ?_ | (refine go1 ?_; try (clear hL; intro w hL))); conv => whnf)
    refine RunReq.mk (Lib.run_to_unsafe (w := w0) ⟨b, 0, none⟩ Tryz.underlying191 Tryz.underlying252 hj (by rw [hjs]; decide) (shape_own hL (i := 0) rfl) (by show (0 : Nat) < 2; omega)) ?_
    conv => whnf
    repeat ((first | refine GenReq.extern (v := .pointer (some ⟨b, 0, none⟩)) rfl rfl rfl rfl (fun w => run_escape _ w) ?_ | (refine go1 ?_; try (clear hL; intro w hL))); conv => whnf)
    refine RunReq.mk (Lib.run_from_unsafe (w := w0) ⟨b, 0, none⟩ Tryz.underlying252 Tryz.underlying191 hj (shape_own hL (i := 0) rfl) (by kernel_rfl)) ?_
    refine go ?_; try (clear hL; intro w hL)
    exact RetReq.mk hL ⟨rfl, rfl, rfl⟩
  · refine Fn.enter (N := 20) hX Tryz.func154 rfl rfl (by show _ ≤ _; simp) (fun w0 hL => ?_)
    conv => whnf
    replace hL : Ev.Loc m [b] w0 m [(b, .cells (toArr [.pointer (some ⟨b, 0, none⟩), v]) 193 (0, 0))] w0 := hL
    conv => whnf
    repeat ((first | refine UGenReq.nilPtr hX rfl rfl rfl rfl rfl ?_ | refine UGenReq.ptrNeSame rfl rfl rfl Tryz.underlying191 hj ?_ | (refine go1 ?_; try (clear hL; intro w hL))); conv => whnf)
    exact RetReq.mk hL ⟨rfl, rfl, rfl⟩
theorem writeByte_fn (m : Mem) (b : Nat) (l : List UInt8) (c : UInt8) (L : Own) (h : Bld b l L) (hl : l.length ≤ 1000000000) :
    Ev.Fn Tryz.prog 108 [.pointer (some ⟨b, 0, none⟩), .int .u8 c.toNat] m L fun m' L' u => u = .nilIface ∧ m' = m ∧ Bld b (l ++ [c]) L' := by
  obtain ⟨p, v, L1, rfl, hp, ho, -⟩ := h
  obtain ⟨A, n, cc, rfl, hn⟩ := ho.slice
  refine Fn.enter (N := 17) hX Tryz.func108 rfl rfl (by show _ ≤ _; simp) (fun w0 hL => ?_)
  conv => whnf
  generalize keys ((b, bdO p (Value.slice A n cc)) :: L1) = S0 at hL ⊢
  refine go ?_; try (clear hL; intro w hL)
  refine CallReq.mk (L1 := [(b, bdO p (.slice A n cc))]) (L2 := L1) (copyCheck_fn m b p _ hp) hL ?_
  clear hL
  rintro u m1 L' w hL - ⟨rfl, rfl, rfl⟩
  replace hL : Ev.Loc m1 S0 w0 m1 ((b, .cells (toArr [.pointer (some ⟨b, 0, none⟩), .slice A n cc]) 193 (0, 0)) :: (L1 ++ [])) w := by rw [List.append_nil]; exact hL
  refine go ?_; try (clear hL; intro w hL)
  refine NewReq.mk hL ?_
  clear hL
  intro g w hL
  conv => whnf
  refine go ?_; try (clear hL; intro w hL)
  refine RunReq.push hX 26 5 rfl rfl rfl rfl rfl ho (hL.perm (List.Perm.cons _ List.perm_middle.symm)) rfl rfl (by simp [ints, bI_len]; omega) rfl ?_
  clear hL
  intro A2 n2 c2 L2 w hn2 ho2 hL
  replace ho2 : OwnS 5 1 (.slice A2 n2 c2) (ints .u8 (bI l) ++ ints .u8 (bI [c])) L2 := ho2
  rw [← ints_append, ← bI_append] at ho2
  replace hL := hL.perm List.perm_middle
  refine go ?_; try (clear hL; intro w hL)
  rw [List.append_nil] at hL
  exact RetReq.mk hL ⟨rfl, rfl, _, _, L2, rfl, .inr rfl, ho2, fun e => by simp at e⟩
theorem strCells_bI (l : List UInt8) : Lib.strCells ⟨l.toArray⟩ = ints .u8 (bI l) := by
  unfold Lib.strCells ints bI
  rw [List.map_map]; rfl
section
variable {m0 m : Mem} {S : List Nat} {w0 w : World} {L1 L2 : Own}
theorem appendStr {ty : TypeId} {v : Value} {xs : List Value} {l : List UInt8} {K : Value → World → Prop} (hown : OwnS 5 1 v xs L1) (hL : Ev.Loc m0 S w0 m (L1 ++ L2) w) (hl : 0 < l.length) (hb : xs.length + l.length ≤ 1099511627776)
    (h : ∀ A n c L1' w', n = xs.length + l.length → OwnS 5 1 (.slice A n c) (xs ++ ints .u8 (bI l)) L1' → Ev.Loc m0 S w0 m (L1' ++ L2) w' → K (.slice A n c) w') :
    RunReq Tryz.prog (Builtin.append_ #[26, 9] ty (toArr [v, .string ⟨l.toArray⟩])) w K := by
  obtain ⟨i, hi, hz, hs1, hb1⟩ : ∃ i, Tryz.prog.info? 5 = some i ∧ i.zero = some (.int .u8 0) ∧ i.size = 1 ∧ i.bytes = 1 := by
    have g1 : (Tryz.prog.info? 5).bind (·.zero) = some (.int .u8 0) := by kernel_rfl
    have g2 : (Tryz.prog.info? 5).map (·.size) = some 1 := by kernel_rfl
    have g3 : (Tryz.prog.info? 5).map (·.bytes) = some 1 := by kernel_rfl
    cases hi : Tryz.prog.info? 5 with
    | none => rw [hi] at g2; cases g2
    | some i =>
      rw [hi] at g1 g2 g3
      exact ⟨i, rfl, g1, Option.some.inj g2, Option.some.inj g3⟩
  have hsz : (⟨l.toArray⟩ : ByteArray).size = l.length := by show l.toArray.size = _; simp
  have hsc := strCells_bI l
  have harg : toArr [v, .string ⟨l.toArray⟩] = #[v, .string ⟨l.toArray⟩] := rfl
  have hbl : (ints .u8 (bI l)).length = l.length := by simp [ints, bI_len]
  have hzc : ∀ n, (Builtin.zeroCells (Value.int .u8 0).cells n).toList.length = n := fun n => by
    rw [Array.length_toList, size_zeroCells]; show n * 1 = n; omega
  rw [harg]
  obtain ⟨n, hn, ⟨rfl, rfl, rfl⟩ | ⟨g, cap, cur, rfl, rfl, h1, h2, h3, h4⟩⟩ := hown
  · have hx : xs = [] := List.eq_nil_of_length_eq_zero (by omega)
    subst hx
    have hrun := run_append_nil_string (P := Tryz.prog) (w := w) 26 9 ty 5 i (.int .u8 0) Tryz.underlying26 Tryz.underlying9 hi hz ⟨l.toArray⟩ (by omega) (by rw [hsz]; simp at hb; omega) (by rw [hsz, hb1]; simp at hb; omega)
    have hge := grownCap_ge w l.length 0 5
    have hle := grownCap_le_maxLen w l.length 0 5 (by simp at hb; simp only [maxLen]; omega)
    rw [hsz] at hrun
    generalize grownCap w l.length 0 5 = gc at *
    have hcells : ((⟨l.toArray⟩ : ByteArray).data.map (fun b => Value.int .u8 b.toNat) ++ Builtin.zeroCells (Value.int .u8 0).cells (gc - l.length)) = toArr (ints .u8 (bI l) ++ (Builtin.zeroCells (Value.int .u8 0).cells (gc - l.length)).toList) := by
      apply Array.ext'
      rw [Array.toList_append, Array.toList_map]
      simp only [toArr, ints, bI, List.map_map]
      rfl
    refine ⟨_, _, hrun, ?_⟩
    rw [hcells]
    refine h (some ⟨w.heap.size, 0, none⟩) l.length gc [(w.heap.size, _)] _ (by simp) ⟨l.length, by simp [hbl], .inr ⟨w.heap.size, gc, _, rfl, rfl, hge, hle, ?_, ?_⟩⟩ (hL.drew.alloc _)
    · rw [List.length_append, hzc, hbl]; omega
    · rw [Nat.mul_one, List.nil_append, List.take_append_of_le_length (by omega), List.take_of_length_le (by omega)]
  · have hxn : xs.length = n := by omega
    have hg := hL.own (g, .cells (toArr cur) 5 (0, 0)) (by simp)
    have hold : ∀ j u, (cur.take n)[j]? = some u → w.cell? ((⟨g, 0, none⟩ : Addr).add j) = some u := by
      intro j u hu
      rw [addr_add, Nat.zero_add, hL.ownCell (b := g) (i := j) (c := toArr cur) (t := 5) (f := (0, 0)) (by simp)]
      rw [List.getElem?_take] at hu
      split at hu
      · simpa [toArr] using hu
      · cases hu
    rw [Nat.mul_one] at h4
    by_cases hroom : n + l.length ≤ cap
    · have hrun := Lib.run_append_room_string (P := Tryz.prog) w 26 9 ty 5 i Tryz.underlying26 Tryz.underlying9 hi hs1 g n cap (toArr cur) hg ⟨l.toArray⟩ (by rw [hsz]; exact hroom) (by rw [hsz]; simp [toArr]; omega)
      rw [hsz, hsc] at hrun
      have hcur : (toArr cur).toList = cur := by simp [toArr]
      rw [hcur] at hrun
      refine ⟨_, _, hrun, ?_⟩
      have hset := setRow_heap w g (toArr cur) (cur.take n ++ ints .u8 (bI l) ++ cur.drop (n + l.length)).toArray 5 (0, 0) hg
      refine h (some ⟨g, 0, none⟩) (n + l.length) cap [(g, .cells (toArr (cur.take n ++ ints .u8 (bI l) ++ cur.drop (n + l.length))) 5 (0, 0))] _ (by omega) ⟨n + l.length, by rw [List.length_append, hbl]; omega, .inr ⟨g, cap, _, rfl, rfl, hroom, h2, ?_, ?_⟩⟩
        (Loc.step (L1 := [(g, .cells (toArr cur) 5 (0, 0))]) hL rfl rfl rfl (by simp [World.setRow]) (fun k hk hne => ?_) (fun x hx => ?_) (by simp [keys]) (fun b hb' => .inl hb'))
      · simp only [List.length_append, List.length_take, List.length_drop, hbl]; omega
      · rw [Nat.mul_one, List.take_append_of_le_length (by simp [hbl]; omega), List.take_of_length_le (by simp [hbl]; omega), h4]
      · simp only [keys, List.mem_singleton] at hne
        simp only [World.setRow, Array.getElem?_modify]
        rw [if_neg (fun e => hne e.symm)]
      · simp only [List.mem_singleton] at hx
        subst hx
        exact hset
    · have hrun := Lib.run_append_grow_string (P := Tryz.prog) w 26 9 ty 5 i (.int .u8 0) Tryz.underlying26 Tryz.underlying9 hi hz ⟨g, 0, none⟩ n cap (cur.take n) (by rw [hs1, List.length_take]; omega) hold ⟨l.toArray⟩ (by rw [hsz]; omega) (by rw [hsz]; omega)
        (by rw [hsz, hb1, Nat.mul_one]; exact Nat.le_trans (nextslicecap_le (by omega)) (by omega))
      have hge := grownCap_ge w (n + l.length) cap 5
      have hle := grownCap_le_maxLen w (n + l.length) cap 5 (by simp only [maxLen]; omega)
      rw [hsz, hsc] at hrun
      generalize grownCap w (n + l.length) cap 5 = gc at *
      have hcells : ((cur.take n).toArray ++ (ints .u8 (bI l)).toArray ++ Builtin.zeroCells (Value.int .u8 0).cells (gc - (n + l.length))) = toArr (cur.take n ++ ints .u8 (bI l) ++ (Builtin.zeroCells (Value.int .u8 0).cells (gc - (n + l.length))).toList) := by
        apply Array.ext'; simp [toArr]
      refine ⟨_, _, hrun, ?_⟩
      rw [hcells]
      have hl0 := hL.drew.alloc (.cells (toArr (cur.take n ++ ints .u8 (bI l) ++ (Builtin.zeroCells (Value.int .u8 0).cells (gc - (n + l.length))).toList)) 5)
      refine h (some ⟨w.heap.size, 0, none⟩) (n + l.length) gc [(w.heap.size, _)] _ (by omega) ⟨n + l.length, by rw [List.length_append, hbl]; omega, .inr ⟨w.heap.size, gc, _, rfl, rfl, hge, hle, ?_, ?_⟩⟩ (hl0.sublist (.cons_cons _ (.cons _ (List.Sublist.refl _))))
      · simp only [List.length_append, List.length_take, hzc, hbl]; omega
      · rw [Nat.mul_one, List.take_append_of_le_length (by simp [hbl]; omega), List.take_of_length_le (by simp [hbl]; omega), h4]
end
theorem writeString_fn (m : Mem) (b : Nat) (l s : List UInt8) (L : Own) (h : Bld b l L) (hl : l.length ≤ 1000000000) (hs : 0 < s.length ∧ s.length ≤ 1000) :
    Ev.Fn Tryz.prog 106 [.pointer (some ⟨b, 0, none⟩), .string ⟨s.toArray⟩] m L fun m' L' u => u = .tuple (toArr [.int .i64 s.length, .nilIface]) ∧ m' = m ∧ Bld b (l ++ s) L' := by
  obtain ⟨p, v, L1, rfl, hp, ho, -⟩ := h
  obtain ⟨A, n, cc, rfl, hn⟩ := ho.slice
  have hsz : (⟨s.toArray⟩ : ByteArray).size = s.length := by show s.toArray.size = _; simp
  refine Fn.enter (N := 19) hX Tryz.func106 rfl rfl (by show _ ≤ _; simp) (fun w0 hL => ?_)
  conv => whnf
  generalize keys ((b, bdO p (Value.slice A n cc)) :: L1) = S0 at hL ⊢
  refine go ?_; try (clear hL; intro w hL)
  refine CallReq.mk (L1 := [(b, bdO p (.slice A n cc))]) (L2 := L1) (copyCheck_fn m b p _ hp) hL ?_
  clear hL
  rintro u m1 L' w hL - ⟨rfl, rfl, rfl⟩
  replace hL : Ev.Loc m1 S0 w0 m1 ((b, .cells (toArr [.pointer (some ⟨b, 0, none⟩), .slice A n cc]) 193 (0, 0)) :: (L1 ++ [])) w := by rw [List.append_nil]; exact hL
  refine go ?_; try (clear hL; intro w hL)
  refine appendStr ho (hL.perm List.perm_middle.symm) hs.1 (by simp [ints, bI_len]; omega) ?_
  clear hL
  intro A2 n2 c2 L2 w hn2 ho2 hL
  rw [← ints_append, ← bI_append] at ho2
  replace hL := hL.perm List.perm_middle
  refine go ?_; try (clear hL; intro w hL)
  rw [List.append_nil] at hL
  exact RetReq.mk hL ⟨by rw [← hsz]; rfl, rfl, _, _, L2, rfl, .inr rfl, ho2, fun e => absurd (congrArg List.length e) (by rw [List.length_append, List.length_nil]; have := hs.1; omega)⟩
section
variable {N : Nat} {m0 m : Mem} {S : List Nat} {w0 w : World} {L : Own}
theorem GenReq.sliceData {o : Oper} {ρ : Operand → Value} {c : Call} {a : Option Addr} {n cap : Nat} {K : Value → World → Prop} (ho : o.op = .call c) (hc : c.callee = .builtin .unsafeSliceData) (ha : c.args.toList.map ρ = [.slice a n cap]) (hcap : a = none ∨ cap ≠ 0)
    (h : K (.pointer a) w) : GenReq Tryz.prog o ρ w K := by
  constructor
  unfold OpOk
  have hargs : c.args.map ρ = #[.slice a n cap] := by apply Array.ext'; rw [Array.toList_map, ha]
  have hex : execOp ρ o = (do pure (.value (← Builtin.unsafeSliceData_ c.argTypes o.type #[.slice a n cap]))) := by rw [← hargs]; simp [execOp, ho, resolve, hc, invoke, builtin]
  have hrun : (Builtin.unsafeSliceData_ c.argTypes o.type #[.slice a n cap]).run Tryz.prog w = .ok (.pointer a) w := by
    cases a with
    | none => exact Lib.run_unsafeSliceData_nil w _ _ _ _
    | some a => exact Lib.run_unsafeSliceData_row w _ _ _ _ _ (hcap.elim (fun e => by cases e) id)
  rw [hex]
  simp only [Sem.run_bind, hrun, Result.andThen_ok, Sem.run_pure, upon]
  exact h
theorem loc_freeze {g n : Nat} {o : Obj} (hL : Ev.Loc m0 S w0 m ((g, o) :: L) w) (hn : n ≠ 0) : Ev.Loc m0 S w0 m L (w.freeze ⟨g, 0, none⟩ n) := by
  refine Loc.step (L1 := [(g, o)]) (L1' := []) hL (by unfold World.freeze; rw [if_neg hn]) (by unfold World.freeze; rw [if_neg hn]) (by unfold World.freeze; rw [if_neg hn]) ?_ (fun k hk hne => ?_) (fun x hx => by simp at hx) (by simp [keys]) (fun b hb => by simp [keys] at hb)
  · unfold World.freeze; rw [if_neg hn]; simp
  · simp only [keys, List.mem_singleton] at hne
    unfold World.freeze
    rw [if_neg hn]
    simp only [Array.getElem?_modify]
    rw [if_neg (fun e => hne e.symm)]
theorem GenReq.string {o : Oper} {ρ : Operand → Value} {c : Call} {g n : Nat} {l : List UInt8} {cur : List Value} {K : Value → World → Prop} (ho : o.op = .call c) (hc : c.callee = .builtin .unsafeString) (ht : c.argTypes = #[232, 3]) (ha : c.args.toList.map ρ = [.pointer (some ⟨g, 0, none⟩), .int .i64 n])
    (hL : Ev.Loc m0 S w0 m ((g, .cells (toArr cur) 5 (0, 0)) :: L) w) (hn : n = l.length) (h0 : l ≠ []) (hcl : n ≤ cur.length) (hmax : n ≤ maxLen) (hcur : cur.take n = ints .u8 (bI l))
    (h : ∀ w', Ev.Loc m0 S w0 m L w' → K (.string ⟨l.toArray⟩) w') : GenReq Tryz.prog o ρ w K := by
  subst hn
  constructor
  unfold OpOk
  have hargs : c.args.map ρ = #[.pointer (some ⟨g, 0, none⟩), .int .i64 l.length] := by apply Array.ext'; rw [Array.toList_map, ha]
  have hex : execOp ρ o = (do pure (.value (← Builtin.unsafeString_ #[232, 3] o.type #[.pointer (some ⟨g, 0, none⟩), .int .i64 l.length]))) := by rw [← hargs, ← ht]; simp [execOp, ho, resolve, hc, invoke, builtin]
  have hrun := Lib.run_unsafeString_row (P := Tryz.prog) w 232 3 o.type 5 Tryz.underlying232 (by kernel_rfl) g cur.length (shape_own hL (i := 0) rfl) l h0 hcl (by simp only [maxLen] at hmax; omega) (fun j x hx => by
    rw [addr_add, Nat.zero_add, hL.ownCell (b := g) (i := j) (c := toArr cur) (t := 5) (f := (0, 0)) (by simp)]
    have hj := (List.getElem?_eq_some_iff.1 hx).1
    have : (cur.take l.length)[j]? = some (.int .u8 x.toNat) := by
      rw [hcur]; simp [ints, bI, hx]
    rw [List.getElem?_take_of_lt hj] at this
    simpa [toArr] using this)
  rw [hex]
  simp only [Sem.run_bind, hrun, Result.andThen_ok, Sem.run_pure, upon]
  exact h _ (loc_freeze hL (by have := List.length_pos_iff.2 h0; omega))
theorem GenReq.string0 {o : Oper} {ρ : Operand → Value} {c : Call} {K : Value → World → Prop} (ho : o.op = .call c) (hc : c.callee = .builtin .unsafeString) (ht : c.argTypes = #[232, 3]) (ha : c.args.toList.map ρ = [.pointer none, .int .i64 0])
    (h : K (.string ⟨([] : List UInt8).toArray⟩) w) : GenReq Tryz.prog o ρ w K := by
  constructor
  unfold OpOk
  have hargs : c.args.map ρ = #[.pointer none, .int .i64 0] := by apply Array.ext'; rw [Array.toList_map, ha]
  have hex : execOp ρ o = (do pure (.value (← Builtin.unsafeString_ #[232, 3] o.type #[.pointer none, .int .i64 0]))) := by rw [← hargs, ← ht]; simp [execOp, ho, resolve, hc, invoke, builtin]
  have hrun := Lib.run_unsafeString_none (P := Tryz.prog) w 232 3 o.type none
  rw [hex]
  simp only [Sem.run_bind, hrun, Result.andThen_ok, Sem.run_pure, upon]
  exact h
end
theorem string_fn (m : Mem) (b : Nat) (l : List UInt8) (L : Own) (h : Bld b l L) :
    Ev.Fn Tryz.prog 109 [.pointer (some ⟨b, 0, none⟩)] m L fun m' L' u => u = .string ⟨l.toArray⟩ ∧ m' = m ∧ L' = [] := by
  obtain ⟨p, v, L1, rfl, hp, ho, he⟩ := h
  by_cases h0 : l = []
  · obtain ⟨rfl, rfl⟩ := he h0
    subst h0
    refine Fn.enter (N := 14) hX Tryz.func109 rfl rfl (by show _ ≤ _; simp) (fun w0 hL => ?_)
    conv => whnf
    replace hL : Ev.Loc m [b] w0 m [(b, .cells (toArr [.pointer p, .slice none 0 0]) 193 (0, 0))] w0 := hL
    refine DrawReq.plan hX (.fst 0 (.fst 1 (.fst 2 (.fst 3 (.fst 5 (.fst 6 (.fst 7 (.fst 8 (.fst 9 (.alt 4 (.alt 10 (.fst 11 (.done)) (.stop)) (.stop))))))))))) [(b, .cells (toArr [.pointer p, .slice none 0 0]) 193 (0, 0))] (by kernel_rfl) (by kernel_rfl) hL id ?_
    clear hL
    intro w hL
    refine goq ?_; try (clear hL; intro w hL)
    refine GenReq.sliceData rfl rfl rfl (.inl rfl) ?_
    conv => whnf
    repeat ((first | refine SReq.mk hL ?_ | (refine goq1 ?_; try (clear hL; intro w hL))); conv => whnf)
    refine GenReq.string0 rfl rfl rfl rfl ?_
    conv => whnf
    repeat ((first | refine SReq.mk hL ?_ | (refine goq1 ?_; try (clear hL; intro w hL))); conv => whnf)
    exact RetReq.mk hL.drop ⟨rfl, rfl, rfl⟩
  · have hlp := List.length_pos_iff.2 h0
    obtain ⟨n, hn, ⟨rfl, rfl, _⟩ | ⟨g, cap, cur, rfl, rfl, h1, h2, h3, h4⟩⟩ := ho
    · simp [ints, bI_len] at hn; exact absurd hn h0
    have hnl : n = l.length := by simp [ints, bI_len] at hn; exact hn.symm
    refine Fn.enter (N := 14) hX Tryz.func109 rfl rfl (by show _ ≤ _; simp) (fun w0 hL => ?_)
    conv => whnf
    generalize keys ((b, bdO p (Value.slice (some ⟨g, 0, none⟩) n cap)) :: [(g, Obj.cells (toArr cur) 5 (0, 0))]) = S0 at hL ⊢
    replace hL : Ev.Loc m S0 w0 m [(b, .cells (toArr [.pointer p, .slice (some ⟨g, 0, none⟩) n cap]) 193 (0, 0)), (g, .cells (toArr cur) 5 (0, 0))] w0 := hL
    refine DrawReq.plan hX (.fst 0 (.fst 1 (.fst 2 (.fst 3 (.fst 5 (.fst 6 (.fst 7 (.fst 8 (.fst 9 (.alt 4 (.alt 10 (.fst 11 (.done)) (.stop)) (.stop))))))))))) [(b, .cells (toArr [.pointer p, .slice (some ⟨g, 0, none⟩) n cap]) 193 (0, 0))] (by kernel_rfl) (by kernel_rfl) hL (fun h => h.one 0 rfl) ?_
    clear hL
    intro w hL
    refine goq ?_; try (clear hL; intro w hL)
    refine GenReq.sliceData rfl rfl rfl (.inr (by omega)) ?_
    conv => whnf
    repeat ((first | refine SReq.mk (hL.one 0 rfl) ?_ | (refine goq1 ?_; try (clear hL; intro w hL))); conv => whnf)
    refine GenReq.string rfl rfl rfl rfl (hL.perm (List.Perm.swap _ _ _)) hnl h0 (by omega) (by omega) (by rw [Nat.mul_one] at h4; exact h4) ?_
    clear hL
    intro w hL
    conv => whnf
    repeat ((first | refine SReq.mk hL ?_ | (refine goq1 ?_; try (clear hL; intro w hL))); conv => whnf)
    exact RetReq.mk hL.drop ⟨rfl, rfl, rfl⟩
end Go.Proofs.YtaooenndoopgdaaGreatDoor.fk
namespace Go.Proofs.YtaooenndoopgdaaGreatDoor.fk
open Go Go.Ev Go.Proofs
def prV (m : Mem) (cs : List Value) (p : List Int) : Prop := ∃ u, cs = [u] ∧ SlI m .i64 u p
def FmV (m : Mem) (v : Value) (f : List (List Int)) : Prop := Sl m 1 (prV m) v f
theorem FmV.le {m m' : Mem} (h : Mem.Le m m') {v : Value} {f : List (List Int)} (k : FmV m v f) : FmV m' v f := Sl.le k h fun _ _ _ ⟨u, e, hs⟩ => ⟨u, e, hs.le' h⟩
theorem FmV.at_ {m : Mem} {A : Option Addr} {n c : Nat} {f : List (List Int)} (h : FmV m (.slice A n c) f) {i : Nat} (hi : i < f.length) : ∃ a A' n' c', A = some a ∧ mcell m (a.add (scale i 1)) = some (.slice A' n' c') ∧ SlI m .i64 (.slice A' n' c') f[i] := by
  obtain ⟨a, cs, e1, e2, e3, u, rfl, hs⟩ := Sl.elem h i _ (List.getElem?_eq_getElem hi)
  have hs' := hs
  obtain ⟨A', n', c', rfl, -⟩ := hs'
  have := e3 0 _ rfl
  have add0 : ∀ x : Addr, x.add 0 = x := fun x => by cases x; rfl
  rw [add0] at this
  exact ⟨a, A', n', c', e1, this, hs⟩
structure Fine (f : List (List Int)) : Prop where
  len : f.length ≤ 1000
  part : ∀ p ∈ f, p.length ≤ 20000
  num : ∀ p ∈ f, ∀ n ∈ p, -9223372036854775808 ≤ n ∧ n ≤ 9223372036854775807
def partB (p : List Int) : List UInt8 := (p.map fun n => Lib.itoa n ++ [44]).flatten
def keyB (f : List (List Int)) : List UInt8 := (f.map fun p => partB p ++ [59]).flatten
theorem partB_take {p : List Int} {j : Nat} (h : j < p.length) : partB (p.take (j + 1)) = partB (p.take j) ++ Lib.itoa p[j] ++ [44] := by
  rw [List.take_succ_eq_append_getElem h]; unfold partB; rw [List.map_append, List.flatten_append]; simp only [List.map_cons, List.map_nil, List.flatten_cons, List.flatten_nil, List.append_nil, List.append_assoc]
theorem keyB_take {f : List (List Int)} {j : Nat} (h : j < f.length) : keyB (f.take (j + 1)) = keyB (f.take j) ++ partB f[j] ++ [59] := by
  rw [List.take_succ_eq_append_getElem h]; unfold keyB; rw [List.map_append, List.flatten_append]; simp only [List.map_cons, List.map_nil, List.flatten_cons, List.flatten_nil, List.append_nil, List.append_assoc]
theorem partB_len : ∀ (p : List Int), (∀ n ∈ p, -9223372036854775808 ≤ n ∧ n ≤ 9223372036854775807) → (partB p).length ≤ p.length * 22
  | [], _ => by simp [partB]
  | n :: p, h => by
    have h1 := Lib.itoa_length_le n (h n (by simp)).1 (h n (by simp)).2
    have h2 := partB_len p fun x hx => h x (by simp [hx])
    simp only [partB, List.map_cons, List.flatten_cons, List.length_append, List.length_cons, List.length_nil] at h2 ⊢
    omega
theorem keyB_len : ∀ (f : List (List Int)), (∀ p ∈ f, p.length ≤ 20000) → (∀ p ∈ f, ∀ n ∈ p, -9223372036854775808 ≤ n ∧ n ≤ 9223372036854775807) → (keyB f).length ≤ f.length * 440001
  | [], _, _ => by simp [keyB]
  | p :: f, h, k => by
    have h1 := partB_len p (k p (by simp))
    have h0 := h p (by simp)
    have h2 := keyB_len f (fun x hx => h x (by simp [hx])) fun x hx => k x (by simp [hx])
    simp only [keyB, List.map_cons, List.flatten_cons, List.length_append, List.length_cons, List.length_nil] at h2 ⊢
    omega
theorem itoa_pos (n : Int) : 0 < (Lib.itoa n).length := by
  unfold Lib.itoa
  split
  · simp
  · rw [Lib.decDigits]; split <;> simp
theorem callW {m0 m : Mem} {S : List Nat} {w0 w : World} {b : Nat} {l : List UInt8} {c : UInt8} {L : Own} {K : Value → World → Prop} (h : Bld b l L) (hl : l.length ≤ 1000000000) (hL : Ev.Loc m0 S w0 m L w)
    (k : ∀ L' w', Bld b (l ++ [c]) L' → Ev.Loc m0 S w0 m L' w' → K .nilIface w') : CallReq Tryz.prog 108 (toArr [.pointer (some ⟨b, 0, none⟩), .int .u8 c.toNat]) w K :=
  CallReq.mk (L1 := L) (L2 := []) (writeByte_fn m b l c L h hl) (by rw [List.append_nil]; exact hL) fun u m' L1' w' hl hle ⟨h1, h2, h3⟩ => by
    subst h1 h2
    rw [List.append_nil] at hl
    exact k L1' w' h3 hl
theorem callS {m0 m : Mem} {S : List Nat} {w0 w : World} {b : Nat} {l s : List UInt8} {L : Own} {K : Value → World → Prop} (h : Bld b l L) (hl : l.length ≤ 1000000000) (hs : 0 < s.length ∧ s.length ≤ 1000) (hL : Ev.Loc m0 S w0 m L w)
    (k : ∀ L' w', Bld b (l ++ s) L' → Ev.Loc m0 S w0 m L' w' → K (.tuple (toArr [.int .i64 s.length, .nilIface])) w') : CallReq Tryz.prog 106 (toArr [.pointer (some ⟨b, 0, none⟩), .string ⟨s.toArray⟩]) w K :=
  CallReq.mk (L1 := L) (L2 := []) (writeString_fn m b l s L h hl hs) (by rw [List.append_nil]; exact hL) fun u m' L1' w' hl hle ⟨h1, h2, h3⟩ => by
    subst h1 h2
    rw [List.append_nil] at hl
    exact k L1' w' h3 hl
set_option maxHeartbeats 2000000 in
theorem key_fn (m : Mem) (hQ : TabMem m) (v : Value) (f : List (List Int)) (hv : FmV m v f) (hf : Fine f) : FnV Tryz.prog 76 [v] m (.string ⟨(keyB f).toArray⟩) := by
  have hmx : maxLen = 9223372036854775807 := rfl
  have hv' := hv
  obtain ⟨A, n, c, rfl, hn, hc, hm, -⟩ := hv
  have hf1 := hf.len
  refine Fn.enter (N := 28) hX Tryz.func76 rfl rfl (by show _ ≤ _; simp) (fun w0 hL => ?_)
  conv => whnf
  refine go ?_; try (clear hL; intro w hL)
  refine NewReq.mk hL ?_
  clear hL
  intro b w hL
  replace hL : Ev.Loc m [] w0 m [(b, bdO none (.slice none 0 0))] w := hL
  conv => whnf
  refine go ?_; try (clear hL; intro w hL)
  refine LoopReq.inv hX (fun j : Nat => [(10, .int .i64 j)]) [3, 8, 9]
    (fun j w => j ≤ n ∧ ∃ L, Bld b (keyB (f.take j)) L ∧ Ev.Loc m [] w0 m L w) (fun j => n - j) 0
    ⟨by omega, _, ⟨none, _, [], rfl, .inl rfl, OwnS.nil _ _, fun _ => ⟨rfl, rfl⟩⟩, hL⟩ ⟨rfl, trivial⟩ ?_
  clear hL
  rintro j w g ⟨hj, L, hB, hL⟩
  have hkl := keyB_len (f.take j) (fun p hp => hf.part p (List.mem_of_mem_take hp)) fun p hp => hf.num p (List.mem_of_mem_take hp)
  rw [List.length_take] at hkl
  refine go ?_; try (clear hL; intro w hL)
  refine BrReq.dec (fun hlt => ?_) (fun hlt => ?_)
  · have hj' : j < f.length := by omega
    obtain ⟨a, A2, n2, c2, rfl, hcell, hp⟩ := hv'.at_ hj'
    have htk := keyB_take hj'
    have hp1 := hf.part _ (List.getElem_mem hj')
    have hp2 := hf.num _ (List.getElem_mem hj')
    generalize f[j] = p at hp htk hp1 hp2
    have hpn := hp.len.1
    have hep := hp.cell.2
    generalize keyB (f.take j) = pre at hB hkl htk
    conv => whnf
    repeat ((first | refine Idx2Req.mk j a rfl (by omega) rfl ?_ | refine LdReq.one hX rfl rfl hL hcell ?_ | (refine go1 ?_; try (clear hL; intro w hL))); conv => whnf)
    refine LoopReq.inv hX (fun k : Nat => [(16, .int .i64 k)]) [3, 8, 9, 10, 14, 15]
      (fun k w => k ≤ n2 ∧ ∃ L, Bld b (pre ++ partB (p.take k)) L ∧ Ev.Loc m [] w0 m L w) (fun k => n2 - k) 0
      ⟨by omega, L, by simpa [partB] using hB, hL⟩ ⟨rfl, trivial⟩ ?_
    clear hL hB
    rintro k w g2 ⟨hk, L, hB, hL⟩
    have hpl := partB_len (p.take k) fun x hx => hp2 x (List.mem_of_mem_take hx)
    rw [List.length_take] at hpl
    refine go ?_; try (clear hL; intro w hL)
    refine BrReq.dec (fun hlt2 => ?_) (fun hlt2 => ?_)
    · have hk' : k < p.length := by omega
      obtain ⟨a2, rfl, hc2⟩ := hep k _ (List.getElem?_eq_getElem hk')
      have htk2 := partB_take hk'
      have hnb := hp2 _ (List.getElem_mem hk')
      generalize p[k] = x at hc2 htk2 hnb
      have hil := Lib.itoa_length_le x hnb.1 hnb.2
      conv => whnf
      repeat ((first | refine Idx2Req.mk k a2 rfl (by omega) rfl ?_ | (refine LdReq.one hX rfl rfl hL (by rw [scale_eq, Nat.mul_one]; exact hc2) ?_) | (refine go1 ?_; try (clear hL; intro w hL))); conv => whnf)
      refine CallReq.val (itoa_fn m hQ x hnb.1 hnb.2) hL ?_
      clear hL
      intro w hL
      refine go ?_; try (clear hL; intro w hL)
      refine callS hB (by rw [List.length_append]; omega) ⟨itoa_pos x, by omega⟩ hL ?_
      clear hL hB
      intro L w hB hL
      refine go ?_; try (clear hL; intro w hL)
      refine callW (c := 44) hB (by simp only [List.length_append]; omega) hL ?_
      clear hL hB
      intro L w hB hL
      rw [List.append_assoc, List.append_assoc, ← List.append_assoc (partB _), ← htk2] at hB
      refine go ?_; try (clear hL; intro w hL)
      refine ⟨k + 1, ⟨by omega, L, hB, hL⟩, by first | omega | (simp only; omega) | (simp only [List.length_cons, List.length_append]; omega), ?_, ?_⟩
      · repeat (first | exact trivial | (refine And.intro (by (conv => lhs; whnf) <;> (conv => rhs; whnf) <;> (first | rfl)) ?_))
      · repeat (first | exact trivial | (refine And.intro (by (conv => lhs; whnf) <;> (conv => rhs; whnf) <;> (first | rfl)) ?_))
    · have ek : k = p.length := by omega
      rw [ek, List.take_length] at hB hpl
      refine go ?_; try (clear hL; intro w hL)
      refine callW (c := 59) hB (by simp only [List.length_append]; omega) hL ?_
      clear hL hB
      intro L w hB hL
      rw [← htk] at hB
      refine go ?_; try (clear hL; intro w hL)
      refine ⟨j + 1, ⟨by omega, L, hB, hL⟩, by first | omega | (simp only; omega) | (simp only [List.length_cons, List.length_append]; omega), ?_, ?_⟩
      · repeat (first | exact trivial | (refine And.intro (by (conv => lhs; whnf) <;> (conv => rhs; whnf) <;> (first | rfl)) ?_))
      · repeat (first | exact trivial | (refine And.intro (by (conv => lhs; whnf) <;> (conv => rhs; whnf) <;> (first | rfl)) ?_))
  · have ej : j = f.length := by omega
    rw [ej, List.take_length] at hB
    refine go ?_; try (clear hL; intro w hL)
    refine CallReq.mk (L1 := L) (L2 := []) (string_fn m b _ L hB) (by rw [List.append_nil]; exact hL) ?_
    clear hL
    rintro u m' L' w hL - ⟨rfl, rfl, rfl⟩
    refine go ?_; try (clear hL; intro w hL)
    exact RetReq.mk hL ⟨rfl, rfl⟩
end Go.Proofs.YtaooenndoopgdaaGreatDoor.fk
namespace Go.Proofs.YtaooenndoopgdaaGreatDoor.bd
open Go Go.Ev Go.Proofs
def isS (cs : List Value) (s : List UInt8) : Prop := cs = [.string (bs s)]
def jn (sep : List UInt8) : List (List UInt8) → List UInt8
  | [] => []
  | [a] => a
  | a :: b :: r => a ++ sep ++ jn sep (b :: r)
def jnT (sep : List UInt8) (l : List (List UInt8)) : List UInt8 := (l.map fun s => sep ++ s).flatten
theorem jn_cons (sep a : List UInt8) : ∀ (r : List (List UInt8)), jn sep (a :: r) = a ++ jnT sep r
  | [] => by simp [jn, jnT]
  | b :: r => by rw [jn, jn_cons sep b r]; simp [jnT]
def totL (l : List (List UInt8)) : Nat := (l.map List.length).sum
theorem totL_take {l : List (List UInt8)} {j : Nat} (h : j < l.length) : totL (l.take (j + 1)) = totL (l.take j) + l[j].length := by
  rw [List.take_succ_eq_append_getElem h]; unfold totL; rw [List.map_append, List.sum_append]; simp
theorem jnT_take (sep : List UInt8) {l : List (List UInt8)} {j : Nat} (h : j < l.length) : jnT sep (l.take (j + 1)) = jnT sep (l.take j) ++ sep ++ l[j] := by
  rw [List.take_succ_eq_append_getElem h]; unfold jnT; rw [List.map_append, List.flatten_append]; simp
theorem jnT_len (sep : List UInt8) : ∀ (l : List (List UInt8)), (jnT sep l).length = l.length * sep.length + totL l
  | [] => by simp [jnT, totL]
  | a :: l => by
    have := jnT_len sep l
    simp only [jnT, totL, List.map_cons, List.flatten_cons, List.length_append, List.length_cons, List.sum_cons] at this ⊢
    rw [this, Nat.succ_mul]; omega
theorem totL_le : ∀ {l : List (List UInt8)} (j : Nat), totL (l.take j) ≤ totL l
  | [], j => by simp
  | a :: l, 0 => by simp [totL]
  | a :: l, j + 1 => by have := totL_le (l := l) j; simp only [totL, List.take_succ_cons, List.map_cons, List.sum_cons] at this ⊢; omega
theorem tot_one {l : List (List UInt8)} {i : Nat} (h : i < l.length) : l[i].length ≤ totL l := by
  have := totL_take h
  have := totL_le (l := l) (i + 1)
  omega
theorem Sl.one {m : Mem} {A : Option Addr} {n c : Nat} {l : List (List UInt8)} (h : Sl m 1 isS (.slice A n c) l) {i : Nat} (hi : i < l.length) : ∃ a, A = some a ∧ mcell m (a.add (scale i 1)) = some (.string (bs l[i])) := by
  obtain ⟨a, cs, e1, e2, e3, rfl⟩ := Sl.elem h i _ (List.getElem?_eq_getElem hi)
  have := e3 0 _ rfl
  have add0 : ∀ x : Addr, x.add 0 = x := fun x => by cases x; rfl
  rw [add0] at this
  exact ⟨a, e1, this⟩
end Go.Proofs.YtaooenndoopgdaaGreatDoor.bd
namespace Go.Proofs.YtaooenndoopgdaaGreatDoor.bd
open Go Go.Ev Go.Proofs
def bI (l : List UInt8) : List Int := l.map fun b => (b.toNat : Int)
theorem bI_append (a b : List UInt8) : bI (a ++ b) = bI a ++ bI b := by simp [bI]
theorem bI_len (l : List UInt8) : (bI l).length = l.length := by simp [bI]
def bdO (p : Option Addr) (v : Value) : Obj := .cells (toArr [.pointer p, v]) 193 (0, 0)
def Bld (b : Nat) (l : List UInt8) (L : Own) : Prop := ∃ p v L1, L = (b, bdO p v) :: L1 ∧ (p = none ∨ p = some ⟨b, 0, none⟩) ∧ OwnS 5 1 v (ints .u8 (bI l)) L1
section
variable {N : Nat} {m0 m : Mem} {S : List Nat} {w0 w : World} {L : Own}
theorem GenReq.extern {o : Oper} {ρ : Operand → Value} {c : Call} {x : Operand} {g : Nat} {v : Value} {args : List Value} {K : Value → World → Prop} (ho : o.op = .call c) (hc : c.callee = .value x) (hx : ρ x = .func (.func g) #[] #[]) (ha : c.args.toList.map ρ = args)
    (hrun : ∀ w, (callFunc g (toArr args)).run Tryz.prog w = .ok (.value v) w) (h : K v w) : GenReq Tryz.prog o ρ w K := by
  constructor
  unfold OpOk
  have hargs : c.args.map ρ = toArr args := by apply Array.ext'; rw [Array.toList_map, ha]; rfl
  have hex : execOp ρ o = callFunc g (toArr args) := by rw [← hargs]; simp [execOp, ho, resolve, hc, hx, Deferred.ofValue, invoke]
  rw [hex, hrun]
  exact h
theorem run_escape (v : Value) (w : World) : (callFunc 183 (toArr [v])).run Tryz.prog w = .ok (.value v) w := by
  rw [run_callFunc_extern Tryz.func183 (by kernel_rfl) (by kernel_rfl) (by kernel_rfl) (e := Extern.AbiNoEscape.same) (by kernel_rfl), show toArr [v] = #[v] from rfl, Lib.run_noEscape]
  rfl
theorem shape_own {i b : Nat} {cs : List Value} {t : TypeId} {f : Nat × Nat} (hL : Ev.Loc m0 S w0 m L w) (hi : Ev.look L i = some (b, .cells (toArr cs) t f)) : w.shape? b = some (t, cs.length) := by
  rw [look_eq] at hi
  have hm := hL.own _ (List.mem_of_getElem? hi)
  unfold World.shape?
  simp only at hm
  rw [hm]; simp [toArr]
theorem UGenReq.ptrNeSame {o : Oper} {ρ : Operand → Value} {t yt e : Nat} {x y : Operand} {a : Addr} {j : TypeInfo} {K : Value → Prop} (ho : o.op = .binOp .neq t x y yt) (hx : ρ x = .pointer (some a)) (hy : ρ y = .pointer (some a))
    (hu : Tryz.prog.underlying t = some (.pointer e)) (hj : Tryz.prog.info? e = some j) (h : K (.bool false)) : UGenReq Tryz.prog o ρ K := by
  have hex : execOp ρ o = (do pure (.value (← (do eqGuard .neq t x y (.pointer (some a)) (.pointer (some a)); binOp .neq t (.pointer (some a)) (.pointer (some a)) : Sem Value)))) := by simp only [execOp, ho, hx, hy]
  have hg : eqGuard .neq t x y (.pointer (some a)) (.pointer (some a)) = pure () := by simp [eqGuard]
  refine ⟨UOk.of_run _ hex (fun w => ?_) h⟩
  rw [hg]
  have := Lib.run_neq_ptr_same (w := w) a hu hj
  simp only [Sem.run_bind, Sem.run_pure, Result.andThen_ok]
  exact this
end
set_option maxRecDepth 10000 in
theorem copyCheck_fn (m : Mem) (b : Nat) (p : Option Addr) (v : Value) (hp : p = none ∨ p = some ⟨b, 0, none⟩) :
    Ev.Fn Tryz.prog 154 [.pointer (some ⟨b, 0, none⟩)] m [(b, bdO p v)] fun m' L' u => u = .tuple (toArr []) ∧ m' = m ∧ L' = [(b, bdO (some ⟨b, 0, none⟩) v)] := by
  obtain ⟨j, hj, hjs⟩ := Option.map_eq_some_iff.1 (show (Tryz.prog.info? 193).map (·.size) = some 2 by kernel_rfl)
  rcases hp with rfl | rfl
  · refine Fn.enter (N := 20) hX Tryz.func154 rfl rfl (by show _ ≤ _; simp) (fun w0 hL => ?_)
    conv => whnf
    replace hL : Ev.Loc m [b] w0 m [(b, .cells (toArr [.pointer none, v]) 193 (0, 0))] w0 := hL
    conv => whnf
    repeat ((first | refine UGenReq.nilPtr hX rfl rfl rfl rfl rfl ?_ | (refine go1 ?_; try (clear hL; intro w hL))); conv => whnf)
    refine RunReq.mk (Lib.run_to_unsafe (w := w0) ⟨b, 0, none⟩ Tryz.underlying191 Tryz.underlying252 hj (by rw [hjs]; decide) (shape_own hL (i := 0) rfl) (by show (0 : Nat) < 2; omega)) ?_
    conv => whnf
    repeat ((first | refine GenReq.extern (v := .pointer (some ⟨b, 0, none⟩)) rfl rfl rfl rfl (fun w => run_escape _ w) ?_ | (refine go1 ?_; try (clear hL; intro w hL))); conv => whnf)
    refine RunReq.mk (Lib.run_from_unsafe (w := w0) ⟨b, 0, none⟩ Tryz.underlying252 Tryz.underlying191 hj (shape_own hL (i := 0) rfl) (by kernel_rfl)) ?_
    refine go ?_; try (clear hL; intro w hL)
    exact RetReq.mk hL ⟨rfl, rfl, rfl⟩
  · refine Fn.enter (N := 20) hX Tryz.func154 rfl rfl (by show _ ≤ _; simp) (fun w0 hL => ?_)
    conv => whnf
    replace hL : Ev.Loc m [b] w0 m [(b, .cells (toArr [.pointer (some ⟨b, 0, none⟩), v]) 193 (0, 0))] w0 := hL
    conv => whnf
    repeat ((first | refine UGenReq.nilPtr hX rfl rfl rfl rfl rfl ?_ | refine UGenReq.ptrNeSame rfl rfl rfl Tryz.underlying191 hj ?_ | (refine go1 ?_; try (clear hL; intro w hL))); conv => whnf)
    exact RetReq.mk hL ⟨rfl, rfl, rfl⟩
theorem strCells_bI (l : List UInt8) : Lib.strCells ⟨l.toArray⟩ = ints .u8 (bI l) := by
  unfold Lib.strCells ints bI
  rw [List.map_map]; rfl
section
variable {m0 m : Mem} {S : List Nat} {w0 w : World} {L1 L2 : Own}
theorem appendStr {ty : TypeId} {v : Value} {xs : List Value} {l : List UInt8} {K : Value → World → Prop} (hown : OwnS 5 1 v xs L1) (hL : Ev.Loc m0 S w0 m (L1 ++ L2) w) (hl : 0 < l.length) (hb : xs.length + l.length ≤ 1099511627776)
    (h : ∀ A n c L1' w', n = xs.length + l.length → OwnS 5 1 (.slice A n c) (xs ++ ints .u8 (bI l)) L1' → Ev.Loc m0 S w0 m (L1' ++ L2) w' → K (.slice A n c) w') :
    RunReq Tryz.prog (Builtin.append_ #[26, 9] ty (toArr [v, .string ⟨l.toArray⟩])) w K := by
  obtain ⟨i, hi, hz, hs1, hb1⟩ : ∃ i, Tryz.prog.info? 5 = some i ∧ i.zero = some (.int .u8 0) ∧ i.size = 1 ∧ i.bytes = 1 := by
    have g1 : (Tryz.prog.info? 5).bind (·.zero) = some (.int .u8 0) := by kernel_rfl
    have g2 : (Tryz.prog.info? 5).map (·.size) = some 1 := by kernel_rfl
    have g3 : (Tryz.prog.info? 5).map (·.bytes) = some 1 := by kernel_rfl
    cases hi : Tryz.prog.info? 5 with
    | none => rw [hi] at g2; cases g2
    | some i =>
      rw [hi] at g1 g2 g3
      exact ⟨i, rfl, g1, Option.some.inj g2, Option.some.inj g3⟩
  have hsz : (⟨l.toArray⟩ : ByteArray).size = l.length := by show l.toArray.size = _; simp
  have hsc := strCells_bI l
  have harg : toArr [v, .string ⟨l.toArray⟩] = #[v, .string ⟨l.toArray⟩] := rfl
  have hbl : (ints .u8 (bI l)).length = l.length := by simp [ints, bI_len]
  have hzc : ∀ n, (Builtin.zeroCells (Value.int .u8 0).cells n).toList.length = n := fun n => by
    rw [Array.length_toList, size_zeroCells]; show n * 1 = n; omega
  rw [harg]
  obtain ⟨n, hn, ⟨rfl, rfl, rfl⟩ | ⟨g, cap, cur, rfl, rfl, h1, h2, h3, h4⟩⟩ := hown
  · have hx : xs = [] := List.eq_nil_of_length_eq_zero (by omega)
    subst hx
    have hrun := run_append_nil_string (P := Tryz.prog) (w := w) 26 9 ty 5 i (.int .u8 0) Tryz.underlying26 Tryz.underlying9 hi hz ⟨l.toArray⟩ (by omega) (by rw [hsz]; simp at hb; omega) (by rw [hsz, hb1]; simp at hb; omega)
    have hge := grownCap_ge w l.length 0 5
    have hle := grownCap_le_maxLen w l.length 0 5 (by simp at hb; simp only [maxLen]; omega)
    rw [hsz] at hrun
    generalize grownCap w l.length 0 5 = gc at *
    have hcells : ((⟨l.toArray⟩ : ByteArray).data.map (fun b => Value.int .u8 b.toNat) ++ Builtin.zeroCells (Value.int .u8 0).cells (gc - l.length)) = toArr (ints .u8 (bI l) ++ (Builtin.zeroCells (Value.int .u8 0).cells (gc - l.length)).toList) := by
      apply Array.ext'
      rw [Array.toList_append, Array.toList_map]
      simp only [toArr, ints, bI, List.map_map]
      rfl
    refine ⟨_, _, hrun, ?_⟩
    rw [hcells]
    refine h (some ⟨w.heap.size, 0, none⟩) l.length gc [(w.heap.size, _)] _ (by simp) ⟨l.length, by simp [hbl], .inr ⟨w.heap.size, gc, _, rfl, rfl, hge, hle, ?_, ?_⟩⟩ (hL.drew.alloc _)
    · rw [List.length_append, hzc, hbl]; omega
    · rw [Nat.mul_one, List.nil_append, List.take_append_of_le_length (by omega), List.take_of_length_le (by omega)]
  · have hxn : xs.length = n := by omega
    have hg := hL.own (g, .cells (toArr cur) 5 (0, 0)) (by simp)
    have hold : ∀ j u, (cur.take n)[j]? = some u → w.cell? ((⟨g, 0, none⟩ : Addr).add j) = some u := by
      intro j u hu
      rw [addr_add, Nat.zero_add, hL.ownCell (b := g) (i := j) (c := toArr cur) (t := 5) (f := (0, 0)) (by simp)]
      rw [List.getElem?_take] at hu
      split at hu
      · simpa [toArr] using hu
      · cases hu
    rw [Nat.mul_one] at h4
    by_cases hroom : n + l.length ≤ cap
    · have hrun := Lib.run_append_room_string (P := Tryz.prog) w 26 9 ty 5 i Tryz.underlying26 Tryz.underlying9 hi hs1 g n cap (toArr cur) hg ⟨l.toArray⟩ (by rw [hsz]; exact hroom) (by rw [hsz]; simp [toArr]; omega)
      rw [hsz, hsc] at hrun
      have hcur : (toArr cur).toList = cur := by simp [toArr]
      rw [hcur] at hrun
      refine ⟨_, _, hrun, ?_⟩
      have hset := setRow_heap w g (toArr cur) (cur.take n ++ ints .u8 (bI l) ++ cur.drop (n + l.length)).toArray 5 (0, 0) hg
      refine h (some ⟨g, 0, none⟩) (n + l.length) cap [(g, .cells (toArr (cur.take n ++ ints .u8 (bI l) ++ cur.drop (n + l.length))) 5 (0, 0))] _ (by omega) ⟨n + l.length, by rw [List.length_append, hbl]; omega, .inr ⟨g, cap, _, rfl, rfl, hroom, h2, ?_, ?_⟩⟩
        (Loc.step (L1 := [(g, .cells (toArr cur) 5 (0, 0))]) hL rfl rfl rfl (by simp [World.setRow]) (fun k hk hne => ?_) (fun x hx => ?_) (by simp [keys]) (fun b hb' => .inl hb'))
      · simp only [List.length_append, List.length_take, List.length_drop, hbl]; omega
      · rw [Nat.mul_one, List.take_append_of_le_length (by simp [hbl]; omega), List.take_of_length_le (by simp [hbl]; omega), h4]
      · simp only [keys, List.mem_singleton] at hne
        simp only [World.setRow, Array.getElem?_modify]
        rw [if_neg (fun e => hne e.symm)]
      · simp only [List.mem_singleton] at hx
        subst hx
        exact hset
    · have hrun := Lib.run_append_grow_string (P := Tryz.prog) w 26 9 ty 5 i (.int .u8 0) Tryz.underlying26 Tryz.underlying9 hi hz ⟨g, 0, none⟩ n cap (cur.take n) (by rw [hs1, List.length_take]; omega) hold ⟨l.toArray⟩ (by rw [hsz]; omega) (by rw [hsz]; omega)
        (by rw [hsz, hb1, Nat.mul_one]; exact Nat.le_trans (nextslicecap_le (by omega)) (by omega))
      have hge := grownCap_ge w (n + l.length) cap 5
      have hle := grownCap_le_maxLen w (n + l.length) cap 5 (by simp only [maxLen]; omega)
      rw [hsz, hsc] at hrun
      generalize grownCap w (n + l.length) cap 5 = gc at *
      have hcells : ((cur.take n).toArray ++ (ints .u8 (bI l)).toArray ++ Builtin.zeroCells (Value.int .u8 0).cells (gc - (n + l.length))) = toArr (cur.take n ++ ints .u8 (bI l) ++ (Builtin.zeroCells (Value.int .u8 0).cells (gc - (n + l.length))).toList) := by
        apply Array.ext'; simp [toArr]
      refine ⟨_, _, hrun, ?_⟩
      rw [hcells]
      have hl0 := hL.drew.alloc (.cells (toArr (cur.take n ++ ints .u8 (bI l) ++ (Builtin.zeroCells (Value.int .u8 0).cells (gc - (n + l.length))).toList)) 5)
      refine h (some ⟨w.heap.size, 0, none⟩) (n + l.length) gc [(w.heap.size, _)] _ (by omega) ⟨n + l.length, by rw [List.length_append, hbl]; omega, .inr ⟨w.heap.size, gc, _, rfl, rfl, hge, hle, ?_, ?_⟩⟩ (hl0.sublist (.cons_cons _ (.cons _ (List.Sublist.refl _))))
      · simp only [List.length_append, List.length_take, hzc, hbl]; omega
      · rw [Nat.mul_one, List.take_append_of_le_length (by simp [hbl]; omega), List.take_of_length_le (by simp [hbl]; omega), h4]
end
theorem appendStr0 {m0 m : Mem} {S : List Nat} {w0 w : World} {L1 L2 : Own} {ty : TypeId} {v : Value} {xs : List Value} {K : Value → World → Prop} (hown : OwnS 5 1 v xs L1) (hL : Ev.Loc m0 S w0 m (L1 ++ L2) w) (hx : xs ≠ [] ∨ v ≠ .slice none 0 0)
    (h : ∀ w', Ev.Loc m0 S w0 m (L1 ++ L2) w' → K v w') :
    RunReq Tryz.prog (Builtin.append_ #[26, 9] ty (toArr [v, .string ⟨([] : List UInt8).toArray⟩])) w K := by
  obtain ⟨i, hi, hz, hs1, hb1⟩ : ∃ i, Tryz.prog.info? 5 = some i ∧ i.zero = some (.int .u8 0) ∧ i.size = 1 ∧ i.bytes = 1 := by
    have g1 : (Tryz.prog.info? 5).bind (·.zero) = some (.int .u8 0) := by kernel_rfl
    have g2 : (Tryz.prog.info? 5).map (·.size) = some 1 := by kernel_rfl
    have g3 : (Tryz.prog.info? 5).map (·.bytes) = some 1 := by kernel_rfl
    cases hi : Tryz.prog.info? 5 with
    | none => rw [hi] at g2; cases g2
    | some i =>
      rw [hi] at g1 g2 g3
      exact ⟨i, rfl, g1, Option.some.inj g2, Option.some.inj g3⟩
  have hsz : (⟨([] : List UInt8).toArray⟩ : ByteArray).size = 0 := rfl
  have hsc := strCells_bI []
  have hbl : (ints .u8 (bI [])).length = 0 := rfl
  have harg : toArr [v, .string ⟨([] : List UInt8).toArray⟩] = #[v, .string ⟨([] : List UInt8).toArray⟩] := rfl
  rw [harg]
  obtain ⟨n, hn, ⟨rfl, rfl, rfl⟩ | ⟨g, cap, cur, rfl, rfl, h1, h2, h3, h4⟩⟩ := hown
  · exact hx.elim (fun h => absurd (List.eq_nil_of_length_eq_zero (by omega)) h) (fun h => absurd rfl h)
  · have hg := hL.own (g, .cells (toArr cur) 5 (0, 0)) (by simp)
    have hrun := Lib.run_append_room_string (P := Tryz.prog) w 26 9 ty 5 i Tryz.underlying26 Tryz.underlying9 hi hs1 g n cap (toArr cur) hg ⟨([] : List UInt8).toArray⟩ (by rw [hsz]; omega) (by rw [hsz]; simp [toArr]; omega)
    rw [hsz, hsc] at hrun
    have hcur : (toArr cur).toList = cur := by simp [toArr]
    rw [hcur] at hrun
    refine ⟨_, _, hrun, ?_⟩
    have hset := setRow_heap w g (toArr cur) (cur.take n ++ ints .u8 (bI []) ++ cur.drop (n + 0)).toArray 5 (0, 0) hg
    have hsame : (cur.take n ++ ints .u8 (bI []) ++ cur.drop (n + 0)).toArray = toArr cur := by
      show (cur.take n ++ [] ++ cur.drop n).toArray = _
      rw [List.append_nil, List.take_append_drop]; rfl
    refine h _ (Loc.step (L1 := [(g, .cells (toArr cur) 5 (0, 0))]) hL rfl rfl rfl (by simp [World.setRow]) (fun k hk hne => ?_) (fun x hx => ?_) (by simp [keys]) (fun b hb' => .inl hb'))
    · simp only [keys, List.mem_singleton] at hne
      simp only [World.setRow, Array.getElem?_modify]
      rw [if_neg (fun e => hne e.symm)]
    · simp only [List.mem_singleton] at hx
      subst hx
      show _ = some (Obj.cells (toArr cur) _ _)
      rw [← hsame]
      exact hset
def BldN (b : Nat) (l : List UInt8) (L : Own) : Prop := Bld b l L ∧ ∃ p v L1, L = (b, bdO p v) :: L1 ∧ v ≠ .slice none 0 0
theorem writeStringN_fn (m : Mem) (b : Nat) (l s : List UInt8) (L : Own) (h : Bld b l L) (hl : l.length + s.length ≤ 1000000000) (hls : l ≠ [] ∨ s ≠ [] ∨ ∃ p v L1, L = (b, bdO p v) :: L1 ∧ v ≠ .slice none 0 0) :
    Ev.Fn Tryz.prog 106 [.pointer (some ⟨b, 0, none⟩), .string ⟨s.toArray⟩] m L fun m' L' u => u = .tuple (toArr [.int .i64 s.length, .nilIface]) ∧ m' = m ∧ Bld b (l ++ s) L' := by
  obtain ⟨p, v, L1, rfl, hp, ho⟩ := h
  obtain ⟨A, n, cc, rfl, hn⟩ := ho.slice
  have hsz : (⟨s.toArray⟩ : ByteArray).size = s.length := by show s.toArray.size = _; simp
  refine Fn.enter (N := 19) hX Tryz.func106 rfl rfl (by show _ ≤ _; simp) (fun w0 hL => ?_)
  conv => whnf
  generalize keys ((b, bdO p (Value.slice A n cc)) :: L1) = S0 at hL ⊢
  refine go ?_; try (clear hL; intro w hL)
  refine CallReq.mk (L1 := [(b, bdO p (.slice A n cc))]) (L2 := L1) (copyCheck_fn m b p _ hp) hL ?_
  clear hL
  rintro u m1 L' w hL - ⟨rfl, rfl, rfl⟩
  replace hL : Ev.Loc m1 S0 w0 m1 ((b, .cells (toArr [.pointer (some ⟨b, 0, none⟩), .slice A n cc]) 193 (0, 0)) :: (L1 ++ [])) w := by rw [List.append_nil]; exact hL
  refine go ?_; try (clear hL; intro w hL)
  by_cases hs : s = []
  · subst hs
    refine appendStr0 ho (hL.perm List.perm_middle.symm) (hls.elim (fun h => .inl fun e => h (by simpa [ints, bI] using e)) fun h => h.elim (fun h => absurd rfl h) fun ⟨p', v', L', e, h⟩ => .inr fun e2 => h (by injection e with e3 e4; injection e3 with e5 e6; injection e6 with e7; have := congrArg (fun z : Array Value => z.toList) e7; simp [toArr] at this; rw [← this.2]; exact e2)) ?_
    clear hL
    intro w hL
    replace hL := hL.perm List.perm_middle
    refine go ?_; try (clear hL; intro w hL)
    rw [List.append_nil] at hL
    exact RetReq.mk hL ⟨by rw [← hsz]; rfl, rfl, _, _, L1, rfl, .inr rfl, by rw [List.append_nil]; exact ho⟩
  · refine appendStr ho (hL.perm List.perm_middle.symm) (List.length_pos_iff.2 hs) (by simp [ints, bI_len]; omega) ?_
    clear hL
    intro A2 n2 c2 L2 w hn2 ho2 hL
    rw [← ints_append, ← bI_append] at ho2
    replace hL := hL.perm List.perm_middle
    refine go ?_; try (clear hL; intro w hL)
    rw [List.append_nil] at hL
    exact RetReq.mk hL ⟨by rw [← hsz]; rfl, rfl, _, _, L2, rfl, .inr rfl, ho2⟩
section
variable {N : Nat} {m0 m : Mem} {S : List Nat} {w0 w : World} {L : Own}
theorem writeString_fn (m : Mem) (b : Nat) (l s : List UInt8) (L : Own) (h : Bld b l L) (hl : l.length + s.length ≤ 1000000000) (hls : l ≠ [] ∨ s ≠ []) :
    Ev.Fn Tryz.prog 106 [.pointer (some ⟨b, 0, none⟩), .string ⟨s.toArray⟩] m L fun m' L' u => u = .tuple (toArr [.int .i64 s.length, .nilIface]) ∧ m' = m ∧ Bld b (l ++ s) L' :=
  writeStringN_fn m b l s L h hl (hls.imp id .inl)
theorem GenReq.sliceData {o : Oper} {ρ : Operand → Value} {c : Call} {a : Option Addr} {n cap : Nat} {K : Value → World → Prop} (ho : o.op = .call c) (hc : c.callee = .builtin .unsafeSliceData) (ha : c.args.toList.map ρ = [.slice a n cap]) (hcap : a = none ∨ cap ≠ 0)
    (h : K (.pointer a) w) : GenReq Tryz.prog o ρ w K := by
  constructor
  unfold OpOk
  have hargs : c.args.map ρ = #[.slice a n cap] := by apply Array.ext'; rw [Array.toList_map, ha]
  have hex : execOp ρ o = (do pure (.value (← Builtin.unsafeSliceData_ c.argTypes o.type #[.slice a n cap]))) := by rw [← hargs]; simp [execOp, ho, resolve, hc, invoke, builtin]
  have hrun : (Builtin.unsafeSliceData_ c.argTypes o.type #[.slice a n cap]).run Tryz.prog w = .ok (.pointer a) w := by
    cases a with
    | none => exact Lib.run_unsafeSliceData_nil w _ _ _ _
    | some a => exact Lib.run_unsafeSliceData_row w _ _ _ _ _ (hcap.elim (fun e => by cases e) id)
  rw [hex]
  simp only [Sem.run_bind, hrun, Result.andThen_ok, Sem.run_pure, upon]
  exact h
theorem loc_freeze {g n : Nat} {o : Obj} (hL : Ev.Loc m0 S w0 m ((g, o) :: L) w) (hn : n ≠ 0) : Ev.Loc m0 S w0 m L (w.freeze ⟨g, 0, none⟩ n) := by
  refine Loc.step (L1 := [(g, o)]) (L1' := []) hL (by unfold World.freeze; rw [if_neg hn]) (by unfold World.freeze; rw [if_neg hn]) (by unfold World.freeze; rw [if_neg hn]) ?_ (fun k hk hne => ?_) (fun x hx => by simp at hx) (by simp [keys]) (fun b hb => by simp [keys] at hb)
  · unfold World.freeze; rw [if_neg hn]; simp
  · simp only [keys, List.mem_singleton] at hne
    unfold World.freeze
    rw [if_neg hn]
    simp only [Array.getElem?_modify]
    rw [if_neg (fun e => hne e.symm)]
theorem GenReq.string {o : Oper} {ρ : Operand → Value} {c : Call} {g n : Nat} {l : List UInt8} {cur : List Value} {K : Value → World → Prop} (ho : o.op = .call c) (hc : c.callee = .builtin .unsafeString) (ht : c.argTypes = #[232, 3]) (ha : c.args.toList.map ρ = [.pointer (some ⟨g, 0, none⟩), .int .i64 n])
    (hL : Ev.Loc m0 S w0 m ((g, .cells (toArr cur) 5 (0, 0)) :: L) w) (hn : n = l.length) (h0 : l ≠ []) (hcl : n ≤ cur.length) (hmax : n ≤ maxLen) (hcur : cur.take n = ints .u8 (bI l))
    (h : ∀ w', Ev.Loc m0 S w0 m L w' → K (.string ⟨l.toArray⟩) w') : GenReq Tryz.prog o ρ w K := by
  subst hn
  constructor
  unfold OpOk
  have hargs : c.args.map ρ = #[.pointer (some ⟨g, 0, none⟩), .int .i64 l.length] := by apply Array.ext'; rw [Array.toList_map, ha]
  have hex : execOp ρ o = (do pure (.value (← Builtin.unsafeString_ #[232, 3] o.type #[.pointer (some ⟨g, 0, none⟩), .int .i64 l.length]))) := by rw [← hargs, ← ht]; simp [execOp, ho, resolve, hc, invoke, builtin]
  have hrun := Lib.run_unsafeString_row (P := Tryz.prog) w 232 3 o.type 5 Tryz.underlying232 (by kernel_rfl) g cur.length (shape_own hL (i := 0) rfl) l h0 hcl (by simp only [maxLen] at hmax; omega) (fun j x hx => by
    rw [addr_add, Nat.zero_add, hL.ownCell (b := g) (i := j) (c := toArr cur) (t := 5) (f := (0, 0)) (by simp)]
    have hj := (List.getElem?_eq_some_iff.1 hx).1
    have : (cur.take l.length)[j]? = some (.int .u8 x.toNat) := by
      rw [hcur]; simp [ints, bI, hx]
    rw [List.getElem?_take_of_lt hj] at this
    simpa [toArr] using this)
  rw [hex]
  simp only [Sem.run_bind, hrun, Result.andThen_ok, Sem.run_pure, upon]
  exact h _ (loc_freeze hL (by have := List.length_pos_iff.2 h0; omega))
theorem GenReq.string0 {o : Oper} {ρ : Operand → Value} {c : Call} {K : Value → World → Prop} (ho : o.op = .call c) (hc : c.callee = .builtin .unsafeString) (ht : c.argTypes = #[232, 3]) (ha : c.args.toList.map ρ = [.pointer none, .int .i64 0])
    (h : K (.string ⟨([] : List UInt8).toArray⟩) w) : GenReq Tryz.prog o ρ w K := by
  constructor
  unfold OpOk
  have hargs : c.args.map ρ = #[.pointer none, .int .i64 0] := by apply Array.ext'; rw [Array.toList_map, ha]
  have hex : execOp ρ o = (do pure (.value (← Builtin.unsafeString_ #[232, 3] o.type #[.pointer none, .int .i64 0]))) := by rw [← hargs, ← ht]; simp [execOp, ho, resolve, hc, invoke, builtin]
  have hrun := Lib.run_unsafeString_none (P := Tryz.prog) w 232 3 o.type none
  rw [hex]
  simp only [Sem.run_bind, hrun, Result.andThen_ok, Sem.run_pure, upon]
  exact h
end
theorem string_fn (m : Mem) (b : Nat) (l : List UInt8) (L : Own) (h : Bld b l L) (h0 : l ≠ []) :
    Ev.Fn Tryz.prog 109 [.pointer (some ⟨b, 0, none⟩)] m L fun m' L' u => u = .string ⟨l.toArray⟩ ∧ m' = m ∧ L' = [] := by
  obtain ⟨p, v, L1, rfl, hp, ho⟩ := h
  have hlp := List.length_pos_iff.2 h0
  obtain ⟨n, hn, ⟨rfl, rfl, _⟩ | ⟨g, cap, cur, rfl, rfl, h1, h2, h3, h4⟩⟩ := ho
  · simp [ints, bI_len] at hn; exact absurd hn h0
  have hnl : n = l.length := by simp [ints, bI_len] at hn; exact hn.symm
  refine Fn.enter (N := 14) hX Tryz.func109 rfl rfl (by show _ ≤ _; simp) (fun w0 hL => ?_)
  conv => whnf
  generalize keys ((b, bdO p (Value.slice (some ⟨g, 0, none⟩) n cap)) :: [(g, Obj.cells (toArr cur) 5 (0, 0))]) = S0 at hL ⊢
  replace hL : Ev.Loc m S0 w0 m [(b, .cells (toArr [.pointer p, .slice (some ⟨g, 0, none⟩) n cap]) 193 (0, 0)), (g, .cells (toArr cur) 5 (0, 0))] w0 := hL
  refine DrawReq.plan hX (.fst 0 (.fst 1 (.fst 2 (.fst 3 (.fst 5 (.fst 6 (.fst 7 (.fst 8 (.fst 9 (.alt 4 (.alt 10 (.fst 11 (.done)) (.stop)) (.stop))))))))))) [(b, .cells (toArr [.pointer p, .slice (some ⟨g, 0, none⟩) n cap]) 193 (0, 0))] (by kernel_rfl) (by kernel_rfl) hL (fun h => h.one 0 rfl) ?_
  clear hL
  intro w hL
  refine goq ?_; try (clear hL; intro w hL)
  refine GenReq.sliceData rfl rfl rfl (.inr (by omega)) ?_
  conv => whnf
  repeat ((first | refine SReq.mk (hL.one 0 rfl) ?_ | (refine goq1 ?_; try (clear hL; intro w hL))); conv => whnf)
  refine GenReq.string rfl rfl rfl rfl (hL.perm (List.Perm.swap _ _ _)) hnl h0 (by omega) (by omega) (by rw [Nat.mul_one] at h4; exact h4) ?_
  clear hL
  intro w hL
  conv => whnf
  repeat ((first | refine SReq.mk hL ?_ | (refine goq1 ?_; try (clear hL; intro w hL))); conv => whnf)
  exact RetReq.mk hL.drop ⟨rfl, rfl, rfl⟩
section
variable {N : Nat} {m0 m : Mem} {S : List Nat} {w0 w : World} {L : Own}
theorem GenReq.cap {o : Oper} {ρ : Operand → Value} {c : Call} {a : Option Addr} {n cap : Nat} {K : Value → World → Prop} (ho : o.op = .call c) (hc : c.callee = .builtin .cap) (ht : c.argTypes = #[26]) (ha : c.args.toList.map ρ = [.slice a n cap])
    (h : K (.int .i64 cap) w) : GenReq Tryz.prog o ρ w K := by
  constructor
  unfold OpOk
  have hargs : c.args.map ρ = #[.slice a n cap] := by apply Array.ext'; rw [Array.toList_map, ha]
  have hex : execOp ρ o = (do pure (.value (← Builtin.cap_ #[26] o.type #[.slice a n cap]))) := by rw [← hargs, ← ht]; simp [execOp, ho, resolve, hc, invoke, builtin]
  have hrun : (Builtin.cap_ #[26] o.type #[.slice a n cap]).run Tryz.prog w = .ok (.int .i64 cap) w := by
    simp [Builtin.cap_, run_underlying Tryz.underlying26]; rfl
  rw [hex]
  simp only [Sem.run_bind, hrun, Result.andThen_ok, Sem.run_pure, upon]
  exact h
theorem GenReq.makeNoZero {o : Oper} {ρ : Operand → Value} {c : Call} {x : Operand} (n : Nat) {z : Int} {K : Value → World → Prop} (ho : o.op = .call c) (hc : c.callee = .value x) (hx : ρ x = .func (.func 185) #[] #[]) (ha : c.args.toList.map ρ = [.int .i64 z])
    (hz : z = n) (hn : n ≤ 1000000000000) (hL : Ev.Loc m0 S w0 m L w) (h : ∀ g cur w', n ≤ cur.length → cur.length ≤ maxLen → Ev.Loc m0 S w0 m ((g, .cells (toArr cur) 5 (0, 0)) :: L) w' → K (.slice (some ⟨g, 0, none⟩) n cur.length) w') : GenReq Tryz.prog o ρ w K := by
  subst hz
  constructor
  unfold OpOk
  have hargs : c.args.map ρ = #[.int .i64 n] := by apply Array.ext'; rw [Array.toList_map, ha]
  have hex : execOp ρ o = callFunc 185 #[.int .i64 n] := by rw [← hargs]; simp [execOp, ho, resolve, hc, hx, Deferred.ofValue, invoke]
  obtain ⟨cs, hrun, hle, hmax⟩ := Lib.run_makeNoZero (P := Tryz.prog) w #[3] 26 5 Tryz.underlying26 n (by omega)
  rw [hex, run_callFunc_extern Tryz.func185 (by kernel_rfl) (by kernel_rfl) (by kernel_rfl) (e := Extern.BytealgMakeNoZero.makeNoZero #[3] #[26]) (by kernel_rfl), hrun]
  have hcs : cs = toArr cs.toList := by simp [toArr]
  have hl := (hL.drew.drew).alloc (.cells cs 5)
  have := h w.heap.size cs.toList (w.drew.drew.alloc (.cells cs 5)) (by simpa using hle) (by simpa using hmax (by simp only [maxLen]; omega)) (by rw [← hcs]; exact hl)
  simp only [Result.andThen_ok, upon]
  simpa using this
end
theorem grow1_fn (m : Mem) (b n : Nat) (h0 : 0 < n) (hn : n ≤ 1000000000) :
    Ev.Fn Tryz.prog 156 [.pointer (some ⟨b, 0, none⟩), .int .i64 n] m [(b, bdO (some ⟨b, 0, none⟩) (.slice none 0 0))] fun m' L' u => u = .tuple (toArr []) ∧ m' = m ∧ BldN b [] L' := by
  refine Fn.enter (N := 30) hX Tryz.func156 rfl rfl (by show _ ≤ _; simp) (fun w0 hL => ?_)
  conv => whnf
  generalize keys [(b, bdO (some ⟨b, 0, none⟩) (.slice none 0 0))] = S0 at hL ⊢
  replace hL : Ev.Loc m S0 w0 m [(b, .cells (toArr [.pointer (some ⟨b, 0, none⟩), .slice none 0 0]) 193 (0, 0))] w0 := hL
  refine DrawReq.plan hX (.fst 0 (.fst 1 (.fst 2 (.fst 3 (.fst 6 (.fst 9 (.fst 10 (.fst 11 (.fst 12 (.fst 13 (.alt 4 (.fst 5 (.fst 7 (.alt 8 (.fst 14 (.fst 15 (.done))) (.stop)))) (.stop)))))))))))) [(b, .cells (toArr [.pointer (some ⟨b, 0, none⟩), .slice none 0 0]) 193 (0, 0))] (by kernel_rfl) (by kernel_rfl) hL id ?_
  clear hL
  intro w hL
  refine goq ?_; try (clear hL; intro w hL)
  refine GenReq.cap rfl rfl rfl rfl ?_
  conv => whnf
  repeat ((first | refine SReq.mk hL ?_ | (refine ArReq.i64 (by simp; try omega) (by simp; try omega) ?_) | (refine goq1 ?_; try (clear hL; intro w hL))); conv => whnf)
  refine GenReq.makeNoZero n rfl rfl rfl rfl (by omega) (by omega) hL ?_
  clear hL
  intro g cur w hcl hcm hL
  conv => whnf
  repeat ((first | refine SReq.mk (hL.one 1 rfl) ?_ | refine SlReq.mk 0 0 rfl rfl (by omega) (by omega) ?_ | (refine goq1 ?_; try (clear hL; intro w hL))); conv => whnf)
  have he : (if cur.length = 0 then some (⟨g, 0, none⟩ : Addr) else Option.map (fun x : Addr => x.add (scale 0 1)) (some (⟨g, 0, none⟩ : Addr))) = some ⟨g, 0, none⟩ := by split <;> rfl
  refine RunReq.mk (run_copy_none w 26 26 3 5 _ _ _ _ _ _ Tryz.underlying26 (by kernel_rfl) rfl) ?_
  conv => whnf
  repeat ((first | (refine StReq.own hX rfl 1 hL rfl rfl rfl rfl ?_; clear hL; intro w hL) | (refine go1 ?_; try (clear hL; intro w hL))); conv => whnf)
  replace hL : Ev.Loc m S0 w0 m [(g, .cells (toArr cur) 5 (0, 0)), (b, .cells (toArr [.pointer (some ⟨b, 0, none⟩), .slice (if cur.length = 0 then some (⟨g, 0, none⟩ : Addr) else Option.map (fun x : Addr => x.add (scale 0 1)) (some (⟨g, 0, none⟩ : Addr))) 0 cur.length]) 193 (0, 0))] w := hL
  rw [he] at hL
  exact RetReq.mk (hL.perm (List.Perm.swap _ _ _)) ⟨rfl, rfl, ⟨_, _, _, rfl, .inr rfl, OwnS.block (n := 0) (Nat.zero_le _) hcm (Nat.mul_one _).symm⟩, _, _, _, rfl, fun h => by cases h⟩
theorem grow_fn (m : Mem) (b n : Nat) (p : Option Addr) (hp : p = none ∨ p = some ⟨b, 0, none⟩) (h0 : 0 < n) (hn : n ≤ 1000000000) :
    Ev.Fn Tryz.prog 110 [.pointer (some ⟨b, 0, none⟩), .int .i64 n] m [(b, bdO p (.slice none 0 0))] fun m' L' u => u = .tuple (toArr []) ∧ m' = m ∧ BldN b [] L' := by
  refine Fn.enter (N := 25) hX Tryz.func110 rfl rfl (by show _ ≤ _; simp) (fun w0 hL => ?_)
  conv => whnf
  generalize keys [(b, bdO p (.slice none 0 0))] = S0 at hL ⊢
  refine go ?_; try (clear hL; intro w hL)
  refine CallReq.mk (L1 := [(b, bdO p (.slice none 0 0))]) (L2 := []) (copyCheck_fn m b p _ hp) hL ?_
  clear hL
  rintro u m1 L' w hL - ⟨rfl, rfl, rfl⟩
  replace hL : Ev.Loc m1 S0 w0 m1 [(b, .cells (toArr [.pointer (some ⟨b, 0, none⟩), .slice none 0 0]) 193 (0, 0))] w := hL
  refine go ?_; try (clear hL; intro w hL)
  refine DrawReq.plan hX (.fst 0 (.fst 1 (.fst 2 (.fst 3 (.fst 5 (.fst 6 (.fst 7 (.fst 8 (.fst 9 (.fst 11 (.alt 4 (.fst 10 (.fst 12 (.done))) (.stop)))))))))))) [(b, .cells (toArr [.pointer (some ⟨b, 0, none⟩), .slice none 0 0]) 193 (0, 0))] (by kernel_rfl) (by kernel_rfl) hL id ?_
  clear hL
  intro w hL
  refine goq ?_; try (clear hL; intro w hL)
  refine GenReq.cap rfl rfl rfl rfl ?_
  conv => whnf
  repeat ((first | refine SReq.mk hL ?_ | (refine goq1 ?_; try (clear hL; intro w hL))); conv => whnf)
  refine BrReq.dec (fun _ => ?_) (fun h => absurd (show ((0 : Nat) : Int) - ((0 : Nat) : Int) < n by omega) h)
  refine go ?_; try (clear hL; intro w hL)
  refine CallReq.mk (L1 := [(b, .cells (toArr [.pointer (some ⟨b, 0, none⟩), .slice none 0 0]) 193 (0, 0))]) (L2 := []) (grow1_fn m1 b n h0 hn) hL ?_
  clear hL
  rintro u m2 L' w hL - ⟨rfl, rfl, hb⟩
  refine go ?_; try (clear hL; intro w hL)
  rw [List.append_nil] at hL
  exact RetReq.mk hL ⟨rfl, rfl, hb⟩
theorem callWS {m0 m : Mem} {S : List Nat} {w0 w : World} {b : Nat} {l s : List UInt8} {L : Own} {K : Value → World → Prop} (h : Bld b l L) (hl : l.length + s.length ≤ 1000000000) (hls : l ≠ [] ∨ s ≠ []) (hL : Ev.Loc m0 S w0 m L w)
    (k : ∀ L' w', Bld b (l ++ s) L' → Ev.Loc m0 S w0 m L' w' → K (.tuple (toArr [.int .i64 s.length, .nilIface])) w') : CallReq Tryz.prog 106 (toArr [.pointer (some ⟨b, 0, none⟩), .string ⟨s.toArray⟩]) w K :=
  CallReq.mk (L1 := L) (L2 := []) (writeString_fn m b l s L h hl hls) (by rw [List.append_nil]; exact hL) fun u m' L1' w' hl hle ⟨h1, h2, h3⟩ => by
    subst h1 h2
    rw [List.append_nil] at hl
    exact k L1' w' h3 hl
set_option maxHeartbeats 2000000 in
theorem callWSN {m0 m : Mem} {S : List Nat} {w0 w : World} {b : Nat} {l s : List UInt8} {L : Own} {K : Value → World → Prop} (h : Bld b l L) (hl : l.length + s.length ≤ 1000000000) (hls : l ≠ [] ∨ s ≠ [] ∨ ∃ p v L1, L = (b, bdO p v) :: L1 ∧ v ≠ .slice none 0 0) (hL : Ev.Loc m0 S w0 m L w)
    (k : ∀ L' w', Bld b (l ++ s) L' → Ev.Loc m0 S w0 m L' w' → K (.tuple (toArr [.int .i64 s.length, .nilIface])) w') : CallReq Tryz.prog 106 (toArr [.pointer (some ⟨b, 0, none⟩), .string ⟨s.toArray⟩]) w K :=
  CallReq.mk (L1 := L) (L2 := []) (writeStringN_fn m b l s L h hl hls) (by rw [List.append_nil]; exact hL) fun u m' L1' w' hl hle ⟨h1, h2, h3⟩ => by
    subst h1 h2
    rw [List.append_nil] at hl
    exact k L1' w' h3 hl
theorem join_fn (m : Mem) (v : Value) (l : List (List UInt8)) (sep : List UInt8) (hv : Sl m 1 isS v l) (hne : ∀ s ∈ l, s ≠ []) (hl : l.length ≤ 100000) (hs : sep.length ≤ 1) (ht : totL l ≤ 100000000) :
    FnV Tryz.prog 77 [v, .string (bs sep)] m (.string (bs (jn sep l))) := by
  have hmx : maxLen = 9223372036854775807 := rfl
  have hv' := hv
  obtain ⟨A, n, c, rfl, hn, hc, hm, -⟩ := hv
  have hsz : (bs sep).size = sep.length := bs_size sep
  refine Fn.enter (N := 75) hX Tryz.func77 rfl rfl (by show _ ≤ _; simp) (fun w0 hL => ?_)
  conv => whnf
  refine go ?_; try (clear hL; intro w hL)
  refine BrReq.dec (fun h0 => ?_) (fun h0 => ?_)
  · have e : l = [] := List.eq_nil_of_length_eq_zero (by omega)
    subst e
    refine go ?_; try (clear hL; intro w hL)
    exact RetReq.mk hL ⟨rfl, rfl⟩
  refine go ?_; try (clear hL; intro w hL)
  refine BrReq.dec (fun h1 => ?_) (fun h1 => ?_)
  · obtain ⟨a1, rfl, hx⟩ := Sl.one hv' (i := 0) (by omega)
    conv => whnf
    repeat ((first | refine Idx2Req.mk 0 a1 rfl (by omega) rfl ?_ | refine LdReq.one hX rfl rfl hL hx ?_ | (refine go1 ?_; try (clear hL; intro w hL))); conv => whnf)
    match l, hn with
    | [a], _ => exact RetReq.mk hL ⟨rfl, rfl⟩
    | [], hn => exact absurd hn (by simp; omega)
    | a :: b :: r, hn => exact absurd hn (by simp; omega)
  have hn2 : 2 ≤ n := by omega
  have hsep : sep.length * (n - 1) ≤ n - 1 := Nat.le_trans (Nat.mul_le_mul_right _ hs) (by omega)
  refine gos ?_; try (clear hL; intro w hL)
  refine SeqReq.cut hX (fun d : Nat => [(5, .int .i64 d)]) [0, 1] (fun d w => d = sep.length * (n - 1) ∧ Ev.Loc m [] w0 m [] w) ?_ ?_
  · refine gos ?_; try (clear hL; intro w hL)
    refine BrReq.dec (fun h2 => ?_) (fun h2 => ?_)
    · have hs1 : sep.length = 1 := by rw [hsz] at h2; omega
      have hs2 : (bs sep).size = 1 := by omega
      have hq : 2 ≤ 9223372036854775807 / (n - 1) := (Nat.le_div_iff_mul_le (by omega)).2 (by omega)
      conv => whnf
      repeat ((first | refine DivReq.i64 (a := 9223372036854775807) (k := n - 1) (by omega) (by omega) (by omega) ?_ | (refine go1 ?_; try (clear hL; intro w hL))); conv => whnf)
      refine BrReq.no (by rw [hs2]; omega) ?_
      conv => whnf
      repeat ((first | (refine ArReq.i64 (by rw [hs2]; omega) (by rw [hs2]; omega) ?_) | (refine go1 ?_; try (clear hL; intro w hL))); conv => whnf)
      refine ⟨(n - 1), ⟨by rw [hs1, Nat.one_mul], hL⟩, ?_, ?_⟩
      · repeat (first | exact trivial | (refine And.intro (by (conv => lhs; whnf) <;> (conv => rhs; whnf) <;> (first | rfl | ((rw [hs2]; exact congrArg (Value.int .i64) (by omega))))) ?_))
      · repeat (first | exact trivial | (refine And.intro (by (conv => lhs; whnf) <;> (conv => rhs; whnf) <;> (first | rfl | ((rw [hs2]; exact congrArg (Value.int .i64) (by omega))))) ?_))
    · have hs1 : sep.length = 0 := by rw [hsz] at h2; omega
      refine go ?_; try (clear hL; intro w hL)
      refine ⟨0, ⟨by rw [hs1, Nat.zero_mul], hL⟩, ?_, ?_⟩
      · repeat (first | exact trivial | (refine And.intro (by (conv => lhs; whnf) <;> (conv => rhs; whnf) <;> (first | rfl)) ?_))
      · repeat (first | exact trivial | (refine And.intro (by (conv => lhs; whnf) <;> (conv => rhs; whnf) <;> (first | rfl)) ?_))
  clear hL
  rintro d w f ⟨hd, hL⟩
  refine go ?_; try (clear hL; intro w hL)
  refine LoopReq.inv hX (fun s : Nat × Nat => [(5, .int .i64 s.1), (41, .int .i64 s.2)]) [0, 1, 39, 40]
    (fun s w => (s.2 ≤ n ∧ s.1 = d + totL (l.take s.2)) ∧ Ev.Loc m [] w0 m [] w) (fun s => n - s.2) (d, 0)
    ⟨⟨by omega, by simp [totL]⟩, hL⟩ ⟨rfl, rfl, trivial⟩ ?_
  clear hL
  rintro ⟨s, j⟩ w e ⟨⟨hj, hs3⟩, hL⟩
  simp only at hj hs3
  have htl := totL_le (l := l) j
  refine go ?_; try (clear hL; intro w hL)
  refine BrReq.dec (fun hlt => ?_) (fun hlt => ?_)
  · have hj1 : j < l.length := by simp only at hlt; omega
    obtain ⟨a1, rfl, hx⟩ := Sl.one hv' hj1
    have h1 := tot_one hj1
    have htk := totL_take hj1
    have hz1 := bs_size l[j]
    conv => whnf
    repeat ((first | (refine Idx2Req.mk j a1 rfl (by simp only at hlt; omega) rfl ?_) | refine LdReq.one hX rfl rfl hL hx ?_ | (refine ArReq.i64 (by simp only; omega) (by simp only; omega) ?_) | (refine go1 ?_; try (clear hL; intro w hL))); conv => whnf)
    refine BrReq.no (by simp only; omega) ?_
    conv => whnf
    repeat ((first | (refine ArReq.i64 (by simp only; omega) (by simp only; omega) ?_) | (refine go1 ?_; try (clear hL; intro w hL))); conv => whnf)
    refine ⟨(s + l[j].length, j + 1), ⟨⟨by simp only at hlt ⊢; omega, by simp only; omega⟩, hL⟩, by first | omega | (simp only; omega) | (simp only [List.length_cons, List.length_append]; omega), ?_, ?_⟩
    · repeat (first | exact trivial | (refine And.intro (by (conv => lhs; whnf) <;> (conv => rhs; whnf) <;> (first | rfl | ((rw [hz1]; exact congrArg (Value.int .i64) (by simp only; omega))))) ?_))
    · repeat (first | exact trivial | (refine And.intro (by (conv => lhs; whnf) <;> (conv => rhs; whnf) <;> (first | rfl | ((rw [hz1]; exact congrArg (Value.int .i64) (by simp only; omega))))) ?_))
  have ej : j = l.length := by simp only at hlt; omega
  subst ej
  rw [List.take_length] at hs3
  have hl0 : 0 < l.length := by omega
  have hne0 := hne _ (List.getElem_mem hl0)
  have ht0 := tot_one hl0
  have hp0 := List.length_pos_iff.2 hne0
  obtain ⟨a1, ea1, hx0⟩ := Sl.one hv' hl0
  refine go ?_; try (clear hL; intro w hL)
  refine NewReq.mk hL ?_
  clear hL
  intro b8 w hL
  conv => whnf
  refine go ?_; try (clear hL; intro w hL)
  refine CallReq.mk (L1 := [(b8, bdO none (.slice none 0 0))]) (L2 := []) (grow_fn m b8 s none (.inl rfl) (by omega) (by omega)) hL ?_
  clear hL
  rintro u m2 L w hL - ⟨rfl, rfl, hB, hBn⟩
  rw [List.append_nil] at hL
  conv => whnf
  repeat ((first | refine Idx2Req.mk 0 a1 rfl (by omega) ea1 ?_ | refine LdReq.one hX rfl rfl hL hx0 ?_ | (refine go1 ?_; try (clear hL; intro w hL))); conv => whnf)
  refine callWS hB (by simp; omega) (.inr hne0) hL ?_
  clear hL hB
  intro L w hB hL
  rw [List.nil_append] at hB
  have hsub := hv'.sub (lo := 1) (hi := n) (by omega) (Nat.le_refl _)
  rw [hn, List.take_length] at hsub
  conv => whnf
  repeat ((first | refine SlReq.mk 1 n rfl rfl (by omega) (by omega) ?_ | (refine go1 ?_; try (clear hL; intro w hL))); conv => whnf)
  have hdl : (l.drop 1).length = n - 1 := by rw [List.length_drop]; omega
  have hjl := jnT_len sep (l.drop 1)
  have htd : l[0].length + totL (l.drop 1) = totL l := by
    cases l with
    | nil => exact absurd hl0 (by simp)
    | cons a r => simp [totL]
  rw [hdl] at hjl
  have hcut : l = l[0] :: l.drop 1 := by
    cases l with
    | nil => exact absurd hl0 (by simp)
    | cons a r => rfl
  generalize l[0] = s0 at hB hne0 hp0 htd hcut
  generalize l.drop 1 = l1 at hsub hdl hjl htd hcut
  have hjm : ∀ j, (jnT sep (l1.take j)).length ≤ (jnT sep l1).length := fun j => by
    rw [jnT_len, jnT_len]
    have h1 := totL_le (l := l1) j
    have h2 : (l1.take j).length * sep.length ≤ l1.length * sep.length := Nat.mul_le_mul_right _ (by rw [List.length_take]; omega)
    omega
  have hcm : (n - 1) * sep.length ≤ n - 1 := by rw [Nat.mul_comm]; exact hsep
  refine LoopReq.inv hX (fun j : Nat => [(65, .int .i64 j)]) [1, 8, 63, 64]
    (fun j w => j ≤ n - 1 ∧ ∃ L, Bld b8 (s0 ++ jnT sep (l1.take j)) L ∧ Ev.Loc m2 [] w0 m2 L w) (fun j => n - 1 - j) 0
    ⟨by omega, L, by simpa [jnT] using hB, hL⟩ ⟨rfl, trivial⟩ ?_
  clear hL hB
  rintro j w e2 ⟨hj, L, hB, hL⟩
  have hjj := hjm j
  refine go ?_; try (clear hL; intro w hL)
  refine BrReq.dec (fun hlt => ?_) (fun hlt => ?_)
  · have hj1 : j < l1.length := by omega
    obtain ⟨a2, ea2, hx⟩ := Sl.one hsub hj1
    have htk := jnT_take sep hj1
    have hj2 := hjm (j + 1)
    have hlk : (jnT sep (l1.take (j + 1))).length = (jnT sep (l1.take j)).length + sep.length + l1[j].length := by rw [htk, List.length_append, List.length_append]
    conv => whnf
    repeat ((first | refine Idx2Req.mk j a2 rfl (by omega) ea2 ?_ | refine LdReq.one hX rfl rfl hL hx ?_ | (refine go1 ?_; try (clear hL; intro w hL))); conv => whnf)
    refine callWS hB (by rw [List.length_append]; omega) (.inl (by simp [hne0])) hL ?_
    clear hL hB
    intro L w hB hL
    refine go ?_; try (clear hL; intro w hL)
    refine callWS hB (by rw [List.length_append, List.length_append]; omega) (.inl (by simp [hne0])) hL ?_
    clear hL hB
    intro L w hB hL
    rw [List.append_assoc, List.append_assoc, ← List.append_assoc (jnT _ _), ← htk] at hB
    refine go ?_; try (clear hL; intro w hL)
    refine ⟨j + 1, ⟨by omega, L, hB, hL⟩, by first | omega | (simp only; omega) | (simp only [List.length_cons, List.length_append]; omega), ?_, ?_⟩
    · repeat (first | exact trivial | (refine And.intro (by (conv => lhs; whnf) <;> (conv => rhs; whnf) <;> (first | rfl)) ?_))
    · repeat (first | exact trivial | (refine And.intro (by (conv => lhs; whnf) <;> (conv => rhs; whnf) <;> (first | rfl)) ?_))
  · have ej : j = l1.length := by omega
    rw [ej, List.take_length] at hB
    refine go ?_; try (clear hL; intro w hL)
    refine CallReq.mk (L1 := L) (L2 := []) (string_fn m2 b8 _ L hB (by simp [hne0])) (by rw [List.append_nil]; exact hL) ?_
    clear hL
    rintro u m3 L' w hL - ⟨rfl, rfl, rfl⟩
    refine go ?_; try (clear hL; intro w hL)
    exact RetReq.mk hL ⟨rfl, by rw [hcut, jn_cons]; rfl⟩
set_option maxHeartbeats 1000000 in
theorem join1_fn (m : Mem) (v : Value) (l : List (List UInt8)) (sep : List UInt8) (hv : Sl m 1 isS v l) (hl : l.length ≤ 100000) (hs1' : sep.length = 1) (ht : totL l ≤ 990000000) :
    FnV Tryz.prog 77 [v, .string (bs sep)] m (.string (bs (jn sep l))) := by
  have hmx : maxLen = 9223372036854775807 := rfl
  have hs : sep.length ≤ 1 := by omega
  have hsne : sep ≠ [] := fun e => by rw [e] at hs1'; simp at hs1'
  have hv' := hv
  obtain ⟨A, n, c, rfl, hn, hc, hm, -⟩ := hv
  have hsz : (bs sep).size = sep.length := bs_size sep
  refine Fn.enter (N := 75) hX Tryz.func77 rfl rfl (by show _ ≤ _; simp) (fun w0 hL => ?_)
  conv => whnf
  refine go ?_; try (clear hL; intro w hL)
  refine BrReq.dec (fun h0 => ?_) (fun h0 => ?_)
  · have e : l = [] := List.eq_nil_of_length_eq_zero (by omega)
    subst e
    refine go ?_; try (clear hL; intro w hL)
    exact RetReq.mk hL ⟨rfl, rfl⟩
  refine go ?_; try (clear hL; intro w hL)
  refine BrReq.dec (fun h1 => ?_) (fun h1 => ?_)
  · obtain ⟨a1, rfl, hx⟩ := Sl.one hv' (i := 0) (by omega)
    conv => whnf
    repeat ((first | refine Idx2Req.mk 0 a1 rfl (by omega) rfl ?_ | refine LdReq.one hX rfl rfl hL hx ?_ | (refine go1 ?_; try (clear hL; intro w hL))); conv => whnf)
    match l, hn with
    | [a], _ => exact RetReq.mk hL ⟨rfl, rfl⟩
    | [], hn => exact absurd hn (by simp; omega)
    | a :: b :: r, hn => exact absurd hn (by simp; omega)
  have hn2 : 2 ≤ n := by omega
  have hsep : sep.length * (n - 1) ≤ n - 1 := Nat.le_trans (Nat.mul_le_mul_right _ hs) (by omega)
  refine gos ?_; try (clear hL; intro w hL)
  refine SeqReq.cut hX (fun d : Nat => [(5, .int .i64 d)]) [0, 1] (fun d w => d = sep.length * (n - 1) ∧ Ev.Loc m [] w0 m [] w) ?_ ?_
  · refine gos ?_; try (clear hL; intro w hL)
    refine BrReq.dec (fun h2 => ?_) (fun h2 => ?_)
    · have hs1 : sep.length = 1 := by rw [hsz] at h2; omega
      have hs2 : (bs sep).size = 1 := by omega
      have hq : 2 ≤ 9223372036854775807 / (n - 1) := (Nat.le_div_iff_mul_le (by omega)).2 (by omega)
      conv => whnf
      repeat ((first | refine DivReq.i64 (a := 9223372036854775807) (k := n - 1) (by omega) (by omega) (by omega) ?_ | (refine go1 ?_; try (clear hL; intro w hL))); conv => whnf)
      refine BrReq.no (by rw [hs2]; omega) ?_
      conv => whnf
      repeat ((first | (refine ArReq.i64 (by rw [hs2]; omega) (by rw [hs2]; omega) ?_) | (refine go1 ?_; try (clear hL; intro w hL))); conv => whnf)
      refine ⟨(n - 1), ⟨by rw [hs1, Nat.one_mul], hL⟩, ?_, ?_⟩
      · repeat (first | exact trivial | (refine And.intro (by (conv => lhs; whnf) <;> (conv => rhs; whnf) <;> (first | rfl | ((rw [hs2]; exact congrArg (Value.int .i64) (by omega))))) ?_))
      · repeat (first | exact trivial | (refine And.intro (by (conv => lhs; whnf) <;> (conv => rhs; whnf) <;> (first | rfl | ((rw [hs2]; exact congrArg (Value.int .i64) (by omega))))) ?_))
    · have hs1 : sep.length = 0 := by rw [hsz] at h2; omega
      refine go ?_; try (clear hL; intro w hL)
      refine ⟨0, ⟨by rw [hs1, Nat.zero_mul], hL⟩, ?_, ?_⟩
      · repeat (first | exact trivial | (refine And.intro (by (conv => lhs; whnf) <;> (conv => rhs; whnf) <;> (first | rfl)) ?_))
      · repeat (first | exact trivial | (refine And.intro (by (conv => lhs; whnf) <;> (conv => rhs; whnf) <;> (first | rfl)) ?_))
  clear hL
  rintro d w f ⟨hd, hL⟩
  refine go ?_; try (clear hL; intro w hL)
  refine LoopReq.inv hX (fun s : Nat × Nat => [(5, .int .i64 s.1), (41, .int .i64 s.2)]) [0, 1, 39, 40]
    (fun s w => (s.2 ≤ n ∧ s.1 = d + totL (l.take s.2)) ∧ Ev.Loc m [] w0 m [] w) (fun s => n - s.2) (d, 0)
    ⟨⟨by omega, by simp [totL]⟩, hL⟩ ⟨rfl, rfl, trivial⟩ ?_
  clear hL
  rintro ⟨s, j⟩ w e ⟨⟨hj, hs3⟩, hL⟩
  simp only at hj hs3
  have htl := totL_le (l := l) j
  refine go ?_; try (clear hL; intro w hL)
  refine BrReq.dec (fun hlt => ?_) (fun hlt => ?_)
  · have hj1 : j < l.length := by simp only at hlt; omega
    obtain ⟨a1, rfl, hx⟩ := Sl.one hv' hj1
    have h1 := tot_one hj1
    have htk := totL_take hj1
    have hz1 := bs_size l[j]
    conv => whnf
    repeat ((first | (refine Idx2Req.mk j a1 rfl (by simp only at hlt; omega) rfl ?_) | refine LdReq.one hX rfl rfl hL hx ?_ | (refine ArReq.i64 (by simp only; omega) (by simp only; omega) ?_) | (refine go1 ?_; try (clear hL; intro w hL))); conv => whnf)
    refine BrReq.no (by simp only; omega) ?_
    conv => whnf
    repeat ((first | (refine ArReq.i64 (by simp only; omega) (by simp only; omega) ?_) | (refine go1 ?_; try (clear hL; intro w hL))); conv => whnf)
    refine ⟨(s + l[j].length, j + 1), ⟨⟨by simp only at hlt ⊢; omega, by simp only; omega⟩, hL⟩, by first | omega | (simp only; omega) | (simp only [List.length_cons, List.length_append]; omega), ?_, ?_⟩
    · repeat (first | exact trivial | (refine And.intro (by (conv => lhs; whnf) <;> (conv => rhs; whnf) <;> (first | rfl | ((rw [hz1]; exact congrArg (Value.int .i64) (by simp only; omega))))) ?_))
    · repeat (first | exact trivial | (refine And.intro (by (conv => lhs; whnf) <;> (conv => rhs; whnf) <;> (first | rfl | ((rw [hz1]; exact congrArg (Value.int .i64) (by simp only; omega))))) ?_))
  have ej : j = l.length := by simp only at hlt; omega
  subst ej
  rw [List.take_length] at hs3
  have hl0 : 0 < l.length := by omega
  have ht0 := tot_one hl0
  obtain ⟨a1, ea1, hx0⟩ := Sl.one hv' hl0
  have hd1 : 1 ≤ d := by rw [hd, hs1', Nat.one_mul]; omega
  refine go ?_; try (clear hL; intro w hL)
  refine NewReq.mk hL ?_
  clear hL
  intro b8 w hL
  conv => whnf
  refine go ?_; try (clear hL; intro w hL)
  refine CallReq.mk (L1 := [(b8, bdO none (.slice none 0 0))]) (L2 := []) (grow_fn m b8 s none (.inl rfl) (by omega) (by omega)) hL ?_
  clear hL
  rintro u m2 L w hL - ⟨rfl, rfl, hB, hBn⟩
  rw [List.append_nil] at hL
  conv => whnf
  repeat ((first | refine Idx2Req.mk 0 a1 rfl (by omega) ea1 ?_ | refine LdReq.one hX rfl rfl hL hx0 ?_ | (refine go1 ?_; try (clear hL; intro w hL))); conv => whnf)
  refine callWSN hB (by simp; omega) (.inr (.inr hBn)) hL ?_
  clear hL hB
  intro L w hB hL
  rw [List.nil_append] at hB
  have hsub := hv'.sub (lo := 1) (hi := n) (by omega) (Nat.le_refl _)
  rw [hn, List.take_length] at hsub
  conv => whnf
  repeat ((first | refine SlReq.mk 1 n rfl rfl (by omega) (by omega) ?_ | (refine go1 ?_; try (clear hL; intro w hL))); conv => whnf)
  have hdl : (l.drop 1).length = n - 1 := by rw [List.length_drop]; omega
  have hjl := jnT_len sep (l.drop 1)
  have htd : l[0].length + totL (l.drop 1) = totL l := by
    cases l with
    | nil => exact absurd hl0 (by simp)
    | cons a r => simp [totL]
  rw [hdl] at hjl
  have hcut : l = l[0] :: l.drop 1 := by
    cases l with
    | nil => exact absurd hl0 (by simp)
    | cons a r => rfl
  generalize l[0] = s0 at hB htd hcut
  generalize l.drop 1 = l1 at hsub hdl hjl htd hcut
  have hjm : ∀ j, (jnT sep (l1.take j)).length ≤ (jnT sep l1).length := fun j => by
    rw [jnT_len, jnT_len]
    have h1 := totL_le (l := l1) j
    have h2 : (l1.take j).length * sep.length ≤ l1.length * sep.length := Nat.mul_le_mul_right _ (by rw [List.length_take]; omega)
    omega
  have hcm : (n - 1) * sep.length ≤ n - 1 := by rw [Nat.mul_comm]; exact hsep
  refine LoopReq.inv hX (fun j : Nat => [(65, .int .i64 j)]) [1, 8, 63, 64]
    (fun j w => j ≤ n - 1 ∧ ∃ L, Bld b8 (s0 ++ jnT sep (l1.take j)) L ∧ Ev.Loc m2 [] w0 m2 L w) (fun j => n - 1 - j) 0
    ⟨by omega, L, by simpa [jnT] using hB, hL⟩ ⟨rfl, trivial⟩ ?_
  clear hL hB
  rintro j w e2 ⟨hj, L, hB, hL⟩
  have hjj := hjm j
  refine go ?_; try (clear hL; intro w hL)
  refine BrReq.dec (fun hlt => ?_) (fun hlt => ?_)
  · have hj1 : j < l1.length := by omega
    obtain ⟨a2, ea2, hx⟩ := Sl.one hsub hj1
    have htk := jnT_take sep hj1
    have hj2 := hjm (j + 1)
    have hlk : (jnT sep (l1.take (j + 1))).length = (jnT sep (l1.take j)).length + sep.length + l1[j].length := by rw [htk, List.length_append, List.length_append]
    conv => whnf
    repeat ((first | refine Idx2Req.mk j a2 rfl (by omega) ea2 ?_ | refine LdReq.one hX rfl rfl hL hx ?_ | (refine go1 ?_; try (clear hL; intro w hL))); conv => whnf)
    refine callWS hB (by rw [List.length_append]; omega) (.inr hsne) hL ?_
    clear hL hB
    intro L w hB hL
    refine go ?_; try (clear hL; intro w hL)
    refine callWS hB (by rw [List.length_append, List.length_append]; omega) (.inl (by simp [hsne])) hL ?_
    clear hL hB
    intro L w hB hL
    rw [List.append_assoc, List.append_assoc, ← List.append_assoc (jnT _ _), ← htk] at hB
    refine go ?_; try (clear hL; intro w hL)
    refine ⟨j + 1, ⟨by omega, L, hB, hL⟩, by first | omega | (simp only; omega) | (simp only [List.length_cons, List.length_append]; omega), ?_, ?_⟩
    · repeat (first | exact trivial | (refine And.intro (by (conv => lhs; whnf) <;> (conv => rhs; whnf) <;> (first | rfl)) ?_))
    · repeat (first | exact trivial | (refine And.intro (by (conv => lhs; whnf) <;> (conv => rhs; whnf) <;> (first | rfl)) ?_))
  · have ej : j = l1.length := by omega
    rw [ej, List.take_length] at hB
    refine go ?_; try (clear hL; intro w hL)
    refine CallReq.mk (L1 := L) (L2 := []) (string_fn m2 b8 _ L hB (fun e => by have hj2 := hjl; rw [hs1', Nat.mul_one] at hj2; have := congrArg List.length e; rw [List.length_append, List.length_nil] at this; omega)) (by rw [List.append_nil]; exact hL) ?_
    clear hL
    rintro u m3 L' w hL - ⟨rfl, rfl, rfl⟩
    refine go ?_; try (clear hL; intro w hL)
    exact RetReq.mk hL ⟨rfl, by rw [hcut, jn_cons]; rfl⟩
end Go.Proofs.YtaooenndoopgdaaGreatDoor.bd
namespace Go.Proofs.YtaooenndoopgdaaGreatDoor.lz
open Go Go.Ev Go.Proofs
def isL (n : Nat) : Bool := decide ((97 ≤ n ∧ n ≤ 122) ∨ (65 ≤ n ∧ n ≤ 90))
def isD (n : Nat) : Bool := decide (48 ≤ n ∧ n ≤ 57)
def nmB (c : UInt8) : Bool := isL c.toNat || isD c.toNat || decide (c.toNat = 95)
def namedT (s : List UInt8) : Bool := s.all nmB && decide (s.length ≤ 20) && (match s with | [] => false | c :: _ => isL c.toNat)
theorem letter_fn (m : Mem) (n : Nat) (h : n < 256) : FnV Tryz.prog 59 [.int .u8 n] m (.bool (isL n)) := by
  refine Fn.enter (N := 17) hX Tryz.func59 rfl rfl (by show _ ≤ _; simp) (fun w0 hL => ?_)
  conv => whnf
  conv => whnf
  repeat' (first | ((first | refine zT ?_ | refine zF ?_ | refine zL hX hL ?_ | refine zB hX hL ?_ | (refine zS hX hL ?_; clear hL; intro w hL) | refine zI ?_ | refine zG hX ?_ | refine zO ?_); conv => whnf) | (refine BrReq.dec (fun _ => ?_) (fun _ => ?_) <;> (conv => whnf)) | (refine BrReq.not ?_; refine BrReq.dec (fun _ => ?_) (fun _ => ?_) <;> (conv => whnf)) | (refine BrReq.bool (fun _ => ?_) (fun _ => ?_) <;> (conv => whnf)))
  all_goals (refine RetReq.bool hL ?_; unfold isL; first | exact decide_eq_decide.2 (by omega) | exact (decide_eq_true (by omega)).symm | exact (decide_eq_false (by omega)).symm)
theorem digit_fn (m : Mem) (n : Nat) (h : n < 256) : FnV Tryz.prog 60 [.int .u8 n] m (.bool (isD n)) := by
  refine Fn.enter (N := 9) hX Tryz.func60 rfl rfl (by show _ ≤ _; simp) (fun w0 hL => ?_)
  conv => whnf
  conv => whnf
  repeat' (first | ((first | refine zT ?_ | refine zF ?_ | refine zL hX hL ?_ | refine zB hX hL ?_ | (refine zS hX hL ?_; clear hL; intro w hL) | refine zI ?_ | refine zG hX ?_ | refine zO ?_); conv => whnf) | (refine BrReq.dec (fun _ => ?_) (fun _ => ?_) <;> (conv => whnf)) | (refine BrReq.not ?_; refine BrReq.dec (fun _ => ?_) (fun _ => ?_) <;> (conv => whnf)) | (refine BrReq.bool (fun _ => ?_) (fun _ => ?_) <;> (conv => whnf)))
  all_goals (refine RetReq.bool hL ?_; unfold isD; first | exact decide_eq_decide.2 (by omega) | exact (decide_eq_true (by omega)).symm | exact (decide_eq_false (by omega)).symm)
theorem bs_get (l : List UInt8) (i : Nat) : (bs l).data[i]? = l[i]? := by simp
theorem named_fn (m : Mem) (s : List UInt8) (hl : s.length ≤ 1000000) : FnV Tryz.prog 35 [.string (bs s)] m (.bool (namedT s)) := by
  have hsz := bs_size s
  refine Fn.enter (N := 40) hX Tryz.func35 rfl rfl (by show _ ≤ _; simp) (fun w0 hL => ?_)
  conv => whnf
  refine go ?_; try (clear hL; intro w hL)
  refine LoopReq.inv hX (fun j : Nat => [(6, .int .i64 j)]) [0, 5]
    (fun j w => (j ≤ s.length ∧ (s.take j).all nmB = true) ∧ Ev.Loc m [] w0 m [] w) (fun j => s.length - j) 0
    ⟨⟨by omega, rfl⟩, hL⟩ ⟨rfl, trivial⟩ ?_
  clear hL
  rintro j w e ⟨⟨hj, hall⟩, hL⟩
  refine go ?_; try (clear hL; intro w hL)
  refine BrReq.dec (fun hlt => ?_) (fun hlt => ?_)
  · have hj1 : j < s.length := by omega
    have hc := (s[j]).toNat_lt
    have htk : (s.take (j + 1)).all nmB = nmB s[j] := by rw [List.take_succ_eq_append_getElem hj1, List.all_append, hall]; simp
    have hg : (bs s).data[j]? = some s[j] := by rw [bs_get, List.getElem?_eq_getElem hj1]
    have hno : nmB s[j] = false → namedT s = false := fun h => by
      unfold namedT
      have : s.all nmB = false := by
        rw [List.all_eq_false]
        exact ⟨s[j], List.getElem_mem hj1, by simp [h]⟩
      rw [this]; rfl
    have hnm : nmB s[j] = (isL (s[j]).toNat || isD (s[j]).toNat || decide ((s[j]).toNat = 95)) := rfl
    rw [hnm] at htk hno
    clear hnm
    generalize s[j] = c at hc htk hg hno
    have h1 := letter_fn m c.toNat hc
    have h2 := digit_fn m c.toNat hc
    conv => whnf
    repeat ((first | refine StrIdxReq.mk j c rfl hg ?_ | (refine go1 ?_; try (clear hL; intro w hL))); conv => whnf)
    refine CallReq.val h1 hL ?_
    clear hL
    intro w hL
    cases e1 : isL c.toNat with
    | true =>
      refine go ?_; try (clear hL; intro w hL)
      refine ⟨j + 1, ⟨⟨by omega, by rw [htk, e1]; rfl⟩, hL⟩, by first | omega | (simp only; omega) | (simp only [List.length_cons, List.length_append]; omega), ?_, ?_⟩
      · repeat (first | exact trivial | (refine And.intro (by (conv => lhs; whnf) <;> (conv => rhs; whnf) <;> (first | rfl)) ?_))
      · repeat (first | exact trivial | (refine And.intro (by (conv => lhs; whnf) <;> (conv => rhs; whnf) <;> (first | rfl)) ?_))
    | false =>
      conv => whnf
      repeat ((first | refine StrIdxReq.mk j c rfl hg ?_ | (refine go1 ?_; try (clear hL; intro w hL))); conv => whnf)
      refine CallReq.val h2 hL ?_
      clear hL
      intro w hL
      cases e2 : isD c.toNat with
      | true =>
        refine go ?_; try (clear hL; intro w hL)
        refine ⟨j + 1, ⟨⟨by omega, by rw [htk, e1, e2]; rfl⟩, hL⟩, by first | omega | (simp only; omega) | (simp only [List.length_cons, List.length_append]; omega), ?_, ?_⟩
        · repeat (first | exact trivial | (refine And.intro (by (conv => lhs; whnf) <;> (conv => rhs; whnf) <;> (first | rfl)) ?_))
        · repeat (first | exact trivial | (refine And.intro (by (conv => lhs; whnf) <;> (conv => rhs; whnf) <;> (first | rfl)) ?_))
      | false =>
        conv => whnf
        repeat ((first | refine StrIdxReq.mk j c rfl hg ?_ | (refine go1 ?_; try (clear hL; intro w hL))); conv => whnf)
        refine BrReq.dec (fun h95 => ?_) (fun h95 => ?_)
        · refine go ?_; try (clear hL; intro w hL)
          exact RetReq.bool hL (hno (by rw [e1, e2, decide_eq_false (by omega)]; rfl)).symm
        · refine go ?_; try (clear hL; intro w hL)
          refine ⟨j + 1, ⟨⟨by omega, by rw [htk, e1, e2, decide_eq_true (by omega)]; rfl⟩, hL⟩, by first | omega | (simp only; omega) | (simp only [List.length_cons, List.length_append]; omega), ?_, ?_⟩
          · repeat (first | exact trivial | (refine And.intro (by (conv => lhs; whnf) <;> (conv => rhs; whnf) <;> (first | rfl)) ?_))
          · repeat (first | exact trivial | (refine And.intro (by (conv => lhs; whnf) <;> (conv => rhs; whnf) <;> (first | rfl)) ?_))
  · have ej : j = s.length := by omega
    subst ej
    rw [List.take_length] at hall
    unfold namedT
    cases s with
    | nil =>
      conv => whnf
      repeat ((first | refine UGenReq.strNe rfl rfl rfl ?_ | (refine go1 ?_; try (clear hL; intro w hL))); conv => whnf)
      exact RetReq.bool hL (by simp)
    | cons c r =>
      have hc := c.toNat_lt
      have h1 := letter_fn m c.toNat hc
      have e0 : (bs (c :: r) == (⟨#[]⟩ : ByteArray)) = false := by rw [show (⟨#[]⟩ : ByteArray) = bs [] from rfl, bs_beq]; simp
      conv => whnf
      repeat ((first | refine UGenReq.strNe rfl rfl rfl ?_ | (refine go1 ?_; try (clear hL; intro w hL))); conv => whnf)
      rw [e0]
      refine go ?_; try (clear hL; intro w hL)
      refine BrReq.dec (fun h20 => ?_) (fun h20 => ?_)
      · conv => whnf
        repeat ((first | refine StrIdxReq.mk 0 c rfl rfl ?_ | (refine go1 ?_; try (clear hL; intro w hL))); conv => whnf)
        refine CallReq.val h1 hL ?_
        clear hL
        intro w hL
        refine go ?_; try (clear hL; intro w hL)
        refine RetReq.bool hL ?_
        rw [hall, decide_eq_true (by omega)]; rfl
      · refine go ?_; try (clear hL; intro w hL)
        refine RetReq.bool hL ?_
        rw [decide_eq_false (by omega)]; simp
end Go.Proofs.YtaooenndoopgdaaGreatDoor.lz
namespace Go.Proofs.YtaooenndoopgdaaGreatDoor.tree
open Go Go.Ev Go.Proofs
inductive Re where
  | mk (kind s0 s1 s2 s3 : Int) (parts : List Re) (lo hi : Int) (neg : Bool)
def Re.kind : Re → Int | .mk k _ _ _ _ _ _ _ _ => k
def Re.parts : Re → List Re | .mk _ _ _ _ _ p _ _ _ => p
def Re.lo : Re → Int | .mk _ _ _ _ _ _ l _ _ => l
def Re.hi : Re → Int | .mk _ _ _ _ _ _ _ h _ => h
def Re.neg : Re → Bool | .mk _ _ _ _ _ _ _ _ n => n
def reC (k s0 s1 s2 s3 : Int) (v : Value) (lo hi : Int) (neg : Bool) : List Value :=
  [.int .i64 k, .int .u64 s0, .int .u64 s1, .int .u64 s2, .int .u64 s3, v, .int .i64 lo, .int .i64 hi, .bool neg]
def inI (z : Int) : Prop := -9223372036854775808 ≤ z ∧ z ≤ 9223372036854775807
def inU (z : Int) : Prop := 0 ≤ z ∧ z ≤ 18446744073709551615
inductive RepRe (m : Mem) : List Value → Re → Prop
  | mk (k s0 s1 s2 s3 lo hi : Int) (neg : Bool) (A : Option Addr) (n c : Nat) (rs : List Re) (css : Nat → List Value)
      (hk : inI k) (h0 : inU s0) (h1 : inU s1) (h2 : inU s2) (h3 : inU s3) (hlo : inI lo) (hhi : inI hi)
      (hn : n = rs.length) (hc : n ≤ c) (hm : c ≤ maxLen)
      (hcell : ∀ i, i < n → ∃ a, A = some a ∧ (css i).length = 9 ∧ Cells m (a.add (scale i 9)) (css i))
      (hrep : ∀ i r, rs[i]? = some r → RepRe m (css i) r) :
      RepRe m (reC k s0 s1 s2 s3 (.slice A n c) lo hi neg) (.mk k s0 s1 s2 s3 rs lo hi neg)
theorem RepRe.len {m : Mem} {cs : List Value} {r : Re} (h : RepRe m cs r) : cs.length = 9 := by cases h; rfl
theorem RepRe.le {m m' : Mem} (hm : Mem.Le m m') {cs : List Value} {r : Re} (h : RepRe m cs r) : RepRe m' cs r := by
  induction h with
  | mk k s0 s1 s2 s3 lo hi neg A n c rs css hk h0 h1 h2 h3 hlo hhi hn hc hmx hcell _ ih =>
    exact .mk k s0 s1 s2 s3 lo hi neg A n c rs css hk h0 h1 h2 h3 hlo hhi hn hc hmx (fun i hi => by obtain ⟨a, g1, g2, g3⟩ := hcell i hi; exact ⟨a, g1, g2, g3.le hm⟩) ih
theorem RepRe.open {m : Mem} {cs : List Value} {k s0 s1 s2 s3 lo hi : Int} {neg : Bool} {rs : List Re} (h : RepRe m cs (.mk k s0 s1 s2 s3 rs lo hi neg)) :
    ∃ A n c, cs = reC k s0 s1 s2 s3 (.slice A n c) lo hi neg ∧ Sl m 9 (RepRe m) (.slice A n c) rs ∧ (inI k ∧ inU s0 ∧ inU s1 ∧ inU s2 ∧ inU s3 ∧ inI lo ∧ inI hi) := by
  cases h with
  | mk _ _ _ _ _ _ _ _ A n c _ css hk h0 h1 h2 h3 hlo hhi hn hc hmx hcell hrep =>
    refine ⟨A, n, c, rfl, ⟨A, n, c, rfl, hn, hc, hmx, fun i x hx => ?_⟩, hk, h0, h1, h2, h3, hlo, hhi⟩
    have hi : i < n := by rw [hn]; exact (List.getElem?_eq_some_iff.1 hx).1
    obtain ⟨a, g1, g2, g3⟩ := hcell i hi
    exact ⟨a, css i, g1, g2, g3, hrep i x hx⟩
theorem RepRe.form {m : Mem} {cs : List Value} {r : Re} (h : RepRe m cs r) : ∃ k s0 s1 s2 s3 A n c lo hi neg, cs = reC k s0 s1 s2 s3 (.slice A n c) lo hi neg := by
  cases h; exact ⟨_, _, _, _, _, _, _, _, _, _, _, rfl⟩
theorem RepRe.shut {m : Mem} {k s0 s1 s2 s3 lo hi : Int} {neg : Bool} {rs : List Re} {A : Option Addr} {n c : Nat} (h : Sl m 9 (RepRe m) (.slice A n c) rs)
    (hr : inI k ∧ inU s0 ∧ inU s1 ∧ inU s2 ∧ inU s3 ∧ inI lo ∧ inI hi) : RepRe m (reC k s0 s1 s2 s3 (.slice A n c) lo hi neg) (.mk k s0 s1 s2 s3 rs lo hi neg) := by
  obtain ⟨hn, hc, hmx⟩ := h.lens
  have he := h.elem
  obtain ⟨hk, h0, h1, h2, h3, hlo, hhi⟩ := hr
  have : ∃ css : Nat → List Value, ∀ i x, rs[i]? = some x → ∃ a, A = some a ∧ (css i).length = 9 ∧ Cells m (a.add (scale i 9)) (css i) ∧ RepRe m (css i) x := by
    refine ⟨fun i => if hi : i < rs.length then Classical.choose (Classical.choose_spec (he i rs[i] (List.getElem?_eq_getElem hi))) else [], fun i x hx => ?_⟩
    obtain ⟨hi, rfl⟩ := List.getElem?_eq_some_iff.1 hx
    have := Classical.choose_spec (Classical.choose_spec (he i rs[i] (List.getElem?_eq_getElem hi)))
    simp only [dif_pos hi]
    exact ⟨_, this⟩
  obtain ⟨css, hcss⟩ := this
  refine .mk k s0 s1 s2 s3 lo hi neg A n c rs css hk h0 h1 h2 h3 hlo hhi hn hc hmx (fun i hi => ?_) (fun i r hr => (hcss i r hr).choose_spec.2.2.2)
  obtain ⟨a, g1, g2, g3, _⟩ := hcss i _ (List.getElem?_eq_getElem (by omega))
  exact ⟨a, g1, g2, g3⟩
def deepR : Nat → Re → Nat
  | 0, _ => 1
  | k + 1, r => (r.parts.map (deepR k)).foldl max 0 + 1
theorem foldl_max_le {B : Nat} : ∀ (l : List Nat) (a : Nat), a ≤ B → (∀ x ∈ l, x ≤ B) → l.foldl max a ≤ B := by
  intro l
  induction l with
  | nil => intro a h _; exact h
  | cons x l ih => intro a h hx; exact ih _ (Nat.max_le.2 ⟨h, hx x (by simp)⟩) fun y hy => hx y (by simp [hy])
theorem deepR_le : ∀ (k : Nat) (r : Re), deepR k r ≤ k + 1 := by
  intro k
  induction k with
  | zero => intro r; simp [deepR]
  | succ k ih =>
    intro r
    simp only [deepR]
    have := foldl_max_le (B := k + 1) (r.parts.map (deepR k)) 0 (by omega) (by intro x hx; obtain ⟨p, _, rfl⟩ := List.mem_map.1 hx; exact ih p)
    omega
def maxTo (f : Re → Nat) (rs : List Re) (k : Nat) : Nat := ((rs.take k).map f).foldl max 0
theorem maxTo_succ (f : Re → Nat) (rs : List Re) (k : Nat) (h : k < rs.length) : maxTo f rs (k + 1) = max (maxTo f rs k) (f rs[k]) := by
  unfold maxTo
  rw [List.take_succ_eq_append_getElem h]
  simp only [List.map_append, List.foldl_append, List.map_cons, List.map_nil, List.foldl_cons, List.foldl_nil]
theorem maxTo_le {f : Re → Nat} {B : Nat} (rs : List Re) (k : Nat) (h : ∀ r, f r ≤ B) : maxTo f rs k ≤ B :=
  foldl_max_le _ _ (Nat.zero_le _) (by intro x hx; obtain ⟨p, _, rfl⟩ := List.mem_map.1 hx; exact h p)
theorem deep_fn : ∀ (k : Nat) (m : Mem) (r : Re) (cs : List Value), RepRe m cs r → k ≤ 1000 → FnV Tryz.prog 137 [.agg (toArr cs), .int .i64 k] m (.int .i64 (deepR k r : Nat)) := by
  intro k
  induction k with
  | zero =>
    intro m r cs h _
    obtain ⟨kd, s0, s1, s2, s3, rs, lo, hi, neg⟩ := r
    obtain ⟨A, n, c, rfl, hs, _⟩ := h.open
    refine Fn.enter (N := 26) hX Tryz.func137 rfl rfl (by show _ ≤ _; simp) (fun w0 hL => ?_)
    conv => whnf
    refine NewReq.mk hL ?_
    clear hL
    intro b2 w hL
    conv => whnf
    refine go ?_; try (clear hL; intro w hL)
    exact RetReq.mk hL.drop ⟨rfl, rfl⟩
  | succ k ih =>
    intro m r cs h hk
    obtain ⟨kd, s0, s1, s2, s3, rs, lo, hi, neg⟩ := r
    obtain ⟨A, n, c, rfl, hs, _⟩ := h.open
    obtain ⟨hn, hc, hm⟩ := hs.lens
    have hmx : maxLen = 9223372036854775807 := rfl
    have he := hs.elem
    refine Fn.enter (N := 26) hX Tryz.func137 rfl rfl (by show _ ≤ _; simp) (fun w0 hL => ?_)
    conv => whnf
    refine NewReq.mk hL ?_
    clear hL
    intro b2 w hL
    conv => whnf
    refine go ?_; try (clear hL; intro w hL)
    refine LoopReq.inv hX (fun j : Nat => [(5, .int .i64 (maxTo (deepR k) rs j : Nat)), (13, .int .i64 j)]) [1, 11, 12]
      (fun j w => j ≤ n ∧ Ev.Loc m [] w0 m [] w) (fun j => n - j) 0 ⟨by omega, hL.drop⟩ ⟨rfl, rfl, trivial⟩ ?_
    clear hL
    rintro j w f ⟨hj, hL⟩
    have hmax := maxTo_le (B := k + 1) rs j (deepR_le k)
    refine go ?_; try (clear hL; intro w hL)
    refine BrReq.dec (fun hlt => ?_) (fun hlt => ?_)
    · have hlt' : j < rs.length := by omega
      obtain ⟨a, cs', rfl, hl9, hcells, hrep⟩ := he j _ (List.getElem?_eq_getElem hlt')
      obtain ⟨k1, u0, u1, u2, u3, A1, n1, c1, lo1, hi1, neg1, rfl⟩ := hrep.form
      conv => whnf
      repeat ((first | refine Idx2Req.mk j a rfl (by omega) rfl ?_ | refine LdReq.agg hX rfl rfl hL hl9 hcells ?_ | (refine go1 ?_; try (clear hL; intro w hL))); conv => whnf)
      refine NewReq.mk hL ?_
      clear hL
      intro b7 w hL
      conv => whnf
      refine go ?_; try (clear hL; intro w hL)
      rw [show ((k + 1 : Nat) : Int) - 1 = (k : Int) by omega]
      refine CallReq.val (ih m _ _ hrep (by omega)) hL ?_
      clear hL
      intro w hL
      refine go ?_; try (clear hL; intro w hL)
      have hsc := maxTo_succ (deepR k) rs j hlt'
      refine ⟨j + 1, ⟨by omega, hL.drop⟩, by first | omega | (simp only; omega) | (simp only [List.length_cons, List.length_append]; omega), ?_, ?_⟩
      · repeat (first | exact trivial | (refine And.intro (by (conv => lhs; whnf) <;> (conv => rhs; whnf) <;> (first | rfl | (rw [hsc]; congr 1; omega))) ?_))
      · repeat (first | exact trivial | (refine And.intro (by (conv => lhs; whnf) <;> (conv => rhs; whnf) <;> (first | rfl | (rw [hsc]; congr 1; omega))) ?_))
    refine go ?_; try (clear hL; intro w hL)
    have hjn : j = rs.length := by omega
    subst hjn
    have e : deepR (k + 1) (.mk kd s0 s1 s2 s3 rs lo hi neg) = maxTo (deepR k) rs rs.length + 1 := by simp [maxTo, deepR, Re.parts]
    exact RetReq.mk hL ⟨rfl, by rw [e]; rfl⟩
def loopC (f : Re → Nat) : List Re → Nat → Nat
  | [], n => n
  | p :: l, n => if 2000 < n + f p then n + f p else loopC f l (n + f p)
def cR : Nat → Re → Nat
  | 0, _ => 5000
  | k + 1, r => loopC (cR k) r.parts 1
theorem loopC_ge (f : Re → Nat) : ∀ (l : List Re) (n : Nat), n ≤ loopC f l n := by
  intro l
  induction l with
  | nil => intro n; exact Nat.le_refl n
  | cons p l ih => intro n; simp only [loopC]; split; · omega
                   · have := ih (n + f p); omega
theorem cR_pos (k : Nat) (r : Re) : 1 ≤ cR k r := by
  cases k with
  | zero => simp [cR]
  | succ k => exact loopC_ge _ _ _
theorem loopC_small {f : Re → Nat} (hf : ∀ p, 1 ≤ f p) : ∀ (l : List Re) (n : Nat), loopC f l n ≤ 2000 → n + l.length ≤ 2000 ∧ ∀ p ∈ l, f p ≤ 2000 := by
  intro l
  induction l with
  | nil => intro n h; simpa [loopC] using h
  | cons p l ih =>
    intro n h
    simp only [loopC] at h
    have h1 := hf p
    split at h
    · omega
    · obtain ⟨h2, h3⟩ := ih _ h
      refine ⟨by simp; omega, fun q hq => ?_⟩
      rcases List.mem_cons.1 hq with rfl | hq
      · omega
      · exact h3 q hq
inductive Small : Re → Prop
  | mk (k s0 s1 s2 s3 : Int) (rs : List Re) (lo hi : Int) (neg : Bool) (h : rs.length ≤ 2000) (hp : ∀ p ∈ rs, Small p) : Small (.mk k s0 s1 s2 s3 rs lo hi neg)
theorem small_of : ∀ (k : Nat) (r : Re), cR k r ≤ 2000 → Small r := by
  intro k
  induction k with
  | zero => intro r h; simp [cR] at h
  | succ k ih =>
    intro r h
    obtain ⟨kd, s0, s1, s2, s3, rs, lo, hi, neg⟩ := r
    obtain ⟨h1, h2⟩ := loopC_small (cR_pos k) _ _ h
    exact .mk _ _ _ _ _ _ _ _ _ (by simp only [Re.parts] at h1; omega) fun p hp => ih p (h2 p hp)
def OwnRe (m : Mem) (L : Own) (u : Value) (r : Re) : Prop := match r with
  | .mk k s0 s1 s2 s3 rs lo hi neg => ∃ g blk, u = .agg (toArr (reC k s0 s1 s2 s3 (.slice (some ⟨g, 0, none⟩) rs.length rs.length) lo hi neg)) ∧ L = [(g, .cells (toArr (List.flatten blk)) 52 (0, 0))] ∧
      blk.length = rs.length ∧ (∀ r ∈ blk, r.length = 9) ∧ rs.length ≤ maxLen ∧ (∀ (i : Nat) (x : Re), rs[i]? = some x → ∃ cs, blk[i]? = some cs ∧ RepRe m cs x) ∧
      (inI k ∧ inU s0 ∧ inU s1 ∧ inU s2 ∧ inU s3 ∧ inI lo ∧ inI hi)
theorem OwnRe.freeze {m0 m : Mem} {S : List Nat} {w0 w : World} {L1 L2 : Own} {u : Value} {r : Re} (h : OwnRe m L1 u r) (hL : Ev.Loc m0 S w0 m (L1 ++ L2) w) :
    ∃ m' cs, Ev.Loc m0 S w0 m' L2 w ∧ Mem.Le m m' ∧ u = .agg (toArr cs) ∧ RepRe m' cs r := by
  obtain ⟨k, s0, s1, s2, s3, rs, lo, hi, neg⟩ := r
  obtain ⟨g, blk, rfl, rfl, h1, h2, h3, h4, h5⟩ := h
  obtain ⟨m', h6, h7, h8⟩ := rows_freeze (L := L2) (R := RepRe m) hL rfl (Nat.le_refl _) h3 h2 h4
  exact ⟨m', _, h6, h7, rfl, RepRe.shut (h8.le (Mem.Le.refl m') fun cs x _ hx => hx.le h7) h5⟩
set_option maxHeartbeats 1000000 in
theorem clone_fn' : ∀ (N : Nat) (m : Mem) (r : Re) (cs : List Value), SizeOf.sizeOf r ≤ N → RepRe m cs r → Small r → Ev.Fn Tryz.prog 140 [.agg (toArr cs)] m [] fun m' L' u => OwnRe m' L' u r := by
  intro N
  induction N with
  | zero => intro m r cs hN; obtain ⟨kd, s0, s1, s2, s3, rs, lo, hi, neg⟩ := r; simp at hN
  | succ N ih =>
    intro m r cs hN h hsm
    obtain ⟨kd, s0, s1, s2, s3, rs, lo, hi, neg⟩ := r
    obtain ⟨A, n, c, rfl, hs, hrng⟩ := h.open
    obtain ⟨hn, hc, hm⟩ := hs.lens
    have hmx : maxLen = 9223372036854775807 := rfl
    have he := hs.elem
    have hsub : rs.length ≤ 2000 ∧ ∀ p ∈ rs, Small p := by cases hsm; exact ⟨by assumption, by assumption⟩
    refine Fn.enter (N := 27) hX Tryz.func140 rfl rfl (by show _ ≤ _; simp) (fun w0 hL => ?_)
    conv => whnf
    refine NewReq.mk hL ?_
    clear hL
    intro b1 w hL
    conv => whnf
    refine NewReq.mk hL ?_
    clear hL
    intro b2 w hL
    conv => whnf
    refine go ?_; try (clear hL; intro w hL)
    refine RunReq.make hX rfl rfl rfl rfl n n rfl rfl (Nat.le_refl _) (by omega) rfl hL ?_
    clear hL
    intro g w hL
    rw [zeros_rows] at hL
    refine go ?_; try (clear hL; intro w hL)
    refine LoopReq.inv hX (fun j : Nat => [(13, .int .i64 j)]) [1, 2, 3, 11, 12]
      (fun j w => j ≤ n ∧ ∃ m1 blk, Mem.Le m m1 ∧ List.length blk = n ∧ (∀ r ∈ blk, r.length = 9) ∧ (∀ (i : Nat) (x : Re), rs[i]? = some x → i < j → ∃ cs, blk[i]? = some cs ∧ RepRe m1 cs x) ∧
        Ev.Loc m [] w0 m1 [(g, .cells (toArr (List.flatten blk)) 52 (0, 0)), (b2, .cells (toArr (reC 0 0 0 0 0 (.slice none 0 0) 0 0 false)) 52 (0, 0)), (b1, .cells (toArr (reC kd s0 s1 s2 s3 (.slice A n c) lo hi neg)) 52 (0, 0))] w) (fun j => n - j) 0
      ⟨by omega, m, _, Mem.Le.refl m, by simp, by intro r hr; rw [(List.mem_replicate.1 hr).2]; rfl, fun i x _ h => absurd h (by omega), hL⟩ ⟨rfl, trivial⟩ ?_
    clear hL
    rintro j w f ⟨hj, m1, blk, hm1, hbl, hrows, hdone, hL⟩
    refine go ?_; try (clear hL; intro w hL)
    refine BrReq.dec (fun hlt => ?_) (fun hlt => ?_)
    · have hlt' : j < rs.length := by omega
      obtain ⟨a, cs', rfl, hl9, hcells, hrep⟩ := he j _ (List.getElem?_eq_getElem hlt')
      obtain ⟨k1, u0, u1, u2, u3, A1, n1, c1, lo1, hi1, neg1, rfl⟩ := hrep.form
      have hsz : SizeOf.sizeOf rs[j] ≤ N := by
        have := List.sizeOf_lt_of_mem (List.getElem_mem hlt')
        simp at hN
        omega
      conv => whnf
      repeat ((first | refine Idx2Req.mk j a rfl (by omega) rfl ?_ | refine LdReq.agg hX rfl rfl hL hl9 (hcells.le hm1) ?_ | (refine go1 ?_; try (clear hL; intro w hL))); conv => whnf)
      refine NewReq.mk hL ?_
      clear hL
      intro b5 w hL
      conv => whnf
      refine go ?_; try (clear hL; intro w hL)
      refine CallReq.mk (L1 := []) (ih m1 rs[j] _ hsz (hrep.le hm1) (hsub.2 _ (List.getElem_mem hlt'))) hL ?_
      clear hL
      intro v m2 L1 w hL hm2 ho
      obtain ⟨m3, cs3, hL, hm3, rfl, hrep3⟩ := ho.freeze hL
      obtain ⟨k3, v0, v1, v2, v3, A3, n3, c3, lo3, hi3, neg3, rfl⟩ := hrep3.form
      conv => whnf
      repeat ((first | refine Idx2Req.mk j _ rfl (by omega) rfl ?_ | (refine go1 ?_; try (clear hL; intro w hL))); conv => whnf)
      refine rows_store hX rfl 1 hL rfl hrows (by omega) rfl rfl ?_
      clear hL
      intro w hL
      have hL : Ev.Loc m [] w0 m3 [_, _, _, _] w := hL
      have hrows' : ∀ r ∈ blk.set j (reC k3 v0 v1 v2 v3 (.slice A3 n3 c3) lo3 hi3 neg3), r.length = 9 := by
        intro r hr
        rcases List.mem_or_eq_of_mem_set hr with h | rfl
        · exact hrows _ h
        · rfl
      have hdone' : ∀ (i : Nat) (x : Re), rs[i]? = some x → i < j + 1 → ∃ cs, (blk.set j (reC k3 v0 v1 v2 v3 (.slice A3 n3 c3) lo3 hi3 neg3))[i]? = some cs ∧ RepRe m3 cs x := by
        intro i x hx hi
        by_cases e : i = j
        · subst e
          obtain ⟨_, rfl⟩ := List.getElem?_eq_some_iff.1 hx
          exact ⟨_, List.getElem?_set_self (by omega), hrep3⟩
        · obtain ⟨cs, g1, g2⟩ := hdone i x hx (by omega)
          exact ⟨cs, by rw [List.getElem?_set_ne (Ne.symm e)]; exact g1, g2.le (hm2.trans hm3)⟩
      refine go ?_; try (clear hL; intro w hL)
      refine ⟨j + 1, ⟨by omega, m3, _, hm1.trans (hm2.trans hm3), by rw [List.length_set]; exact hbl, hrows', hdone', hL.drop⟩, by first | omega | (simp only; omega) | (simp only [List.length_cons, List.length_append]; omega), ?_, ?_⟩
      · repeat (first | exact trivial | (refine And.intro (by (conv => lhs; whnf) <;> (conv => rhs; whnf) <;> (first | rfl)) ?_))
      · repeat (first | exact trivial | (refine And.intro (by (conv => lhs; whnf) <;> (conv => rhs; whnf) <;> (first | rfl)) ?_))
    refine go ?_; try (clear hL; intro w hL)
    subst hn
    have hjn : j = rs.length := by omega
    exact RetReq.mk (hL.one 0 rfl) ⟨g, blk, rfl, rfl, hbl, hrows, by omega, fun i x hx => hdone i x hx (by rw [hjn]; exact (List.getElem?_eq_some_iff.1 hx).1), hrng⟩
theorem clone_fn (m : Mem) (r : Re) (cs : List Value) (h : RepRe m cs r) (hs : Small r) : Ev.Fn Tryz.prog 140 [.agg (toArr cs)] m [] fun m' L' u => OwnRe m' L' u r :=
  clone_fn' _ m r cs (Nat.le_refl _) h hs
end Go.Proofs.YtaooenndoopgdaaGreatDoor.tree
namespace Go.Proofs.YtaooenndoopgdaaGreatDoor.tree
open Go Go.Ev Go.Proofs
def headEq : Re → Re → Bool
  | .mk k s0 s1 s2 s3 rs lo hi neg, .mk k' t0 t1 t2 t3 rs' lo' hi' neg' =>
    decide (k = k' ∧ (s0 = t0 ∧ s1 = t1 ∧ s2 = t2 ∧ s3 = t3) ∧ lo = lo' ∧ hi = hi' ∧ neg = neg' ∧ rs.length = rs'.length)
def sameR : Nat → Re → Re → Bool
  | 0, _, _ => false
  | k + 1, a, b => headEq a b && (List.zipWith (sameR k) a.parts b.parts).all id
theorem all_zip {f : Re → Re → Bool} : ∀ (l r : List Re), l.length = r.length → ((List.zipWith f l r).all id = true ↔ ∀ (i : Nat) (x y : Re), l[i]? = some x → r[i]? = some y → f x y = true) := by
  intro l
  induction l with
  | nil => intro r h; simp
  | cons a l ih =>
    intro r h
    cases r with
    | nil => simp at h
    | cons b r =>
      simp only [List.zipWith_cons_cons, List.all_cons, id_eq, Bool.and_eq_true]
      rw [ih r (by simpa using h)]
      constructor
      · rintro ⟨h1, h2⟩ i x y hx hy
        cases i with
        | zero => simp at hx hy; subst hx hy; exact h1
        | succ i => exact h2 i x y (by simpa using hx) (by simpa using hy)
      · intro h1
        exact ⟨h1 0 a b rfl rfl, fun i x y hx hy => h1 (i + 1) x y (by simpa using hx) (by simpa using hy)⟩
end Go.Proofs.YtaooenndoopgdaaGreatDoor.tree
