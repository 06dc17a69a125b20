/- LazyKeeps, proved: a lazy machine keeps no more than it may, makes nothing twice that it keeps, and forgets all at a flush. Conditions: none beyond the row its own.: part 4 of 13 of the proof. Conditions: none. -/
import Derived.Test.YtaooenndoopgdaaGreatDoorK1
import Derived.Test.YtaooenndoopgdaaGreatDoorK2
import Derived.Test.YtaooenndoopgdaaGreatDoorK3
import Derived.Lib.LaidTab
import Derived.Lib.Builder
import Derived.Lib.UnsafeStr
import Derived.Lib.AppendStr
import Derived.Laws.Externs
import Derived.Lib.ItoaLen
import Derived.Lib.MakeNoZero
import Derived.Laws.IdiomCopy
namespace Go.Proofs.YtaooenndoopgdaaGreatDoor.fk
open Go Go.Ev Go.Proofs
def TabMem (m : Mem) : Prop := ∃ g t f, Tryz.prog.globalNamed "internal/strconv.uint64pow10" = some g ∧ m g = some (.cells (Lib.pow10Tab.map fun z => Value.int .u64 z).toArray t f)
theorem TabMem.le {m m' : Mem} (h : Mem.Le m m') (k : TabMem m) : TabMem m' := by
 obtain ⟨g, t, f, h1, h2⟩ := k
 exact ⟨g, t, f, h1, h _ _ h2⟩
theorem itoa_fn (m : Mem) (hQ : TabMem m) (n : Int) (h0 : -9223372036854775808 ≤ n) (h1 : n ≤ 9223372036854775807) : FnV Tryz.prog 107 [.int .i64 n] m (.string ⟨(Lib.itoa n).toArray⟩) := by
 intro w hw
 obtain ⟨g, t, f, hg, hm⟩ := hQ
 have htab : Lib.TabIs Tryz.prog w "internal/strconv.uint64pow10" .u64 Lib.pow10Tab := by
  unfold Lib.TabIs World.var?
  rw [hg]
  simp only [Option.bind_some]
  rw [hw.sub g _ hm]
 refine (Tryz.strconv_Itoa n h0 h1 w htab).mono ?_
 rintro e w' ⟨rfl, k, os, rfl⟩
 have hold : ∀ b : Nat, b < w.heap.size → (Sort.grow (w.drewN k) os).heap[b]? = w.heap[b]? := fun b hb => by
  show (w.heap ++ os)[b]? = _
  rw [Array.getElem?_append_left hb]
 refine ⟨_, m, [], rfl, ⟨rfl, rfl, rfl, ?_, fun b hb _ => hold b hb, fun b o hb => ?_, fun _ _ _ => by simp [keys], fun x hx => by simp at hx, by simp [keys], fun b hb => by simp [keys] at hb, Mem.Le.refl m, fun b o hb => .inl hb⟩, rfl, rfl⟩
 ·show w.heap.size ≤ (w.heap ++ os).size
  simp
 ·have := hw.sub b o hb
  rw [hold b (heap_lt this)]; exact this
def bI (l : List UInt8) : List Int := l.map fun b => (b.toNat : Int)
theorem bI_append (a b : List UInt8) : bI (a ++ b) = bI a ++ bI b := by simp [bI]
theorem bI_len (l : List UInt8) : (bI l).length = l.length := by simp [bI]
def bdO (p : Option Addr) (v : Value) : Obj := .cells (toArr [.pointer p, v]) 193 (0, 0)
def Bld (b : Nat) (l : List UInt8) (L : Own) : Prop := ∃ p v L1, L = (b, bdO p v) :: L1 ∧ (p = none ∨ p = some ⟨b, 0, none⟩) ∧ OwnS 5 1 v (ints .u8 (bI l)) L1 ∧ (l = [] → v = .slice none 0 0 ∧ L1 = [])
section
variable {N : Nat} {m0 m : Mem} {S : List Nat} {w0 w : World} {L : Own}
theorem GenReq.extern {o : Oper} {ρ : Operand → Value} {c : Call} {x : Operand} {g : Nat} {v : Value} {args : List Value} {K : Value → World → Prop} (ho : o.op = .call c) (hc : c.callee = .value x) (hx : ρ x = .func (.func g) #[] #[]) (ha : c.args.toList.map ρ = args)
  (hrun : ∀ w, (callFunc g (toArr args)).run Tryz.prog w = .ok (.value v) w) (h : K v w) : GenReq Tryz.prog o ρ w K := by
 constructor
 unfold OpOk
 have hargs : c.args.map ρ = toArr args := by apply Array.ext'; rw [Array.toList_map, ha]; rfl
 have hex : execOp ρ o = callFunc g (toArr args) := by rw [← hargs]; simp [execOp, ho, resolve, hc, hx, Deferred.ofValue, invoke]
 rw [hex, hrun]
 exact h
theorem run_escape (v : Value) (w : World) : (callFunc 183 (toArr [v])).run Tryz.prog w = .ok (.value v) w := by
 rw [run_callFunc_extern Tryz.func183 (by kernel_rfl) (by kernel_rfl) (by kernel_rfl) (e := Extern.AbiNoEscape.same) (by kernel_rfl), show toArr [v] = #[v] from rfl, Lib.run_noEscape]
 rfl
theorem shape_own {i b : Nat} {cs : List Value} {t : TypeId} {f : Nat × Nat} (hL : Ev.Loc m0 S w0 m L w) (hi : Ev.look L i = some (b, .cells (toArr cs) t f)) : w.shape? b = some (t, cs.length) := by
 rw [look_eq] at hi
 have hm := hL.own _ (List.mem_of_getElem? hi)
 unfold World.shape?
 simp only at hm
 rw [hm]; simp [toArr]
theorem UGenReq.ptrNeSame {o : Oper} {ρ : Operand → Value} {t yt e : Nat} {x y : Operand} {a : Addr} {j : TypeInfo} {K : Value → Prop} (ho : o.op = .binOp .neq t x y yt) (hx : ρ x = .pointer (some a)) (hy : ρ y = .pointer (some a))
  (hu : Tryz.prog.underlying t = some (.pointer e)) (hj : Tryz.prog.info? e = some j) (h : K (.bool false)) : UGenReq Tryz.prog o ρ K := by
 have hex : execOp ρ o = (do pure (.value (← (do eqGuard .neq t x y (.pointer (some a)) (.pointer (some a)); binOp .neq t (.pointer (some a)) (.pointer (some a)) : Sem Value)))) := by simp only [execOp, ho, hx, hy]
 have hg : eqGuard .neq t x y (.pointer (some a)) (.pointer (some a)) = pure () := by simp [eqGuard]
 refine ⟨UOk.of_run _ hex (fun w => ?_) h⟩
 rw [hg]
 have := Lib.run_neq_ptr_same (w := w) a hu hj
 simp only [Sem.run_bind, Sem.run_pure, Result.andThen_ok]
 exact this
end
set_option maxRecDepth 10000 in
theorem copyCheck_fn (m : Mem) (b : Nat) (p : Option Addr) (v : Value) (hp : p = none ∨ p = some ⟨b, 0, none⟩) :
  Ev.Fn Tryz.prog 154 [.pointer (some ⟨b, 0, none⟩)] m [(b, bdO p v)] fun m' L' u => u = .tuple (toArr []) ∧ m' = m ∧ L' = [(b, bdO (some ⟨b, 0, none⟩) v)] := by
 obtain ⟨j, hj, hjs⟩ := Option.map_eq_some_iff.1 (show (Tryz.prog.info? 193).map (·.size) = some 2 by kernel_rfl)
 rcases hp with rfl | rfl
 ·refine Fn.enter (N := 20) hX Tryz.func154 rfl rfl (by show _ ≤ _; simp) (fun w0 hL => ?_)
  conv => whnf
  replace hL : Ev.Loc m [b] w0 m [(b, .cells (toArr [.pointer none, v]) 193 (0, 0))] w0 := hL
  conv => whnf
  repeat ((first | refine UGenReq.nilPtr hX rfl rfl rfl rfl rfl ?_ | (refine go1 ?_;try(clear hL;intro w hL))); conv => whnf)
  refine RunReq.mk (Lib.run_to_unsafe (w := w0) ⟨b, 0, none⟩ Tryz.underlying191 Tryz.underlying252 hj (by rw [hjs]; decide) (shape_own hL (i := 0) rfl) (by show (0 : Nat) < 2; omega)) ?_
  conv => whnf
  repeat ((first | refine GenReq.extern (v := .pointer (some ⟨b, 0, none⟩)) rfl rfl rfl rfl (fun w => run_escape _ w) ?_ | (refine go1 ?_;try(clear hL;intro w hL))); conv => whnf)
  refine RunReq.mk (Lib.run_from_unsafe (w := w0) ⟨b, 0, none⟩ Tryz.underlying252 Tryz.underlying191 hj (shape_own hL (i := 0) rfl) (by kernel_rfl)) ?_
  refine go ?_;try(clear hL;intro w hL)
  exact RetReq.mk hL ⟨rfl, rfl, rfl⟩
 ·refine Fn.enter (N := 20) hX Tryz.func154 rfl rfl (by show _ ≤ _; simp) (fun w0 hL => ?_)
  conv => whnf
  replace hL : Ev.Loc m [b] w0 m [(b, .cells (toArr [.pointer (some ⟨b, 0, none⟩), v]) 193 (0, 0))] w0 := hL
  conv => whnf
  repeat ((first | refine UGenReq.nilPtr hX rfl rfl rfl rfl rfl ?_ | refine UGenReq.ptrNeSame rfl rfl rfl Tryz.underlying191 hj ?_ | (refine go1 ?_;try(clear hL;intro w hL))); conv => whnf)
  exact RetReq.mk hL ⟨rfl, rfl, rfl⟩
theorem writeByte_fn (m : Mem) (b : Nat) (l : List UInt8) (c : UInt8) (L : Own) (h : Bld b l L) (hl : l.length ≤ 1000000000) :
  Ev.Fn Tryz.prog 108 [.pointer (some ⟨b, 0, none⟩), .int .u8 c.toNat] m L fun m' L' u => u = .nilIface ∧ m' = m ∧ Bld b (l ++ [c]) L' := by
 obtain ⟨p, v, L1, rfl, hp, ho, -⟩ := h
 obtain ⟨A, n, cc, rfl, hn⟩ := ho.slice
 refine Fn.enter (N := 17) hX Tryz.func108 rfl rfl (by show _ ≤ _; simp) (fun w0 hL => ?_)
 conv => whnf
 generalize keys ((b, bdO p (Value.slice A n cc)) :: L1) = S0 at hL ⊢
 refine go ?_;try(clear hL;intro w hL)
 refine CallReq.mk (L1 := [(b, bdO p (.slice A n cc))]) (L2 := L1) (copyCheck_fn m b p _ hp) hL ?_
 clear hL
 rintro u m1 L' w hL - ⟨rfl, rfl, rfl⟩
 replace hL : Ev.Loc m1 S0 w0 m1 ((b, .cells (toArr [.pointer (some ⟨b, 0, none⟩), .slice A n cc]) 193 (0, 0)) :: (L1 ++ [])) w := by rw [List.append_nil]; exact hL
 refine go ?_;try(clear hL;intro w hL)
 refine NewReq.mk hL ?_
 clear hL
 intro g w hL
 conv => whnf
 refine go ?_;try(clear hL;intro w hL)
 refine RunReq.push hX 26 5 rfl rfl rfl rfl rfl ho (hL.perm (List.Perm.cons _ List.perm_middle.symm)) rfl rfl (by simp [ints, bI_len]; omega) rfl ?_
 clear hL
 intro A2 n2 c2 L2 w hn2 ho2 hL
 replace ho2 : OwnS 5 1 (.slice A2 n2 c2) (ints .u8 (bI l) ++ ints .u8 (bI [c])) L2 := ho2
 rw [← ints_append, ← bI_append] at ho2
 replace hL := hL.perm List.perm_middle
 refine go ?_;try(clear hL;intro w hL)
 rw [List.append_nil] at hL
 exact RetReq.mk hL ⟨rfl, rfl, _, _, L2, rfl, .inr rfl, ho2, fun e => by simp at e⟩
theorem strCells_bI (l : List UInt8) : Lib.strCells ⟨l.toArray⟩ = ints .u8 (bI l) := by
 unfold Lib.strCells ints bI
 rw [List.map_map]; rfl
section
variable {m0 m : Mem} {S : List Nat} {w0 w : World} {L1 L2 : Own}
theorem appendStr {ty : TypeId} {v : Value} {xs : List Value} {l : List UInt8} {K : Value → World → Prop} (hown : OwnS 5 1 v xs L1) (hL : Ev.Loc m0 S w0 m (L1 ++ L2) w) (hl : 0 < l.length) (hb : xs.length + l.length ≤ 1099511627776)
  (h : ∀ A n c L1' w', n = xs.length + l.length → OwnS 5 1 (.slice A n c) (xs ++ ints .u8 (bI l)) L1' → Ev.Loc m0 S w0 m (L1' ++ L2) w' → K (.slice A n c) w') :
  RunReq Tryz.prog (Builtin.append_ #[26, 9] ty (toArr [v, .string ⟨l.toArray⟩])) w K := by
 obtain ⟨i, hi, hz, hs1, hb1⟩ : ∃ i, Tryz.prog.info? 5 = some i ∧ i.zero = some (.int .u8 0) ∧ i.size = 1 ∧ i.bytes = 1 := by
  have g1 : (Tryz.prog.info? 5).bind (·.zero) = some (.int .u8 0) := by kernel_rfl
  have g2 : (Tryz.prog.info? 5).map (·.size) = some 1 := by kernel_rfl
  have g3 : (Tryz.prog.info? 5).map (·.bytes) = some 1 := by kernel_rfl
  cases hi : Tryz.prog.info? 5 with
  | none => rw [hi] at g2; cases g2
  | some i =>
    rw [hi] at g1 g2 g3
    exact ⟨i, rfl, g1, Option.some.inj g2, Option.some.inj g3⟩
 have hsz : (⟨l.toArray⟩ : ByteArray).size = l.length := by show l.toArray.size = _; simp
 have hsc := strCells_bI l
 have harg : toArr [v, .string ⟨l.toArray⟩] = #[v, .string ⟨l.toArray⟩] := rfl
 have hbl : (ints .u8 (bI l)).length = l.length := by simp [ints, bI_len]
 have hzc : ∀ n, (Builtin.zeroCells (Value.int .u8 0).cells n).toList.length = n := fun n => by
  rw [Array.length_toList, size_zeroCells]; show n * 1 = n; omega
 rw [harg]
 obtain ⟨n, hn, ⟨rfl, rfl, rfl⟩ | ⟨g, cap, cur, rfl, rfl, h1, h2, h3, h4⟩⟩ := hown
 ·have hx : xs = [] := List.eq_nil_of_length_eq_zero (by omega)
  subst hx
  have hrun := run_append_nil_string (P := Tryz.prog) (w := w) 26 9 ty 5 i (.int .u8 0) Tryz.underlying26 Tryz.underlying9 hi hz ⟨l.toArray⟩ (by omega) (by rw [hsz]; simp at hb; omega) (by rw [hsz, hb1]; simp at hb; omega)
  have hge := grownCap_ge w l.length 0 5
  have hle := grownCap_le_maxLen w l.length 0 5 (by simp at hb; simp only [maxLen]; omega)
  rw [hsz] at hrun
  generalize grownCap w l.length 0 5 = gc at *
  have hcells : ((⟨l.toArray⟩ : ByteArray).data.map (fun b => Value.int .u8 b.toNat) ++ Builtin.zeroCells (Value.int .u8 0).cells (gc - l.length)) = toArr (ints .u8 (bI l) ++ (Builtin.zeroCells (Value.int .u8 0).cells (gc - l.length)).toList) := by
   apply Array.ext'
   rw [Array.toList_append, Array.toList_map]
   simp only [toArr, ints, bI, List.map_map]
   rfl
  refine ⟨_, _, hrun, ?_⟩
  rw [hcells]
  refine h (some ⟨w.heap.size, 0, none⟩) l.length gc [(w.heap.size, _)] _ (by simp) ⟨l.length, by simp [hbl], .inr ⟨w.heap.size, gc, _, rfl, rfl, hge, hle, ?_, ?_⟩⟩ (hL.drew.alloc _)
  ·rw [List.length_append, hzc, hbl]; omega
  ·rw [Nat.mul_one, List.nil_append, List.take_append_of_le_length (by omega), List.take_of_length_le (by omega)]
 ·have hxn : xs.length = n := by omega
  have hg := hL.own (g, .cells (toArr cur) 5 (0, 0)) (by simp)
  have hold : ∀ j u, (cur.take n)[j]? = some u → w.cell? ((⟨g, 0, none⟩ : Addr).add j) = some u := by
   intro j u hu
   rw [addr_add, Nat.zero_add, hL.ownCell (b := g) (i := j) (c := toArr cur) (t := 5) (f := (0, 0)) (by simp)]
   rw [List.getElem?_take] at hu
   split at hu
   ·simpa [toArr] using hu
   ·cases hu
  rw [Nat.mul_one] at h4
  by_cases hroom : n + l.length ≤ cap
  ·have hrun := Lib.run_append_room_string (P := Tryz.prog) w 26 9 ty 5 i Tryz.underlying26 Tryz.underlying9 hi hs1 g n cap (toArr cur) hg ⟨l.toArray⟩ (by rw [hsz]; exact hroom) (by rw [hsz]; simp [toArr]; omega)
   rw [hsz, hsc] at hrun
   have hcur : (toArr cur).toList = cur := by simp [toArr]
   rw [hcur] at hrun
   refine ⟨_, _, hrun, ?_⟩
   have hset := setRow_heap w g (toArr cur) (cur.take n ++ ints .u8 (bI l) ++ cur.drop (n + l.length)).toArray 5 (0, 0) hg
   refine h (some ⟨g, 0, none⟩) (n + l.length) cap [(g, .cells (toArr (cur.take n ++ ints .u8 (bI l) ++ cur.drop (n + l.length))) 5 (0, 0))] _ (by omega) ⟨n + l.length, by rw [List.length_append, hbl]; omega, .inr ⟨g, cap, _, rfl, rfl, hroom, h2, ?_, ?_⟩⟩
    (Loc.step (L1 := [(g, .cells (toArr cur) 5 (0, 0))]) hL rfl rfl rfl (by simp [World.setRow]) (fun k hk hne => ?_) (fun x hx => ?_) (by simp [keys]) (fun b hb' => .inl hb'))
   ·simp only [List.length_append, List.length_take, List.length_drop, hbl]; omega
   ·rw [Nat.mul_one, List.take_append_of_le_length (by simp [hbl]; omega), List.take_of_length_le (by simp [hbl]; omega), h4]
   ·simp only [keys, List.mem_singleton] at hne
    simp only [World.setRow, Array.getElem?_modify]
    rw [if_neg (fun e => hne e.symm)]
   ·simp only [List.mem_singleton] at hx
    subst hx
    exact hset
  ·have hrun := Lib.run_append_grow_string (P := Tryz.prog) w 26 9 ty 5 i (.int .u8 0) Tryz.underlying26 Tryz.underlying9 hi hz ⟨g, 0, none⟩ n cap (cur.take n) (by rw [hs1, List.length_take]; omega) hold ⟨l.toArray⟩ (by rw [hsz]; omega) (by rw [hsz]; omega)
    (by rw [hsz, hb1, Nat.mul_one]; exact Nat.le_trans (nextslicecap_le (by omega)) (by omega))
   have hge := grownCap_ge w (n + l.length) cap 5
   have hle := grownCap_le_maxLen w (n + l.length) cap 5 (by simp only [maxLen]; omega)
   rw [hsz, hsc] at hrun
   generalize grownCap w (n + l.length) cap 5 = gc at *
   have hcells : ((cur.take n).toArray ++ (ints .u8 (bI l)).toArray ++ Builtin.zeroCells (Value.int .u8 0).cells (gc - (n + l.length))) = toArr (cur.take n ++ ints .u8 (bI l) ++ (Builtin.zeroCells (Value.int .u8 0).cells (gc - (n + l.length))).toList) := by
    apply Array.ext'; simp [toArr]
   refine ⟨_, _, hrun, ?_⟩
   rw [hcells]
   have hl0 := hL.drew.alloc (.cells (toArr (cur.take n ++ ints .u8 (bI l) ++ (Builtin.zeroCells (Value.int .u8 0).cells (gc - (n + l.length))).toList)) 5)
   refine h (some ⟨w.heap.size, 0, none⟩) (n + l.length) gc [(w.heap.size, _)] _ (by omega) ⟨n + l.length, by rw [List.length_append, hbl]; omega, .inr ⟨w.heap.size, gc, _, rfl, rfl, hge, hle, ?_, ?_⟩⟩ (hl0.sublist (.cons_cons _ (.cons _ (List.Sublist.refl _))))
   ·simp only [List.length_append, List.length_take, hzc, hbl]; omega
   ·rw [Nat.mul_one, List.take_append_of_le_length (by simp [hbl]; omega), List.take_of_length_le (by simp [hbl]; omega), h4]
end
theorem writeString_fn (m : Mem) (b : Nat) (l s : List UInt8) (L : Own) (h : Bld b l L) (hl : l.length ≤ 1000000000) (hs : 0 < s.length ∧ s.length ≤ 1000) :
  Ev.Fn Tryz.prog 106 [.pointer (some ⟨b, 0, none⟩), .string ⟨s.toArray⟩] m L fun m' L' u => u = .tuple (toArr [.int .i64 s.length, .nilIface]) ∧ m' = m ∧ Bld b (l ++ s) L' := by
 obtain ⟨p, v, L1, rfl, hp, ho, -⟩ := h
 obtain ⟨A, n, cc, rfl, hn⟩ := ho.slice
 have hsz : (⟨s.toArray⟩ : ByteArray).size = s.length := by show s.toArray.size = _; simp
 refine Fn.enter (N := 19) hX Tryz.func106 rfl rfl (by show _ ≤ _; simp) (fun w0 hL => ?_)
 conv => whnf
 generalize keys ((b, bdO p (Value.slice A n cc)) :: L1) = S0 at hL ⊢
 refine go ?_;try(clear hL;intro w hL)
 refine CallReq.mk (L1 := [(b, bdO p (.slice A n cc))]) (L2 := L1) (copyCheck_fn m b p _ hp) hL ?_
 clear hL
 rintro u m1 L' w hL - ⟨rfl, rfl, rfl⟩
 replace hL : Ev.Loc m1 S0 w0 m1 ((b, .cells (toArr [.pointer (some ⟨b, 0, none⟩), .slice A n cc]) 193 (0, 0)) :: (L1 ++ [])) w := by rw [List.append_nil]; exact hL
 refine go ?_;try(clear hL;intro w hL)
 refine appendStr ho (hL.perm List.perm_middle.symm) hs.1 (by simp [ints, bI_len]; omega) ?_
 clear hL
 intro A2 n2 c2 L2 w hn2 ho2 hL
 rw [← ints_append, ← bI_append] at ho2
 replace hL := hL.perm List.perm_middle
 refine go ?_;try(clear hL;intro w hL)
 rw [List.append_nil] at hL
 exact RetReq.mk hL ⟨by rw [← hsz]; rfl, rfl, _, _, L2, rfl, .inr rfl, ho2, fun e => absurd (congrArg List.length e) (by rw [List.length_append, List.length_nil]; have := hs.1; omega)⟩
section
variable {N : Nat} {m0 m : Mem} {S : List Nat} {w0 w : World} {L : Own}
theorem GenReq.sliceData {o : Oper} {ρ : Operand → Value} {c : Call} {a : Option Addr} {n cap : Nat} {K : Value → World → Prop} (ho : o.op = .call c) (hc : c.callee = .builtin .unsafeSliceData) (ha : c.args.toList.map ρ = [.slice a n cap]) (hcap : a = none ∨ cap ≠ 0)
  (h : K (.pointer a) w) : GenReq Tryz.prog o ρ w K := by
 constructor
 unfold OpOk
 have hargs : c.args.map ρ = #[.slice a n cap] := by apply Array.ext'; rw [Array.toList_map, ha]
 have hex : execOp ρ o = (do pure (.value (← Builtin.unsafeSliceData_ c.argTypes o.type #[.slice a n cap]))) := by rw [← hargs]; simp [execOp, ho, resolve, hc, invoke, builtin]
 have hrun : (Builtin.unsafeSliceData_ c.argTypes o.type #[.slice a n cap]).run Tryz.prog w = .ok (.pointer a) w := by
  cases a with
  | none => exact Lib.run_unsafeSliceData_nil w _ _ _ _
  | some a => exact Lib.run_unsafeSliceData_row w _ _ _ _ _ (hcap.elim (fun e => by cases e) id)
 rw [hex]
 simp only [Sem.run_bind, hrun, Result.andThen_ok, Sem.run_pure, upon]
 exact h
theorem loc_freeze {g n : Nat} {o : Obj} (hL : Ev.Loc m0 S w0 m ((g, o) :: L) w) (hn : n ≠ 0) : Ev.Loc m0 S w0 m L (w.freeze ⟨g, 0, none⟩ n) := by
 refine Loc.step (L1 := [(g, o)]) (L1' := []) hL (by unfold World.freeze; rw [if_neg hn]) (by unfold World.freeze; rw [if_neg hn]) (by unfold World.freeze; rw [if_neg hn]) ?_ (fun k hk hne => ?_) (fun x hx => by simp at hx) (by simp [keys]) (fun b hb => by simp [keys] at hb)
 ·unfold World.freeze; rw [if_neg hn]; simp
 ·simp only [keys, List.mem_singleton] at hne
  unfold World.freeze
  rw [if_neg hn]
  simp only [Array.getElem?_modify]
  rw [if_neg (fun e => hne e.symm)]
theorem GenReq.string {o : Oper} {ρ : Operand → Value} {c : Call} {g n : Nat} {l : List UInt8} {cur : List Value} {K : Value → World → Prop} (ho : o.op = .call c) (hc : c.callee = .builtin .unsafeString) (ht : c.argTypes = #[232, 3]) (ha : c.args.toList.map ρ = [.pointer (some ⟨g, 0, none⟩), .int .i64 n])
  (hL : Ev.Loc m0 S w0 m ((g, .cells (toArr cur) 5 (0, 0)) :: L) w) (hn : n = l.length) (h0 : l ≠ []) (hcl : n ≤ cur.length) (hmax : n ≤ maxLen) (hcur : cur.take n = ints .u8 (bI l))
  (h : ∀ w', Ev.Loc m0 S w0 m L w' → K (.string ⟨l.toArray⟩) w') : GenReq Tryz.prog o ρ w K := by
 subst hn
 constructor
 unfold OpOk
 have hargs : c.args.map ρ = #[.pointer (some ⟨g, 0, none⟩), .int .i64 l.length] := by apply Array.ext'; rw [Array.toList_map, ha]
 have hex : execOp ρ o = (do pure (.value (← Builtin.unsafeString_ #[232, 3] o.type #[.pointer (some ⟨g, 0, none⟩), .int .i64 l.length]))) := by rw [← hargs, ← ht]; simp [execOp, ho, resolve, hc, invoke, builtin]
 have hrun := Lib.run_unsafeString_row (P := Tryz.prog) w 232 3 o.type 5 Tryz.underlying232 (by kernel_rfl) g cur.length (shape_own hL (i := 0) rfl) l h0 hcl (by simp only [maxLen] at hmax; omega) (fun j x hx => by
  rw [addr_add, Nat.zero_add, hL.ownCell (b := g) (i := j) (c := toArr cur) (t := 5) (f := (0, 0)) (by simp)]
  have hj := (List.getElem?_eq_some_iff.1 hx).1
  have : (cur.take l.length)[j]? = some (.int .u8 x.toNat) := by
   rw [hcur]; simp [ints, bI, hx]
  rw [List.getElem?_take_of_lt hj] at this
  simpa [toArr] using this)
 rw [hex]
 simp only [Sem.run_bind, hrun, Result.andThen_ok, Sem.run_pure, upon]
 exact h _ (loc_freeze hL (by have := List.length_pos_iff.2 h0; omega))
theorem GenReq.string0 {o : Oper} {ρ : Operand → Value} {c : Call} {K : Value → World → Prop} (ho : o.op = .call c) (hc : c.callee = .builtin .unsafeString) (ht : c.argTypes = #[232, 3]) (ha : c.args.toList.map ρ = [.pointer none, .int .i64 0])
  (h : K (.string ⟨([] : List UInt8).toArray⟩) w) : GenReq Tryz.prog o ρ w K := by
 constructor
 unfold OpOk
 have hargs : c.args.map ρ = #[.pointer none, .int .i64 0] := by apply Array.ext'; rw [Array.toList_map, ha]
 have hex : execOp ρ o = (do pure (.value (← Builtin.unsafeString_ #[232, 3] o.type #[.pointer none, .int .i64 0]))) := by rw [← hargs, ← ht]; simp [execOp, ho, resolve, hc, invoke, builtin]
 have hrun := Lib.run_unsafeString_none (P := Tryz.prog) w 232 3 o.type none
 rw [hex]
 simp only [Sem.run_bind, hrun, Result.andThen_ok, Sem.run_pure, upon]
 exact h
end
theorem string_fn (m : Mem) (b : Nat) (l : List UInt8) (L : Own) (h : Bld b l L) :
  Ev.Fn Tryz.prog 109 [.pointer (some ⟨b, 0, none⟩)] m L fun m' L' u => u = .string ⟨l.toArray⟩ ∧ m' = m ∧ L' = [] := by
 obtain ⟨p, v, L1, rfl, hp, ho, he⟩ := h
 by_cases h0 : l = []
 ·obtain ⟨rfl, rfl⟩ := he h0
  subst h0
  refine Fn.enter (N := 14) hX Tryz.func109 rfl rfl (by show _ ≤ _; simp) (fun w0 hL => ?_)
  conv => whnf
  replace hL : Ev.Loc m [b] w0 m [(b, .cells (toArr [.pointer p, .slice none 0 0]) 193 (0, 0))] w0 := hL
  refine DrawReq.plan hX (.fst 0 (.fst 1 (.fst 2 (.fst 3 (.fst 5 (.fst 6 (.fst 7 (.fst 8 (.fst 9 (.alt 4 (.alt 10 (.fst 11 (.done)) (.stop)) (.stop))))))))))) [(b, .cells (toArr [.pointer p, .slice none 0 0]) 193 (0, 0))] (by kernel_rfl) (by kernel_rfl) hL id ?_
  clear hL
  intro w hL
  refine goq ?_;try(clear hL;intro w hL)
  refine GenReq.sliceData rfl rfl rfl (.inl rfl) ?_
  conv => whnf
  repeat ((first | refine SReq.mk hL ?_ | (refine goq1 ?_;try(clear hL;intro w hL))); conv => whnf)
  refine GenReq.string0 rfl rfl rfl rfl ?_
  conv => whnf
  repeat ((first | refine SReq.mk hL ?_ | (refine goq1 ?_;try(clear hL;intro w hL))); conv => whnf)
  exact RetReq.mk hL.drop ⟨rfl, rfl, rfl⟩
 ·have hlp := List.length_pos_iff.2 h0
  obtain ⟨n, hn, ⟨rfl, rfl, _⟩ | ⟨g, cap, cur, rfl, rfl, h1, h2, h3, h4⟩⟩ := ho
  ·simp [ints, bI_len] at hn; exact absurd hn h0
  have hnl : n = l.length := by simp [ints, bI_len] at hn; exact hn.symm
  refine Fn.enter (N := 14) hX Tryz.func109 rfl rfl (by show _ ≤ _; simp) (fun w0 hL => ?_)
  conv => whnf
  generalize keys ((b, bdO p (Value.slice (some ⟨g, 0, none⟩) n cap)) :: [(g, Obj.cells (toArr cur) 5 (0, 0))]) = S0 at hL ⊢
  replace hL : Ev.Loc m S0 w0 m [(b, .cells (toArr [.pointer p, .slice (some ⟨g, 0, none⟩) n cap]) 193 (0, 0)), (g, .cells (toArr cur) 5 (0, 0))] w0 := hL
  refine DrawReq.plan hX (.fst 0 (.fst 1 (.fst 2 (.fst 3 (.fst 5 (.fst 6 (.fst 7 (.fst 8 (.fst 9 (.alt 4 (.alt 10 (.fst 11 (.done)) (.stop)) (.stop))))))))))) [(b, .cells (toArr [.pointer p, .slice (some ⟨g, 0, none⟩) n cap]) 193 (0, 0))] (by kernel_rfl) (by kernel_rfl) hL (fun h => h.one 0 rfl) ?_
  clear hL
  intro w hL
  refine goq ?_;try(clear hL;intro w hL)
  refine GenReq.sliceData rfl rfl rfl (.inr (by omega)) ?_
  conv => whnf
  repeat ((first | refine SReq.mk (hL.one 0 rfl) ?_ | (refine goq1 ?_;try(clear hL;intro w hL))); conv => whnf)
  refine GenReq.string rfl rfl rfl rfl (hL.perm (List.Perm.swap _ _ _)) hnl h0 (by omega) (by omega) (by rw [Nat.mul_one] at h4; exact h4) ?_
  clear hL
  intro w hL
  conv => whnf
  repeat ((first | refine SReq.mk hL ?_ | (refine goq1 ?_;try(clear hL;intro w hL))); conv => whnf)
  exact RetReq.mk hL.drop ⟨rfl, rfl, rfl⟩
end Go.Proofs.YtaooenndoopgdaaGreatDoor.fk
namespace Go.Proofs.YtaooenndoopgdaaGreatDoor.fk
open Go Go.Ev Go.Proofs
def prV (m : Mem) (cs : List Value) (p : List Int) : Prop := ∃ u, cs = [u] ∧ SlI m .i64 u p
def FmV (m : Mem) (v : Value) (f : List (List Int)) : Prop := Sl m 1 (prV m) v f
theorem FmV.le {m m' : Mem} (h : Mem.Le m m') {v : Value} {f : List (List Int)} (k : FmV m v f) : FmV m' v f := Sl.le k h fun _ _ _ ⟨u, e, hs⟩ => ⟨u, e, hs.le' h⟩
theorem FmV.at_ {m : Mem} {A : Option Addr} {n c : Nat} {f : List (List Int)} (h : FmV m (.slice A n c) f) {i : Nat} (hi : i < f.length) : ∃ a A' n' c', A = some a ∧ mcell m (a.add (scale i 1)) = some (.slice A' n' c') ∧ SlI m .i64 (.slice A' n' c') f[i] := by
 obtain ⟨a, cs, e1, e2, e3, u, rfl, hs⟩ := Sl.elem h i _ (List.getElem?_eq_getElem hi)
 have hs' := hs
 obtain ⟨A', n', c', rfl, -⟩ := hs'
 have := e3 0 _ rfl
 have add0 : ∀ x : Addr, x.add 0 = x := fun x => by cases x; rfl
 rw [add0] at this
 exact ⟨a, A', n', c', e1, this, hs⟩
structure Fine (f : List (List Int)) : Prop where
 len : f.length ≤ 1000
 part : ∀ p ∈ f, p.length ≤ 20000
 num : ∀ p ∈ f, ∀ n ∈ p, -9223372036854775808 ≤ n ∧ n ≤ 9223372036854775807
def partB (p : List Int) : List UInt8 := (p.map fun n => Lib.itoa n ++ [44]).flatten
def keyB (f : List (List Int)) : List UInt8 := (f.map fun p => partB p ++ [59]).flatten
theorem partB_take {p : List Int} {j : Nat} (h : j < p.length) : partB (p.take (j + 1)) = partB (p.take j) ++ Lib.itoa p[j] ++ [44] := by
 rw [List.take_succ_eq_append_getElem h]; unfold partB; rw [List.map_append, List.flatten_append]; simp only [List.map_cons, List.map_nil, List.flatten_cons, List.flatten_nil, List.append_nil, List.append_assoc]
theorem keyB_take {f : List (List Int)} {j : Nat} (h : j < f.length) : keyB (f.take (j + 1)) = keyB (f.take j) ++ partB f[j] ++ [59] := by
 rw [List.take_succ_eq_append_getElem h]; unfold keyB; rw [List.map_append, List.flatten_append]; simp only [List.map_cons, List.map_nil, List.flatten_cons, List.flatten_nil, List.append_nil, List.append_assoc]
theorem partB_len : ∀ (p : List Int), (∀ n ∈ p, -9223372036854775808 ≤ n ∧ n ≤ 9223372036854775807) → (partB p).length ≤ p.length * 22
 | [], _ => by simp [partB]
 | n :: p, h => by
   have h1 := Lib.itoa_length_le n (h n (by simp)).1 (h n (by simp)).2
   have h2 := partB_len p fun x hx => h x (by simp [hx])
   simp only [partB, List.map_cons, List.flatten_cons, List.length_append, List.length_cons, List.length_nil] at h2 ⊢
   omega
theorem keyB_len : ∀ (f : List (List Int)), (∀ p ∈ f, p.length ≤ 20000) → (∀ p ∈ f, ∀ n ∈ p, -9223372036854775808 ≤ n ∧ n ≤ 9223372036854775807) → (keyB f).length ≤ f.length * 440001
 | [], _, _ => by simp [keyB]
 | p :: f, h, k => by
   have h1 := partB_len p (k p (by simp))
   have h0 := h p (by simp)
   have h2 := keyB_len f (fun x hx => h x (by simp [hx])) fun x hx => k x (by simp [hx])
   simp only [keyB, List.map_cons, List.flatten_cons, List.length_append, List.length_cons, List.length_nil] at h2 ⊢
   omega
theorem itoa_pos (n : Int) : 0 < (Lib.itoa n).length := by
 unfold Lib.itoa
 split
 ·simp
 ·rw [Lib.decDigits]; split <;> simp
theorem callW {m0 m : Mem} {S : List Nat} {w0 w : World} {b : Nat} {l : List UInt8} {c : UInt8} {L : Own} {K : Value → World → Prop} (h : Bld b l L) (hl : l.length ≤ 1000000000) (hL : Ev.Loc m0 S w0 m L w)
  (k : ∀ L' w', Bld b (l ++ [c]) L' → Ev.Loc m0 S w0 m L' w' → K .nilIface w') : CallReq Tryz.prog 108 (toArr [.pointer (some ⟨b, 0, none⟩), .int .u8 c.toNat]) w K :=
 CallReq.mk (L1 := L) (L2 := []) (writeByte_fn m b l c L h hl) (by rw [List.append_nil]; exact hL) fun u m' L1' w' hl hle ⟨h1, h2, h3⟩ => by
  subst h1 h2
  rw [List.append_nil] at hl
  exact k L1' w' h3 hl
theorem callS {m0 m : Mem} {S : List Nat} {w0 w : World} {b : Nat} {l s : List UInt8} {L : Own} {K : Value → World → Prop} (h : Bld b l L) (hl : l.length ≤ 1000000000) (hs : 0 < s.length ∧ s.length ≤ 1000) (hL : Ev.Loc m0 S w0 m L w)
  (k : ∀ L' w', Bld b (l ++ s) L' → Ev.Loc m0 S w0 m L' w' → K (.tuple (toArr [.int .i64 s.length, .nilIface])) w') : CallReq Tryz.prog 106 (toArr [.pointer (some ⟨b, 0, none⟩), .string ⟨s.toArray⟩]) w K :=
 CallReq.mk (L1 := L) (L2 := []) (writeString_fn m b l s L h hl hs) (by rw [List.append_nil]; exact hL) fun u m' L1' w' hl hle ⟨h1, h2, h3⟩ => by
  subst h1 h2
  rw [List.append_nil] at hl
  exact k L1' w' h3 hl
set_option maxHeartbeats 2000000 in
theorem key_fn (m : Mem) (hQ : TabMem m) (v : Value) (f : List (List Int)) (hv : FmV m v f) (hf : Fine f) : FnV Tryz.prog 76 [v] m (.string ⟨(keyB f).toArray⟩) := by
 have hmx : maxLen = 9223372036854775807 := rfl
 have hv' := hv
 obtain ⟨A, n, c, rfl, hn, hc, hm, -⟩ := hv
 have hf1 := hf.len
 refine Fn.enter (N := 28) hX Tryz.func76 rfl rfl (by show _ ≤ _; simp) (fun w0 hL => ?_)
 conv => whnf
 refine go ?_;try(clear hL;intro w hL)
 refine NewReq.mk hL ?_
 clear hL
 intro b w hL
 replace hL : Ev.Loc m [] w0 m [(b, bdO none (.slice none 0 0))] w := hL
 conv => whnf
 refine go ?_;try(clear hL;intro w hL)
 refine LoopReq.inv hX (fun j : Nat => [(10, .int .i64 j)]) [3, 8, 9]
  (fun j w => j ≤ n ∧ ∃ L, Bld b (keyB (f.take j)) L ∧ Ev.Loc m [] w0 m L w) (fun j => n - j) 0
  ⟨by omega, _, ⟨none, _, [], rfl, .inl rfl, OwnS.nil _ _, fun _ => ⟨rfl, rfl⟩⟩, hL⟩ ⟨rfl, trivial⟩ ?_
 clear hL
 rintro j w g ⟨hj, L, hB, hL⟩
 have hkl := keyB_len (f.take j) (fun p hp => hf.part p (List.mem_of_mem_take hp)) fun p hp => hf.num p (List.mem_of_mem_take hp)
 rw [List.length_take] at hkl
 refine go ?_;try(clear hL;intro w hL)
 refine BrReq.dec (fun hlt => ?_) (fun hlt => ?_)
 ·have hj' : j < f.length := by omega
  obtain ⟨a, A2, n2, c2, rfl, hcell, hp⟩ := hv'.at_ hj'
  have htk := keyB_take hj'
  have hp1 := hf.part _ (List.getElem_mem hj')
  have hp2 := hf.num _ (List.getElem_mem hj')
  generalize f[j] = p at hp htk hp1 hp2
  have hpn := hp.len.1
  have hep := hp.cell.2
  generalize keyB (f.take j) = pre at hB hkl htk
  conv => whnf
  repeat ((first | refine Idx2Req.mk j a rfl (by omega) rfl ?_ | refine LdReq.one hX rfl rfl hL hcell ?_ | (refine go1 ?_;try(clear hL;intro w hL))); conv => whnf)
  refine LoopReq.inv hX (fun k : Nat => [(16, .int .i64 k)]) [3, 8, 9, 10, 14, 15]
   (fun k w => k ≤ n2 ∧ ∃ L, Bld b (pre ++ partB (p.take k)) L ∧ Ev.Loc m [] w0 m L w) (fun k => n2 - k) 0
   ⟨by omega, L, by simpa [partB] using hB, hL⟩ ⟨rfl, trivial⟩ ?_
  clear hL hB
  rintro k w g2 ⟨hk, L, hB, hL⟩
  have hpl := partB_len (p.take k) fun x hx => hp2 x (List.mem_of_mem_take hx)
  rw [List.length_take] at hpl
  refine go ?_;try(clear hL;intro w hL)
  refine BrReq.dec (fun hlt2 => ?_) (fun hlt2 => ?_)
  ·have hk' : k < p.length := by omega
   obtain ⟨a2, rfl, hc2⟩ := hep k _ (List.getElem?_eq_getElem hk')
   have htk2 := partB_take hk'
   have hnb := hp2 _ (List.getElem_mem hk')
   generalize p[k] = x at hc2 htk2 hnb
   have hil := Lib.itoa_length_le x hnb.1 hnb.2
   conv => whnf
   repeat ((first | refine Idx2Req.mk k a2 rfl (by omega) rfl ?_ | (refine LdReq.one hX rfl rfl hL (by rw [scale_eq, Nat.mul_one]; exact hc2) ?_) | (refine go1 ?_;try(clear hL;intro w hL))); conv => whnf)
   refine CallReq.val (itoa_fn m hQ x hnb.1 hnb.2) hL ?_
   clear hL
   intro w hL
   refine go ?_;try(clear hL;intro w hL)
   refine callS hB (by rw [List.length_append]; omega) ⟨itoa_pos x, by omega⟩ hL ?_
   clear hL hB
   intro L w hB hL
   refine go ?_;try(clear hL;intro w hL)
   refine callW (c := 44) hB (by simp only [List.length_append]; omega) hL ?_
   clear hL hB
   intro L w hB hL
   rw [List.append_assoc, List.append_assoc, ← List.append_assoc (partB _), ← htk2] at hB
   refine go ?_;try(clear hL;intro w hL)
   exact rnd (k + 1) ⟨by omega, L, hB, hL⟩
  ·have ek : k = p.length := by omega
   rw [ek, List.take_length] at hB hpl
   refine go ?_;try(clear hL;intro w hL)
   refine callW (c := 59) hB (by simp only [List.length_append]; omega) hL ?_
   clear hL hB
   intro L w hB hL
   rw [← htk] at hB
   refine go ?_;try(clear hL;intro w hL)
   exact rnd (j + 1) ⟨by omega, L, hB, hL⟩
 ·have ej : j = f.length := by omega
  rw [ej, List.take_length] at hB
  refine go ?_;try(clear hL;intro w hL)
  refine CallReq.mk (L1 := L) (L2 := []) (string_fn m b _ L hB) (by rw [List.append_nil]; exact hL) ?_
  clear hL
  rintro u m' L' w hL - ⟨rfl, rfl, rfl⟩
  refine go ?_;try(clear hL;intro w hL)
  exact RetReq.mk hL ⟨rfl, rfl⟩
end Go.Proofs.YtaooenndoopgdaaGreatDoor.fk
namespace Go.Proofs.YtaooenndoopgdaaGreatDoor.bd
open Go Go.Ev Go.Proofs
def bI (l : List UInt8) : List Int := l.map fun b => (b.toNat : Int)
theorem bI_append (a b : List UInt8) : bI (a ++ b) = bI a ++ bI b := by simp [bI]
theorem bI_len (l : List UInt8) : (bI l).length = l.length := by simp [bI]
def bdO (p : Option Addr) (v : Value) : Obj := .cells (toArr [.pointer p, v]) 193 (0, 0)
def Bld (b : Nat) (l : List UInt8) (L : Own) : Prop := ∃ p v L1, L = (b, bdO p v) :: L1 ∧ (p = none ∨ p = some ⟨b, 0, none⟩) ∧ OwnS 5 1 v (ints .u8 (bI l)) L1
section
variable {N : Nat} {m0 m : Mem} {S : List Nat} {w0 w : World} {L : Own}
theorem GenReq.extern {o : Oper} {ρ : Operand → Value} {c : Call} {x : Operand} {g : Nat} {v : Value} {args : List Value} {K : Value → World → Prop} (ho : o.op = .call c) (hc : c.callee = .value x) (hx : ρ x = .func (.func g) #[] #[]) (ha : c.args.toList.map ρ = args)
  (hrun : ∀ w, (callFunc g (toArr args)).run Tryz.prog w = .ok (.value v) w) (h : K v w) : GenReq Tryz.prog o ρ w K := by
 constructor
 unfold OpOk
 have hargs : c.args.map ρ = toArr args := by apply Array.ext'; rw [Array.toList_map, ha]; rfl
 have hex : execOp ρ o = callFunc g (toArr args) := by rw [← hargs]; simp [execOp, ho, resolve, hc, hx, Deferred.ofValue, invoke]
 rw [hex, hrun]
 exact h
theorem run_escape (v : Value) (w : World) : (callFunc 183 (toArr [v])).run Tryz.prog w = .ok (.value v) w := by
 rw [run_callFunc_extern Tryz.func183 (by kernel_rfl) (by kernel_rfl) (by kernel_rfl) (e := Extern.AbiNoEscape.same) (by kernel_rfl), show toArr [v] = #[v] from rfl, Lib.run_noEscape]
 rfl
theorem shape_own {i b : Nat} {cs : List Value} {t : TypeId} {f : Nat × Nat} (hL : Ev.Loc m0 S w0 m L w) (hi : Ev.look L i = some (b, .cells (toArr cs) t f)) : w.shape? b = some (t, cs.length) := by
 rw [look_eq] at hi
 have hm := hL.own _ (List.mem_of_getElem? hi)
 unfold World.shape?
 simp only at hm
 rw [hm]; simp [toArr]
theorem UGenReq.ptrNeSame {o : Oper} {ρ : Operand → Value} {t yt e : Nat} {x y : Operand} {a : Addr} {j : TypeInfo} {K : Value → Prop} (ho : o.op = .binOp .neq t x y yt) (hx : ρ x = .pointer (some a)) (hy : ρ y = .pointer (some a))
  (hu : Tryz.prog.underlying t = some (.pointer e)) (hj : Tryz.prog.info? e = some j) (h : K (.bool false)) : UGenReq Tryz.prog o ρ K := by
 have hex : execOp ρ o = (do pure (.value (← (do eqGuard .neq t x y (.pointer (some a)) (.pointer (some a)); binOp .neq t (.pointer (some a)) (.pointer (some a)) : Sem Value)))) := by simp only [execOp, ho, hx, hy]
 have hg : eqGuard .neq t x y (.pointer (some a)) (.pointer (some a)) = pure () := by simp [eqGuard]
 refine ⟨UOk.of_run _ hex (fun w => ?_) h⟩
 rw [hg]
 have := Lib.run_neq_ptr_same (w := w) a hu hj
 simp only [Sem.run_bind, Sem.run_pure, Result.andThen_ok]
 exact this
end
set_option maxRecDepth 10000 in
theorem copyCheck_fn (m : Mem) (b : Nat) (p : Option Addr) (v : Value) (hp : p = none ∨ p = some ⟨b, 0, none⟩) :
  Ev.Fn Tryz.prog 154 [.pointer (some ⟨b, 0, none⟩)] m [(b, bdO p v)] fun m' L' u => u = .tuple (toArr []) ∧ m' = m ∧ L' = [(b, bdO (some ⟨b, 0, none⟩) v)] := by
 obtain ⟨j, hj, hjs⟩ := Option.map_eq_some_iff.1 (show (Tryz.prog.info? 193).map (·.size) = some 2 by kernel_rfl)
 rcases hp with rfl | rfl
 ·refine Fn.enter (N := 20) hX Tryz.func154 rfl rfl (by show _ ≤ _; simp) (fun w0 hL => ?_)
  conv => whnf
  replace hL : Ev.Loc m [b] w0 m [(b, .cells (toArr [.pointer none, v]) 193 (0, 0))] w0 := hL
  conv => whnf
  repeat ((first | refine UGenReq.nilPtr hX rfl rfl rfl rfl rfl ?_ | (refine go1 ?_;try(clear hL;intro w hL))); conv => whnf)
  refine RunReq.mk (Lib.run_to_unsafe (w := w0) ⟨b, 0, none⟩ Tryz.underlying191 Tryz.underlying252 hj (by rw [hjs]; decide) (shape_own hL (i := 0) rfl) (by show (0 : Nat) < 2; omega)) ?_
  conv => whnf
  repeat ((first | refine GenReq.extern (v := .pointer (some ⟨b, 0, none⟩)) rfl rfl rfl rfl (fun w => run_escape _ w) ?_ | (refine go1 ?_;try(clear hL;intro w hL))); conv => whnf)
  refine RunReq.mk (Lib.run_from_unsafe (w := w0) ⟨b, 0, none⟩ Tryz.underlying252 Tryz.underlying191 hj (shape_own hL (i := 0) rfl) (by kernel_rfl)) ?_
  refine go ?_;try(clear hL;intro w hL)
  exact RetReq.mk hL ⟨rfl, rfl, rfl⟩
 ·refine Fn.enter (N := 20) hX Tryz.func154 rfl rfl (by show _ ≤ _; simp) (fun w0 hL => ?_)
  conv => whnf
  replace hL : Ev.Loc m [b] w0 m [(b, .cells (toArr [.pointer (some ⟨b, 0, none⟩), v]) 193 (0, 0))] w0 := hL
  conv => whnf
  repeat ((first | refine UGenReq.nilPtr hX rfl rfl rfl rfl rfl ?_ | refine UGenReq.ptrNeSame rfl rfl rfl Tryz.underlying191 hj ?_ | (refine go1 ?_;try(clear hL;intro w hL))); conv => whnf)
  exact RetReq.mk hL ⟨rfl, rfl, rfl⟩
theorem strCells_bI (l : List UInt8) : Lib.strCells ⟨l.toArray⟩ = ints .u8 (bI l) := by
 unfold Lib.strCells ints bI
 rw [List.map_map]; rfl
section
variable {m0 m : Mem} {S : List Nat} {w0 w : World} {L1 L2 : Own}
theorem appendStr {ty : TypeId} {v : Value} {xs : List Value} {l : List UInt8} {K : Value → World → Prop} (hown : OwnS 5 1 v xs L1) (hL : Ev.Loc m0 S w0 m (L1 ++ L2) w) (hl : 0 < l.length) (hb : xs.length + l.length ≤ 1099511627776)
  (h : ∀ A n c L1' w', n = xs.length + l.length → OwnS 5 1 (.slice A n c) (xs ++ ints .u8 (bI l)) L1' → Ev.Loc m0 S w0 m (L1' ++ L2) w' → K (.slice A n c) w') :
  RunReq Tryz.prog (Builtin.append_ #[26, 9] ty (toArr [v, .string ⟨l.toArray⟩])) w K := by
 obtain ⟨i, hi, hz, hs1, hb1⟩ : ∃ i, Tryz.prog.info? 5 = some i ∧ i.zero = some (.int .u8 0) ∧ i.size = 1 ∧ i.bytes = 1 := by
  have g1 : (Tryz.prog.info? 5).bind (·.zero) = some (.int .u8 0) := by kernel_rfl
  have g2 : (Tryz.prog.info? 5).map (·.size) = some 1 := by kernel_rfl
  have g3 : (Tryz.prog.info? 5).map (·.bytes) = some 1 := by kernel_rfl
  cases hi : Tryz.prog.info? 5 with
  | none => rw [hi] at g2; cases g2
  | some i =>
    rw [hi] at g1 g2 g3
    exact ⟨i, rfl, g1, Option.some.inj g2, Option.some.inj g3⟩
 have hsz : (⟨l.toArray⟩ : ByteArray).size = l.length := by show l.toArray.size = _; simp
 have hsc := strCells_bI l
 have harg : toArr [v, .string ⟨l.toArray⟩] = #[v, .string ⟨l.toArray⟩] := rfl
 have hbl : (ints .u8 (bI l)).length = l.length := by simp [ints, bI_len]
 have hzc : ∀ n, (Builtin.zeroCells (Value.int .u8 0).cells n).toList.length = n := fun n => by
  rw [Array.length_toList, size_zeroCells]; show n * 1 = n; omega
 rw [harg]
 obtain ⟨n, hn, ⟨rfl, rfl, rfl⟩ | ⟨g, cap, cur, rfl, rfl, h1, h2, h3, h4⟩⟩ := hown
 ·have hx : xs = [] := List.eq_nil_of_length_eq_zero (by omega)
  subst hx
  have hrun := run_append_nil_string (P := Tryz.prog) (w := w) 26 9 ty 5 i (.int .u8 0) Tryz.underlying26 Tryz.underlying9 hi hz ⟨l.toArray⟩ (by omega) (by rw [hsz]; simp at hb; omega) (by rw [hsz, hb1]; simp at hb; omega)
  have hge := grownCap_ge w l.length 0 5
  have hle := grownCap_le_maxLen w l.length 0 5 (by simp at hb; simp only [maxLen]; omega)
  rw [hsz] at hrun
  generalize grownCap w l.length 0 5 = gc at *
  have hcells : ((⟨l.toArray⟩ : ByteArray).data.map (fun b => Value.int .u8 b.toNat) ++ Builtin.zeroCells (Value.int .u8 0).cells (gc - l.length)) = toArr (ints .u8 (bI l) ++ (Builtin.zeroCells (Value.int .u8 0).cells (gc - l.length)).toList) := by
   apply Array.ext'
   rw [Array.toList_append, Array.toList_map]
   simp only [toArr, ints, bI, List.map_map]
   rfl
  refine ⟨_, _, hrun, ?_⟩
  rw [hcells]
  refine h (some ⟨w.heap.size, 0, none⟩) l.length gc [(w.heap.size, _)] _ (by simp) ⟨l.length, by simp [hbl], .inr ⟨w.heap.size, gc, _, rfl, rfl, hge, hle, ?_, ?_⟩⟩ (hL.drew.alloc _)
  ·rw [List.length_append, hzc, hbl]; omega
  ·rw [Nat.mul_one, List.nil_append, List.take_append_of_le_length (by omega), List.take_of_length_le (by omega)]
 ·have hxn : xs.length = n := by omega
  have hg := hL.own (g, .cells (toArr cur) 5 (0, 0)) (by simp)
  have hold : ∀ j u, (cur.take n)[j]? = some u → w.cell? ((⟨g, 0, none⟩ : Addr).add j) = some u := by
   intro j u hu
   rw [addr_add, Nat.zero_add, hL.ownCell (b := g) (i := j) (c := toArr cur) (t := 5) (f := (0, 0)) (by simp)]
   rw [List.getElem?_take] at hu
   split at hu
   ·simpa [toArr] using hu
   ·cases hu
  rw [Nat.mul_one] at h4
  by_cases hroom : n + l.length ≤ cap
  ·have hrun := Lib.run_append_room_string (P := Tryz.prog) w 26 9 ty 5 i Tryz.underlying26 Tryz.underlying9 hi hs1 g n cap (toArr cur) hg ⟨l.toArray⟩ (by rw [hsz]; exact hroom) (by rw [hsz]; simp [toArr]; omega)
   rw [hsz, hsc] at hrun
   have hcur : (toArr cur).toList = cur := by simp [toArr]
   rw [hcur] at hrun
   refine ⟨_, _, hrun, ?_⟩
   have hset := setRow_heap w g (toArr cur) (cur.take n ++ ints .u8 (bI l) ++ cur.drop (n + l.length)).toArray 5 (0, 0) hg
   refine h (some ⟨g, 0, none⟩) (n + l.length) cap [(g, .cells (toArr (cur.take n ++ ints .u8 (bI l) ++ cur.drop (n + l.length))) 5 (0, 0))] _ (by omega) ⟨n + l.length, by rw [List.length_append, hbl]; omega, .inr ⟨g, cap, _, rfl, rfl, hroom, h2, ?_, ?_⟩⟩
    (Loc.step (L1 := [(g, .cells (toArr cur) 5 (0, 0))]) hL rfl rfl rfl (by simp [World.setRow]) (fun k hk hne => ?_) (fun x hx => ?_) (by simp [keys]) (fun b hb' => .inl hb'))
   ·simp only [List.length_append, List.length_take, List.length_drop, hbl]; omega
   ·rw [Nat.mul_one, List.take_append_of_le_length (by simp [hbl]; omega), List.take_of_length_le (by simp [hbl]; omega), h4]
   ·simp only [keys, List.mem_singleton] at hne
    simp only [World.setRow, Array.getElem?_modify]
    rw [if_neg (fun e => hne e.symm)]
   ·simp only [List.mem_singleton] at hx
    subst hx
    exact hset
  ·have hrun := Lib.run_append_grow_string (P := Tryz.prog) w 26 9 ty 5 i (.int .u8 0) Tryz.underlying26 Tryz.underlying9 hi hz ⟨g, 0, none⟩ n cap (cur.take n) (by rw [hs1, List.length_take]; omega) hold ⟨l.toArray⟩ (by rw [hsz]; omega) (by rw [hsz]; omega)
    (by rw [hsz, hb1, Nat.mul_one]; exact Nat.le_trans (nextslicecap_le (by omega)) (by omega))
   have hge := grownCap_ge w (n + l.length) cap 5
   have hle := grownCap_le_maxLen w (n + l.length) cap 5 (by simp only [maxLen]; omega)
   rw [hsz, hsc] at hrun
   generalize grownCap w (n + l.length) cap 5 = gc at *
   have hcells : ((cur.take n).toArray ++ (ints .u8 (bI l)).toArray ++ Builtin.zeroCells (Value.int .u8 0).cells (gc - (n + l.length))) = toArr (cur.take n ++ ints .u8 (bI l) ++ (Builtin.zeroCells (Value.int .u8 0).cells (gc - (n + l.length))).toList) := by
    apply Array.ext'; simp [toArr]
   refine ⟨_, _, hrun, ?_⟩
   rw [hcells]
   have hl0 := hL.drew.alloc (.cells (toArr (cur.take n ++ ints .u8 (bI l) ++ (Builtin.zeroCells (Value.int .u8 0).cells (gc - (n + l.length))).toList)) 5)
   refine h (some ⟨w.heap.size, 0, none⟩) (n + l.length) gc [(w.heap.size, _)] _ (by omega) ⟨n + l.length, by rw [List.length_append, hbl]; omega, .inr ⟨w.heap.size, gc, _, rfl, rfl, hge, hle, ?_, ?_⟩⟩ (hl0.sublist (.cons_cons _ (.cons _ (List.Sublist.refl _))))
   ·simp only [List.length_append, List.length_take, hzc, hbl]; omega
   ·rw [Nat.mul_one, List.take_append_of_le_length (by simp [hbl]; omega), List.take_of_length_le (by simp [hbl]; omega), h4]
end
theorem appendStr0 {m0 m : Mem} {S : List Nat} {w0 w : World} {L1 L2 : Own} {ty : TypeId} {v : Value} {xs : List Value} {K : Value → World → Prop} (hown : OwnS 5 1 v xs L1) (hL : Ev.Loc m0 S w0 m (L1 ++ L2) w) (hx : xs ≠ [] ∨ v ≠ .slice none 0 0)
  (h : ∀ w', Ev.Loc m0 S w0 m (L1 ++ L2) w' → K v w') :
  RunReq Tryz.prog (Builtin.append_ #[26, 9] ty (toArr [v, .string ⟨([] : List UInt8).toArray⟩])) w K := by
 obtain ⟨i, hi, hz, hs1, hb1⟩ : ∃ i, Tryz.prog.info? 5 = some i ∧ i.zero = some (.int .u8 0) ∧ i.size = 1 ∧ i.bytes = 1 := by
  have g1 : (Tryz.prog.info? 5).bind (·.zero) = some (.int .u8 0) := by kernel_rfl
  have g2 : (Tryz.prog.info? 5).map (·.size) = some 1 := by kernel_rfl
  have g3 : (Tryz.prog.info? 5).map (·.bytes) = some 1 := by kernel_rfl
  cases hi : Tryz.prog.info? 5 with
  | none => rw [hi] at g2; cases g2
  | some i =>
    rw [hi] at g1 g2 g3
    exact ⟨i, rfl, g1, Option.some.inj g2, Option.some.inj g3⟩
 have hsz : (⟨([] : List UInt8).toArray⟩ : ByteArray).size = 0 := rfl
 have hsc := strCells_bI []
 have hbl : (ints .u8 (bI [])).length = 0 := rfl
 have harg : toArr [v, .string ⟨([] : List UInt8).toArray⟩] = #[v, .string ⟨([] : List UInt8).toArray⟩] := rfl
 rw [harg]
 obtain ⟨n, hn, ⟨rfl, rfl, rfl⟩ | ⟨g, cap, cur, rfl, rfl, h1, h2, h3, h4⟩⟩ := hown
 ·exact hx.elim (fun h => absurd (List.eq_nil_of_length_eq_zero (by omega)) h) (fun h => absurd rfl h)
 ·have hg := hL.own (g, .cells (toArr cur) 5 (0, 0)) (by simp)
  have hrun := Lib.run_append_room_string (P := Tryz.prog) w 26 9 ty 5 i Tryz.underlying26 Tryz.underlying9 hi hs1 g n cap (toArr cur) hg ⟨([] : List UInt8).toArray⟩ (by rw [hsz]; omega) (by rw [hsz]; simp [toArr]; omega)
  rw [hsz, hsc] at hrun
  have hcur : (toArr cur).toList = cur := by simp [toArr]
  rw [hcur] at hrun
  refine ⟨_, _, hrun, ?_⟩
  have hset := setRow_heap w g (toArr cur) (cur.take n ++ ints .u8 (bI []) ++ cur.drop (n + 0)).toArray 5 (0, 0) hg
  have hsame : (cur.take n ++ ints .u8 (bI []) ++ cur.drop (n + 0)).toArray = toArr cur := by
   show (cur.take n ++ [] ++ cur.drop n).toArray = _
   rw [List.append_nil, List.take_append_drop]; rfl
  refine h _ (Loc.step (L1 := [(g, .cells (toArr cur) 5 (0, 0))]) hL rfl rfl rfl (by simp [World.setRow]) (fun k hk hne => ?_) (fun x hx => ?_) (by simp [keys]) (fun b hb' => .inl hb'))
  ·simp only [keys, List.mem_singleton] at hne
   simp only [World.setRow, Array.getElem?_modify]
   rw [if_neg (fun e => hne e.symm)]
  ·simp only [List.mem_singleton] at hx
   subst hx
   show _ = some (Obj.cells (toArr cur) _ _)
   rw [← hsame]
   exact hset
def BldN (b : Nat) (l : List UInt8) (L : Own) : Prop := Bld b l L ∧ ∃ p v L1, L = (b, bdO p v) :: L1 ∧ v ≠ .slice none 0 0
theorem writeStringN_fn (m : Mem) (b : Nat) (l s : List UInt8) (L : Own) (h : Bld b l L) (hl : l.length + s.length ≤ 1000000000) (hls : l ≠ [] ∨ s ≠ [] ∨ ∃ p v L1, L = (b, bdO p v) :: L1 ∧ v ≠ .slice none 0 0) :
  Ev.Fn Tryz.prog 106 [.pointer (some ⟨b, 0, none⟩), .string ⟨s.toArray⟩] m L fun m' L' u => u = .tuple (toArr [.int .i64 s.length, .nilIface]) ∧ m' = m ∧ Bld b (l ++ s) L' := by
 obtain ⟨p, v, L1, rfl, hp, ho⟩ := h
 obtain ⟨A, n, cc, rfl, hn⟩ := ho.slice
 have hsz : (⟨s.toArray⟩ : ByteArray).size = s.length := by show s.toArray.size = _; simp
 refine Fn.enter (N := 19) hX Tryz.func106 rfl rfl (by show _ ≤ _; simp) (fun w0 hL => ?_)
 conv => whnf
 generalize keys ((b, bdO p (Value.slice A n cc)) :: L1) = S0 at hL ⊢
 refine go ?_;try(clear hL;intro w hL)
 refine CallReq.mk (L1 := [(b, bdO p (.slice A n cc))]) (L2 := L1) (copyCheck_fn m b p _ hp) hL ?_
 clear hL
 rintro u m1 L' w hL - ⟨rfl, rfl, rfl⟩
 replace hL : Ev.Loc m1 S0 w0 m1 ((b, .cells (toArr [.pointer (some ⟨b, 0, none⟩), .slice A n cc]) 193 (0, 0)) :: (L1 ++ [])) w := by rw [List.append_nil]; exact hL
 refine go ?_;try(clear hL;intro w hL)
 by_cases hs : s = []
 ·subst hs
  refine appendStr0 ho (hL.perm List.perm_middle.symm) (hls.elim (fun h => .inl fun e => h (by simpa [ints, bI] using e)) fun h => h.elim (fun h => absurd rfl h) fun ⟨p', v', L', e, h⟩ => .inr fun e2 => h (by injection e with e3 e4; injection e3 with e5 e6; injection e6 with e7; have := congrArg (fun z : Array Value => z.toList) e7; simp [toArr] at this; rw [← this.2]; exact e2)) ?_
  clear hL
  intro w hL
  replace hL := hL.perm List.perm_middle
  refine go ?_;try(clear hL;intro w hL)
  rw [List.append_nil] at hL
  exact RetReq.mk hL ⟨by rw [← hsz]; rfl, rfl, _, _, L1, rfl, .inr rfl, by rw [List.append_nil]; exact ho⟩
 ·refine appendStr ho (hL.perm List.perm_middle.symm) (List.length_pos_iff.2 hs) (by simp [ints, bI_len]; omega) ?_
  clear hL
  intro A2 n2 c2 L2 w hn2 ho2 hL
  rw [← ints_append, ← bI_append] at ho2
  replace hL := hL.perm List.perm_middle
  refine go ?_;try(clear hL;intro w hL)
  rw [List.append_nil] at hL
  exact RetReq.mk hL ⟨by rw [← hsz]; rfl, rfl, _, _, L2, rfl, .inr rfl, ho2⟩
section
variable {N : Nat} {m0 m : Mem} {S : List Nat} {w0 w : World} {L : Own}
theorem writeString_fn (m : Mem) (b : Nat) (l s : List UInt8) (L : Own) (h : Bld b l L) (hl : l.length + s.length ≤ 1000000000) (hls : l ≠ [] ∨ s ≠ []) :
  Ev.Fn Tryz.prog 106 [.pointer (some ⟨b, 0, none⟩), .string ⟨s.toArray⟩] m L fun m' L' u => u = .tuple (toArr [.int .i64 s.length, .nilIface]) ∧ m' = m ∧ Bld b (l ++ s) L' :=
 writeStringN_fn m b l s L h hl (hls.imp id .inl)
theorem GenReq.sliceData {o : Oper} {ρ : Operand → Value} {c : Call} {a : Option Addr} {n cap : Nat} {K : Value → World → Prop} (ho : o.op = .call c) (hc : c.callee = .builtin .unsafeSliceData) (ha : c.args.toList.map ρ = [.slice a n cap]) (hcap : a = none ∨ cap ≠ 0)
  (h : K (.pointer a) w) : GenReq Tryz.prog o ρ w K := by
 constructor
 unfold OpOk
 have hargs : c.args.map ρ = #[.slice a n cap] := by apply Array.ext'; rw [Array.toList_map, ha]
 have hex : execOp ρ o = (do pure (.value (← Builtin.unsafeSliceData_ c.argTypes o.type #[.slice a n cap]))) := by rw [← hargs]; simp [execOp, ho, resolve, hc, invoke, builtin]
 have hrun : (Builtin.unsafeSliceData_ c.argTypes o.type #[.slice a n cap]).run Tryz.prog w = .ok (.pointer a) w := by
  cases a with
  | none => exact Lib.run_unsafeSliceData_nil w _ _ _ _
  | some a => exact Lib.run_unsafeSliceData_row w _ _ _ _ _ (hcap.elim (fun e => by cases e) id)
 rw [hex]
 simp only [Sem.run_bind, hrun, Result.andThen_ok, Sem.run_pure, upon]
 exact h
theorem loc_freeze {g n : Nat} {o : Obj} (hL : Ev.Loc m0 S w0 m ((g, o) :: L) w) (hn : n ≠ 0) : Ev.Loc m0 S w0 m L (w.freeze ⟨g, 0, none⟩ n) := by
 refine Loc.step (L1 := [(g, o)]) (L1' := []) hL (by unfold World.freeze; rw [if_neg hn]) (by unfold World.freeze; rw [if_neg hn]) (by unfold World.freeze; rw [if_neg hn]) ?_ (fun k hk hne => ?_) (fun x hx => by simp at hx) (by simp [keys]) (fun b hb => by simp [keys] at hb)
 ·unfold World.freeze; rw [if_neg hn]; simp
 ·simp only [keys, List.mem_singleton] at hne
  unfold World.freeze
  rw [if_neg hn]
  simp only [Array.getElem?_modify]
  rw [if_neg (fun e => hne e.symm)]
theorem GenReq.string {o : Oper} {ρ : Operand → Value} {c : Call} {g n : Nat} {l : List UInt8} {cur : List Value} {K : Value → World → Prop} (ho : o.op = .call c) (hc : c.callee = .builtin .unsafeString) (ht : c.argTypes = #[232, 3]) (ha : c.args.toList.map ρ = [.pointer (some ⟨g, 0, none⟩), .int .i64 n])
  (hL : Ev.Loc m0 S w0 m ((g, .cells (toArr cur) 5 (0, 0)) :: L) w) (hn : n = l.length) (h0 : l ≠ []) (hcl : n ≤ cur.length) (hmax : n ≤ maxLen) (hcur : cur.take n = ints .u8 (bI l))
  (h : ∀ w', Ev.Loc m0 S w0 m L w' → K (.string ⟨l.toArray⟩) w') : GenReq Tryz.prog o ρ w K := by
 subst hn
 constructor
 unfold OpOk
 have hargs : c.args.map ρ = #[.pointer (some ⟨g, 0, none⟩), .int .i64 l.length] := by apply Array.ext'; rw [Array.toList_map, ha]
 have hex : execOp ρ o = (do pure (.value (← Builtin.unsafeString_ #[232, 3] o.type #[.pointer (some ⟨g, 0, none⟩), .int .i64 l.length]))) := by rw [← hargs, ← ht]; simp [execOp, ho, resolve, hc, invoke, builtin]
 have hrun := Lib.run_unsafeString_row (P := Tryz.prog) w 232 3 o.type 5 Tryz.underlying232 (by kernel_rfl) g cur.length (shape_own hL (i := 0) rfl) l h0 hcl (by simp only [maxLen] at hmax; omega) (fun j x hx => by
  rw [addr_add, Nat.zero_add, hL.ownCell (b := g) (i := j) (c := toArr cur) (t := 5) (f := (0, 0)) (by simp)]
  have hj := (List.getElem?_eq_some_iff.1 hx).1
  have : (cur.take l.length)[j]? = some (.int .u8 x.toNat) := by
   rw [hcur]; simp [ints, bI, hx]
  rw [List.getElem?_take_of_lt hj] at this
  simpa [toArr] using this)
 rw [hex]
 simp only [Sem.run_bind, hrun, Result.andThen_ok, Sem.run_pure, upon]
 exact h _ (loc_freeze hL (by have := List.length_pos_iff.2 h0; omega))
theorem GenReq.string0 {o : Oper} {ρ : Operand → Value} {c : Call} {K : Value → World → Prop} (ho : o.op = .call c) (hc : c.callee = .builtin .unsafeString) (ht : c.argTypes = #[232, 3]) (ha : c.args.toList.map ρ = [.pointer none, .int .i64 0])
  (h : K (.string ⟨([] : List UInt8).toArray⟩) w) : GenReq Tryz.prog o ρ w K := by
 constructor
 unfold OpOk
 have hargs : c.args.map ρ = #[.pointer none, .int .i64 0] := by apply Array.ext'; rw [Array.toList_map, ha]
 have hex : execOp ρ o = (do pure (.value (← Builtin.unsafeString_ #[232, 3] o.type #[.pointer none, .int .i64 0]))) := by rw [← hargs, ← ht]; simp [execOp, ho, resolve, hc, invoke, builtin]
 have hrun := Lib.run_unsafeString_none (P := Tryz.prog) w 232 3 o.type none
 rw [hex]
 simp only [Sem.run_bind, hrun, Result.andThen_ok, Sem.run_pure, upon]
 exact h
end
theorem string_fn (m : Mem) (b : Nat) (l : List UInt8) (L : Own) (h : Bld b l L) (h0 : l ≠ []) :
  Ev.Fn Tryz.prog 109 [.pointer (some ⟨b, 0, none⟩)] m L fun m' L' u => u = .string ⟨l.toArray⟩ ∧ m' = m ∧ L' = [] := by
 obtain ⟨p, v, L1, rfl, hp, ho⟩ := h
 have hlp := List.length_pos_iff.2 h0
 obtain ⟨n, hn, ⟨rfl, rfl, _⟩ | ⟨g, cap, cur, rfl, rfl, h1, h2, h3, h4⟩⟩ := ho
 ·simp [ints, bI_len] at hn; exact absurd hn h0
 have hnl : n = l.length := by simp [ints, bI_len] at hn; exact hn.symm
 refine Fn.enter (N := 14) hX Tryz.func109 rfl rfl (by show _ ≤ _; simp) (fun w0 hL => ?_)
 conv => whnf
 generalize keys ((b, bdO p (Value.slice (some ⟨g, 0, none⟩) n cap)) :: [(g, Obj.cells (toArr cur) 5 (0, 0))]) = S0 at hL ⊢
 replace hL : Ev.Loc m S0 w0 m [(b, .cells (toArr [.pointer p, .slice (some ⟨g, 0, none⟩) n cap]) 193 (0, 0)), (g, .cells (toArr cur) 5 (0, 0))] w0 := hL
 refine DrawReq.plan hX (.fst 0 (.fst 1 (.fst 2 (.fst 3 (.fst 5 (.fst 6 (.fst 7 (.fst 8 (.fst 9 (.alt 4 (.alt 10 (.fst 11 (.done)) (.stop)) (.stop))))))))))) [(b, .cells (toArr [.pointer p, .slice (some ⟨g, 0, none⟩) n cap]) 193 (0, 0))] (by kernel_rfl) (by kernel_rfl) hL (fun h => h.one 0 rfl) ?_
 clear hL
 intro w hL
 refine goq ?_;try(clear hL;intro w hL)
 refine GenReq.sliceData rfl rfl rfl (.inr (by omega)) ?_
 conv => whnf
 repeat ((first | refine SReq.mk (hL.one 0 rfl) ?_ | (refine goq1 ?_;try(clear hL;intro w hL))); conv => whnf)
 refine GenReq.string rfl rfl rfl rfl (hL.perm (List.Perm.swap _ _ _)) hnl h0 (by omega) (by omega) (by rw [Nat.mul_one] at h4; exact h4) ?_
 clear hL
 intro w hL
 conv => whnf
 repeat ((first | refine SReq.mk hL ?_ | (refine goq1 ?_;try(clear hL;intro w hL))); conv => whnf)
 exact RetReq.mk hL.drop ⟨rfl, rfl, rfl⟩
section
variable {N : Nat} {m0 m : Mem} {S : List Nat} {w0 w : World} {L : Own}
theorem GenReq.cap {o : Oper} {ρ : Operand → Value} {c : Call} {a : Option Addr} {n cap : Nat} {K : Value → World → Prop} (ho : o.op = .call c) (hc : c.callee = .builtin .cap) (ht : c.argTypes = #[26]) (ha : c.args.toList.map ρ = [.slice a n cap])
  (h : K (.int .i64 cap) w) : GenReq Tryz.prog o ρ w K := by
 constructor
 unfold OpOk
 have hargs : c.args.map ρ = #[.slice a n cap] := by apply Array.ext'; rw [Array.toList_map, ha]
 have hex : execOp ρ o = (do pure (.value (← Builtin.cap_ #[26] o.type #[.slice a n cap]))) := by rw [← hargs, ← ht]; simp [execOp, ho, resolve, hc, invoke, builtin]
 have hrun : (Builtin.cap_ #[26] o.type #[.slice a n cap]).run Tryz.prog w = .ok (.int .i64 cap) w := by
  simp [Builtin.cap_, run_underlying Tryz.underlying26]; rfl
 rw [hex]
 simp only [Sem.run_bind, hrun, Result.andThen_ok, Sem.run_pure, upon]
 exact h
theorem GenReq.makeNoZero {o : Oper} {ρ : Operand → Value} {c : Call} {x : Operand} (n : Nat) {z : Int} {K : Value → World → Prop} (ho : o.op = .call c) (hc : c.callee = .value x) (hx : ρ x = .func (.func 185) #[] #[]) (ha : c.args.toList.map ρ = [.int .i64 z])
  (hz : z = n) (hn : n ≤ 1000000000000) (hL : Ev.Loc m0 S w0 m L w) (h : ∀ g cur w', n ≤ cur.length → cur.length ≤ maxLen → Ev.Loc m0 S w0 m ((g, .cells (toArr cur) 5 (0, 0)) :: L) w' → K (.slice (some ⟨g, 0, none⟩) n cur.length) w') : GenReq Tryz.prog o ρ w K := by
 subst hz
 constructor
 unfold OpOk
 have hargs : c.args.map ρ = #[.int .i64 n] := by apply Array.ext'; rw [Array.toList_map, ha]
 have hex : execOp ρ o = callFunc 185 #[.int .i64 n] := by rw [← hargs]; simp [execOp, ho, resolve, hc, hx, Deferred.ofValue, invoke]
 obtain ⟨cs, hrun, hle, hmax⟩ := Lib.run_makeNoZero (P := Tryz.prog) w #[3] 26 5 Tryz.underlying26 n (by omega)
 rw [hex, run_callFunc_extern Tryz.func185 (by kernel_rfl) (by kernel_rfl) (by kernel_rfl) (e := Extern.BytealgMakeNoZero.makeNoZero #[3] #[26]) (by kernel_rfl), hrun]
 have hcs : cs = toArr cs.toList := by simp [toArr]
 have hl := (hL.drew.drew).alloc (.cells cs 5)
 have := h w.heap.size cs.toList (w.drew.drew.alloc (.cells cs 5)) (by simpa using hle) (by simpa using hmax (by simp only [maxLen]; omega)) (by rw [← hcs]; exact hl)
 simp only [Result.andThen_ok, upon]
 simpa using this
end
theorem grow1_fn (m : Mem) (b n : Nat) (h0 : 0 < n) (hn : n ≤ 1000000000) :
  Ev.Fn Tryz.prog 156 [.pointer (some ⟨b, 0, none⟩), .int .i64 n] m [(b, bdO (some ⟨b, 0, none⟩) (.slice none 0 0))] fun m' L' u => u = .tuple (toArr []) ∧ m' = m ∧ BldN b [] L' := by
 refine Fn.enter (N := 30) hX Tryz.func156 rfl rfl (by show _ ≤ _; simp) (fun w0 hL => ?_)
 conv => whnf
 generalize keys [(b, bdO (some ⟨b, 0, none⟩) (.slice none 0 0))] = S0 at hL ⊢
 replace hL : Ev.Loc m S0 w0 m [(b, .cells (toArr [.pointer (some ⟨b, 0, none⟩), .slice none 0 0]) 193 (0, 0))] w0 := hL
 refine DrawReq.plan hX (.fst 0 (.fst 1 (.fst 2 (.fst 3 (.fst 6 (.fst 9 (.fst 10 (.fst 11 (.fst 12 (.fst 13 (.alt 4 (.fst 5 (.fst 7 (.alt 8 (.fst 14 (.fst 15 (.done))) (.stop)))) (.stop)))))))))))) [(b, .cells (toArr [.pointer (some ⟨b, 0, none⟩), .slice none 0 0]) 193 (0, 0))] (by kernel_rfl) (by kernel_rfl) hL id ?_
 clear hL
 intro w hL
 refine goq ?_;try(clear hL;intro w hL)
 refine GenReq.cap rfl rfl rfl rfl ?_
 conv => whnf
 repeat ((first | refine SReq.mk hL ?_ | (refine ArReq.i64 (by simp; try omega) (by simp; try omega) ?_) | (refine goq1 ?_;try(clear hL;intro w hL))); conv => whnf)
 refine GenReq.makeNoZero n rfl rfl rfl rfl (by omega) (by omega) hL ?_
 clear hL
 intro g cur w hcl hcm hL
 conv => whnf
 repeat ((first | refine SReq.mk (hL.one 1 rfl) ?_ | refine SlReq.mk 0 0 rfl rfl (by omega) (by omega) ?_ | (refine goq1 ?_;try(clear hL;intro w hL))); conv => whnf)
 have he : (if cur.length = 0 then some (⟨g, 0, none⟩ : Addr) else Option.map (fun x : Addr => x.add (scale 0 1)) (some (⟨g, 0, none⟩ : Addr))) = some ⟨g, 0, none⟩ := by split <;> rfl
 refine RunReq.mk (run_copy_none w 26 26 3 5 _ _ _ _ _ _ Tryz.underlying26 (by kernel_rfl) rfl) ?_
 conv => whnf
 repeat ((first | (refine StReq.own hX rfl 1 hL rfl rfl rfl rfl ?_; clear hL; intro w hL) | (refine go1 ?_;try(clear hL;intro w hL))); conv => whnf)
 replace hL : Ev.Loc m S0 w0 m [(g, .cells (toArr cur) 5 (0, 0)), (b, .cells (toArr [.pointer (some ⟨b, 0, none⟩), .slice (if cur.length = 0 then some (⟨g, 0, none⟩ : Addr) else Option.map (fun x : Addr => x.add (scale 0 1)) (some (⟨g, 0, none⟩ : Addr))) 0 cur.length]) 193 (0, 0))] w := hL
 rw [he] at hL
 exact RetReq.mk (hL.perm (List.Perm.swap _ _ _)) ⟨rfl, rfl, ⟨_, _, _, rfl, .inr rfl, OwnS.block (n := 0) (Nat.zero_le _) hcm (Nat.mul_one _).symm⟩, _, _, _, rfl, fun h => by cases h⟩
theorem grow_fn (m : Mem) (b n : Nat) (p : Option Addr) (hp : p = none ∨ p = some ⟨b, 0, none⟩) (h0 : 0 < n) (hn : n ≤ 1000000000) :
  Ev.Fn Tryz.prog 110 [.pointer (some ⟨b, 0, none⟩), .int .i64 n] m [(b, bdO p (.slice none 0 0))] fun m' L' u => u = .tuple (toArr []) ∧ m' = m ∧ BldN b [] L' := by
 refine Fn.enter (N := 25) hX Tryz.func110 rfl rfl (by show _ ≤ _; simp) (fun w0 hL => ?_)
 conv => whnf
 generalize keys [(b, bdO p (.slice none 0 0))] = S0 at hL ⊢
 refine go ?_;try(clear hL;intro w hL)
 refine CallReq.mk (L1 := [(b, bdO p (.slice none 0 0))]) (L2 := []) (copyCheck_fn m b p _ hp) hL ?_
 clear hL
 rintro u m1 L' w hL - ⟨rfl, rfl, rfl⟩
 replace hL : Ev.Loc m1 S0 w0 m1 [(b, .cells (toArr [.pointer (some ⟨b, 0, none⟩), .slice none 0 0]) 193 (0, 0))] w := hL
 refine go ?_;try(clear hL;intro w hL)
 refine DrawReq.plan hX (.fst 0 (.fst 1 (.fst 2 (.fst 3 (.fst 5 (.fst 6 (.fst 7 (.fst 8 (.fst 9 (.fst 11 (.alt 4 (.fst 10 (.fst 12 (.done))) (.stop)))))))))))) [(b, .cells (toArr [.pointer (some ⟨b, 0, none⟩), .slice none 0 0]) 193 (0, 0))] (by kernel_rfl) (by kernel_rfl) hL id ?_
 clear hL
 intro w hL
 refine goq ?_;try(clear hL;intro w hL)
 refine GenReq.cap rfl rfl rfl rfl ?_
 conv => whnf
 repeat ((first | refine SReq.mk hL ?_ | (refine goq1 ?_;try(clear hL;intro w hL))); conv => whnf)
 refine BrReq.dec (fun _ => ?_) (fun h => absurd (show ((0 : Nat) : Int) - ((0 : Nat) : Int) < n by omega) h)
 refine go ?_;try(clear hL;intro w hL)
 refine CallReq.mk (L1 := [(b, .cells (toArr [.pointer (some ⟨b, 0, none⟩), .slice none 0 0]) 193 (0, 0))]) (L2 := []) (grow1_fn m1 b n h0 hn) hL ?_
 clear hL
 rintro u m2 L' w hL - ⟨rfl, rfl, hb⟩
 refine go ?_;try(clear hL;intro w hL)
 rw [List.append_nil] at hL
 exact RetReq.mk hL ⟨rfl, rfl, hb⟩
theorem callWS {m0 m : Mem} {S : List Nat} {w0 w : World} {b : Nat} {l s : List UInt8} {L : Own} {K : Value → World → Prop} (h : Bld b l L) (hl : l.length + s.length ≤ 1000000000) (hls : l ≠ [] ∨ s ≠ []) (hL : Ev.Loc m0 S w0 m L w)
  (k : ∀ L' w', Bld b (l ++ s) L' → Ev.Loc m0 S w0 m L' w' → K (.tuple (toArr [.int .i64 s.length, .nilIface])) w') : CallReq Tryz.prog 106 (toArr [.pointer (some ⟨b, 0, none⟩), .string ⟨s.toArray⟩]) w K :=
 CallReq.mk (L1 := L) (L2 := []) (writeString_fn m b l s L h hl hls) (by rw [List.append_nil]; exact hL) fun u m' L1' w' hl hle ⟨h1, h2, h3⟩ => by
  subst h1 h2
  rw [List.append_nil] at hl
  exact k L1' w' h3 hl
set_option maxHeartbeats 2000000 in
theorem callWSN {m0 m : Mem} {S : List Nat} {w0 w : World} {b : Nat} {l s : List UInt8} {L : Own} {K : Value → World → Prop} (h : Bld b l L) (hl : l.length + s.length ≤ 1000000000) (hls : l ≠ [] ∨ s ≠ [] ∨ ∃ p v L1, L = (b, bdO p v) :: L1 ∧ v ≠ .slice none 0 0) (hL : Ev.Loc m0 S w0 m L w)
  (k : ∀ L' w', Bld b (l ++ s) L' → Ev.Loc m0 S w0 m L' w' → K (.tuple (toArr [.int .i64 s.length, .nilIface])) w') : CallReq Tryz.prog 106 (toArr [.pointer (some ⟨b, 0, none⟩), .string ⟨s.toArray⟩]) w K :=
 CallReq.mk (L1 := L) (L2 := []) (writeStringN_fn m b l s L h hl hls) (by rw [List.append_nil]; exact hL) fun u m' L1' w' hl hle ⟨h1, h2, h3⟩ => by
  subst h1 h2
  rw [List.append_nil] at hl
  exact k L1' w' h3 hl
theorem join_fn (m : Mem) (v : Value) (l : List (List UInt8)) (sep : List UInt8) (hv : Sl m 1 isS v l) (hne : ∀ s ∈ l, s ≠ []) (hl : l.length ≤ 100000) (hs : sep.length ≤ 1) (ht : totL l ≤ 100000000) :
  FnV Tryz.prog 77 [v, .string (bs sep)] m (.string (bs (jn sep l))) := by
 have hmx : maxLen = 9223372036854775807 := rfl
 have hv' := hv
 obtain ⟨A, n, c, rfl, hn, hc, hm, -⟩ := hv
 have hsz : (bs sep).size = sep.length := bs_size sep
 refine Fn.enter (N := 75) hX Tryz.func77 rfl rfl (by show _ ≤ _; simp) (fun w0 hL => ?_)
 conv => whnf
 refine go ?_;try(clear hL;intro w hL)
 refine BrReq.dec (fun h0 => ?_) (fun h0 => ?_)
 ·have e : l = [] := List.eq_nil_of_length_eq_zero (by omega)
  subst e
  refine go ?_;try(clear hL;intro w hL)
  exact RetReq.mk hL ⟨rfl, rfl⟩
 refine go ?_;try(clear hL;intro w hL)
 refine BrReq.dec (fun h1 => ?_) (fun h1 => ?_)
 ·obtain ⟨a1, rfl, hx⟩ := Sl.one hv' (i := 0) (by omega)
  conv => whnf
  repeat ((first | refine Idx2Req.mk 0 a1 rfl (by omega) rfl ?_ | refine LdReq.one hX rfl rfl hL hx ?_ | (refine go1 ?_;try(clear hL;intro w hL))); conv => whnf)
  match l, hn with
  | [a], _ => exact RetReq.mk hL ⟨rfl, rfl⟩
  | [], hn => exact absurd hn (by simp; omega)
  | a :: b :: r, hn => exact absurd hn (by simp; omega)
 have hn2 : 2 ≤ n := by omega
 have hsep : sep.length * (n - 1) ≤ n - 1 := Nat.le_trans (Nat.mul_le_mul_right _ hs) (by omega)
 refine gos ?_;try(clear hL;intro w hL)
 refine SeqReq.cut hX (fun d : Nat => [(5, .int .i64 d)]) [0, 1] (fun d w => d = sep.length * (n - 1) ∧ Ev.Loc m [] w0 m [] w) ?_ ?_
 ·refine gos ?_;try(clear hL;intro w hL)
  refine BrReq.dec (fun h2 => ?_) (fun h2 => ?_)
  ·have hs1 : sep.length = 1 := by rw [hsz] at h2; omega
   have hs2 : (bs sep).size = 1 := by omega
   have hq : 2 ≤ 9223372036854775807 / (n - 1) := (Nat.le_div_iff_mul_le (by omega)).2 (by omega)
   conv => whnf
   repeat ((first | refine DivReq.i64 (a := 9223372036854775807) (k := n - 1) (by omega) (by omega) (by omega) ?_ | (refine go1 ?_;try(clear hL;intro w hL))); conv => whnf)
   refine BrReq.no (by rw [hs2]; omega) ?_
   conv => whnf
   repeat ((first | (refine ArReq.i64 (by rw [hs2]; omega) (by rw [hs2]; omega) ?_) | (refine go1 ?_;try(clear hL;intro w hL))); conv => whnf)
   refine ⟨(n - 1), ⟨by rw [hs1, Nat.one_mul], hL⟩, ?_, ?_⟩
   ·repeat (first | exact trivial | (refine And.intro (by (conv => lhs; whnf) <;> (conv => rhs; whnf) <;> (first | rfl | ((rw [hs2]; exact congrArg (Value.int .i64) (by omega))))) ?_))
   ·repeat (first | exact trivial | (refine And.intro (by (conv => lhs; whnf) <;> (conv => rhs; whnf) <;> (first | rfl | ((rw [hs2]; exact congrArg (Value.int .i64) (by omega))))) ?_))
  ·have hs1 : sep.length = 0 := by rw [hsz] at h2; omega
   refine go ?_;try(clear hL;intro w hL)
   refine ⟨0, ⟨by rw [hs1, Nat.zero_mul], hL⟩, ?_, ?_⟩
   ·repeat (first | exact trivial | (refine And.intro (by (conv => lhs; whnf) <;> (conv => rhs; whnf) <;> (first | rfl)) ?_))
   ·repeat (first | exact trivial | (refine And.intro (by (conv => lhs; whnf) <;> (conv => rhs; whnf) <;> (first | rfl)) ?_))
 clear hL
 rintro d w f ⟨hd, hL⟩
 refine go ?_;try(clear hL;intro w hL)
 refine LoopReq.inv hX (fun s : Nat × Nat => [(5, .int .i64 s.1), (41, .int .i64 s.2)]) [0, 1, 39, 40]
  (fun s w => (s.2 ≤ n ∧ s.1 = d + totL (l.take s.2)) ∧ Ev.Loc m [] w0 m [] w) (fun s => n - s.2) (d, 0)
  ⟨⟨by omega, by simp [totL]⟩, hL⟩ ⟨rfl, rfl, trivial⟩ ?_
 clear hL
 rintro ⟨s, j⟩ w e ⟨⟨hj, hs3⟩, hL⟩
 simp only at hj hs3
 have htl := totL_le (l := l) j
 refine go ?_;try(clear hL;intro w hL)
 refine BrReq.dec (fun hlt => ?_) (fun hlt => ?_)
 ·have hj1 : j < l.length := by simp only at hlt; omega
  obtain ⟨a1, rfl, hx⟩ := Sl.one hv' hj1
  have h1 := tot_one hj1
  have htk := totL_take hj1
  have hz1 := bs_size l[j]
  conv => whnf
  repeat ((first | (refine Idx2Req.mk j a1 rfl (by simp only at hlt; omega) rfl ?_) | refine LdReq.one hX rfl rfl hL hx ?_ | (refine ArReq.i64 (by simp only; omega) (by simp only; omega) ?_) | (refine go1 ?_;try(clear hL;intro w hL))); conv => whnf)
  refine BrReq.no (by simp only; omega) ?_
  conv => whnf
  repeat ((first | (refine ArReq.i64 (by simp only; omega) (by simp only; omega) ?_) | (refine go1 ?_;try(clear hL;intro w hL))); conv => whnf)
  refine ⟨(s + l[j].length, j + 1), ⟨⟨by simp only at hlt ⊢; omega, by simp only; omega⟩, hL⟩, by first | omega | (simp only; omega) | (simp only [List.length_cons, List.length_append]; omega), ?_, ?_⟩
  ·repeat (first | exact trivial | (refine And.intro (by (conv => lhs; whnf) <;> (conv => rhs; whnf) <;> (first | rfl | ((rw [hz1]; exact congrArg (Value.int .i64) (by simp only; omega))))) ?_))
  ·repeat (first | exact trivial | (refine And.intro (by (conv => lhs; whnf) <;> (conv => rhs; whnf) <;> (first | rfl | ((rw [hz1]; exact congrArg (Value.int .i64) (by simp only; omega))))) ?_))
 have ej : j = l.length := by simp only at hlt; omega
 subst ej
 rw [List.take_length] at hs3
 have hl0 : 0 < l.length := by omega
 have hne0 := hne _ (List.getElem_mem hl0)
 have ht0 := tot_one hl0
 have hp0 := List.length_pos_iff.2 hne0
 obtain ⟨a1, ea1, hx0⟩ := Sl.one hv' hl0
 refine go ?_;try(clear hL;intro w hL)
 refine NewReq.mk hL ?_
 clear hL
 intro b8 w hL
 conv => whnf
 refine go ?_;try(clear hL;intro w hL)
 refine CallReq.mk (L1 := [(b8, bdO none (.slice none 0 0))]) (L2 := []) (grow_fn m b8 s none (.inl rfl) (by omega) (by omega)) hL ?_
 clear hL
 rintro u m2 L w hL - ⟨rfl, rfl, hB, hBn⟩
 rw [List.append_nil] at hL
 conv => whnf
 repeat ((first | refine Idx2Req.mk 0 a1 rfl (by omega) ea1 ?_ | refine LdReq.one hX rfl rfl hL hx0 ?_ | (refine go1 ?_;try(clear hL;intro w hL))); conv => whnf)
 refine callWS hB (by simp; omega) (.inr hne0) hL ?_
 clear hL hB
 intro L w hB hL
 rw [List.nil_append] at hB
 have hsub := hv'.sub (lo := 1) (hi := n) (by omega) (Nat.le_refl _)
 rw [hn, List.take_length] at hsub
 conv => whnf
 repeat ((first | refine SlReq.mk 1 n rfl rfl (by omega) (by omega) ?_ | (refine go1 ?_;try(clear hL;intro w hL))); conv => whnf)
 have hdl : (l.drop 1).length = n - 1 := by rw [List.length_drop]; omega
 have hjl := jnT_len sep (l.drop 1)
 have htd : l[0].length + totL (l.drop 1) = totL l := by
  cases l with
  | nil => exact absurd hl0 (by simp)
  | cons a r => simp [totL]
 rw [hdl] at hjl
 have hcut : l = l[0] :: l.drop 1 := by
  cases l with
  | nil => exact absurd hl0 (by simp)
  | cons a r => rfl
 generalize l[0] = s0 at hB hne0 hp0 htd hcut
 generalize l.drop 1 = l1 at hsub hdl hjl htd hcut
 have hjm : ∀ j, (jnT sep (l1.take j)).length ≤ (jnT sep l1).length := fun j => by
  rw [jnT_len, jnT_len]
  have h1 := totL_le (l := l1) j
  have h2 : (l1.take j).length * sep.length ≤ l1.length * sep.length := Nat.mul_le_mul_right _ (by rw [List.length_take]; omega)
  omega
 have hcm : (n - 1) * sep.length ≤ n - 1 := by rw [Nat.mul_comm]; exact hsep
 refine LoopReq.inv hX (fun j : Nat => [(65, .int .i64 j)]) [1, 8, 63, 64]
  (fun j w => j ≤ n - 1 ∧ ∃ L, Bld b8 (s0 ++ jnT sep (l1.take j)) L ∧ Ev.Loc m2 [] w0 m2 L w) (fun j => n - 1 - j) 0
  ⟨by omega, L, by simpa [jnT] using hB, hL⟩ ⟨rfl, trivial⟩ ?_
 clear hL hB
 rintro j w e2 ⟨hj, L, hB, hL⟩
 have hjj := hjm j
 refine go ?_;try(clear hL;intro w hL)
 refine BrReq.dec (fun hlt => ?_) (fun hlt => ?_)
 ·have hj1 : j < l1.length := by omega
  obtain ⟨a2, ea2, hx⟩ := Sl.one hsub hj1
  have htk := jnT_take sep hj1
  have hj2 := hjm (j + 1)
  have hlk : (jnT sep (l1.take (j + 1))).length = (jnT sep (l1.take j)).length + sep.length + l1[j].length := by rw [htk, List.length_append, List.length_append]
  conv => whnf
  repeat ((first | refine Idx2Req.mk j a2 rfl (by omega) ea2 ?_ | refine LdReq.one hX rfl rfl hL hx ?_ | (refine go1 ?_;try(clear hL;intro w hL))); conv => whnf)
  refine callWS hB (by rw [List.length_append]; omega) (.inl (by simp [hne0])) hL ?_
  clear hL hB
  intro L w hB hL
  refine go ?_;try(clear hL;intro w hL)
  refine callWS hB (by rw [List.length_append, List.length_append]; omega) (.inl (by simp [hne0])) hL ?_
  clear hL hB
  intro L w hB hL
  rw [List.append_assoc, List.append_assoc, ← List.append_assoc (jnT _ _), ← htk] at hB
  refine go ?_;try(clear hL;intro w hL)
  exact rnd (j + 1) ⟨by omega, L, hB, hL⟩
 ·have ej : j = l1.length := by omega
  rw [ej, List.take_length] at hB
  refine go ?_;try(clear hL;intro w hL)
  refine CallReq.mk (L1 := L) (L2 := []) (string_fn m2 b8 _ L hB (by simp [hne0])) (by rw [List.append_nil]; exact hL) ?_
  clear hL
  rintro u m3 L' w hL - ⟨rfl, rfl, rfl⟩
  refine go ?_;try(clear hL;intro w hL)
  exact RetReq.mk hL ⟨rfl, by rw [hcut, jn_cons]; rfl⟩
set_option maxHeartbeats 1000000 in
theorem join1_fn (m : Mem) (v : Value) (l : List (List UInt8)) (sep : List UInt8) (hv : Sl m 1 isS v l) (hl : l.length ≤ 100000) (hs1' : sep.length = 1) (ht : totL l ≤ 990000000) :
  FnV Tryz.prog 77 [v, .string (bs sep)] m (.string (bs (jn sep l))) := by
 have hmx : maxLen = 9223372036854775807 := rfl
 have hs : sep.length ≤ 1 := by omega
 have hsne : sep ≠ [] := fun e => by rw [e] at hs1'; simp at hs1'
 have hv' := hv
 obtain ⟨A, n, c, rfl, hn, hc, hm, -⟩ := hv
 have hsz : (bs sep).size = sep.length := bs_size sep
 refine Fn.enter (N := 75) hX Tryz.func77 rfl rfl (by show _ ≤ _; simp) (fun w0 hL => ?_)
 conv => whnf
 refine go ?_;try(clear hL;intro w hL)
 refine BrReq.dec (fun h0 => ?_) (fun h0 => ?_)
 ·have e : l = [] := List.eq_nil_of_length_eq_zero (by omega)
  subst e
  refine go ?_;try(clear hL;intro w hL)
  exact RetReq.mk hL ⟨rfl, rfl⟩
 refine go ?_;try(clear hL;intro w hL)
 refine BrReq.dec (fun h1 => ?_) (fun h1 => ?_)
 ·obtain ⟨a1, rfl, hx⟩ := Sl.one hv' (i := 0) (by omega)
  conv => whnf
  repeat ((first | refine Idx2Req.mk 0 a1 rfl (by omega) rfl ?_ | refine LdReq.one hX rfl rfl hL hx ?_ | (refine go1 ?_;try(clear hL;intro w hL))); conv => whnf)
  match l, hn with
  | [a], _ => exact RetReq.mk hL ⟨rfl, rfl⟩
  | [], hn => exact absurd hn (by simp; omega)
  | a :: b :: r, hn => exact absurd hn (by simp; omega)
 have hn2 : 2 ≤ n := by omega
 have hsep : sep.length * (n - 1) ≤ n - 1 := Nat.le_trans (Nat.mul_le_mul_right _ hs) (by omega)
 refine gos ?_;try(clear hL;intro w hL)
 refine SeqReq.cut hX (fun d : Nat => [(5, .int .i64 d)]) [0, 1] (fun d w => d = sep.length * (n - 1) ∧ Ev.Loc m [] w0 m [] w) ?_ ?_
 ·refine gos ?_;try(clear hL;intro w hL)
  refine BrReq.dec (fun h2 => ?_) (fun h2 => ?_)
  ·have hs1 : sep.length = 1 := by rw [hsz] at h2; omega
   have hs2 : (bs sep).size = 1 := by omega
   have hq : 2 ≤ 9223372036854775807 / (n - 1) := (Nat.le_div_iff_mul_le (by omega)).2 (by omega)
   conv => whnf
   repeat ((first | refine DivReq.i64 (a := 9223372036854775807) (k := n - 1) (by omega) (by omega) (by omega) ?_ | (refine go1 ?_;try(clear hL;intro w hL))); conv => whnf)
   refine BrReq.no (by rw [hs2]; omega) ?_
   conv => whnf
   repeat ((first | (refine ArReq.i64 (by rw [hs2]; omega) (by rw [hs2]; omega) ?_) | (refine go1 ?_;try(clear hL;intro w hL))); conv => whnf)
   refine ⟨(n - 1), ⟨by rw [hs1, Nat.one_mul], hL⟩, ?_, ?_⟩
   ·repeat (first | exact trivial | (refine And.intro (by (conv => lhs; whnf) <;> (conv => rhs; whnf) <;> (first | rfl | ((rw [hs2]; exact congrArg (Value.int .i64) (by omega))))) ?_))
   ·repeat (first | exact trivial | (refine And.intro (by (conv => lhs; whnf) <;> (conv => rhs; whnf) <;> (first | rfl | ((rw [hs2]; exact congrArg (Value.int .i64) (by omega))))) ?_))
  ·have hs1 : sep.length = 0 := by rw [hsz] at h2; omega
   refine go ?_;try(clear hL;intro w hL)
   refine ⟨0, ⟨by rw [hs1, Nat.zero_mul], hL⟩, ?_, ?_⟩
   ·repeat (first | exact trivial | (refine And.intro (by (conv => lhs; whnf) <;> (conv => rhs; whnf) <;> (first | rfl)) ?_))
   ·repeat (first | exact trivial | (refine And.intro (by (conv => lhs; whnf) <;> (conv => rhs; whnf) <;> (first | rfl)) ?_))
 clear hL
 rintro d w f ⟨hd, hL⟩
 refine go ?_;try(clear hL;intro w hL)
 refine LoopReq.inv hX (fun s : Nat × Nat => [(5, .int .i64 s.1), (41, .int .i64 s.2)]) [0, 1, 39, 40]
  (fun s w => (s.2 ≤ n ∧ s.1 = d + totL (l.take s.2)) ∧ Ev.Loc m [] w0 m [] w) (fun s => n - s.2) (d, 0)
  ⟨⟨by omega, by simp [totL]⟩, hL⟩ ⟨rfl, rfl, trivial⟩ ?_
 clear hL
 rintro ⟨s, j⟩ w e ⟨⟨hj, hs3⟩, hL⟩
 simp only at hj hs3
 have htl := totL_le (l := l) j
 refine go ?_;try(clear hL;intro w hL)
 refine BrReq.dec (fun hlt => ?_) (fun hlt => ?_)
 ·have hj1 : j < l.length := by simp only at hlt; omega
  obtain ⟨a1, rfl, hx⟩ := Sl.one hv' hj1
  have h1 := tot_one hj1
  have htk := totL_take hj1
  have hz1 := bs_size l[j]
  conv => whnf
  repeat ((first | (refine Idx2Req.mk j a1 rfl (by simp only at hlt; omega) rfl ?_) | refine LdReq.one hX rfl rfl hL hx ?_ | (refine ArReq.i64 (by simp only; omega) (by simp only; omega) ?_) | (refine go1 ?_;try(clear hL;intro w hL))); conv => whnf)
  refine BrReq.no (by simp only; omega) ?_
  conv => whnf
  repeat ((first | (refine ArReq.i64 (by simp only; omega) (by simp only; omega) ?_) | (refine go1 ?_;try(clear hL;intro w hL))); conv => whnf)
  refine ⟨(s + l[j].length, j + 1), ⟨⟨by simp only at hlt ⊢; omega, by simp only; omega⟩, hL⟩, by first | omega | (simp only; omega) | (simp only [List.length_cons, List.length_append]; omega), ?_, ?_⟩
  ·repeat (first | exact trivial | (refine And.intro (by (conv => lhs; whnf) <;> (conv => rhs; whnf) <;> (first | rfl | ((rw [hz1]; exact congrArg (Value.int .i64) (by simp only; omega))))) ?_))
  ·repeat (first | exact trivial | (refine And.intro (by (conv => lhs; whnf) <;> (conv => rhs; whnf) <;> (first | rfl | ((rw [hz1]; exact congrArg (Value.int .i64) (by simp only; omega))))) ?_))
 have ej : j = l.length := by simp only at hlt; omega
 subst ej
 rw [List.take_length] at hs3
 have hl0 : 0 < l.length := by omega
 have ht0 := tot_one hl0
 obtain ⟨a1, ea1, hx0⟩ := Sl.one hv' hl0
 have hd1 : 1 ≤ d := by rw [hd, hs1', Nat.one_mul]; omega
 refine go ?_;try(clear hL;intro w hL)
 refine NewReq.mk hL ?_
 clear hL
 intro b8 w hL
 conv => whnf
 refine go ?_;try(clear hL;intro w hL)
 refine CallReq.mk (L1 := [(b8, bdO none (.slice none 0 0))]) (L2 := []) (grow_fn m b8 s none (.inl rfl) (by omega) (by omega)) hL ?_
 clear hL
 rintro u m2 L w hL - ⟨rfl, rfl, hB, hBn⟩
 rw [List.append_nil] at hL
 conv => whnf
 repeat ((first | refine Idx2Req.mk 0 a1 rfl (by omega) ea1 ?_ | refine LdReq.one hX rfl rfl hL hx0 ?_ | (refine go1 ?_;try(clear hL;intro w hL))); conv => whnf)
 refine callWSN hB (by simp; omega) (.inr (.inr hBn)) hL ?_
 clear hL hB
 intro L w hB hL
 rw [List.nil_append] at hB
 have hsub := hv'.sub (lo := 1) (hi := n) (by omega) (Nat.le_refl _)
 rw [hn, List.take_length] at hsub
 conv => whnf
 repeat ((first | refine SlReq.mk 1 n rfl rfl (by omega) (by omega) ?_ | (refine go1 ?_;try(clear hL;intro w hL))); conv => whnf)
 have hdl : (l.drop 1).length = n - 1 := by rw [List.length_drop]; omega
 have hjl := jnT_len sep (l.drop 1)
 have htd : l[0].length + totL (l.drop 1) = totL l := by
  cases l with
  | nil => exact absurd hl0 (by simp)
  | cons a r => simp [totL]
 rw [hdl] at hjl
 have hcut : l = l[0] :: l.drop 1 := by
  cases l with
  | nil => exact absurd hl0 (by simp)
  | cons a r => rfl
 generalize l[0] = s0 at hB htd hcut
 generalize l.drop 1 = l1 at hsub hdl hjl htd hcut
 have hjm : ∀ j, (jnT sep (l1.take j)).length ≤ (jnT sep l1).length := fun j => by
  rw [jnT_len, jnT_len]
  have h1 := totL_le (l := l1) j
  have h2 : (l1.take j).length * sep.length ≤ l1.length * sep.length := Nat.mul_le_mul_right _ (by rw [List.length_take]; omega)
  omega
 have hcm : (n - 1) * sep.length ≤ n - 1 := by rw [Nat.mul_comm]; exact hsep
 refine LoopReq.inv hX (fun j : Nat => [(65, .int .i64 j)]) [1, 8, 63, 64]
  (fun j w => j ≤ n - 1 ∧ ∃ L, Bld b8 (s0 ++ jnT sep (l1.take j)) L ∧ Ev.Loc m2 [] w0 m2 L w) (fun j => n - 1 - j) 0
  ⟨by omega, L, by simpa [jnT] using hB, hL⟩ ⟨rfl, trivial⟩ ?_
 clear hL hB
 rintro j w e2 ⟨hj, L, hB, hL⟩
 have hjj := hjm j
 refine go ?_;try(clear hL;intro w hL)
 refine BrReq.dec (fun hlt => ?_) (fun hlt => ?_)
 ·have hj1 : j < l1.length := by omega
  obtain ⟨a2, ea2, hx⟩ := Sl.one hsub hj1
  have htk := jnT_take sep hj1
  have hj2 := hjm (j + 1)
  have hlk : (jnT sep (l1.take (j + 1))).length = (jnT sep (l1.take j)).length + sep.length + l1[j].length := by rw [htk, List.length_append, List.length_append]
  conv => whnf
  repeat ((first | refine Idx2Req.mk j a2 rfl (by omega) ea2 ?_ | refine LdReq.one hX rfl rfl hL hx ?_ | (refine go1 ?_;try(clear hL;intro w hL))); conv => whnf)
  refine callWS hB (by rw [List.length_append]; omega) (.inr hsne) hL ?_
  clear hL hB
  intro L w hB hL
  refine go ?_;try(clear hL;intro w hL)
  refine callWS hB (by rw [List.length_append, List.length_append]; omega) (.inl (by simp [hsne])) hL ?_
  clear hL hB
  intro L w hB hL
  rw [List.append_assoc, List.append_assoc, ← List.append_assoc (jnT _ _), ← htk] at hB
  refine go ?_;try(clear hL;intro w hL)
  exact rnd (j + 1) ⟨by omega, L, hB, hL⟩
 ·have ej : j = l1.length := by omega
  rw [ej, List.take_length] at hB
  refine go ?_;try(clear hL;intro w hL)
  refine CallReq.mk (L1 := L) (L2 := []) (string_fn m2 b8 _ L hB (fun e => by have hj2 := hjl; rw [hs1', Nat.mul_one] at hj2; have := congrArg List.length e; rw [List.length_append, List.length_nil] at this; omega)) (by rw [List.append_nil]; exact hL) ?_
  clear hL
  rintro u m3 L' w hL - ⟨rfl, rfl, rfl⟩
  refine go ?_;try(clear hL;intro w hL)
  exact RetReq.mk hL ⟨rfl, by rw [hcut, jn_cons]; rfl⟩
end Go.Proofs.YtaooenndoopgdaaGreatDoor.bd
namespace Go.Proofs.YtaooenndoopgdaaGreatDoor.ar
open Go Go.Ev Go.Proofs
def ndsC (ns : List Nd) : List Value := (ns.map ndC).flatten
theorem nds_rows (ns : List Nd) : ∀ r ∈ ns.map ndC, r.length = 8 := by
 intro r hr
 obtain ⟨x, -, rfl⟩ := List.mem_map.1 hr
 rfl
theorem nds_len (ns : List Nd) : (ndsC ns).length = ns.length * 8 := by
 unfold ndsC; rw [flat_len _ (nds_rows ns), List.length_map]
def Ar (ab : Nat) (ns : List Nd) (L : Own) : Prop := ∃ A c mb L1, L = (ab, arO (.slice A ns.length c) mb) :: (mb, mapW (ndW ns 0)) :: L1 ∧ OwnS 146 8 (.slice A ns.length c) (ndsC ns) L1
structure OkA (ns : List Nd) : Prop where
 inn : ∀ x ∈ ns, InN x
 nodup : ns.Nodup
 right : ∀ (i : Nat) (x : Nd), ns[i]? = some x → rightN x i = true
 len : ns.length ≤ 20000
def nodeN (ns : List Nd) (id : Int) : Nd × Bool := if 0 ≤ id ∧ id < ns.length then (ns.getD id.toNat nd0, true) else (nd0, false)
theorem Len_fn (m : Mem) (ab mb n c : Nat) (A : Option Addr) : FnL Tryz.prog 101 [.pointer (some ⟨ab, 0, none⟩)] m [(ab, arO (.slice A n c) mb)] (.int .i64 n) := by
 refine Fn.enter (N := 10) hX Tryz.func101 rfl rfl (by show _ ≤ _; simp) (fun w0 hL => ?_)
 conv => whnf
 generalize keys [(ab, arO (.slice A n c) mb)] = S0 at hL ⊢
 conv => whnf
 repeat ((first | refine UGenReq.nilPtr hX rfl rfl rfl rfl rfl ?_ | (refine go1 ?_;try(clear hL;intro w hL))); conv => whnf)
 exact RetReq.mk hL ⟨rfl, rfl, rfl⟩
theorem Node_fn (m : Mem) (ab : Nat) (ns : List Nd) (L : Own) (h : Ar ab ns L) (id : Int) :
  FnL Tryz.prog 69 [.pointer (some ⟨ab, 0, none⟩), .int .i64 id] m L (.tuple (toArr [.agg (toArr (ndC (nodeN ns id).1)), .bool (nodeN ns id).2])) := by
 obtain ⟨A, c, mb, L1, rfl, ho⟩ := h
 refine Fn.enter (N := 22) hX Tryz.func69 rfl rfl (by show _ ≤ _; simp) (fun w0 hL => ?_)
 conv => whnf
 generalize keys ((ab, arO (.slice A ns.length c) mb) :: (mb, mapW (ndW ns 0)) :: L1) = S0 at hL ⊢
 refine NewReq.mk hL ?_
 clear hL
 intro b4 w hL
 conv => whnf
 replace hL : Ev.Loc m S0 w0 m ([(ab, arO (.slice A ns.length c) mb)] ++ ((b4, .cells (toArr (ndC nd0)) 146 (0, 0)) :: (mb, mapW (ndW ns 0)) :: L1)) w := hL.perm (List.Perm.swap _ _ _)
 unfold nodeN
 refine go ?_;try(clear hL;intro w hL)
 by_cases h0 : 0 ≤ id
 ·conv => whnf
  repeat ((first | refine BrReq.no (by omega) ?_ | (refine go1 ?_;try(clear hL;intro w hL))); conv => whnf)
  refine CallReq.li (L1 := [(ab, arO (.slice A ns.length c) mb)]) (Len_fn m ab mb ns.length c A) hL ?_
  clear hL
  intro w hL
  replace hL : Ev.Loc m S0 w0 m ((ab, arO (.slice A ns.length c) mb) :: (b4, .cells (toArr (ndC nd0)) 146 (0, 0)) :: (mb, mapW (ndW ns 0)) :: L1) w := hL
  by_cases h1 : id < ns.length
  ·obtain ⟨i, rfl⟩ : ∃ i : Nat, id = i := ⟨id.toNat, by omega⟩
   have hi : i < ns.length := by omega
   obtain ⟨g, cur, rfl, rfl, hr, hle⟩ := ho.rowAt (nds_rows ns) (by omega) (i := i) (r := ndC ns[i]) (by rw [List.getElem?_map, List.getElem?_eq_getElem hi]; rfl)
   rw [if_pos ⟨h0, h1⟩]
   conv => whnf
   repeat ((first | refine BrReq.no (by omega) ?_ | refine Idx2Req.mk i _ rfl (by omega) rfl ?_ | (refine go1 ?_;try(clear hL;intro w hL))); conv => whnf)
   refine LdReq.ownRow hX rfl rfl hL (.t (.t (.t .h))) (r := ndC ns[i]) (by rw [scale_eq, Nat.zero_add]; exact hr) (by rw [scale_eq, Nat.zero_add]; exact hle) ?_
   refine go ?_;try(clear hL;intro w hL)
   refine RetReq.mk (hL.sublist (.cons_cons _ (.cons _ (List.Sublist.refl _)))) ⟨rfl, rfl, ?_⟩
   rw [show ns.getD ((i : Int)).toNat nd0 = ns[i] by simp [List.getD, List.getElem?_eq_getElem hi]]
   rfl
  ·rw [if_neg (fun h => h1 h.2)]
   conv => whnf
   repeat ((first | refine BrReq.yes (by omega) ?_ | (refine go1 ?_;try(clear hL;intro w hL))); conv => whnf)
   exact RetReq.mk (hL.sublist (.cons_cons _ (.cons _ (List.Sublist.refl _)))) ⟨rfl, rfl, rfl⟩
 ·rw [if_neg (fun h => h0 h.1)]
  replace hL : Ev.Loc m S0 w0 m ((ab, arO (.slice A ns.length c) mb) :: (b4, .cells (toArr (ndC nd0)) 146 (0, 0)) :: (mb, mapW (ndW ns 0)) :: L1) w := hL
  conv => whnf
  repeat ((first | refine BrReq.yes (by omega) ?_ | (refine go1 ?_;try(clear hL;intro w hL))); conv => whnf)
  exact RetReq.mk (hL.sublist (.cons_cons _ (.cons _ (List.Sublist.refl _)))) ⟨rfl, rfl, rfl⟩
def putN (ns : List Nd) (x : Nd) : List Nd × Nat × Int :=
 if rightN x ns.length = false then (ns, 0, 1) else if x ∈ ns then (ns, ns.idxOf x, 0) else if 20000 ≤ ns.length then (ns, 0, 4) else (ns ++ [x], ns.length, 0)
theorem val_inj {x y : Nd} (h : Value.agg (toArr (ndC x)) = Value.agg (toArr (ndC y))) : x = y := by
 injection h with h
 exact ndC_inj (by simpa [toArr] using congrArg Array.toList h)
theorem ndW_mem : ∀ {ns : List Nd} {i : Nat} {k v : Value}, (k, v) ∈ ndW ns i → ∃ (j : Nat) (x : Nd), ns[j]? = some x ∧ k = .agg (toArr (ndC x)) ∧ v = .int .i64 ((i + j : Nat) : Int)
 | [], i, k, v, h => by simp [ndW] at h
 | a :: l, i, k, v, h => by
   rcases List.mem_cons.1 h with h | h
   ·cases h; exact ⟨0, a, rfl, rfl, rfl⟩
   ·obtain ⟨j, x, h1, h2, h3⟩ := ndW_mem h
    exact ⟨j + 1, x, by simpa using h1, h2, by rw [h3]; congr 1; omega⟩
theorem ndW_of {x : Nd} : ∀ {ns : List Nd} {i : Nat}, x ∈ ns → ∃ y ∈ ndW ns i, y.1 = .agg (toArr (ndC x))
 | a :: l, i, h => by
   rcases List.mem_cons.1 h with rfl | h
   ·exact ⟨_, List.mem_cons_self, rfl⟩
   ·obtain ⟨y, hy, e⟩ := ndW_of (i := i + 1) h
    exact ⟨y, List.mem_cons_of_mem _ hy, e⟩
theorem ndW_snoc (x : Nd) : ∀ (ns : List Nd) (i : Nat), ndW (ns ++ [x]) i = ndW ns i ++ [(.agg (toArr (ndC x)), .int .i64 ((i + ns.length : Nat) : Int))]
 | [], i => rfl
 | a :: l, i => by simp only [List.cons_append, ndW, ndW_snoc x l (i + 1), List.length_cons]; rw [show i + 1 + l.length = i + (l.length + 1) by omega]
theorem okA_put {ns : List Nd} (h : OkA ns) {x : Nd} (hx : InN x) : OkA (putN ns x).1 := by
 unfold putN
 split
 ·exact h
 rename_i h1
 split
 ·exact h
 rename_i h2
 split
 ·exact h
 rename_i h3
 refine ⟨fun y hy => ?_, ?_, fun i y hy => ?_, by simp; omega⟩
 ·rcases List.mem_append.1 hy with hy | hy
  ·exact h.inn y hy
  ·rw [List.mem_singleton.1 hy]; exact hx
 ·exact List.nodup_append.2 ⟨h.nodup, by simp, fun a ha b hb => by rw [List.mem_singleton.1 hb]; exact fun e => h2 (e ▸ ha)⟩
 ·by_cases hi : i < ns.length
  ·rw [List.getElem?_append_left hi] at hy; exact h.right i y hy
  ·rw [List.getElem?_append_right (by omega)] at hy
   have : i - ns.length = 0 := by have := (List.getElem?_eq_some_iff.1 hy).1; simp at this; omega
   rw [this] at hy
   cases hy
   have : i = ns.length := by omega
   rw [this]; simpa using h1
set_option maxHeartbeats 2000000 in
theorem Put_fn (m : Mem) (ab : Nat) (ns : List Nd) (L : Own) (h : Ar ab ns L) (hO : OkA ns) (x : Nd) (hx : InN x) :
  Ev.Fn Tryz.prog 216 [.pointer (some ⟨ab, 0, none⟩), .agg (toArr (ndC x))] m L fun m' L' u => m' = m ∧ u = .tuple (toArr [.int .i64 ((putN ns x).2.1 : Nat), .int .i64 (putN ns x).2.2]) ∧ Ar ab (putN ns x).1 L' := by
 obtain ⟨A, c, mb, L1, rfl, ho⟩ := h
 have hlen := hO.len
 have hkeys := ndW_keys hO.inn 0
 refine Fn.enter (N := 55) hX Tryz.func216 rfl rfl (by show _ ≤ _; simp) (fun w0 hL => ?_)
 conv => whnf
 generalize keys ((ab, arO (.slice A ns.length c) mb) :: (mb, mapW (ndW ns 0)) :: L1) = S0 at hL ⊢
 refine NewReq.mk hL ?_
 clear hL
 intro b3 w hL
 conv => whnf
 replace hL : Ev.Loc m S0 w0 m ([(ab, arO (.slice A ns.length c) mb)] ++ ((b3, .cells (toArr (ndC x)) 146 (0, 0)) :: (mb, mapW (ndW ns 0)) :: L1)) w := hL.perm (List.Perm.swap _ _ _)
 conv => whnf
 repeat ((first | refine UGenReq.nilPtr hX rfl rfl rfl rfl rfl ?_ | (refine go1 ?_;try(clear hL;intro w hL))); conv => whnf)
 refine CallReq.li (L1 := [(ab, arO (.slice A ns.length c) mb)]) (right_fn m ab mb ns.length c A x) hL ?_
 clear hL
 intro w hL
 replace hL : Ev.Loc m S0 w0 m ((ab, arO (.slice A ns.length c) mb) :: (b3, .cells (toArr (ndC x)) 146 (0, 0)) :: (mb, mapW (ndW ns 0)) :: L1) w := hL
 unfold putN
 cases hr : rightN x ns.length with
 | false =>
   rw [if_pos rfl]
   refine go ?_;try(clear hL;intro w hL)
   exact RetReq.mk (hL.sublist (.cons_cons _ (.cons _ (List.Sublist.refl _)))) ⟨rfl, rfl, A, c, mb, L1, rfl, ho⟩
 | true =>
   rw [if_neg (by decide)]
   refine go ?_;try(clear hL;intro w hL)
   have hsub : ∀ w, Ev.Loc m S0 w0 m ((ab, arO (.slice A ns.length c) mb) :: (b3, .cells (toArr (ndC x)) 146 (0, 0)) :: (mb, mapW (ndW ns 0)) :: L1) w → Ev.Loc m S0 w0 m [(ab, arO (.slice A ns.length c) mb), (b3, .cells (toArr (ndC x)) 146 (0, 0))] w := fun w h => h.sublist (.cons_cons _ (.cons_cons _ (List.nil_sublist _)))
   refine DrawReq.plan hX (.fst 0 (.fst 1 (.fst 2 (.fst 3 (.fst 4 (.alt 5 (.fst 6 (.fst 7 (.fst 8 (.fst 9 (.fst 10 (.done)))))) (.stop))))))) [(ab, arO (.slice A ns.length c) mb), (b3, .cells (toArr (ndC x)) 146 (0, 0))] (by kernel_rfl) (by kernel_rfl) hL (hsub _) ?_
   clear hL
   intro w hL
   refine goq ?_;try(clear hL;intro w hL)
   refine RunReq.lookW hX rfl rfl key_nd (z := .int .i64 0) (by kernel_rfl) hL (.t (.t .h)) (isK_nd x hx) hkeys (fun hno => ?_) (fun v hv => ?_)
   ·have hnm : x ∉ ns := fun hm => by
     obtain ⟨y, hy, e⟩ := ndW_of (i := 0) hm
     exact hno y hy e
    rw [if_neg hnm]
    refine SReq.mk (hsub _ hL) ?_
    refine goq ?_;try(clear hL;intro w hL)
    refine BrReq.dec (fun hbig => ?_) (fun hbig => ?_)
    ·rw [if_pos (by omega)]
     refine go ?_;try(clear hL;intro w hL)
     exact RetReq.mk (hL.sublist (.cons_cons _ (.cons _ (List.Sublist.refl _)))) ⟨rfl, rfl, A, c, mb, L1, rfl, ho⟩
    rw [if_neg (by omega)]
    refine go ?_;try(clear hL;intro w hL)
    have hb3 : ∀ w, Ev.Loc m S0 w0 m ((ab, arO (.slice A ns.length c) mb) :: (b3, .cells (toArr (ndC x)) 146 (0, 0)) :: (mb, mapW (ndW ns 0)) :: L1) w → Ev.Loc m S0 w0 m [(b3, .cells (toArr (ndC x)) 146 (0, 0))] w := fun w h => h.sublist (.cons _ (.cons_cons _ (List.nil_sublist _)))
    refine DrawReq.plan hX (.fst 0 (.fst 1 (.fst 2 (.fst 3 (.fst 5 (.alt 4 (.alt 6 (.alt 7 (.fst 8 (.fst 9 (.alt 10 (.done) (.stop)))) (.stop)) (.stop)) (.alt 6 (.alt 4 (.alt 7 (.fst 8 (.fst 9 (.alt 10 (.done) (.stop)))) (.stop)) (.stop)) (.stop)))))))) [(b3, .cells (toArr (ndC x)) 146 (0, 0))] (by kernel_rfl) (by kernel_rfl) hL (hb3 _) ?_
    clear hL
    intro w hL
    refine goq ?_;try(clear hL;intro w hL)
    refine alt2 ?_ ?_
    ·conv => whnf
     repeat ((first | refine SReq.mk (hb3 _ hL) ?_ | (refine goq1 ?_;try(clear hL;intro w hL))); conv => whnf)
     refine NewReq.mk hL ?_
     clear hL
     intro g w hL
     conv => whnf
     replace hL : Ev.Loc m S0 w0 m ((g, .cells (toArr (ndC x)) 146 (0, 0)) :: (ab, arO (.slice A ns.length c) mb) :: (b3, .cells (toArr (ndC x)) 146 (0, 0)) :: (mb, mapW (ndW ns 0)) :: L1) w := hL
     refine SReq.mk (hb3 _ hL.drop) ?_
     refine goq ?_;try(clear hL;intro w hL)
     refine RunReq.push hX 140 146 rfl rfl rfl rfl rfl ho (L2 := [_, _, _]) (hL.perm (List.Perm.cons _ (List.perm_append_comm (l₁ := [_, _, _]) (l₂ := L1)))) rfl rfl (by rw [nds_len]; show _ + 8 ≤ _; omega) rfl ?_
     clear hL hsub hb3
     intro A2 n2 c2 L2 w hn2 ho2 hL
     have hb3 : ∀ w v, Ev.Loc m S0 w0 m ((ab, arO v mb) :: (b3, .cells (toArr (ndC x)) 146 (0, 0)) :: (mb, mapW (ndW ns 0)) :: L2) w → Ev.Loc m S0 w0 m [(b3, .cells (toArr (ndC x)) 146 (0, 0))] w := fun w v h => h.sublist (.cons _ (.cons_cons _ (List.nil_sublist _)))
     have hL := hL.back
     replace hL : Ev.Loc m S0 w0 m ((ab, arO (.slice A ns.length c) mb) :: (b3, .cells (toArr (ndC x)) 146 (0, 0)) :: (mb, mapW (ndW ns 0)) :: L2) w := hL
     rw [show ndsC ns ++ ndC x = ndsC (ns ++ [x]) by unfold ndsC; simp] at hn2 ho2
     have hn3 : n2 = (ns ++ [x]).length := by
      rw [nds_len] at hn2
      exact (Nat.eq_of_mul_eq_mul_right (show 0 < 8 by omega) hn2).symm
     subst hn3
     refine SReq.mk (hb3 _ _ hL) ?_
     refine goq ?_;try(clear hL;intro w hL)
     replace hL : Ev.Loc m S0 w0 m ((ab, arO (.slice A2 (ns ++ [x]).length c2) mb) :: (b3, .cells (toArr (ndC x)) 146 (0, 0)) :: (mb, mapW (ndW ns 0)) :: L2) w := hL
     refine SReq.mk (hb3 _ _ hL) ?_
     refine goq ?_;try(clear hL;intro w hL)
     have hsub : ∀ w, Ev.Loc m S0 w0 m ((ab, arO (.slice A2 (ns ++ [x]).length c2) mb) :: (b3, .cells (toArr (ndC x)) 146 (0, 0)) :: (mb, mapW (ndW ns 0)) :: L2) w → Ev.Loc m S0 w0 m [(ab, arO (.slice A2 (ns ++ [x]).length c2) mb), (b3, .cells (toArr (ndC x)) 146 (0, 0))] w := fun w h => h.sublist (.cons_cons _ (.cons_cons _ (List.nil_sublist _)))
     refine DrawReq.plan hX (.fst 0 (.fst 1 (.fst 2 (.fst 3 (.fst 4 (.fst 5 (.alt 6 (.done) (.stop)))))))) [(ab, arO (.slice A2 (ns ++ [x]).length c2) mb), (b3, .cells (toArr (ndC x)) 146 (0, 0))] (by kernel_rfl) (by kernel_rfl) hL (hsub _) ?_
     clear hL
     intro w hL
     refine goq ?_;try(clear hL;intro w hL)
     refine RunUReq.updW hX rfl rfl key_nd (k := .agg (toArr (ndC x))) (v := .int .i64 ns.length) 2 hL rfl (isK_nd x hx) hkeys (fun _ w hL => ?_) (fun q u hq => ?_)
     rotate_left
     ·refine absurd ?_ hnm
      obtain ⟨j, y, hj, e1, -⟩ := ndW_mem (List.mem_of_getElem? hq)
      obtain rfl := val_inj e1
      exact List.mem_of_getElem? hj
     replace hL : Ev.Loc m S0 w0 m ((ab, arO (.slice A2 (ns ++ [x]).length c2) mb) :: (b3, .cells (toArr (ndC x)) 146 (0, 0)) :: (mb, mapW (ndW ns 0 ++ [(.agg (toArr (ndC x)), .int .i64 ns.length)])) :: L2) w := hL
     refine SReq.mk (hL.sublist (.cons_cons _ (.cons_cons _ (List.nil_sublist _)))) ?_
     refine goq ?_;try(clear hL;intro w hL)
     refine RetReq.mk (hL.sublist (.cons_cons _ (.cons _ (List.Sublist.refl _)))) ⟨rfl, rfl, A2, c2, mb, L2, ?_, ho2⟩
     rw [ndW_snoc, Nat.zero_add]
    ·refine goq ?_;try(clear hL;intro w hL)
     refine NewReq.mk hL ?_
     clear hL
     intro g w hL
     conv => whnf
     replace hL : Ev.Loc m S0 w0 m ((g, .cells (toArr (ndC x)) 146 (0, 0)) :: (ab, arO (.slice A ns.length c) mb) :: (b3, .cells (toArr (ndC x)) 146 (0, 0)) :: (mb, mapW (ndW ns 0)) :: L1) w := hL
     refine SReq.mk (hb3 _ hL.drop) ?_
     refine goq ?_;try(clear hL;intro w hL)
     conv => whnf
     repeat ((first | refine SReq.mk (hb3 _ hL.drop) ?_ | (refine goq1 ?_;try(clear hL;intro w hL))); conv => whnf)
     refine RunReq.push hX 140 146 rfl rfl rfl rfl rfl ho (L2 := [_, _, _]) (hL.perm (List.Perm.cons _ (List.perm_append_comm (l₁ := [_, _, _]) (l₂ := L1)))) rfl rfl (by rw [nds_len]; show _ + 8 ≤ _; omega) rfl ?_
     clear hL hsub hb3
     intro A2 n2 c2 L2 w hn2 ho2 hL
     have hb3 : ∀ w v, Ev.Loc m S0 w0 m ((ab, arO v mb) :: (b3, .cells (toArr (ndC x)) 146 (0, 0)) :: (mb, mapW (ndW ns 0)) :: L2) w → Ev.Loc m S0 w0 m [(b3, .cells (toArr (ndC x)) 146 (0, 0))] w := fun w v h => h.sublist (.cons _ (.cons_cons _ (List.nil_sublist _)))
     have hL := hL.back
     replace hL : Ev.Loc m S0 w0 m ((ab, arO (.slice A ns.length c) mb) :: (b3, .cells (toArr (ndC x)) 146 (0, 0)) :: (mb, mapW (ndW ns 0)) :: L2) w := hL
     rw [show ndsC ns ++ ndC x = ndsC (ns ++ [x]) by unfold ndsC; simp] at hn2 ho2
     have hn3 : n2 = (ns ++ [x]).length := by
      rw [nds_len] at hn2
      exact (Nat.eq_of_mul_eq_mul_right (show 0 < 8 by omega) hn2).symm
     subst hn3
     refine SReq.mk (hb3 _ _ hL) ?_
     refine goq ?_;try(clear hL;intro w hL)
     replace hL : Ev.Loc m S0 w0 m ((ab, arO (.slice A2 (ns ++ [x]).length c2) mb) :: (b3, .cells (toArr (ndC x)) 146 (0, 0)) :: (mb, mapW (ndW ns 0)) :: L2) w := hL
     refine SReq.mk (hb3 _ _ hL) ?_
     refine goq ?_;try(clear hL;intro w hL)
     have hsub : ∀ w, Ev.Loc m S0 w0 m ((ab, arO (.slice A2 (ns ++ [x]).length c2) mb) :: (b3, .cells (toArr (ndC x)) 146 (0, 0)) :: (mb, mapW (ndW ns 0)) :: L2) w → Ev.Loc m S0 w0 m [(ab, arO (.slice A2 (ns ++ [x]).length c2) mb), (b3, .cells (toArr (ndC x)) 146 (0, 0))] w := fun w h => h.sublist (.cons_cons _ (.cons_cons _ (List.nil_sublist _)))
     refine DrawReq.plan hX (.fst 0 (.fst 1 (.fst 2 (.fst 3 (.fst 4 (.fst 5 (.alt 6 (.done) (.stop)))))))) [(ab, arO (.slice A2 (ns ++ [x]).length c2) mb), (b3, .cells (toArr (ndC x)) 146 (0, 0))] (by kernel_rfl) (by kernel_rfl) hL (hsub _) ?_
     clear hL
     intro w hL
     refine goq ?_;try(clear hL;intro w hL)
     refine RunUReq.updW hX rfl rfl key_nd (k := .agg (toArr (ndC x))) (v := .int .i64 ns.length) 2 hL rfl (isK_nd x hx) hkeys (fun _ w hL => ?_) (fun q u hq => ?_)
     rotate_left
     ·refine absurd ?_ hnm
      obtain ⟨j, y, hj, e1, -⟩ := ndW_mem (List.mem_of_getElem? hq)
      obtain rfl := val_inj e1
      exact List.mem_of_getElem? hj
     replace hL : Ev.Loc m S0 w0 m ((ab, arO (.slice A2 (ns ++ [x]).length c2) mb) :: (b3, .cells (toArr (ndC x)) 146 (0, 0)) :: (mb, mapW (ndW ns 0 ++ [(.agg (toArr (ndC x)), .int .i64 ns.length)])) :: L2) w := hL
     refine SReq.mk (hL.sublist (.cons_cons _ (.cons_cons _ (List.nil_sublist _)))) ?_
     refine goq ?_;try(clear hL;intro w hL)
     refine RetReq.mk (hL.sublist (.cons_cons _ (.cons _ (List.Sublist.refl _)))) ⟨rfl, rfl, A2, c2, mb, L2, ?_, ho2⟩
     rw [ndW_snoc, Nat.zero_add]
   ·obtain ⟨j, y, hj, e1, e2⟩ := ndW_mem hv
    rw [Nat.zero_add] at e2
    subst e2
    obtain rfl := val_inj e1
    have hjl := (List.getElem?_eq_some_iff.1 hj).1
    have hm : x ∈ ns := List.mem_of_getElem? hj
    have hix : ns.idxOf x = j := by
     have := hO.nodup.idxOf_getElem j hjl
     rwa [(List.getElem?_eq_some_iff.1 hj).2] at this
    rw [if_pos hm, hix]
    refine SReq.mk (hsub _ hL) ?_
    refine goq ?_;try(clear hL;intro w hL)
    exact RetReq.mk (hL.sublist (.cons_cons _ (.cons _ (List.Sublist.refl _)))) ⟨rfl, rfl, A, c, mb, L1, rfl, ho⟩
end Go.Proofs.YtaooenndoopgdaaGreatDoor.ar
namespace Go.Proofs.YtaooenndoopgdaaGreatDoor.ar
open Go Go.Ev Go.Proofs
theorem okA_nil : OkA [] := ⟨by simp, by simp, by simp, by simp⟩
theorem New_fn (m : Mem) : Ev.Fn Tryz.prog 42 [] m [] fun m' L' u => m' = m ∧ ∃ ab, u = .pointer (some ⟨ab, 0, none⟩) ∧ Ar ab [] L' := by
 refine Fn.enter (N := 4) hX Tryz.func42 rfl rfl (by show _ ≤ _; simp) (fun w0 hL => ?_)
 conv => whnf
 refine go ?_;try(clear hL;intro w hL)
 refine RunReq.makeMapW hL ?_
 clear hL
 intro mb w hL
 refine go ?_;try(clear hL;intro w hL)
 refine NewReq.mk hL ?_
 clear hL
 intro ab w hL
 conv => whnf
 replace hL : Ev.Loc m [] w0 m ((ab, arO (.slice none 0 0) mb) :: (mb, mapW (ndW [] 0)) :: []) w := hL
 exact RetReq.mk hL ⟨rfl, ab, rfl, none, 0, mb, [], rfl, OwnS.nil _ _⟩
end Go.Proofs.YtaooenndoopgdaaGreatDoor.ar
namespace Go.Proofs.YtaooenndoopgdaaGreatDoor.ar
open Go Go.Ev Go.Proofs
def putI (ns : List Nd) (x : Nd) : Int := if (putN ns x).2.2 = 0 then ((putN ns x).2.1 : Nat) else -1
def PutQ (ab : Nat) (ns : List Nd) (i : Int) (m : Mem) : Mem → Own → Value → Prop := fun m' L' u => m' = m ∧ u = .int .i64 i ∧ Ar ab ns L'
theorem put_fn (m : Mem) (ab : Nat) (ns : List Nd) (L : Own) (hA : Ar ab ns L) (hO : OkA ns) (x : Nd) (hx : InN x) :
  Ev.Fn Tryz.prog 175 [.pointer (some ⟨ab, 0, none⟩), .agg (toArr (ndC x))] m L (PutQ ab (putN ns x).1 (putI ns x) m) := by
 refine Fn.enter (N := 16) hX Tryz.func175 rfl rfl (by show _ ≤ _; simp) (fun w0 hL => ?_)
 conv => whnf
 generalize keys L = S0 at hL ⊢
 refine NewReq.mk hL ?_
 clear hL
 intro b3 w hL
 conv => whnf
 refine go ?_;try(clear hL;intro w hL)
 refine CallReq.mk (L1 := L) (L2 := [_]) (Put_fn m ab ns L hA hO x hx) (hL.back (L1 := [_])) ?_
 clear hL
 rintro u m2 L2 w hL - ⟨rfl, rfl, hA2⟩
 unfold putI
 generalize putN ns x = r at hA2 ⊢
 have hL := hL.back (L2 := [_])
 by_cases he : r.2.2 = 0
 ·rw [if_pos he]
  conv => whnf
  repeat ((first | refine BrReq.no (fun h => h he) ?_ | (refine go1 ?_;try(clear hL;intro w hL))); conv => whnf)
  exact RetReq.mk hL.drop ⟨rfl, rfl, hA2⟩
 ·rw [if_neg he]
  conv => whnf
  repeat ((first | refine BrReq.yes he ?_ | (refine go1 ?_;try(clear hL;intro w hL))); conv => whnf)
  exact RetReq.mk hL.drop ⟨rfl, rfl, hA2⟩
def ndK (k : Int) : Nd := ⟨k, 0, 0, 0, 0, 0, 0, false⟩
theorem inN_k {k : Int} (h : 0 ≤ k ∧ k ≤ 8) : InN (ndK k) := ⟨by unfold i64 ndK; simp only; omega, by simp [u64, ndK], by simp [u64, ndK], by simp [u64, ndK], by simp [u64, ndK], by simp [i64, ndK], by simp [i64, ndK]⟩
theorem inN_a {k a : Int} (h : 0 ≤ k ∧ k ≤ 8) (ha : i64 a) : InN ⟨k, 0, 0, 0, 0, a, 0, false⟩ := ⟨by unfold i64; simp only; omega, by simp [u64], by simp [u64], by simp [u64], by simp [u64], ha, by simp [i64]⟩
theorem None_fn (m : Mem) (ab : Nat) (ns : List Nd) (L : Own) (hA : Ar ab ns L) (hO : OkA ns) :
  Ev.Fn Tryz.prog 141 [.pointer (some ⟨ab, 0, none⟩)] m L (PutQ ab (putN ns (ndK 0)).1 (putI ns (ndK 0)) m) := by
 refine Fn.enter (N := 6) hX Tryz.func141 rfl rfl (by show _ ≤ _; simp) (fun w0 hL => ?_)
 conv => whnf
 generalize keys L = S0 at hL ⊢
 refine go ?_;try(clear hL;intro w hL)
 refine CallReq.mk (L1 := L) (L2 := []) (put_fn m ab ns L hA hO (ndK 0) (inN_k (by omega))) (by rw [List.append_nil]; exact hL) ?_
 clear hL
 rintro u m2 L2 w hL - ⟨rfl, rfl, hA2⟩
 rw [List.append_nil] at hL
 refine go ?_;try(clear hL;intro w hL)
 exact RetReq.mk hL ⟨rfl, rfl, hA2⟩
theorem Empty_fn (m : Mem) (ab : Nat) (ns : List Nd) (L : Own) (hA : Ar ab ns L) (hO : OkA ns) :
  Ev.Fn Tryz.prog 142 [.pointer (some ⟨ab, 0, none⟩)] m L (PutQ ab (putN ns (ndK 1)).1 (putI ns (ndK 1)) m) := by
 refine Fn.enter (N := 6) hX Tryz.func142 rfl rfl (by show _ ≤ _; simp) (fun w0 hL => ?_)
 conv => whnf
 generalize keys L = S0 at hL ⊢
 refine go ?_;try(clear hL;intro w hL)
 refine CallReq.mk (L1 := L) (L2 := []) (put_fn m ab ns L hA hO (ndK 1) (inN_k (by omega))) (by rw [List.append_nil]; exact hL) ?_
 clear hL
 rintro u m2 L2 w hL - ⟨rfl, rfl, hA2⟩
 rw [List.append_nil] at hL
 refine go ?_;try(clear hL;intro w hL)
 exact RetReq.mk hL ⟨rfl, rfl, hA2⟩
def allX (ns : List Nd) : Nd := ⟨6, 0, 0, 0, 0, putI ns (ndK 0), 0, false⟩
theorem putN_le (ns : List Nd) (x : Nd) (h : ns.length ≤ 20000) : (putN ns x).2.1 ≤ 20000 := by
 unfold putN
 split
 ·simp
 split
 ·have := List.idxOf_le_length (a := x) (l := ns); simp only; omega
 split
 ·simp
 ·simp only; omega
theorem putI_i64 (ns : List Nd) (x : Nd) (h : ns.length ≤ 20000) : i64 (putI ns x) := by
 have := putN_le ns x h
 unfold putI i64
 split <;> omega
theorem All_fn (m : Mem) (ab : Nat) (ns : List Nd) (L : Own) (hA : Ar ab ns L) (hO : OkA ns) :
  Ev.Fn Tryz.prog 177 [.pointer (some ⟨ab, 0, none⟩)] m L (PutQ ab (putN (putN ns (ndK 0)).1 (allX ns)).1 (putI (putN ns (ndK 0)).1 (allX ns)) m) := by
 refine Fn.enter (N := 8) hX Tryz.func177 rfl rfl (by show _ ≤ _; simp) (fun w0 hL => ?_)
 conv => whnf
 generalize keys L = S0 at hL ⊢
 refine go ?_;try(clear hL;intro w hL)
 refine CallReq.mk (L1 := L) (L2 := []) (None_fn m ab ns L hA hO) (by rw [List.append_nil]; exact hL) ?_
 clear hL
 rintro u m2 L2 w hL - ⟨rfl, rfl, hA2⟩
 rw [List.append_nil] at hL
 refine go ?_;try(clear hL;intro w hL)
 refine CallReq.mk (L1 := L2) (L2 := []) (put_fn m2 ab _ L2 hA2 (okA_put hO (inN_k (by omega))) (allX ns) (inN_a (by omega) (putI_i64 ns _ hO.len))) (by rw [List.append_nil]; exact hL) ?_
 clear hL
 rintro u m3 L3 w hL - ⟨rfl, rfl, hA3⟩
 rw [List.append_nil] at hL
 refine go ?_;try(clear hL;intro w hL)
 exact RetReq.mk hL ⟨rfl, rfl, hA3⟩
end Go.Proofs.YtaooenndoopgdaaGreatDoor.ar
