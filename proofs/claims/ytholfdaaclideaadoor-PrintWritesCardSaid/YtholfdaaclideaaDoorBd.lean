/- A strings.Builder of one's own: its writers, its String. Conditions: none. -/
import Derived.Test.YtholfdaaclideaaDoorEvU
import Derived.Test.YtholfdaaclideaaDoorTab
import Derived.Lib.Builder
import Derived.Lib.UnsafeStr
import Derived.Lib.AppendStr
import Derived.Laws.Externs
import Derived.Lib.MakeNoZero
import Derived.Laws.IdiomCopy

namespace Go.Proofs.YtholfdaaclideaaDoor.bd
open Go Go.Ev Go.Proofs

/-- Bytes as numbers. -/
def bI (l : List UInt8) : List Int := l.map fun b => (b.toNat : Int)
theorem bI_append (a b : List UInt8) : bI (a ++ b) = bI a ++ bI b := by simp [bI]
theorem bI_len (l : List UInt8) : (bI l).length = l.length := by simp [bI]

def bdO (p : Option Addr) (v : Value) : Obj := .cells (toArr [.pointer p, v]) 56 (0, 0)
/-- A strings.Builder of one's own, and what it holds. -/
def Bld (b : Nat) (l : List UInt8) (L : Own) : Prop := ∃ p v L1, L = (b, bdO p v) :: L1 ∧ (p = none ∨ p = some ⟨b, 0, none⟩) ∧ OwnS 5 1 v (ints .u8 (bI l)) L1

section
variable {N : Nat} {m0 m : Mem} {S : List Nat} {w0 w : World} {L : Own}
theorem GenReq.extern {o : Oper} {ρ : Operand → Value} {c : Call} {x : Operand} {g : Nat} {v : Value} {args : List Value} {K : Value → World → Prop} (ho : o.op = .call c) (hc : c.callee = .value x) (hx : ρ x = .func (.func g) #[] #[]) (ha : c.args.toList.map ρ = args)
    (hrun : ∀ w, (callFunc g (toArr args)).run Tryd.prog w = .ok (.value v) w) (h : K v w) : GenReq Tryd.prog o ρ w K := by
  constructor
  unfold OpOk
  have hargs : c.args.map ρ = toArr args := by apply Array.ext'; rw [Array.toList_map, ha]; rfl
  have hex : execOp ρ o = callFunc g (toArr args) := by rw [← hargs]; simp [execOp, ho, resolve, hc, hx, Deferred.ofValue, invoke]
  rw [hex, hrun]
  exact h
theorem run_escape (v : Value) (w : World) : (callFunc 52 (toArr [v])).run Tryd.prog w = .ok (.value v) w := by
  rw [run_callFunc_extern Tryd.func52 (by kernel_rfl) (by kernel_rfl) (by kernel_rfl) (e := Extern.AbiNoEscape.same) (by kernel_rfl), show toArr [v] = #[v] from rfl, Lib.run_noEscape]
  rfl
theorem shape_own {i b : Nat} {cs : List Value} {t : TypeId} {f : Nat × Nat} (hL : Ev.Loc m0 S w0 m L w) (hi : Ev.look L i = some (b, .cells (toArr cs) t f)) : w.shape? b = some (t, cs.length) := by
  rw [look_eq] at hi
  have hm := hL.own _ (List.mem_of_getElem? hi)
  unfold World.shape?
  simp only at hm
  rw [hm]; simp [toArr]
theorem UGenReq.ptrNeSame {o : Oper} {ρ : Operand → Value} {t yt e : Nat} {x y : Operand} {a : Addr} {j : TypeInfo} {K : Value → Prop} (ho : o.op = .binOp .neq t x y yt) (hx : ρ x = .pointer (some a)) (hy : ρ y = .pointer (some a))
    (hu : Tryd.prog.underlying t = some (.pointer e)) (hj : Tryd.prog.info? e = some j) (h : K (.bool false)) : UGenReq Tryd.prog o ρ K := by
  have hex : execOp ρ o = (do pure (.value (← (do eqGuard .neq t x y (.pointer (some a)) (.pointer (some a)); binOp .neq t (.pointer (some a)) (.pointer (some a)) : Sem Value)))) := by simp only [execOp, ho, hx, hy]
  have hg : eqGuard .neq t x y (.pointer (some a)) (.pointer (some a)) = pure () := by simp [eqGuard]
  refine ⟨UOk.of_run _ hex (fun w => ?_) h⟩
  rw [hg]
  have := Lib.run_neq_ptr_same (w := w) a hu hj
  simp only [Sem.run_bind, Sem.run_pure, Result.andThen_ok]
  exact this
end

set_option maxRecDepth 10000 in
theorem copyCheck_fn (m : Mem) (b : Nat) (p : Option Addr) (v : Value) (hp : p = none ∨ p = some ⟨b, 0, none⟩) :
    Ev.Fn Tryd.prog 46 [.pointer (some ⟨b, 0, none⟩)] m [(b, bdO p v)] fun m' L' u => u = .tuple (toArr []) ∧ m' = m ∧ L' = [(b, bdO (some ⟨b, 0, none⟩) v)] := by
  obtain ⟨j, hj, hjs⟩ := Option.map_eq_some_iff.1 (show (Tryd.prog.info? 56).map (·.size) = some 2 by kernel_rfl)
  rcases hp with rfl | rfl
  · refine Fn.enter (N := 20) hX Tryd.func46 rfl rfl (by show _ ≤ _; simp) (fun w0 hL => ?_)
    conv => whnf
    replace hL : Ev.Loc m [b] w0 m [(b, .cells (toArr [.pointer none, v]) 56 (0, 0))] w0 := hL
    conv => whnf
    repeat ((first | refine UGenReq.nilPtr hX rfl rfl rfl rfl rfl ?_ | refine BrReq.tt ?_ | refine BrReq.ff ?_ | refine LdReq.own1 hX rfl rfl 0 hL rfl rfl ?_ | refine LdReq.own1 hX rfl rfl 1 hL rfl rfl ?_ | refine LdReq.own1 hX rfl rfl 2 hL rfl rfl ?_ | refine LdReq.own1 hX rfl rfl 3 hL rfl rfl ?_ | refine LdReq.own1 hX rfl rfl 4 hL rfl rfl ?_ | refine LdReq.own1 hX rfl rfl 5 hL rfl rfl ?_ | refine LdReq.own1 hX rfl rfl 6 hL rfl rfl ?_ | refine LdReq.ownA hX rfl rfl 0 hL rfl rfl ?_ | refine LdReq.ownA hX rfl rfl 1 hL rfl rfl ?_ | refine LdReq.ownA hX rfl rfl 2 hL rfl rfl ?_ | refine LdReq.ownA hX rfl rfl 3 hL rfl rfl ?_ | refine LdReq.ownA hX rfl rfl 4 hL rfl rfl ?_ | refine LdReq.ownA hX rfl rfl 5 hL rfl rfl ?_ | refine LdReq.ownA hX rfl rfl 6 hL rfl rfl ?_ | (refine StReq.own hX rfl 0 hL rfl rfl rfl rfl ?_; clear hL; intro w hL) | (refine StReq.own hX rfl 1 hL rfl rfl rfl rfl ?_; clear hL; intro w hL) | (refine StReq.own hX rfl 2 hL rfl rfl rfl rfl ?_; clear hL; intro w hL) | (refine StReq.own hX rfl 3 hL rfl rfl rfl rfl ?_; clear hL; intro w hL) | (refine StReq.own hX rfl 4 hL rfl rfl rfl rfl ?_; clear hL; intro w hL) | (refine StReq.own hX rfl 5 hL rfl rfl rfl rfl ?_; clear hL; intro w hL) | (refine StReq.own hX rfl 6 hL rfl rfl rfl rfl ?_; clear hL; intro w hL) | refine ArReq.i64 (by omega) (by omega) ?_ | refine SeqReq.go hX ?_ | refine OptReq.mk rfl ?_); conv => whnf)
    refine RunReq.mk (Lib.run_to_unsafe (w := w0) ⟨b, 0, none⟩ Tryd.underlying54 Tryd.underlying71 hj (by rw [hjs]; decide) (shape_own hL (i := 0) rfl) (by show (0 : Nat) < 2; omega)) ?_
    conv => whnf
    repeat ((first | refine GenReq.extern (v := .pointer (some ⟨b, 0, none⟩)) rfl rfl rfl rfl (fun w => run_escape _ w) ?_ | refine BrReq.tt ?_ | refine BrReq.ff ?_ | refine LdReq.own1 hX rfl rfl 0 hL rfl rfl ?_ | refine LdReq.own1 hX rfl rfl 1 hL rfl rfl ?_ | refine LdReq.own1 hX rfl rfl 2 hL rfl rfl ?_ | refine LdReq.own1 hX rfl rfl 3 hL rfl rfl ?_ | refine LdReq.own1 hX rfl rfl 4 hL rfl rfl ?_ | refine LdReq.own1 hX rfl rfl 5 hL rfl rfl ?_ | refine LdReq.own1 hX rfl rfl 6 hL rfl rfl ?_ | refine LdReq.ownA hX rfl rfl 0 hL rfl rfl ?_ | refine LdReq.ownA hX rfl rfl 1 hL rfl rfl ?_ | refine LdReq.ownA hX rfl rfl 2 hL rfl rfl ?_ | refine LdReq.ownA hX rfl rfl 3 hL rfl rfl ?_ | refine LdReq.ownA hX rfl rfl 4 hL rfl rfl ?_ | refine LdReq.ownA hX rfl rfl 5 hL rfl rfl ?_ | refine LdReq.ownA hX rfl rfl 6 hL rfl rfl ?_ | (refine StReq.own hX rfl 0 hL rfl rfl rfl rfl ?_; clear hL; intro w hL) | (refine StReq.own hX rfl 1 hL rfl rfl rfl rfl ?_; clear hL; intro w hL) | (refine StReq.own hX rfl 2 hL rfl rfl rfl rfl ?_; clear hL; intro w hL) | (refine StReq.own hX rfl 3 hL rfl rfl rfl rfl ?_; clear hL; intro w hL) | (refine StReq.own hX rfl 4 hL rfl rfl rfl rfl ?_; clear hL; intro w hL) | (refine StReq.own hX rfl 5 hL rfl rfl rfl rfl ?_; clear hL; intro w hL) | (refine StReq.own hX rfl 6 hL rfl rfl rfl rfl ?_; clear hL; intro w hL) | refine ArReq.i64 (by omega) (by omega) ?_ | refine SeqReq.go hX ?_ | refine OptReq.mk rfl ?_); conv => whnf)
    refine RunReq.mk (Lib.run_from_unsafe (w := w0) ⟨b, 0, none⟩ Tryd.underlying71 Tryd.underlying54 hj (shape_own hL (i := 0) rfl) (by kernel_rfl)) ?_
    conv => whnf
    repeat ((first | refine BrReq.tt ?_ | refine BrReq.ff ?_ | refine LdReq.own1 hX rfl rfl 0 hL rfl rfl ?_ | refine LdReq.own1 hX rfl rfl 1 hL rfl rfl ?_ | refine LdReq.own1 hX rfl rfl 2 hL rfl rfl ?_ | refine LdReq.own1 hX rfl rfl 3 hL rfl rfl ?_ | refine LdReq.own1 hX rfl rfl 4 hL rfl rfl ?_ | refine LdReq.own1 hX rfl rfl 5 hL rfl rfl ?_ | refine LdReq.own1 hX rfl rfl 6 hL rfl rfl ?_ | refine LdReq.ownA hX rfl rfl 0 hL rfl rfl ?_ | refine LdReq.ownA hX rfl rfl 1 hL rfl rfl ?_ | refine LdReq.ownA hX rfl rfl 2 hL rfl rfl ?_ | refine LdReq.ownA hX rfl rfl 3 hL rfl rfl ?_ | refine LdReq.ownA hX rfl rfl 4 hL rfl rfl ?_ | refine LdReq.ownA hX rfl rfl 5 hL rfl rfl ?_ | refine LdReq.ownA hX rfl rfl 6 hL rfl rfl ?_ | (refine StReq.own hX rfl 0 hL rfl rfl rfl rfl ?_; clear hL; intro w hL) | (refine StReq.own hX rfl 1 hL rfl rfl rfl rfl ?_; clear hL; intro w hL) | (refine StReq.own hX rfl 2 hL rfl rfl rfl rfl ?_; clear hL; intro w hL) | (refine StReq.own hX rfl 3 hL rfl rfl rfl rfl ?_; clear hL; intro w hL) | (refine StReq.own hX rfl 4 hL rfl rfl rfl rfl ?_; clear hL; intro w hL) | (refine StReq.own hX rfl 5 hL rfl rfl rfl rfl ?_; clear hL; intro w hL) | (refine StReq.own hX rfl 6 hL rfl rfl rfl rfl ?_; clear hL; intro w hL) | refine ArReq.i64 (by omega) (by omega) ?_ | refine SeqReq.go hX ?_ | refine OptReq.mk rfl ?_); conv => whnf)
    exact RetReq.mk hL ⟨rfl, rfl, rfl⟩
  · refine Fn.enter (N := 20) hX Tryd.func46 rfl rfl (by show _ ≤ _; simp) (fun w0 hL => ?_)
    conv => whnf
    replace hL : Ev.Loc m [b] w0 m [(b, .cells (toArr [.pointer (some ⟨b, 0, none⟩), v]) 56 (0, 0))] w0 := hL
    conv => whnf
    repeat ((first | refine UGenReq.nilPtr hX rfl rfl rfl rfl rfl ?_ | refine UGenReq.ptrNeSame rfl rfl rfl Tryd.underlying54 hj ?_ | refine BrReq.tt ?_ | refine BrReq.ff ?_ | refine LdReq.own1 hX rfl rfl 0 hL rfl rfl ?_ | refine LdReq.own1 hX rfl rfl 1 hL rfl rfl ?_ | refine LdReq.own1 hX rfl rfl 2 hL rfl rfl ?_ | refine LdReq.own1 hX rfl rfl 3 hL rfl rfl ?_ | refine LdReq.own1 hX rfl rfl 4 hL rfl rfl ?_ | refine LdReq.own1 hX rfl rfl 5 hL rfl rfl ?_ | refine LdReq.own1 hX rfl rfl 6 hL rfl rfl ?_ | refine LdReq.ownA hX rfl rfl 0 hL rfl rfl ?_ | refine LdReq.ownA hX rfl rfl 1 hL rfl rfl ?_ | refine LdReq.ownA hX rfl rfl 2 hL rfl rfl ?_ | refine LdReq.ownA hX rfl rfl 3 hL rfl rfl ?_ | refine LdReq.ownA hX rfl rfl 4 hL rfl rfl ?_ | refine LdReq.ownA hX rfl rfl 5 hL rfl rfl ?_ | refine LdReq.ownA hX rfl rfl 6 hL rfl rfl ?_ | (refine StReq.own hX rfl 0 hL rfl rfl rfl rfl ?_; clear hL; intro w hL) | (refine StReq.own hX rfl 1 hL rfl rfl rfl rfl ?_; clear hL; intro w hL) | (refine StReq.own hX rfl 2 hL rfl rfl rfl rfl ?_; clear hL; intro w hL) | (refine StReq.own hX rfl 3 hL rfl rfl rfl rfl ?_; clear hL; intro w hL) | (refine StReq.own hX rfl 4 hL rfl rfl rfl rfl ?_; clear hL; intro w hL) | (refine StReq.own hX rfl 5 hL rfl rfl rfl rfl ?_; clear hL; intro w hL) | (refine StReq.own hX rfl 6 hL rfl rfl rfl rfl ?_; clear hL; intro w hL) | refine ArReq.i64 (by omega) (by omega) ?_ | refine SeqReq.go hX ?_ | refine OptReq.mk rfl ?_); conv => whnf)
    exact RetReq.mk hL ⟨rfl, rfl, rfl⟩

theorem strCells_bI (l : List UInt8) : Lib.strCells ⟨l.toArray⟩ = ints .u8 (bI l) := by
  unfold Lib.strCells ints bI
  rw [List.map_map]; rfl
section
variable {m0 m : Mem} {S : List Nat} {w0 w : World} {L1 L2 : Own}
/-- A string that isn't empty, behind bytes of one's own. -/
theorem appendStr {ty : TypeId} {v : Value} {xs : List Value} {l : List UInt8} {K : Value → World → Prop} (hown : OwnS 5 1 v xs L1) (hL : Ev.Loc m0 S w0 m (L1 ++ L2) w) (hl : 0 < l.length) (hb : xs.length + l.length ≤ 1099511627776)
    (h : ∀ A n c L1' w', n = xs.length + l.length → OwnS 5 1 (.slice A n c) (xs ++ ints .u8 (bI l)) L1' → Ev.Loc m0 S w0 m (L1' ++ L2) w' → K (.slice A n c) w') :
    RunReq Tryd.prog (Builtin.append_ #[42, 9] ty (toArr [v, .string ⟨l.toArray⟩])) w K := by
  obtain ⟨i, hi, hz, hs1, hb1⟩ : ∃ i, Tryd.prog.info? 5 = some i ∧ i.zero = some (.int .u8 0) ∧ i.size = 1 ∧ i.bytes = 1 := by
    have g1 : (Tryd.prog.info? 5).bind (·.zero) = some (.int .u8 0) := by kernel_rfl
    have g2 : (Tryd.prog.info? 5).map (·.size) = some 1 := by kernel_rfl
    have g3 : (Tryd.prog.info? 5).map (·.bytes) = some 1 := by kernel_rfl
    cases hi : Tryd.prog.info? 5 with
    | none => rw [hi] at g2; cases g2
    | some i =>
      rw [hi] at g1 g2 g3
      exact ⟨i, rfl, g1, Option.some.inj g2, Option.some.inj g3⟩
  have hsz : (⟨l.toArray⟩ : ByteArray).size = l.length := by show l.toArray.size = _; simp
  have hsc := strCells_bI l
  have harg : toArr [v, .string ⟨l.toArray⟩] = #[v, .string ⟨l.toArray⟩] := rfl
  have hbl : (ints .u8 (bI l)).length = l.length := by simp [ints, bI_len]
  have hzc : ∀ n, (Builtin.zeroCells (Value.int .u8 0).cells n).toList.length = n := fun n => by
    rw [Array.length_toList, size_zeroCells]; show n * 1 = n; omega
  rw [harg]
  obtain ⟨n, hn, ⟨rfl, rfl, rfl⟩ | ⟨g, cap, cur, rfl, rfl, h1, h2, h3, h4⟩⟩ := hown
  · have hx : xs = [] := List.eq_nil_of_length_eq_zero (by omega)
    subst hx
    have hrun := run_append_nil_string (P := Tryd.prog) (w := w) 42 9 ty 5 i (.int .u8 0) Tryd.underlying42 Tryd.underlying9 hi hz ⟨l.toArray⟩ (by omega) (by rw [hsz]; simp at hb; omega) (by rw [hsz, hb1]; simp at hb; omega)
    have hge := grownCap_ge w l.length 0 5
    have hle := grownCap_le_maxLen w l.length 0 5 (by simp at hb; simp only [maxLen]; omega)
    rw [hsz] at hrun
    generalize grownCap w l.length 0 5 = gc at *
    have hcells : ((⟨l.toArray⟩ : ByteArray).data.map (fun b => Value.int .u8 b.toNat) ++ Builtin.zeroCells (Value.int .u8 0).cells (gc - l.length)) = toArr (ints .u8 (bI l) ++ (Builtin.zeroCells (Value.int .u8 0).cells (gc - l.length)).toList) := by
      apply Array.ext'
      rw [Array.toList_append, Array.toList_map]
      simp only [toArr, ints, bI, List.map_map]
      rfl
    refine ⟨_, _, hrun, ?_⟩
    rw [hcells]
    refine h (some ⟨w.heap.size, 0, none⟩) l.length gc [(w.heap.size, _)] _ (by simp) ⟨l.length, by simp [hbl], .inr ⟨w.heap.size, gc, _, rfl, rfl, hge, hle, ?_, ?_⟩⟩ (hL.drew.alloc _)
    · rw [List.length_append, hzc, hbl]; omega
    · rw [Nat.mul_one, List.nil_append, List.take_append_of_le_length (by omega), List.take_of_length_le (by omega)]
  · have hxn : xs.length = n := by omega
    have hg := hL.own (g, .cells (toArr cur) 5 (0, 0)) (by simp)
    have hold : ∀ j u, (cur.take n)[j]? = some u → w.cell? ((⟨g, 0, none⟩ : Addr).add j) = some u := by
      intro j u hu
      rw [addr_add, Nat.zero_add, hL.ownCell (b := g) (i := j) (c := toArr cur) (t := 5) (f := (0, 0)) (by simp)]
      rw [List.getElem?_take] at hu
      split at hu
      · simpa [toArr] using hu
      · cases hu
    rw [Nat.mul_one] at h4
    by_cases hroom : n + l.length ≤ cap
    · have hrun := Lib.run_append_room_string (P := Tryd.prog) w 42 9 ty 5 i Tryd.underlying42 Tryd.underlying9 hi hs1 g n cap (toArr cur) hg ⟨l.toArray⟩ (by rw [hsz]; exact hroom) (by rw [hsz]; simp [toArr]; omega)
      rw [hsz, hsc] at hrun
      have hcur : (toArr cur).toList = cur := by simp [toArr]
      rw [hcur] at hrun
      refine ⟨_, _, hrun, ?_⟩
      have hset := setRow_heap w g (toArr cur) (cur.take n ++ ints .u8 (bI l) ++ cur.drop (n + l.length)).toArray 5 (0, 0) hg
      refine h (some ⟨g, 0, none⟩) (n + l.length) cap [(g, .cells (toArr (cur.take n ++ ints .u8 (bI l) ++ cur.drop (n + l.length))) 5 (0, 0))] _ (by omega) ⟨n + l.length, by rw [List.length_append, hbl]; omega, .inr ⟨g, cap, _, rfl, rfl, hroom, h2, ?_, ?_⟩⟩
        (Loc.step (L1 := [(g, .cells (toArr cur) 5 (0, 0))]) hL rfl rfl rfl (by simp [World.setRow]) (fun k hk hne => ?_) (fun x hx => ?_) (by simp [keys]) (fun b hb' => .inl hb'))
      · simp only [List.length_append, List.length_take, List.length_drop, hbl]; omega
      · rw [Nat.mul_one, List.take_append_of_le_length (by simp [hbl]; omega), List.take_of_length_le (by simp [hbl]; omega), h4]
      · simp only [keys, List.mem_singleton] at hne
        simp only [World.setRow, Array.getElem?_modify]
        rw [if_neg (fun e => hne e.symm)]
      · simp only [List.mem_singleton] at hx
        subst hx
        exact hset
    · have hrun := Lib.run_append_grow_string (P := Tryd.prog) w 42 9 ty 5 i (.int .u8 0) Tryd.underlying42 Tryd.underlying9 hi hz ⟨g, 0, none⟩ n cap (cur.take n) (by rw [hs1, List.length_take]; omega) hold ⟨l.toArray⟩ (by rw [hsz]; omega) (by rw [hsz]; omega)
        (by rw [hsz, hb1, Nat.mul_one]; exact Nat.le_trans (nextslicecap_le (by omega)) (by omega))
      have hge := grownCap_ge w (n + l.length) cap 5
      have hle := grownCap_le_maxLen w (n + l.length) cap 5 (by simp only [maxLen]; omega)
      rw [hsz, hsc] at hrun
      generalize grownCap w (n + l.length) cap 5 = gc at *
      have hcells : ((cur.take n).toArray ++ (ints .u8 (bI l)).toArray ++ Builtin.zeroCells (Value.int .u8 0).cells (gc - (n + l.length))) = toArr (cur.take n ++ ints .u8 (bI l) ++ (Builtin.zeroCells (Value.int .u8 0).cells (gc - (n + l.length))).toList) := by
        apply Array.ext'; simp [toArr]
      refine ⟨_, _, hrun, ?_⟩
      rw [hcells]
      have hl0 := hL.drew.alloc (.cells (toArr (cur.take n ++ ints .u8 (bI l) ++ (Builtin.zeroCells (Value.int .u8 0).cells (gc - (n + l.length))).toList)) 5)
      refine h (some ⟨w.heap.size, 0, none⟩) (n + l.length) gc [(w.heap.size, _)] _ (by omega) ⟨n + l.length, by rw [List.length_append, hbl]; omega, .inr ⟨w.heap.size, gc, _, rfl, rfl, hge, hle, ?_, ?_⟩⟩ (hl0.sublist (.cons_cons _ (.cons _ (List.Sublist.refl _))))
      · simp only [List.length_append, List.length_take, hzc, hbl]; omega
      · rw [Nat.mul_one, List.take_append_of_le_length (by simp [hbl]; omega), List.take_of_length_le (by simp [hbl]; omega), h4]
end

theorem appendStr0 {m0 m : Mem} {S : List Nat} {w0 w : World} {L1 L2 : Own} {ty : TypeId} {v : Value} {xs : List Value} {K : Value → World → Prop} (hown : OwnS 5 1 v xs L1) (hL : Ev.Loc m0 S w0 m (L1 ++ L2) w) (hx : xs ≠ [])
    (h : ∀ w', Ev.Loc m0 S w0 m (L1 ++ L2) w' → K v w') :
    RunReq Tryd.prog (Builtin.append_ #[42, 9] ty (toArr [v, .string ⟨([] : List UInt8).toArray⟩])) w K := by
  obtain ⟨i, hi, hz, hs1, hb1⟩ : ∃ i, Tryd.prog.info? 5 = some i ∧ i.zero = some (.int .u8 0) ∧ i.size = 1 ∧ i.bytes = 1 := by
    have g1 : (Tryd.prog.info? 5).bind (·.zero) = some (.int .u8 0) := by kernel_rfl
    have g2 : (Tryd.prog.info? 5).map (·.size) = some 1 := by kernel_rfl
    have g3 : (Tryd.prog.info? 5).map (·.bytes) = some 1 := by kernel_rfl
    cases hi : Tryd.prog.info? 5 with
    | none => rw [hi] at g2; cases g2
    | some i =>
      rw [hi] at g1 g2 g3
      exact ⟨i, rfl, g1, Option.some.inj g2, Option.some.inj g3⟩
  have hsz : (⟨([] : List UInt8).toArray⟩ : ByteArray).size = 0 := rfl
  have hsc := strCells_bI []
  have hbl : (ints .u8 (bI [])).length = 0 := rfl
  have harg : toArr [v, .string ⟨([] : List UInt8).toArray⟩] = #[v, .string ⟨([] : List UInt8).toArray⟩] := rfl
  rw [harg]
  obtain ⟨n, hn, ⟨rfl, rfl, rfl⟩ | ⟨g, cap, cur, rfl, rfl, h1, h2, h3, h4⟩⟩ := hown
  · exact absurd (List.eq_nil_of_length_eq_zero (by omega)) hx
  · have hg := hL.own (g, .cells (toArr cur) 5 (0, 0)) (by simp)
    have hrun := Lib.run_append_room_string (P := Tryd.prog) w 42 9 ty 5 i Tryd.underlying42 Tryd.underlying9 hi hs1 g n cap (toArr cur) hg ⟨([] : List UInt8).toArray⟩ (by rw [hsz]; omega) (by rw [hsz]; simp [toArr]; omega)
    rw [hsz, hsc] at hrun
    have hcur : (toArr cur).toList = cur := by simp [toArr]
    rw [hcur] at hrun
    refine ⟨_, _, hrun, ?_⟩
    have hset := setRow_heap w g (toArr cur) (cur.take n ++ ints .u8 (bI []) ++ cur.drop (n + 0)).toArray 5 (0, 0) hg
    have hsame : (cur.take n ++ ints .u8 (bI []) ++ cur.drop (n + 0)).toArray = toArr cur := by
      show (cur.take n ++ [] ++ cur.drop n).toArray = _
      rw [List.append_nil, List.take_append_drop]; rfl
    refine h _ (Loc.step (L1 := [(g, .cells (toArr cur) 5 (0, 0))]) hL rfl rfl rfl (by simp [World.setRow]) (fun k hk hne => ?_) (fun x hx => ?_) (by simp [keys]) (fun b hb' => .inl hb'))
    · simp only [keys, List.mem_singleton] at hne
      simp only [World.setRow, Array.getElem?_modify]
      rw [if_neg (fun e => hne e.symm)]
    · simp only [List.mem_singleton] at hx
      subst hx
      show _ = some (Obj.cells (toArr cur) _ _)
      rw [← hsame]
      exact hset

theorem writeString_fn (m : Mem) (b : Nat) (l s : List UInt8) (L : Own) (h : Bld b l L) (hl : l.length + s.length ≤ 1000000000) (hls : l ≠ [] ∨ s ≠ []) :
    Ev.Fn Tryd.prog 42 [.pointer (some ⟨b, 0, none⟩), .string ⟨s.toArray⟩] m L fun m' L' u => u = .tuple (toArr [.int .i64 s.length, .nilIface]) ∧ m' = m ∧ Bld b (l ++ s) L' := by
  obtain ⟨p, v, L1, rfl, hp, ho⟩ := h
  obtain ⟨A, n, cc, rfl, hn⟩ := ho.slice
  have hsz : (⟨s.toArray⟩ : ByteArray).size = s.length := by show s.toArray.size = _; simp
  refine Fn.enter (N := 19) hX Tryd.func42 rfl rfl (by show _ ≤ _; simp) (fun w0 hL => ?_)
  conv => whnf
  generalize keys ((b, bdO p (Value.slice A n cc)) :: L1) = S0 at hL ⊢
  conv => whnf
  repeat ((first | refine BrReq.tt ?_ | refine BrReq.ff ?_ | refine LdReq.own1 hX rfl rfl 0 hL rfl rfl ?_ | refine LdReq.own1 hX rfl rfl 1 hL rfl rfl ?_ | refine LdReq.own1 hX rfl rfl 2 hL rfl rfl ?_ | refine LdReq.own1 hX rfl rfl 3 hL rfl rfl ?_ | refine LdReq.own1 hX rfl rfl 4 hL rfl rfl ?_ | refine LdReq.own1 hX rfl rfl 5 hL rfl rfl ?_ | refine LdReq.own1 hX rfl rfl 6 hL rfl rfl ?_ | refine LdReq.ownA hX rfl rfl 0 hL rfl rfl ?_ | refine LdReq.ownA hX rfl rfl 1 hL rfl rfl ?_ | refine LdReq.ownA hX rfl rfl 2 hL rfl rfl ?_ | refine LdReq.ownA hX rfl rfl 3 hL rfl rfl ?_ | refine LdReq.ownA hX rfl rfl 4 hL rfl rfl ?_ | refine LdReq.ownA hX rfl rfl 5 hL rfl rfl ?_ | refine LdReq.ownA hX rfl rfl 6 hL rfl rfl ?_ | (refine StReq.own hX rfl 0 hL rfl rfl rfl rfl ?_; clear hL; intro w hL) | (refine StReq.own hX rfl 1 hL rfl rfl rfl rfl ?_; clear hL; intro w hL) | (refine StReq.own hX rfl 2 hL rfl rfl rfl rfl ?_; clear hL; intro w hL) | (refine StReq.own hX rfl 3 hL rfl rfl rfl rfl ?_; clear hL; intro w hL) | (refine StReq.own hX rfl 4 hL rfl rfl rfl rfl ?_; clear hL; intro w hL) | (refine StReq.own hX rfl 5 hL rfl rfl rfl rfl ?_; clear hL; intro w hL) | (refine StReq.own hX rfl 6 hL rfl rfl rfl rfl ?_; clear hL; intro w hL) | refine ArReq.i64 (by omega) (by omega) ?_ | refine SeqReq.go hX ?_ | refine OptReq.mk rfl ?_); conv => whnf)
  refine CallReq.mk (L1 := [(b, bdO p (.slice A n cc))]) (L2 := L1) (copyCheck_fn m b p _ hp) hL ?_
  clear hL
  rintro u m1 L' w hL - ⟨rfl, rfl, rfl⟩
  replace hL : Ev.Loc m1 S0 w0 m1 ((b, .cells (toArr [.pointer (some ⟨b, 0, none⟩), .slice A n cc]) 56 (0, 0)) :: (L1 ++ [])) w := by rw [List.append_nil]; exact hL
  conv => whnf
  repeat ((first | refine BrReq.tt ?_ | refine BrReq.ff ?_ | refine LdReq.own1 hX rfl rfl 0 hL rfl rfl ?_ | refine LdReq.own1 hX rfl rfl 1 hL rfl rfl ?_ | refine LdReq.own1 hX rfl rfl 2 hL rfl rfl ?_ | refine LdReq.own1 hX rfl rfl 3 hL rfl rfl ?_ | refine LdReq.own1 hX rfl rfl 4 hL rfl rfl ?_ | refine LdReq.own1 hX rfl rfl 5 hL rfl rfl ?_ | refine LdReq.own1 hX rfl rfl 6 hL rfl rfl ?_ | refine LdReq.ownA hX rfl rfl 0 hL rfl rfl ?_ | refine LdReq.ownA hX rfl rfl 1 hL rfl rfl ?_ | refine LdReq.ownA hX rfl rfl 2 hL rfl rfl ?_ | refine LdReq.ownA hX rfl rfl 3 hL rfl rfl ?_ | refine LdReq.ownA hX rfl rfl 4 hL rfl rfl ?_ | refine LdReq.ownA hX rfl rfl 5 hL rfl rfl ?_ | refine LdReq.ownA hX rfl rfl 6 hL rfl rfl ?_ | (refine StReq.own hX rfl 0 hL rfl rfl rfl rfl ?_; clear hL; intro w hL) | (refine StReq.own hX rfl 1 hL rfl rfl rfl rfl ?_; clear hL; intro w hL) | (refine StReq.own hX rfl 2 hL rfl rfl rfl rfl ?_; clear hL; intro w hL) | (refine StReq.own hX rfl 3 hL rfl rfl rfl rfl ?_; clear hL; intro w hL) | (refine StReq.own hX rfl 4 hL rfl rfl rfl rfl ?_; clear hL; intro w hL) | (refine StReq.own hX rfl 5 hL rfl rfl rfl rfl ?_; clear hL; intro w hL) | (refine StReq.own hX rfl 6 hL rfl rfl rfl rfl ?_; clear hL; intro w hL) | refine ArReq.i64 (by omega) (by omega) ?_ | refine SeqReq.go hX ?_ | refine OptReq.mk rfl ?_); conv => whnf)
  by_cases hs : s = []
  · subst hs
    refine appendStr0 ho (hL.perm List.perm_middle.symm) (fun e => hls.elim (fun h => h (by simpa [ints, bI] using e)) (fun h => h rfl)) ?_
    clear hL
    intro w hL
    replace hL := hL.perm List.perm_middle
    conv => whnf
    repeat ((first | refine BrReq.tt ?_ | refine BrReq.ff ?_ | refine LdReq.own1 hX rfl rfl 0 hL rfl rfl ?_ | refine LdReq.own1 hX rfl rfl 1 hL rfl rfl ?_ | refine LdReq.own1 hX rfl rfl 2 hL rfl rfl ?_ | refine LdReq.own1 hX rfl rfl 3 hL rfl rfl ?_ | refine LdReq.own1 hX rfl rfl 4 hL rfl rfl ?_ | refine LdReq.own1 hX rfl rfl 5 hL rfl rfl ?_ | refine LdReq.own1 hX rfl rfl 6 hL rfl rfl ?_ | refine LdReq.ownA hX rfl rfl 0 hL rfl rfl ?_ | refine LdReq.ownA hX rfl rfl 1 hL rfl rfl ?_ | refine LdReq.ownA hX rfl rfl 2 hL rfl rfl ?_ | refine LdReq.ownA hX rfl rfl 3 hL rfl rfl ?_ | refine LdReq.ownA hX rfl rfl 4 hL rfl rfl ?_ | refine LdReq.ownA hX rfl rfl 5 hL rfl rfl ?_ | refine LdReq.ownA hX rfl rfl 6 hL rfl rfl ?_ | (refine StReq.own hX rfl 0 hL rfl rfl rfl rfl ?_; clear hL; intro w hL) | (refine StReq.own hX rfl 1 hL rfl rfl rfl rfl ?_; clear hL; intro w hL) | (refine StReq.own hX rfl 2 hL rfl rfl rfl rfl ?_; clear hL; intro w hL) | (refine StReq.own hX rfl 3 hL rfl rfl rfl rfl ?_; clear hL; intro w hL) | (refine StReq.own hX rfl 4 hL rfl rfl rfl rfl ?_; clear hL; intro w hL) | (refine StReq.own hX rfl 5 hL rfl rfl rfl rfl ?_; clear hL; intro w hL) | (refine StReq.own hX rfl 6 hL rfl rfl rfl rfl ?_; clear hL; intro w hL) | refine ArReq.i64 (by omega) (by omega) ?_ | refine SeqReq.go hX ?_ | refine OptReq.mk rfl ?_); conv => whnf)
    rw [List.append_nil] at hL
    exact RetReq.mk hL ⟨by rw [← hsz]; rfl, rfl, _, _, L1, rfl, .inr rfl, by rw [List.append_nil]; exact ho⟩
  · refine appendStr ho (hL.perm List.perm_middle.symm) (List.length_pos_iff.2 hs) (by simp [ints, bI_len]; omega) ?_
    clear hL
    intro A2 n2 c2 L2 w hn2 ho2 hL
    rw [← ints_append, ← bI_append] at ho2
    replace hL := hL.perm List.perm_middle
    conv => whnf
    repeat ((first | refine BrReq.tt ?_ | refine BrReq.ff ?_ | refine LdReq.own1 hX rfl rfl 0 hL rfl rfl ?_ | refine LdReq.own1 hX rfl rfl 1 hL rfl rfl ?_ | refine LdReq.own1 hX rfl rfl 2 hL rfl rfl ?_ | refine LdReq.own1 hX rfl rfl 3 hL rfl rfl ?_ | refine LdReq.own1 hX rfl rfl 4 hL rfl rfl ?_ | refine LdReq.own1 hX rfl rfl 5 hL rfl rfl ?_ | refine LdReq.own1 hX rfl rfl 6 hL rfl rfl ?_ | refine LdReq.ownA hX rfl rfl 0 hL rfl rfl ?_ | refine LdReq.ownA hX rfl rfl 1 hL rfl rfl ?_ | refine LdReq.ownA hX rfl rfl 2 hL rfl rfl ?_ | refine LdReq.ownA hX rfl rfl 3 hL rfl rfl ?_ | refine LdReq.ownA hX rfl rfl 4 hL rfl rfl ?_ | refine LdReq.ownA hX rfl rfl 5 hL rfl rfl ?_ | refine LdReq.ownA hX rfl rfl 6 hL rfl rfl ?_ | (refine StReq.own hX rfl 0 hL rfl rfl rfl rfl ?_; clear hL; intro w hL) | (refine StReq.own hX rfl 1 hL rfl rfl rfl rfl ?_; clear hL; intro w hL) | (refine StReq.own hX rfl 2 hL rfl rfl rfl rfl ?_; clear hL; intro w hL) | (refine StReq.own hX rfl 3 hL rfl rfl rfl rfl ?_; clear hL; intro w hL) | (refine StReq.own hX rfl 4 hL rfl rfl rfl rfl ?_; clear hL; intro w hL) | (refine StReq.own hX rfl 5 hL rfl rfl rfl rfl ?_; clear hL; intro w hL) | (refine StReq.own hX rfl 6 hL rfl rfl rfl rfl ?_; clear hL; intro w hL) | refine ArReq.i64 (by omega) (by omega) ?_ | refine SeqReq.go hX ?_ | refine OptReq.mk rfl ?_); conv => whnf)
    rw [List.append_nil] at hL
    exact RetReq.mk hL ⟨by rw [← hsz]; rfl, rfl, _, _, L2, rfl, .inr rfl, ho2⟩

section
variable {N : Nat} {m0 m : Mem} {S : List Nat} {w0 w : World} {L : Own}
theorem GenReq.sliceData {o : Oper} {ρ : Operand → Value} {c : Call} {a : Option Addr} {n cap : Nat} {K : Value → World → Prop} (ho : o.op = .call c) (hc : c.callee = .builtin .unsafeSliceData) (ha : c.args.toList.map ρ = [.slice a n cap]) (hcap : a = none ∨ cap ≠ 0)
    (h : K (.pointer a) w) : GenReq Tryd.prog o ρ w K := by
  constructor
  unfold OpOk
  have hargs : c.args.map ρ = #[.slice a n cap] := by apply Array.ext'; rw [Array.toList_map, ha]
  have hex : execOp ρ o = (do pure (.value (← Builtin.unsafeSliceData_ c.argTypes o.type #[.slice a n cap]))) := by rw [← hargs]; simp [execOp, ho, resolve, hc, invoke, builtin]
  have hrun : (Builtin.unsafeSliceData_ c.argTypes o.type #[.slice a n cap]).run Tryd.prog w = .ok (.pointer a) w := by
    cases a with
    | none => exact Lib.run_unsafeSliceData_nil w _ _ _ _
    | some a => exact Lib.run_unsafeSliceData_row w _ _ _ _ _ (hcap.elim (fun e => by cases e) id)
  rw [hex]
  simp only [Sem.run_bind, hrun, Result.andThen_ok, Sem.run_pure, upon]
  exact h
theorem loc_freeze {g n : Nat} {o : Obj} (hL : Ev.Loc m0 S w0 m ((g, o) :: L) w) (hn : n ≠ 0) : Ev.Loc m0 S w0 m L (w.freeze ⟨g, 0, none⟩ n) := by
  refine Loc.step (L1 := [(g, o)]) (L1' := []) hL (by unfold World.freeze; rw [if_neg hn]) (by unfold World.freeze; rw [if_neg hn]) (by unfold World.freeze; rw [if_neg hn]) ?_ (fun k hk hne => ?_) (fun x hx => by simp at hx) (by simp [keys]) (fun b hb => by simp [keys] at hb)
  · unfold World.freeze; rw [if_neg hn]; simp
  · simp only [keys, List.mem_singleton] at hne
    unfold World.freeze
    rw [if_neg hn]
    simp only [Array.getElem?_modify]
    rw [if_neg (fun e => hne e.symm)]
theorem GenReq.string {o : Oper} {ρ : Operand → Value} {c : Call} {g n : Nat} {l : List UInt8} {cur : List Value} {K : Value → World → Prop} (ho : o.op = .call c) (hc : c.callee = .builtin .unsafeString) (ht : c.argTypes = #[65, 3]) (ha : c.args.toList.map ρ = [.pointer (some ⟨g, 0, none⟩), .int .i64 n])
    (hL : Ev.Loc m0 S w0 m ((g, .cells (toArr cur) 5 (0, 0)) :: L) w) (hn : n = l.length) (h0 : l ≠ []) (hcl : n ≤ cur.length) (hmax : n ≤ maxLen) (hcur : cur.take n = ints .u8 (bI l))
    (h : ∀ w', Ev.Loc m0 S w0 m L w' → K (.string ⟨l.toArray⟩) w') : GenReq Tryd.prog o ρ w K := by
  subst hn
  constructor
  unfold OpOk
  have hargs : c.args.map ρ = #[.pointer (some ⟨g, 0, none⟩), .int .i64 l.length] := by apply Array.ext'; rw [Array.toList_map, ha]
  have hex : execOp ρ o = (do pure (.value (← Builtin.unsafeString_ #[65, 3] o.type #[.pointer (some ⟨g, 0, none⟩), .int .i64 l.length]))) := by rw [← hargs, ← ht]; simp [execOp, ho, resolve, hc, invoke, builtin]
  have hrun := Lib.run_unsafeString_row (P := Tryd.prog) w 65 3 o.type 5 Tryd.underlying65 (by kernel_rfl) g cur.length (shape_own hL (i := 0) rfl) l h0 hcl (by simp only [maxLen] at hmax; omega) (fun j x hx => by
    rw [addr_add, Nat.zero_add, hL.ownCell (b := g) (i := j) (c := toArr cur) (t := 5) (f := (0, 0)) (by simp)]
    have hj := (List.getElem?_eq_some_iff.1 hx).1
    have : (cur.take l.length)[j]? = some (.int .u8 x.toNat) := by
      rw [hcur]; simp [ints, bI, hx]
    rw [List.getElem?_take_of_lt hj] at this
    simpa [toArr] using this)
  rw [hex]
  simp only [Sem.run_bind, hrun, Result.andThen_ok, Sem.run_pure, upon]
  exact h _ (loc_freeze hL (by have := List.length_pos_iff.2 h0; omega))
theorem GenReq.string0 {o : Oper} {ρ : Operand → Value} {c : Call} {K : Value → World → Prop} (ho : o.op = .call c) (hc : c.callee = .builtin .unsafeString) (ht : c.argTypes = #[65, 3]) (ha : c.args.toList.map ρ = [.pointer none, .int .i64 0])
    (h : K (.string ⟨([] : List UInt8).toArray⟩) w) : GenReq Tryd.prog o ρ w K := by
  constructor
  unfold OpOk
  have hargs : c.args.map ρ = #[.pointer none, .int .i64 0] := by apply Array.ext'; rw [Array.toList_map, ha]
  have hex : execOp ρ o = (do pure (.value (← Builtin.unsafeString_ #[65, 3] o.type #[.pointer none, .int .i64 0]))) := by rw [← hargs, ← ht]; simp [execOp, ho, resolve, hc, invoke, builtin]
  have hrun := Lib.run_unsafeString_none (P := Tryd.prog) w 65 3 o.type none
  rw [hex]
  simp only [Sem.run_bind, hrun, Result.andThen_ok, Sem.run_pure, upon]
  exact h
end

theorem string_fn (m : Mem) (b : Nat) (l : List UInt8) (L : Own) (h : Bld b l L) (h0 : l ≠ []) :
    Ev.Fn Tryd.prog 43 [.pointer (some ⟨b, 0, none⟩)] m L fun m' L' u => u = .string ⟨l.toArray⟩ ∧ m' = m ∧ L' = [] := by
  obtain ⟨p, v, L1, rfl, hp, ho⟩ := h
  have hlp := List.length_pos_iff.2 h0
  obtain ⟨n, hn, ⟨rfl, rfl, _⟩ | ⟨g, cap, cur, rfl, rfl, h1, h2, h3, h4⟩⟩ := ho
  · simp [ints, bI_len] at hn; exact absurd hn h0
  have hnl : n = l.length := by simp [ints, bI_len] at hn; exact hn.symm
  refine Fn.enter (N := 14) hX Tryd.func43 rfl rfl (by show _ ≤ _; simp) (fun w0 hL => ?_)
  conv => whnf
  generalize keys ((b, bdO p (Value.slice (some ⟨g, 0, none⟩) n cap)) :: [(g, Obj.cells (toArr cur) 5 (0, 0))]) = S0 at hL ⊢
  replace hL : Ev.Loc m S0 w0 m [(b, .cells (toArr [.pointer p, .slice (some ⟨g, 0, none⟩) n cap]) 56 (0, 0)), (g, .cells (toArr cur) 5 (0, 0))] w0 := hL
  refine DrawReq.plan hX (.fst 0 (.fst 1 (.fst 2 (.fst 3 (.fst 5 (.fst 6 (.fst 7 (.fst 8 (.fst 9 (.alt 4 (.alt 10 (.fst 11 (.done)) (.stop)) (.stop))))))))))) [(b, .cells (toArr [.pointer p, .slice (some ⟨g, 0, none⟩) n cap]) 56 (0, 0))] (by kernel_rfl) (by kernel_rfl) hL (fun h => h.one 0 rfl) ?_
  clear hL
  intro w hL
  conv => whnf
  repeat ((first | refine QLdReq.own1 hX rfl rfl 0 rfl rfl ?_ | refine QLdReq.own1 hX rfl rfl 1 rfl rfl ?_ | refine QLdReq.own1 hX rfl rfl 2 rfl rfl ?_ | refine QLdReq.own1 hX rfl rfl 3 rfl rfl ?_ | refine QLdReq.ownA hX rfl rfl 0 rfl rfl ?_ | refine QLdReq.ownA hX rfl rfl 1 rfl rfl ?_ | refine QLdReq.ownA hX rfl rfl 2 rfl rfl ?_ | refine QLdReq.ownA hX rfl rfl 3 rfl rfl ?_ | refine AltReq.one ?_ | refine BrReq.tt ?_ | refine BrReq.ff ?_ | refine LdReq.own1 hX rfl rfl 0 hL rfl rfl ?_ | refine LdReq.own1 hX rfl rfl 1 hL rfl rfl ?_ | refine LdReq.own1 hX rfl rfl 2 hL rfl rfl ?_ | refine LdReq.own1 hX rfl rfl 3 hL rfl rfl ?_ | refine LdReq.own1 hX rfl rfl 4 hL rfl rfl ?_ | refine LdReq.own1 hX rfl rfl 5 hL rfl rfl ?_ | refine LdReq.own1 hX rfl rfl 6 hL rfl rfl ?_ | refine LdReq.ownA hX rfl rfl 0 hL rfl rfl ?_ | refine LdReq.ownA hX rfl rfl 1 hL rfl rfl ?_ | refine LdReq.ownA hX rfl rfl 2 hL rfl rfl ?_ | refine LdReq.ownA hX rfl rfl 3 hL rfl rfl ?_ | refine LdReq.ownA hX rfl rfl 4 hL rfl rfl ?_ | refine LdReq.ownA hX rfl rfl 5 hL rfl rfl ?_ | refine LdReq.ownA hX rfl rfl 6 hL rfl rfl ?_ | (refine StReq.own hX rfl 0 hL rfl rfl rfl rfl ?_; clear hL; intro w hL) | (refine StReq.own hX rfl 1 hL rfl rfl rfl rfl ?_; clear hL; intro w hL) | (refine StReq.own hX rfl 2 hL rfl rfl rfl rfl ?_; clear hL; intro w hL) | (refine StReq.own hX rfl 3 hL rfl rfl rfl rfl ?_; clear hL; intro w hL) | (refine StReq.own hX rfl 4 hL rfl rfl rfl rfl ?_; clear hL; intro w hL) | (refine StReq.own hX rfl 5 hL rfl rfl rfl rfl ?_; clear hL; intro w hL) | (refine StReq.own hX rfl 6 hL rfl rfl rfl rfl ?_; clear hL; intro w hL) | refine ArReq.i64 (by omega) (by omega) ?_ | refine SeqReq.go hX ?_ | refine OptReq.mk rfl ?_); conv => whnf)
  refine GenReq.sliceData rfl rfl rfl (.inr (by omega)) ?_
  conv => whnf
  repeat ((first | refine SReq.mk (hL.one 0 rfl) ?_ | refine QLdReq.own1 hX rfl rfl 0 rfl rfl ?_ | refine QLdReq.own1 hX rfl rfl 1 rfl rfl ?_ | refine QLdReq.own1 hX rfl rfl 2 rfl rfl ?_ | refine QLdReq.own1 hX rfl rfl 3 rfl rfl ?_ | refine QLdReq.ownA hX rfl rfl 0 rfl rfl ?_ | refine QLdReq.ownA hX rfl rfl 1 rfl rfl ?_ | refine QLdReq.ownA hX rfl rfl 2 rfl rfl ?_ | refine QLdReq.ownA hX rfl rfl 3 rfl rfl ?_ | refine AltReq.one ?_ | refine BrReq.tt ?_ | refine BrReq.ff ?_ | refine LdReq.own1 hX rfl rfl 0 hL rfl rfl ?_ | refine LdReq.own1 hX rfl rfl 1 hL rfl rfl ?_ | refine LdReq.own1 hX rfl rfl 2 hL rfl rfl ?_ | refine LdReq.own1 hX rfl rfl 3 hL rfl rfl ?_ | refine LdReq.own1 hX rfl rfl 4 hL rfl rfl ?_ | refine LdReq.own1 hX rfl rfl 5 hL rfl rfl ?_ | refine LdReq.own1 hX rfl rfl 6 hL rfl rfl ?_ | refine LdReq.ownA hX rfl rfl 0 hL rfl rfl ?_ | refine LdReq.ownA hX rfl rfl 1 hL rfl rfl ?_ | refine LdReq.ownA hX rfl rfl 2 hL rfl rfl ?_ | refine LdReq.ownA hX rfl rfl 3 hL rfl rfl ?_ | refine LdReq.ownA hX rfl rfl 4 hL rfl rfl ?_ | refine LdReq.ownA hX rfl rfl 5 hL rfl rfl ?_ | refine LdReq.ownA hX rfl rfl 6 hL rfl rfl ?_ | (refine StReq.own hX rfl 0 hL rfl rfl rfl rfl ?_; clear hL; intro w hL) | (refine StReq.own hX rfl 1 hL rfl rfl rfl rfl ?_; clear hL; intro w hL) | (refine StReq.own hX rfl 2 hL rfl rfl rfl rfl ?_; clear hL; intro w hL) | (refine StReq.own hX rfl 3 hL rfl rfl rfl rfl ?_; clear hL; intro w hL) | (refine StReq.own hX rfl 4 hL rfl rfl rfl rfl ?_; clear hL; intro w hL) | (refine StReq.own hX rfl 5 hL rfl rfl rfl rfl ?_; clear hL; intro w hL) | (refine StReq.own hX rfl 6 hL rfl rfl rfl rfl ?_; clear hL; intro w hL) | refine ArReq.i64 (by omega) (by omega) ?_ | refine SeqReq.go hX ?_ | refine OptReq.mk rfl ?_); conv => whnf)
  refine GenReq.string rfl rfl rfl rfl (hL.perm (List.Perm.swap _ _ _)) hnl h0 (by omega) (by omega) (by rw [Nat.mul_one] at h4; exact h4) ?_
  clear hL
  intro w hL
  conv => whnf
  repeat ((first | refine SReq.mk hL ?_ | refine QLdReq.own1 hX rfl rfl 0 rfl rfl ?_ | refine QLdReq.own1 hX rfl rfl 1 rfl rfl ?_ | refine QLdReq.own1 hX rfl rfl 2 rfl rfl ?_ | refine QLdReq.own1 hX rfl rfl 3 rfl rfl ?_ | refine QLdReq.ownA hX rfl rfl 0 rfl rfl ?_ | refine QLdReq.ownA hX rfl rfl 1 rfl rfl ?_ | refine QLdReq.ownA hX rfl rfl 2 rfl rfl ?_ | refine QLdReq.ownA hX rfl rfl 3 rfl rfl ?_ | refine AltReq.one ?_ | refine BrReq.tt ?_ | refine BrReq.ff ?_ | refine LdReq.own1 hX rfl rfl 0 hL rfl rfl ?_ | refine LdReq.own1 hX rfl rfl 1 hL rfl rfl ?_ | refine LdReq.own1 hX rfl rfl 2 hL rfl rfl ?_ | refine LdReq.own1 hX rfl rfl 3 hL rfl rfl ?_ | refine LdReq.own1 hX rfl rfl 4 hL rfl rfl ?_ | refine LdReq.own1 hX rfl rfl 5 hL rfl rfl ?_ | refine LdReq.own1 hX rfl rfl 6 hL rfl rfl ?_ | refine LdReq.ownA hX rfl rfl 0 hL rfl rfl ?_ | refine LdReq.ownA hX rfl rfl 1 hL rfl rfl ?_ | refine LdReq.ownA hX rfl rfl 2 hL rfl rfl ?_ | refine LdReq.ownA hX rfl rfl 3 hL rfl rfl ?_ | refine LdReq.ownA hX rfl rfl 4 hL rfl rfl ?_ | refine LdReq.ownA hX rfl rfl 5 hL rfl rfl ?_ | refine LdReq.ownA hX rfl rfl 6 hL rfl rfl ?_ | (refine StReq.own hX rfl 0 hL rfl rfl rfl rfl ?_; clear hL; intro w hL) | (refine StReq.own hX rfl 1 hL rfl rfl rfl rfl ?_; clear hL; intro w hL) | (refine StReq.own hX rfl 2 hL rfl rfl rfl rfl ?_; clear hL; intro w hL) | (refine StReq.own hX rfl 3 hL rfl rfl rfl rfl ?_; clear hL; intro w hL) | (refine StReq.own hX rfl 4 hL rfl rfl rfl rfl ?_; clear hL; intro w hL) | (refine StReq.own hX rfl 5 hL rfl rfl rfl rfl ?_; clear hL; intro w hL) | (refine StReq.own hX rfl 6 hL rfl rfl rfl rfl ?_; clear hL; intro w hL) | refine ArReq.i64 (by omega) (by omega) ?_ | refine SeqReq.go hX ?_ | refine OptReq.mk rfl ?_); conv => whnf)
  exact RetReq.mk hL.drop ⟨rfl, rfl, rfl⟩

/-- Strings in a row. -/
def isS (cs : List Value) (s : List UInt8) : Prop := cs = [.string (bs s)]
def jn (sep : List UInt8) : List (List UInt8) → List UInt8
  | [] => []
  | [a] => a
  | a :: b :: r => a ++ sep ++ jn sep (b :: r)
def jnT (sep : List UInt8) (l : List (List UInt8)) : List UInt8 := (l.map fun s => sep ++ s).flatten
theorem jn_cons (sep a : List UInt8) : ∀ (r : List (List UInt8)), jn sep (a :: r) = a ++ jnT sep r
  | [] => by simp [jn, jnT]
  | b :: r => by rw [jn, jn_cons sep b r]; simp [jnT]

section
variable {N : Nat} {m0 m : Mem} {S : List Nat} {w0 w : World} {L : Own}
theorem GenReq.cap {o : Oper} {ρ : Operand → Value} {c : Call} {a : Option Addr} {n cap : Nat} {K : Value → World → Prop} (ho : o.op = .call c) (hc : c.callee = .builtin .cap) (ht : c.argTypes = #[42]) (ha : c.args.toList.map ρ = [.slice a n cap])
    (h : K (.int .i64 cap) w) : GenReq Tryd.prog o ρ w K := by
  constructor
  unfold OpOk
  have hargs : c.args.map ρ = #[.slice a n cap] := by apply Array.ext'; rw [Array.toList_map, ha]
  have hex : execOp ρ o = (do pure (.value (← Builtin.cap_ #[42] o.type #[.slice a n cap]))) := by rw [← hargs, ← ht]; simp [execOp, ho, resolve, hc, invoke, builtin]
  have hrun : (Builtin.cap_ #[42] o.type #[.slice a n cap]).run Tryd.prog w = .ok (.int .i64 cap) w := by
    simp [Builtin.cap_, run_underlying Tryd.underlying42]; rfl
  rw [hex]
  simp only [Sem.run_bind, hrun, Result.andThen_ok, Sem.run_pure, upon]
  exact h
theorem GenReq.makeNoZero {o : Oper} {ρ : Operand → Value} {c : Call} {x : Operand} (n : Nat) {z : Int} {K : Value → World → Prop} (ho : o.op = .call c) (hc : c.callee = .value x) (hx : ρ x = .func (.func 53) #[] #[]) (ha : c.args.toList.map ρ = [.int .i64 z])
    (hz : z = n) (hn : n ≤ 1000000000000) (hL : Ev.Loc m0 S w0 m L w) (h : ∀ g cur w', n ≤ cur.length → cur.length ≤ maxLen → Ev.Loc m0 S w0 m ((g, .cells (toArr cur) 5 (0, 0)) :: L) w' → K (.slice (some ⟨g, 0, none⟩) n cur.length) w') : GenReq Tryd.prog o ρ w K := by
  subst hz
  constructor
  unfold OpOk
  have hargs : c.args.map ρ = #[.int .i64 n] := by apply Array.ext'; rw [Array.toList_map, ha]
  have hex : execOp ρ o = callFunc 53 #[.int .i64 n] := by rw [← hargs]; simp [execOp, ho, resolve, hc, hx, Deferred.ofValue, invoke]
  obtain ⟨cs, hrun, hle, hmax⟩ := Lib.run_makeNoZero (P := Tryd.prog) w #[3] 42 5 Tryd.underlying42 n (by omega)
  rw [hex, run_callFunc_extern Tryd.func53 (by kernel_rfl) (by kernel_rfl) (by kernel_rfl) (e := Extern.BytealgMakeNoZero.makeNoZero #[3] #[42]) (by kernel_rfl), hrun]
  have hcs : cs = toArr cs.toList := by simp [toArr]
  have hl := (hL.drew.drew).alloc (.cells cs 5)
  have := h w.heap.size cs.toList (w.drew.drew.alloc (.cells cs 5)) (by simpa using hle) (by simpa using hmax (by simp only [maxLen]; omega)) (by rw [← hcs]; exact hl)
  simp only [Result.andThen_ok, upon]
  simpa using this
end

theorem grow1_fn (m : Mem) (b n : Nat) (h0 : 0 < n) (hn : n ≤ 1000000000) :
    Ev.Fn Tryd.prog 47 [.pointer (some ⟨b, 0, none⟩), .int .i64 n] m [(b, bdO (some ⟨b, 0, none⟩) (.slice none 0 0))] fun m' L' u => u = .tuple (toArr []) ∧ m' = m ∧ Bld b [] L' := by
  refine Fn.enter (N := 30) hX Tryd.func47 rfl rfl (by show _ ≤ _; simp) (fun w0 hL => ?_)
  conv => whnf
  generalize keys [(b, bdO (some ⟨b, 0, none⟩) (.slice none 0 0))] = S0 at hL ⊢
  replace hL : Ev.Loc m S0 w0 m [(b, .cells (toArr [.pointer (some ⟨b, 0, none⟩), .slice none 0 0]) 56 (0, 0))] w0 := hL
  refine DrawReq.plan hX (.fst 0 (.fst 1 (.fst 2 (.fst 3 (.fst 6 (.fst 9 (.fst 10 (.fst 11 (.fst 12 (.fst 13 (.alt 4 (.fst 5 (.fst 7 (.alt 8 (.fst 14 (.fst 15 (.done))) (.stop)))) (.stop)))))))))))) [(b, .cells (toArr [.pointer (some ⟨b, 0, none⟩), .slice none 0 0]) 56 (0, 0))] (by kernel_rfl) (by kernel_rfl) hL id ?_
  clear hL
  intro w hL
  conv => whnf
  repeat ((first | refine QLdReq.own1 hX rfl rfl 0 rfl rfl ?_ | refine QLdReq.own1 hX rfl rfl 1 rfl rfl ?_ | refine QLdReq.own1 hX rfl rfl 2 rfl rfl ?_ | refine QLdReq.own1 hX rfl rfl 3 rfl rfl ?_ | refine QLdReq.ownA hX rfl rfl 0 rfl rfl ?_ | refine QLdReq.ownA hX rfl rfl 1 rfl rfl ?_ | refine QLdReq.ownA hX rfl rfl 2 rfl rfl ?_ | refine QLdReq.ownA hX rfl rfl 3 rfl rfl ?_ | refine AltReq.one ?_ | refine BrReq.tt ?_ | refine BrReq.ff ?_ | refine LdReq.own1 hX rfl rfl 0 hL rfl rfl ?_ | refine LdReq.own1 hX rfl rfl 1 hL rfl rfl ?_ | refine LdReq.own1 hX rfl rfl 2 hL rfl rfl ?_ | refine LdReq.own1 hX rfl rfl 3 hL rfl rfl ?_ | refine LdReq.own1 hX rfl rfl 4 hL rfl rfl ?_ | refine LdReq.own1 hX rfl rfl 5 hL rfl rfl ?_ | refine LdReq.own1 hX rfl rfl 6 hL rfl rfl ?_ | refine LdReq.ownA hX rfl rfl 0 hL rfl rfl ?_ | refine LdReq.ownA hX rfl rfl 1 hL rfl rfl ?_ | refine LdReq.ownA hX rfl rfl 2 hL rfl rfl ?_ | refine LdReq.ownA hX rfl rfl 3 hL rfl rfl ?_ | refine LdReq.ownA hX rfl rfl 4 hL rfl rfl ?_ | refine LdReq.ownA hX rfl rfl 5 hL rfl rfl ?_ | refine LdReq.ownA hX rfl rfl 6 hL rfl rfl ?_ | (refine StReq.own hX rfl 0 hL rfl rfl rfl rfl ?_; clear hL; intro w hL) | (refine StReq.own hX rfl 1 hL rfl rfl rfl rfl ?_; clear hL; intro w hL) | (refine StReq.own hX rfl 2 hL rfl rfl rfl rfl ?_; clear hL; intro w hL) | (refine StReq.own hX rfl 3 hL rfl rfl rfl rfl ?_; clear hL; intro w hL) | (refine StReq.own hX rfl 4 hL rfl rfl rfl rfl ?_; clear hL; intro w hL) | (refine StReq.own hX rfl 5 hL rfl rfl rfl rfl ?_; clear hL; intro w hL) | (refine StReq.own hX rfl 6 hL rfl rfl rfl rfl ?_; clear hL; intro w hL) | refine ArReq.i64 (by omega) (by omega) ?_ | refine SeqReq.go hX ?_ | refine OptReq.mk rfl ?_); conv => whnf)
  refine GenReq.cap rfl rfl rfl rfl ?_
  conv => whnf
  repeat ((first | refine SReq.mk hL ?_ | (refine ArReq.i64 (by simp; try omega) (by simp; try omega) ?_) | refine QLdReq.own1 hX rfl rfl 0 rfl rfl ?_ | refine QLdReq.own1 hX rfl rfl 1 rfl rfl ?_ | refine QLdReq.own1 hX rfl rfl 2 rfl rfl ?_ | refine QLdReq.own1 hX rfl rfl 3 rfl rfl ?_ | refine QLdReq.ownA hX rfl rfl 0 rfl rfl ?_ | refine QLdReq.ownA hX rfl rfl 1 rfl rfl ?_ | refine QLdReq.ownA hX rfl rfl 2 rfl rfl ?_ | refine QLdReq.ownA hX rfl rfl 3 rfl rfl ?_ | refine AltReq.one ?_ | refine BrReq.tt ?_ | refine BrReq.ff ?_ | refine LdReq.own1 hX rfl rfl 0 hL rfl rfl ?_ | refine LdReq.own1 hX rfl rfl 1 hL rfl rfl ?_ | refine LdReq.own1 hX rfl rfl 2 hL rfl rfl ?_ | refine LdReq.own1 hX rfl rfl 3 hL rfl rfl ?_ | refine LdReq.own1 hX rfl rfl 4 hL rfl rfl ?_ | refine LdReq.own1 hX rfl rfl 5 hL rfl rfl ?_ | refine LdReq.own1 hX rfl rfl 6 hL rfl rfl ?_ | refine LdReq.ownA hX rfl rfl 0 hL rfl rfl ?_ | refine LdReq.ownA hX rfl rfl 1 hL rfl rfl ?_ | refine LdReq.ownA hX rfl rfl 2 hL rfl rfl ?_ | refine LdReq.ownA hX rfl rfl 3 hL rfl rfl ?_ | refine LdReq.ownA hX rfl rfl 4 hL rfl rfl ?_ | refine LdReq.ownA hX rfl rfl 5 hL rfl rfl ?_ | refine LdReq.ownA hX rfl rfl 6 hL rfl rfl ?_ | (refine StReq.own hX rfl 0 hL rfl rfl rfl rfl ?_; clear hL; intro w hL) | (refine StReq.own hX rfl 1 hL rfl rfl rfl rfl ?_; clear hL; intro w hL) | (refine StReq.own hX rfl 2 hL rfl rfl rfl rfl ?_; clear hL; intro w hL) | (refine StReq.own hX rfl 3 hL rfl rfl rfl rfl ?_; clear hL; intro w hL) | (refine StReq.own hX rfl 4 hL rfl rfl rfl rfl ?_; clear hL; intro w hL) | (refine StReq.own hX rfl 5 hL rfl rfl rfl rfl ?_; clear hL; intro w hL) | (refine StReq.own hX rfl 6 hL rfl rfl rfl rfl ?_; clear hL; intro w hL) | refine ArReq.i64 (by omega) (by omega) ?_ | refine SeqReq.go hX ?_ | refine OptReq.mk rfl ?_); conv => whnf)
  refine GenReq.makeNoZero n rfl rfl rfl rfl (by omega) (by omega) hL ?_
  clear hL
  intro g cur w hcl hcm hL
  conv => whnf
  repeat ((first | refine SReq.mk (hL.one 1 rfl) ?_ | refine SlReq.mk 0 0 rfl rfl (by omega) (by omega) ?_ | refine QLdReq.own1 hX rfl rfl 0 rfl rfl ?_ | refine QLdReq.own1 hX rfl rfl 1 rfl rfl ?_ | refine QLdReq.own1 hX rfl rfl 2 rfl rfl ?_ | refine QLdReq.own1 hX rfl rfl 3 rfl rfl ?_ | refine QLdReq.ownA hX rfl rfl 0 rfl rfl ?_ | refine QLdReq.ownA hX rfl rfl 1 rfl rfl ?_ | refine QLdReq.ownA hX rfl rfl 2 rfl rfl ?_ | refine QLdReq.ownA hX rfl rfl 3 rfl rfl ?_ | refine AltReq.one ?_ | refine BrReq.tt ?_ | refine BrReq.ff ?_ | refine LdReq.own1 hX rfl rfl 0 hL rfl rfl ?_ | refine LdReq.own1 hX rfl rfl 1 hL rfl rfl ?_ | refine LdReq.own1 hX rfl rfl 2 hL rfl rfl ?_ | refine LdReq.own1 hX rfl rfl 3 hL rfl rfl ?_ | refine LdReq.own1 hX rfl rfl 4 hL rfl rfl ?_ | refine LdReq.own1 hX rfl rfl 5 hL rfl rfl ?_ | refine LdReq.own1 hX rfl rfl 6 hL rfl rfl ?_ | refine LdReq.ownA hX rfl rfl 0 hL rfl rfl ?_ | refine LdReq.ownA hX rfl rfl 1 hL rfl rfl ?_ | refine LdReq.ownA hX rfl rfl 2 hL rfl rfl ?_ | refine LdReq.ownA hX rfl rfl 3 hL rfl rfl ?_ | refine LdReq.ownA hX rfl rfl 4 hL rfl rfl ?_ | refine LdReq.ownA hX rfl rfl 5 hL rfl rfl ?_ | refine LdReq.ownA hX rfl rfl 6 hL rfl rfl ?_ | (refine StReq.own hX rfl 0 hL rfl rfl rfl rfl ?_; clear hL; intro w hL) | (refine StReq.own hX rfl 1 hL rfl rfl rfl rfl ?_; clear hL; intro w hL) | (refine StReq.own hX rfl 2 hL rfl rfl rfl rfl ?_; clear hL; intro w hL) | (refine StReq.own hX rfl 3 hL rfl rfl rfl rfl ?_; clear hL; intro w hL) | (refine StReq.own hX rfl 4 hL rfl rfl rfl rfl ?_; clear hL; intro w hL) | (refine StReq.own hX rfl 5 hL rfl rfl rfl rfl ?_; clear hL; intro w hL) | (refine StReq.own hX rfl 6 hL rfl rfl rfl rfl ?_; clear hL; intro w hL) | refine ArReq.i64 (by omega) (by omega) ?_ | refine SeqReq.go hX ?_ | refine OptReq.mk rfl ?_); conv => whnf)
  have he : (if cur.length = 0 then some (⟨g, 0, none⟩ : Addr) else Option.map (fun x : Addr => x.add (scale 0 1)) (some (⟨g, 0, none⟩ : Addr))) = some ⟨g, 0, none⟩ := by split <;> rfl
  refine RunReq.mk (run_copy_none w 42 42 3 5 _ _ _ _ _ _ Tryd.underlying42 (by kernel_rfl) rfl) ?_
  conv => whnf
  repeat ((first | (refine StReq.own hX rfl 1 hL rfl rfl rfl rfl ?_; clear hL; intro w hL) | refine BrReq.tt ?_ | refine BrReq.ff ?_ | refine LdReq.own1 hX rfl rfl 0 hL rfl rfl ?_ | refine LdReq.own1 hX rfl rfl 1 hL rfl rfl ?_ | refine LdReq.own1 hX rfl rfl 2 hL rfl rfl ?_ | refine LdReq.own1 hX rfl rfl 3 hL rfl rfl ?_ | refine LdReq.own1 hX rfl rfl 4 hL rfl rfl ?_ | refine LdReq.own1 hX rfl rfl 5 hL rfl rfl ?_ | refine LdReq.own1 hX rfl rfl 6 hL rfl rfl ?_ | refine LdReq.ownA hX rfl rfl 0 hL rfl rfl ?_ | refine LdReq.ownA hX rfl rfl 1 hL rfl rfl ?_ | refine LdReq.ownA hX rfl rfl 2 hL rfl rfl ?_ | refine LdReq.ownA hX rfl rfl 3 hL rfl rfl ?_ | refine LdReq.ownA hX rfl rfl 4 hL rfl rfl ?_ | refine LdReq.ownA hX rfl rfl 5 hL rfl rfl ?_ | refine LdReq.ownA hX rfl rfl 6 hL rfl rfl ?_ | (refine StReq.own hX rfl 0 hL rfl rfl rfl rfl ?_; clear hL; intro w hL) | (refine StReq.own hX rfl 1 hL rfl rfl rfl rfl ?_; clear hL; intro w hL) | (refine StReq.own hX rfl 2 hL rfl rfl rfl rfl ?_; clear hL; intro w hL) | (refine StReq.own hX rfl 3 hL rfl rfl rfl rfl ?_; clear hL; intro w hL) | (refine StReq.own hX rfl 4 hL rfl rfl rfl rfl ?_; clear hL; intro w hL) | (refine StReq.own hX rfl 5 hL rfl rfl rfl rfl ?_; clear hL; intro w hL) | (refine StReq.own hX rfl 6 hL rfl rfl rfl rfl ?_; clear hL; intro w hL) | refine ArReq.i64 (by omega) (by omega) ?_ | refine SeqReq.go hX ?_ | refine OptReq.mk rfl ?_); conv => whnf)
  replace hL : Ev.Loc m S0 w0 m [(g, .cells (toArr cur) 5 (0, 0)), (b, .cells (toArr [.pointer (some ⟨b, 0, none⟩), .slice (if cur.length = 0 then some (⟨g, 0, none⟩ : Addr) else Option.map (fun x : Addr => x.add (scale 0 1)) (some (⟨g, 0, none⟩ : Addr))) 0 cur.length]) 56 (0, 0))] w := hL
  rw [he] at hL
  exact RetReq.mk (hL.perm (List.Perm.swap _ _ _)) ⟨rfl, rfl, _, _, _, rfl, .inr rfl, OwnS.block (n := 0) (Nat.zero_le _) hcm (Nat.mul_one _).symm⟩

theorem grow_fn (m : Mem) (b n : Nat) (p : Option Addr) (hp : p = none ∨ p = some ⟨b, 0, none⟩) (h0 : 0 < n) (hn : n ≤ 1000000000) :
    Ev.Fn Tryd.prog 41 [.pointer (some ⟨b, 0, none⟩), .int .i64 n] m [(b, bdO p (.slice none 0 0))] fun m' L' u => u = .tuple (toArr []) ∧ m' = m ∧ Bld b [] L' := by
  refine Fn.enter (N := 25) hX Tryd.func41 rfl rfl (by show _ ≤ _; simp) (fun w0 hL => ?_)
  conv => whnf
  generalize keys [(b, bdO p (.slice none 0 0))] = S0 at hL ⊢
  conv => whnf
  repeat ((first | refine BrReq.tt ?_ | refine BrReq.ff ?_ | refine LdReq.own1 hX rfl rfl 0 hL rfl rfl ?_ | refine LdReq.own1 hX rfl rfl 1 hL rfl rfl ?_ | refine LdReq.own1 hX rfl rfl 2 hL rfl rfl ?_ | refine LdReq.own1 hX rfl rfl 3 hL rfl rfl ?_ | refine LdReq.own1 hX rfl rfl 4 hL rfl rfl ?_ | refine LdReq.own1 hX rfl rfl 5 hL rfl rfl ?_ | refine LdReq.own1 hX rfl rfl 6 hL rfl rfl ?_ | refine LdReq.ownA hX rfl rfl 0 hL rfl rfl ?_ | refine LdReq.ownA hX rfl rfl 1 hL rfl rfl ?_ | refine LdReq.ownA hX rfl rfl 2 hL rfl rfl ?_ | refine LdReq.ownA hX rfl rfl 3 hL rfl rfl ?_ | refine LdReq.ownA hX rfl rfl 4 hL rfl rfl ?_ | refine LdReq.ownA hX rfl rfl 5 hL rfl rfl ?_ | refine LdReq.ownA hX rfl rfl 6 hL rfl rfl ?_ | (refine StReq.own hX rfl 0 hL rfl rfl rfl rfl ?_; clear hL; intro w hL) | (refine StReq.own hX rfl 1 hL rfl rfl rfl rfl ?_; clear hL; intro w hL) | (refine StReq.own hX rfl 2 hL rfl rfl rfl rfl ?_; clear hL; intro w hL) | (refine StReq.own hX rfl 3 hL rfl rfl rfl rfl ?_; clear hL; intro w hL) | (refine StReq.own hX rfl 4 hL rfl rfl rfl rfl ?_; clear hL; intro w hL) | (refine StReq.own hX rfl 5 hL rfl rfl rfl rfl ?_; clear hL; intro w hL) | (refine StReq.own hX rfl 6 hL rfl rfl rfl rfl ?_; clear hL; intro w hL) | refine ArReq.i64 (by omega) (by omega) ?_ | refine SeqReq.go hX ?_ | refine OptReq.mk rfl ?_); conv => whnf)
  refine CallReq.mk (L1 := [(b, bdO p (.slice none 0 0))]) (L2 := []) (copyCheck_fn m b p _ hp) hL ?_
  clear hL
  rintro u m1 L' w hL - ⟨rfl, rfl, rfl⟩
  replace hL : Ev.Loc m1 S0 w0 m1 [(b, .cells (toArr [.pointer (some ⟨b, 0, none⟩), .slice none 0 0]) 56 (0, 0))] w := hL
  conv => whnf
  repeat ((first | refine BrReq.tt ?_ | refine BrReq.ff ?_ | refine LdReq.own1 hX rfl rfl 0 hL rfl rfl ?_ | refine LdReq.own1 hX rfl rfl 1 hL rfl rfl ?_ | refine LdReq.own1 hX rfl rfl 2 hL rfl rfl ?_ | refine LdReq.own1 hX rfl rfl 3 hL rfl rfl ?_ | refine LdReq.own1 hX rfl rfl 4 hL rfl rfl ?_ | refine LdReq.own1 hX rfl rfl 5 hL rfl rfl ?_ | refine LdReq.own1 hX rfl rfl 6 hL rfl rfl ?_ | refine LdReq.ownA hX rfl rfl 0 hL rfl rfl ?_ | refine LdReq.ownA hX rfl rfl 1 hL rfl rfl ?_ | refine LdReq.ownA hX rfl rfl 2 hL rfl rfl ?_ | refine LdReq.ownA hX rfl rfl 3 hL rfl rfl ?_ | refine LdReq.ownA hX rfl rfl 4 hL rfl rfl ?_ | refine LdReq.ownA hX rfl rfl 5 hL rfl rfl ?_ | refine LdReq.ownA hX rfl rfl 6 hL rfl rfl ?_ | (refine StReq.own hX rfl 0 hL rfl rfl rfl rfl ?_; clear hL; intro w hL) | (refine StReq.own hX rfl 1 hL rfl rfl rfl rfl ?_; clear hL; intro w hL) | (refine StReq.own hX rfl 2 hL rfl rfl rfl rfl ?_; clear hL; intro w hL) | (refine StReq.own hX rfl 3 hL rfl rfl rfl rfl ?_; clear hL; intro w hL) | (refine StReq.own hX rfl 4 hL rfl rfl rfl rfl ?_; clear hL; intro w hL) | (refine StReq.own hX rfl 5 hL rfl rfl rfl rfl ?_; clear hL; intro w hL) | (refine StReq.own hX rfl 6 hL rfl rfl rfl rfl ?_; clear hL; intro w hL) | refine ArReq.i64 (by omega) (by omega) ?_ | refine SeqReq.go hX ?_ | refine OptReq.mk rfl ?_); conv => whnf)
  refine DrawReq.plan hX (.fst 0 (.fst 1 (.fst 2 (.fst 3 (.fst 5 (.fst 6 (.fst 7 (.fst 8 (.fst 9 (.fst 11 (.alt 4 (.fst 10 (.fst 12 (.done))) (.stop)))))))))))) [(b, .cells (toArr [.pointer (some ⟨b, 0, none⟩), .slice none 0 0]) 56 (0, 0))] (by kernel_rfl) (by kernel_rfl) hL id ?_
  clear hL
  intro w hL
  conv => whnf
  repeat ((first | refine QLdReq.own1 hX rfl rfl 0 rfl rfl ?_ | refine QLdReq.own1 hX rfl rfl 1 rfl rfl ?_ | refine QLdReq.own1 hX rfl rfl 2 rfl rfl ?_ | refine QLdReq.own1 hX rfl rfl 3 rfl rfl ?_ | refine QLdReq.ownA hX rfl rfl 0 rfl rfl ?_ | refine QLdReq.ownA hX rfl rfl 1 rfl rfl ?_ | refine QLdReq.ownA hX rfl rfl 2 rfl rfl ?_ | refine QLdReq.ownA hX rfl rfl 3 rfl rfl ?_ | refine AltReq.one ?_ | refine BrReq.tt ?_ | refine BrReq.ff ?_ | refine LdReq.own1 hX rfl rfl 0 hL rfl rfl ?_ | refine LdReq.own1 hX rfl rfl 1 hL rfl rfl ?_ | refine LdReq.own1 hX rfl rfl 2 hL rfl rfl ?_ | refine LdReq.own1 hX rfl rfl 3 hL rfl rfl ?_ | refine LdReq.own1 hX rfl rfl 4 hL rfl rfl ?_ | refine LdReq.own1 hX rfl rfl 5 hL rfl rfl ?_ | refine LdReq.own1 hX rfl rfl 6 hL rfl rfl ?_ | refine LdReq.ownA hX rfl rfl 0 hL rfl rfl ?_ | refine LdReq.ownA hX rfl rfl 1 hL rfl rfl ?_ | refine LdReq.ownA hX rfl rfl 2 hL rfl rfl ?_ | refine LdReq.ownA hX rfl rfl 3 hL rfl rfl ?_ | refine LdReq.ownA hX rfl rfl 4 hL rfl rfl ?_ | refine LdReq.ownA hX rfl rfl 5 hL rfl rfl ?_ | refine LdReq.ownA hX rfl rfl 6 hL rfl rfl ?_ | (refine StReq.own hX rfl 0 hL rfl rfl rfl rfl ?_; clear hL; intro w hL) | (refine StReq.own hX rfl 1 hL rfl rfl rfl rfl ?_; clear hL; intro w hL) | (refine StReq.own hX rfl 2 hL rfl rfl rfl rfl ?_; clear hL; intro w hL) | (refine StReq.own hX rfl 3 hL rfl rfl rfl rfl ?_; clear hL; intro w hL) | (refine StReq.own hX rfl 4 hL rfl rfl rfl rfl ?_; clear hL; intro w hL) | (refine StReq.own hX rfl 5 hL rfl rfl rfl rfl ?_; clear hL; intro w hL) | (refine StReq.own hX rfl 6 hL rfl rfl rfl rfl ?_; clear hL; intro w hL) | refine ArReq.i64 (by omega) (by omega) ?_ | refine SeqReq.go hX ?_ | refine OptReq.mk rfl ?_); conv => whnf)
  refine GenReq.cap rfl rfl rfl rfl ?_
  conv => whnf
  repeat ((first | refine SReq.mk hL ?_ | refine QLdReq.own1 hX rfl rfl 0 rfl rfl ?_ | refine QLdReq.own1 hX rfl rfl 1 rfl rfl ?_ | refine QLdReq.own1 hX rfl rfl 2 rfl rfl ?_ | refine QLdReq.own1 hX rfl rfl 3 rfl rfl ?_ | refine QLdReq.ownA hX rfl rfl 0 rfl rfl ?_ | refine QLdReq.ownA hX rfl rfl 1 rfl rfl ?_ | refine QLdReq.ownA hX rfl rfl 2 rfl rfl ?_ | refine QLdReq.ownA hX rfl rfl 3 rfl rfl ?_ | refine AltReq.one ?_ | refine BrReq.tt ?_ | refine BrReq.ff ?_ | refine LdReq.own1 hX rfl rfl 0 hL rfl rfl ?_ | refine LdReq.own1 hX rfl rfl 1 hL rfl rfl ?_ | refine LdReq.own1 hX rfl rfl 2 hL rfl rfl ?_ | refine LdReq.own1 hX rfl rfl 3 hL rfl rfl ?_ | refine LdReq.own1 hX rfl rfl 4 hL rfl rfl ?_ | refine LdReq.own1 hX rfl rfl 5 hL rfl rfl ?_ | refine LdReq.own1 hX rfl rfl 6 hL rfl rfl ?_ | refine LdReq.ownA hX rfl rfl 0 hL rfl rfl ?_ | refine LdReq.ownA hX rfl rfl 1 hL rfl rfl ?_ | refine LdReq.ownA hX rfl rfl 2 hL rfl rfl ?_ | refine LdReq.ownA hX rfl rfl 3 hL rfl rfl ?_ | refine LdReq.ownA hX rfl rfl 4 hL rfl rfl ?_ | refine LdReq.ownA hX rfl rfl 5 hL rfl rfl ?_ | refine LdReq.ownA hX rfl rfl 6 hL rfl rfl ?_ | (refine StReq.own hX rfl 0 hL rfl rfl rfl rfl ?_; clear hL; intro w hL) | (refine StReq.own hX rfl 1 hL rfl rfl rfl rfl ?_; clear hL; intro w hL) | (refine StReq.own hX rfl 2 hL rfl rfl rfl rfl ?_; clear hL; intro w hL) | (refine StReq.own hX rfl 3 hL rfl rfl rfl rfl ?_; clear hL; intro w hL) | (refine StReq.own hX rfl 4 hL rfl rfl rfl rfl ?_; clear hL; intro w hL) | (refine StReq.own hX rfl 5 hL rfl rfl rfl rfl ?_; clear hL; intro w hL) | (refine StReq.own hX rfl 6 hL rfl rfl rfl rfl ?_; clear hL; intro w hL) | refine ArReq.i64 (by omega) (by omega) ?_ | refine SeqReq.go hX ?_ | refine OptReq.mk rfl ?_); conv => whnf)
  refine BrReq.dec (fun _ => ?_) (fun h => absurd (show ((0 : Nat) : Int) - ((0 : Nat) : Int) < n by omega) h)
  conv => whnf
  repeat ((first | refine BrReq.tt ?_ | refine BrReq.ff ?_ | refine LdReq.own1 hX rfl rfl 0 hL rfl rfl ?_ | refine LdReq.own1 hX rfl rfl 1 hL rfl rfl ?_ | refine LdReq.own1 hX rfl rfl 2 hL rfl rfl ?_ | refine LdReq.own1 hX rfl rfl 3 hL rfl rfl ?_ | refine LdReq.own1 hX rfl rfl 4 hL rfl rfl ?_ | refine LdReq.own1 hX rfl rfl 5 hL rfl rfl ?_ | refine LdReq.own1 hX rfl rfl 6 hL rfl rfl ?_ | refine LdReq.ownA hX rfl rfl 0 hL rfl rfl ?_ | refine LdReq.ownA hX rfl rfl 1 hL rfl rfl ?_ | refine LdReq.ownA hX rfl rfl 2 hL rfl rfl ?_ | refine LdReq.ownA hX rfl rfl 3 hL rfl rfl ?_ | refine LdReq.ownA hX rfl rfl 4 hL rfl rfl ?_ | refine LdReq.ownA hX rfl rfl 5 hL rfl rfl ?_ | refine LdReq.ownA hX rfl rfl 6 hL rfl rfl ?_ | (refine StReq.own hX rfl 0 hL rfl rfl rfl rfl ?_; clear hL; intro w hL) | (refine StReq.own hX rfl 1 hL rfl rfl rfl rfl ?_; clear hL; intro w hL) | (refine StReq.own hX rfl 2 hL rfl rfl rfl rfl ?_; clear hL; intro w hL) | (refine StReq.own hX rfl 3 hL rfl rfl rfl rfl ?_; clear hL; intro w hL) | (refine StReq.own hX rfl 4 hL rfl rfl rfl rfl ?_; clear hL; intro w hL) | (refine StReq.own hX rfl 5 hL rfl rfl rfl rfl ?_; clear hL; intro w hL) | (refine StReq.own hX rfl 6 hL rfl rfl rfl rfl ?_; clear hL; intro w hL) | refine ArReq.i64 (by omega) (by omega) ?_ | refine SeqReq.go hX ?_ | refine OptReq.mk rfl ?_); conv => whnf)
  refine CallReq.mk (L1 := [(b, .cells (toArr [.pointer (some ⟨b, 0, none⟩), .slice none 0 0]) 56 (0, 0))]) (L2 := []) (grow1_fn m1 b n h0 hn) hL ?_
  clear hL
  rintro u m2 L' w hL - ⟨rfl, rfl, hb⟩
  conv => whnf
  repeat ((first | refine BrReq.tt ?_ | refine BrReq.ff ?_ | refine LdReq.own1 hX rfl rfl 0 hL rfl rfl ?_ | refine LdReq.own1 hX rfl rfl 1 hL rfl rfl ?_ | refine LdReq.own1 hX rfl rfl 2 hL rfl rfl ?_ | refine LdReq.own1 hX rfl rfl 3 hL rfl rfl ?_ | refine LdReq.own1 hX rfl rfl 4 hL rfl rfl ?_ | refine LdReq.own1 hX rfl rfl 5 hL rfl rfl ?_ | refine LdReq.own1 hX rfl rfl 6 hL rfl rfl ?_ | refine LdReq.ownA hX rfl rfl 0 hL rfl rfl ?_ | refine LdReq.ownA hX rfl rfl 1 hL rfl rfl ?_ | refine LdReq.ownA hX rfl rfl 2 hL rfl rfl ?_ | refine LdReq.ownA hX rfl rfl 3 hL rfl rfl ?_ | refine LdReq.ownA hX rfl rfl 4 hL rfl rfl ?_ | refine LdReq.ownA hX rfl rfl 5 hL rfl rfl ?_ | refine LdReq.ownA hX rfl rfl 6 hL rfl rfl ?_ | (refine StReq.own hX rfl 0 hL rfl rfl rfl rfl ?_; clear hL; intro w hL) | (refine StReq.own hX rfl 1 hL rfl rfl rfl rfl ?_; clear hL; intro w hL) | (refine StReq.own hX rfl 2 hL rfl rfl rfl rfl ?_; clear hL; intro w hL) | (refine StReq.own hX rfl 3 hL rfl rfl rfl rfl ?_; clear hL; intro w hL) | (refine StReq.own hX rfl 4 hL rfl rfl rfl rfl ?_; clear hL; intro w hL) | (refine StReq.own hX rfl 5 hL rfl rfl rfl rfl ?_; clear hL; intro w hL) | (refine StReq.own hX rfl 6 hL rfl rfl rfl rfl ?_; clear hL; intro w hL) | refine ArReq.i64 (by omega) (by omega) ?_ | refine SeqReq.go hX ?_ | refine OptReq.mk rfl ?_); conv => whnf)
  rw [List.append_nil] at hL
  exact RetReq.mk hL ⟨rfl, rfl, hb⟩

def totL (l : List (List UInt8)) : Nat := (l.map List.length).sum
theorem totL_take {l : List (List UInt8)} {j : Nat} (h : j < l.length) : totL (l.take (j + 1)) = totL (l.take j) + l[j].length := by
  rw [List.take_succ_eq_append_getElem h]; unfold totL; rw [List.map_append, List.sum_append]; simp
theorem jnT_take (sep : List UInt8) {l : List (List UInt8)} {j : Nat} (h : j < l.length) : jnT sep (l.take (j + 1)) = jnT sep (l.take j) ++ sep ++ l[j] := by
  rw [List.take_succ_eq_append_getElem h]; unfold jnT; rw [List.map_append, List.flatten_append]; simp
theorem jnT_len (sep : List UInt8) : ∀ (l : List (List UInt8)), (jnT sep l).length = l.length * sep.length + totL l
  | [] => by simp [jnT, totL]
  | a :: l => by
    have := jnT_len sep l
    simp only [jnT, totL, List.map_cons, List.flatten_cons, List.length_append, List.length_cons, List.sum_cons] at this ⊢
    rw [this, Nat.succ_mul]; omega
theorem totL_le : ∀ {l : List (List UInt8)} (j : Nat), totL (l.take j) ≤ totL l
  | [], j => by simp
  | a :: l, 0 => by simp [totL]
  | a :: l, j + 1 => by have := totL_le (l := l) j; simp only [totL, List.take_succ_cons, List.map_cons, List.sum_cons] at this ⊢; omega
theorem tot_one {l : List (List UInt8)} {i : Nat} (h : i < l.length) : l[i].length ≤ totL l := by
  have := totL_take h
  have := totL_le (l := l) (i + 1)
  omega

theorem Sl.one {m : Mem} {A : Option Addr} {n c : Nat} {l : List (List UInt8)} (h : Sl m 1 isS (.slice A n c) l) {i : Nat} (hi : i < l.length) : ∃ a, A = some a ∧ mcell m (a.add (scale i 1)) = some (.string (bs l[i])) := by
  obtain ⟨a, cs, e1, e2, e3, rfl⟩ := Sl.elem h i _ (List.getElem?_eq_getElem hi)
  have := e3 0 _ rfl
  have add0 : ∀ x : Addr, x.add 0 = x := fun x => by cases x; rfl
  rw [add0] at this
  exact ⟨a, e1, this⟩

theorem callWS {m0 m : Mem} {S : List Nat} {w0 w : World} {b : Nat} {l s : List UInt8} {L : Own} {K : Value → World → Prop} (h : Bld b l L) (hl : l.length + s.length ≤ 1000000000) (hls : l ≠ [] ∨ s ≠ []) (hL : Ev.Loc m0 S w0 m L w)
    (k : ∀ L' w', Bld b (l ++ s) L' → Ev.Loc m0 S w0 m L' w' → K (.tuple (toArr [.int .i64 s.length, .nilIface])) w') : CallReq Tryd.prog 42 (toArr [.pointer (some ⟨b, 0, none⟩), .string ⟨s.toArray⟩]) w K :=
  CallReq.mk (L1 := L) (L2 := []) (writeString_fn m b l s L h hl hls) (by rw [List.append_nil]; exact hL) fun u m' L1' w' hl hle ⟨h1, h2, h3⟩ => by
    subst h1 h2
    rw [List.append_nil] at hl
    exact k L1' w' h3 hl

set_option maxHeartbeats 2000000 in
/-- strings.Join, of strings that aren't empty. -/
theorem join_fn (m : Mem) (v : Value) (l : List (List UInt8)) (sep : List UInt8) (hv : Sl m 1 isS v l) (hne : ∀ s ∈ l, s ≠ []) (hl : l.length ≤ 100000) (hs : sep.length ≤ 1) (ht : totL l ≤ 100000000) :
    FnV Tryd.prog 36 [v, .string (bs sep)] m (.string (bs (jn sep l))) := by
  have hmx : maxLen = 9223372036854775807 := rfl
  have hv' := hv
  obtain ⟨A, n, c, rfl, hn, hc, hm, -⟩ := hv
  have hsz : (bs sep).size = sep.length := bs_size sep
  refine Fn.enter (N := 75) hX Tryd.func36 rfl rfl (by show _ ≤ _; simp) (fun w0 hL => ?_)
  conv => whnf
  conv => whnf
  repeat ((first | refine BrReq.tt ?_ | refine BrReq.ff ?_ | refine LdReq.own1 hX rfl rfl 0 hL rfl rfl ?_ | refine LdReq.own1 hX rfl rfl 1 hL rfl rfl ?_ | refine LdReq.own1 hX rfl rfl 2 hL rfl rfl ?_ | refine LdReq.own1 hX rfl rfl 3 hL rfl rfl ?_ | refine LdReq.own1 hX rfl rfl 4 hL rfl rfl ?_ | refine LdReq.own1 hX rfl rfl 5 hL rfl rfl ?_ | refine LdReq.own1 hX rfl rfl 6 hL rfl rfl ?_ | refine LdReq.ownA hX rfl rfl 0 hL rfl rfl ?_ | refine LdReq.ownA hX rfl rfl 1 hL rfl rfl ?_ | refine LdReq.ownA hX rfl rfl 2 hL rfl rfl ?_ | refine LdReq.ownA hX rfl rfl 3 hL rfl rfl ?_ | refine LdReq.ownA hX rfl rfl 4 hL rfl rfl ?_ | refine LdReq.ownA hX rfl rfl 5 hL rfl rfl ?_ | refine LdReq.ownA hX rfl rfl 6 hL rfl rfl ?_ | (refine StReq.own hX rfl 0 hL rfl rfl rfl rfl ?_; clear hL; intro w hL) | (refine StReq.own hX rfl 1 hL rfl rfl rfl rfl ?_; clear hL; intro w hL) | (refine StReq.own hX rfl 2 hL rfl rfl rfl rfl ?_; clear hL; intro w hL) | (refine StReq.own hX rfl 3 hL rfl rfl rfl rfl ?_; clear hL; intro w hL) | (refine StReq.own hX rfl 4 hL rfl rfl rfl rfl ?_; clear hL; intro w hL) | (refine StReq.own hX rfl 5 hL rfl rfl rfl rfl ?_; clear hL; intro w hL) | (refine StReq.own hX rfl 6 hL rfl rfl rfl rfl ?_; clear hL; intro w hL) | refine ArReq.i64 (by omega) (by omega) ?_ | refine SeqReq.go hX ?_ | refine OptReq.mk rfl ?_); conv => whnf)
  refine BrReq.dec (fun h0 => ?_) (fun h0 => ?_)
  · have e : l = [] := List.eq_nil_of_length_eq_zero (by omega)
    subst e
    conv => whnf
    repeat ((first | refine BrReq.tt ?_ | refine BrReq.ff ?_ | refine LdReq.own1 hX rfl rfl 0 hL rfl rfl ?_ | refine LdReq.own1 hX rfl rfl 1 hL rfl rfl ?_ | refine LdReq.own1 hX rfl rfl 2 hL rfl rfl ?_ | refine LdReq.own1 hX rfl rfl 3 hL rfl rfl ?_ | refine LdReq.own1 hX rfl rfl 4 hL rfl rfl ?_ | refine LdReq.own1 hX rfl rfl 5 hL rfl rfl ?_ | refine LdReq.own1 hX rfl rfl 6 hL rfl rfl ?_ | refine LdReq.ownA hX rfl rfl 0 hL rfl rfl ?_ | refine LdReq.ownA hX rfl rfl 1 hL rfl rfl ?_ | refine LdReq.ownA hX rfl rfl 2 hL rfl rfl ?_ | refine LdReq.ownA hX rfl rfl 3 hL rfl rfl ?_ | refine LdReq.ownA hX rfl rfl 4 hL rfl rfl ?_ | refine LdReq.ownA hX rfl rfl 5 hL rfl rfl ?_ | refine LdReq.ownA hX rfl rfl 6 hL rfl rfl ?_ | (refine StReq.own hX rfl 0 hL rfl rfl rfl rfl ?_; clear hL; intro w hL) | (refine StReq.own hX rfl 1 hL rfl rfl rfl rfl ?_; clear hL; intro w hL) | (refine StReq.own hX rfl 2 hL rfl rfl rfl rfl ?_; clear hL; intro w hL) | (refine StReq.own hX rfl 3 hL rfl rfl rfl rfl ?_; clear hL; intro w hL) | (refine StReq.own hX rfl 4 hL rfl rfl rfl rfl ?_; clear hL; intro w hL) | (refine StReq.own hX rfl 5 hL rfl rfl rfl rfl ?_; clear hL; intro w hL) | (refine StReq.own hX rfl 6 hL rfl rfl rfl rfl ?_; clear hL; intro w hL) | refine ArReq.i64 (by omega) (by omega) ?_ | refine SeqReq.go hX ?_ | refine OptReq.mk rfl ?_); conv => whnf)
    exact RetReq.mk hL ⟨rfl, rfl⟩
  conv => whnf
  repeat ((first | refine BrReq.tt ?_ | refine BrReq.ff ?_ | refine LdReq.own1 hX rfl rfl 0 hL rfl rfl ?_ | refine LdReq.own1 hX rfl rfl 1 hL rfl rfl ?_ | refine LdReq.own1 hX rfl rfl 2 hL rfl rfl ?_ | refine LdReq.own1 hX rfl rfl 3 hL rfl rfl ?_ | refine LdReq.own1 hX rfl rfl 4 hL rfl rfl ?_ | refine LdReq.own1 hX rfl rfl 5 hL rfl rfl ?_ | refine LdReq.own1 hX rfl rfl 6 hL rfl rfl ?_ | refine LdReq.ownA hX rfl rfl 0 hL rfl rfl ?_ | refine LdReq.ownA hX rfl rfl 1 hL rfl rfl ?_ | refine LdReq.ownA hX rfl rfl 2 hL rfl rfl ?_ | refine LdReq.ownA hX rfl rfl 3 hL rfl rfl ?_ | refine LdReq.ownA hX rfl rfl 4 hL rfl rfl ?_ | refine LdReq.ownA hX rfl rfl 5 hL rfl rfl ?_ | refine LdReq.ownA hX rfl rfl 6 hL rfl rfl ?_ | (refine StReq.own hX rfl 0 hL rfl rfl rfl rfl ?_; clear hL; intro w hL) | (refine StReq.own hX rfl 1 hL rfl rfl rfl rfl ?_; clear hL; intro w hL) | (refine StReq.own hX rfl 2 hL rfl rfl rfl rfl ?_; clear hL; intro w hL) | (refine StReq.own hX rfl 3 hL rfl rfl rfl rfl ?_; clear hL; intro w hL) | (refine StReq.own hX rfl 4 hL rfl rfl rfl rfl ?_; clear hL; intro w hL) | (refine StReq.own hX rfl 5 hL rfl rfl rfl rfl ?_; clear hL; intro w hL) | (refine StReq.own hX rfl 6 hL rfl rfl rfl rfl ?_; clear hL; intro w hL) | refine ArReq.i64 (by omega) (by omega) ?_ | refine SeqReq.go hX ?_ | refine OptReq.mk rfl ?_); conv => whnf)
  refine BrReq.dec (fun h1 => ?_) (fun h1 => ?_)
  · obtain ⟨a1, rfl, hx⟩ := Sl.one hv' (i := 0) (by omega)
    conv => whnf
    repeat ((first | refine Idx2Req.mk 0 a1 rfl (by omega) rfl ?_ | refine LdReq.one hX rfl rfl hL hx ?_ | refine BrReq.tt ?_ | refine BrReq.ff ?_ | refine LdReq.own1 hX rfl rfl 0 hL rfl rfl ?_ | refine LdReq.own1 hX rfl rfl 1 hL rfl rfl ?_ | refine LdReq.own1 hX rfl rfl 2 hL rfl rfl ?_ | refine LdReq.own1 hX rfl rfl 3 hL rfl rfl ?_ | refine LdReq.own1 hX rfl rfl 4 hL rfl rfl ?_ | refine LdReq.own1 hX rfl rfl 5 hL rfl rfl ?_ | refine LdReq.own1 hX rfl rfl 6 hL rfl rfl ?_ | refine LdReq.ownA hX rfl rfl 0 hL rfl rfl ?_ | refine LdReq.ownA hX rfl rfl 1 hL rfl rfl ?_ | refine LdReq.ownA hX rfl rfl 2 hL rfl rfl ?_ | refine LdReq.ownA hX rfl rfl 3 hL rfl rfl ?_ | refine LdReq.ownA hX rfl rfl 4 hL rfl rfl ?_ | refine LdReq.ownA hX rfl rfl 5 hL rfl rfl ?_ | refine LdReq.ownA hX rfl rfl 6 hL rfl rfl ?_ | (refine StReq.own hX rfl 0 hL rfl rfl rfl rfl ?_; clear hL; intro w hL) | (refine StReq.own hX rfl 1 hL rfl rfl rfl rfl ?_; clear hL; intro w hL) | (refine StReq.own hX rfl 2 hL rfl rfl rfl rfl ?_; clear hL; intro w hL) | (refine StReq.own hX rfl 3 hL rfl rfl rfl rfl ?_; clear hL; intro w hL) | (refine StReq.own hX rfl 4 hL rfl rfl rfl rfl ?_; clear hL; intro w hL) | (refine StReq.own hX rfl 5 hL rfl rfl rfl rfl ?_; clear hL; intro w hL) | (refine StReq.own hX rfl 6 hL rfl rfl rfl rfl ?_; clear hL; intro w hL) | refine ArReq.i64 (by omega) (by omega) ?_ | refine SeqReq.go hX ?_ | refine OptReq.mk rfl ?_); conv => whnf)
    match l, hn with
    | [a], _ => exact RetReq.mk hL ⟨rfl, rfl⟩
    | [], hn => exact absurd hn (by simp; omega)
    | a :: b :: r, hn => exact absurd hn (by simp; omega)
  have hn2 : 2 ≤ n := by omega
  have hsep : sep.length * (n - 1) ≤ n - 1 := Nat.le_trans (Nat.mul_le_mul_right _ hs) (by omega)
  conv => whnf
  repeat ((first | refine BrReq.tt ?_ | refine BrReq.ff ?_ | refine LdReq.own1 hX rfl rfl 0 hL rfl rfl ?_ | refine LdReq.own1 hX rfl rfl 1 hL rfl rfl ?_ | refine LdReq.own1 hX rfl rfl 2 hL rfl rfl ?_ | refine LdReq.own1 hX rfl rfl 3 hL rfl rfl ?_ | refine LdReq.own1 hX rfl rfl 4 hL rfl rfl ?_ | refine LdReq.own1 hX rfl rfl 5 hL rfl rfl ?_ | refine LdReq.own1 hX rfl rfl 6 hL rfl rfl ?_ | refine LdReq.ownA hX rfl rfl 0 hL rfl rfl ?_ | refine LdReq.ownA hX rfl rfl 1 hL rfl rfl ?_ | refine LdReq.ownA hX rfl rfl 2 hL rfl rfl ?_ | refine LdReq.ownA hX rfl rfl 3 hL rfl rfl ?_ | refine LdReq.ownA hX rfl rfl 4 hL rfl rfl ?_ | refine LdReq.ownA hX rfl rfl 5 hL rfl rfl ?_ | refine LdReq.ownA hX rfl rfl 6 hL rfl rfl ?_ | (refine StReq.own hX rfl 0 hL rfl rfl rfl rfl ?_; clear hL; intro w hL) | (refine StReq.own hX rfl 1 hL rfl rfl rfl rfl ?_; clear hL; intro w hL) | (refine StReq.own hX rfl 2 hL rfl rfl rfl rfl ?_; clear hL; intro w hL) | (refine StReq.own hX rfl 3 hL rfl rfl rfl rfl ?_; clear hL; intro w hL) | (refine StReq.own hX rfl 4 hL rfl rfl rfl rfl ?_; clear hL; intro w hL) | (refine StReq.own hX rfl 5 hL rfl rfl rfl rfl ?_; clear hL; intro w hL) | (refine StReq.own hX rfl 6 hL rfl rfl rfl rfl ?_; clear hL; intro w hL) | refine ArReq.i64 (by omega) (by omega) ?_ | refine OptReq.mk rfl ?_); conv => whnf)
  refine SeqReq.cut hX (fun d : Nat => [(5, .int .i64 d)]) [0, 1] (fun d w => d = sep.length * (n - 1) ∧ Ev.Loc m [] w0 m [] w) ?_ ?_
  · conv => whnf
    repeat ((first | refine BrReq.tt ?_ | refine BrReq.ff ?_ | refine LdReq.own1 hX rfl rfl 0 hL rfl rfl ?_ | refine LdReq.own1 hX rfl rfl 1 hL rfl rfl ?_ | refine LdReq.own1 hX rfl rfl 2 hL rfl rfl ?_ | refine LdReq.own1 hX rfl rfl 3 hL rfl rfl ?_ | refine LdReq.own1 hX rfl rfl 4 hL rfl rfl ?_ | refine LdReq.own1 hX rfl rfl 5 hL rfl rfl ?_ | refine LdReq.own1 hX rfl rfl 6 hL rfl rfl ?_ | refine LdReq.ownA hX rfl rfl 0 hL rfl rfl ?_ | refine LdReq.ownA hX rfl rfl 1 hL rfl rfl ?_ | refine LdReq.ownA hX rfl rfl 2 hL rfl rfl ?_ | refine LdReq.ownA hX rfl rfl 3 hL rfl rfl ?_ | refine LdReq.ownA hX rfl rfl 4 hL rfl rfl ?_ | refine LdReq.ownA hX rfl rfl 5 hL rfl rfl ?_ | refine LdReq.ownA hX rfl rfl 6 hL rfl rfl ?_ | (refine StReq.own hX rfl 0 hL rfl rfl rfl rfl ?_; clear hL; intro w hL) | (refine StReq.own hX rfl 1 hL rfl rfl rfl rfl ?_; clear hL; intro w hL) | (refine StReq.own hX rfl 2 hL rfl rfl rfl rfl ?_; clear hL; intro w hL) | (refine StReq.own hX rfl 3 hL rfl rfl rfl rfl ?_; clear hL; intro w hL) | (refine StReq.own hX rfl 4 hL rfl rfl rfl rfl ?_; clear hL; intro w hL) | (refine StReq.own hX rfl 5 hL rfl rfl rfl rfl ?_; clear hL; intro w hL) | (refine StReq.own hX rfl 6 hL rfl rfl rfl rfl ?_; clear hL; intro w hL) | refine ArReq.i64 (by omega) (by omega) ?_ | refine OptReq.mk rfl ?_); conv => whnf)
    refine BrReq.dec (fun h2 => ?_) (fun h2 => ?_)
    · have hs1 : sep.length = 1 := by rw [hsz] at h2; omega
      have hs2 : (bs sep).size = 1 := by omega
      have hq : 2 ≤ 9223372036854775807 / (n - 1) := (Nat.le_div_iff_mul_le (by omega)).2 (by omega)
      conv => whnf
      repeat ((first | refine DivReq.i64 (a := 9223372036854775807) (k := n - 1) (by omega) (by omega) (by omega) ?_ | refine BrReq.tt ?_ | refine BrReq.ff ?_ | refine LdReq.own1 hX rfl rfl 0 hL rfl rfl ?_ | refine LdReq.own1 hX rfl rfl 1 hL rfl rfl ?_ | refine LdReq.own1 hX rfl rfl 2 hL rfl rfl ?_ | refine LdReq.own1 hX rfl rfl 3 hL rfl rfl ?_ | refine LdReq.own1 hX rfl rfl 4 hL rfl rfl ?_ | refine LdReq.own1 hX rfl rfl 5 hL rfl rfl ?_ | refine LdReq.own1 hX rfl rfl 6 hL rfl rfl ?_ | refine LdReq.ownA hX rfl rfl 0 hL rfl rfl ?_ | refine LdReq.ownA hX rfl rfl 1 hL rfl rfl ?_ | refine LdReq.ownA hX rfl rfl 2 hL rfl rfl ?_ | refine LdReq.ownA hX rfl rfl 3 hL rfl rfl ?_ | refine LdReq.ownA hX rfl rfl 4 hL rfl rfl ?_ | refine LdReq.ownA hX rfl rfl 5 hL rfl rfl ?_ | refine LdReq.ownA hX rfl rfl 6 hL rfl rfl ?_ | (refine StReq.own hX rfl 0 hL rfl rfl rfl rfl ?_; clear hL; intro w hL) | (refine StReq.own hX rfl 1 hL rfl rfl rfl rfl ?_; clear hL; intro w hL) | (refine StReq.own hX rfl 2 hL rfl rfl rfl rfl ?_; clear hL; intro w hL) | (refine StReq.own hX rfl 3 hL rfl rfl rfl rfl ?_; clear hL; intro w hL) | (refine StReq.own hX rfl 4 hL rfl rfl rfl rfl ?_; clear hL; intro w hL) | (refine StReq.own hX rfl 5 hL rfl rfl rfl rfl ?_; clear hL; intro w hL) | (refine StReq.own hX rfl 6 hL rfl rfl rfl rfl ?_; clear hL; intro w hL) | refine ArReq.i64 (by omega) (by omega) ?_ | refine SeqReq.go hX ?_ | refine OptReq.mk rfl ?_); conv => whnf)
      refine BrReq.no (by rw [hs2]; omega) ?_
      conv => whnf
      repeat ((first | (refine ArReq.i64 (by rw [hs2]; omega) (by rw [hs2]; omega) ?_) | refine BrReq.tt ?_ | refine BrReq.ff ?_ | refine LdReq.own1 hX rfl rfl 0 hL rfl rfl ?_ | refine LdReq.own1 hX rfl rfl 1 hL rfl rfl ?_ | refine LdReq.own1 hX rfl rfl 2 hL rfl rfl ?_ | refine LdReq.own1 hX rfl rfl 3 hL rfl rfl ?_ | refine LdReq.own1 hX rfl rfl 4 hL rfl rfl ?_ | refine LdReq.own1 hX rfl rfl 5 hL rfl rfl ?_ | refine LdReq.own1 hX rfl rfl 6 hL rfl rfl ?_ | refine LdReq.ownA hX rfl rfl 0 hL rfl rfl ?_ | refine LdReq.ownA hX rfl rfl 1 hL rfl rfl ?_ | refine LdReq.ownA hX rfl rfl 2 hL rfl rfl ?_ | refine LdReq.ownA hX rfl rfl 3 hL rfl rfl ?_ | refine LdReq.ownA hX rfl rfl 4 hL rfl rfl ?_ | refine LdReq.ownA hX rfl rfl 5 hL rfl rfl ?_ | refine LdReq.ownA hX rfl rfl 6 hL rfl rfl ?_ | (refine StReq.own hX rfl 0 hL rfl rfl rfl rfl ?_; clear hL; intro w hL) | (refine StReq.own hX rfl 1 hL rfl rfl rfl rfl ?_; clear hL; intro w hL) | (refine StReq.own hX rfl 2 hL rfl rfl rfl rfl ?_; clear hL; intro w hL) | (refine StReq.own hX rfl 3 hL rfl rfl rfl rfl ?_; clear hL; intro w hL) | (refine StReq.own hX rfl 4 hL rfl rfl rfl rfl ?_; clear hL; intro w hL) | (refine StReq.own hX rfl 5 hL rfl rfl rfl rfl ?_; clear hL; intro w hL) | (refine StReq.own hX rfl 6 hL rfl rfl rfl rfl ?_; clear hL; intro w hL) | refine ArReq.i64 (by omega) (by omega) ?_ | refine SeqReq.go hX ?_ | refine OptReq.mk rfl ?_); conv => whnf)
      refine ⟨(n - 1), ⟨by rw [hs1, Nat.one_mul], hL⟩, ?_, ?_⟩
      · repeat (first | exact trivial | (refine And.intro (by (conv => lhs; whnf) <;> (conv => rhs; whnf) <;> (first | rfl | ((rw [hs2]; exact congrArg (Value.int .i64) (by omega))))) ?_))
      · repeat (first | exact trivial | (refine And.intro (by (conv => lhs; whnf) <;> (conv => rhs; whnf) <;> (first | rfl | ((rw [hs2]; exact congrArg (Value.int .i64) (by omega))))) ?_))
    · have hs1 : sep.length = 0 := by rw [hsz] at h2; omega
      conv => whnf
      repeat ((first | refine BrReq.tt ?_ | refine BrReq.ff ?_ | refine LdReq.own1 hX rfl rfl 0 hL rfl rfl ?_ | refine LdReq.own1 hX rfl rfl 1 hL rfl rfl ?_ | refine LdReq.own1 hX rfl rfl 2 hL rfl rfl ?_ | refine LdReq.own1 hX rfl rfl 3 hL rfl rfl ?_ | refine LdReq.own1 hX rfl rfl 4 hL rfl rfl ?_ | refine LdReq.own1 hX rfl rfl 5 hL rfl rfl ?_ | refine LdReq.own1 hX rfl rfl 6 hL rfl rfl ?_ | refine LdReq.ownA hX rfl rfl 0 hL rfl rfl ?_ | refine LdReq.ownA hX rfl rfl 1 hL rfl rfl ?_ | refine LdReq.ownA hX rfl rfl 2 hL rfl rfl ?_ | refine LdReq.ownA hX rfl rfl 3 hL rfl rfl ?_ | refine LdReq.ownA hX rfl rfl 4 hL rfl rfl ?_ | refine LdReq.ownA hX rfl rfl 5 hL rfl rfl ?_ | refine LdReq.ownA hX rfl rfl 6 hL rfl rfl ?_ | (refine StReq.own hX rfl 0 hL rfl rfl rfl rfl ?_; clear hL; intro w hL) | (refine StReq.own hX rfl 1 hL rfl rfl rfl rfl ?_; clear hL; intro w hL) | (refine StReq.own hX rfl 2 hL rfl rfl rfl rfl ?_; clear hL; intro w hL) | (refine StReq.own hX rfl 3 hL rfl rfl rfl rfl ?_; clear hL; intro w hL) | (refine StReq.own hX rfl 4 hL rfl rfl rfl rfl ?_; clear hL; intro w hL) | (refine StReq.own hX rfl 5 hL rfl rfl rfl rfl ?_; clear hL; intro w hL) | (refine StReq.own hX rfl 6 hL rfl rfl rfl rfl ?_; clear hL; intro w hL) | refine ArReq.i64 (by omega) (by omega) ?_ | refine SeqReq.go hX ?_ | refine OptReq.mk rfl ?_); conv => whnf)
      refine ⟨0, ⟨by rw [hs1, Nat.zero_mul], hL⟩, ?_, ?_⟩
      · repeat (first | exact trivial | (refine And.intro (by (conv => lhs; whnf) <;> (conv => rhs; whnf) <;> (first | rfl)) ?_))
      · repeat (first | exact trivial | (refine And.intro (by (conv => lhs; whnf) <;> (conv => rhs; whnf) <;> (first | rfl)) ?_))
  clear hL
  rintro d w f ⟨hd, hL⟩
  conv => whnf
  repeat ((first | refine BrReq.tt ?_ | refine BrReq.ff ?_ | refine LdReq.own1 hX rfl rfl 0 hL rfl rfl ?_ | refine LdReq.own1 hX rfl rfl 1 hL rfl rfl ?_ | refine LdReq.own1 hX rfl rfl 2 hL rfl rfl ?_ | refine LdReq.own1 hX rfl rfl 3 hL rfl rfl ?_ | refine LdReq.own1 hX rfl rfl 4 hL rfl rfl ?_ | refine LdReq.own1 hX rfl rfl 5 hL rfl rfl ?_ | refine LdReq.own1 hX rfl rfl 6 hL rfl rfl ?_ | refine LdReq.ownA hX rfl rfl 0 hL rfl rfl ?_ | refine LdReq.ownA hX rfl rfl 1 hL rfl rfl ?_ | refine LdReq.ownA hX rfl rfl 2 hL rfl rfl ?_ | refine LdReq.ownA hX rfl rfl 3 hL rfl rfl ?_ | refine LdReq.ownA hX rfl rfl 4 hL rfl rfl ?_ | refine LdReq.ownA hX rfl rfl 5 hL rfl rfl ?_ | refine LdReq.ownA hX rfl rfl 6 hL rfl rfl ?_ | (refine StReq.own hX rfl 0 hL rfl rfl rfl rfl ?_; clear hL; intro w hL) | (refine StReq.own hX rfl 1 hL rfl rfl rfl rfl ?_; clear hL; intro w hL) | (refine StReq.own hX rfl 2 hL rfl rfl rfl rfl ?_; clear hL; intro w hL) | (refine StReq.own hX rfl 3 hL rfl rfl rfl rfl ?_; clear hL; intro w hL) | (refine StReq.own hX rfl 4 hL rfl rfl rfl rfl ?_; clear hL; intro w hL) | (refine StReq.own hX rfl 5 hL rfl rfl rfl rfl ?_; clear hL; intro w hL) | (refine StReq.own hX rfl 6 hL rfl rfl rfl rfl ?_; clear hL; intro w hL) | refine ArReq.i64 (by omega) (by omega) ?_ | refine SeqReq.go hX ?_ | refine OptReq.mk rfl ?_); conv => whnf)
  refine LoopReq.inv hX (fun s : Nat × Nat => [(5, .int .i64 s.1), (41, .int .i64 s.2)]) [0, 1, 39, 40]
    (fun s w => (s.2 ≤ n ∧ s.1 = d + totL (l.take s.2)) ∧ Ev.Loc m [] w0 m [] w) (fun s => n - s.2) (d, 0)
    ⟨⟨by omega, by simp [totL]⟩, hL⟩ ⟨rfl, rfl, trivial⟩ ?_
  clear hL
  rintro ⟨s, j⟩ w e ⟨⟨hj, hs3⟩, hL⟩
  simp only at hj hs3
  have htl := totL_le (l := l) j
  conv => whnf
  repeat ((first | refine BrReq.tt ?_ | refine BrReq.ff ?_ | refine LdReq.own1 hX rfl rfl 0 hL rfl rfl ?_ | refine LdReq.own1 hX rfl rfl 1 hL rfl rfl ?_ | refine LdReq.own1 hX rfl rfl 2 hL rfl rfl ?_ | refine LdReq.own1 hX rfl rfl 3 hL rfl rfl ?_ | refine LdReq.own1 hX rfl rfl 4 hL rfl rfl ?_ | refine LdReq.own1 hX rfl rfl 5 hL rfl rfl ?_ | refine LdReq.own1 hX rfl rfl 6 hL rfl rfl ?_ | refine LdReq.ownA hX rfl rfl 0 hL rfl rfl ?_ | refine LdReq.ownA hX rfl rfl 1 hL rfl rfl ?_ | refine LdReq.ownA hX rfl rfl 2 hL rfl rfl ?_ | refine LdReq.ownA hX rfl rfl 3 hL rfl rfl ?_ | refine LdReq.ownA hX rfl rfl 4 hL rfl rfl ?_ | refine LdReq.ownA hX rfl rfl 5 hL rfl rfl ?_ | refine LdReq.ownA hX rfl rfl 6 hL rfl rfl ?_ | (refine StReq.own hX rfl 0 hL rfl rfl rfl rfl ?_; clear hL; intro w hL) | (refine StReq.own hX rfl 1 hL rfl rfl rfl rfl ?_; clear hL; intro w hL) | (refine StReq.own hX rfl 2 hL rfl rfl rfl rfl ?_; clear hL; intro w hL) | (refine StReq.own hX rfl 3 hL rfl rfl rfl rfl ?_; clear hL; intro w hL) | (refine StReq.own hX rfl 4 hL rfl rfl rfl rfl ?_; clear hL; intro w hL) | (refine StReq.own hX rfl 5 hL rfl rfl rfl rfl ?_; clear hL; intro w hL) | (refine StReq.own hX rfl 6 hL rfl rfl rfl rfl ?_; clear hL; intro w hL) | refine ArReq.i64 (by omega) (by omega) ?_ | refine SeqReq.go hX ?_ | refine OptReq.mk rfl ?_); conv => whnf)
  refine BrReq.dec (fun hlt => ?_) (fun hlt => ?_)
  · have hj1 : j < l.length := by simp only at hlt; omega
    obtain ⟨a1, rfl, hx⟩ := Sl.one hv' hj1
    have h1 := tot_one hj1
    have htk := totL_take hj1
    have hz1 := bs_size l[j]
    conv => whnf
    repeat ((first | (refine Idx2Req.mk j a1 rfl (by simp only at hlt; omega) rfl ?_) | refine LdReq.one hX rfl rfl hL hx ?_ | (refine ArReq.i64 (by simp only; omega) (by simp only; omega) ?_) | refine BrReq.tt ?_ | refine BrReq.ff ?_ | refine LdReq.own1 hX rfl rfl 0 hL rfl rfl ?_ | refine LdReq.own1 hX rfl rfl 1 hL rfl rfl ?_ | refine LdReq.own1 hX rfl rfl 2 hL rfl rfl ?_ | refine LdReq.own1 hX rfl rfl 3 hL rfl rfl ?_ | refine LdReq.own1 hX rfl rfl 4 hL rfl rfl ?_ | refine LdReq.own1 hX rfl rfl 5 hL rfl rfl ?_ | refine LdReq.own1 hX rfl rfl 6 hL rfl rfl ?_ | refine LdReq.ownA hX rfl rfl 0 hL rfl rfl ?_ | refine LdReq.ownA hX rfl rfl 1 hL rfl rfl ?_ | refine LdReq.ownA hX rfl rfl 2 hL rfl rfl ?_ | refine LdReq.ownA hX rfl rfl 3 hL rfl rfl ?_ | refine LdReq.ownA hX rfl rfl 4 hL rfl rfl ?_ | refine LdReq.ownA hX rfl rfl 5 hL rfl rfl ?_ | refine LdReq.ownA hX rfl rfl 6 hL rfl rfl ?_ | (refine StReq.own hX rfl 0 hL rfl rfl rfl rfl ?_; clear hL; intro w hL) | (refine StReq.own hX rfl 1 hL rfl rfl rfl rfl ?_; clear hL; intro w hL) | (refine StReq.own hX rfl 2 hL rfl rfl rfl rfl ?_; clear hL; intro w hL) | (refine StReq.own hX rfl 3 hL rfl rfl rfl rfl ?_; clear hL; intro w hL) | (refine StReq.own hX rfl 4 hL rfl rfl rfl rfl ?_; clear hL; intro w hL) | (refine StReq.own hX rfl 5 hL rfl rfl rfl rfl ?_; clear hL; intro w hL) | (refine StReq.own hX rfl 6 hL rfl rfl rfl rfl ?_; clear hL; intro w hL) | refine ArReq.i64 (by omega) (by omega) ?_ | refine SeqReq.go hX ?_ | refine OptReq.mk rfl ?_); conv => whnf)
    refine BrReq.no (by simp only; omega) ?_
    conv => whnf
    repeat ((first | (refine ArReq.i64 (by simp only; omega) (by simp only; omega) ?_) | refine BrReq.tt ?_ | refine BrReq.ff ?_ | refine LdReq.own1 hX rfl rfl 0 hL rfl rfl ?_ | refine LdReq.own1 hX rfl rfl 1 hL rfl rfl ?_ | refine LdReq.own1 hX rfl rfl 2 hL rfl rfl ?_ | refine LdReq.own1 hX rfl rfl 3 hL rfl rfl ?_ | refine LdReq.own1 hX rfl rfl 4 hL rfl rfl ?_ | refine LdReq.own1 hX rfl rfl 5 hL rfl rfl ?_ | refine LdReq.own1 hX rfl rfl 6 hL rfl rfl ?_ | refine LdReq.ownA hX rfl rfl 0 hL rfl rfl ?_ | refine LdReq.ownA hX rfl rfl 1 hL rfl rfl ?_ | refine LdReq.ownA hX rfl rfl 2 hL rfl rfl ?_ | refine LdReq.ownA hX rfl rfl 3 hL rfl rfl ?_ | refine LdReq.ownA hX rfl rfl 4 hL rfl rfl ?_ | refine LdReq.ownA hX rfl rfl 5 hL rfl rfl ?_ | refine LdReq.ownA hX rfl rfl 6 hL rfl rfl ?_ | (refine StReq.own hX rfl 0 hL rfl rfl rfl rfl ?_; clear hL; intro w hL) | (refine StReq.own hX rfl 1 hL rfl rfl rfl rfl ?_; clear hL; intro w hL) | (refine StReq.own hX rfl 2 hL rfl rfl rfl rfl ?_; clear hL; intro w hL) | (refine StReq.own hX rfl 3 hL rfl rfl rfl rfl ?_; clear hL; intro w hL) | (refine StReq.own hX rfl 4 hL rfl rfl rfl rfl ?_; clear hL; intro w hL) | (refine StReq.own hX rfl 5 hL rfl rfl rfl rfl ?_; clear hL; intro w hL) | (refine StReq.own hX rfl 6 hL rfl rfl rfl rfl ?_; clear hL; intro w hL) | refine ArReq.i64 (by omega) (by omega) ?_ | refine SeqReq.go hX ?_ | refine OptReq.mk rfl ?_); conv => whnf)
    refine ⟨(s + l[j].length, j + 1), ⟨⟨by simp only at hlt ⊢; omega, by simp only; omega⟩, hL⟩, by first | omega | (simp only; omega), ?_, ?_⟩
    · repeat (first | exact trivial | (refine And.intro (by (conv => lhs; whnf) <;> (conv => rhs; whnf) <;> (first | rfl | ((rw [hz1]; exact congrArg (Value.int .i64) (by simp only; omega))))) ?_))
    · repeat (first | exact trivial | (refine And.intro (by (conv => lhs; whnf) <;> (conv => rhs; whnf) <;> (first | rfl | ((rw [hz1]; exact congrArg (Value.int .i64) (by simp only; omega))))) ?_))
  have ej : j = l.length := by simp only at hlt; omega
  subst ej
  rw [List.take_length] at hs3
  have hl0 : 0 < l.length := by omega
  have hne0 := hne _ (List.getElem_mem hl0)
  have ht0 := tot_one hl0
  have hp0 := List.length_pos_iff.2 hne0
  obtain ⟨a1, ea1, hx0⟩ := Sl.one hv' hl0
  conv => whnf
  repeat ((first | refine BrReq.tt ?_ | refine BrReq.ff ?_ | refine LdReq.own1 hX rfl rfl 0 hL rfl rfl ?_ | refine LdReq.own1 hX rfl rfl 1 hL rfl rfl ?_ | refine LdReq.own1 hX rfl rfl 2 hL rfl rfl ?_ | refine LdReq.own1 hX rfl rfl 3 hL rfl rfl ?_ | refine LdReq.own1 hX rfl rfl 4 hL rfl rfl ?_ | refine LdReq.own1 hX rfl rfl 5 hL rfl rfl ?_ | refine LdReq.own1 hX rfl rfl 6 hL rfl rfl ?_ | refine LdReq.ownA hX rfl rfl 0 hL rfl rfl ?_ | refine LdReq.ownA hX rfl rfl 1 hL rfl rfl ?_ | refine LdReq.ownA hX rfl rfl 2 hL rfl rfl ?_ | refine LdReq.ownA hX rfl rfl 3 hL rfl rfl ?_ | refine LdReq.ownA hX rfl rfl 4 hL rfl rfl ?_ | refine LdReq.ownA hX rfl rfl 5 hL rfl rfl ?_ | refine LdReq.ownA hX rfl rfl 6 hL rfl rfl ?_ | (refine StReq.own hX rfl 0 hL rfl rfl rfl rfl ?_; clear hL; intro w hL) | (refine StReq.own hX rfl 1 hL rfl rfl rfl rfl ?_; clear hL; intro w hL) | (refine StReq.own hX rfl 2 hL rfl rfl rfl rfl ?_; clear hL; intro w hL) | (refine StReq.own hX rfl 3 hL rfl rfl rfl rfl ?_; clear hL; intro w hL) | (refine StReq.own hX rfl 4 hL rfl rfl rfl rfl ?_; clear hL; intro w hL) | (refine StReq.own hX rfl 5 hL rfl rfl rfl rfl ?_; clear hL; intro w hL) | (refine StReq.own hX rfl 6 hL rfl rfl rfl rfl ?_; clear hL; intro w hL) | refine ArReq.i64 (by omega) (by omega) ?_ | refine SeqReq.go hX ?_ | refine OptReq.mk rfl ?_); conv => whnf)
  refine NewReq.mk hL ?_
  clear hL
  intro b8 w hL
  conv => whnf
  conv => whnf
  repeat ((first | refine BrReq.tt ?_ | refine BrReq.ff ?_ | refine LdReq.own1 hX rfl rfl 0 hL rfl rfl ?_ | refine LdReq.own1 hX rfl rfl 1 hL rfl rfl ?_ | refine LdReq.own1 hX rfl rfl 2 hL rfl rfl ?_ | refine LdReq.own1 hX rfl rfl 3 hL rfl rfl ?_ | refine LdReq.own1 hX rfl rfl 4 hL rfl rfl ?_ | refine LdReq.own1 hX rfl rfl 5 hL rfl rfl ?_ | refine LdReq.own1 hX rfl rfl 6 hL rfl rfl ?_ | refine LdReq.ownA hX rfl rfl 0 hL rfl rfl ?_ | refine LdReq.ownA hX rfl rfl 1 hL rfl rfl ?_ | refine LdReq.ownA hX rfl rfl 2 hL rfl rfl ?_ | refine LdReq.ownA hX rfl rfl 3 hL rfl rfl ?_ | refine LdReq.ownA hX rfl rfl 4 hL rfl rfl ?_ | refine LdReq.ownA hX rfl rfl 5 hL rfl rfl ?_ | refine LdReq.ownA hX rfl rfl 6 hL rfl rfl ?_ | (refine StReq.own hX rfl 0 hL rfl rfl rfl rfl ?_; clear hL; intro w hL) | (refine StReq.own hX rfl 1 hL rfl rfl rfl rfl ?_; clear hL; intro w hL) | (refine StReq.own hX rfl 2 hL rfl rfl rfl rfl ?_; clear hL; intro w hL) | (refine StReq.own hX rfl 3 hL rfl rfl rfl rfl ?_; clear hL; intro w hL) | (refine StReq.own hX rfl 4 hL rfl rfl rfl rfl ?_; clear hL; intro w hL) | (refine StReq.own hX rfl 5 hL rfl rfl rfl rfl ?_; clear hL; intro w hL) | (refine StReq.own hX rfl 6 hL rfl rfl rfl rfl ?_; clear hL; intro w hL) | refine ArReq.i64 (by omega) (by omega) ?_ | refine SeqReq.go hX ?_ | refine OptReq.mk rfl ?_); conv => whnf)
  refine CallReq.mk (L1 := [(b8, bdO none (.slice none 0 0))]) (L2 := []) (grow_fn m b8 s none (.inl rfl) (by omega) (by omega)) hL ?_
  clear hL
  rintro u m2 L w hL - ⟨rfl, rfl, hB⟩
  rw [List.append_nil] at hL
  conv => whnf
  repeat ((first | refine Idx2Req.mk 0 a1 rfl (by omega) ea1 ?_ | refine LdReq.one hX rfl rfl hL hx0 ?_ | refine BrReq.tt ?_ | refine BrReq.ff ?_ | refine LdReq.own1 hX rfl rfl 0 hL rfl rfl ?_ | refine LdReq.own1 hX rfl rfl 1 hL rfl rfl ?_ | refine LdReq.own1 hX rfl rfl 2 hL rfl rfl ?_ | refine LdReq.own1 hX rfl rfl 3 hL rfl rfl ?_ | refine LdReq.own1 hX rfl rfl 4 hL rfl rfl ?_ | refine LdReq.own1 hX rfl rfl 5 hL rfl rfl ?_ | refine LdReq.own1 hX rfl rfl 6 hL rfl rfl ?_ | refine LdReq.ownA hX rfl rfl 0 hL rfl rfl ?_ | refine LdReq.ownA hX rfl rfl 1 hL rfl rfl ?_ | refine LdReq.ownA hX rfl rfl 2 hL rfl rfl ?_ | refine LdReq.ownA hX rfl rfl 3 hL rfl rfl ?_ | refine LdReq.ownA hX rfl rfl 4 hL rfl rfl ?_ | refine LdReq.ownA hX rfl rfl 5 hL rfl rfl ?_ | refine LdReq.ownA hX rfl rfl 6 hL rfl rfl ?_ | (refine StReq.own hX rfl 0 hL rfl rfl rfl rfl ?_; clear hL; intro w hL) | (refine StReq.own hX rfl 1 hL rfl rfl rfl rfl ?_; clear hL; intro w hL) | (refine StReq.own hX rfl 2 hL rfl rfl rfl rfl ?_; clear hL; intro w hL) | (refine StReq.own hX rfl 3 hL rfl rfl rfl rfl ?_; clear hL; intro w hL) | (refine StReq.own hX rfl 4 hL rfl rfl rfl rfl ?_; clear hL; intro w hL) | (refine StReq.own hX rfl 5 hL rfl rfl rfl rfl ?_; clear hL; intro w hL) | (refine StReq.own hX rfl 6 hL rfl rfl rfl rfl ?_; clear hL; intro w hL) | refine ArReq.i64 (by omega) (by omega) ?_ | refine SeqReq.go hX ?_ | refine OptReq.mk rfl ?_); conv => whnf)
  refine callWS hB (by simp; omega) (.inr hne0) hL ?_
  clear hL hB
  intro L w hB hL
  rw [List.nil_append] at hB
  have hsub := hv'.sub (lo := 1) (hi := n) (by omega) (Nat.le_refl _)
  rw [hn, List.take_length] at hsub
  conv => whnf
  repeat ((first | refine SlReq.mk 1 n rfl rfl (by omega) (by omega) ?_ | refine BrReq.tt ?_ | refine BrReq.ff ?_ | refine LdReq.own1 hX rfl rfl 0 hL rfl rfl ?_ | refine LdReq.own1 hX rfl rfl 1 hL rfl rfl ?_ | refine LdReq.own1 hX rfl rfl 2 hL rfl rfl ?_ | refine LdReq.own1 hX rfl rfl 3 hL rfl rfl ?_ | refine LdReq.own1 hX rfl rfl 4 hL rfl rfl ?_ | refine LdReq.own1 hX rfl rfl 5 hL rfl rfl ?_ | refine LdReq.own1 hX rfl rfl 6 hL rfl rfl ?_ | refine LdReq.ownA hX rfl rfl 0 hL rfl rfl ?_ | refine LdReq.ownA hX rfl rfl 1 hL rfl rfl ?_ | refine LdReq.ownA hX rfl rfl 2 hL rfl rfl ?_ | refine LdReq.ownA hX rfl rfl 3 hL rfl rfl ?_ | refine LdReq.ownA hX rfl rfl 4 hL rfl rfl ?_ | refine LdReq.ownA hX rfl rfl 5 hL rfl rfl ?_ | refine LdReq.ownA hX rfl rfl 6 hL rfl rfl ?_ | (refine StReq.own hX rfl 0 hL rfl rfl rfl rfl ?_; clear hL; intro w hL) | (refine StReq.own hX rfl 1 hL rfl rfl rfl rfl ?_; clear hL; intro w hL) | (refine StReq.own hX rfl 2 hL rfl rfl rfl rfl ?_; clear hL; intro w hL) | (refine StReq.own hX rfl 3 hL rfl rfl rfl rfl ?_; clear hL; intro w hL) | (refine StReq.own hX rfl 4 hL rfl rfl rfl rfl ?_; clear hL; intro w hL) | (refine StReq.own hX rfl 5 hL rfl rfl rfl rfl ?_; clear hL; intro w hL) | (refine StReq.own hX rfl 6 hL rfl rfl rfl rfl ?_; clear hL; intro w hL) | refine ArReq.i64 (by omega) (by omega) ?_ | refine SeqReq.go hX ?_ | refine OptReq.mk rfl ?_); conv => whnf)
  have hdl : (l.drop 1).length = n - 1 := by rw [List.length_drop]; omega
  have hjl := jnT_len sep (l.drop 1)
  have htd : l[0].length + totL (l.drop 1) = totL l := by
    cases l with
    | nil => exact absurd hl0 (by simp)
    | cons a r => simp [totL]
  rw [hdl] at hjl
  have hcut : l = l[0] :: l.drop 1 := by
    cases l with
    | nil => exact absurd hl0 (by simp)
    | cons a r => rfl
  generalize l[0] = s0 at hB hne0 hp0 htd hcut
  generalize l.drop 1 = l1 at hsub hdl hjl htd hcut
  have hjm : ∀ j, (jnT sep (l1.take j)).length ≤ (jnT sep l1).length := fun j => by
    rw [jnT_len, jnT_len]
    have h1 := totL_le (l := l1) j
    have h2 : (l1.take j).length * sep.length ≤ l1.length * sep.length := Nat.mul_le_mul_right _ (by rw [List.length_take]; omega)
    omega
  have hcm : (n - 1) * sep.length ≤ n - 1 := by rw [Nat.mul_comm]; exact hsep
  refine LoopReq.inv hX (fun j : Nat => [(65, .int .i64 j)]) [1, 8, 63, 64]
    (fun j w => j ≤ n - 1 ∧ ∃ L, Bld b8 (s0 ++ jnT sep (l1.take j)) L ∧ Ev.Loc m2 [] w0 m2 L w) (fun j => n - 1 - j) 0
    ⟨by omega, L, by simpa [jnT] using hB, hL⟩ ⟨rfl, trivial⟩ ?_
  clear hL hB
  rintro j w e2 ⟨hj, L, hB, hL⟩
  have hjj := hjm j
  conv => whnf
  repeat ((first | refine BrReq.tt ?_ | refine BrReq.ff ?_ | refine LdReq.own1 hX rfl rfl 0 hL rfl rfl ?_ | refine LdReq.own1 hX rfl rfl 1 hL rfl rfl ?_ | refine LdReq.own1 hX rfl rfl 2 hL rfl rfl ?_ | refine LdReq.own1 hX rfl rfl 3 hL rfl rfl ?_ | refine LdReq.own1 hX rfl rfl 4 hL rfl rfl ?_ | refine LdReq.own1 hX rfl rfl 5 hL rfl rfl ?_ | refine LdReq.own1 hX rfl rfl 6 hL rfl rfl ?_ | refine LdReq.ownA hX rfl rfl 0 hL rfl rfl ?_ | refine LdReq.ownA hX rfl rfl 1 hL rfl rfl ?_ | refine LdReq.ownA hX rfl rfl 2 hL rfl rfl ?_ | refine LdReq.ownA hX rfl rfl 3 hL rfl rfl ?_ | refine LdReq.ownA hX rfl rfl 4 hL rfl rfl ?_ | refine LdReq.ownA hX rfl rfl 5 hL rfl rfl ?_ | refine LdReq.ownA hX rfl rfl 6 hL rfl rfl ?_ | (refine StReq.own hX rfl 0 hL rfl rfl rfl rfl ?_; clear hL; intro w hL) | (refine StReq.own hX rfl 1 hL rfl rfl rfl rfl ?_; clear hL; intro w hL) | (refine StReq.own hX rfl 2 hL rfl rfl rfl rfl ?_; clear hL; intro w hL) | (refine StReq.own hX rfl 3 hL rfl rfl rfl rfl ?_; clear hL; intro w hL) | (refine StReq.own hX rfl 4 hL rfl rfl rfl rfl ?_; clear hL; intro w hL) | (refine StReq.own hX rfl 5 hL rfl rfl rfl rfl ?_; clear hL; intro w hL) | (refine StReq.own hX rfl 6 hL rfl rfl rfl rfl ?_; clear hL; intro w hL) | refine ArReq.i64 (by omega) (by omega) ?_ | refine SeqReq.go hX ?_ | refine OptReq.mk rfl ?_); conv => whnf)
  refine BrReq.dec (fun hlt => ?_) (fun hlt => ?_)
  · have hj1 : j < l1.length := by omega
    obtain ⟨a2, ea2, hx⟩ := Sl.one hsub hj1
    have htk := jnT_take sep hj1
    have hj2 := hjm (j + 1)
    have hlk : (jnT sep (l1.take (j + 1))).length = (jnT sep (l1.take j)).length + sep.length + l1[j].length := by rw [htk, List.length_append, List.length_append]
    conv => whnf
    repeat ((first | refine Idx2Req.mk j a2 rfl (by omega) ea2 ?_ | refine LdReq.one hX rfl rfl hL hx ?_ | refine BrReq.tt ?_ | refine BrReq.ff ?_ | refine LdReq.own1 hX rfl rfl 0 hL rfl rfl ?_ | refine LdReq.own1 hX rfl rfl 1 hL rfl rfl ?_ | refine LdReq.own1 hX rfl rfl 2 hL rfl rfl ?_ | refine LdReq.own1 hX rfl rfl 3 hL rfl rfl ?_ | refine LdReq.own1 hX rfl rfl 4 hL rfl rfl ?_ | refine LdReq.own1 hX rfl rfl 5 hL rfl rfl ?_ | refine LdReq.own1 hX rfl rfl 6 hL rfl rfl ?_ | refine LdReq.ownA hX rfl rfl 0 hL rfl rfl ?_ | refine LdReq.ownA hX rfl rfl 1 hL rfl rfl ?_ | refine LdReq.ownA hX rfl rfl 2 hL rfl rfl ?_ | refine LdReq.ownA hX rfl rfl 3 hL rfl rfl ?_ | refine LdReq.ownA hX rfl rfl 4 hL rfl rfl ?_ | refine LdReq.ownA hX rfl rfl 5 hL rfl rfl ?_ | refine LdReq.ownA hX rfl rfl 6 hL rfl rfl ?_ | (refine StReq.own hX rfl 0 hL rfl rfl rfl rfl ?_; clear hL; intro w hL) | (refine StReq.own hX rfl 1 hL rfl rfl rfl rfl ?_; clear hL; intro w hL) | (refine StReq.own hX rfl 2 hL rfl rfl rfl rfl ?_; clear hL; intro w hL) | (refine StReq.own hX rfl 3 hL rfl rfl rfl rfl ?_; clear hL; intro w hL) | (refine StReq.own hX rfl 4 hL rfl rfl rfl rfl ?_; clear hL; intro w hL) | (refine StReq.own hX rfl 5 hL rfl rfl rfl rfl ?_; clear hL; intro w hL) | (refine StReq.own hX rfl 6 hL rfl rfl rfl rfl ?_; clear hL; intro w hL) | refine ArReq.i64 (by omega) (by omega) ?_ | refine SeqReq.go hX ?_ | refine OptReq.mk rfl ?_); conv => whnf)
    refine callWS hB (by rw [List.length_append]; omega) (.inl (by simp [hne0])) hL ?_
    clear hL hB
    intro L w hB hL
    conv => whnf
    repeat ((first | refine BrReq.tt ?_ | refine BrReq.ff ?_ | refine LdReq.own1 hX rfl rfl 0 hL rfl rfl ?_ | refine LdReq.own1 hX rfl rfl 1 hL rfl rfl ?_ | refine LdReq.own1 hX rfl rfl 2 hL rfl rfl ?_ | refine LdReq.own1 hX rfl rfl 3 hL rfl rfl ?_ | refine LdReq.own1 hX rfl rfl 4 hL rfl rfl ?_ | refine LdReq.own1 hX rfl rfl 5 hL rfl rfl ?_ | refine LdReq.own1 hX rfl rfl 6 hL rfl rfl ?_ | refine LdReq.ownA hX rfl rfl 0 hL rfl rfl ?_ | refine LdReq.ownA hX rfl rfl 1 hL rfl rfl ?_ | refine LdReq.ownA hX rfl rfl 2 hL rfl rfl ?_ | refine LdReq.ownA hX rfl rfl 3 hL rfl rfl ?_ | refine LdReq.ownA hX rfl rfl 4 hL rfl rfl ?_ | refine LdReq.ownA hX rfl rfl 5 hL rfl rfl ?_ | refine LdReq.ownA hX rfl rfl 6 hL rfl rfl ?_ | (refine StReq.own hX rfl 0 hL rfl rfl rfl rfl ?_; clear hL; intro w hL) | (refine StReq.own hX rfl 1 hL rfl rfl rfl rfl ?_; clear hL; intro w hL) | (refine StReq.own hX rfl 2 hL rfl rfl rfl rfl ?_; clear hL; intro w hL) | (refine StReq.own hX rfl 3 hL rfl rfl rfl rfl ?_; clear hL; intro w hL) | (refine StReq.own hX rfl 4 hL rfl rfl rfl rfl ?_; clear hL; intro w hL) | (refine StReq.own hX rfl 5 hL rfl rfl rfl rfl ?_; clear hL; intro w hL) | (refine StReq.own hX rfl 6 hL rfl rfl rfl rfl ?_; clear hL; intro w hL) | refine ArReq.i64 (by omega) (by omega) ?_ | refine SeqReq.go hX ?_ | refine OptReq.mk rfl ?_); conv => whnf)
    refine callWS hB (by rw [List.length_append, List.length_append]; omega) (.inl (by simp [hne0])) hL ?_
    clear hL hB
    intro L w hB hL
    rw [List.append_assoc, List.append_assoc, ← List.append_assoc (jnT _ _), ← htk] at hB
    conv => whnf
    repeat ((first | refine BrReq.tt ?_ | refine BrReq.ff ?_ | refine LdReq.own1 hX rfl rfl 0 hL rfl rfl ?_ | refine LdReq.own1 hX rfl rfl 1 hL rfl rfl ?_ | refine LdReq.own1 hX rfl rfl 2 hL rfl rfl ?_ | refine LdReq.own1 hX rfl rfl 3 hL rfl rfl ?_ | refine LdReq.own1 hX rfl rfl 4 hL rfl rfl ?_ | refine LdReq.own1 hX rfl rfl 5 hL rfl rfl ?_ | refine LdReq.own1 hX rfl rfl 6 hL rfl rfl ?_ | refine LdReq.ownA hX rfl rfl 0 hL rfl rfl ?_ | refine LdReq.ownA hX rfl rfl 1 hL rfl rfl ?_ | refine LdReq.ownA hX rfl rfl 2 hL rfl rfl ?_ | refine LdReq.ownA hX rfl rfl 3 hL rfl rfl ?_ | refine LdReq.ownA hX rfl rfl 4 hL rfl rfl ?_ | refine LdReq.ownA hX rfl rfl 5 hL rfl rfl ?_ | refine LdReq.ownA hX rfl rfl 6 hL rfl rfl ?_ | (refine StReq.own hX rfl 0 hL rfl rfl rfl rfl ?_; clear hL; intro w hL) | (refine StReq.own hX rfl 1 hL rfl rfl rfl rfl ?_; clear hL; intro w hL) | (refine StReq.own hX rfl 2 hL rfl rfl rfl rfl ?_; clear hL; intro w hL) | (refine StReq.own hX rfl 3 hL rfl rfl rfl rfl ?_; clear hL; intro w hL) | (refine StReq.own hX rfl 4 hL rfl rfl rfl rfl ?_; clear hL; intro w hL) | (refine StReq.own hX rfl 5 hL rfl rfl rfl rfl ?_; clear hL; intro w hL) | (refine StReq.own hX rfl 6 hL rfl rfl rfl rfl ?_; clear hL; intro w hL) | refine ArReq.i64 (by omega) (by omega) ?_ | refine SeqReq.go hX ?_ | refine OptReq.mk rfl ?_); conv => whnf)
    refine ⟨j + 1, ⟨by omega, L, hB, hL⟩, by first | omega | (simp only; omega), ?_, ?_⟩
    · repeat (first | exact trivial | (refine And.intro (by (conv => lhs; whnf) <;> (conv => rhs; whnf) <;> (first | rfl)) ?_))
    · repeat (first | exact trivial | (refine And.intro (by (conv => lhs; whnf) <;> (conv => rhs; whnf) <;> (first | rfl)) ?_))
  · have ej : j = l1.length := by omega
    rw [ej, List.take_length] at hB
    conv => whnf
    repeat ((first | refine BrReq.tt ?_ | refine BrReq.ff ?_ | refine LdReq.own1 hX rfl rfl 0 hL rfl rfl ?_ | refine LdReq.own1 hX rfl rfl 1 hL rfl rfl ?_ | refine LdReq.own1 hX rfl rfl 2 hL rfl rfl ?_ | refine LdReq.own1 hX rfl rfl 3 hL rfl rfl ?_ | refine LdReq.own1 hX rfl rfl 4 hL rfl rfl ?_ | refine LdReq.own1 hX rfl rfl 5 hL rfl rfl ?_ | refine LdReq.own1 hX rfl rfl 6 hL rfl rfl ?_ | refine LdReq.ownA hX rfl rfl 0 hL rfl rfl ?_ | refine LdReq.ownA hX rfl rfl 1 hL rfl rfl ?_ | refine LdReq.ownA hX rfl rfl 2 hL rfl rfl ?_ | refine LdReq.ownA hX rfl rfl 3 hL rfl rfl ?_ | refine LdReq.ownA hX rfl rfl 4 hL rfl rfl ?_ | refine LdReq.ownA hX rfl rfl 5 hL rfl rfl ?_ | refine LdReq.ownA hX rfl rfl 6 hL rfl rfl ?_ | (refine StReq.own hX rfl 0 hL rfl rfl rfl rfl ?_; clear hL; intro w hL) | (refine StReq.own hX rfl 1 hL rfl rfl rfl rfl ?_; clear hL; intro w hL) | (refine StReq.own hX rfl 2 hL rfl rfl rfl rfl ?_; clear hL; intro w hL) | (refine StReq.own hX rfl 3 hL rfl rfl rfl rfl ?_; clear hL; intro w hL) | (refine StReq.own hX rfl 4 hL rfl rfl rfl rfl ?_; clear hL; intro w hL) | (refine StReq.own hX rfl 5 hL rfl rfl rfl rfl ?_; clear hL; intro w hL) | (refine StReq.own hX rfl 6 hL rfl rfl rfl rfl ?_; clear hL; intro w hL) | refine ArReq.i64 (by omega) (by omega) ?_ | refine SeqReq.go hX ?_ | refine OptReq.mk rfl ?_); conv => whnf)
    refine CallReq.mk (L1 := L) (L2 := []) (string_fn m2 b8 _ L hB (by simp [hne0])) (by rw [List.append_nil]; exact hL) ?_
    clear hL
    rintro u m3 L' w hL - ⟨rfl, rfl, rfl⟩
    conv => whnf
    repeat ((first | refine BrReq.tt ?_ | refine BrReq.ff ?_ | refine LdReq.own1 hX rfl rfl 0 hL rfl rfl ?_ | refine LdReq.own1 hX rfl rfl 1 hL rfl rfl ?_ | refine LdReq.own1 hX rfl rfl 2 hL rfl rfl ?_ | refine LdReq.own1 hX rfl rfl 3 hL rfl rfl ?_ | refine LdReq.own1 hX rfl rfl 4 hL rfl rfl ?_ | refine LdReq.own1 hX rfl rfl 5 hL rfl rfl ?_ | refine LdReq.own1 hX rfl rfl 6 hL rfl rfl ?_ | refine LdReq.ownA hX rfl rfl 0 hL rfl rfl ?_ | refine LdReq.ownA hX rfl rfl 1 hL rfl rfl ?_ | refine LdReq.ownA hX rfl rfl 2 hL rfl rfl ?_ | refine LdReq.ownA hX rfl rfl 3 hL rfl rfl ?_ | refine LdReq.ownA hX rfl rfl 4 hL rfl rfl ?_ | refine LdReq.ownA hX rfl rfl 5 hL rfl rfl ?_ | refine LdReq.ownA hX rfl rfl 6 hL rfl rfl ?_ | (refine StReq.own hX rfl 0 hL rfl rfl rfl rfl ?_; clear hL; intro w hL) | (refine StReq.own hX rfl 1 hL rfl rfl rfl rfl ?_; clear hL; intro w hL) | (refine StReq.own hX rfl 2 hL rfl rfl rfl rfl ?_; clear hL; intro w hL) | (refine StReq.own hX rfl 3 hL rfl rfl rfl rfl ?_; clear hL; intro w hL) | (refine StReq.own hX rfl 4 hL rfl rfl rfl rfl ?_; clear hL; intro w hL) | (refine StReq.own hX rfl 5 hL rfl rfl rfl rfl ?_; clear hL; intro w hL) | (refine StReq.own hX rfl 6 hL rfl rfl rfl rfl ?_; clear hL; intro w hL) | refine ArReq.i64 (by omega) (by omega) ?_ | refine SeqReq.go hX ?_ | refine OptReq.mk rfl ?_); conv => whnf)
    exact RetReq.mk hL ⟨rfl, by rw [hcut, jn_cons]; rfl⟩
end Go.Proofs.YtholfdaaclideaaDoor.bd
