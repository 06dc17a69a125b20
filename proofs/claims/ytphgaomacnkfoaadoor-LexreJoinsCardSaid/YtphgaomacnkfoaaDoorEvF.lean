/- A verified evaluator of conditions, part 6: memory that is shared and never turned, and blocks that are owned; contracts of functions. Conditions: none; over any program. -/
import Derived.Test.YtphgaomacnkfoaaDoorEvE
import Derived.Laws.AppendOwn
import Derived.Laws.MakeOwn
namespace Go.Ev
open Go

/-- Memory that nobody turns. -/
abbrev Mem := Nat → Option Obj
/-- Blocks that are owned, and what they hold. -/
abbrev Own := List (Nat × Obj)
def keys : Own → List Nat
  | [] => []
  | x :: l => x.1 :: keys l

theorem keys_append (a b : Own) : keys (a ++ b) = keys a ++ keys b := by
  induction a with
  | nil => rfl
  | cons x l ih => simp [keys, ih]
theorem mem_keys {b : Nat} {L : Own} : b ∈ keys L ↔ ∃ o, (b, o) ∈ L := by
  induction L with
  | nil => simp [keys]
  | cons x l ih =>
    obtain ⟨c, o⟩ := x
    simp only [keys, List.mem_cons, ih, Prod.mk.injEq]
    constructor
    · rintro (rfl | ⟨o', h⟩)
      · exact ⟨o, .inl ⟨rfl, rfl⟩⟩
      · exact ⟨o', .inr h⟩
    · rintro ⟨o', (⟨rfl, rfl⟩ | h)⟩
      · exact .inl rfl
      · exact .inr ⟨o', h⟩

theorem keys_map (L : Own) : keys L = L.map (·.1) := by
  induction L with
  | nil => rfl
  | cons x l ih => simp [keys, ih]

def Mem.Le (m m' : Mem) : Prop := ∀ b o, m b = some o → m' b = some o
theorem Mem.Le.refl (m : Mem) : Mem.Le m m := fun _ _ h => h
theorem Mem.Le.trans {a b c : Mem} (h : Mem.Le a b) (k : Mem.Le b c) : Mem.Le a c := fun x o hx => k x o (h x o hx)

/-- From the world w0, with the memory m0 and the blocks S, we have come to w, with the memory m and the owned blocks L. -/
structure Loc (m0 : Mem) (S : List Nat) (w0 : World) (m : Mem) (L : Own) (w : World) : Prop where
  os : w.os = w0.os
  tape : w.tape = w0.tape
  output : w.output = w0.output
  size : w0.heap.size ≤ w.heap.size
  fr : ∀ k, k < w0.heap.size → k ∉ S → w.heap[k]? = w0.heap[k]?
  sub : ∀ b o, m b = some o → w.heap[b]? = some o
  apart : ∀ b o, m b = some o → b ∉ keys L
  own : ∀ x ∈ L, w.heap[x.1]? = some x.2
  nodup : (keys L).Nodup
  new : ∀ b ∈ keys L, w0.heap.size ≤ b ∨ b ∈ S
  le : Mem.Le m0 m
  mnew : ∀ b o, m b = some o → m0 b = some o ∨ w0.heap.size ≤ b ∨ b ∈ S

structure Pre (m : Mem) (L : Own) (w : World) : Prop where
  sub : ∀ b o, m b = some o → w.heap[b]? = some o
  apart : ∀ b o, m b = some o → b ∉ keys L
  own : ∀ x ∈ L, w.heap[x.1]? = some x.2
  nodup : (keys L).Nodup

theorem Pre.loc {m : Mem} {L : Own} {w : World} (h : Pre m L w) : Loc m (keys L) w m L w :=
  ⟨rfl, rfl, rfl, Nat.le_refl _, fun _ _ _ => rfl, h.sub, h.apart, h.own, h.nodup, fun _ hb => .inr hb, Mem.Le.refl m, fun _ _ h => .inl h⟩

section
variable {P : Program} {X : Tab} {N : Nat} {m0 m : Mem} {S : List Nat} {w0 w : World} {L : Own}

theorem heap_lt {w : World} {b : Nat} {o : Obj} (h : w.heap[b]? = some o) : b < w.heap.size := (Array.getElem?_eq_some_iff.1 h).1

theorem Loc.pre (h : Loc m0 S w0 m L w) : Pre m L w := ⟨h.sub, h.apart, h.own, h.nodup⟩

theorem Loc.drew (h : Loc m0 S w0 m L w) : Loc m0 S w0 m L w.drew :=
  ⟨h.os, h.tape, h.output, h.size, h.fr, h.sub, h.apart, h.own, h.nodup, h.new, h.le, h.mnew⟩

theorem Loc.alloc (h : Loc m0 S w0 m L w) (o : Obj) : Loc m0 S w0 m ((w.heap.size, o) :: L) (w.alloc o) := by
  have old : ∀ b, b < w.heap.size → (w.alloc o).heap[b]? = w.heap[b]? := fun b hb => heap_alloc_old w o b hb
  refine ⟨h.os, h.tape, h.output, Nat.le_trans h.size (by simp), fun k hk hs => (old k (Nat.lt_of_lt_of_le hk h.size)).trans (h.fr k hk hs), fun b o' hb => ?_, fun b o' hb => ?_, fun x hx => ?_, ?_, fun b hb => ?_, h.le, h.mnew⟩
  · have := h.sub b o' hb; rw [old b (heap_lt this)]; exact this
  · have h1 := heap_lt (h.sub b o' hb)
    simp only [keys, List.mem_cons, not_or]
    exact ⟨by omega, h.apart b o' hb⟩
  · rcases List.mem_cons.1 hx with rfl | hx
    · exact heap_alloc_new w o
    · have := h.own x hx; rw [old x.1 (heap_lt this)]; exact this
  · simp only [keys, List.nodup_cons]
    refine ⟨fun hc => ?_, h.nodup⟩
    obtain ⟨o', ho⟩ := mem_keys.1 hc
    have := heap_lt (h.own _ ho)
    simp at this
  · simp only [keys, List.mem_cons] at hb
    rcases hb with rfl | hb
    · exact .inl h.size
    · exact h.new b hb

/-- An owned block is handed over to the memory that nobody turns. -/
def Mem.add (m : Mem) (b : Nat) (o : Obj) : Mem := fun c => match Nat.beq c b with | true => some o | false => m c

theorem Mem.add_same (m : Mem) (b : Nat) (o : Obj) : Mem.add m b o b = some o := by simp [Mem.add]
theorem Mem.add_other (m : Mem) {b c : Nat} (o : Obj) (h : c ≠ b) : Mem.add m b o c = m c := by
  have : Nat.beq c b = false := by rw [Bool.eq_false_iff]; intro hc; exact h (Nat.eq_of_beq_eq_true hc)
  simp [Mem.add, this]

theorem Loc.le_add {b : Nat} {o : Obj} (h : Loc m0 S w0 m ((b, o) :: L) w) : Mem.Le m (m.add b o) := fun c o' hc => by
  have : c ≠ b := fun e => by subst e; exact h.apart c o' hc (by simp [keys])
  rw [Mem.add_other _ _ this]; exact hc

theorem Loc.freeze {b : Nat} {o : Obj} (h : Loc m0 S w0 m ((b, o) :: L) w) : Loc m0 S w0 (m.add b o) L w := by
  have hn := h.nodup
  simp only [keys, List.nodup_cons] at hn
  have cs : ∀ c o', m.add b o c = some o' → (c = b ∧ o' = o) ∨ m c = some o' := fun c o' hc => by
    by_cases e : c = b
    · subst e; rw [Mem.add_same] at hc; injection hc with hc; exact .inl ⟨rfl, hc.symm⟩
    · rw [Mem.add_other _ _ e] at hc; exact .inr hc
  refine ⟨h.os, h.tape, h.output, h.size, h.fr, fun c o' hc => ?_, fun c o' hc => ?_, fun x hx => h.own x (List.mem_cons_of_mem _ hx), hn.2, fun c hc => h.new c (by simp [keys, hc]), h.le.trans h.le_add, fun c o' hc => ?_⟩
  · rcases cs c o' hc with ⟨rfl, rfl⟩ | hc
    · exact h.own (c, o') List.mem_cons_self
    · exact h.sub c o' hc
  · rcases cs c o' hc with ⟨rfl, rfl⟩ | hc
    · exact hn.1
    · have := h.apart c o' hc; simp only [keys, List.mem_cons, not_or] at this; exact this.2
  · rcases cs c o' hc with ⟨rfl, rfl⟩ | hc
    · exact .inr (h.new c (by simp [keys]))
    · exact h.mnew c o' hc

theorem Loc.drop {x : Nat × Obj} (h : Loc m0 S w0 m (x :: L) w) : Loc m0 S w0 m L w := by
  have hn := h.nodup
  simp only [keys, List.nodup_cons] at hn
  exact ⟨h.os, h.tape, h.output, h.size, h.fr, h.sub, fun c o' hc => by have := h.apart c o' hc; simp only [keys, List.mem_cons, not_or] at this; exact this.2,
    fun x hx => h.own x (List.mem_cons_of_mem _ hx), hn.2, fun c hc => h.new c (by simp [keys, hc]), h.le, h.mnew⟩

theorem Loc.dropN {L1 : Own} (h : Loc m0 S w0 m (L1 ++ L) w) : Loc m0 S w0 m L w := by
  induction L1 with
  | nil => exact h
  | cons x l ih => exact ih h.drop

/-- The same blocks in another order. -/
theorem keys_perm {L L' : Own} (h : L.Perm L') : (keys L).Perm (keys L') := by
  induction h with
  | nil => exact .nil
  | cons x _ ih => exact .cons _ ih
  | swap x y l => exact .swap _ _ _
  | trans _ _ ih1 ih2 => exact ih1.trans ih2
theorem Loc.perm {L' : Own} (h : Loc m0 S w0 m L w) (hp : L.Perm L') : Loc m0 S w0 m L' w := by
  have hk := keys_perm hp
  exact ⟨h.os, h.tape, h.output, h.size, h.fr, h.sub, fun c o hc hm => h.apart c o hc (hk.mem_iff.2 hm), fun x hx => h.own x (hp.mem_iff.2 hx), hk.nodup_iff.1 h.nodup,
    fun c hc => h.new c (hk.mem_iff.2 hc), h.le, h.mnew⟩

/-- Block number i comes to the front. -/
def front (L : Own) (i : Nat) : Own := match look L i with | some x => x :: L.eraseIdx i | none => L
theorem front_perm (L : Own) : ∀ i, L.Perm (front L i) := by
  induction L with
  | nil => intro i; exact .nil
  | cons x l ih =>
    intro i
    cases i with
    | zero => exact .refl _
    | succ i =>
      have := ih i
      unfold front at this ⊢
      simp only [look]
      cases hl : look l i with
      | none => exact .refl _
      | some y =>
        rw [hl] at this
        simp only [List.eraseIdx_cons_succ]
        exact (List.Perm.cons x this).trans (.swap y x _)
theorem Loc.front (h : Loc m0 S w0 m L w) (i : Nat) : Loc m0 S w0 m (front L i) w := h.perm (front_perm L i)

/-- With less of memory. -/
theorem Loc.weaken {m' : Mem} (h : Loc m0 S w0 m' L w) (hl : Mem.Le m m') (h0 : Mem.Le m0 m) : Loc m0 S w0 m L w :=
  ⟨h.os, h.tape, h.output, h.size, h.fr, fun b o hb => h.sub b o (hl b o hb), fun b o hb => h.apart b o (hl b o hb), h.own, h.nodup, h.new, h0, fun b o hb => h.mnew b o (hl b o hb)⟩

/-! ### cells -/
def ocell (o : Option Obj) (i : Nat) : Option Value := match o with | some (.cells c _ _) => c[i]? | _ => none
def mcell (m : Mem) (a : Addr) : Option Value := match a.spot with | none => ocell (m a.block) a.off | some _ => none
theorem mcell_le {m m' : Mem} (h : Mem.Le m m') {a : Addr} {v : Value} (hv : mcell m a = some v) : mcell m' a = some v := by
  unfold mcell at *
  split
  · rename_i hs
    rw [hs] at hv
    simp only at hv
    cases hb : m a.block with
    | none => rw [hb] at hv; simp [ocell] at hv
    | some o => rw [h _ _ hb]; rw [hb] at hv; exact hv
  · rename_i s hs; rw [hs] at hv; cases hv
theorem cell_of_heap {w : World} {b i : Nat} {c : Array Value} {t : TypeId} {f : Nat × Nat} (h : w.heap[b]? = some (.cells c t f)) : w.cell? ⟨b, i, none⟩ = c[i]? := by
  simp [World.cell?, h]
theorem Loc.cell (h : Loc m0 S w0 m L w) {a : Addr} {v : Value} (hv : mcell m a = some v) : w.cell? a = some v := by
  unfold mcell at hv
  cases hs : a.spot with
  | some s => rw [hs] at hv; cases hv
  | none =>
    rw [hs] at hv
    simp only at hv
    cases hb : m a.block with
    | none => rw [hb] at hv; simp [ocell] at hv
    | some o =>
      have := h.sub _ _ hb
      rw [hb] at hv
      unfold ocell at hv
      split at hv
      · rename_i c t f heq
        injection heq with heq
        subst heq
        simp [World.cell?, this, hs, hv]
      · cases hv
theorem Loc.ownCell (h : Loc m0 S w0 m L w) {b i : Nat} {c : Array Value} {t : TypeId} {f : Nat × Nat} (hm : (b, Obj.cells c t f) ∈ L) : w.cell? ⟨b, i, none⟩ = c[i]? :=
  cell_of_heap (h.own _ hm)

/-- A store into an owned block. -/
theorem Loc.set (h : Loc m0 S w0 m L w) {i b off : Nat} {cs : List Value} {t : TypeId} {v : Value} (hi : look L i = some (b, .cells (toArr cs) t (0, 0))) :
    Loc m0 S w0 m (L.set i (b, .cells (toArr (cs.set off v)) t (0, 0))) (w.setCell ⟨b, off, none⟩ v) := by
  rw [look_eq] at hi
  have hmem : (b, Obj.cells (toArr cs) t (0, 0)) ∈ L := List.mem_of_getElem? hi
  have hb := h.own _ hmem
  have hnew : (w.setCell ⟨b, off, none⟩ v).heap[b]? = some (.cells (toArr (cs.set off v)) t (0, 0)) := by
    simp only [World.setCell, Array.getElem?_modify, if_true]
    simp only at hb
    rw [hb]
    simp [toArr]
  have hoth : ∀ k, k ≠ b → (w.setCell ⟨b, off, none⟩ v).heap[k]? = w.heap[k]? := fun k hk => by
    simp only [World.setCell, Array.getElem?_modify]
    rw [if_neg (fun e => hk e.symm)]
  have hkeys : keys (L.set i (b, .cells (toArr (cs.set off v)) t (0, 0))) = keys L := by
    clear hmem hb hnew hoth h
    induction L generalizing i with
    | nil => simp
    | cons x l ih =>
      cases i with
      | zero => simp at hi; subst hi; simp [keys]
      | succ i => simp only [List.set_cons_succ, keys]; rw [ih (by simpa using hi)]
  have hbk : b ∈ keys L := mem_keys.2 ⟨_, hmem⟩
  refine ⟨h.os, h.tape, h.output, by simpa using h.size, fun k hk hs => ?_, fun c o hc => ?_, fun c o hc => hkeys ▸ h.apart c o hc, fun x hx => ?_, hkeys ▸ h.nodup, fun c hc => h.new c (hkeys ▸ hc), h.le, h.mnew⟩
  · have : k ≠ b := fun e => by
      subst e
      rcases h.new k hbk with h1 | h1
      · omega
      · exact hs h1
    rw [hoth k this]; exact h.fr k hk hs
  · have : c ≠ b := fun e => by subst e; exact h.apart c o hc hbk
    rw [hoth c this]; exact h.sub c o hc
  · obtain ⟨j, hj⟩ := List.getElem?_of_mem hx
    rw [List.getElem?_set] at hj
    split at hj
    · split at hj
      · injection hj with hj; subst hj; exact hnew
      · cases hj
    · rename_i hij
      have hxm := List.mem_of_getElem? hj
      have hne : x.1 ≠ b := fun e => by
        have h1 : (keys L)[i]? = some b := by rw [keys_map, List.getElem?_map, hi]; rfl
        have h2 : (keys L)[j]? = some b := by rw [keys_map, List.getElem?_map, hj]; simp [e]
        have hl1 := (List.getElem?_eq_some_iff.1 h1).1
        exact hij ((List.getElem?_inj hl1 h.nodup).1 (h1.trans h2.symm))
      rw [hoth _ hne]; exact h.own _ hxm

/-! ### contracts -/
/-- A contract: with the memory m and the blocks L, called with these arguments, it returns; behind it there is a memory and there are blocks as the postcondition says; all else is as it was. -/
def Fn (P : Program) (f : Nat) (args : List Value) (m : Mem) (L : Own) (Post : Mem → Own → Value → Prop) : Prop :=
  ∀ w, Pre m L w → Calls P f (toArr args) w fun e w' => ∃ v m' L', e = .returned v ∧ Loc m (keys L) w m' L' w' ∧ Post m' L' v

theorem Fn.mono {f : Nat} {args : List Value} {Post Post' : Mem → Own → Value → Prop} (h : Fn P f args m L Post) (hp : ∀ m' L' v, Mem.Le m m' → Post m' L' v → Post' m' L' v) : Fn P f args m L Post' :=
  fun w hw => (h w hw).mono fun _ _ ⟨v, m', L', he, hl, hq⟩ => ⟨v, m', L', he, hl, hp _ _ _ hl.le hq⟩

/-- What a function's body has to come to. -/
structure RetReq (m0 : Mem) (S : List Nat) (w0 : World) (Post : Mem → Own → Value → Prop) (v : Value) (w : World) : Prop where
  of ::
  out : ∃ m L, Loc m0 S w0 m L w ∧ Post m L v
theorem RetReq.mk {Post : Mem → Own → Value → Prop} {v : Value} (hL : Loc m0 S w0 m L w) (hp : Post m L v) : RetReq m0 S w0 Post v w := by
  exact ⟨⟨m, L, hL, hp⟩⟩

def envOf (l : List Value) : Env := fun i => match look l i with | some v => v | none => undef

def evRes (P : Program) (N : Nat) (e : Env) (w : World) : List ResultVar → (List Value → Prop) → Prop
  | [], K => K []
  | .tmp t :: l, K => evRes P N e w l fun vs => K (rd N e (.tmp t) :: vs)
  | .cell a t :: l, K => match rd N e (.tmp a) with
    | .pointer (some a) => LdReq P t w a fun v => evRes P N e w l fun vs => K (v :: vs)
    | _ => False
def resV : List Value → Value
  | [v] => v
  | l => .tuple (toArr l)

def resOne (tmps : Array Value) : ResultVar → Sem Value
  | .tmp t => pure (tmps.getD t undef)
  | .cell a t => do loadVar t (← asAddr (tmps.getD a undef))

theorem run_results {e : Env} {a : Act} (ha : Agree N e a) : ∀ (l : List ResultVar) (K : List Value → Prop), evRes P N e w l K →
    ∃ vs, (l.mapM (resOne a.tmps)).run P w = .ok vs w ∧ K vs
  | [], K, h => ⟨[], by simp, h⟩
  | .tmp t :: l, K, h => by
    obtain ⟨vs, h1, h2⟩ := run_results ha l _ h
    have he : a.tmps.getD t undef = rd N e (.tmp t) := by rw [← ha.eval]; rfl
    refine ⟨rd N e (.tmp t) :: vs, ?_, h2⟩
    simp only [List.mapM_cons, Sem.run_bind, resOne, Sem.run_pure, Result.andThen_ok, h1, he]
  | .cell a' t :: l, K, h => by
    have he : a.tmps.getD a' undef = rd N e (.tmp a') := by rw [← ha.eval]; rfl
    simp only [evRes] at h
    split at h
    · rename_i x ad hx
      replace h := h.out
      obtain ⟨v, hv, h⟩ := h
      obtain ⟨vs, h1, h2⟩ := run_results ha l _ h
      refine ⟨v :: vs, ?_, h2⟩
      simp only [List.mapM_cons, Sem.run_bind, resOne, Sem.run_pure, Result.andThen_ok, h1, he, hx, asAddr, hv]
    · exact h.elim

/-- A function's contract, by its body. -/
theorem Fn.enter (hX : TabsOk P X) {f : Nat} {fn : Func} {c : Code} {args : List Value} {Post : Mem → Own → Value → Prop}
    (hf : P.funcs[f]? = some fn) (hb : fn.body = some c) (hN : fn.ntmps = N) (hl : args.length ≤ N)
    (h : ∀ w, Loc m (keys L) w m L w → ev P X N c (fun e w' => evRes P N e w' fn.results.toList fun vs => RetReq m (keys L) w Post (resV vs) w') (fun _ _ _ => False)
      (fun e w' => evRes P N e w' fn.results.toList fun vs => RetReq m (keys L) w Post (resV vs) w') (envOf args) w) :
    Fn P f args m L Post := by
  intro w hw
  have h := h w hw.loc
  have ha : Agree N (envOf args) { tmps := toArr args ++ Array.replicate (fn.ntmps - (toArr args).size) undef, defers := [] } := by
    have hs : (toArr args).size = args.length := by simp [toArr]
    refine ⟨by simp [hs, hN]; omega, fun i hi => ?_, rfl⟩
    simp only [envOf, look_eq]
    rw [Array.getElem?_append]
    by_cases hlt : i < args.length
    · rw [if_pos (by omega)]
      simp [toArr, hlt]
    · rw [if_neg (by omega), Array.getElem?_replicate, if_pos (by omega)]
      simp [List.getElem?_eq_none (Nat.le_of_not_lt hlt)]
  refine calls_of_wp hf hb (wp_mono (ev_ok hX c _ _ _ _ _ w ha h) fun ex a w' hq => ?_)
  have fin : ∀ e, Agree N e a → (evRes P N e w' fn.results.toList fun vs => RetReq m (keys L) w Post (resV vs) w') →
      a.defers = [] ∧ ∃ v, (results fn a.tmps).run P w' = .ok v w' ∧ ∃ v' m' L', Ending.returned v = .returned v' ∧ Loc m (keys L) w m' L' w' ∧ Post m' L' v' := by
    intro e ha h
    obtain ⟨vs, h1, h2⟩ := run_results ha _ _ h
    replace h2 := h2.out
    obtain ⟨m', L', h3, h4⟩ := h2
    refine ⟨ha.defers, resV vs, ?_, resV vs, m', L', rfl, h3, h4⟩
    have hm : (fn.results.mapM (resOne a.tmps)).run P w' = .ok vs.toArray w' := by
      rw [← Array.toArray_toList (xs := fn.results), List.mapM_toArray]
      simp only [Sem.run_map, h1, Result.andThen_ok]
    show (do let vs ← fn.results.mapM (resOne a.tmps); pure (if h : vs.size = 1 then vs[0] else .tuple vs) : Sem Value).run P w' = _
    simp only [Sem.run_bind, hm, Result.andThen_ok, Sem.run_pure]
    match vs with
    | [] => rfl
    | [v] => rfl
    | v :: u :: l => simp [resV, toArr]
  cases ex with
  | normal => obtain ⟨e, ha, h⟩ := hq; exact fin e ha h
  | ret => obtain ⟨e, ha, h⟩ := hq; exact fin e ha h
  | exit id => obtain ⟨e, ha, h⟩ := hq; exact h.elim
  | goto l => exact hq.elim
  | panic ch => exact hq.elim
  | outgrown => exact hq.elim

/-! ### how what is asked is met -/
theorem BrReq.tt {A B : Prop} (h : A) : BrReq true A B := by exact ⟨⟨fun _ => h, fun h => by cases h⟩⟩
theorem BrReq.ff {A B : Prop} (h : B) : BrReq false A B := by exact ⟨⟨fun h => (by cases h), fun _ => h⟩⟩
theorem BrReq.t {b : Bool} {A B : Prop} (hb : b = true) (h : A) : BrReq b A B := by subst hb; exact .tt h
theorem BrReq.f {b : Bool} {A B : Prop} (hb : b = false) (h : B) : BrReq b A B := by subst hb; exact .ff h
theorem BrReq.dec {p : Prop} [Decidable p] {A B : Prop} (h1 : p → A) (h2 : ¬ p → B) : BrReq (decide p) A B := by
  exact ⟨⟨fun h => h1 (of_decide_eq_true h), fun h => h2 (of_decide_eq_false h)⟩⟩
theorem BrReq.yes {p : Prop} [Decidable p] {A B : Prop} (hp : p) (h : A) : BrReq (decide p) A B := .t (decide_eq_true hp) h
theorem BrReq.no {p : Prop} [Decidable p] {A B : Prop} (hp : ¬ p) (h : B) : BrReq (decide p) A B := .f (decide_eq_false hp) h
theorem BrReq.bool {b : Bool} {A B : Prop} (h1 : b = true → A) (h2 : b = false → B) : BrReq b A B := by exact ⟨⟨h1, h2⟩⟩
theorem BrReq.not {b : Bool} {A B : Prop} (h : BrReq b B A) : BrReq (!b) A B := by
  cases b
  · exact ⟨⟨fun _ => h.out.2 rfl, fun h => by cases h⟩⟩
  · exact ⟨⟨fun h => (by cases h), fun _ => h.out.1 rfl⟩⟩

theorem wrap_keep (k : IntKind) {n : Int} (h1 : k.min ≤ n) (h2 : n ≤ k.max) : k.wrap n = n := by
  cases k <;> simp only [IntKind.min, IntKind.max, IntKind.signed, IntKind.bits, IntKind.wrap] at * <;> simp at * <;> omega
theorem ArReq.keep {k : IntKind} {n : Int} {K : Int → Prop} (h1 : k.min ≤ n) (h2 : n ≤ k.max) (h : K n) : ArReq k n K := by
  constructor; rw [wrap_keep k h1 h2]; exact h
theorem ArReq.i64 {n : Int} {K : Int → Prop} (h1 : -9223372036854775808 ≤ n) (h2 : n ≤ 9223372036854775807) (h : K n) : ArReq .i64 n K := .keep h1 h2 h
theorem ArReq.u64 {n : Int} {K : Int → Prop} (h1 : 0 ≤ n) (h2 : n ≤ 18446744073709551615) (h : K n) : ArReq .u64 n K := .keep h1 h2 h
theorem ArReq.u32 {n : Int} {K : Int → Prop} (h1 : 0 ≤ n) (h2 : n ≤ 4294967295) (h : K n) : ArReq .u32 n K := .keep h1 h2 h
theorem ArReq.u16 {n : Int} {K : Int → Prop} (h1 : 0 ≤ n) (h2 : n ≤ 65535) (h : K n) : ArReq .u16 n K := .keep h1 h2 h
theorem ArReq.u8 {n : Int} {K : Int → Prop} (h1 : 0 ≤ n) (h2 : n ≤ 255) (h : K n) : ArReq .u8 n K := .keep h1 h2 h
theorem ArReq.wrap {k : IntKind} {n : Int} {K : Int → Prop} (h : K (k.wrap n)) : ArReq k n K := by exact ⟨h⟩
theorem ArReq.as {k : IntKind} {n n' : Int} {K : Int → Prop} (hn : k.wrap n = n') (h : K n') : ArReq k n K := by subst hn; exact .wrap h

theorem NewReq.mk {o : Obj} {K : Nat → World → Prop} (hL : Loc m0 S w0 m L w) (h : ∀ b w', Loc m0 S w0 m ((b, o) :: L) w' → K b w') : NewReq w o K := by
  exact ⟨h _ _ (hL.alloc o)⟩

theorem IdxReq.mk {i : Int} {n : Nat} {K : Nat → Prop} (j : Nat) (hi : i = (j : Int)) (hj : j < n) (h : K j) : IdxReq i n K := by exact ⟨⟨j, hi, hj, h⟩⟩
theorem Idx2Req.mk {i : Int} {n : Nat} {base : Option Addr} {K : Nat → Addr → Prop} (j : Nat) (a : Addr) (hi : i = (j : Int)) (hj : j < n) (ha : base = some a) (h : K j a) : Idx2Req i n base K := by
  exact ⟨⟨j, a, hi, hj, ha, h⟩⟩
theorem SlReq.mk {lo hi : Int} {n : Nat} {K : Nat → Nat → Prop} (l h : Nat) (h1 : lo = (l : Int)) (h2 : hi = (h : Int)) (h3 : l ≤ h) (h4 : h ≤ n) (hk : K l h) : SlReq lo hi n K := by
  exact ⟨⟨l, h, h1, h2, h3, h4, hk⟩⟩
theorem StrIdxReq.mk {s : ByteArray} {i : Int} {K : Nat → Prop} (j : Nat) (b : UInt8) (h1 : i = (j : Int)) (h2 : s.data[j]? = some b) (hk : K b.toNat) : StrIdxReq s i K := by
  exact ⟨⟨j, b, h1, h2, hk⟩⟩
theorem OptReq.mk {x : Option Value} {K : Value → Prop} {v : Value} (hx : x = some v) (hk : K v) : OptReq x K := by exact ⟨⟨v, hx, hk⟩⟩
theorem DivReq.mk {k : IntKind} {a b n : Int} {K : Int → Prop} (hb : b ≠ 0) (hn : k.wrap (a.tdiv b) = n) (h : K n) : DivReq k a b K := by subst hn; exact ⟨⟨hb, h⟩⟩
theorem RemReq.mk {a b n : Int} {K : Int → Prop} (hb : b ≠ 0) (hn : a.tmod b = n) (h : K n) : RemReq a b K := by subst hn; exact ⟨⟨hb, h⟩⟩
theorem ShlReq.mk {k : IntKind} {a b n : Int} {K : Int → Prop} (hb : 0 ≤ b) (hn : k.wrap (a * 2 ^ (min b.toNat k.bits)) = n) (h : K n) : ShlReq k a b K := by subst hn; exact ⟨⟨hb, h⟩⟩
theorem ShrReq.mk {k : IntKind} {a b n : Int} {K : Int → Prop} (hb : 0 ≤ b) (hn : a.fdiv (2 ^ (min b.toNat k.bits)) = n) (h : K n) : ShrReq k a b K := by subst hn; exact ⟨⟨hb, h⟩⟩
theorem BitReq.mk {op : BinOp} {k : IntKind} {a b n : Int} {K : Int → Prop} (hn : bitsOf op k a b = n) (h : K n) : BitReq op k a b K := by subst hn; exact ⟨h⟩
theorem RunReq.mk {s : Sem Value} {K : Value → World → Prop} {v : Value} {w' : World} (hr : s.run P w = .ok v w') (h : K v w') : RunReq P s w K := by exact ⟨⟨v, w', hr, h⟩⟩

/-- A call. -/
theorem CallReq.mk {L1 L2 : Own} {f : Nat} {args : List Value} {Post : Mem → Own → Value → Prop} {K : Value → World → Prop} (h : Fn P f args m L1 Post) (hL : Loc m0 S w0 m (L1 ++ L2) w)
    (k : ∀ v m' L1' w', Loc m0 S w0 m' (L1' ++ L2) w' → Mem.Le m m' → Post m' L1' v → K v w') : CallReq P f (toArr args) w K := by
  constructor
  have hn := hL.nodup
  rw [keys_append, List.nodup_append] at hn
  have hp : Pre m L1 w := ⟨hL.sub, fun b o hb hm => hL.apart b o hb (by rw [keys_append]; exact List.mem_append_left _ hm), fun x hx => hL.own x (List.mem_append_left _ hx), hn.1⟩
  refine (h w hp).mono fun e w' ⟨v, m', L1', he, hl, hq⟩ => ?_
  subst he
  refine k v m' L1' w' ?_ hl.le hq
  have hL2 : ∀ x ∈ L2, w'.heap[x.1]? = some x.2 ∧ x.1 < w.heap.size ∧ x.1 ∉ keys L1 := fun x hx => by
    have h1 := hL.own x (List.mem_append_right _ hx)
    have h2 := heap_lt h1
    have h3 : x.1 ∉ keys L1 := fun hc => hn.2.2 _ hc _ (mem_keys.2 ⟨x.2, hx⟩) rfl
    exact ⟨(hl.fr _ h2 h3).trans h1, h2, h3⟩
  have key2 : ∀ b ∈ keys L2, b < w.heap.size ∧ b ∉ keys L1 := fun b hb => by
    obtain ⟨o, ho⟩ := mem_keys.1 hb
    exact ⟨(hL2 _ ho).2.1, (hL2 _ ho).2.2⟩
  have disj : ∀ b, (w.heap.size ≤ b ∨ b ∈ keys L1) → b ∉ keys L2 := fun b hb hc => by
    have := key2 b hc
    rcases hb with hb | hb
    · omega
    · exact this.2 hb
  have newp : ∀ b, (w.heap.size ≤ b ∨ b ∈ keys L1) → w0.heap.size ≤ b ∨ b ∈ S := fun b hb => by
    rcases hb with hb | hb
    · exact .inl (Nat.le_trans hL.size hb)
    · exact hL.new b (by rw [keys_append]; exact List.mem_append_left _ hb)
  refine ⟨hl.os.trans hL.os, hl.tape.trans hL.tape, hl.output.trans hL.output, Nat.le_trans hL.size hl.size, fun k hk hs => ?_, hl.sub, fun b o hb => ?_, fun x hx => ?_, ?_, fun b hb => ?_, hL.le.trans hl.le, fun b o hb => ?_⟩
  · have : k ∉ keys L1 := fun hc => by
      rcases newp k (.inr hc) with h1 | h1
      · omega
      · exact hs h1
    exact (hl.fr k (Nat.lt_of_lt_of_le hk hL.size) this).trans (hL.fr k hk hs)
  · rw [keys_append, List.mem_append, not_or]
    refine ⟨hl.apart b o hb, ?_⟩
    rcases hl.mnew b o hb with h1 | h1
    · intro hc; exact hL.apart b o h1 (by rw [keys_append]; exact List.mem_append_right _ hc)
    · exact disj b h1
  · rcases List.mem_append.1 hx with hx | hx
    · exact hl.own x hx
    · exact (hL2 x hx).1
  · rw [keys_append, List.nodup_append]
    exact ⟨hl.nodup, hn.2.1, fun a ha b hb e => by subst e; exact disj a (hl.new a ha) hb⟩
  · rw [keys_append, List.mem_append] at hb
    rcases hb with hb | hb
    · exact newp b (hl.new b hb)
    · exact hL.new b (by rw [keys_append]; exact List.mem_append_right _ hb)
  · rcases hl.mnew b o hb with h1 | h1
    · exact hL.mnew b o h1
    · exact .inr (newp b h1)

/-- A call of a function that needs no block of its own, and hands none over. -/
def Fn0 (P : Program) (f : Nat) (args : List Value) (m : Mem) (Post : Mem → Value → Prop) : Prop := Fn P f args m [] fun m' L' v => L' = [] ∧ Post m' v
theorem CallReq.pure {f : Nat} {args : List Value} {Post : Mem → Value → Prop} {K : Value → World → Prop} (h : Fn0 P f args m Post) (hL : Loc m0 S w0 m L w)
    (k : ∀ v m' w', Loc m0 S w0 m' L w' → Mem.Le m m' → Post m' v → K v w') : CallReq P f (toArr args) w K :=
  CallReq.mk (L1 := []) h hL fun v m' L1' w' hl hle ⟨h1, h2⟩ => by subst h1; exact k v m' w' hl hle h2
/-- A call of a function that tells a value. -/
def FnV (P : Program) (f : Nat) (args : List Value) (m : Mem) (v : Value) : Prop := Fn0 P f args m fun _ u => u = v
theorem CallReq.val {f : Nat} {args : List Value} {v : Value} {K : Value → World → Prop} (h : FnV P f args m v) (hL : Loc m0 S w0 m L w)
    (k : ∀ w', Loc m0 S w0 m L w' → K v w') : CallReq P f (toArr args) w K :=
  CallReq.pure h hL fun u m' w' hl hle hu => by subst hu; exact k w' (hl.weaken hle hL.le)

/-! ### loads and stores -/
theorem run_loadVar_one {t : Nat} {ti : TI} (ht : tiOf P t = some ti) (hd : ti.d.isAgg = false) {a : Addr} {v : Value} (hc : w.cell? a = some v) : (loadVar t a).run P w = .ok v w := by
  simp [loadVar, run_isAgg ht, hd, hc]
theorem run_loadCellsFrom (a : Addr) : ∀ (n i : Nat) (vs : List Value) (acc : Array Value), vs.length = n → (∀ j v, vs[j]? = some v → w.cell? (a.add (i + j)) = some v) →
    (loadCellsFrom a i n acc).run P w = .ok (acc ++ vs.toArray) w
  | 0, i, vs, acc, hl, _ => by
    have : vs = [] := List.eq_nil_of_length_eq_zero hl
    subst this
    simp [loadCellsFrom]
  | n + 1, i, vs, acc, hl, h => by
    match vs, hl with
    | v :: r, hl =>
      have h0 := h 0 v rfl
      have ih := run_loadCellsFrom a n (i + 1) r (acc.push v) (by simpa using hl) (fun j u hj => by have := h (j + 1) u (by simpa using hj); rwa [show i + 1 + j = i + (j + 1) from by omega])
      simp only [Nat.add_zero] at h0
      simp only [loadCellsFrom, Sem.run_bind, run_load, h0, Result.andThen_ok, ih]
      congr 1
      simp
theorem run_loadVar_agg {t : Nat} {ti : TI} (ht : tiOf P t = some ti) (hd : ti.d.isAgg = true) {a : Addr} {vs : List Value} (hl : vs.length = ti.size) (hc : ∀ j v, vs[j]? = some v → w.cell? (a.add j) = some v) :
    (loadVar t a).run P w = .ok (.agg (toArr vs)) w := by
  have := run_loadCellsFrom (P := P) (w := w) a ti.size 0 vs #[] hl (by simpa using hc)
  simp only [loadVar, Sem.run_bind, run_isAgg ht, hd, Result.andThen_ok, if_true, run_sizeOf ht, loadCells, this, Sem.run_pure]
  simp [toArr]

theorem addr_add (b o n : Nat) : (⟨b, o, none⟩ : Addr).add n = ⟨b, o + n, none⟩ := by
  unfold Addr.add; split <;> simp_all

theorem LdReq.one (hX : TabsOk P X) {t : Nat} {ti : TI} (ht : look X.T t = some (some ti)) (hd : ti.d.isAgg = false) {a : Addr} {v : Value} {K : Value → Prop} (hL : Loc m0 S w0 m L w)
    (hv : mcell m a = some v) (h : K v) : LdReq P t w a K := by
  exact ⟨⟨v, run_loadVar_one (hX.t _ _ ht) hd (hL.cell hv), h⟩⟩
theorem LdReq.agg (hX : TabsOk P X) {t : Nat} {ti : TI} (ht : look X.T t = some (some ti)) (hd : ti.d.isAgg = true) {a : Addr} {vs : List Value} {K : Value → Prop} (hL : Loc m0 S w0 m L w)
    (hl : vs.length = ti.size) (hv : ∀ j v, vs[j]? = some v → mcell m (a.add j) = some v) (h : K (.agg (toArr vs))) : LdReq P t w a K := by
  exact ⟨⟨_, run_loadVar_agg (hX.t _ _ ht) hd hl (fun j v hj => hL.cell (hv j v hj)), h⟩⟩
theorem LdReq.own1 (hX : TabsOk P X) {t : Nat} {ti : TI} (ht : look X.T t = some (some ti)) (hd : ti.d.isAgg = false) (i : Nat) {b off : Nat} {cs : List Value} {te : TypeId} {fz : Nat × Nat} {v : Value} {K : Value → Prop}
    (hL : Loc m0 S w0 m L w) (hi : look L i = some (b, .cells (toArr cs) te fz)) (hv : look cs off = some v) (h : K v) : LdReq P t w ⟨b, off, none⟩ K := by
  rw [look_eq] at hi hv
  have hc := hL.ownCell (i := off) (List.mem_of_getElem? hi)
  constructor
  exact ⟨v, run_loadVar_one (hX.t _ _ ht) hd (hc.trans (by simpa [toArr] using hv)), h⟩
theorem LdReq.ownA (hX : TabsOk P X) {t : Nat} {ti : TI} (ht : look X.T t = some (some ti)) (hd : ti.d.isAgg = true) (i : Nat) {b off : Nat} {cs : List Value} {te : TypeId} {fz : Nat × Nat} {K : Value → Prop}
    (hL : Loc m0 S w0 m L w) (hi : look L i = some (b, .cells (toArr cs) te fz)) (hl : Nat.ble (off + ti.size) cs.length = true) (h : K (.agg (toArr ((cs.drop off).take ti.size)))) : LdReq P t w ⟨b, off, none⟩ K := by
  rw [look_eq] at hi
  have hl := Nat.le_of_ble_eq_true hl
  constructor
  refine ⟨_, run_loadVar_agg (hX.t _ _ ht) hd (by simp; omega) (fun j v hj => ?_), h⟩
  rw [addr_add]
  have hc := hL.ownCell (i := off + j) (List.mem_of_getElem? hi)
  rw [hc]
  rw [List.getElem?_take] at hj
  split at hj
  · simpa [toArr, List.getElem?_drop] using hj
  · cases hj

theorem run_storeCells (te : TypeId) : ∀ (vs : List Value) (j : Nat) {L : Own} {w : World} {i b off : Nat} {cs : List Value}, Loc m0 S w0 m L w → look L i = some (b, .cells (toArr cs) te (0, 0)) → off + j + vs.length ≤ cs.length →
    (∀ v ∈ vs, v.oneCell' = true) → ∃ w', (storeCells ⟨b, off, none⟩ vs j).run P w = .ok () w' ∧ Loc m0 S w0 m (L.set i (b, .cells (toArr (spliceL cs (off + j) vs)) te (0, 0))) w'
  | [], j, L, w, i, b, off, cs, hL, hi, _, _ => by
    refine ⟨w, by simp [storeCells], ?_⟩
    have : L.set i (b, .cells (toArr (spliceL cs (off + j) [])) te (0, 0)) = L := by
      rw [look_eq] at hi
      simp only [spliceL]
      exact List.ext_getElem? fun k => by
        rw [List.getElem?_set]
        split
        · rename_i e; subst e; split
          · exact hi.symm
          · rename_i hn; exact absurd (List.getElem?_eq_some_iff.1 hi).1 hn
        · rfl
    rw [this]; exact hL
  | v :: r, j, L, w, i, b, off, cs, hL, hi, hle, h1 => by
    have hset := hL.set (off := off + j) (v := v) hi
    have hi' : look (L.set i (b, Obj.cells (toArr (cs.set (off + j) v)) te (0, 0))) i = some (b, .cells (toArr (cs.set (off + j) v)) te (0, 0)) := by
      rw [look_eq] at hi ⊢
      rw [List.getElem?_set, if_pos rfl, if_pos (List.getElem?_eq_some_iff.1 hi).1]
    obtain ⟨w', h2, h3⟩ := run_storeCells te r (j + 1) (off := off) hset hi' (by simp at hle ⊢; omega) (fun u hu => h1 u (List.mem_cons_of_mem _ hu))
    refine ⟨w', ?_, ?_⟩
    · rw [look_eq] at hi
      have hm := hL.own _ (List.mem_of_getElem? hi)
      have hc : ∃ u, w.cell? ⟨b, off + j, none⟩ = some u := by
        have hlt : off + j < cs.length := by simp at hle; omega
        exact ⟨cs[off + j], by rw [cell_of_heap hm]; simp [toArr, hlt]⟩
      obtain ⟨u, hu⟩ := hc
      have hfz : w.frozen? ⟨b, off + j, none⟩ = false := by
        simp only at hm
        simp [World.frozen?, hm]
      simp only [storeCells, Sem.run_bind, addr_add, run_store P w _ v _ (h1 v List.mem_cons_self), hu, hfz, Bool.false_eq_true, if_false, Result.andThen_ok, h2]
    · simp only [List.set_set] at h3
      simpa [spliceL, Nat.add_assoc] using h3

theorem StReq.own (hX : TabsOk P X) {t : Nat} {ti : TI} (ht : look X.T t = some (some ti)) (i : Nat) {b off : Nat} {cs : List Value} {te : TypeId} {v : Value} {K : World → Prop}
    (hL : Loc m0 S w0 m L w) (hi : look L i = some (b, .cells (toArr cs) te (0, 0))) (hs : Nat.beq v.cells.toList.length ti.size = true) (hle : Nat.ble (off + v.cells.toList.length) cs.length = true)
    (h1 : v.cells.toList.all Value.oneCell' = true)
    (h : ∀ w', Loc m0 S w0 m (L.set i (b, .cells (toArr (spliceL cs off v.cells.toList)) te (0, 0))) w' → K w') : StReq P t w ⟨b, off, none⟩ v K := by
  have hle := Nat.le_of_ble_eq_true hle
  obtain ⟨w', h2, h3⟩ := run_storeCells (P := P) te v.cells.toList 0 hL hi (by simpa using hle) (List.all_eq_true.1 h1)
  constructor
  refine ⟨w', ?_, h w' (by simpa using h3)⟩
  have hs : v.cells.size = ti.size := by have := Nat.eq_of_beq_eq_true hs; simpa using this
  simp only [storeVar, Sem.run_bind, run_sizeOf (hX.t _ _ ht), Result.andThen_ok, hs, ne_eq, not_true_eq_false, if_false, h2]

end
end Go.Ev
