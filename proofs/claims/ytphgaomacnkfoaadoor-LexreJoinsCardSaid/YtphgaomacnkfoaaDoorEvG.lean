/- A verified evaluator of conditions, part 7: regions that draw their order. Conditions: none; over any program. -/
import Derived.Test.YtphgaomacnkfoaaDoorEvF
namespace Go.Ev
open Go

/-- How a region that draws is walked: number i is taken first, being of its operands alone, or a load that yields one value in every world of a class; or each of those that may come up comes up. -/
inductive Plan where
  | done
  | fst (i : Nat) (p : Plan)
  | alt (i : Nat) (p q : Plan)
  | stop

structure QLdReq (P : Program) (t : Nat) (S : World → Prop) (a : Addr) (K : Value → Prop) : Prop where
  of ::
  out : ∃ v, (∀ w, S w → (loadVar t a).run P w = .ok v w) ∧ K v
structure SReq (A B : Prop) : Prop where
  of ::
  out : A ∧ B
structure AltQ (A B : Prop) (u : Unit) : Prop where
  of ::
  out : A ∧ B
abbrev AltReq (A B : Prop) : Prop := AltQ A B ()

/-- An operation that is taken first. -/
def evQ (P : Program) (X : Tab) (N : Nat) (S : World → Prop) (o : Oper) (e : Env) (K : Value → Prop) : Prop :=
  match isPure X o.op with
  | true => evU P X N o e K
  | false => match o.op with
    | .load t a => match rd N e a with
      | .pointer (some a) => QLdReq P t S a K
      | _ => False
    | _ => False

def evPlan (P : Program) (X : Tab) (N : Nat) (all : List Oper) (S : World → Prop) (pl : Plan) : (Env → World → Prop) → Env → World → Prop :=
  Plan.rec (motive := fun _ => (Env → World → Prop) → Env → World → Prop)
    (fun k e w => k e w)
    (fun i _ ih k e w => match look all i with
      | some o => evGuard N all o.guard e (fun e => evQ P X N S o e fun v => force v fun v => ih k (putO o.dst v e) w) (fun e => ih k (putO o.dst undef e) w)
      | none => False)
    (fun i _ _ ihp ihq k e w => match look all i with
      | some o => AltReq
          (evGuard N all o.guard e (fun e => evOp P X N o e w fun v w' => SReq (S w') (force v fun v => ihp k (putO o.dst v e) w')) (fun e => ihp k (putO o.dst undef e) w))
          (ihq k e w)
      | none => False)
    (fun _ _ _ => True) pl

theorem evPlan_fst {P : Program} {X : Tab} {N : Nat} {all : List Oper} {S : World → Prop} {i : Nat} {p : Plan} {k : Env → World → Prop} {e : Env} {w : World} : evPlan P X N all S (.fst i p) k e w = (match look all i with
    | some o => evGuard N all o.guard e (fun e => evQ P X N S o e fun v => force v fun v => evPlan P X N all S p k (putO o.dst v e) w) (fun e => evPlan P X N all S p k (putO o.dst undef e) w)
    | none => False) := rfl
theorem evPlan_alt {P : Program} {X : Tab} {N : Nat} {all : List Oper} {S : World → Prop} {i : Nat} {p q : Plan} {k : Env → World → Prop} {e : Env} {w : World} : evPlan P X N all S (.alt i p q) k e w = (match look all i with
    | some o => AltReq
        (evGuard N all o.guard e (fun e => evOp P X N o e w fun v w' => SReq (S w') (force v fun v => evPlan P X N all S p k (putO o.dst v e) w')) (fun e => evPlan P X N all S p k (putO o.dst undef e) w))
        (evPlan P X N all S q k e w)
    | none => False) := rfl

def Plan.alts : Plan → List Nat
  | .alt i _ q => i :: q.alts
  | _ => []

/-- Is it a plan of this region? -/
def planOk (ops : Array Oper) : Plan → Nat → Bool → Array Bool → Bool
  | .done, _, true, listed => (Region.ready .any ops listed).isEmpty
  | .fst i p, n + 1, true, listed => (Region.ready .any ops listed).contains i && Region.free .any ops listed i && planOk ops p n true (listed.setIfInBounds i true)
  | .alt i p q, n + 1, true, listed => (Region.ready .any ops listed).contains i && (Region.ready .any ops listed).all (fun j => (Plan.alt i p q).alts.contains j) && planOk ops p n true (listed.setIfInBounds i true) && planOk ops q (n + 1) false listed
  | .alt i p q, n + 1, false, listed => planOk ops p n true (listed.setIfInBounds i true) && planOk ops q (n + 1) false listed
  | .stop, _, false, _ => true
  | _, _, _, _ => false

section
variable {P : Program} {X : Tab} {N : Nat} {ops : Array Oper} {S : World → Prop}

theorem evQ_ok (hX : TabsOk P X) {o : Oper} {e : Env} {K : Value → Prop} (h : evQ P X N S o e K) :
    ∃ v, (∀ w, S w → (execOp (rd N e) o).run P w = .ok (.value v) w) ∧ K v := by
  unfold evQ at h
  split at h
  · obtain ⟨v, h1, h2⟩ := evU_ok hX h
    exact ⟨v, fun w _ => h1 w, h2⟩
  · split at h
    · rename_i t a ho
      split at h
      · rename_i x ad hx
        obtain ⟨v, h1, h2⟩ := h.out
        refine ⟨v, fun w hw => ?_, h2⟩
        simp only [execOp, ho, hx, Instr.loadAt, Instr.sureAddr, Sem.run_bind, Sem.run_pure, Result.andThen_ok, h1 w hw]
      · exact h.elim
    · exact h.elim

def Qn (N : Nat) (k : Env → World → Prop) : Exit → Act → World → Prop := fun ex a w => match ex with | .normal => ∃ e, Agree N e a ∧ k e w | _ => False

theorem evPlan_ok (hX : TabsOk P X) (hns : Region.noSelect ops = true) {k : Env → World → Prop} : ∀ (pl : Plan) (n : Nat) (listed : Array Bool) (e : Env) (a : Act) (w : World), S w → Agree N e a → evPlan P X N ops.toList S pl k e w →
    (planOk ops pl n true listed = true → wpAnyH P .any ops (Qn N k) S n listed a w) ∧
    (∀ m, n = m + 1 → planOk ops pl n false listed = true → ∀ i ∈ pl.alts, wpOp P ops (Qn N k) i (fun a' w' => S w' ∧ wpAnyH P .any ops (Qn N k) S m (listed.setIfInBounds i true) a' w') a w) := by
  intro pl
  induction pl with
  | done =>
    intro n listed e a w hS ha h
    refine ⟨fun hp => ?_, fun m _ _ i hi => by simp [Plan.alts] at hi⟩
    have hr : Region.ready .any ops listed = [] := by cases n <;> simpa [planOk] using hp
    exact wpAnyH_done hr ⟨e, ha, h⟩ n
  | fst i p ih =>
    intro n listed e a w hS ha h
    refine ⟨fun hp => ?_, fun m _ hp => by cases n <;> simp [planOk] at hp⟩
    cases n with
    | zero => simp [planOk] at hp
    | succ n =>
      simp only [planOk, Bool.and_eq_true] at hp
      obtain ⟨⟨h1, h2⟩, h3⟩ := hp
      rw [evPlan_fst] at h
      split at h
      · rename_i o ho
        rw [look_eq, Array.getElem?_toList] at ho
        have hQ : ∀ (v : Value) c a w, Qn N k (.panic c) (a.put o.dst v) w → Qn N k (.panic c) a w := fun v c a w hq => hq
        rcases evGuard_ok ha h with ⟨hw, e', ha', h⟩ | ⟨hw, e', ha', h⟩
        · obtain ⟨v, h4, h5⟩ := evQ_ok hX h
          rw [force_eq] at h5
          refine wpAnyH_take ho hns h2 h1 (hQ v) (.inl ⟨hw, fun w hw => ?_⟩) hS ((ih n _ _ _ w hS (ha'.put _ _) h5).1 h3)
          rw [ha'.eval]
          exact h4 w hw
        · exact wpAnyH_take ho hns h2 h1 (hQ undef) (.inr ⟨hw, rfl⟩) hS ((ih n _ _ _ w hS (ha'.put _ _) h).1 h3)
      · exact h.elim
  | alt i p q ihp ihq =>
    intro n listed e a w hS ha h
    have one : ∀ m, n = m + 1 → planOk ops p m true (listed.setIfInBounds i true) = true → wpOp P ops (Qn N k) i (fun a' w' => S w' ∧ wpAnyH P .any ops (Qn N k) S m (listed.setIfInBounds i true) a' w') a w := by
      intro m hm hp
      rw [evPlan_alt] at h
      split at h
      · rename_i o ho
        rw [look_eq, Array.getElem?_toList] at ho
        obtain ⟨h, _⟩ := h.out
        unfold wpOp
        simp only [ho]
        rcases evGuard_ok ha h with ⟨hw, e', ha', h⟩ | ⟨hw, e', ha', h⟩
        · rw [if_pos hw]
          left
          have h1 := evOp_ok hX h
          rw [← ha'.eval] at h1
          refine OpOk.wp (OpOk.mono h1 fun v w' hk => ?_)
          obtain ⟨hS', hk⟩ := hk.out
          rw [force_eq] at hk
          exact ⟨hS', (ihp m _ _ _ w' hS' (ha'.put _ _) hk).1 hp⟩
        · rw [if_neg (by rw [hw]; simp)]
          exact ⟨hS, (ihp m _ _ _ w hS (ha'.put _ _) h).1 hp⟩
      · exact h.elim
    have hq : evPlan P X N ops.toList S q k e w := by
      rw [evPlan_alt] at h
      split at h
      · exact h.out.2
      · exact h.elim
    have all : ∀ m, n = m + 1 → planOk ops p m true (listed.setIfInBounds i true) = true → planOk ops q n false listed = true →
        ∀ j ∈ (Plan.alt i p q).alts, wpOp P ops (Qn N k) j (fun a' w' => S w' ∧ wpAnyH P .any ops (Qn N k) S m (listed.setIfInBounds j true) a' w') a w := by
      intro m hm h1 h2 j hj
      simp only [Plan.alts, List.mem_cons] at hj
      rcases hj with rfl | hj
      · exact one m hm h1
      · exact (ihq n listed e a w hS ha hq).2 m hm h2 j hj
    constructor
    · intro hp
      cases n with
      | zero => simp [planOk] at hp
      | succ n =>
        simp only [planOk, Bool.and_eq_true] at hp
        obtain ⟨⟨⟨h0, h1⟩, h2⟩, h3⟩ := hp
        have hr : ∀ j ∈ Region.ready .any ops listed, j ∈ (Plan.alt i p q).alts := fun j hj => by
          have := List.all_eq_true.1 h1 j hj
          simpa using this
        cases hrr : Region.ready .any ops listed with
        | nil =>
          rw [hrr] at h0
          simp at h0
        | cons r rs => exact wpAnyH_all hrr (by simp) (fun j hj => all n rfl h2 h3 j (hr j (hrr ▸ hj)))
    · intro m hm hp j hj
      subst hm
      simp only [planOk, Bool.and_eq_true] at hp
      exact all m rfl hp.1 hp.2 j hj
  | stop =>
    intro n listed e a w hS ha h
    exact ⟨fun hp => by cases n <;> simp [planOk] at hp, fun m _ _ i hi => by simp [Plan.alts] at hi⟩

/-- A region that draws its order, by a plan. -/
theorem DrawReq.plan (hX : TabsOk P X) (pl : Plan) {m0 m : Mem} {S0 : List Nat} {w0 w : World} {L : Own} (L' : Own) {k : Env → World → Prop} {e : Env}
    (hns : Region.noSelect ops = true) (hp : planOk ops pl ops.size true (Array.replicate ops.size false) = true)
    (hL : Loc m0 S0 w0 m L w) (hS : Loc m0 S0 w0 m L w → Loc m0 S0 w0 m L' w)
    (h : ∀ w, Loc m0 S0 w0 m L w → evPlan P X N ops.toList (fun w => Loc m0 S0 w0 m L' w) pl k e w) : DrawReq P X N ops k e w := by
  constructor
  intro a id ha
  exact wp_region_held hX.mixed ((evPlan_ok (S := fun w => Loc m0 S0 w0 m L' w) hX hns pl ops.size _ e a w.drew (hS hL).drew ha (h _ hL.drew)).1 hp)
end
end Go.Ev
