/- A verified evaluator of conditions, part 5: bodies of code, loops. Conditions: none; over any program whose table of types is the given one. -/
import Derived.Test.YtphgaomacnkfoaaDoorEvD
import Derived.Deep.LoopGhost
namespace Go.Ev
open Go

def dstAt (all : List Oper) (j : Nat) : Option Nat := match look all j with | some o => o.dst | none => none

/-- The guard of an operation. -/
def evGuard (N : Nat) (all : List Oper) (g : Option (Nat × Bool)) (e : Env) (A B : Env → Prop) : Prop :=
  match g with
  | none => A e
  | some (j, want) => match dstAt all j with
    | none => B e
    | some d => match Nat.blt d N with
      | false => B e
      | true => match e d with
        | .bool b => BrReq b
          (match want with | true => A (put d (.bool true) e) | false => B (put d (.bool true) e))
          (match want with | true => B (put d (.bool false) e) | false => A (put d (.bool false) e))
        | _ => B e

def evOps (P : Program) (X : Tab) (N : Nat) (all : List Oper) (l : List Oper) : (Env → World → Prop) → Env → World → Prop :=
  List.rec (motive := fun _ => (Env → World → Prop) → Env → World → Prop) (fun k e w => k e w)
    (fun o _ ih k e w => evGuard N all o.guard e
      (fun e => evOp P X N o e w fun v w' => force v fun v => ih k (putO o.dst v e) w')
      (fun e => ih k (putO o.dst undef e) w)) l
theorem evOps_nil {P : Program} {X : Tab} {N : Nat} {all : List Oper} {k : Env → World → Prop} {e : Env} {w : World} : evOps P X N all [] k e w = k e w := rfl
theorem evOps_cons {P : Program} {X : Tab} {N : Nat} {all : List Oper} {o : Oper} {rest : List Oper} {k : Env → World → Prop} {e : Env} {w : World} : evOps P X N all (o :: rest) k e w = evGuard N all o.guard e
      (fun e => evOp P X N o e w fun v w' => force v fun v => evOps P X N all rest k (putO o.dst v e) w')
      (fun e => evOps P X N all rest k (putO o.dst undef e) w) := rfl

structure LoopReq (P : Program) (_X : Tab) (N : Nat) (c : Code) (k : Env → World → Prop) (kx : Nat → Env → World → Prop) (kr : Env → World → Prop) (e : Env) (w : World) : Prop where
  of ::
  out : ∀ a, Agree N e a → (Code.loop c).wp P (fun ex a w => match ex with | .normal => ∃ e, Agree N e a ∧ k e w | .exit id => ∃ e, Agree N e a ∧ kx id e w | .ret => ∃ e, Agree N e a ∧ kr e w | _ => False) a w
structure DrawReq (P : Program) (_X : Tab) (N : Nat) (ops : Array Oper) (k : Env → World → Prop) (e : Env) (w : World) : Prop where
  of ::
  out : ∀ a id, Agree N e a → (Code.region id ops true).wp P (fun ex a w => match ex with | .normal => ∃ e, Agree N e a ∧ k e w | _ => False) a w

structure SeqReq (P : Program) (_X : Tab) (N : Nat) (x y : Code) (k : Env → World → Prop) (kx : Nat → Env → World → Prop) (kr : Env → World → Prop) (e : Env) (w : World) : Prop where
  of ::
  out : ∀ a, Agree N e a → (Code.seq x y).wp P (fun ex a w => match ex with | .normal => ∃ e, Agree N e a ∧ k e w | .exit id => ∃ e, Agree N e a ∧ kx id e w | .ret => ∃ e, Agree N e a ∧ kr e w | _ => False) a w

def putB (x : Operand) (b : Bool) (e : Env) : Env := match x with | .tmp t => put t (.bool b) e | _ => e

abbrev EvT : Type := (Env → World → Prop) → (Nat → Env → World → Prop) → (Env → World → Prop) → Env → World → Prop
/-- What is asked at a body of code. By the recursor itself: so the kernel and the elaborator unfold it to the same terms. -/
def ev (P : Program) (X : Tab) (N : Nat) (c : Code) : EvT :=
  Code.rec (motive := fun _ => EvT)
    (fun k _ _ e w => k e w)
    (fun _ ops draw k _ _ e w => match draw with
      | false => evOps P X N ops.toList ops.toList k e w
      | true => DrawReq P X N ops k e w)
    (fun a b _ ihb k kx kr e w => match a with
      | .region _ ops false => evOps P X N ops.toList ops.toList (fun e w => ihb k kx kr e w) e w
      | .region _ ops true => DrawReq P X N ops (fun e w => ihb k kx kr e w) e w
      | _ => SeqReq P X N a b k kx kr e w)
    (fun c _ _ iht ihf k kx kr e w => match rd N e c with
      | .bool b => BrReq b (iht k kx kr (putB c true e) w) (ihf k kx kr (putB c false e) w)
      | _ => False)
    (fun id _ ih k kx kr e w => ih k (fun j e w => match Nat.beq j id with | true => k e w | false => kx j e w) kr e w)
    (fun c _ k kx kr e w => LoopReq P X N c k kx kr e w)
    (fun _ _ _ _ _ _ _ _ _ _ _ => False)
    (fun id _ kx _ e w => kx id e w)
    (fun _ _ _ _ _ _ _ => False)
    (fun _ k _ _ e w => k e w)
    (fun _ _ _ _ _ _ => False)
    (fun _ _ kr e w => kr e w)
    (fun _ _ _ _ _ _ => False) c

/-- What stands behind a body, as the kit has it. -/
def Qof (N : Nat) (k : Env → World → Prop) (kx : Nat → Env → World → Prop) (kr : Env → World → Prop) : Exit → Act → World → Prop :=
  fun ex a w => match ex with | .normal => ∃ e, Agree N e a ∧ k e w | .exit id => ∃ e, Agree N e a ∧ kx id e w | .ret => ∃ e, Agree N e a ∧ kr e w | _ => False

section
variable {P : Program} {X : Tab} {N : Nat}

theorem agree_same {e : Env} {a : Act} (h : Agree N e a) {d : Nat} {v : Value} (hd : d < N) (hv : e d = v) : Agree N (put d v e) a := by
  refine ⟨h.size, fun i hi => ?_, h.defers⟩
  rw [h.at_ i hi]
  unfold put
  cases hb : Nat.beq i d with
  | false => rfl
  | true => have := Nat.eq_of_beq_eq_true hb; subst this; simp [hv]

theorem blt_lt {a b : Nat} (h : Nat.blt a b = true) : a < b := by simpa [Nat.blt_eq] using h

theorem agree_putB {e : Env} {a : Act} (h : Agree N e a) {x : Operand} {b : Bool} (hv : rd N e x = .bool b) : Agree N (putB x b e) a := by
  cases x with
  | tmp t =>
    simp only [rd] at hv
    cases hb : Nat.blt t N with
    | false => rw [hb] at hv; cases hv
    | true => rw [hb] at hv; exact agree_same h (blt_lt hb) hv
  | const v => exact h
  | global g => exact h
  | func f => exact h

theorem yielded_eq {ops : Array Oper} {e : Env} {a : Act} (h : Agree N e a) (j : Nat) :
    yielded ops a.tmps j = match dstAt ops.toList j with
      | none => none
      | some d => match Nat.blt d N with | false => none | true => match e d with | .bool b => some b | _ => none := by
  unfold yielded dstAt
  rw [look_eq, Array.getElem?_toList]
  cases ho : ops[j]? with
  | none => rfl
  | some o =>
    simp only [Option.bind_some]
    cases hd : o.dst with
    | none => rfl
    | some d =>
      simp only [Option.bind_some]
      cases hb : Nat.blt d N with
      | false =>
        have : a.tmps[d]? = none := Array.getElem?_eq_none (by
          rw [h.size]
          exact Nat.le_of_not_lt fun hlt => by
            have : Nat.blt d N = true := by simpa [Nat.blt_eq] using hlt
            rw [this] at hb; cases hb)
        simp [this]
      | true =>
        rw [h.at_ d (blt_lt hb)]
        cases e d <;> rfl

theorem evGuard_ok {ops : Array Oper} {o : Oper} {e : Env} {a : Act} {A B : Env → Prop} (h : Agree N e a) (hg : evGuard N ops.toList o.guard e A B) :
    (Region.wanted o (yielded ops a.tmps) = true ∧ ∃ e', Agree N e' a ∧ A e') ∨ (Region.wanted o (yielded ops a.tmps) = false ∧ ∃ e', Agree N e' a ∧ B e') := by
  unfold evGuard at hg
  unfold Region.wanted
  cases hn : o.guard with
  | none => rw [hn] at hg; left; exact ⟨rfl, e, h, hg⟩
  | some p =>
    obtain ⟨j, want⟩ := p
    rw [hn] at hg
    simp only at hg ⊢
    rw [yielded_eq h j]
    cases hd : dstAt ops.toList j with
    | none => rw [hd] at hg; right; exact ⟨rfl, e, h, hg⟩
    | some d =>
      rw [hd] at hg
      simp only at hg ⊢
      cases hb : Nat.blt d N with
      | false => rw [hb] at hg; right; exact ⟨rfl, e, h, hg⟩
      | true =>
        rw [hb] at hg
        simp only at hg ⊢
        cases hv : e d with
        | bool b =>
          rw [hv] at hg
          simp only at hg ⊢
          replace hg := hg.out
          cases b with
          | true =>
            have h1 := hg.1 rfl
            have ha := agree_same h (blt_lt hb) hv
            cases want
            · right; exact ⟨rfl, _, ha, h1⟩
            · left; exact ⟨rfl, _, ha, h1⟩
          | false =>
            have h1 := hg.2 rfl
            have ha := agree_same h (blt_lt hb) hv
            cases want
            · left; exact ⟨rfl, _, ha, h1⟩
            · right; exact ⟨rfl, _, ha, h1⟩
        | _ => rw [hv] at hg; right; exact ⟨rfl, e, h, hg⟩

theorem evOps_ok (hX : TabsOk P X) {ops : Array Oper} {k : Env → World → Prop} {Q : Exit → Act → World → Prop} (hQ : ∀ e a w, Agree N e a → k e w → Q .normal a w) :
    ∀ (l : List Oper) (e : Env) (a : Act) (w : World), Agree N e a → evOps P X N ops.toList l k e w → wpList P ops Q l a w
  | [], e, a, w, ha, h => hQ e a w ha h
  | o :: rest, e, a, w, ha, h => by
    rw [evOps_cons] at h
    unfold wpList
    rcases evGuard_ok ha h with ⟨hw, e', ha', h⟩ | ⟨hw, e', ha', h⟩
    · rw [if_pos hw]
      left
      have h1 := evOp_ok hX h
      rw [← ha'.eval] at h1
      refine OpOk.wp (OpOk.mono h1 fun v w' hk => ?_)
      rw [force_eq] at hk
      exact evOps_ok hX hQ rest _ _ _ (ha'.put _ _) hk
    · rw [if_neg (by rw [hw]; simp)]
      exact evOps_ok hX hQ rest _ _ _ (ha'.put _ _) h

theorem ev_ok (hX : TabsOk P X) : ∀ (c : Code) (k : Env → World → Prop) (kx : Nat → Env → World → Prop) (kr : Env → World → Prop) (e : Env) (a : Act) (w : World),
    Agree N e a → ev P X N c k kx kr e w → c.wp P (Qof N k kx kr) a w := by
  intro c
  induction c with
  | skip => intro k kx kr e a w ha h; exact wp_skip ⟨e, ha, h⟩
  | region id ops draw =>
    intro k kx kr e a w ha h
    cases draw with
    | false => exact wp_region_list (evOps_ok hX (fun e a w ha hk => ⟨e, ha, hk⟩) _ e a w ha h)
    | true =>
      have h : DrawReq P X N ops k e w := h
      replace h := h.out
      exact wp_mono (h a id ha) fun ex a w hq => by cases ex <;> first | exact hq | exact hq.elim
  | seq x y ihx ihy =>
    intro k kx kr e a w ha h
    have key : ev P X N x (fun e w => ev P X N y k kx kr e w) kx kr e w → (Code.seq x y).wp P (Qof N k kx kr) a w := by
      intro h
      refine wp_seq (wp_mono (ihx _ kx kr e a w ha h) fun ex a w hq => ?_)
      cases ex with
      | normal => obtain ⟨e, ha, hk⟩ := hq; exact ihy k kx kr e a w ha hk
      | _ => exact hq
    cases x with
    | region id ops draw =>
      cases draw with
      | false => exact key h
      | true => exact key h
    | _ =>
      have h : SeqReq P X N _ y k kx kr e w := h
      replace h := h.out
      exact h a ha
  | cond c t f iht ihf =>
    intro k kx kr e a w ha h
    have h : (match rd N e c with
      | .bool b => BrReq b (ev P X N t k kx kr (putB c true e) w) (ev P X N f k kx kr (putB c false e) w)
      | _ => False) := h
    split at h
    · rename_i b hb
      have he : a.eval c = .bool b := by rw [ha.eval]; exact hb
      replace h := h.out
      cases b with
      | true => exact wp_cond_true he (iht k kx kr _ a w (agree_putB ha hb) (h.1 rfl))
      | false => exact wp_cond_false he (ihf k kx kr _ a w (agree_putB ha hb) (h.2 rfl))
    · exact h.elim
  | block id c ih =>
    intro k kx kr e a w ha h
    refine wp_block (wp_mono (ih k _ kr e a w ha h) fun ex a w hq => ?_)
    cases ex with
    | exit j =>
      obtain ⟨e, ha, hk⟩ := hq
      simp only [Exit.inBlock]
      cases hb : Nat.beq j id with
      | true =>
        rw [hb] at hk
        rw [if_pos (Nat.eq_of_beq_eq_true hb)]
        exact ⟨e, ha, hk⟩
      | false =>
        rw [hb] at hk
        rw [if_neg (fun he => by subst he; simp at hb)]
        exact ⟨e, ha, hk⟩
    | _ => exact hq
  | loop c ih =>
    intro k kx kr e a w ha h
    have h : LoopReq P X N c k kx kr e w := h
    replace h := h.out
    exact h a ha
  | rangeFunc f ps a b _ _ => intro k kx kr e a w ha h; exact h.elim
  | exit id => intro k kx kr e a w ha h; exact wp_exit ⟨e, ha, h⟩
  | scope b _ => intro k kx kr e a w ha h; exact h.elim
  | label l => intro k kx kr e a w ha h; exact wp_label ⟨e, ha, h⟩
  | goto l => intro k kx kr e a w ha h; exact h.elim
  | ret => intro k kx kr e a w ha h; exact wp_ret ⟨e, ha, h⟩
  | refuse s => intro k kx kr e a w ha h; exact h.elim

/-- Of two bodies, one behind the other: both in one. -/
theorem SeqReq.go (hX : TabsOk P X) {x y : Code} {k : Env → World → Prop} {kx : Nat → Env → World → Prop} {kr : Env → World → Prop} {e : Env} {w : World}
    (h : ev P X N x (fun e w => ev P X N y k kx kr e w) kx kr e w) : SeqReq P X N x y k kx kr e w := by
  constructor
  intro a ha
  refine wp_seq (wp_mono (ev_ok hX x _ kx kr e a w ha h) fun ex a w hq => ?_)
  cases ex with
  | normal => obtain ⟨e, ha, hk⟩ := hq; exact ev_ok hX y k kx kr e a w ha hk
  | _ => exact hq

/-! ### what is said of slots -/
def lkp : List (Nat × Value) → Nat → Option Value
  | [], _ => none
  | p :: l, i => match Nat.beq i p.1 with | true => some p.2 | false => lkp l i
def elemN : Nat → List Nat → Bool
  | _, [] => false
  | i, j :: l => match Nat.beq i j with | true => true | false => elemN i l
/-- The slots 'vs' as said, those in 'keep' as they were, all else whatever. -/
def over (vs : List (Nat × Value)) (keep : List Nat) (f e : Env) : Env := fun i =>
  match lkp vs i with
  | some v => v
  | none => match elemN i keep with | true => e i | false => f i
def Match : List (Nat × Value) → Env → Prop
  | [], _ => True
  | p :: l, e => e p.1 = p.2 ∧ Match l e
def Keep : List Nat → Env → Env → Prop
  | [], _, _ => True
  | i :: l, e', e => e' i = e i ∧ Keep l e' e

theorem over_same {vs : List (Nat × Value)} {keep : List Nat} {e' e : Env} (hm : Match vs e') (hk : Keep keep e' e) : over vs keep e' e = e' := by
  have h1 : ∀ vs : List (Nat × Value), Match vs e' → ∀ i v, lkp vs i = some v → v = e' i := by
    intro vs
    induction vs with
    | nil => intro _ i v h; simp [lkp] at h
    | cons p l ih =>
      intro hm i v h
      simp only [lkp] at h
      split at h
      · rename_i hb; cases h; have := Nat.eq_of_beq_eq_true hb; subst this; exact hm.1.symm
      · exact ih hm.2 i v h
  have h2 : ∀ keep : List Nat, Keep keep e' e → ∀ i, elemN i keep = true → e i = e' i := by
    intro keep
    induction keep with
    | nil => intro _ i h; simp [elemN] at h
    | cons j l ih =>
      intro hk i h
      simp only [elemN] at h
      split at h
      · rename_i hb; have := Nat.eq_of_beq_eq_true hb; subst this; exact hk.1.symm
      · exact ih hk.2 i h
  funext i
  unfold over
  cases hl : lkp vs i with
  | some v => exact h1 vs hm i v hl
  | none =>
    cases he : elemN i keep with
    | true => exact h2 keep hk i he
    | false => rfl

theorem over_start {vs : List (Nat × Value)} {keep : List Nat} {e : Env} (hm : Match vs e) : over vs keep e e = e := by
  refine over_same hm ?_
  induction keep with
  | nil => trivial
  | cons i l ih => exact ⟨rfl, ih⟩

/-- Of two bodies, one behind the other: a cut between. -/
theorem SeqReq.cut (hX : TabsOk P X) {σ : Type} (vars : σ → List (Nat × Value)) (keep : List Nat) (I : σ → World → Prop)
    {x y : Code} {k : Env → World → Prop} {kx : Nat → Env → World → Prop} {kr : Env → World → Prop} {e : Env} {w : World}
    (h1 : ev P X N x (fun e' w' => ∃ s, I s w' ∧ Match (vars s) e' ∧ Keep keep e' e) kx kr e w)
    (h2 : ∀ s w' f, I s w' → ev P X N y k kx kr (over (vars s) keep f e) w') : SeqReq P X N x y k kx kr e w := by
  constructor
  intro a ha
  refine wp_seq (wp_mono (ev_ok hX x _ kx kr e a w ha h1) fun ex a w hq => ?_)
  cases ex with
  | normal =>
    obtain ⟨e', ha, s, hI, hm, hk⟩ := hq
    have := h2 s w e' hI
    rw [over_same hm hk] at this
    exact ev_ok hX y k kx kr e' a w ha this
  | _ => exact hq

/-- A loop. -/
theorem LoopReq.inv (hX : TabsOk P X) {σ : Type} (vars : σ → List (Nat × Value)) (keep : List Nat) (I : σ → World → Prop) (μ : σ → Nat) (s0 : σ)
    {c : Code} {k : Env → World → Prop} {kx : Nat → Env → World → Prop} {kr : Env → World → Prop} {e : Env} {w : World}
    (h0 : I s0 w) (hv : Match (vars s0) e)
    (round : ∀ s w f, I s w → ev P X N c (fun e' w' => ∃ s', I s' w' ∧ μ s' < μ s ∧ Match (vars s') e' ∧ Keep keep e' e) kx kr (over (vars s) keep f e) w) :
    LoopReq P X N c k kx kr e w := by
  constructor
  intro a ha
  refine wp_loop_ghost (fun n a w => ∃ s f, μ s = n ∧ I s w ∧ Agree N (over (vars s) keep f e) a) (μ s0) ⟨s0, e, rfl, h0, by rw [over_start hv]; exact ha⟩ ?_
  rintro n a w ⟨s, f, rfl, hI, ha⟩
  refine wp_mono (ev_ok hX c _ kx kr _ a w ha (round s w f hI)) fun ex a w hq => ?_
  cases ex with
  | normal =>
    obtain ⟨e', ha, s', hI, hlt, hm, hk⟩ := hq
    refine ⟨μ s', hlt, s', e', rfl, hI, ?_⟩
    rw [over_same hm hk]
    exact ha
  | _ => exact hq

end
end Go.Ev
