/- A verified evaluator of conditions, part 4: every operation, and that it is so. Conditions: none; over any program whose table of types is the given one. -/
import Derived.Test.YtphgaomacnkfoaaDoorEvC
namespace Go.Ev
open Go

def pairs (N : Nat) (e : Env) : List (Nat × Operand) → List (Nat × Value)
  | [] => []
  | (i, x) :: l => (i, rd N e x) :: pairs N e l
theorem pairs_eq (N : Nat) (e : Env) (l : List (Nat × Operand)) : pairs N e l = l.map fun (i, x) => (i, rd N e x) := by
  induction l with
  | nil => rfl
  | cons p l ih => obtain ⟨i, x⟩ := p; simp [pairs, ih]

def evLen (P : Program) (X : Tab) (o : Oper) (ρ : Operand → Value) (ats : List Nat) (xs : List Value) (K : Value → Prop) : Prop :=
  match ats, xs with
  | t :: _, x :: _ => tyK X t fun ti => match ti.d, x with
    | .slice _, .slice _ n _ => K (.int .i64 n)
    | .str, .string s => K (.int .i64 s.size)
    | .array n _, _ => K (.int .i64 n)
    | _, _ => UGenReq P o ρ K
  | _, _ => UGenReq P o ρ K

def evMax (P : Program) (o : Oper) (ρ : Operand → Value) (xs : List Value) (K : Value → Prop) : Prop :=
  match xs with
  | [.int k x, .int _ y] => K (.int k (max x y))
  | _ => UGenReq P o ρ K
def evMin (P : Program) (o : Oper) (ρ : Operand → Value) (xs : List Value) (K : Value → Prop) : Prop :=
  match xs with
  | [.int k x, .int _ y] => K (.int k (min x y))
  | _ => UGenReq P o ρ K

def evSlice (P : Program) (X : Tab) (o : Oper) (ρ : Operand → Value) (t : Nat) (x : Value) (lo hi : Option Value) (K : Value → Prop) : Prop :=
  tyK X t fun ti => match ti.d, x with
    | .slice el, .slice a len cap => tyK X el fun te =>
      match lo, hi with
      | none, none => SlReq 0 len cap fun l h => K (.slice (if cap = l then a else a.map (·.add (scale l te.size))) (h - l) (cap - l))
      | none, some (.int _ h) => SlReq 0 h cap fun l h => K (.slice (if cap = l then a else a.map (·.add (scale l te.size))) (h - l) (cap - l))
      | some (.int _ l), none => SlReq l len cap fun l h => K (.slice (if cap = l then a else a.map (·.add (scale l te.size))) (h - l) (cap - l))
      | some (.int _ l), some (.int _ h) => SlReq l h cap fun l h => K (.slice (if cap = l then a else a.map (·.add (scale l te.size))) (h - l) (cap - l))
      | _, _ => UGenReq P o ρ K
    | .str, .string s =>
      match lo, hi with
      | none, none => SlReq 0 s.size s.size fun l h => K (.string (s.extract l h))
      | none, some (.int _ h) => SlReq 0 h s.size fun l h => K (.string (s.extract l h))
      | some (.int _ l), none => SlReq l s.size s.size fun l h => K (.string (s.extract l h))
      | some (.int _ l), some (.int _ h) => SlReq l h s.size fun l h => K (.string (s.extract l h))
      | _, _ => UGenReq P o ρ K
    | _, _ => UGenReq P o ρ K

/-- An operation that is of its operands alone. -/
def evU (P : Program) (X : Tab) (N : Nat) (o : Oper) (e : Env) (K : Value → Prop) : Prop :=
  match o.op with
  | .move x => K (rd N e x)
  | .assign x => K (rd N e x)
  | .pick c a b => match rd N e c with
    | .bool b' => BrReq b' (K (rd N e a)) (K (rd N e b))
    | _ => False
  | .build t parts => forceP (pairs N e parts.toList) fun ps => evBuild X t ps K
  | .binOp op t x y _ => evBin P X o (rd N e) op t (rd N e x) (rd N e y) K
  | .unOp op _ x => match op, rd N e x with
    | .not, .bool b => K (.bool (!b))
    | .neg, .int k n => ArReq k (0 - n) fun n => K (.int k n)
    | .xor, .int k n => BitReq .xor k (if k.signed then -1 else k.max) n fun n => K (.int k n)
    | _, _ => UGenReq P o (rd N e) K
  | .convert src dst x => tyK X src fun _ => tyK X dst fun td => match td.d, rd N e x with
    | .int k, .int _ n => ArReq k n fun n => K (.int k n)
    | .str, .string s => K (.string s)
    | _, _ => UGenReq P o (rd N e) K
  | .slice t x lo hi none => evSlice P X o (rd N e) t (rd N e x) (lo.map (rd N e)) (hi.map (rd N e)) K
  | .fieldAddr s x f => tyK X s fun ti => match ti.d with
    | .struct fs => match look fs f with
      | some (off, ft) => tyK X ft fun tf => match tf.size with
        | 0 => False
        | _ + 1 => match rd N e x with
          | .pointer (some a) => K (.pointer (some (a.add off)))
          | _ => UGenReq P o (rd N e) K
      | none => False
    | _ => UGenReq P o (rd N e) K
  | .field t x f => tyK X t fun ti => match ti.d with
    | .struct fs => match look fs f with
      | some (off, ft) => match rd N e x with
        | .agg cs => partL X ft cs.toList off K
        | _ => UGenReq P o (rd N e) K
      | none => False
    | _ => UGenReq P o (rd N e) K
  | .indexAddr t x ix => tyK X t fun ti => match ti.d, rd N e x, rd N e ix with
    | .slice el, .slice base len _, .int _ i => tyK X el fun te => Idx2Req i len base fun j a => K (.pointer (some (a.add (scale j te.size))))
    | .array n el, .pointer (some a), .int _ i => tyK X el fun te => IdxReq i n fun j => K (.pointer (some (a.add (scale j te.size))))
    | _, _, _ => UGenReq P o (rd N e) K
  | .index t x ix => tyK X t fun ti => match ti.d, rd N e x, rd N e ix with
    | .array n el, .agg cs, .int _ i => tyK X el fun te => IdxReq i n fun j => partL X el cs.toList (scale j te.size) K
    | .str, .string s, .int _ i => StrIdxReq s i fun b => K (.int .u8 b)
    | _, _, _ => UGenReq P o (rd N e) K
  | .extract t ix => match rd N e t with
    | .tuple vs => match look vs.toList ix with
      | some v => K v
      | none => False
    | _ => UGenReq P o (rd N e) K
  | .makeFunc fn first captured => forceL (rdl N e first.toList) fun l1 => forceL (rdl N e captured.toList) fun l2 => K (.func fn (toArr l1) (toArr l2))
  | .nilCheck x => match rd N e x with
    | .pointer (some a) => K (.pointer (some a))
    | .func (.func f) a c => K (.func (.func f) a c)
    | _ => UGenReq P o (rd N e) K
  | .call c => match c.callee with
    | .builtin .len => evLen P X o (rd N e) c.argTypes.toList (rdl N e c.args.toList) K
    | .builtin .max => evMax P o (rd N e) (rdl N e c.args.toList) K
    | .builtin .min => evMin P o (rd N e) (rdl N e c.args.toList) K
    | _ => UGenReq P o (rd N e) K
  | _ => UGenReq P o (rd N e) K

def plainTy (X : Tab) (t : Nat) : Bool := match look X.T t with
  | some (some ti) => match ti.d with | .int _ => true | .str => true | _ => false
  | _ => false

/-- Operations whose value is of their operands alone. -/
def isPure (X : Tab) : Op → Bool
  | .move _ => true
  | .assign _ => true
  | .pick _ _ _ => true
  | .build _ _ => true
  | .binOp _ _ _ _ _ => true
  | .unOp _ _ _ => true
  | .convert s d _ => plainTy X s && plainTy X d
  | .slice _ _ _ _ none => true
  | .fieldAddr _ _ _ => true
  | .field _ _ _ => true
  | .indexAddr _ _ _ => true
  | .index _ _ _ => true
  | .extract _ _ => true
  | .makeFunc _ _ _ => true
  | .nilCheck _ => true
  | .call c => match c.callee with | .builtin .len => (match c.argTypes.toList with | t :: _ => (match look X.T t with | some (some ti) => (match ti.d with | .map _ _ => false | _ => true) | _ => false) | [] => false) | .builtin .max => true | .builtin .min => true | _ => false
  | _ => false

def evCall (P : Program) (X : Tab) (N : Nat) (o : Oper) (c : Call) (e : Env) (w : World) (K : Value → World → Prop) : Prop :=
  match c.callee with
  | .builtin b => match b with
    | .append => forceL (rdl N e c.args.toList) fun l => RunReq P (Builtin.append_ c.argTypes o.type (toArr l)) w K
    | .copy => forceL (rdl N e c.args.toList) fun l => RunReq P (Builtin.copy_ c.argTypes o.type (toArr l)) w K
    | _ => GenReq P o (rd N e) w K
  | .value f => match rd N e f with
    | .func fn first captured => match fn with
      | .func g => match look X.G g with
        | some true => forceL (first.toList ++ rdl N e c.args.toList ++ captured.toList) fun l => CallReq P g (toArr l) w K
        | _ => GenReq P o (rd N e) w K
      | _ => GenReq P o (rd N e) w K
    | _ => GenReq P o (rd N e) w K
  | _ => GenReq P o (rd N e) w K

def evOp (P : Program) (X : Tab) (N : Nat) (o : Oper) (e : Env) (w : World) (K : Value → World → Prop) : Prop :=
  match isPure X o.op with
  | true => evU P X N o e fun v => K v w
  | false => match o.op with
    | .alloc t => tyK X t fun ti => NewReq w (.cells (toArr ti.zero) t) fun b w' => K (.pointer (some ⟨b, 0, none⟩)) w'
    | .box t x => force (rd N e x) fun v => NewReq w (.cells v.cells t) fun b w' => K (.pointer (some ⟨b, 0, none⟩)) w'
    | .buildSlice t len parts => forceP (pairs N e parts.toList) fun ps => evBuildSlice X t len ps fun el l => NewReq w (.cells (toArr l) el) fun b w' => K (.slice (some ⟨b, 0, none⟩) len len) w'
    | .load t a => match rd N e a with
      | .pointer (some a) => LdReq P t w a fun v => K v w
      | _ => GenReq P o (rd N e) w K
    | .store t a x => match rd N e a with
      | .pointer (some a) => force (rd N e x) fun v => StReq P t w a v fun w' => K undef w'
      | _ => GenReq P o (rd N e) w K
    | .convert src dst x => force (rd N e x) fun v => RunReq P (convert src dst v) w K
    | .makeSlice t l c => force (rd N e l) fun v1 => force (rd N e c) fun v2 => RunReq P (Instr.makeSlice t v1 v2) w K
    | .makeMap t r => RunReq P (Instr.makeMap t (r.map (rd N e))) w K
    | .lookup t x ix ok => RunReq P (Instr.lookup t (rd N e x) (rd N e ix) ok) w K
    | .mapUpdate t m k x => RunUReq P (Instr.mapUpdate t (rd N e m) (rd N e k) (rd N e x)) w fun w' => K undef w'
    | .insert t m k x => RunUReq P (Instr.mapUpdate t (rd N e m) (rd N e k) (rd N e x)) w fun w' => K undef w'
    | .range t x => RunReq P (Instr.range t (rd N e x)) w K
    | .next it s => RunReq P (Instr.next (rd N e it) s o.type) w K
    | .call c => evCall P X N o c e w K
    | _ => GenReq P o (rd N e) w K

section
variable {P : Program} {X : Tab} {N : Nat} {o : Oper} {e : Env}

theorem toArr_rdl (args : Array Operand) : toArr (rdl N e args.toList) = args.map (rd N e) := by
  apply Array.ext'; simp [toArr, rdl_eq]

section
variable {K : Value → Prop}

theorem evSlice_ok (hX : TabsOk P X) {t : Nat} {x : Operand} {lo hi : Option Operand} (ho : o.op = .slice t x lo hi none)
    (h : evSlice P X o (rd N e) t (rd N e x) (lo.map (rd N e)) (hi.map (rd N e)) K) : UOk P o (rd N e) K := by
  have hex : execOp (rd N e) o = (do pure (.value (← Instr.sliceAt t (rd N e x) (lo.map (rd N e)) (hi.map (rd N e)) none))) := by simp [execOp, ho]
  unfold evSlice at h
  replace h := tyK_out hX h
  obtain ⟨ti, ht, h⟩ := h
  generalize rd N e x = xv at *
  generalize lo.map (rd N e) = lov at *
  generalize hi.map (rd N e) = hiv at *
  split at h
  · rename_i el a len cap hd
    obtain ⟨te, hte, h⟩ := tyK_out hX h
    have hu := td_slice ht hd
    have key : ∀ (l h' : Nat), l ≤ h' → h' ≤ cap → (∀ w, (Instr.sliceBounds true len cap lov hiv none).run P w = .ok (l, h', cap) w) →
        K (.slice (if cap = l then a else a.map (·.add (scale l te.size))) (h' - l) (cap - l)) → UOk P o (rd N e) K := by
      intro l h' _ _ hb hk
      refine UOk.of_run _ hex (fun w => ?_) hk
      simp only [Instr.sliceAt, Instr.slice, Sem.run_bind, run_underlying hu, Result.andThen_ok, hb, run_sizeOf hte, scale_eq]
      rfl
    split at h
    · replace h := h.out
      obtain ⟨l, h', e1, e2, e3, e4, hk⟩ := h
      have l0 : l = 0 := by omega
      have hh : h' = len := by omega
      subst l0 hh
      exact key _ _ e3 e4 (fun w => by simp [Instr.sliceBounds]) hk
    · replace h := h.out
      obtain ⟨l, h', e1, e2, e3, e4, hk⟩ := h
      have l0 : l = 0 := by omega
      subst l0 e2
      exact key _ _ e3 e4 (fun w => by simp [Instr.sliceBounds, Instr.sliceBound, asIntOf, e4]) hk
    · replace h := h.out
      obtain ⟨l, h', e1, e2, e3, e4, hk⟩ := h
      have hh : h' = len := by omega
      subst hh e1
      exact key _ _ e3 e4 (fun w => by simp [Instr.sliceBounds, Instr.sliceBound, asIntOf, e3]) hk
    · replace h := h.out
      obtain ⟨l, h', e1, e2, e3, e4, hk⟩ := h
      subst e1 e2
      exact key _ _ e3 e4 (fun w => by simp [Instr.sliceBounds, Instr.sliceBound, asIntOf, e3, e4]) hk
    · exact UGenReq.out h
  · rename_i s hd
    have hu := td_str ht hd
    have key : ∀ (l h' : Nat), l ≤ h' → h' ≤ s.size → (∀ w, (Instr.sliceBounds false s.size s.size lov hiv none).run P w = .ok (l, h', s.size) w) →
        K (.string (s.extract l h')) → UOk P o (rd N e) K := by
      intro l h' _ _ hb hk
      refine UOk.of_run _ hex (fun w => ?_) hk
      simp only [Instr.sliceAt, Instr.slice, Sem.run_bind, run_underlying hu, Result.andThen_ok, Option.isSome_none, Bool.false_eq_true, if_false, hb, Sem.run_pure]
    split at h
    · replace h := h.out
      obtain ⟨l, h', e1, e2, e3, e4, hk⟩ := h
      have l0 : l = 0 := by omega
      have hh : h' = s.size := by omega
      subst l0 hh
      exact key _ _ e3 e4 (fun w => by simp [Instr.sliceBounds]) hk
    · replace h := h.out
      obtain ⟨l, h', e1, e2, e3, e4, hk⟩ := h
      have l0 : l = 0 := by omega
      subst l0 e2
      exact key _ _ e3 e4 (fun w => by simp [Instr.sliceBounds, Instr.sliceBound, asIntOf, e4]) hk
    · replace h := h.out
      obtain ⟨l, h', e1, e2, e3, e4, hk⟩ := h
      have hh : h' = s.size := by omega
      subst hh e1
      exact key _ _ e3 e4 (fun w => by simp [Instr.sliceBounds, Instr.sliceBound, asIntOf, e3]) hk
    · replace h := h.out
      obtain ⟨l, h', e1, e2, e3, e4, hk⟩ := h
      subst e1 e2
      exact key _ _ e3 e4 (fun w => by simp [Instr.sliceBounds, Instr.sliceBound, asIntOf, e3, e4]) hk
    · exact UGenReq.out h
  · exact UGenReq.out h

theorem evLen_ok (hX : TabsOk P X) {c : Call} (ho : o.op = .call c) (hc : c.callee = .builtin .len)
    (h : evLen P X o (rd N e) c.argTypes.toList (rdl N e c.args.toList) K) : UOk P o (rd N e) K := by
  have hex : execOp (rd N e) o = (do pure (.value (← Builtin.len_ c.argTypes o.type (c.args.map (rd N e))))) := by simp [execOp, ho, resolve, hc, invoke, builtin]
  unfold evLen at h
  split at h
  · rename_i t ats x xs h1 h2
    have g1 : c.argTypes[0]? = some t := by rw [← Array.getElem?_toList, h1]; rfl
    have g2 : (c.args.map (rd N e))[0]? = some x := by
      rw [← Array.getElem?_toList, Array.toList_map, ← rdl_eq, h2]; rfl
    replace h := tyK_out hX h
    obtain ⟨ti, ht, h⟩ := h
    clear h1 h2
    split at h
    · rename_i hd
      refine UOk.of_run _ hex (fun w => ?_) h
      simp only [Builtin.len_, g1, g2, Sem.run_bind, run_underlying (td_slice ht hd), Result.andThen_ok]
      rfl
    · rename_i hd
      refine UOk.of_run _ hex (fun w => ?_) h
      simp only [Builtin.len_, g1, g2, Sem.run_bind, run_underlying (td_str ht hd), Result.andThen_ok]
      rfl
    · rename_i hd
      refine UOk.of_run _ hex (fun w => ?_) h
      simp only [Builtin.len_, g1, g2, Sem.run_bind, run_underlying (td_array ht hd), Result.andThen_ok]
      rfl
    · exact UGenReq.out h
  · exact UGenReq.out h

theorem evU_ok (hX : TabsOk P X) (h : evU P X N o e K) : UOk P o (rd N e) K := by
  unfold evU at h
  split at h
  · rename_i x ho; exact ⟨_, fun w => by simp only [execOp, ho]; rfl, h⟩
  · rename_i x ho; exact ⟨_, fun w => by simp only [execOp, ho]; rfl, h⟩
  · rename_i c a b ho
    split at h
    · rename_i b' hb
      replace h := h.out
      cases b'
      · exact ⟨_, fun w => by simp only [execOp, ho, Sem.run_bind, hb, asBool, Sem.run_pure, Result.andThen_ok]; rfl, h.2 rfl⟩
      · exact ⟨_, fun w => by simp only [execOp, ho, Sem.run_bind, hb, asBool, Sem.run_pure, Result.andThen_ok]; rfl, h.1 rfl⟩
    · exact h.elim
  · rename_i t parts ho
    rw [forceP_eq] at h
    obtain ⟨v, h1, h2⟩ := evBuild_run hX h
    have e1 : (parts.map fun (i, x) => (i, rd N e x)) = (pairs N e parts.toList).toArray := by apply Array.ext'; simp [pairs_eq]
    exact UOk.of_run (s := Instr.build t (parts.map fun (i, x) => (i, rd N e x))) v (by simp [execOp, ho]) (fun w => by rw [e1]; exact h1 w) h2
  · rename_i op t x y yt ho
    exact evBin_ok hX ho h
  · rename_i op t x ho
    split at h
    · rename_i b hb
      exact UOk.of_run (s := Op.unary .not (rd N e x)) _ (by simp [execOp, ho]) (fun w => by simp [hb, Op.unary]) h
    · rename_i k n hb
      exact UOk.of_run (s := Op.unary .neg (rd N e x)) _ (by simp [execOp, ho]) (fun w => by simp only [hb, Op.unary, Op.intArith, Sem.run_pure]) h.out
    · rename_i k n hb
      replace h := h.out
      unfold bitsOf at h
      exact UOk.of_run (s := Op.unary .xor (rd N e x)) _ (by simp [execOp, ho]) (fun w => by simp only [hb, Op.unary, Op.intBits, Sem.run_pure]) h
    · exact UGenReq.out h
  · rename_i src dst x ho
    obtain ⟨ts, hts, h⟩ := tyK_out hX h
    obtain ⟨td, htd, h⟩ := tyK_out hX h
    obtain ⟨is, ds, zs, _, hus, _, _⟩ := tiOf_info hts
    split at h
    · rename_i k _ n hd hx
      refine UOk.of_run (s := convert src dst (rd N e x)) _ (by simp [execOp, ho]) (fun w => ?_) h.out
      simp only [hx, convert, Sem.run_bind, run_underlying hus, run_underlying (td_int htd hd), Result.andThen_ok, Conv.intToInt]
      cases ds <;> rfl
    · rename_i s hd hx
      refine UOk.of_run (s := convert src dst (rd N e x)) _ (by simp [execOp, ho]) (fun w => ?_) h
      simp only [hx, convert, Sem.run_bind, run_underlying hus, run_underlying (td_str htd hd), Result.andThen_ok]
      cases ds <;> rfl
    · exact UGenReq.out h
  · rename_i t x lo hi ho
    exact evSlice_ok hX ho h
  · rename_i s x f ho
    replace h := tyK_out hX h
    obtain ⟨ti, ht, h⟩ := h
    split at h
    · rename_i fs hd
      obtain ⟨F, hu, hF⟩ := td_struct ht hd
      split at h
      · rename_i off ft hl
        replace h := tyK_out hX h
        obtain ⟨tf, htf, h⟩ := h
        split at h
        · exact h.elim
        · rename_i sz hsz
          split at h
          · rename_i y a hy
            refine UOk.of_run (s := Instr.fieldAt s (rd N e x) f) _ (by simp [execOp, ho]) (fun w => ?_) h
            rw [look_eq, hF, List.getElem?_map] at hl
            cases hi : F.toList[f]? with
            | none => simp [hi] at hl
            | some g =>
              simp [hi] at hl
              obtain ⟨rfl, rfl⟩ := hl
              have hi' : F[f]? = some g := by simpa using hi
              have hne : (tf.size = 0) = False := by simp [hsz]
              simp only [hy, Instr.fieldAt, Sem.run_bind, run_underlying hu, Result.andThen_ok, hi', Instr.sureAddr, Sem.run_pure, fieldPlace, run_sizeOf htf, hne, if_false]
          · exact UGenReq.out h
      · exact h.elim
    · exact UGenReq.out h
  · rename_i t x f ho
    replace h := tyK_out hX h
    obtain ⟨ti, ht, h⟩ := h
    split at h
    · rename_i fs hd
      obtain ⟨F, hu, hF⟩ := td_struct ht hd
      split at h
      · rename_i off ft hl
        split at h
        · rename_i cs hy
          obtain ⟨v, h1, h2⟩ := partL_run hX h
          refine UOk.of_run (s := Instr.field t (rd N e x) f) v (by simp [execOp, ho]) (fun w => ?_) h2
          rw [look_eq, hF, List.getElem?_map] at hl
          cases hi : F.toList[f]? with
          | none => simp [hi] at hl
          | some g =>
            simp [hi] at hl
            obtain ⟨rfl, rfl⟩ := hl
            have hi' : F[f]? = some g := by simpa using hi
            simp only [hy, Instr.field, Sem.run_bind, run_underlying hu, Result.andThen_ok, hi', asAgg, Sem.run_pure, h1]
        · exact UGenReq.out h
      · exact h.elim
    · exact UGenReq.out h
  · rename_i t x ix ho
    replace h := tyK_out hX h
    obtain ⟨ti, ht, h⟩ := h
    split at h
    · rename_i el base len cap k i hd hx hix
      replace h := tyK_out hX h
      obtain ⟨te, hte, h⟩ := h
      replace h := h.out
      obtain ⟨j, a, e1, e2, e3, h⟩ := h
      refine UOk.of_run (s := Instr.indexAt t (rd N e x) (rd N e ix)) _ (by simp [execOp, ho]) (fun w => ?_) h
      subst e1 e3
      have h0 : (0 : Int) ≤ (j : Int) ∧ (j : Int) < (len : Int) := by omega
      simp only [hx, hix, Instr.indexAt, asIntOf, Sem.run_bind, Sem.run_pure, Result.andThen_ok, run_underlying (td_slice ht hd), if_pos h0, run_sizeOf hte, Int.toNat_natCast, scale_eq]
    · rename_i n el a k i hd hx hix
      replace h := tyK_out hX h
      obtain ⟨te, hte, h⟩ := h
      replace h := h.out
      obtain ⟨j, e1, e2, h⟩ := h
      refine UOk.of_run (s := Instr.indexAt t (rd N e x) (rd N e ix)) _ (by simp [execOp, ho]) (fun w => ?_) h
      subst e1
      have h0 : (0 : Int) ≤ (j : Int) ∧ (j : Int) < (n : Int) := by omega
      simp only [hx, hix, Instr.indexAt, asIntOf, Sem.run_bind, Sem.run_pure, Result.andThen_ok, run_underlying (td_array ht hd), Instr.sureAddr, if_pos h0, run_sizeOf hte, Int.toNat_natCast, scale_eq]
    · exact UGenReq.out h
  · rename_i t x ix ho
    replace h := tyK_out hX h
    obtain ⟨ti, ht, h⟩ := h
    split at h
    · rename_i n el cs k i hd hx hix
      replace h := tyK_out hX h
      obtain ⟨te, hte, h⟩ := h
      replace h := h.out
      obtain ⟨j, e1, e2, h⟩ := h
      rw [scale_eq] at h
      obtain ⟨v, h1, h2⟩ := partL_run hX h
      refine UOk.of_run (s := Instr.index t (rd N e x) (rd N e ix)) v (by simp [execOp, ho]) (fun w => ?_) h2
      subst e1
      have h0 : (0 : Int) ≤ (j : Int) ∧ (j : Int) < (n : Int) := by omega
      simp only [hx, hix, Instr.index, asIntOf, Sem.run_bind, Sem.run_pure, Result.andThen_ok, run_underlying (td_array ht hd), if_pos h0, run_sizeOf hte, Int.toNat_natCast, h1]
    · rename_i s k i hd hx hix
      replace h := h.out
      obtain ⟨j, b, e1, e2, h⟩ := h
      refine UOk.of_run (s := Instr.index t (rd N e x) (rd N e ix)) _ (by simp [execOp, ho]) (fun w => ?_) h
      subst e1
      have h0 : (0 : Int) ≤ (j : Int) := by omega
      have e3 : s[j]? = some b := by
        have hl : j < s.data.size := (Array.getElem?_eq_some_iff.1 e2).1
        have hl' : j < s.size := hl
        rw [getElem?_pos s j hl']
        have := (Array.getElem?_eq_some_iff.1 e2).2
        exact congrArg some this
      simp only [hx, hix, Instr.index, asIntOf, Sem.run_bind, Sem.run_pure, Result.andThen_ok, run_underlying (td_str ht hd), if_pos h0, Int.toNat_natCast, e3]
    · exact UGenReq.out h
  · rename_i t ix ho
    split at h
    · rename_i vs hx
      split at h
      · rename_i v hl
        refine UOk.of_run (s := Instr.extract (rd N e t) ix) v (by simp [execOp, ho]) (fun w => ?_) h
        rw [look_eq] at hl
        have hl' : vs[ix]? = some v := by simpa using hl
        simp only [hx, Instr.extract, hl', Sem.run_pure]
      · exact h.elim
    · exact UGenReq.out h
  · rename_i fn first captured ho
    rw [forceL_eq, forceL_eq, toArr_rdl, toArr_rdl] at h
    exact UOk.of_run (s := Instr.makeFunc fn (first.map (rd N e)) (captured.map (rd N e))) _ (by simp [execOp, ho]) (fun w => by simp [Instr.makeFunc]) h
  · rename_i x ho
    split at h
    · rename_i y a hx
      exact ⟨_, fun w => by simp only [execOp, ho, hx]; rfl, h⟩
    · rename_i f a c hx
      exact ⟨_, fun w => by simp only [execOp, ho, hx]; rfl, h⟩
    · exact UGenReq.out h
  · rename_i c ho
    split at h
    · rename_i hc
      exact evLen_ok hX ho hc h
    · rename_i hc
      unfold evMax at h
      split at h
      · rename_i k x k' y hl
        refine UOk.of_run (s := Builtin.max_ c.argTypes o.type (c.args.map (rd N e))) _ (by simp [execOp, ho, resolve, hc, invoke, builtin]) (fun w => ?_) h
        have : (c.args.map (rd N e)).toList = [.int k x, .int k' y] := by rw [Array.toList_map, ← rdl_eq, hl]
        simp only [Builtin.max_, this, List.foldlM_cons, List.foldlM_nil, Builtin.max2, Sem.run_bind, Sem.run_pure, Result.andThen_ok]
        rw [Int.max_def]
        congr 2
        split <;> split <;> omega
      · exact UGenReq.out h
    · rename_i hc
      unfold evMin at h
      split at h
      · rename_i k x k' y hl
        refine UOk.of_run (s := Builtin.min_ c.argTypes o.type (c.args.map (rd N e))) _ (by simp [execOp, ho, resolve, hc, invoke, builtin]) (fun w => ?_) h
        have : (c.args.map (rd N e)).toList = [.int k x, .int k' y] := by rw [Array.toList_map, ← rdl_eq, hl]
        simp only [Builtin.min_, this, List.foldlM_cons, List.foldlM_nil, Builtin.min2, Sem.run_bind, Sem.run_pure, Result.andThen_ok]
        rw [Int.min_def]
        congr 2
        split <;> split <;> omega
      · exact UGenReq.out h
    · exact UGenReq.out h
  · exact UGenReq.out h
end

variable {w : World} {K : Value → World → Prop}

theorem gen_ok (h : GenReq P o (rd N e) w K) : OpOk P o (rd N e) w K := by exact h.out

theorem opOk_of_run {s : Sem Value} (ho : execOp (rd N e) o = (do pure (.value (← s)))) (h : ∃ v w', s.run P w = .ok v w' ∧ K v w') : OpOk P o (rd N e) w K := by
  obtain ⟨v, w', h1, h2⟩ := h
  unfold OpOk
  rw [ho]
  simp only [Sem.run_bind, h1, Result.andThen_ok, Sem.run_pure]
  exact h2
theorem opOk_of_runU {s : Sem Unit} (ho : execOp (rd N e) o = (do s; pure .skip)) (h : ∃ w', s.run P w = .ok () w' ∧ K undef w') : OpOk P o (rd N e) w K := by
  obtain ⟨w', h1, h2⟩ := h
  unfold OpOk
  rw [ho]
  simp only [Sem.run_bind, h1, Result.andThen_ok, Sem.run_pure]
  exact h2

theorem evCall_ok (hX : TabsOk P X) {c : Call} (ho : o.op = .call c) (h : evCall P X N o c e w K) : OpOk P o (rd N e) w K := by
  unfold evCall at h
  split at h
  · rename_i b hc
    split at h
    · rw [forceL_eq, toArr_rdl] at h
      exact opOk_of_run (by simp [execOp, ho, resolve, hc, invoke, builtin]) h.out
    · rw [forceL_eq, toArr_rdl] at h
      exact opOk_of_run (by simp [execOp, ho, resolve, hc, invoke, builtin]) h.out
    · exact gen_ok h
  · rename_i f hc
    split at h
    · rename_i fn first captured hf
      split at h
      · rename_i g
        split at h
        · rename_i hg
          obtain ⟨fnd, h1, h2, h3⟩ := hX.g g hg
          rw [forceL_eq] at h
          replace h := h.out
          have e1 : toArr (first.toList ++ rdl N e c.args.toList ++ captured.toList) = first ++ c.args.map (rd N e) ++ captured := by
            apply Array.ext'; simp [toArr, rdl_eq]
          rw [e1] at h
          unfold OpOk
          have hex : execOp (rd N e) o = callFunc g (first ++ c.args.map (rd N e) ++ captured) := by
            simp [execOp, ho, resolve, hc, hf, Deferred.ofValue, invoke]
          rw [hex]
          have : (callFunc g (first ++ c.args.map (rd N e) ++ captured)).run P w = .ok (.enter g (first ++ c.args.map (rd N e) ++ captured)) w := by
            have h2' : fnd.body.isNone = false := by cases hb : fnd.body <;> simp_all
            simp only [callFunc, Sem.run_bind, run_program, Result.andThen_ok, h1, h3, h2', Bool.false_eq_true, if_false, Sem.run_pure]
          rw [this]
          exact h
        · exact gen_ok h
      · exact gen_ok h
    · exact gen_ok h
  · exact gen_ok h

theorem evOp_ok (hX : TabsOk P X) (h : evOp P X N o e w K) : OpOk P o (rd N e) w K := by
  unfold evOp at h
  split at h
  · obtain ⟨v, h1, h2⟩ := evU_ok hX h
    unfold OpOk
    rw [h1 w]
    exact h2
  split at h
  · rename_i t ho
    obtain ⟨ti, ht, h⟩ := tyK_out hX h
    obtain ⟨z, hz, hzc⟩ := run_zeroValue ht
    refine opOk_of_run (s := Instr.alloc t true (.tuple #[])) (by simp [execOp, ho]) ⟨_, _, ?_, h.out⟩
    have : z.cells = toArr ti.zero := by apply Array.ext'; simp [toArr, hzc]
    simp only [Instr.alloc, Sem.run_bind, hz, Result.andThen_ok, newVar, newRow, run_newObj, Sem.run_pure, this]
    rfl
  · rename_i t x ho
    rw [force_eq] at h
    refine opOk_of_run (s := Instr.box t (rd N e x)) (by simp [execOp, ho]) ⟨_, _, ?_, h.out⟩
    simp only [Instr.box, Sem.run_bind, Result.andThen_ok, newVar, newRow, run_newObj, Sem.run_pure]
    rfl
  · rename_i t len parts ho
    have : (parts.map fun (i, x) => (i, rd N e x)) = (pairs N e parts.toList).toArray := by apply Array.ext'; simp [pairs_eq]
    rw [forceP_eq] at h
    obtain ⟨el, l, h1, h2⟩ := evBuildSlice_run hX h
    exact opOk_of_run (s := Instr.buildSlice t len (parts.map fun (i, x) => (i, rd N e x))) (by simp [execOp, ho]) ⟨_, _, by rw [this]; exact h1 w, h2.out⟩
  · rename_i t a ho
    split at h
    · rename_i x ad hx
      obtain ⟨v, h1, h2⟩ := h.out
      refine opOk_of_run (s := Instr.loadAt t (rd N e a)) (by simp [execOp, ho]) ⟨v, w, ?_, h2⟩
      simp only [hx, Instr.loadAt, Instr.sureAddr, Sem.run_bind, Sem.run_pure, Result.andThen_ok, h1]
    · exact gen_ok h
  · rename_i t a x ho
    split at h
    · rename_i y ad hy
      rw [force_eq] at h
      obtain ⟨w', h1, h2⟩ := h.out
      refine opOk_of_runU (s := Instr.storeAt t (rd N e a) (rd N e x)) (by simp [execOp, ho]) ⟨w', ?_, h2⟩
      simp only [hy, Instr.storeAt, Instr.sureAddr, Sem.run_bind, Sem.run_pure, Result.andThen_ok, h1]
    · exact gen_ok h
  · rename_i src dst x ho
    rw [force_eq] at h
    exact opOk_of_run (by simp [execOp, ho]) h.out
  · rename_i t l c ho
    rw [force_eq, force_eq] at h
    exact opOk_of_run (by simp [execOp, ho]) h.out
  · rename_i t r ho
    exact opOk_of_run (by simp [execOp, ho]) h.out
  · rename_i t x ix ok ho
    exact opOk_of_run (by simp [execOp, ho]) h.out
  · rename_i t m k x ho
    exact opOk_of_runU (s := Instr.mapUpdate t (rd N e m) (rd N e k) (rd N e x)) (by simp [execOp, ho]) h.out
  · rename_i t m k x ho
    exact opOk_of_runU (s := Instr.mapUpdate t (rd N e m) (rd N e k) (rd N e x)) (by simp [execOp, ho]) h.out
  · rename_i t x ho
    exact opOk_of_run (by simp [execOp, ho]) h.out
  · rename_i it s ho
    exact opOk_of_run (by simp [execOp, ho]) h.out
  · rename_i c ho
    exact evCall_ok hX ho h
  · exact gen_ok h

end
end Go.Ev
