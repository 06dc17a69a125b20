/- ToolRefuses: part 4 of 10 of the proof. Conditions: none. -/
import Derived.Test.YtloofgoblodeiaaGreatDoorM3
import Derived.Test.YtloofgoblodeiaaGreatDoorM1
import Derived.Test.YtloofgoblodeiaaGreatDoorM2
import Derived.Lib.Builder
import Derived.Lib.UnsafeStr
import Derived.Lib.AppendStr
import Derived.Laws.Externs
import Derived.Lib.MakeNoZero
import Derived.Laws.IdiomCopy
namespace Go.Proofs.YtloofgoblodeiaaGreatDoor.am
open Go Go.Ev Go.Proofs.YtloofgoblodeiaaGreatDoor.co
noncomputable section
variable {ι : At} {N : Nat} {ae : T Value} {e : Env}
theorem partB_ok {t off : Nat} {l l' : List Value} {k : KV} {K : Value → Prop} (h : partB t l off k = true) (hl : VRL ι l l') (hK : ∀ v v', k v = true → VR ι v v' → K v') : partL X t l' off K := by
  obtain ⟨ti, ht, h⟩ := tyB_out h
  refine tyK_in ht ?_
  cases hd : ti.d.isAgg with
  | true =>
    rw [hd] at h
    obtain ⟨h1, h2⟩ := takeK_out h
    rw [dropL_eq] at h2
    exact hK _ _ h2 (VR.agg ((hl.drop off).take ti.size))
  | false =>
    rw [hd] at h
    obtain ⟨v, h1, h2⟩ := nth_out h
    obtain ⟨v', h3, h4⟩ := hl.get h1
    exact OptReq.mk (by rw [look_eq]; exact h3) (hK _ _ h2 h4)
theorem splice_R {off : Nat} {vs vs' cs cs' : List Value} (hv : VRL ι vs vs') (hc : VRL ι cs cs') (h : off + vs.length ≤ cs.length) : VRL ι (cs.take off ++ vs ++ cs.drop (off + vs.length)) (spliceL cs' off vs') := by
  rw [spliceL_eq _ _ _ (by rw [hv.len, hc.len]; exact h), hv.len]
  exact ((hc.take off).app hv).app (hc.drop _)
theorem fillB_ok {pl : Nat → (Nat → Nat → Bool) → Bool} {pl' : Nat → (Nat → Nat → Prop) → Prop} (hp : ∀ i kk, pl i kk = true → ∃ off size, kk off size = true ∧ ∀ K, K off size → pl' i K) :
    ∀ {parts parts' : List (Nat × Value)} {cs cs' : List Value} {k : List Value → Bool} {K : List Value → Prop}, fillB pl parts cs k = true → PR ι parts parts' → VRL ι cs cs' → (∀ l l', k l = true → VRL ι l l' → K l') → fillL X pl' cs' parts' K
  | [], _, cs, cs', k, K, h, .nil, hc, hK => hK _ _ h hc
  | (i, v) :: parts, _, cs, cs', k, K, h, .cons (v' := v') hv hr, hc, hK => by
    obtain ⟨off, size, h1, h2⟩ := hp i _ h
    dsimp only at h1
    cases hb : Nat.beq (lenN (celL v)) size with
    | false => rw [hb] at h1; cases h1
    | true =>
      rw [hb] at h1
      obtain ⟨h3, h4⟩ := splK_out h1
      have hs := Nat.eq_of_beq_eq_true hb
      rw [lenN_eq] at hs
      rw [celL_eq] at h3 h4 hs
      have hvl := hv.cells.len
      show pl' i _
      apply h2
      have e : (Nat.beq v'.cells.size size && Nat.ble (off + size) cs'.length) = true := by
        rw [Bool.and_eq_true]
        refine ⟨?_, ?_⟩
        · rw [Nat.beq_eq]; have : v'.cells.size = v'.cells.toList.length := by simp
          omega
        · apply Nat.ble_eq_true_of_le; rw [hc.len]; omega
      rw [e]
      exact fillB_ok hp h4 hr (splice_R hv.cells hc h3) hK
theorem stPl_ok {fs : List (Nat × Nat)} : ∀ i kk, stPl fs i kk = true → ∃ off size, kk off size = true ∧ ∀ K, K off size → structPl X fs i K := by
  intro i kk h
  unfold stPl at h
  cases hl : Ev.look fs i with
  | none => rw [hl] at h; cases h
  | some x =>
    obtain ⟨off, ft⟩ := x
    rw [hl] at h
    obtain ⟨tf, htf, h⟩ := tyB_out h
    exact ⟨off, tf.size, h, fun K hK => by unfold structPl; rw [hl]; exact tyK_in htf hK⟩
theorem allTyB_ok : ∀ {l : List (Nat × Nat)} {k : Bool} {K : Prop}, allTyB l k = true → (k = true → K) → allTy X l K
  | [], k, K, h, hK => hK h
  | f :: l, k, K, h, hK => by
    obtain ⟨ti, ht, h⟩ := tyB_out (k := fun _ => allTyB l k) h
    exact tyK_in ht (allTyB_ok h hK)
theorem buildB_ok {t : Nat} {parts parts' : List (Nat × Value)} {k : KV} {K : Value → Prop} (h : buildB t parts k = true) (hp : PR ι parts parts') (hK : ∀ v v', k v = true → VR ι v v' → K v') : evBuild X t parts' K := by
  obtain ⟨ti, ht, h⟩ := tyB_out h
  refine tyK_in ht ?_
  cases hfz : flatL ti.zero with
  | false => rw [hfz] at h; cases h
  | true =>
  rw [hfz] at h
  have hz := flatL_out (ι := ι) hfz
  cases hd : ti.d with
  | struct fs =>
    rw [hd] at h
    exact allTyB_ok h fun h => fillB_ok stPl_ok h hp hz fun l l' hl hr => hK _ _ hl (.agg hr)
  | array n el =>
    rw [hd] at h
    obtain ⟨te, hte, h⟩ := tyB_out h
    exact tyK_in hte (fillB_ok (pl' := fun i K => K (i * te.size) te.size) (fun i kk hk => ⟨_, _, hk, fun K hK => hK⟩) h hp hz fun l l' hl hr => hK _ _ hl (.agg hr))
  | _ => rw [hd] at h; cases h
theorem intB_ok {o : Oper} {ρ : Operand → Value} {op : BinOp} {kd kd' : IntKind} {a b : Int} {k : KV} {K : Value → Prop} (h : intB op kd a kd' b k = true) (hK : ∀ v, k v = true → flat1 v = true → K v) : evInt Tryz.prog o ρ op kd a kd' b K := by
  have hb : ∀ {c : Bool}, fB c (fun c => k (.bool c)) = true → K (.bool c) := fun h => by rw [fB_eq] at h; exact hK _ h rfl
  have hi : ∀ {n : Int}, fI n (fun n => k (.int kd n)) = true → K (.int kd n) := fun h => by rw [fI_eq] at h; exact hK _ h rfl
  have hw : ∀ {n : Int}, wrK kd n (fun n => k (.int kd n)) = true → K (.int kd (kd.wrap n)) := fun h => by rw [wrK_eq] at h; exact hK _ h rfl
  cases op <;> simp only [intB] at h <;> unfold evInt
  case shl =>
    cases hl : iLt b 0 with
    | true => rw [hl] at h; cases h
    | false => rw [hl] at h; rw [iLt_eq, decide_eq_false_iff_not] at hl; exact ⟨by omega, hi h⟩
  case shr =>
    cases hl : iLt b 0 with
    | true => rw [hl] at h; cases h
    | false => rw [hl] at h; rw [iLt_eq, decide_eq_false_iff_not] at hl; exact ⟨by omega, hi h⟩
  all_goals
    cases hk : kEq kd kd' with
    | false => rw [hk] at h; cases h
    | true =>
      rw [hk] at h
      dsimp only at h ⊢
      first
        | exact ⟨hw h⟩
        | exact ⟨hi h⟩
        | (have h := hb h; simp only [iEq_eq, iLt_eq] at h; exact h)
        | (have h := hb h; simp only [iEq_eq, iLt_eq] at h; first | exact h | (rw [← decide_not] at h; first | exact h | (simp only [Int.not_lt] at h; exact h)))
        | (cases hz : iEq b 0 with
           | true => rw [hz] at h; cases h
           | false => rw [hz] at h; rw [iEq_eq, decide_eq_false_iff_not] at hz; first | exact ⟨hz, hw h⟩ | exact ⟨hz, hi h⟩)
        | (cases h; done)
theorem binB_ok {o : Oper} {op : BinOp} {t yt : Nat} {x y : Operand} {u v u' v' : Value} {ρ : Operand → Value} {k : KV} {K : Value → Prop} (ho : o.op = .binOp op t x y yt) (hx : ρ x = u') (hy : ρ y = v') (hu : VR ι u u') (hv : VR ι v v')
    (h : binB op t u v k = true) (hK : ∀ v v', k v = true → VR ι v v' → K v') : evBin Tryz.prog X o ρ op t u' v' K := by
  have hK1 : ∀ v, k v = true → flat1 v = true → K v := fun v h1 h2 => hK v v h1 (.same h2)
  have hb : ∀ {c : Bool}, fB c (fun c => k (.bool c)) = true → K (.bool c) := fun h => by rw [fB_eq] at h; exact hK1 _ h rfl
  cases u with
  | int kd a =>
    cases v with
    | int kd' b =>
      rw [hu.int, hv.int]
      exact intB_ok h hK1
    | _ => cases h
  | bool a =>
    cases v with
    | bool b =>
      rw [hu.bool, hv.bool]
      simp only [binB] at h
      obtain ⟨ti, ht, h⟩ := tyB_out h
      cases hd : ti.d with
      | bool =>
        rw [hd] at h
        cases op <;> simp only at h <;> first | (cases h; done) | skip
        · show tyK X t _; refine tyK_in ht ?_; rw [hd]; exact hb h
        · show tyK X t _; refine tyK_in ht ?_; rw [hd]; exact hb h
      | _ => rw [hd] at h; cases h
    | _ => cases h
  | string a =>
    cases v with
    | string b =>
      have e1 := hu.str
      have e2 := hv.str
      subst e1 e2
      show UGenReq _ _ _ _
      cases op <;> simp only [binB] at h <;> first | (cases h; done) | skip
      · cases hle : Nat.ble (Nat.add a.data.toList.length b.data.toList.length) 1000000000 with
        | false => rw [hle] at h; cases h
        | true =>
          rw [hle] at h
          simp only [bsL_eq] at h
          have := Nat.le_of_ble_eq_true hle
          exact UGenReq.strB a.data.toList b.data.toList ho hx hy (bs_data a).symm (bs_data b).symm (Nat.le_trans this (by decide)) (hK1 _ h rfl)
      · have h := hb h
        rw [← ba_eq] at h
        exact UGenReq.strEq ho hx hy h
      · have h := hb h
        rw [← ba_eq] at h
        exact UGenReq.strNe ho hx hy h
    | _ => cases h
  | slice a n d =>
    cases v with
    | slice a2 n2 d2 =>
      cases a2 with
      | some _ => cases h
      | none =>
        obtain ⟨a', c', rfl, ha⟩ := hu.slc_any
        obtain ⟨rfl, rfl, rfl⟩ := hv.slc_nil
        simp only [binB] at h
        obtain ⟨ti, ht, h⟩ := tyB_out h
        cases hd : ti.d with
        | slice el =>
          rw [hd] at h
          cases op <;> simp only at h <;> first | (cases h; done) | skip
          · have h := hb h; rw [← ha] at h; show tyK X t _; refine tyK_in ht ?_; rw [hd]; exact h
          · have h := hb h; rw [← ha] at h; show tyK X t _; refine tyK_in ht ?_; rw [hd]; exact h
        | _ => rw [hd] at h; cases h
    | _ => cases h
  | agg a =>
    cases v with
    | agg b =>
      simp only [binB] at h
      split at h
      case h_2 => cases h
      rename_i hc
      simp only [Bool.and_eq_true, Bool.not_eq_true'] at hc
      obtain ⟨⟨f1, f2⟩, f3⟩ := hc
      obtain ⟨ti, ht, h⟩ := tyB_out h
      split at h
      case h_2 => cases h
      rename_i hd
      split at h
      case h_2 => cases h
      rename_i cb heq
      obtain ⟨l1, e1, r1⟩ := hu.agg_out
      obtain ⟨l2, e2, r2⟩ := hv.agg_out
      rw [r1.flat f1] at e1
      rw [r2.flat f2] at e2
      have htO : tyO X t = some ti := by unfold tyO; rw [ht]
      subst e1 e2
      show UGenReq _ _ _ _
      cases op <;> simp only at h <;> first | (cases h; done) | skip
      · exact UGenReq.eqA hX ho hx hy f3 htO hd heq (hb h)
      · exact UGenReq.neA hX ho hx hy f3 htO hd heq (hb h)
    | _ => cases h
  | pointer a =>
    cases v with
    | pointer a2 =>
      cases a2 with
      | some _ => cases h
      | none =>
        obtain ⟨a', rfl, ha⟩ := hu.ptr_any
        have e2 := hv.nilp
        subst e2
        show UGenReq _ _ _ _
        simp only [binB] at h
        obtain ⟨ti, ht, h⟩ := tyB_out h
        cases hd : ti.d with
        | ptr el =>
          rw [hd] at h
          cases op <;> simp only at h <;> first | (cases h; done) | skip
          · have h := hb h; rw [← ha] at h; exact UGenReq.nilPtr hX ho hx hy ht hd h
          · have h := hb h; rw [← ha] at h; exact UGenReq.nilPtrNe hX ho hx hy ht hd h
        | _ => rw [hd] at h; cases h
    | _ => cases h
  | _ => cases h
theorem optI_out {x : Option Operand} {k : (Int → Int) → Bool} (hG : Gl ι) (hE : ER ι N ae e) (h : optI N ae x k = true) :
    ∃ f, k f = true ∧ ((x.map (rd N e) = none ∧ f = fun n => n) ∨ ∃ kd n, x.map (rd N e) = some (.int kd n) ∧ f = fun _ => n) := by
  cases x with
  | none => exact ⟨_, h, .inl ⟨rfl, rfl⟩⟩
  | some x =>
    obtain ⟨v, h1, h2⟩ := ardK_out hG hE h
    cases v with
    | int kd n => exact ⟨_, h1, .inr ⟨kd, n, by show some (rd N e x) = _; rw [h2.int], rfl⟩⟩
    | _ => cases h1
theorem slB_out {lo hi : Int} {n : Nat} {k : Nat → Nat → Bool} (h : slB lo hi n k = true) : ∃ l h' : Nat, lo = l ∧ hi = h' ∧ l ≤ h' ∧ h' ≤ n ∧ k l h' = true := by
  cases lo with
  | negSucc _ => cases h
  | ofNat l =>
    cases hi with
    | negSucc _ => cases h
    | ofNat m =>
      simp only [slB] at h
      cases h1 : Nat.ble l m with
      | false => rw [h1] at h; cases h
      | true =>
        rw [h1] at h
        cases h2 : Nat.ble m n with
        | false => rw [h2] at h; cases h
        | true =>
          rw [h2] at h
          simp only [fN_eq] at h
          exact ⟨l, m, rfl, rfl, Nat.le_of_ble_eq_true h1, Nat.le_of_ble_eq_true h2, h⟩
theorem sl4 {lo hi : Option Value} {f g : Int → Int} {n c : Nat} {K : Nat → Nat → Prop} {Q : Prop} (hl : (lo = none ∧ f = fun n => n) ∨ ∃ kd z, lo = some (.int kd z) ∧ f = fun _ => z) (hh : (hi = none ∧ g = fun n => n) ∨ ∃ kd z, hi = some (.int kd z) ∧ g = fun _ => z)
    (h : SlReq (f 0) (g n) c K) : (match (generalizing := false) lo, hi with
      | none, none => SlReq 0 n c K
      | none, some (.int _ h) => SlReq 0 h c K
      | some (.int _ l), none => SlReq l n c K
      | some (.int _ l), some (.int _ h) => SlReq l h c K
      | _, _ => Q) := by
  rcases hl with ⟨rfl, rfl⟩ | ⟨_, _, rfl, rfl⟩ <;> rcases hh with ⟨rfl, rfl⟩ | ⟨_, _, rfl, rfl⟩ <;> exact h
theorem add_at (b o n : Nat) : (⟨b, o, none⟩ : Addr).add n = ⟨b, o + n, none⟩ := by
  unfold Addr.add
  split
  · rename_i h; rw [h]; rfl
  · rfl
theorem sliB_ok {o : Oper} {ρ : Operand → Value} {t : Nat} {x x' : Value} {lo hi : Option Value} {f g : Int → Int} {k : KV} {K : Value → Prop} (hx : VR ι x x') (hl : (lo = none ∧ f = fun n => n) ∨ ∃ kd z, lo = some (.int kd z) ∧ f = fun _ => z) (hh : (hi = none ∧ g = fun n => n) ∨ ∃ kd z, hi = some (.int kd z) ∧ g = fun _ => z)
    (h : sliB t x f g k = true) (hK : ∀ v v', k v = true → VR ι v v' → K v') : evSlice Tryz.prog X o ρ t x' lo hi K := by
  obtain ⟨ti, ht, h⟩ := tyB_out h
  unfold evSlice
  refine tyK_in ht ?_
  cases hd : ti.d with
  | slice el =>
    rw [hd] at h
    obtain ⟨te, hte, h⟩ := tyB_out h
    cases x with
    | slice a n d =>
      cases a with
      | none =>
        obtain ⟨rfl, rfl, rfl⟩ := hx.slc_nil
        dsimp only at h
        obtain ⟨l, h', e1, e2, h3, h4, h5⟩ := slB_out h
        refine tyK_in hte (sl4 hl hh ?_)
        refine ⟨⟨l, h', e1, e2, h3, h4, ?_⟩⟩
        obtain rfl : h' = 0 := by omega
        obtain rfl : l = 0 := by omega
        exact hK _ _ h5 (.same rfl)
      | some a =>
        cases he : isE a with
        | true => simp only [he] at h; cases h
        | false =>
          simp only [he] at h
          obtain ⟨b, c, cap, hι, ha, hdn, rfl, hre⟩ := hx.slc_gen he
          obtain ⟨l, h', e1, e2, h3, h4, h5⟩ := slB_out h
          refine tyK_in hte (sl4 hl hh ?_)
          refine ⟨⟨l, h', e1, e2, h3, by omega, ?_⟩⟩
          cases l with
          | zero =>
            have e : (if cap = 0 then some (⟨b, a.off, none⟩ : Addr) else (some (⟨b, a.off, none⟩ : Addr)).map (·.add (scale 0 te.size))) = some ⟨b, a.off, none⟩ := by
              split
              · rfl
              · rw [Option.map_some, scale_eq, Nat.zero_mul, add_at]; rfl
            rw [e]
            refine hK _ _ h5 ?_
            have := hre 0 h' a.off (by omega)
            rw [Nat.add_zero] at this
            rw [ha]
            exact this
          | succ l =>
            dsimp only at h5
            cases hb : Nat.blt (Nat.succ l) h' with
            | true =>
              have hlt : l + 1 < h' := by simpa [Nat.blt_eq] using hb
              rw [hb] at h5
              simp only [fN_eq] at h5
              rw [if_neg (by omega), Option.map_some, scale_eq, add_at]
              exact hK _ _ h5 (hre (l + 1) (h' - (l + 1)) _ (by omega))
            | false =>
              have hlt : ¬ l + 1 < h' := by intro hc; have : Nat.blt (l + 1) h' = true := by simpa [Nat.blt_eq] using hc
                                            rw [this] at hb; cases hb
              rw [hb] at h5
              obtain rfl : h' = l + 1 := by omega
              rw [Nat.sub_self]
              split
              · exact hK _ _ h5 .emp
              · exact hK _ _ h5 .emp
    | _ => cases h
  | str =>
    rw [hd] at h
    cases x with
    | string s =>
      have e1 := hx.str
      subst e1
      have hs : s.data.toList.length = s.size := Array.length_toList
      dsimp only at h
      rw [hs] at h
      obtain ⟨l, h', e1, e2, h3, h4, h5⟩ := slB_out h
      dsimp only
      refine sl4 hl hh ?_
      refine ⟨⟨l, h', e1, e2, h3, h4, ?_⟩⟩
      rw [bsL_eq] at h5
      exact hK _ _ h5 (.same rfl)
    | _ => cases h
  | _ => rw [hd] at h; cases h
theorem lenB_ok {o : Oper} {ρ : Operand → Value} {t : Nat} {ats : List Nat} {x x' : Value} {xs : List Value} {k : KV} {K : Value → Prop} (hx : VR ι x x') (h : lenB t x k = true) (hK : ∀ v v', k v = true → VR ι v v' → K v') : evLen Tryz.prog X o ρ (t :: ats) (x' :: xs) K := by
  obtain ⟨ti, ht, h⟩ := tyB_out h
  unfold evLen
  refine tyK_in ht ?_
  cases hd : ti.d with
  | slice el =>
    rw [hd] at h
    cases x with
    | slice a n d =>
      obtain ⟨a', c', rfl, -⟩ := hx.slc_any
      exact hK _ _ h (.same rfl)
    | _ => cases h
  | str =>
    rw [hd] at h
    cases x with
    | string s =>
      have e1 := hx.str
      subst e1
      have hs : s.data.toList.length = s.size := Array.length_toList
      dsimp only at h
      rw [fN_eq, hs] at h
      exact hK _ _ h (.same rfl)
    | _ => cases h
  | array n el =>
    rw [hd] at h
    exact hK _ _ h (.same rfl)
  | _ => rw [hd] at h; cases h
theorem aU_ok {o : Oper} {op : Op} (ho : o.op = op) (hG : Gl ι) (hE : ER ι N ae e) {k : KV} {K : Value → Prop} (h : aU N op ae k = true) (hK : ∀ v v', k v = true → VR ι v v' → K v') : evU Tryz.prog X N o e K := by
  unfold evU
  rw [ho]
  cases op with
  | move x => obtain ⟨v, h1, h2⟩ := ardK_out hG hE h; exact hK _ _ h1 h2
  | assign x => obtain ⟨v, h1, h2⟩ := ardK_out hG hE h; exact hK _ _ h1 h2
  | pick c a b =>
    obtain ⟨v, h1, h2⟩ := ardK_out hG hE h
    cases v with
    | bool c =>
      dsimp only
      rw [h2.bool]
      cases c with
      | true => obtain ⟨u, h3, h4⟩ := ardK_out hG hE h1; exact .tt (hK _ _ h3 h4)
      | false => obtain ⟨u, h3, h4⟩ := ardK_out hG hE h1; exact .ff (hK _ _ h3 h4)
    | _ => cases h1
  | build t parts =>
    obtain ⟨vs, h1, h2⟩ := ardP_out hG hE h
    dsimp only
    rw [forceP_eq]
    exact buildB_ok h1 h2 hK
  | binOp op t x y yt =>
    obtain ⟨u, h1, h2⟩ := ardK_out hG hE h
    obtain ⟨v, h3, h4⟩ := ardK_out hG hE h1
    exact binB_ok ho rfl rfl h2 h4 h3 hK
  | unOp op t x =>
    obtain ⟨u, h1, h2⟩ := ardK_out hG hE h
    dsimp only
    cases op with
    | not =>
      cases u with
      | bool b => rw [h2.bool]; dsimp only at h1; rw [fB_eq] at h1; exact hK _ _ h1 (.same rfl)
      | _ => cases h1
    | neg =>
      cases u with
      | int kd n => rw [h2.int]; dsimp only at h1; rw [wrK_eq] at h1; exact ⟨hK _ _ h1 (.same rfl)⟩
      | _ => cases h1
    | xor =>
      cases u with
      | int kd n =>
        rw [h2.int]
        dsimp only at h1 ⊢
        rw [fI_eq] at h1
        refine ⟨?_⟩
        cases hs : kd.signed with
        | true => rw [hs] at h1; exact hK _ _ h1 (.same rfl)
        | false => rw [hs] at h1; exact hK _ _ h1 (.same rfl)
      | _ => cases h1
    | _ => cases u <;> cases h1
  | convert src dst x =>
    obtain ⟨ts, hts, h⟩ := tyB_out h
    obtain ⟨td, htd, h⟩ := tyB_out h
    obtain ⟨u, h1, h2⟩ := ardK_out hG hE h
    refine tyK_in hts (tyK_in htd ?_)
    cases hd : td.d with
    | int kd =>
      rw [hd] at h1
      cases u with
      | int kd' n => rw [h2.int]; dsimp only at h1; rw [wrK_eq] at h1; exact ⟨hK _ _ h1 (.same rfl)⟩
      | _ => cases h1
    | str =>
      rw [hd] at h1
      cases u with
      | string s => have := h2.str; rw [this]; exact hK _ _ h1 (.same rfl)
      | _ => cases h1
    | _ => rw [hd] at h1; cases h1
  | slice t x lo hi mx =>
    cases mx with
    | some _ => cases h
    | none =>
      obtain ⟨u, h1, h2⟩ := ardK_out hG hE h
      split at h1
      · rename_i a
        split at h1
        case h_2 => cases h1
        obtain ⟨ti, ht, h1⟩ := tyB_out h1
        split at h1
        case h_2 => cases h1
        rename_i n el hd
        obtain ⟨te, hte, h1⟩ := tyB_out h1
        cases hn : Nat.blt 0 n with
        | false => rw [hn] at h1; cases h1
        | true =>
        rw [hn] at h1
        obtain ⟨b, c, h3, h4, h5⟩ := h2.ptr_out
        dsimp only
        unfold evSlice
        refine tyK_in ht ?_
        rw [hd, h5]
        refine UGenReq.arrAll hX ho h5 ht hd hte hn ?_
        rw [add_at]
        exact hK _ _ h1 (.slx h3 (Nat.le_refl _) (Nat.le_refl _))
      · obtain ⟨f, h3, h4⟩ := optI_out hG hE h1
        obtain ⟨g, h5, h6⟩ := optI_out hG hE h3
        exact sliB_ok h2 h4 h6 h5 hK
  | fieldAddr s x f =>
    obtain ⟨ti, ht, h⟩ := tyB_out h
    refine tyK_in ht ?_
    cases hd : ti.d with
    | struct fs =>
      rw [hd] at h
      dsimp only at h ⊢
      cases hl : Ev.look fs f with
      | none => rw [hl] at h; cases h
      | some y =>
        obtain ⟨off, ft⟩ := y
        rw [hl] at h
        obtain ⟨tf, htf, h⟩ := tyB_out h
        refine tyK_in htf ?_
        cases hz : tf.size with
        | zero => rw [hz] at h; cases h
        | succ z =>
          rw [hz] at h
          obtain ⟨u, h1, h2⟩ := ardK_out hG hE h
          cases u with
          | pointer a =>
            cases a with
            | none => cases h1
            | some a =>
              obtain ⟨b, c, h3, h4, h5⟩ := h2.ptr_out
              dsimp only at h1 ⊢
              rw [h5]
              rw [fN_eq] at h1
              refine hK _ _ h1 ?_
              rw [add_at]
              exact .ptr h3
          | _ => cases h1
    | _ => rw [hd] at h; cases h
  | field t x f =>
    obtain ⟨ti, ht, h⟩ := tyB_out h
    refine tyK_in ht ?_
    cases hd : ti.d with
    | struct fs =>
      rw [hd] at h
      dsimp only at h ⊢
      cases hl : Ev.look fs f with
      | none => rw [hl] at h; cases h
      | some y =>
        obtain ⟨off, ft⟩ := y
        rw [hl] at h
        obtain ⟨u, h1, h2⟩ := ardK_out hG hE h
        cases u with
        | agg cs =>
          obtain ⟨l', h3, h4⟩ := h2.agg_out
          dsimp only
          rw [h3]
          exact partB_ok h1 h4 hK
        | _ => cases h1
    | _ => rw [hd] at h; cases h
  | indexAddr t x ix =>
    obtain ⟨ti, ht, h⟩ := tyB_out h
    obtain ⟨u, h1, h2⟩ := ardK_out hG hE h
    obtain ⟨v, h3, h4⟩ := ardK_out hG hE h1
    refine tyK_in ht ?_
    cases v with
    | int kd i =>
      cases i with
      | negSucc _ => cases h3
      | ofNat i =>
        rw [h4.int]
        cases hd : ti.d with
        | slice el =>
          rw [hd] at h3
          cases u with
          | slice a n d =>
            cases a with
            | none => cases h3
            | some a =>
              obtain ⟨te, hte, h3⟩ := tyB_out h3
              cases hb : Nat.blt i n with
              | false => rw [hb] at h3; cases h3
              | true =>
                have hlt : i < n := by simpa [Nat.blt_eq] using hb
                rw [hb] at h3
                simp only [fN_eq] at h3
                have he : isE a = false := by
                  cases he : isE a with
                  | false => rfl
                  | true => obtain ⟨rfl, -⟩ := h2.slc_emp he; omega
                obtain ⟨b, c, cap, hι, ha, hdn, h5, -⟩ := h2.slc_gen he
                rw [h5]
                refine tyK_in hte ⟨⟨i, _, rfl, hlt, rfl, hK _ _ h3 ?_⟩⟩
                rw [scale_eq, add_at]
                exact .ptr hι
          | _ => cases h3
        | array n el =>
          rw [hd] at h3
          cases u with
          | pointer a =>
            cases a with
            | none => cases h3
            | some a =>
              obtain ⟨te, hte, h3⟩ := tyB_out h3
              cases hb : Nat.blt i n with
              | false => rw [hb] at h3; cases h3
              | true =>
                have hlt : i < n := by simpa [Nat.blt_eq] using hb
                rw [hb] at h3
                simp only [fN_eq] at h3
                obtain ⟨b, c, hι, ha, h5⟩ := h2.ptr_out
                rw [h5]
                refine tyK_in hte ⟨⟨i, rfl, hlt, hK _ _ h3 ?_⟩⟩
                rw [scale_eq, add_at]
                exact .ptr hι
          | _ => cases h3
        | _ => rw [hd] at h3; cases h3
    | _ => cases h3
  | index t x ix =>
    obtain ⟨ti, ht, h⟩ := tyB_out h
    obtain ⟨u, h1, h2⟩ := ardK_out hG hE h
    obtain ⟨v, h3, h4⟩ := ardK_out hG hE h1
    refine tyK_in ht ?_
    cases v with
    | int kd i =>
      cases i with
      | negSucc _ => cases h3
      | ofNat i =>
        rw [h4.int]
        cases hd : ti.d with
        | array n el =>
          rw [hd] at h3
          cases u with
          | agg cs =>
            obtain ⟨te, hte, h3⟩ := tyB_out h3
            cases hb : Nat.blt i n with
            | false => rw [hb] at h3; cases h3
            | true =>
              have hlt : i < n := by simpa [Nat.blt_eq] using hb
              rw [hb] at h3
              obtain ⟨l', h5, h6⟩ := h2.agg_out
              rw [h5]
              refine tyK_in hte ⟨⟨i, rfl, hlt, ?_⟩⟩
              rw [scale_eq]
              exact partB_ok h3 h6 hK
          | _ => cases h3
        | str =>
          rw [hd] at h3
          cases u with
          | string s =>
            have e1 := h2.str
            rw [e1]
            dsimp only at h3 ⊢
            cases hl : Ev.look s.data.toList i with
            | none => rw [hl] at h3; cases h3
            | some b =>
              rw [hl] at h3
              simp only [fN_eq] at h3
              rw [look_eq] at hl
              exact ⟨⟨i, b, rfl, by simpa using hl, hK _ _ h3 (.same rfl)⟩⟩
          | _ => cases h3
        | _ => rw [hd] at h3; cases h3
    | _ => cases h3
  | extract t ix =>
    obtain ⟨u, h1, h2⟩ := ardK_out hG hE h
    cases u with
    | tuple vs =>
      obtain ⟨l', h3, h4⟩ := h2.tup_out
      dsimp only
      rw [h3]
      obtain ⟨v, h5, h6⟩ := nth_out h1
      obtain ⟨v', h7, h8⟩ := h4.get h5
      have : Ev.look (toArr l').toList ix = some v' := by rw [look_eq]; simpa [toArr] using h7
      dsimp only
      rw [this]
      exact hK _ _ h6 h8
    | _ => cases h1
  | makeFunc fn a c =>
    obtain ⟨l1, h1, h2⟩ := ardL_out hG hE h
    obtain ⟨l2, h3, h4⟩ := ardL_out hG hE h1
    dsimp only
    rw [forceL_eq, forceL_eq]
    exact hK _ _ h3 (.fn h2 h4)
  | nilCheck x =>
    obtain ⟨u, h1, h2⟩ := ardK_out hG hE h
    cases u with
    | pointer a =>
      cases a with
      | none => cases h1
      | some a =>
        obtain ⟨b, c, h3, h4, h5⟩ := h2.ptr_out
        dsimp only
        rw [h5] at h2 ⊢
        exact hK _ _ h1 h2
    | func f a c =>
      cases f with
      | func f =>
        obtain ⟨a', c', h3, h4, h5⟩ := h2.fn_out
        dsimp only
        rw [h3] at h2 ⊢
        exact hK _ _ h1 h2
      | _ => cases h1
    | _ => cases h1
  | call c =>
    dsimp only at h ⊢
    cases hc : c.callee with
    | builtin b =>
      simp only [aU, hc] at h
      cases b <;> simp only at h <;> first | (cases h; done) | skip
      case len =>
        cases ha : c.argTypes.toList with
        | nil => rw [ha] at h; cases h
        | cons t ats =>
          rw [ha] at h
          cases hx : c.args.toList with
          | nil => rw [hx] at h; cases h
          | cons x xs =>
            rw [hx] at h
            obtain ⟨u, h1, h2⟩ := ardK_out hG hE h
            exact lenB_ok h2 h1 hK
      case max =>
        obtain ⟨l, h1, h2⟩ := ardL_out hG hE h
        generalize rdl N e c.args.toList = r at h2 ⊢
        split at h1
        · rename_i kd x kd2 y
          match r, h2 with
          | [a, b], .cons ha (.cons hb .nil) =>
            rw [ha.int, hb.int]
            rw [iLt_eq] at h1
            refine hK _ _ (?_ : k (.int kd (max x y)) = true) (.same rfl)
            rw [← h1]
            congr 2
            by_cases hlt : x < y
            · rw [decide_eq_true hlt]; simp only; omega
            · rw [decide_eq_false hlt]; simp only; omega
        · cases h1
      case min =>
        obtain ⟨l, h1, h2⟩ := ardL_out hG hE h
        generalize rdl N e c.args.toList = r at h2 ⊢
        split at h1
        · rename_i kd x kd2 y
          match r, h2 with
          | [a, b], .cons ha (.cons hb .nil) =>
            rw [ha.int, hb.int]
            rw [iLt_eq] at h1
            refine hK _ _ (?_ : k (.int kd (min x y)) = true) (.same rfl)
            rw [← h1]
            congr 2
            by_cases hlt : y < x
            · rw [decide_eq_true hlt]; simp only; omega
            · rw [decide_eq_false hlt]; simp only; omega
        · cases h1
    | _ => simp only [aU, hc] at h; cases h
  | _ => cases h
end
end Go.Proofs.YtloofgoblodeiaaGreatDoor.am
namespace Go.Proofs.YtloofgoblodeiaaGreatDoor.am
open Go Go.Ev Go.Proofs.YtloofgoblodeiaaGreatDoor.co
noncomputable section
structure Cf where
  ι : At
  nx : Nat
  M : Mm
  m : Mem
  L : Own
  w : World
def AB.st : AB → Nat
  | .cs _ _ _ _ st => st
  | .mp _ _ st => st
  | .gl _ st => st
def AB.own : AB → Bool
  | .gl _ _ => false
  | _ => true
inductive MR (ι : At) : List (Value × Value) → List (Value × Value) → Prop
  | nil : MR ι [] []
  | cons {key v v' : Value} {l l' : List (Value × Value)} : flatV key = true → VR ι v v' → MR ι l l' → MR ι ((key, v) :: l) ((key, v') :: l')
theorem MR.mono {ι ι' : At} (h : At.le ι ι') : ∀ {l l' : List (Value × Value)}, MR ι l l' → MR ι' l l'
  | _, _, .nil => .nil
  | _, _, .cons h1 h2 h3 => .cons h1 (h2.mono h) (h3.mono h)
inductive AR (ι : At) (c : Nat) : AB → Obj → Prop
  | cs {ty sz : Nat} {cells pre rest : List Value} {opn : Bool} {st : Nat} : VRL ι cells pre → (opn = false → rest = []) → (pre ++ rest).length = c * sz → c ≤ maxLen → AR ι c (.cs ty sz cells opn st) (.cells (toArr (pre ++ rest)) ty (0, 0))
  | mp {kt : Nat} {l l' : List (Value × Value)} {st : Nat} : MR ι l l' → (∀ x ∈ l', IsK Tryz.prog kt x.1) → isIn kt keyTs = true → (l'.map (·.1)).Nodup → AR ι c (.mp kt l st) (mapW l')
  | gl {ty : Nat} {fz : Nat × Nat} {cells pre rest : List Value} {st : Nat} : VRL ι cells pre → AR ι c (.gl cells st) (.cells (toArr (pre ++ rest)) ty fz)
theorem AR.mono {ι ι' : At} (h : At.le ι ι') {c : Nat} {ab : AB} {o : Obj} (k : AR ι c ab o) : AR ι' c ab o := by
  cases k with
  | cs h1 h2 h3 h4 => exact .cs (h1.mono h) h2 h3 h4
  | mp h1 h2 h3 h4 => exact .mp (h1.mono h) h2 h3 h4
  | gl h1 => exact .gl (h1.mono h)
def Holds (c : Cf) (ab : AB) (b : Nat) (o : Obj) : Prop := match ab.own with | true => (b, o) ∈ c.L | false => c.m b = some o
structure Ok (m0 : Mem) (S : List Nat) (w0 : World) (c : Cf) : Prop where
  gl : Gl c.ι
  n16 : 16 ≤ c.nx
  fresh : ∀ i, c.nx ≤ i → c.ι i = none
  loc : Ev.Loc m0 S w0 c.m c.L c.w
  blk : ∀ i ab, c.M.get (pth i) = some ab → ab.st < c.nx ∧ ∃ b k o, c.ι i = some (b, k) ∧ AR c.ι k ab o ∧ Holds c ab b o
  inj : ∀ i j ab ab' b k k', c.M.get (pth i) = some ab → ab.own = true → c.M.get (pth j) = some ab' → ab'.own = true → c.ι i = some (b, k) → c.ι j = some (b, k') → i = j
structure To (c c' : Cf) : Prop where
  le : At.le c.ι c'.ι
  nx : c.nx ≤ c'.nx
  m : Mem.Le c.m c'.m
  same : ∀ i ab, c'.M.get (pth i) = some ab → ab.st < c.nx → c.M.get (pth i) = some ab ∧ ∀ b k, c.ι i = some (b, k) → c'.w.heap[b]? = c.w.heap[b]?
theorem To.refl (c : Cf) : To c c := ⟨At.le.refl _, Nat.le_refl _, Mem.Le.refl _, fun _ _ h _ => ⟨h, fun _ _ _ => rfl⟩⟩
theorem To.trans {a b c : Cf} (h : To a b) (k : To b c) : To a c :=
  ⟨h.le.trans k.le, Nat.le_trans h.nx k.nx, h.m.trans k.m, fun i ab h1 h2 => by
    obtain ⟨h3, h4⟩ := k.same i ab h1 (Nat.lt_of_lt_of_le h2 h.nx)
    obtain ⟨h5, h6⟩ := h.same i ab h3 h2
    exact ⟨h5, fun x y hx => (h4 x y (h.le _ _ hx)).trans (h6 x y hx)⟩⟩
section
variable {m0 : Mem} {S : List Nat} {w0 : World} {c : Cf} {N : Nat} {ae : T Value} {e : Env}
theorem Ok.heap (h : Ok m0 S w0 c) {ab : AB} {b : Nat} {o : Obj} (hh : Holds c ab b o) : c.w.heap[b]? = some o := by
  unfold Holds at hh
  cases ho : ab.own with
  | true => rw [ho] at hh; exact h.loc.own _ hh
  | false => rw [ho] at hh; exact h.loc.sub _ _ hh
theorem Ok.turn (h : Ok m0 S w0 c) {c' : Cf} (hle : At.le c.ι c'.ι) (hnx : c.nx < c'.nx) (hfresh : ∀ i, c'.nx ≤ i → c'.ι i = none) (hm : Mem.Le c.m c'.m) (hL : Ev.Loc m0 S w0 c'.m c'.L c'.w)
    (j d : Nat) (ab' : AB) (b' k' : Nat) (o' : Obj) (hj : c'.ι j = some (b', k')) (hAR : AR c'.ι k' ab' o') (hst : ab'.st = c.nx) (hH : Holds c' ab' b' o')
    (hget : ∀ i, c'.M.get (pth i) = if i = j then some ab' else if i = d then none else c.M.get (pth i))
    (hkeep : ∀ i ab b k o, i ≠ j → i ≠ d → c.M.get (pth i) = some ab → ab.own = true → c.ι i = some (b, k) → (b, o) ∈ c.L → (b, o) ∈ c'.L)
    (hinj : ab'.own = true → ∀ i ab k, i ≠ j → i ≠ d → c.M.get (pth i) = some ab → ab.own = true → c.ι i = some (b', k) → False) : Ok m0 S w0 c' ∧ To c c' := by
  have hold : ∀ i ab, i ≠ j → i ≠ d → c.M.get (pth i) = some ab → ∃ b k o, c.ι i = some (b, k) ∧ AR c.ι k ab o ∧ Holds c ab b o ∧ Holds c' ab b o := fun i ab h1 h2 h3 => by
    obtain ⟨-, b, k, o, h5, h6, h7⟩ := h.blk i ab h3
    refine ⟨b, k, o, h5, h6, h7, ?_⟩
    unfold Holds at h7 ⊢
    cases ho : ab.own with
    | true => rw [ho] at h7; exact hkeep i ab b k o h1 h2 h3 ho h5 h7
    | false => rw [ho] at h7; exact hm _ _ h7
  have hok : Ok m0 S w0 c' := by
    refine ⟨fun g hg => hle _ _ (h.gl g hg), by have := h.n16; omega, hfresh, hL, fun i ab hi => ?_, fun i i2 ab ab2 b k k2 h1 h2 h3 h4 h5 h6 => ?_⟩
    · rw [hget] at hi
      by_cases hij : i = j
      · rw [if_pos hij] at hi
        injection hi with hi
        subst hi hij
        exact ⟨by omega, b', k', o', hj, hAR, hH⟩
      · rw [if_neg hij] at hi
        by_cases hid : i = d
        · rw [if_pos hid] at hi; cases hi
        · rw [if_neg hid] at hi
          obtain ⟨b, k, o, h1, h2, -, h3⟩ := hold i ab hij hid hi
          exact ⟨by have := (h.blk i ab hi).1; omega, b, k, o, hle _ _ h1, h2.mono hle, h3⟩
    · rw [hget] at h1 h3
      by_cases e1 : i = j
      · by_cases e2 : i2 = j
        · rw [e1, e2]
        · exfalso
          rw [if_neg e2] at h3
          by_cases e3 : i2 = d
          · rw [if_pos e3] at h3; cases h3
          · rw [if_neg e3] at h3
            rw [if_pos e1] at h1
            injection h1 with h1
            subst h1
            subst e1
            rw [hj] at h5
            injection h5 with h5
            injection h5 with h5 _
            subst h5
            obtain ⟨b3, k3, o3, g1, -, -, -⟩ := hold i2 ab2 e2 e3 h3
            have := hle _ _ g1
            rw [h6] at this
            injection this with this
            injection this with this _
            subst this
            exact hinj h2 i2 ab2 k3 e2 e3 h3 h4 g1
      · rw [if_neg e1] at h1
        by_cases e3 : i = d
        · rw [if_pos e3] at h1; cases h1
        · rw [if_neg e3] at h1
          obtain ⟨b3, k3, o3, g1, -, -, -⟩ := hold i ab e1 e3 h1
          have := hle _ _ g1
          rw [h5] at this
          injection this with this
          injection this with this _
          subst this
          by_cases e2 : i2 = j
          · exfalso
            rw [if_pos e2] at h3
            injection h3 with h3
            subst h3 e2
            rw [hj] at h6
            injection h6 with h6
            injection h6 with h6 _
            subst h6
            exact hinj h4 i ab k3 e1 e3 h1 h2 g1
          · rw [if_neg e2] at h3
            by_cases e4 : i2 = d
            · rw [if_pos e4] at h3; cases h3
            · rw [if_neg e4] at h3
              obtain ⟨b4, k4, o4, g2, -, -, -⟩ := hold i2 ab2 e2 e4 h3
              have := hle _ _ g2
              rw [h6] at this
              injection this with this
              injection this with this _
              subst this
              exact h.inj i i2 ab ab2 _ k3 k4 h1 h2 h3 h4 g1 g2
  refine ⟨hok, hle, by omega, hm, fun i ab hi hlt => ?_⟩
  rw [hget] at hi
  by_cases hij : i = j
  · rw [if_pos hij] at hi
    injection hi with hi
    subst hi
    omega
  · rw [if_neg hij] at hi
    by_cases hid : i = d
    · rw [if_pos hid] at hi; cases hi
    · rw [if_neg hid] at hi
      refine ⟨hi, fun b k hb => ?_⟩
      obtain ⟨b2, k2, o, h1, -, h2, h3⟩ := hold i ab hij hid hi
      rw [hb] at h1
      injection h1 with h1
      injection h1 with h1 _
      subst h1
      rw [h.heap h2, hok.heap h3]
def upd (ι : At) (j : Nat) (x : Nat × Nat) : At := fun i => if i = j then some x else ι i
theorem Ok.upd_le (h : Ok m0 S w0 c) (x : Nat × Nat) : At.le c.ι (upd c.ι c.nx x) := fun i y hy => by
  unfold upd
  split
  · rename_i e; rw [e, h.fresh _ (Nat.le_refl _)] at hy; cases hy
  · exact hy
theorem Ok.new (h : Ok m0 S w0 c) {ab : AB} {b k : Nat} {o : Obj} {w' : World} {m' : Mem} (hm : Mem.Le c.m m') (hL : Ev.Loc m0 S w0 m' ((b, o) :: c.L) w') (hAR : AR (upd c.ι c.nx (b, k)) k ab o) (hst : ab.st = c.nx) (ho : ab.own = true) :
    let c' : Cf := ⟨upd c.ι c.nx (b, k), c.nx + 1, T.put (pth c.nx) c.M (some ab), m', (b, o) :: c.L, w'⟩
    Ok m0 S w0 c' ∧ To c c' := by
  intro c'
  refine h.turn (c' := c') (h.upd_le _) (Nat.lt_succ_self _) (fun i hi => ?_) hm hL c.nx c.nx ab b k o ?_ hAR hst ?_ (fun i => ?_) (fun i ab b k o h1 h2 h3 h4 h5 h6 => List.mem_cons_of_mem _ h6) (fun _ i ab k h1 h2 h3 h4 h5 => ?_)
  · show upd c.ι c.nx (b, k) i = none
    have hi : c.nx + 1 ≤ i := hi
    unfold upd
    rw [if_neg (by omega)]
    exact h.fresh i (by omega)
  · show upd c.ι c.nx (b, k) c.nx = _
    unfold upd
    rw [if_pos rfl]
  · unfold Holds; rw [ho]; exact List.mem_cons_self
  · show T.get (T.put (pth c.nx) c.M (some ab)) (pth i) = _
    rw [get_putN]
    by_cases hi : i = c.nx
    · rw [if_pos hi, if_pos hi]
    · rw [if_neg hi, if_neg hi, if_neg hi]
  · obtain ⟨-, b2, k2, o2, h6, h7, h8⟩ := h.blk i ab h3
    rw [h5] at h6
    injection h6 with h6
    injection h6 with h6 _
    subst h6
    unfold Holds at h8
    rw [h4] at h8
    have hn := hL.nodup
    simp only [keys, List.nodup_cons] at hn
    exact hn.1 (mem_keys.2 ⟨_, h8⟩)
theorem mem_lies {L : Own} {b : Nat} {o : Obj} (h : (b, o) ∈ L) : Lies L b o := by
  induction L with
  | nil => cases h
  | cons x L ih =>
    rcases List.mem_cons.1 h with rfl | h
    · exact .h
    · exact .t (ih h)
theorem mem_sets {L : Own} {b : Nat} {o : Obj} (o' : Obj) (h : (b, o) ∈ L) : ∃ L', Sets L b o o' L' := by
  induction L with
  | nil => cases h
  | cons x L ih =>
    rcases List.mem_cons.1 h with rfl | h
    · exact ⟨_, .h⟩
    · obtain ⟨L', hl⟩ := ih h; exact ⟨_, .t hl⟩
theorem sets_mem {L L' : Own} {b : Nat} {o o' : Obj} (h : Sets L b o o' L') : (b, o') ∈ L' ∧ ∀ x ∈ L, x.1 ≠ b → x ∈ L' := by
  induction h with
  | h => exact ⟨List.mem_cons_self, fun x hx hne => by
      rcases List.mem_cons.1 hx with rfl | hx
      · exact absurd rfl hne
      · exact List.mem_cons_of_mem _ hx⟩
  | t _ ih => exact ⟨List.mem_cons_of_mem _ ih.1, fun x hx hne => by
      rcases List.mem_cons.1 hx with rfl | hx
      · exact List.mem_cons_self
      · exact List.mem_cons_of_mem _ (ih.2 x hx hne)⟩
theorem Ok.set (h : Ok m0 S w0 c) {i : Nat} {ab ab' : AB} {b k : Nat} {o o' : Obj} {L' : Own} {w' : World} (hi : c.M.get (pth i) = some ab) (hown : ab.own = true) (hb : c.ι i = some (b, k)) (hs : Sets c.L b o o' L')
    (hL : Ev.Loc m0 S w0 c.m L' w') (hAR : AR c.ι k ab' o') (hst : ab'.st = c.nx) (ho : ab'.own = true) :
    let c' : Cf := ⟨c.ι, c.nx + 1, T.put (pth i) c.M (some ab'), c.m, L', w'⟩
    Ok m0 S w0 c' ∧ To c c' := by
  intro c'
  refine h.turn (c' := c') (At.le.refl _) (Nat.lt_succ_self _) (fun j hj => h.fresh j (by have : c.nx + 1 ≤ j := hj; omega)) (Mem.Le.refl _) hL i i ab' b k o' hb hAR hst ?_ (fun j => ?_) (fun j ab2 b2 k2 o2 h1 h2 h3 h4 h5 h6 => ?_) (fun _ j ab2 k2 h1 h2 h3 h4 h5 => ?_)
  · unfold Holds; rw [ho]; exact (sets_mem hs).1
  · show T.get (T.put (pth i) c.M (some ab')) (pth j) = _
    rw [get_putN]
    by_cases hj : j = i
    · rw [if_pos hj, if_pos hj]
    · rw [if_neg hj, if_neg hj, if_neg hj]
  · refine (sets_mem hs).2 _ h6 fun hc => ?_
    dsimp only at hc
    subst hc
    exact h1 (h.inj j i ab2 ab _ k2 k h3 h4 hi hown h5 hb)
  · exact h1 (h.inj j i ab2 ab _ k2 k h3 h4 hi hown h5 hb)
theorem mem_out {L : Own} {x : Nat × Obj} (h : x ∈ L) : ∃ L2, L.Perm (x :: L2) := by
  obtain ⟨a, b, rfl⟩ := List.append_of_mem h
  exact ⟨a ++ b, List.perm_middle⟩
theorem Ok.swap (h : Ok m0 S w0 c) {i : Nat} {ab ab' : AB} {b k g kN : Nat} {o o' : Obj} {L2 : Own} {w' : World} (hi : c.M.get (pth i) = some ab) (hown : ab.own = true) (hb : c.ι i = some (b, k)) (hP : c.L.Perm ((b, o) :: L2))
    (hL : Ev.Loc m0 S w0 c.m ((g, o') :: L2) w') (hAR : AR (upd c.ι c.nx (g, kN)) kN ab' o') (hst : ab'.st = c.nx) (ho : ab'.own = true) :
    let c' : Cf := ⟨upd c.ι c.nx (g, kN), c.nx + 1, T.put (pth c.nx) (T.put (pth i) c.M none) (some ab'), c.m, (g, o') :: L2, w'⟩
    Ok m0 S w0 c' ∧ To c c' := by
  intro c'
  have hn := (hP.map Prod.fst).nodup_iff.1 (by have := h.loc.nodup; rwa [keys_map] at this)
  simp only [List.map_cons, List.nodup_cons] at hn
  have hkeep : ∀ j ab2 b2 k2 o2, j ≠ i → c.M.get (pth j) = some ab2 → ab2.own = true → c.ι j = some (b2, k2) → (b2, o2) ∈ c.L → (b2, o2) ∈ L2 := fun j ab2 b2 k2 o2 h2 h3 h4 h5 h6 => by
    rcases List.mem_cons.1 (hP.subset h6) with e | e
    · injection e with e _
      subst e
      exact absurd (h.inj j i ab2 ab _ k2 k h3 h4 hi hown h5 hb) h2
    · exact e
  refine h.turn (c' := c') (h.upd_le _) (Nat.lt_succ_self _) (fun j hj => ?_) (Mem.Le.refl _) hL c.nx i ab' g kN o' ?_ hAR hst ?_ (fun j => ?_) (fun j ab2 b2 k2 o2 h1 h2 h3 h4 h5 h6 => List.mem_cons_of_mem _ (hkeep j ab2 b2 k2 o2 h2 h3 h4 h5 h6)) (fun _ j ab2 k2 h1 h2 h3 h4 h5 => ?_)
  · show upd c.ι c.nx (g, kN) j = none
    have hj : c.nx + 1 ≤ j := hj
    unfold upd
    rw [if_neg (by omega)]
    exact h.fresh j (by omega)
  · show upd c.ι c.nx (g, kN) c.nx = _
    unfold upd
    rw [if_pos rfl]
  · unfold Holds; rw [ho]; exact List.mem_cons_self
  · show T.get (T.put (pth c.nx) (T.put (pth i) c.M none) (some ab')) (pth j) = _
    rw [get_putN, get_putN]
  · obtain ⟨-, b2, k3, o2, h6, h7, h8⟩ := h.blk j ab2 h3
    rw [h5] at h6
    injection h6 with h6
    injection h6 with h6 _
    subst h6
    unfold Holds at h8
    rw [h4] at h8
    have h9 := hkeep j ab2 _ k2 o2 h2 h3 h4 h5 h8
    have hn2 := hL.nodup
    simp only [keys, List.nodup_cons] at hn2
    exact hn2.1 (mem_keys.2 ⟨_, h9⟩)
theorem Ok.move (h : Ok m0 S w0 c) {m' : Mem} {L' : Own} {w' : World} (hm : Mem.Le c.m m') (hL : Ev.Loc m0 S w0 m' L' w') (hkeep : ∀ i ab b k o, c.M.get (pth i) = some ab → ab.own = true → c.ι i = some (b, k) → (b, o) ∈ c.L → (b, o) ∈ L') :
    let c' : Cf := ⟨c.ι, c.nx, c.M, m', L', w'⟩
    Ok m0 S w0 c' ∧ To c c' := by
  intro c'
  have hold : ∀ i ab, c.M.get (pth i) = some ab → ∃ b k o, c.ι i = some (b, k) ∧ AR c.ι k ab o ∧ Holds c ab b o ∧ Holds c' ab b o := fun i ab h3 => by
    obtain ⟨-, b, k, o, h5, h6, h7⟩ := h.blk i ab h3
    refine ⟨b, k, o, h5, h6, h7, ?_⟩
    unfold Holds at h7 ⊢
    cases ho : ab.own with
    | true => rw [ho] at h7; exact hkeep i ab b k o h3 ho h5 h7
    | false => rw [ho] at h7; exact hm _ _ h7
  have hok : Ok m0 S w0 c' := ⟨h.gl, h.n16, h.fresh, hL, fun i ab hi => by
    obtain ⟨b, k, o, h1, h2, -, h3⟩ := hold i ab hi
    exact ⟨(h.blk i ab hi).1, b, k, o, h1, h2, h3⟩, h.inj⟩
  refine ⟨hok, At.le.refl _, Nat.le_refl _, hm, fun i ab hi _ => ⟨hi, fun b k hb => ?_⟩⟩
  obtain ⟨b2, k2, o, h1, -, h2, h3⟩ := hold i ab hi
  rw [hb] at h1
  injection h1 with h1
  injection h1 with h1 _
  subst h1
  rw [h.heap h2]
  exact hok.heap h3
theorem Ok.forget (h : Ok m0 S w0 c) (i : Nat) :
    let c' : Cf := ⟨c.ι, c.nx, T.put (pth i) c.M none, c.m, c.L, c.w⟩
    Ok m0 S w0 c' ∧ To c c' := by
  intro c'
  have hg : ∀ j ab, c'.M.get (pth j) = some ab → c.M.get (pth j) = some ab := fun j ab hj => by
    have hj : T.get (T.put (pth i) c.M none) (pth j) = some ab := hj
    rw [get_putN] at hj
    split at hj
    · cases hj
    · exact hj
  exact ⟨⟨h.gl, h.n16, h.fresh, h.loc, fun j ab hj => h.blk j ab (hg j ab hj), fun j j2 ab ab2 b k k2 h1 h2 h3 h4 => h.inj j j2 ab ab2 b k k2 (hg _ _ h1) h2 (hg _ _ h3) h4⟩,
    At.le.refl _, Nat.le_refl _, Mem.Le.refl _, fun j ab hj _ => ⟨hg j ab hj, fun _ _ _ => rfl⟩⟩
theorem Ok.adopt (h : Ok m0 S w0 c) {ab : AB} {b k : Nat} {o : Obj} (hb : (b, o) ∈ c.L) (hAR : AR (upd c.ι c.nx (b, k)) k ab o) (hst : ab.st = c.nx) (ho : ab.own = true)
    (hno : ∀ i ab k, c.M.get (pth i) = some ab → ab.own = true → c.ι i = some (b, k) → False) :
    let c' : Cf := ⟨upd c.ι c.nx (b, k), c.nx + 1, T.put (pth c.nx) c.M (some ab), c.m, c.L, c.w⟩
    Ok m0 S w0 c' ∧ To c c' := by
  intro c'
  refine h.turn (c' := c') (h.upd_le _) (Nat.lt_succ_self _) (fun i hi => ?_) (Mem.Le.refl _) h.loc c.nx c.nx ab b k o ?_ hAR hst ?_ (fun i => ?_) (fun i ab b k o h1 h2 h3 h4 h5 h6 => h6) (fun _ i ab k h1 h2 h3 h4 h5 => hno i ab k h3 h4 h5)
  · show upd c.ι c.nx (b, k) i = none
    have hi : c.nx + 1 ≤ i := hi
    unfold upd
    rw [if_neg (by omega)]
    exact h.fresh i (by omega)
  · show upd c.ι c.nx (b, k) c.nx = _
    unfold upd
    rw [if_pos rfl]
  · unfold Holds; rw [ho]; exact hb
  · show T.get (T.put (pth c.nx) c.M (some ab)) (pth i) = _
    rw [get_putN]
    by_cases hi : i = c.nx
    · rw [if_pos hi, if_pos hi]
    · rw [if_neg hi, if_neg hi, if_neg hi]
theorem Ok.readopt (h : Ok m0 S w0 c) {j : Nat} {ab : AB} {b k : Nat} {o : Obj} (hj : c.ι j = some (b, k)) (hb : (b, o) ∈ c.L) (hAR : AR c.ι k ab o) (hst : ab.st = c.nx) (ho : ab.own = true)
    (hno : ∀ i ab k, i ≠ j → c.M.get (pth i) = some ab → ab.own = true → c.ι i = some (b, k) → False) :
    let c' : Cf := ⟨c.ι, c.nx + 1, T.put (pth j) c.M (some ab), c.m, c.L, c.w⟩
    Ok m0 S w0 c' ∧ To c c' := by
  intro c'
  refine h.turn (c' := c') (At.le.refl _) (Nat.lt_succ_self _) (fun i hi => h.fresh i (by have : c.nx + 1 ≤ i := hi; omega)) (Mem.Le.refl _) h.loc j j ab b k o hj hAR hst ?_ (fun i => ?_) (fun i ab b k o h1 h2 h3 h4 h5 h6 => h6) (fun _ i ab k h1 h2 h3 h4 h5 => hno i ab k h1 h3 h4 h5)
  · unfold Holds; rw [ho]; exact hb
  · show T.get (T.put (pth j) c.M (some ab)) (pth i) = _
    rw [get_putN]
    by_cases hi : i = j
    · rw [if_pos hi, if_pos hi]
    · rw [if_neg hi, if_neg hi, if_neg hi]
end
end
end Go.Proofs.YtloofgoblodeiaaGreatDoor.am
namespace Go.Proofs.YtloofgoblodeiaaGreatDoor.am
open Go Go.Ev Go.Proofs.YtloofgoblodeiaaGreatDoor.co
noncomputable section
theorem kEq_iff (a b : IntKind) : kEq a b = true ↔ a = b := ⟨kEq_eq, fun h => by subst h; cases a <;> rfl⟩
theorem vEq1_iff {a b : Value} (ha : flat1 a = true) (hb : flat1 b = true) : vEq1 a b = true ↔ a = b := by
  unfold flat1 at ha hb
  split at ha <;> split at hb <;> first | (cases ha; done) | (cases hb; done) | skip
  all_goals first
    | (simp [vEq1]; done)
    | skip
  · rename_i ka x _ kb y
    simp only [vEq1, Value.int.injEq]
    cases h : kEq ka kb
    · simp only [Bool.false_eq_true, false_iff, not_and]
      intro hc
      rw [(kEq_iff ka kb).2 hc] at h; cases h
    · simp only [iEq_eq, decide_eq_true_eq]
      exact ⟨fun h2 => ⟨kEq_eq h, h2⟩, fun h2 => h2.2⟩
  · rename_i x y
    simp only [vEq1, Value.string.injEq]
    rw [← ba_eq, Go.MapKept.bytes_beq]
theorem vEqL_iff : ∀ {a b : List Value}, flatL a = true → flatL b = true → (vEqL a b = true ↔ a = b)
  | [], [], _, _ => by simp [vEqL]
  | [], y :: b, _, _ => by simp [vEqL]
  | x :: a, [], _, _ => by simp [vEqL]
  | x :: a, y :: b, ha, hb => by
    have ha : (match flat1 x with | true => flatL a | false => false) = true := ha
    have hb : (match flat1 y with | true => flatL b | false => false) = true := hb
    cases hx : flat1 x with
    | false => rw [hx] at ha; cases ha
    | true =>
      cases hy : flat1 y with
      | false => rw [hy] at hb; cases hb
      | true =>
        rw [hx] at ha
        rw [hy] at hb
        show (match vEq1 x y with | true => vEqL a b | false => false) = true ↔ _
        have h1 := vEq1_iff hx hy
        cases hv : vEq1 x y with
        | false =>
          simp only [Bool.false_eq_true, List.cons.injEq, false_iff, not_and]
          intro hc
          rw [h1.2 hc] at hv; cases hv
        | true => simp only [List.cons.injEq, h1.1 hv, true_and]; exact vEqL_iff ha hb
theorem flatV_1 {v : Value} (h : isAgg1 v = false) : flatV v = flat1 v := by cases v <;> first | rfl | (cases h; done)
theorem vEq_iff {a b : Value} (ha : flatV a = true) (hb : flatV b = true) : vEq a b = true ↔ a = b := by
  cases a with
  | agg x =>
    cases b with
    | agg y =>
      show vEqL x.toList y.toList = true ↔ _
      rw [vEqL_iff ha hb]
      simp only [Value.agg.injEq]
      exact ⟨fun h => Array.ext' h, fun h => by rw [h]⟩
    | _ => simp [vEq]
  | _ =>
    cases b with
    | agg y => simp [vEq]
    | _ => exact vEq1_iff ((flatV_1 rfl).symm.trans ha) ((flatV_1 rfl).symm.trans hb)
section
variable {ι : At}
theorem mapGet_out {key : Value} {k0 : Bool} {k1 : KV} (hf : flatV key = true) : ∀ {l l' : List (Value × Value)}, MR ι l l' → (l'.map (·.1)).Nodup → mapGet l key k0 k1 = true →
    (k0 = true ∧ ∀ x ∈ l', x.1 ≠ key) ∨ ∃ v v', k1 v = true ∧ VR ι v v' ∧ (key, v') ∈ l' ∧ ∀ u, (key, u) ∈ l' → u = v'
  | _, _, .nil, _, h => .inl ⟨h, fun x hx => by cases hx⟩
  | _, _, .cons (key := key2) (v := v) (v' := v') (l := l) (l' := l') h1 h2 h3, hn, h => by
    have h : (match vEq key2 key with | true => k1 v | false => mapGet l key k0 k1) = true := h
    simp only [List.map_cons, List.nodup_cons] at hn
    cases he : vEq key2 key with
    | true =>
      rw [he] at h
      have e := (vEq_iff h1 hf).1 he
      subst e
      refine .inr ⟨v, v', h, h2, List.mem_cons_self, fun u hu => ?_⟩
      rcases List.mem_cons.1 hu with hu | hu
      · injection hu
      · exact absurd (List.mem_map.2 ⟨_, hu, rfl⟩) hn.1
    | false =>
      rw [he] at h
      have hne : key2 ≠ key := fun hc => by rw [(vEq_iff h1 hf).2 hc] at he; cases he
      rcases mapGet_out hf h3 hn.2 h with ⟨h4, h5⟩ | ⟨w, w', h4, h5, h6, h7⟩
      · refine .inl ⟨h4, fun x hx => ?_⟩
        rcases List.mem_cons.1 hx with rfl | hx
        · exact hne
        · exact h5 x hx
      · refine .inr ⟨w, w', h4, h5, List.mem_cons_of_mem _ h6, fun u hu => ?_⟩
        rcases List.mem_cons.1 hu with hu | hu
        · injection hu with hu _; exact absurd hu.symm hne
        · exact h7 u hu
theorem mapPut_out {key v v' : Value} (hf : flatV key = true) (hv : VR ι v v') : ∀ {l l' : List (Value × Value)} {kk : List (Value × Value) → Bool}, MR ι l l' → (l'.map (·.1)).Nodup → mapPut l key v kk = true →
    ∃ r, kk r = true ∧ ((∀ x ∈ l', x.1 ≠ key) → MR ι r (l' ++ [(key, v')])) ∧ ∀ q u, l'[q]? = some (key, u) → MR ι r (l'.set q (key, v'))
  | _, _, kk, .nil, _, h => ⟨_, h, fun _ => .cons hf hv .nil, fun q u hq => by simp at hq⟩
  | _, _, kk, .cons (key := key2) (v := w) (v' := w') (l := l) (l' := l') h1 h2 h3, hn, h => by
    have h : (match vEq key2 key with | true => kk ((key, v) :: l) | false => mapPut l key v fun r => kk ((key2, w) :: r)) = true := h
    simp only [List.map_cons, List.nodup_cons] at hn
    cases he : vEq key2 key with
    | true =>
      rw [he] at h
      have e := (vEq_iff h1 hf).1 he
      subst e
      refine ⟨_, h, fun hc => absurd rfl (hc _ List.mem_cons_self), fun q u hq => ?_⟩
      cases q with
      | zero => exact .cons h1 hv h3
      | succ q =>
        have : (key2, u) ∈ l' := List.mem_of_getElem? (by simpa using hq)
        exact absurd (List.mem_map.2 ⟨_, this, rfl⟩) hn.1
    | false =>
      rw [he] at h
      have hne : key2 ≠ key := fun hc => by rw [(vEq_iff h1 hf).2 hc] at he; cases he
      obtain ⟨r, h4, h5, h6⟩ := mapPut_out hf hv h3 hn.2 h
      refine ⟨_, h4, fun hc => .cons h1 h2 (h5 fun x hx => hc x (List.mem_cons_of_mem _ hx)), fun q u hq => ?_⟩
      cases q with
      | zero => simp at hq; exact absurd hq.1 hne
      | succ q => exact .cons h1 h2 (h6 q u (by simpa using hq))
theorem isIn_iff {i : Nat} : ∀ {l : List Nat}, isIn i l = true → i ∈ l
  | [], h => by cases h
  | j :: l, h => by
    have h : (match Nat.beq i j with | true => true | false => isIn i l) = true := h
    cases hb : Nat.beq i j with
    | true => rw [Nat.eq_of_beq_eq_true hb]; exact List.mem_cons_self
    | false => rw [hb] at h; exact List.mem_cons_of_mem _ (isIn_iff h)
end
end
end Go.Proofs.YtloofgoblodeiaaGreatDoor.am
namespace Go.Proofs.YtloofgoblodeiaaGreatDoor.bd
open Go Go.Ev Go.Proofs
def isS (cs : List Value) (s : List UInt8) : Prop := cs = [.string (bs s)]
def jn (sep : List UInt8) : List (List UInt8) → List UInt8
  | [] => []
  | [a] => a
  | a :: b :: r => a ++ sep ++ jn sep (b :: r)
def jnT (sep : List UInt8) (l : List (List UInt8)) : List UInt8 := (l.map fun s => sep ++ s).flatten
theorem jn_cons (sep a : List UInt8) : ∀ (r : List (List UInt8)), jn sep (a :: r) = a ++ jnT sep r
  | [] => by simp [jn, jnT]
  | b :: r => by rw [jn, jn_cons sep b r]; simp [jnT]
def totL (l : List (List UInt8)) : Nat := (l.map List.length).sum
theorem totL_take {l : List (List UInt8)} {j : Nat} (h : j < l.length) : totL (l.take (j + 1)) = totL (l.take j) + l[j].length := by
  rw [List.take_succ_eq_append_getElem h]; unfold totL; rw [List.map_append, List.sum_append]; simp
theorem jnT_take (sep : List UInt8) {l : List (List UInt8)} {j : Nat} (h : j < l.length) : jnT sep (l.take (j + 1)) = jnT sep (l.take j) ++ sep ++ l[j] := by
  rw [List.take_succ_eq_append_getElem h]; unfold jnT; rw [List.map_append, List.flatten_append]; simp
theorem jnT_len (sep : List UInt8) : ∀ (l : List (List UInt8)), (jnT sep l).length = l.length * sep.length + totL l
  | [] => by simp [jnT, totL]
  | a :: l => by
    have := jnT_len sep l
    simp only [jnT, totL, List.map_cons, List.flatten_cons, List.length_append, List.length_cons, List.sum_cons] at this ⊢
    rw [this, Nat.succ_mul]; omega
theorem totL_le : ∀ {l : List (List UInt8)} (j : Nat), totL (l.take j) ≤ totL l
  | [], j => by simp
  | a :: l, 0 => by simp [totL]
  | a :: l, j + 1 => by have := totL_le (l := l) j; simp only [totL, List.take_succ_cons, List.map_cons, List.sum_cons] at this ⊢; omega
theorem tot_one {l : List (List UInt8)} {i : Nat} (h : i < l.length) : l[i].length ≤ totL l := by
  have := totL_take h
  have := totL_le (l := l) (i + 1)
  omega
theorem Sl.one {m : Mem} {A : Option Addr} {n c : Nat} {l : List (List UInt8)} (h : Sl m 1 isS (.slice A n c) l) {i : Nat} (hi : i < l.length) : ∃ a, A = some a ∧ mcell m (a.add (scale i 1)) = some (.string (bs l[i])) := by
  obtain ⟨a, cs, e1, e2, e3, rfl⟩ := Sl.elem h i _ (List.getElem?_eq_getElem hi)
  have := e3 0 _ rfl
  have add0 : ∀ x : Addr, x.add 0 = x := fun x => by cases x; rfl
  rw [add0] at this
  exact ⟨a, e1, this⟩
end Go.Proofs.YtloofgoblodeiaaGreatDoor.bd
namespace Go.Proofs.YtloofgoblodeiaaGreatDoor.bd
open Go Go.Ev Go.Proofs
def bI (l : List UInt8) : List Int := l.map fun b => (b.toNat : Int)
theorem bI_append (a b : List UInt8) : bI (a ++ b) = bI a ++ bI b := by simp [bI]
theorem bI_len (l : List UInt8) : (bI l).length = l.length := by simp [bI]
def bdO (p : Option Addr) (v : Value) : Obj := .cells (toArr [.pointer p, v]) 139 (0, 0)
def Bld (b : Nat) (l : List UInt8) (L : Own) : Prop := ∃ p v L1, L = (b, bdO p v) :: L1 ∧ (p = none ∨ p = some ⟨b, 0, none⟩) ∧ OwnS 5 1 v (ints .u8 (bI l)) L1
section
variable {N : Nat} {m0 m : Mem} {S : List Nat} {w0 w : World} {L : Own}
theorem GenReq.extern {o : Oper} {ρ : Operand → Value} {c : Call} {x : Operand} {g : Nat} {v : Value} {args : List Value} {K : Value → World → Prop} (ho : o.op = .call c) (hc : c.callee = .value x) (hx : ρ x = .func (.func g) #[] #[]) (ha : c.args.toList.map ρ = args)
    (hrun : ∀ w, (callFunc g (toArr args)).run Tryz.prog w = .ok (.value v) w) (h : K v w) : GenReq Tryz.prog o ρ w K := by
  constructor
  unfold OpOk
  have hargs : c.args.map ρ = toArr args := by apply Array.ext'; rw [Array.toList_map, ha]; rfl
  have hex : execOp ρ o = callFunc g (toArr args) := by rw [← hargs]; simp [execOp, ho, resolve, hc, hx, Deferred.ofValue, invoke]
  rw [hex, hrun]
  exact h
theorem run_escape (v : Value) (w : World) : (callFunc 201 (toArr [v])).run Tryz.prog w = .ok (.value v) w := by
  rw [run_callFunc_extern Tryz.func201 (by kernel_rfl) (by kernel_rfl) (by kernel_rfl) (e := Extern.AbiNoEscape.same) (by kernel_rfl), show toArr [v] = #[v] from rfl, Lib.run_noEscape]
  rfl
theorem shape_own {i b : Nat} {cs : List Value} {t : TypeId} {f : Nat × Nat} (hL : Ev.Loc m0 S w0 m L w) (hi : Ev.look L i = some (b, .cells (toArr cs) t f)) : w.shape? b = some (t, cs.length) := by
  rw [look_eq] at hi
  have hm := hL.own _ (List.mem_of_getElem? hi)
  unfold World.shape?
  simp only at hm
  rw [hm]; simp [toArr]
theorem UGenReq.ptrNeSame {o : Oper} {ρ : Operand → Value} {t yt e : Nat} {x y : Operand} {a : Addr} {j : TypeInfo} {K : Value → Prop} (ho : o.op = .binOp .neq t x y yt) (hx : ρ x = .pointer (some a)) (hy : ρ y = .pointer (some a))
    (hu : Tryz.prog.underlying t = some (.pointer e)) (hj : Tryz.prog.info? e = some j) (h : K (.bool false)) : UGenReq Tryz.prog o ρ K := by
  have hex : execOp ρ o = (do pure (.value (← (do eqGuard .neq t x y (.pointer (some a)) (.pointer (some a)); binOp .neq t (.pointer (some a)) (.pointer (some a)) : Sem Value)))) := by simp only [execOp, ho, hx, hy]
  have hg : eqGuard .neq t x y (.pointer (some a)) (.pointer (some a)) = pure () := by simp [eqGuard]
  refine ⟨UOk.of_run _ hex (fun w => ?_) h⟩
  rw [hg]
  have := Lib.run_neq_ptr_same (w := w) a hu hj
  simp only [Sem.run_bind, Sem.run_pure, Result.andThen_ok]
  exact this
end
set_option maxRecDepth 10000 in
theorem copyCheck_fn (m : Mem) (b : Nat) (p : Option Addr) (v : Value) (hp : p = none ∨ p = some ⟨b, 0, none⟩) :
    Ev.Fn Tryz.prog 118 [.pointer (some ⟨b, 0, none⟩)] m [(b, bdO p v)] fun m' L' u => u = .tuple (toArr []) ∧ m' = m ∧ L' = [(b, bdO (some ⟨b, 0, none⟩) v)] := by
  obtain ⟨j, hj, hjs⟩ := Option.map_eq_some_iff.1 (show (Tryz.prog.info? 139).map (·.size) = some 2 by kernel_rfl)
  rcases hp with rfl | rfl
  · refine Fn.enter (N := 20) hX Tryz.func118 rfl rfl (by show _ ≤ _; simp) (fun w0 hL => ?_)
    conv => whnf
    replace hL : Ev.Loc m [b] w0 m [(b, .cells (toArr [.pointer none, v]) 139 (0, 0))] w0 := hL
    conv => whnf
    repeat ((first | refine UGenReq.nilPtr hX rfl rfl rfl rfl rfl ?_ | (refine go1 ?_;try(clear hL;intro w hL))); conv => whnf)
    refine RunReq.mk (Lib.run_to_unsafe (w := w0) ⟨b, 0, none⟩ Tryz.underlying137 Tryz.underlying327 hj (by rw [hjs]; decide) (shape_own hL (i := 0) rfl) (by show (0 : Nat) < 2; omega)) ?_
    conv => whnf
    repeat ((first | refine GenReq.extern (v := .pointer (some ⟨b, 0, none⟩)) rfl rfl rfl rfl (fun w => run_escape _ w) ?_ | (refine go1 ?_;try(clear hL;intro w hL))); conv => whnf)
    refine RunReq.mk (Lib.run_from_unsafe (w := w0) ⟨b, 0, none⟩ Tryz.underlying327 Tryz.underlying137 hj (shape_own hL (i := 0) rfl) (by kernel_rfl)) ?_
    refine go ?_;try(clear hL;intro w hL)
    exact RetReq.mk hL ⟨rfl, rfl, rfl⟩
  · refine Fn.enter (N := 20) hX Tryz.func118 rfl rfl (by show _ ≤ _; simp) (fun w0 hL => ?_)
    conv => whnf
    replace hL : Ev.Loc m [b] w0 m [(b, .cells (toArr [.pointer (some ⟨b, 0, none⟩), v]) 139 (0, 0))] w0 := hL
    conv => whnf
    repeat ((first | refine UGenReq.nilPtr hX rfl rfl rfl rfl rfl ?_ | refine UGenReq.ptrNeSame rfl rfl rfl Tryz.underlying137 hj ?_ | (refine go1 ?_;try(clear hL;intro w hL))); conv => whnf)
    exact RetReq.mk hL ⟨rfl, rfl, rfl⟩
theorem strCells_bI (l : List UInt8) : Lib.strCells ⟨l.toArray⟩ = ints .u8 (bI l) := by
  unfold Lib.strCells ints bI
  rw [List.map_map]; rfl
section
variable {m0 m : Mem} {S : List Nat} {w0 w : World} {L1 L2 : Own}
theorem appendStr {ty : TypeId} {v : Value} {xs : List Value} {l : List UInt8} {K : Value → World → Prop} (hown : OwnS 5 1 v xs L1) (hL : Ev.Loc m0 S w0 m (L1 ++ L2) w) (hl : 0 < l.length) (hb : xs.length + l.length ≤ 1099511627776)
    (h : ∀ A n c L1' w', n = xs.length + l.length → OwnS 5 1 (.slice A n c) (xs ++ ints .u8 (bI l)) L1' → Ev.Loc m0 S w0 m (L1' ++ L2) w' → K (.slice A n c) w') :
    RunReq Tryz.prog (Builtin.append_ #[27, 9] ty (toArr [v, .string ⟨l.toArray⟩])) w K := by
  obtain ⟨i, hi, hz, hs1, hb1⟩ : ∃ i, Tryz.prog.info? 5 = some i ∧ i.zero = some (.int .u8 0) ∧ i.size = 1 ∧ i.bytes = 1 := by
    have g1 : (Tryz.prog.info? 5).bind (·.zero) = some (.int .u8 0) := by kernel_rfl
    have g2 : (Tryz.prog.info? 5).map (·.size) = some 1 := by kernel_rfl
    have g3 : (Tryz.prog.info? 5).map (·.bytes) = some 1 := by kernel_rfl
    cases hi : Tryz.prog.info? 5 with
    | none => rw [hi] at g2; cases g2
    | some i =>
      rw [hi] at g1 g2 g3
      exact ⟨i, rfl, g1, Option.some.inj g2, Option.some.inj g3⟩
  have hsz : (⟨l.toArray⟩ : ByteArray).size = l.length := by show l.toArray.size = _; simp
  have hsc := strCells_bI l
  have harg : toArr [v, .string ⟨l.toArray⟩] = #[v, .string ⟨l.toArray⟩] := rfl
  have hbl : (ints .u8 (bI l)).length = l.length := by simp [ints, bI_len]
  have hzc : ∀ n, (Builtin.zeroCells (Value.int .u8 0).cells n).toList.length = n := fun n => by
    rw [Array.length_toList, size_zeroCells]; show n * 1 = n; omega
  rw [harg]
  obtain ⟨n, hn, ⟨rfl, rfl, rfl⟩ | ⟨g, cap, cur, rfl, rfl, h1, h2, h3, h4⟩⟩ := hown
  · have hx : xs = [] := List.eq_nil_of_length_eq_zero (by omega)
    subst hx
    have hrun := run_append_nil_string (P := Tryz.prog) (w := w) 27 9 ty 5 i (.int .u8 0) Tryz.underlying27 Tryz.underlying9 hi hz ⟨l.toArray⟩ (by omega) (by rw [hsz]; simp at hb; omega) (by rw [hsz, hb1]; simp at hb; omega)
    have hge := grownCap_ge w l.length 0 5
    have hle := grownCap_le_maxLen w l.length 0 5 (by simp at hb; simp only [maxLen]; omega)
    rw [hsz] at hrun
    generalize grownCap w l.length 0 5 = gc at *
    have hcells : ((⟨l.toArray⟩ : ByteArray).data.map (fun b => Value.int .u8 b.toNat) ++ Builtin.zeroCells (Value.int .u8 0).cells (gc - l.length)) = toArr (ints .u8 (bI l) ++ (Builtin.zeroCells (Value.int .u8 0).cells (gc - l.length)).toList) := by
      apply Array.ext'
      rw [Array.toList_append, Array.toList_map]
      simp only [toArr, ints, bI, List.map_map]
      rfl
    refine ⟨_, _, hrun, ?_⟩
    rw [hcells]
    refine h (some ⟨w.heap.size, 0, none⟩) l.length gc [(w.heap.size, _)] _ (by simp) ⟨l.length, by simp [hbl], .inr ⟨w.heap.size, gc, _, rfl, rfl, hge, hle, ?_, ?_⟩⟩ (hL.drew.alloc _)
    · rw [List.length_append, hzc, hbl]; omega
    · rw [Nat.mul_one, List.nil_append, List.take_append_of_le_length (by omega), List.take_of_length_le (by omega)]
  · have hxn : xs.length = n := by omega
    have hg := hL.own (g, .cells (toArr cur) 5 (0, 0)) (by simp)
    have hold : ∀ j u, (cur.take n)[j]? = some u → w.cell? ((⟨g, 0, none⟩ : Addr).add j) = some u := by
      intro j u hu
      rw [addr_add, Nat.zero_add, hL.ownCell (b := g) (i := j) (c := toArr cur) (t := 5) (f := (0, 0)) (by simp)]
      rw [List.getElem?_take] at hu
      split at hu
      · simpa [toArr] using hu
      · cases hu
    rw [Nat.mul_one] at h4
    by_cases hroom : n + l.length ≤ cap
    · have hrun := Lib.run_append_room_string (P := Tryz.prog) w 27 9 ty 5 i Tryz.underlying27 Tryz.underlying9 hi hs1 g n cap (toArr cur) hg ⟨l.toArray⟩ (by rw [hsz]; exact hroom) (by rw [hsz]; simp [toArr]; omega)
      rw [hsz, hsc] at hrun
      have hcur : (toArr cur).toList = cur := by simp [toArr]
      rw [hcur] at hrun
      refine ⟨_, _, hrun, ?_⟩
      have hset := setRow_heap w g (toArr cur) (cur.take n ++ ints .u8 (bI l) ++ cur.drop (n + l.length)).toArray 5 (0, 0) hg
      refine h (some ⟨g, 0, none⟩) (n + l.length) cap [(g, .cells (toArr (cur.take n ++ ints .u8 (bI l) ++ cur.drop (n + l.length))) 5 (0, 0))] _ (by omega) ⟨n + l.length, by rw [List.length_append, hbl]; omega, .inr ⟨g, cap, _, rfl, rfl, hroom, h2, ?_, ?_⟩⟩
        (Loc.step (L1 := [(g, .cells (toArr cur) 5 (0, 0))]) hL rfl rfl rfl (by simp [World.setRow]) (fun k hk hne => ?_) (fun x hx => ?_) (by simp [keys]) (fun b hb' => .inl hb'))
      · simp only [List.length_append, List.length_take, List.length_drop, hbl]; omega
      · rw [Nat.mul_one, List.take_append_of_le_length (by simp [hbl]; omega), List.take_of_length_le (by simp [hbl]; omega), h4]
      · simp only [keys, List.mem_singleton] at hne
        simp only [World.setRow, Array.getElem?_modify]
        rw [if_neg (fun e => hne e.symm)]
      · simp only [List.mem_singleton] at hx
        subst hx
        exact hset
    · have hrun := Lib.run_append_grow_string (P := Tryz.prog) w 27 9 ty 5 i (.int .u8 0) Tryz.underlying27 Tryz.underlying9 hi hz ⟨g, 0, none⟩ n cap (cur.take n) (by rw [hs1, List.length_take]; omega) hold ⟨l.toArray⟩ (by rw [hsz]; omega) (by rw [hsz]; omega)
        (by rw [hsz, hb1, Nat.mul_one]; exact Nat.le_trans (nextslicecap_le (by omega)) (by omega))
      have hge := grownCap_ge w (n + l.length) cap 5
      have hle := grownCap_le_maxLen w (n + l.length) cap 5 (by simp only [maxLen]; omega)
      rw [hsz, hsc] at hrun
      generalize grownCap w (n + l.length) cap 5 = gc at *
      have hcells : ((cur.take n).toArray ++ (ints .u8 (bI l)).toArray ++ Builtin.zeroCells (Value.int .u8 0).cells (gc - (n + l.length))) = toArr (cur.take n ++ ints .u8 (bI l) ++ (Builtin.zeroCells (Value.int .u8 0).cells (gc - (n + l.length))).toList) := by
        apply Array.ext'; simp [toArr]
      refine ⟨_, _, hrun, ?_⟩
      rw [hcells]
      have hl0 := hL.drew.alloc (.cells (toArr (cur.take n ++ ints .u8 (bI l) ++ (Builtin.zeroCells (Value.int .u8 0).cells (gc - (n + l.length))).toList)) 5)
      refine h (some ⟨w.heap.size, 0, none⟩) (n + l.length) gc [(w.heap.size, _)] _ (by omega) ⟨n + l.length, by rw [List.length_append, hbl]; omega, .inr ⟨w.heap.size, gc, _, rfl, rfl, hge, hle, ?_, ?_⟩⟩ (hl0.sublist (.cons_cons _ (.cons _ (List.Sublist.refl _))))
      · simp only [List.length_append, List.length_take, hzc, hbl]; omega
      · rw [Nat.mul_one, List.take_append_of_le_length (by simp [hbl]; omega), List.take_of_length_le (by simp [hbl]; omega), h4]
end
theorem appendStr0 {m0 m : Mem} {S : List Nat} {w0 w : World} {L1 L2 : Own} {ty : TypeId} {v : Value} {xs : List Value} {K : Value → World → Prop} (hown : OwnS 5 1 v xs L1) (hL : Ev.Loc m0 S w0 m (L1 ++ L2) w) (hx : xs ≠ [] ∨ v ≠ .slice none 0 0)
    (h : ∀ w', Ev.Loc m0 S w0 m (L1 ++ L2) w' → K v w') :
    RunReq Tryz.prog (Builtin.append_ #[27, 9] ty (toArr [v, .string ⟨([] : List UInt8).toArray⟩])) w K := by
  obtain ⟨i, hi, hz, hs1, hb1⟩ : ∃ i, Tryz.prog.info? 5 = some i ∧ i.zero = some (.int .u8 0) ∧ i.size = 1 ∧ i.bytes = 1 := by
    have g1 : (Tryz.prog.info? 5).bind (·.zero) = some (.int .u8 0) := by kernel_rfl
    have g2 : (Tryz.prog.info? 5).map (·.size) = some 1 := by kernel_rfl
    have g3 : (Tryz.prog.info? 5).map (·.bytes) = some 1 := by kernel_rfl
    cases hi : Tryz.prog.info? 5 with
    | none => rw [hi] at g2; cases g2
    | some i =>
      rw [hi] at g1 g2 g3
      exact ⟨i, rfl, g1, Option.some.inj g2, Option.some.inj g3⟩
  have hsz : (⟨([] : List UInt8).toArray⟩ : ByteArray).size = 0 := rfl
  have hsc := strCells_bI []
  have hbl : (ints .u8 (bI [])).length = 0 := rfl
  have harg : toArr [v, .string ⟨([] : List UInt8).toArray⟩] = #[v, .string ⟨([] : List UInt8).toArray⟩] := rfl
  rw [harg]
  obtain ⟨n, hn, ⟨rfl, rfl, rfl⟩ | ⟨g, cap, cur, rfl, rfl, h1, h2, h3, h4⟩⟩ := hown
  · exact hx.elim (fun h => absurd (List.eq_nil_of_length_eq_zero (by omega)) h) (fun h => absurd rfl h)
  · have hg := hL.own (g, .cells (toArr cur) 5 (0, 0)) (by simp)
    have hrun := Lib.run_append_room_string (P := Tryz.prog) w 27 9 ty 5 i Tryz.underlying27 Tryz.underlying9 hi hs1 g n cap (toArr cur) hg ⟨([] : List UInt8).toArray⟩ (by rw [hsz]; omega) (by rw [hsz]; simp [toArr]; omega)
    rw [hsz, hsc] at hrun
    have hcur : (toArr cur).toList = cur := by simp [toArr]
    rw [hcur] at hrun
    refine ⟨_, _, hrun, ?_⟩
    have hset := setRow_heap w g (toArr cur) (cur.take n ++ ints .u8 (bI []) ++ cur.drop (n + 0)).toArray 5 (0, 0) hg
    have hsame : (cur.take n ++ ints .u8 (bI []) ++ cur.drop (n + 0)).toArray = toArr cur := by
      show (cur.take n ++ [] ++ cur.drop n).toArray = _
      rw [List.append_nil, List.take_append_drop]; rfl
    refine h _ (Loc.step (L1 := [(g, .cells (toArr cur) 5 (0, 0))]) hL rfl rfl rfl (by simp [World.setRow]) (fun k hk hne => ?_) (fun x hx => ?_) (by simp [keys]) (fun b hb' => .inl hb'))
    · simp only [keys, List.mem_singleton] at hne
      simp only [World.setRow, Array.getElem?_modify]
      rw [if_neg (fun e => hne e.symm)]
    · simp only [List.mem_singleton] at hx
      subst hx
      show _ = some (Obj.cells (toArr cur) _ _)
      rw [← hsame]
      exact hset
def BldN (b : Nat) (l : List UInt8) (L : Own) : Prop := Bld b l L ∧ ∃ p v L1, L = (b, bdO p v) :: L1 ∧ v ≠ .slice none 0 0
theorem writeStringN_fn (m : Mem) (b : Nat) (l s : List UInt8) (L : Own) (h : Bld b l L) (hl : l.length + s.length ≤ 1000000000) (hls : l ≠ [] ∨ s ≠ [] ∨ ∃ p v L1, L = (b, bdO p v) :: L1 ∧ v ≠ .slice none 0 0) :
    Ev.Fn Tryz.prog 53 [.pointer (some ⟨b, 0, none⟩), .string ⟨s.toArray⟩] m L fun m' L' u => u = .tuple (toArr [.int .i64 s.length, .nilIface]) ∧ m' = m ∧ Bld b (l ++ s) L' := by
  obtain ⟨p, v, L1, rfl, hp, ho⟩ := h
  obtain ⟨A, n, cc, rfl, hn⟩ := ho.slice
  have hsz : (⟨s.toArray⟩ : ByteArray).size = s.length := by show s.toArray.size = _; simp
  refine Fn.enter (N := 19) hX Tryz.func53 rfl rfl (by show _ ≤ _; simp) (fun w0 hL => ?_)
  conv => whnf
  generalize keys ((b, bdO p (Value.slice A n cc)) :: L1) = S0 at hL ⊢
  refine go ?_;try(clear hL;intro w hL)
  refine CallReq.mk (L1 := [(b, bdO p (.slice A n cc))]) (L2 := L1) (copyCheck_fn m b p _ hp) hL ?_
  clear hL
  rintro u m1 L' w hL - ⟨rfl, rfl, rfl⟩
  replace hL : Ev.Loc m1 S0 w0 m1 ((b, .cells (toArr [.pointer (some ⟨b, 0, none⟩), .slice A n cc]) 139 (0, 0)) :: (L1 ++ [])) w := by rw [List.append_nil]; exact hL
  refine go ?_;try(clear hL;intro w hL)
  by_cases hs : s = []
  · subst hs
    refine appendStr0 ho (hL.perm List.perm_middle.symm) (hls.elim (fun h => .inl fun e => h (by simpa [ints, bI] using e)) fun h => h.elim (fun h => absurd rfl h) fun ⟨p', v', L', e, h⟩ => .inr fun e2 => h (by injection e with e3 e4; injection e3 with e5 e6; injection e6 with e7; have := congrArg (fun z : Array Value => z.toList) e7; simp [toArr] at this; rw [← this.2]; exact e2)) ?_
    clear hL
    intro w hL
    replace hL := hL.perm List.perm_middle
    refine go ?_;try(clear hL;intro w hL)
    rw [List.append_nil] at hL
    exact RetReq.mk hL ⟨by rw [← hsz]; rfl, rfl, _, _, L1, rfl, .inr rfl, by rw [List.append_nil]; exact ho⟩
  · refine appendStr ho (hL.perm List.perm_middle.symm) (List.length_pos_iff.2 hs) (by simp [ints, bI_len]; omega) ?_
    clear hL
    intro A2 n2 c2 L2 w hn2 ho2 hL
    rw [← ints_append, ← bI_append] at ho2
    replace hL := hL.perm List.perm_middle
    refine go ?_;try(clear hL;intro w hL)
    rw [List.append_nil] at hL
    exact RetReq.mk hL ⟨by rw [← hsz]; rfl, rfl, _, _, L2, rfl, .inr rfl, ho2⟩
section
variable {N : Nat} {m0 m : Mem} {S : List Nat} {w0 w : World} {L : Own}
theorem writeString_fn (m : Mem) (b : Nat) (l s : List UInt8) (L : Own) (h : Bld b l L) (hl : l.length + s.length ≤ 1000000000) (hls : l ≠ [] ∨ s ≠ []) :
    Ev.Fn Tryz.prog 53 [.pointer (some ⟨b, 0, none⟩), .string ⟨s.toArray⟩] m L fun m' L' u => u = .tuple (toArr [.int .i64 s.length, .nilIface]) ∧ m' = m ∧ Bld b (l ++ s) L' :=
  writeStringN_fn m b l s L h hl (hls.imp id .inl)
theorem GenReq.sliceData {o : Oper} {ρ : Operand → Value} {c : Call} {a : Option Addr} {n cap : Nat} {K : Value → World → Prop} (ho : o.op = .call c) (hc : c.callee = .builtin .unsafeSliceData) (ha : c.args.toList.map ρ = [.slice a n cap]) (hcap : a = none ∨ cap ≠ 0)
    (h : K (.pointer a) w) : GenReq Tryz.prog o ρ w K := by
  constructor
  unfold OpOk
  have hargs : c.args.map ρ = #[.slice a n cap] := by apply Array.ext'; rw [Array.toList_map, ha]
  have hex : execOp ρ o = (do pure (.value (← Builtin.unsafeSliceData_ c.argTypes o.type #[.slice a n cap]))) := by rw [← hargs]; simp [execOp, ho, resolve, hc, invoke, builtin]
  have hrun : (Builtin.unsafeSliceData_ c.argTypes o.type #[.slice a n cap]).run Tryz.prog w = .ok (.pointer a) w := by
    cases a with
    | none => exact Lib.run_unsafeSliceData_nil w _ _ _ _
    | some a => exact Lib.run_unsafeSliceData_row w _ _ _ _ _ (hcap.elim (fun e => by cases e) id)
  rw [hex]
  simp only [Sem.run_bind, hrun, Result.andThen_ok, Sem.run_pure, upon]
  exact h
theorem loc_freeze {g n : Nat} {o : Obj} (hL : Ev.Loc m0 S w0 m ((g, o) :: L) w) (hn : n ≠ 0) : Ev.Loc m0 S w0 m L (w.freeze ⟨g, 0, none⟩ n) := by
  refine Loc.step (L1 := [(g, o)]) (L1' := []) hL (by unfold World.freeze; rw [if_neg hn]) (by unfold World.freeze; rw [if_neg hn]) (by unfold World.freeze; rw [if_neg hn]) ?_ (fun k hk hne => ?_) (fun x hx => by simp at hx) (by simp [keys]) (fun b hb => by simp [keys] at hb)
  · unfold World.freeze; rw [if_neg hn]; simp
  · simp only [keys, List.mem_singleton] at hne
    unfold World.freeze
    rw [if_neg hn]
    simp only [Array.getElem?_modify]
    rw [if_neg (fun e => hne e.symm)]
theorem GenReq.string {o : Oper} {ρ : Operand → Value} {c : Call} {g n : Nat} {l : List UInt8} {cur : List Value} {K : Value → World → Prop} (ho : o.op = .call c) (hc : c.callee = .builtin .unsafeString) (ht : c.argTypes = #[231, 3]) (ha : c.args.toList.map ρ = [.pointer (some ⟨g, 0, none⟩), .int .i64 n])
    (hL : Ev.Loc m0 S w0 m ((g, .cells (toArr cur) 5 (0, 0)) :: L) w) (hn : n = l.length) (h0 : l ≠ []) (hcl : n ≤ cur.length) (hmax : n ≤ maxLen) (hcur : cur.take n = ints .u8 (bI l))
    (h : ∀ w', Ev.Loc m0 S w0 m L w' → K (.string ⟨l.toArray⟩) w') : GenReq Tryz.prog o ρ w K := by
  subst hn
  constructor
  unfold OpOk
  have hargs : c.args.map ρ = #[.pointer (some ⟨g, 0, none⟩), .int .i64 l.length] := by apply Array.ext'; rw [Array.toList_map, ha]
  have hex : execOp ρ o = (do pure (.value (← Builtin.unsafeString_ #[231, 3] o.type #[.pointer (some ⟨g, 0, none⟩), .int .i64 l.length]))) := by rw [← hargs, ← ht]; simp [execOp, ho, resolve, hc, invoke, builtin]
  have hrun := Lib.run_unsafeString_row (P := Tryz.prog) w 231 3 o.type 5 Tryz.underlying231 (by kernel_rfl) g cur.length (shape_own hL (i := 0) rfl) l h0 hcl (by simp only [maxLen] at hmax; omega) (fun j x hx => by
    rw [addr_add, Nat.zero_add, hL.ownCell (b := g) (i := j) (c := toArr cur) (t := 5) (f := (0, 0)) (by simp)]
    have hj := (List.getElem?_eq_some_iff.1 hx).1
    have : (cur.take l.length)[j]? = some (.int .u8 x.toNat) := by
      rw [hcur]; simp [ints, bI, hx]
    rw [List.getElem?_take_of_lt hj] at this
    simpa [toArr] using this)
  rw [hex]
  simp only [Sem.run_bind, hrun, Result.andThen_ok, Sem.run_pure, upon]
  exact h _ (loc_freeze hL (by have := List.length_pos_iff.2 h0; omega))
theorem GenReq.string0 {o : Oper} {ρ : Operand → Value} {c : Call} {K : Value → World → Prop} (ho : o.op = .call c) (hc : c.callee = .builtin .unsafeString) (ht : c.argTypes = #[231, 3]) (ha : c.args.toList.map ρ = [.pointer none, .int .i64 0])
    (h : K (.string ⟨([] : List UInt8).toArray⟩) w) : GenReq Tryz.prog o ρ w K := by
  constructor
  unfold OpOk
  have hargs : c.args.map ρ = #[.pointer none, .int .i64 0] := by apply Array.ext'; rw [Array.toList_map, ha]
  have hex : execOp ρ o = (do pure (.value (← Builtin.unsafeString_ #[231, 3] o.type #[.pointer none, .int .i64 0]))) := by rw [← hargs, ← ht]; simp [execOp, ho, resolve, hc, invoke, builtin]
  have hrun := Lib.run_unsafeString_none (P := Tryz.prog) w 231 3 o.type none
  rw [hex]
  simp only [Sem.run_bind, hrun, Result.andThen_ok, Sem.run_pure, upon]
  exact h
end
theorem string_fn (m : Mem) (b : Nat) (l : List UInt8) (L : Own) (h : Bld b l L) (h0 : l ≠ []) :
    Ev.Fn Tryz.prog 54 [.pointer (some ⟨b, 0, none⟩)] m L fun m' L' u => u = .string ⟨l.toArray⟩ ∧ m' = m ∧ L' = [] := by
  obtain ⟨p, v, L1, rfl, hp, ho⟩ := h
  have hlp := List.length_pos_iff.2 h0
  obtain ⟨n, hn, ⟨rfl, rfl, _⟩ | ⟨g, cap, cur, rfl, rfl, h1, h2, h3, h4⟩⟩ := ho
  · simp [ints, bI_len] at hn; exact absurd hn h0
  have hnl : n = l.length := by simp [ints, bI_len] at hn; exact hn.symm
  refine Fn.enter (N := 14) hX Tryz.func54 rfl rfl (by show _ ≤ _; simp) (fun w0 hL => ?_)
  conv => whnf
  generalize keys ((b, bdO p (Value.slice (some ⟨g, 0, none⟩) n cap)) :: [(g, Obj.cells (toArr cur) 5 (0, 0))]) = S0 at hL ⊢
  replace hL : Ev.Loc m S0 w0 m [(b, .cells (toArr [.pointer p, .slice (some ⟨g, 0, none⟩) n cap]) 139 (0, 0)), (g, .cells (toArr cur) 5 (0, 0))] w0 := hL
  refine DrawReq.plan hX (.fst 0 (.fst 1 (.fst 2 (.fst 3 (.fst 5 (.fst 6 (.fst 7 (.fst 8 (.fst 9 (.alt 4 (.alt 10 (.fst 11 (.done)) (.stop)) (.stop))))))))))) [(b, .cells (toArr [.pointer p, .slice (some ⟨g, 0, none⟩) n cap]) 139 (0, 0))] (by kernel_rfl) (by kernel_rfl) hL (fun h => h.one 0 rfl) ?_
  clear hL
  intro w hL
  refine goq ?_;try(clear hL;intro w hL)
  refine GenReq.sliceData rfl rfl rfl (.inr (by omega)) ?_
  conv => whnf
  repeat ((first | refine SReq.mk (hL.one 0 rfl) ?_ | (refine goq1 ?_;try(clear hL;intro w hL))); conv => whnf)
  refine GenReq.string rfl rfl rfl rfl (hL.perm (List.Perm.swap _ _ _)) hnl h0 (by omega) (by omega) (by rw [Nat.mul_one] at h4; exact h4) ?_
  clear hL
  intro w hL
  conv => whnf
  repeat ((first | refine SReq.mk hL ?_ | (refine goq1 ?_;try(clear hL;intro w hL))); conv => whnf)
  exact RetReq.mk hL.drop ⟨rfl, rfl, rfl⟩
section
variable {N : Nat} {m0 m : Mem} {S : List Nat} {w0 w : World} {L : Own}
theorem GenReq.cap {o : Oper} {ρ : Operand → Value} {c : Call} {a : Option Addr} {n cap : Nat} {K : Value → World → Prop} (ho : o.op = .call c) (hc : c.callee = .builtin .cap) (ht : c.argTypes = #[27]) (ha : c.args.toList.map ρ = [.slice a n cap])
    (h : K (.int .i64 cap) w) : GenReq Tryz.prog o ρ w K := by
  constructor
  unfold OpOk
  have hargs : c.args.map ρ = #[.slice a n cap] := by apply Array.ext'; rw [Array.toList_map, ha]
  have hex : execOp ρ o = (do pure (.value (← Builtin.cap_ #[27] o.type #[.slice a n cap]))) := by rw [← hargs, ← ht]; simp [execOp, ho, resolve, hc, invoke, builtin]
  have hrun : (Builtin.cap_ #[27] o.type #[.slice a n cap]).run Tryz.prog w = .ok (.int .i64 cap) w := by
    simp [Builtin.cap_, run_underlying Tryz.underlying27]; rfl
  rw [hex]
  simp only [Sem.run_bind, hrun, Result.andThen_ok, Sem.run_pure, upon]
  exact h
theorem GenReq.makeNoZero {o : Oper} {ρ : Operand → Value} {c : Call} {x : Operand} (n : Nat) {z : Int} {K : Value → World → Prop} (ho : o.op = .call c) (hc : c.callee = .value x) (hx : ρ x = .func (.func 202) #[] #[]) (ha : c.args.toList.map ρ = [.int .i64 z])
    (hz : z = n) (hn : n ≤ 1000000000000) (hL : Ev.Loc m0 S w0 m L w) (h : ∀ g cur w', n ≤ cur.length → cur.length ≤ maxLen → Ev.Loc m0 S w0 m ((g, .cells (toArr cur) 5 (0, 0)) :: L) w' → K (.slice (some ⟨g, 0, none⟩) n cur.length) w') : GenReq Tryz.prog o ρ w K := by
  subst hz
  constructor
  unfold OpOk
  have hargs : c.args.map ρ = #[.int .i64 n] := by apply Array.ext'; rw [Array.toList_map, ha]
  have hex : execOp ρ o = callFunc 202 #[.int .i64 n] := by rw [← hargs]; simp [execOp, ho, resolve, hc, hx, Deferred.ofValue, invoke]
  obtain ⟨cs, hrun, hle, hmax⟩ := Lib.run_makeNoZero (P := Tryz.prog) w #[3] 27 5 Tryz.underlying27 n (by omega)
  rw [hex, run_callFunc_extern Tryz.func202 (by kernel_rfl) (by kernel_rfl) (by kernel_rfl) (e := Extern.BytealgMakeNoZero.makeNoZero #[3] #[27]) (by kernel_rfl), hrun]
  have hcs : cs = toArr cs.toList := by simp [toArr]
  have hl := (hL.drew.drew).alloc (.cells cs 5)
  have := h w.heap.size cs.toList (w.drew.drew.alloc (.cells cs 5)) (by simpa using hle) (by simpa using hmax (by simp only [maxLen]; omega)) (by rw [← hcs]; exact hl)
  simp only [Result.andThen_ok, upon]
  simpa using this
end
theorem grow1_fn (m : Mem) (b n : Nat) (h0 : 0 < n) (hn : n ≤ 1000000000) :
    Ev.Fn Tryz.prog 119 [.pointer (some ⟨b, 0, none⟩), .int .i64 n] m [(b, bdO (some ⟨b, 0, none⟩) (.slice none 0 0))] fun m' L' u => u = .tuple (toArr []) ∧ m' = m ∧ BldN b [] L' := by
  refine Fn.enter (N := 30) hX Tryz.func119 rfl rfl (by show _ ≤ _; simp) (fun w0 hL => ?_)
  conv => whnf
  generalize keys [(b, bdO (some ⟨b, 0, none⟩) (.slice none 0 0))] = S0 at hL ⊢
  replace hL : Ev.Loc m S0 w0 m [(b, .cells (toArr [.pointer (some ⟨b, 0, none⟩), .slice none 0 0]) 139 (0, 0))] w0 := hL
  refine DrawReq.plan hX (.fst 0 (.fst 1 (.fst 2 (.fst 3 (.fst 6 (.fst 9 (.fst 10 (.fst 11 (.fst 12 (.fst 13 (.alt 4 (.fst 5 (.fst 7 (.alt 8 (.fst 14 (.fst 15 (.done))) (.stop)))) (.stop)))))))))))) [(b, .cells (toArr [.pointer (some ⟨b, 0, none⟩), .slice none 0 0]) 139 (0, 0))] (by kernel_rfl) (by kernel_rfl) hL id ?_
  clear hL
  intro w hL
  refine goq ?_;try(clear hL;intro w hL)
  refine GenReq.cap rfl rfl rfl rfl ?_
  conv => whnf
  repeat ((first | refine SReq.mk hL ?_ | (refine ArReq.i64 (by simp; try omega) (by simp; try omega) ?_) | (refine goq1 ?_;try(clear hL;intro w hL))); conv => whnf)
  refine GenReq.makeNoZero n rfl rfl rfl rfl (by omega) (by omega) hL ?_
  clear hL
  intro g cur w hcl hcm hL
  conv => whnf
  repeat ((first | refine SReq.mk (hL.one 1 rfl) ?_ | refine SlReq.mk 0 0 rfl rfl (by omega) (by omega) ?_ | (refine goq1 ?_;try(clear hL;intro w hL))); conv => whnf)
  have he : (if cur.length = 0 then some (⟨g, 0, none⟩ : Addr) else Option.map (fun x : Addr => x.add (scale 0 1)) (some (⟨g, 0, none⟩ : Addr))) = some ⟨g, 0, none⟩ := by split <;> rfl
  refine RunReq.mk (run_copy_none w 27 27 3 5 _ _ _ _ _ _ Tryz.underlying27 (by kernel_rfl) rfl) ?_
  conv => whnf
  repeat ((first | (refine StReq.own hX rfl 1 hL rfl rfl rfl rfl ?_; clear hL; intro w hL) | (refine go1 ?_;try(clear hL;intro w hL))); conv => whnf)
  replace hL : Ev.Loc m S0 w0 m [(g, .cells (toArr cur) 5 (0, 0)), (b, .cells (toArr [.pointer (some ⟨b, 0, none⟩), .slice (if cur.length = 0 then some (⟨g, 0, none⟩ : Addr) else Option.map (fun x : Addr => x.add (scale 0 1)) (some (⟨g, 0, none⟩ : Addr))) 0 cur.length]) 139 (0, 0))] w := hL
  rw [he] at hL
  exact RetReq.mk (hL.perm (List.Perm.swap _ _ _)) ⟨rfl, rfl, ⟨_, _, _, rfl, .inr rfl, OwnS.block (n := 0) (Nat.zero_le _) hcm (Nat.mul_one _).symm⟩, _, _, _, rfl, fun h => by cases h⟩
theorem grow_fn (m : Mem) (b n : Nat) (p : Option Addr) (hp : p = none ∨ p = some ⟨b, 0, none⟩) (h0 : 0 < n) (hn : n ≤ 1000000000) :
    Ev.Fn Tryz.prog 52 [.pointer (some ⟨b, 0, none⟩), .int .i64 n] m [(b, bdO p (.slice none 0 0))] fun m' L' u => u = .tuple (toArr []) ∧ m' = m ∧ BldN b [] L' := by
  refine Fn.enter (N := 25) hX Tryz.func52 rfl rfl (by show _ ≤ _; simp) (fun w0 hL => ?_)
  conv => whnf
  generalize keys [(b, bdO p (.slice none 0 0))] = S0 at hL ⊢
  refine go ?_;try(clear hL;intro w hL)
  refine CallReq.mk (L1 := [(b, bdO p (.slice none 0 0))]) (L2 := []) (copyCheck_fn m b p _ hp) hL ?_
  clear hL
  rintro u m1 L' w hL - ⟨rfl, rfl, rfl⟩
  replace hL : Ev.Loc m1 S0 w0 m1 [(b, .cells (toArr [.pointer (some ⟨b, 0, none⟩), .slice none 0 0]) 139 (0, 0))] w := hL
  refine go ?_;try(clear hL;intro w hL)
  refine DrawReq.plan hX (.fst 0 (.fst 1 (.fst 2 (.fst 3 (.fst 5 (.fst 6 (.fst 7 (.fst 8 (.fst 9 (.fst 11 (.alt 4 (.fst 10 (.fst 12 (.done))) (.stop)))))))))))) [(b, .cells (toArr [.pointer (some ⟨b, 0, none⟩), .slice none 0 0]) 139 (0, 0))] (by kernel_rfl) (by kernel_rfl) hL id ?_
  clear hL
  intro w hL
  refine goq ?_;try(clear hL;intro w hL)
  refine GenReq.cap rfl rfl rfl rfl ?_
  conv => whnf
  repeat ((first | refine SReq.mk hL ?_ | (refine goq1 ?_;try(clear hL;intro w hL))); conv => whnf)
  refine BrReq.dec (fun _ => ?_) (fun h => absurd (show ((0 : Nat) : Int) - ((0 : Nat) : Int) < n by omega) h)
  refine go ?_;try(clear hL;intro w hL)
  refine CallReq.mk (L1 := [(b, .cells (toArr [.pointer (some ⟨b, 0, none⟩), .slice none 0 0]) 139 (0, 0))]) (L2 := []) (grow1_fn m1 b n h0 hn) hL ?_
  clear hL
  rintro u m2 L' w hL - ⟨rfl, rfl, hb⟩
  refine go ?_;try(clear hL;intro w hL)
  rw [List.append_nil] at hL
  exact RetReq.mk hL ⟨rfl, rfl, hb⟩
theorem callWS {m0 m : Mem} {S : List Nat} {w0 w : World} {b : Nat} {l s : List UInt8} {L : Own} {K : Value → World → Prop} (h : Bld b l L) (hl : l.length + s.length ≤ 1000000000) (hls : l ≠ [] ∨ s ≠ []) (hL : Ev.Loc m0 S w0 m L w)
    (k : ∀ L' w', Bld b (l ++ s) L' → Ev.Loc m0 S w0 m L' w' → K (.tuple (toArr [.int .i64 s.length, .nilIface])) w') : CallReq Tryz.prog 53 (toArr [.pointer (some ⟨b, 0, none⟩), .string ⟨s.toArray⟩]) w K :=
  CallReq.mk (L1 := L) (L2 := []) (writeString_fn m b l s L h hl hls) (by rw [List.append_nil]; exact hL) fun u m' L1' w' hl hle ⟨h1, h2, h3⟩ => by
    subst h1 h2
    rw [List.append_nil] at hl
    exact k L1' w' h3 hl
set_option maxHeartbeats 2000000 in
theorem callWSN {m0 m : Mem} {S : List Nat} {w0 w : World} {b : Nat} {l s : List UInt8} {L : Own} {K : Value → World → Prop} (h : Bld b l L) (hl : l.length + s.length ≤ 1000000000) (hls : l ≠ [] ∨ s ≠ [] ∨ ∃ p v L1, L = (b, bdO p v) :: L1 ∧ v ≠ .slice none 0 0) (hL : Ev.Loc m0 S w0 m L w)
    (k : ∀ L' w', Bld b (l ++ s) L' → Ev.Loc m0 S w0 m L' w' → K (.tuple (toArr [.int .i64 s.length, .nilIface])) w') : CallReq Tryz.prog 53 (toArr [.pointer (some ⟨b, 0, none⟩), .string ⟨s.toArray⟩]) w K :=
  CallReq.mk (L1 := L) (L2 := []) (writeStringN_fn m b l s L h hl hls) (by rw [List.append_nil]; exact hL) fun u m' L1' w' hl hle ⟨h1, h2, h3⟩ => by
    subst h1 h2
    rw [List.append_nil] at hl
    exact k L1' w' h3 hl
theorem join_fn (m : Mem) (v : Value) (l : List (List UInt8)) (sep : List UInt8) (hv : Sl m 1 isS v l) (hne : ∀ s ∈ l, s ≠ []) (hl : l.length ≤ 100000) (hs : sep.length ≤ 1) (ht : totL l ≤ 100000000) :
    FnV Tryz.prog 21 [v, .string (bs sep)] m (.string (bs (jn sep l))) := by
  have hmx : maxLen = 9223372036854775807 := rfl
  have hv' := hv
  obtain ⟨A, n, c, rfl, hn, hc, hm, -⟩ := hv
  have hsz : (bs sep).size = sep.length := bs_size sep
  refine Fn.enter (N := 75) hX Tryz.func21 rfl rfl (by show _ ≤ _; simp) (fun w0 hL => ?_)
  conv => whnf
  refine go ?_;try(clear hL;intro w hL)
  refine BrReq.dec (fun h0 => ?_) (fun h0 => ?_)
  · have e : l = [] := List.eq_nil_of_length_eq_zero (by omega)
    subst e
    refine go ?_;try(clear hL;intro w hL)
    exact RetReq.mk hL ⟨rfl, rfl⟩
  refine go ?_;try(clear hL;intro w hL)
  refine BrReq.dec (fun h1 => ?_) (fun h1 => ?_)
  · obtain ⟨a1, rfl, hx⟩ := Sl.one hv' (i := 0) (by omega)
    conv => whnf
    repeat ((first | refine Idx2Req.mk 0 a1 rfl (by omega) rfl ?_ | refine LdReq.one hX rfl rfl hL hx ?_ | (refine go1 ?_;try(clear hL;intro w hL))); conv => whnf)
    match l, hn with
    | [a], _ => exact RetReq.mk hL ⟨rfl, rfl⟩
    | [], hn => exact absurd hn (by simp; omega)
    | a :: b :: r, hn => exact absurd hn (by simp; omega)
  have hn2 : 2 ≤ n := by omega
  have hsep : sep.length * (n - 1) ≤ n - 1 := Nat.le_trans (Nat.mul_le_mul_right _ hs) (by omega)
  refine gos ?_;try(clear hL;intro w hL)
  refine SeqReq.cut hX (fun d : Nat => [(5, .int .i64 d)]) [0, 1] (fun d w => d = sep.length * (n - 1) ∧ Ev.Loc m [] w0 m [] w) ?_ ?_
  · refine gos ?_;try(clear hL;intro w hL)
    refine BrReq.dec (fun h2 => ?_) (fun h2 => ?_)
    · have hs1 : sep.length = 1 := by rw [hsz] at h2; omega
      have hs2 : (bs sep).size = 1 := by omega
      have hq : 2 ≤ 9223372036854775807 / (n - 1) := (Nat.le_div_iff_mul_le (by omega)).2 (by omega)
      conv => whnf
      repeat ((first | refine DivReq.i64 (a := 9223372036854775807) (k := n - 1) (by omega) (by omega) (by omega) ?_ | (refine go1 ?_;try(clear hL;intro w hL))); conv => whnf)
      refine BrReq.no (by rw [hs2]; omega) ?_
      conv => whnf
      repeat ((first | (refine ArReq.i64 (by rw [hs2]; omega) (by rw [hs2]; omega) ?_) | (refine go1 ?_;try(clear hL;intro w hL))); conv => whnf)
      refine ⟨(n - 1), ⟨by rw [hs1, Nat.one_mul], hL⟩, ?_, ?_⟩
      · repeat (first | exact trivial | (refine And.intro (by (conv => lhs; whnf) <;> (conv => rhs; whnf) <;> (first | rfl | ((rw [hs2]; exact congrArg (Value.int .i64) (by omega))))) ?_))
      · repeat (first | exact trivial | (refine And.intro (by (conv => lhs; whnf) <;> (conv => rhs; whnf) <;> (first | rfl | ((rw [hs2]; exact congrArg (Value.int .i64) (by omega))))) ?_))
    · have hs1 : sep.length = 0 := by rw [hsz] at h2; omega
      refine go ?_;try(clear hL;intro w hL)
      refine ⟨0, ⟨by rw [hs1, Nat.zero_mul], hL⟩, ?_, ?_⟩
      · repeat (first | exact trivial | (refine And.intro (by (conv => lhs; whnf) <;> (conv => rhs; whnf) <;> (first | rfl)) ?_))
      · repeat (first | exact trivial | (refine And.intro (by (conv => lhs; whnf) <;> (conv => rhs; whnf) <;> (first | rfl)) ?_))
  clear hL
  rintro d w f ⟨hd, hL⟩
  refine go ?_;try(clear hL;intro w hL)
  refine LoopReq.inv hX (fun s : Nat × Nat => [(5, .int .i64 s.1), (41, .int .i64 s.2)]) [0, 1, 39, 40]
    (fun s w => (s.2 ≤ n ∧ s.1 = d + totL (l.take s.2)) ∧ Ev.Loc m [] w0 m [] w) (fun s => n - s.2) (d, 0)
    ⟨⟨by omega, by simp [totL]⟩, hL⟩ ⟨rfl, rfl, trivial⟩ ?_
  clear hL
  rintro ⟨s, j⟩ w e ⟨⟨hj, hs3⟩, hL⟩
  simp only at hj hs3
  have htl := totL_le (l := l) j
  refine go ?_;try(clear hL;intro w hL)
  refine BrReq.dec (fun hlt => ?_) (fun hlt => ?_)
  · have hj1 : j < l.length := by simp only at hlt; omega
    obtain ⟨a1, rfl, hx⟩ := Sl.one hv' hj1
    have h1 := tot_one hj1
    have htk := totL_take hj1
    have hz1 := bs_size l[j]
    conv => whnf
    repeat ((first | (refine Idx2Req.mk j a1 rfl (by simp only at hlt; omega) rfl ?_) | refine LdReq.one hX rfl rfl hL hx ?_ | (refine ArReq.i64 (by simp only; omega) (by simp only; omega) ?_) | (refine go1 ?_;try(clear hL;intro w hL))); conv => whnf)
    refine BrReq.no (by simp only; omega) ?_
    conv => whnf
    repeat ((first | (refine ArReq.i64 (by simp only; omega) (by simp only; omega) ?_) | (refine go1 ?_;try(clear hL;intro w hL))); conv => whnf)
    refine ⟨(s + l[j].length, j + 1), ⟨⟨by simp only at hlt ⊢; omega, by simp only; omega⟩, hL⟩, by first | omega | (simp only; omega) | (simp only [List.length_cons, List.length_append]; omega), ?_, ?_⟩
    · repeat (first | exact trivial | (refine And.intro (by (conv => lhs; whnf) <;> (conv => rhs; whnf) <;> (first | rfl | ((rw [hz1]; exact congrArg (Value.int .i64) (by simp only; omega))))) ?_))
    · repeat (first | exact trivial | (refine And.intro (by (conv => lhs; whnf) <;> (conv => rhs; whnf) <;> (first | rfl | ((rw [hz1]; exact congrArg (Value.int .i64) (by simp only; omega))))) ?_))
  have ej : j = l.length := by simp only at hlt; omega
  subst ej
  rw [List.take_length] at hs3
  have hl0 : 0 < l.length := by omega
  have hne0 := hne _ (List.getElem_mem hl0)
  have ht0 := tot_one hl0
  have hp0 := List.length_pos_iff.2 hne0
  obtain ⟨a1, ea1, hx0⟩ := Sl.one hv' hl0
  refine go ?_;try(clear hL;intro w hL)
  refine NewReq.mk hL ?_
  clear hL
  intro b8 w hL
  conv => whnf
  refine go ?_;try(clear hL;intro w hL)
  refine CallReq.mk (L1 := [(b8, bdO none (.slice none 0 0))]) (L2 := []) (grow_fn m b8 s none (.inl rfl) (by omega) (by omega)) hL ?_
  clear hL
  rintro u m2 L w hL - ⟨rfl, rfl, hB, hBn⟩
  rw [List.append_nil] at hL
  conv => whnf
  repeat ((first | refine Idx2Req.mk 0 a1 rfl (by omega) ea1 ?_ | refine LdReq.one hX rfl rfl hL hx0 ?_ | (refine go1 ?_;try(clear hL;intro w hL))); conv => whnf)
  refine callWS hB (by simp; omega) (.inr hne0) hL ?_
  clear hL hB
  intro L w hB hL
  rw [List.nil_append] at hB
  have hsub := hv'.sub (lo := 1) (hi := n) (by omega) (Nat.le_refl _)
  rw [hn, List.take_length] at hsub
  conv => whnf
  repeat ((first | refine SlReq.mk 1 n rfl rfl (by omega) (by omega) ?_ | (refine go1 ?_;try(clear hL;intro w hL))); conv => whnf)
  have hdl : (l.drop 1).length = n - 1 := by rw [List.length_drop]; omega
  have hjl := jnT_len sep (l.drop 1)
  have htd : l[0].length + totL (l.drop 1) = totL l := by
    cases l with
    | nil => exact absurd hl0 (by simp)
    | cons a r => simp [totL]
  rw [hdl] at hjl
  have hcut : l = l[0] :: l.drop 1 := by
    cases l with
    | nil => exact absurd hl0 (by simp)
    | cons a r => rfl
  generalize l[0] = s0 at hB hne0 hp0 htd hcut
  generalize l.drop 1 = l1 at hsub hdl hjl htd hcut
  have hjm : ∀ j, (jnT sep (l1.take j)).length ≤ (jnT sep l1).length := fun j => by
    rw [jnT_len, jnT_len]
    have h1 := totL_le (l := l1) j
    have h2 : (l1.take j).length * sep.length ≤ l1.length * sep.length := Nat.mul_le_mul_right _ (by rw [List.length_take]; omega)
    omega
  have hcm : (n - 1) * sep.length ≤ n - 1 := by rw [Nat.mul_comm]; exact hsep
  refine LoopReq.inv hX (fun j : Nat => [(65, .int .i64 j)]) [1, 8, 63, 64]
    (fun j w => j ≤ n - 1 ∧ ∃ L, Bld b8 (s0 ++ jnT sep (l1.take j)) L ∧ Ev.Loc m2 [] w0 m2 L w) (fun j => n - 1 - j) 0
    ⟨by omega, L, by simpa [jnT] using hB, hL⟩ ⟨rfl, trivial⟩ ?_
  clear hL hB
  rintro j w e2 ⟨hj, L, hB, hL⟩
  have hjj := hjm j
  refine go ?_;try(clear hL;intro w hL)
  refine BrReq.dec (fun hlt => ?_) (fun hlt => ?_)
  · have hj1 : j < l1.length := by omega
    obtain ⟨a2, ea2, hx⟩ := Sl.one hsub hj1
    have htk := jnT_take sep hj1
    have hj2 := hjm (j + 1)
    have hlk : (jnT sep (l1.take (j + 1))).length = (jnT sep (l1.take j)).length + sep.length + l1[j].length := by rw [htk, List.length_append, List.length_append]
    conv => whnf
    repeat ((first | refine Idx2Req.mk j a2 rfl (by omega) ea2 ?_ | refine LdReq.one hX rfl rfl hL hx ?_ | (refine go1 ?_;try(clear hL;intro w hL))); conv => whnf)
    refine callWS hB (by rw [List.length_append]; omega) (.inl (by simp [hne0])) hL ?_
    clear hL hB
    intro L w hB hL
    refine go ?_;try(clear hL;intro w hL)
    refine callWS hB (by rw [List.length_append, List.length_append]; omega) (.inl (by simp [hne0])) hL ?_
    clear hL hB
    intro L w hB hL
    rw [List.append_assoc, List.append_assoc, ← List.append_assoc (jnT _ _), ← htk] at hB
    refine go ?_;try(clear hL;intro w hL)
    exact rnd (j + 1) ⟨by omega, L, hB, hL⟩
  · have ej : j = l1.length := by omega
    rw [ej, List.take_length] at hB
    refine go ?_;try(clear hL;intro w hL)
    refine CallReq.mk (L1 := L) (L2 := []) (string_fn m2 b8 _ L hB (by simp [hne0])) (by rw [List.append_nil]; exact hL) ?_
    clear hL
    rintro u m3 L' w hL - ⟨rfl, rfl, rfl⟩
    refine go ?_;try(clear hL;intro w hL)
    exact RetReq.mk hL ⟨rfl, by rw [hcut, jn_cons]; rfl⟩
set_option maxHeartbeats 1000000 in
theorem join1_fn (m : Mem) (v : Value) (l : List (List UInt8)) (sep : List UInt8) (hv : Sl m 1 isS v l) (hl : l.length ≤ 100000) (hs1' : sep.length = 1) (ht : totL l ≤ 990000000) :
    FnV Tryz.prog 21 [v, .string (bs sep)] m (.string (bs (jn sep l))) := by
  have hmx : maxLen = 9223372036854775807 := rfl
  have hs : sep.length ≤ 1 := by omega
  have hsne : sep ≠ [] := fun e => by rw [e] at hs1'; simp at hs1'
  have hv' := hv
  obtain ⟨A, n, c, rfl, hn, hc, hm, -⟩ := hv
  have hsz : (bs sep).size = sep.length := bs_size sep
  refine Fn.enter (N := 75) hX Tryz.func21 rfl rfl (by show _ ≤ _; simp) (fun w0 hL => ?_)
  conv => whnf
  refine go ?_;try(clear hL;intro w hL)
  refine BrReq.dec (fun h0 => ?_) (fun h0 => ?_)
  · have e : l = [] := List.eq_nil_of_length_eq_zero (by omega)
    subst e
    refine go ?_;try(clear hL;intro w hL)
    exact RetReq.mk hL ⟨rfl, rfl⟩
  refine go ?_;try(clear hL;intro w hL)
  refine BrReq.dec (fun h1 => ?_) (fun h1 => ?_)
  · obtain ⟨a1, rfl, hx⟩ := Sl.one hv' (i := 0) (by omega)
    conv => whnf
    repeat ((first | refine Idx2Req.mk 0 a1 rfl (by omega) rfl ?_ | refine LdReq.one hX rfl rfl hL hx ?_ | (refine go1 ?_;try(clear hL;intro w hL))); conv => whnf)
    match l, hn with
    | [a], _ => exact RetReq.mk hL ⟨rfl, rfl⟩
    | [], hn => exact absurd hn (by simp; omega)
    | a :: b :: r, hn => exact absurd hn (by simp; omega)
  have hn2 : 2 ≤ n := by omega
  have hsep : sep.length * (n - 1) ≤ n - 1 := Nat.le_trans (Nat.mul_le_mul_right _ hs) (by omega)
  refine gos ?_;try(clear hL;intro w hL)
  refine SeqReq.cut hX (fun d : Nat => [(5, .int .i64 d)]) [0, 1] (fun d w => d = sep.length * (n - 1) ∧ Ev.Loc m [] w0 m [] w) ?_ ?_
  · refine gos ?_;try(clear hL;intro w hL)
    refine BrReq.dec (fun h2 => ?_) (fun h2 => ?_)
    · have hs1 : sep.length = 1 := by rw [hsz] at h2; omega
      have hs2 : (bs sep).size = 1 := by omega
      have hq : 2 ≤ 9223372036854775807 / (n - 1) := (Nat.le_div_iff_mul_le (by omega)).2 (by omega)
      conv => whnf
      repeat ((first | refine DivReq.i64 (a := 9223372036854775807) (k := n - 1) (by omega) (by omega) (by omega) ?_ | (refine go1 ?_;try(clear hL;intro w hL))); conv => whnf)
      refine BrReq.no (by rw [hs2]; omega) ?_
      conv => whnf
      repeat ((first | (refine ArReq.i64 (by rw [hs2]; omega) (by rw [hs2]; omega) ?_) | (refine go1 ?_;try(clear hL;intro w hL))); conv => whnf)
      refine ⟨(n - 1), ⟨by rw [hs1, Nat.one_mul], hL⟩, ?_, ?_⟩
      · repeat (first | exact trivial | (refine And.intro (by (conv => lhs; whnf) <;> (conv => rhs; whnf) <;> (first | rfl | ((rw [hs2]; exact congrArg (Value.int .i64) (by omega))))) ?_))
      · repeat (first | exact trivial | (refine And.intro (by (conv => lhs; whnf) <;> (conv => rhs; whnf) <;> (first | rfl | ((rw [hs2]; exact congrArg (Value.int .i64) (by omega))))) ?_))
    · have hs1 : sep.length = 0 := by rw [hsz] at h2; omega
      refine go ?_;try(clear hL;intro w hL)
      refine ⟨0, ⟨by rw [hs1, Nat.zero_mul], hL⟩, ?_, ?_⟩
      · repeat (first | exact trivial | (refine And.intro (by (conv => lhs; whnf) <;> (conv => rhs; whnf) <;> (first | rfl)) ?_))
      · repeat (first | exact trivial | (refine And.intro (by (conv => lhs; whnf) <;> (conv => rhs; whnf) <;> (first | rfl)) ?_))
  clear hL
  rintro d w f ⟨hd, hL⟩
  refine go ?_;try(clear hL;intro w hL)
  refine LoopReq.inv hX (fun s : Nat × Nat => [(5, .int .i64 s.1), (41, .int .i64 s.2)]) [0, 1, 39, 40]
    (fun s w => (s.2 ≤ n ∧ s.1 = d + totL (l.take s.2)) ∧ Ev.Loc m [] w0 m [] w) (fun s => n - s.2) (d, 0)
    ⟨⟨by omega, by simp [totL]⟩, hL⟩ ⟨rfl, rfl, trivial⟩ ?_
  clear hL
  rintro ⟨s, j⟩ w e ⟨⟨hj, hs3⟩, hL⟩
  simp only at hj hs3
  have htl := totL_le (l := l) j
  refine go ?_;try(clear hL;intro w hL)
  refine BrReq.dec (fun hlt => ?_) (fun hlt => ?_)
  · have hj1 : j < l.length := by simp only at hlt; omega
    obtain ⟨a1, rfl, hx⟩ := Sl.one hv' hj1
    have h1 := tot_one hj1
    have htk := totL_take hj1
    have hz1 := bs_size l[j]
    conv => whnf
    repeat ((first | (refine Idx2Req.mk j a1 rfl (by simp only at hlt; omega) rfl ?_) | refine LdReq.one hX rfl rfl hL hx ?_ | (refine ArReq.i64 (by simp only; omega) (by simp only; omega) ?_) | (refine go1 ?_;try(clear hL;intro w hL))); conv => whnf)
    refine BrReq.no (by simp only; omega) ?_
    conv => whnf
    repeat ((first | (refine ArReq.i64 (by simp only; omega) (by simp only; omega) ?_) | (refine go1 ?_;try(clear hL;intro w hL))); conv => whnf)
    refine ⟨(s + l[j].length, j + 1), ⟨⟨by simp only at hlt ⊢; omega, by simp only; omega⟩, hL⟩, by first | omega | (simp only; omega) | (simp only [List.length_cons, List.length_append]; omega), ?_, ?_⟩
    · repeat (first | exact trivial | (refine And.intro (by (conv => lhs; whnf) <;> (conv => rhs; whnf) <;> (first | rfl | ((rw [hz1]; exact congrArg (Value.int .i64) (by simp only; omega))))) ?_))
    · repeat (first | exact trivial | (refine And.intro (by (conv => lhs; whnf) <;> (conv => rhs; whnf) <;> (first | rfl | ((rw [hz1]; exact congrArg (Value.int .i64) (by simp only; omega))))) ?_))
  have ej : j = l.length := by simp only at hlt; omega
  subst ej
  rw [List.take_length] at hs3
  have hl0 : 0 < l.length := by omega
  have ht0 := tot_one hl0
  obtain ⟨a1, ea1, hx0⟩ := Sl.one hv' hl0
  have hd1 : 1 ≤ d := by rw [hd, hs1', Nat.one_mul]; omega
  refine go ?_;try(clear hL;intro w hL)
  refine NewReq.mk hL ?_
  clear hL
  intro b8 w hL
  conv => whnf
  refine go ?_;try(clear hL;intro w hL)
  refine CallReq.mk (L1 := [(b8, bdO none (.slice none 0 0))]) (L2 := []) (grow_fn m b8 s none (.inl rfl) (by omega) (by omega)) hL ?_
  clear hL
  rintro u m2 L w hL - ⟨rfl, rfl, hB, hBn⟩
  rw [List.append_nil] at hL
  conv => whnf
  repeat ((first | refine Idx2Req.mk 0 a1 rfl (by omega) ea1 ?_ | refine LdReq.one hX rfl rfl hL hx0 ?_ | (refine go1 ?_;try(clear hL;intro w hL))); conv => whnf)
  refine callWSN hB (by simp; omega) (.inr (.inr hBn)) hL ?_
  clear hL hB
  intro L w hB hL
  rw [List.nil_append] at hB
  have hsub := hv'.sub (lo := 1) (hi := n) (by omega) (Nat.le_refl _)
  rw [hn, List.take_length] at hsub
  conv => whnf
  repeat ((first | refine SlReq.mk 1 n rfl rfl (by omega) (by omega) ?_ | (refine go1 ?_;try(clear hL;intro w hL))); conv => whnf)
  have hdl : (l.drop 1).length = n - 1 := by rw [List.length_drop]; omega
  have hjl := jnT_len sep (l.drop 1)
  have htd : l[0].length + totL (l.drop 1) = totL l := by
    cases l with
    | nil => exact absurd hl0 (by simp)
    | cons a r => simp [totL]
  rw [hdl] at hjl
  have hcut : l = l[0] :: l.drop 1 := by
    cases l with
    | nil => exact absurd hl0 (by simp)
    | cons a r => rfl
  generalize l[0] = s0 at hB htd hcut
  generalize l.drop 1 = l1 at hsub hdl hjl htd hcut
  have hjm : ∀ j, (jnT sep (l1.take j)).length ≤ (jnT sep l1).length := fun j => by
    rw [jnT_len, jnT_len]
    have h1 := totL_le (l := l1) j
    have h2 : (l1.take j).length * sep.length ≤ l1.length * sep.length := Nat.mul_le_mul_right _ (by rw [List.length_take]; omega)
    omega
  have hcm : (n - 1) * sep.length ≤ n - 1 := by rw [Nat.mul_comm]; exact hsep
  refine LoopReq.inv hX (fun j : Nat => [(65, .int .i64 j)]) [1, 8, 63, 64]
    (fun j w => j ≤ n - 1 ∧ ∃ L, Bld b8 (s0 ++ jnT sep (l1.take j)) L ∧ Ev.Loc m2 [] w0 m2 L w) (fun j => n - 1 - j) 0
    ⟨by omega, L, by simpa [jnT] using hB, hL⟩ ⟨rfl, trivial⟩ ?_
  clear hL hB
  rintro j w e2 ⟨hj, L, hB, hL⟩
  have hjj := hjm j
  refine go ?_;try(clear hL;intro w hL)
  refine BrReq.dec (fun hlt => ?_) (fun hlt => ?_)
  · have hj1 : j < l1.length := by omega
    obtain ⟨a2, ea2, hx⟩ := Sl.one hsub hj1
    have htk := jnT_take sep hj1
    have hj2 := hjm (j + 1)
    have hlk : (jnT sep (l1.take (j + 1))).length = (jnT sep (l1.take j)).length + sep.length + l1[j].length := by rw [htk, List.length_append, List.length_append]
    conv => whnf
    repeat ((first | refine Idx2Req.mk j a2 rfl (by omega) ea2 ?_ | refine LdReq.one hX rfl rfl hL hx ?_ | (refine go1 ?_;try(clear hL;intro w hL))); conv => whnf)
    refine callWS hB (by rw [List.length_append]; omega) (.inr hsne) hL ?_
    clear hL hB
    intro L w hB hL
    refine go ?_;try(clear hL;intro w hL)
    refine callWS hB (by rw [List.length_append, List.length_append]; omega) (.inl (by simp [hsne])) hL ?_
    clear hL hB
    intro L w hB hL
    rw [List.append_assoc, List.append_assoc, ← List.append_assoc (jnT _ _), ← htk] at hB
    refine go ?_;try(clear hL;intro w hL)
    exact rnd (j + 1) ⟨by omega, L, hB, hL⟩
  · have ej : j = l1.length := by omega
    rw [ej, List.take_length] at hB
    refine go ?_;try(clear hL;intro w hL)
    refine CallReq.mk (L1 := L) (L2 := []) (string_fn m2 b8 _ L hB (fun e => by have hj2 := hjl; rw [hs1', Nat.mul_one] at hj2; have := congrArg List.length e; rw [List.length_append, List.length_nil] at this; omega)) (by rw [List.append_nil]; exact hL) ?_
    clear hL
    rintro u m3 L' w hL - ⟨rfl, rfl, rfl⟩
    refine go ?_;try(clear hL;intro w hL)
    exact RetReq.mk hL ⟨rfl, by rw [hcut, jn_cons]; rfl⟩
end Go.Proofs.YtloofgoblodeiaaGreatDoor.bd
