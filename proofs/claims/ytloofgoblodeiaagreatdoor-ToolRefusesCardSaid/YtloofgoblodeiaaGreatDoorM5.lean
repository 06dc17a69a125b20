/- ToolRefuses: part 5 of 10 of the proof. Conditions: none. -/
import Derived.Test.YtloofgoblodeiaaGreatDoorM4
import Derived.Test.YtloofgoblodeiaaGreatDoorM3
import Derived.OrdersHeld
import Derived.Shelf.Small.Utf8
import Derived.Shelf.Small.Strs
import Derived.Shelf.Strconv.Itoa0
import Derived.Shelf.Strconv.Itoa1
import Derived.Shelf.LaysM
import Derived.Shelf.Strconv.Itoa2
import Derived.Shelf.Strconv.Itoa3
import Derived.Shelf.Strings.Search1
import Derived.Shelf.Strings.Search2
import Derived.Shelf.Strings.Search3
import Derived.Shelf.Strings.Cut
import Derived.Shelf.Strings.Count
import Derived.Shelf.Strings.Shaped
import Derived.Shelf.Strings.Runes
import Derived.Shelf.Strings.AsciiSet
import Derived.Shelf.Bits.Mul64
import Derived.Shelf.Unicode.DecodeSlow
import Derived.Test.YtloofgoblodeiaaGreatDoorProg
namespace Go.Proofs.YtloofgoblodeiaaGreatDoor.am
open Go Go.Ev Go.Proofs.YtloofgoblodeiaaGreatDoor.co
open Go.Maps (Keyed)
noncomputable section
def KeysOk : Prop := ∀ kt, isIn kt keyTs = true → Keyed Tryz.prog kt
section
variable {m0 : Mem} {S : List Nat} {w0 : World} {c : Cf} {N : Nat} {ae : T Value} {e : Env}
theorem ld_raw {ι : At} {t off : Nat} {cells pre : List Value} {k : KV} (h : partB t cells off k = true) (hv : VRL ι cells pre) :
    ∃ v v', k v = true ∧ VR ι v v' ∧ ∀ (w : World) (b : Nat) (rest : List Value) (te : TypeId) (fz : Nat × Nat), w.heap[b]? = some (.cells (toArr (pre ++ rest)) te fz) → (loadVar t ⟨b, off, none⟩).run Tryz.prog w = .ok v' w := by
  obtain ⟨ti, ht, h⟩ := tyB_out h
  have hT := hX.t _ _ ht
  cases hd : ti.d.isAgg with
  | true =>
    rw [hd] at h
    obtain ⟨h1, h2⟩ := takeK_out h
    rw [dropL_eq] at h1 h2
    refine ⟨_, _, h2, .agg ((hv.drop off).take ti.size), fun w b rest te fz hb => ?_⟩
    have hl : ti.size ≤ (pre.drop off).length := by rw [(hv.drop off).len]; exact h1
    refine run_loadVar_agg hT hd (by rw [List.length_take]; omega) fun j v hj => ?_
    rw [addr_add, cell_of_heap hb]
    rw [List.getElem?_take] at hj
    split at hj
    · rw [List.getElem?_drop] at hj
      simp only [toArr, List.getElem?_toArray]
      rw [List.getElem?_append_left (List.getElem?_eq_some_iff.1 hj).1]
      exact hj
    · cases hj
  | false =>
    rw [hd] at h
    obtain ⟨v, h1, h2⟩ := nth_out h
    obtain ⟨v', h3, h4⟩ := hv.get h1
    refine ⟨v, v', h2, h4, fun w b rest te fz hb => ?_⟩
    refine run_loadVar_one hT hd ?_
    rw [cell_of_heap hb]
    simp only [toArr, List.getElem?_toArray]
    rw [List.getElem?_append_left (List.getElem?_eq_some_iff.1 h3).1]
    exact h3
theorem ldB_ok (h : Ok m0 S w0 c) {t : Nat} {a : Addr} {b kk : Nat} {k : KV} (ha : c.ι a.block = some (b, kk)) (hld : ldB c.M t a k = true) :
    ∃ v v', k v = true ∧ VR c.ι v v' ∧ ∃ ab o, c.M.get (pth a.block) = some ab ∧ Holds c ab b o ∧ ∀ w : World, w.heap[b]? = some o → (loadVar t ⟨b, a.off, none⟩).run Tryz.prog w = .ok v' w := by
  unfold ldB at hld
  cases he : isE a with
  | true => rw [he] at hld; cases hld
  | false =>
    rw [he] at hld
    dsimp only at hld
    cases hg : c.M.get (pth a.block) with
    | none => rw [hg] at hld; cases hld
    | some ab =>
      obtain ⟨-, b2, k2, o, h1, h2, h3⟩ := h.blk _ _ hg
      rw [ha] at h1
      injection h1 with h1
      injection h1 with h1 h1'
      subst h1 h1'
      rw [hg] at hld
      cases h2 with
      | cs g1 g2 g3 g4 =>
        obtain ⟨v, v', g5, g6, g7⟩ := ld_raw hld g1
        exact ⟨v, v', g5, g6, _, _, rfl, h3, fun w hw => g7 w _ _ _ _ hw⟩
      | mp => cases hld
      | gl g1 =>
        obtain ⟨v, v', g5, g6, g7⟩ := ld_raw hld g1
        exact ⟨v, v', g5, g6, _, _, rfl, h3, fun w hw => g7 w _ _ _ _ hw⟩
theorem newB_ok (h : Ok m0 S w0 c) {ab : AB} {o : Obj} {kN : Nat} {kk : Nat → Mm → Bool} (hAR : ∀ ι', At.le c.ι ι' → AR ι' kN ab o) (hst : ab.st = c.nx) (hown : ab.own = true) (hn : newB c.nx c.M ab kk = true) {K : Nat → World → Prop}
    (hK : ∀ (c' : Cf) b, kk c'.nx c'.M = true → To c c' → Ok m0 S w0 c' → c'.ι c.nx = some (b, kN) → K b c'.w) : NewReq c.w o K := by
  unfold newB at hn
  rw [putK_eq, fN_eq] at hn
  refine NewReq.mk h.loc fun b w' hL => ?_
  obtain ⟨h1, h2⟩ := h.new (k := kN) (m' := c.m) (Mem.Le.refl _) hL (hAR _ (h.upd_le _)) hst hown
  refine hK _ b hn h2 h1 ?_
  show upd c.ι c.nx (b, kN) c.nx = _
  unfold upd
  rw [if_pos rfl]
theorem stB_ok (h : Ok m0 S w0 c) {t : Nat} {a : Addr} {b kk : Nat} {v v' : Value} {k : Nat → Mm → Bool} {K : World → Prop} (ha : c.ι a.block = some (b, kk)) (hv : VR c.ι v v') (hs : stB c.nx c.M t a v k = true)
    (hK : ∀ (c' : Cf), k c'.nx c'.M = true → To c c' → Ok m0 S w0 c' → K c'.w) : StReq Tryz.prog t c.w ⟨b, a.off, none⟩ v' K := by
  unfold stB at hs
  cases he : isE a with
  | true => rw [he] at hs; cases hs
  | false =>
    rw [he] at hs
    dsimp only at hs
    cases hg : c.M.get (pth a.block) with
    | none => rw [hg] at hs; cases hs
    | some ab =>
      obtain ⟨-, b2, k2, o, h1, h2, h3⟩ := h.blk _ _ hg
      rw [ha] at h1
      injection h1 with h1
      injection h1 with h1 h1'
      subst h1 h1'
      rw [hg] at hs
      cases h2 with
      | mp => cases hs
      | gl g1 => cases hs
      | cs g1 g2 g3 g4 =>
        rename_i ty sz cells pre rest opn st
        obtain ⟨ti, ht, hs⟩ := tyB_out hs
        cases hq : Nat.beq (lenN (celL v)) ti.size with
        | false => rw [hq] at hs; cases hs
        | true =>
          rw [hq] at hs
          dsimp only at hs
          cases h1 : all1 (celL v) with
          | false => rw [h1] at hs; cases hs
          | true =>
            rw [h1] at hs
            dsimp only at hs
            obtain ⟨h5, h6⟩ := splK_out hs
            rw [putK_eq, fN_eq] at h6
            rw [celL_eq] at h1 h5 h6 hq
            rw [lenN_eq] at hq
            rw [all1_eq] at h1
            have hvl := hv.cells.len
            have hmem : (b, Obj.cells (toArr (pre ++ rest)) ty (0, 0)) ∈ c.L := h3
            have hpl := g1.len
            obtain ⟨L', hS⟩ := mem_sets (Obj.cells (toArr (spliceL (pre ++ rest) a.off v'.cells.toList)) ty (0, 0)) hmem
            refine zs hX ht (by rw [hvl]; exact hq) (by rw [hv.cells.one]; exact h1) h.loc hS (ble_of (by rw [hvl, List.length_append]; omega)) fun w' hL' => ?_
            have hsp : spliceL (pre ++ rest) a.off v'.cells.toList = spliceL pre a.off v'.cells.toList ++ rest := by
              rw [spliceL_eq _ _ _ (by rw [hvl, List.length_append]; omega), spliceL_eq _ _ _ (by rw [hvl]; omega), List.take_append_of_le_length (by omega), List.drop_append_of_le_length (by rw [hvl]; omega)]
              simp only [List.append_assoc]
            rw [hsp] at hS
            have hR := splice_R hv.cells g1 h5
            obtain ⟨k1, k2⟩ := h.set hg rfl ha hS (by rw [hsp] at *; exact hL') (ab' := .cs ty sz (cells.take a.off ++ v.cells.toList ++ cells.drop (a.off + v.cells.toList.length)) opn c.nx)
              (.cs hR g2 (by rw [← hsp, spliceL_eq _ _ _ (by rw [hvl, List.length_append]; omega), ← g3]; simp only [List.length_append, List.length_take, List.length_drop]; omega) g4) rfl rfl
            exact hK _ h6 k2 k1
theorem sliceOf_ok (h : Ok m0 S w0 c) {sz : Nat} {v v' : Value} {kk : Nat → List Value → Bool} (hv : VR c.ι v v') (hs : sliceOf c.M sz v kk = true) :
    ∃ n l l' A cap, kk n l = true ∧ VRL c.ι l l' ∧ v' = .slice A n cap ∧ l.length = n * sz ∧ ∀ (j : Nat) (u : Value), l'[j]? = some u → ∃ a, A = some a ∧ c.w.cell? (a.add j) = some u := by
  cases v with
  | slice a n d =>
    cases a with
    | none =>
      cases n with
      | zero =>
        obtain ⟨a', c', rfl, -⟩ := hv.slc_any
        exact ⟨0, [], [], a', c', hs, .nil, rfl, by simp, fun j u hj => by simp at hj⟩
      | succ n => cases hs
    | some a =>
      unfold sliceOf at hs
      dsimp only at hs
      cases he : isE a with
      | true =>
        rw [he] at hs
        cases n with
        | zero =>
          obtain ⟨a', c', rfl, -⟩ := hv.slc_any
          exact ⟨0, [], [], a', c', hs, .nil, rfl, by simp, fun j u hj => by simp at hj⟩
        | succ n => cases hs
      | false =>
        rw [he] at hs
        dsimp only at hs
        obtain ⟨b, k, cap, hι, ha, hdn, rfl, -⟩ := hv.slc_gen he
        cases hg : c.M.get (pth a.block) with
        | none => rw [hg] at hs; cases hs
        | some ab =>
          obtain ⟨-, b2, k2, o, h1, h2, h3⟩ := h.blk _ _ hg
          rw [hι] at h1
          injection h1 with h1
          injection h1 with h1 h1'
          subst h1 h1'
          have hh := h.heap h3
          rw [hg] at hs
          have key : ∀ (cells pre rest : List Value) (te : TypeId) (fz : Nat × Nat), VRL c.ι cells pre → c.w.heap[b]? = some (.cells (toArr (pre ++ rest)) te fz) → takeK (Nat.mul n sz) (dropL a.off cells) (fun l => kk n l) = true →
              ∃ n' l l' A cap2, kk n' l = true ∧ VRL c.ι l l' ∧ Value.slice (some ⟨b, a.off, none⟩) n cap = .slice A n' cap2 ∧ l.length = n' * sz ∧ ∀ (j : Nat) (u : Value), l'[j]? = some u → ∃ a, A = some a ∧ c.w.cell? (a.add j) = some u := by
            intro cells pre rest te fz g1 g2 g3
            obtain ⟨g4, g5⟩ := takeK_out g3
            rw [dropL_eq] at g4 g5
            refine ⟨n, _, _, _, _, g5, ((g1.drop a.off).take (Nat.mul n sz)), rfl, by rw [List.length_take]; exact Nat.min_eq_left g4, fun j u hj => ⟨_, rfl, ?_⟩⟩
            rw [addr_add, cell_of_heap g2]
            rw [List.getElem?_take] at hj
            split at hj
            · rw [List.getElem?_drop] at hj
              simp only [toArr, List.getElem?_toArray]
              rw [List.getElem?_append_left (List.getElem?_eq_some_iff.1 hj).1]
              exact hj
            · cases hj
          cases h2 with
          | mp => cases hs
          | gl g1 => exact key _ _ _ _ _ g1 hh hs
          | cs g1 g2 g3 g4 => exact key _ _ _ _ _ g1 hh hs
  | _ => cases hs
theorem run_append_none {t te : Nat} {ti tei : TI} {ty : TypeId} (ht : Ev.look X.T t = some (some ti)) (hd : ti.d = .slice te) (hte : Ev.look X.T te = some (some tei)) {A B : Option Addr} {n cap cap2 : Nat} (hn : n ≤ cap) (w : World) :
    (Builtin.append_ #[t, t] ty #[.slice A n cap, .slice B 0 cap2]).run Tryz.prog w = .ok (.slice A n cap) w := by
  have hu := td_slice (hX.t _ _ ht) hd
  have hsz := Ev.run_sizeOf (hX.t _ _ hte) w
  cases B with
  | none =>
    cases A with
    | none => simp [Builtin.append_, run_underlying hu, hsz, Result.andThen, Builtin.lenOf, Builtin.firstCells, hn]
    | some a => simp [Builtin.append_, run_underlying hu, hsz, Result.andThen, Builtin.lenOf, Builtin.firstCells, hn, storeCells]
  | some b =>
    cases A with
    | none => simp [Builtin.append_, run_underlying hu, hsz, Result.andThen, Builtin.lenOf, Builtin.firstCells, hn, loadCells, loadCellsFrom]
    | some a => simp [Builtin.append_, run_underlying hu, hsz, Result.andThen, Builtin.lenOf, Builtin.firstCells, hn, storeCells, loadCells, loadCellsFrom]
theorem byK_eq : ∀ (l : List UInt8) (k : List Value → Bool), byK l k = k (byC l)
  | [], k => rfl
  | b :: l, k => by
    show fN b.toNat (fun n => byK l fun l => k (.int .u8 (.ofNat n) :: l)) = _
    rw [fN_eq, byK_eq l]; rfl
theorem byC_flat : ∀ l : List UInt8, flatL (byC l) = true
  | [] => rfl
  | b :: l => byC_flat l
theorem byC_ints (l : List UInt8) : byC l = ints .u8 (bd.bI l) := by
  unfold byC ints bd.bI
  rw [List.map_map]; rfl
theorem toB_out : ∀ {l : List Value} {k : List UInt8 → Bool}, toB l k = true → ∃ bt, k bt = true ∧ l = byC bt
  | [], k, h => ⟨[], h, rfl⟩
  | v :: l, k, h => by
    have h : (match (generalizing := false) v with
      | .int .u8 (.ofNat n) => match Nat.blt n 256 with | true => toB l fun l => k (UInt8.ofNat n :: l) | false => false
      | _ => false) = true := h
    split at h
    case h_2 => cases h
    rename_i n _
    cases hb : Nat.blt n 256 with
    | false => rw [hb] at h; cases h
    | true =>
      rw [hb] at h
      have hlt : n < 256 := by simpa [Nat.blt_eq] using hb
      obtain ⟨bt, h1, h2⟩ := toB_out h
      refine ⟨UInt8.ofNat n :: bt, h1, ?_⟩
      show _ = Value.int .u8 ((UInt8.ofNat n).toNat : Nat) :: byC bt
      rw [h2, UInt8.toNat_ofNat_of_lt' hlt]; rfl
theorem apsB_ok (h : Ok m0 S w0 c) {t t' : Nat} {ty : TypeId} {l l' : List Value} {k : KS} {K : Value → World → Prop} (hl : VRL c.ι l l') (ha : apsB c.nx c.M t t' l k = true)
    (hK : ∀ v (c' : Cf) v', k v c'.nx c'.M = true → To c c' → Ok m0 S w0 c' → VR c'.ι v v' → K v' c'.w) : RunReq Tryz.prog (Builtin.append_ #[t, t'] ty (toArr l')) c.w K := by
  unfold apsB at ha
  split at ha
  case h_2 => cases ha
  rename_i htt
  rw [Bool.and_eq_true] at htt
  have e1 := Nat.eq_of_beq_eq_true htt.1
  have e2 := Nat.eq_of_beq_eq_true htt.2
  subst e1 e2
  split at ha
  case h_2 => cases ha
  rename_i x s
  match l', hl with
  | [x', y'], .cons hx (.cons hy .nil) =>
  have hy := hy.str
  subst hy
  rw [byK_eq] at ha
  have hs : s = ⟨s.data.toList.toArray⟩ := by obtain ⟨⟨q⟩⟩ := s; rfl
  generalize hq : s.data.toList = q at ha hs
  rw [hs]
  cases q with
  | nil =>
    change (match (generalizing := false) x with | .slice (some ⟨_, 0, none⟩) _ 0 => k x c.nx c.M | _ => false) = true at ha
    split at ha
    case h_2 => cases ha
    rename_i g n1
    obtain ⟨b, kb, hι, -, hdn, rfl⟩ := hx.slc_out rfl
    refine RunReq.mk (v := .slice (some ⟨b, 0, none⟩) n1 (kb - 0)) (w' := c.w) ?_ (hK _ c _ ha (To.refl _) h hx)
    have hsz := Ev.run_sizeOf (P := Tryz.prog) (hX.t 5 _ rfl) c.w
    simp only [Nat.zero_add] at hdn
    simp [Builtin.append_, toArr, run_underlying Tryz.underlying27, run_underlying Tryz.underlying9, hsz, Result.andThen, Builtin.lenOf, Builtin.firstCells, hdn, storeCells, show (ByteArray.mk #[]).size = 0 from rfl]
  | cons b0 q =>
    have hq0 : 0 < (b0 :: q).length := Nat.succ_pos _
    have hby : byC (b0 :: q) = .int .u8 (b0.toNat : Nat) :: byC q := rfl
    rw [hby] at ha
    dsimp only at ha
    rw [← hby] at ha
    generalize hqq : b0 :: q = q at ha hs hq0
    have hlen : (byC q).length = q.length := by simp [byC]
    cases hbig : Nat.ble (lenN (byC q)) 1000000 with
    | false => rw [hbig] at ha; cases ha
    | true =>
    rw [hbig] at ha
    dsimp only at ha
    have hbig := Nat.le_of_ble_eq_true hbig
    rw [lenN_eq, hlen] at hbig
    have hil : (ints .u8 (bd.bI q)).length = q.length := by rw [← byC_ints, hlen]
    split at ha
    · obtain ⟨-, -, rfl⟩ := hx.slc_nil
      rw [fN_eq, lenN_eq, hlen] at ha
      unfold newB at ha
      rw [putK_eq, fN_eq] at ha
      refine bd.appendStr (OwnS.nil 5 1) (L1 := []) (L2 := c.L) h.loc hq0 (by rw [List.length_nil]; omega) ?_
      intro A n cc L1' w' hn hoo hl'
      rw [List.nil_append, ← byC_ints] at hoo
      obtain ⟨n', f1, ⟨f2, f3, -⟩ | ⟨g', cap, cur, f2, rfl, f4, f5, f6, f7⟩⟩ := hoo
      · exfalso; rw [hlen, f3] at f1; omega
      · injection f2 with f8 f9 f10
        subst f8 f9 f10
        rw [List.length_nil, Nat.zero_add] at hn
        have hcur : cur = byC q ++ cur.drop (n * 1) := by rw [← f7, List.take_append_drop]
        rw [hcur] at hl' f6
        obtain ⟨k1, k2⟩ := h.new (k := cc) (ab := .cs 5 1 (byC q) true c.nx) (Mem.Le.refl _) hl' (.cs (flatL_out (byC_flat q)) (fun hc => by cases hc) f6 f5) rfl rfl
        rw [← hn] at ha
        refine hK _ _ _ ha k2 k1 ?_
        have hu : upd c.ι c.nx (g', cc) c.nx = some (g', cc) := by unfold upd; rw [if_pos rfl]
        exact VR.slc hu (by omega)
    · rename_i g n1
      cases hg : c.M.get (pth g) with
      | none => rw [hg] at ha; cases ha
      | some ab =>
      rw [hg] at ha
      split at ha
      case h_2 => cases ha
      rename_i ty2 sz cells opn st e
      injection e with e
      subst e
      split at ha
      case h_2 => cases ha
      rename_i hc2
      rw [Bool.and_eq_true] at hc2
      obtain ⟨e1, e2⟩ := hc2
      have e1 := Nat.eq_of_beq_eq_true e1
      have e2 := Nat.eq_of_beq_eq_true e2
      subst e1 e2
      obtain ⟨g6, g7⟩ := takeK_out ha
      rw [catK_eq] at g7
      split at g7
      case h_2 => cases g7
      rename_i hle
      have hle := Nat.le_of_ble_eq_true hle
      rw [lenN_eq] at hle
      rw [putK_eq, fN_eq] at g7
      unfold newB at g7
      rw [putK_eq, fN_eq, lenN_eq] at g7
      obtain ⟨b, kb, hι, -, hdn, rfl⟩ := hx.slc_out rfl
      obtain ⟨-, b2, k2, o, h5, h6, h7⟩ := h.blk _ _ hg
      rw [hι] at h5
      injection h5 with h5
      injection h5 with h5 h5'
      subst h5 h5'
      cases h6 with
      | cs q1 q2 q3 q4 =>
      rename_i pre rest
      obtain ⟨L2, hP⟩ := mem_out (show (b, Obj.cells (toArr (pre ++ rest)) 5 (0, 0)) ∈ c.L from h7)
      have hown : OwnS 5 1 (.slice (some ⟨b, 0, none⟩) n1 kb) ((pre ++ rest).take (n1 * 1)) [(b, .cells (toArr (pre ++ rest)) 5 (0, 0))] := OwnS.block (by omega) q4 q3
      have hpl := q1.len
      have htk : (pre ++ rest).take (n1 * 1) = pre.take n1 := by rw [Nat.mul_one, List.take_append_of_le_length (by rw [hpl]; exact g6)]
      rw [htk] at hown
      have hR : VRL c.ι (cells.take n1 ++ byC q) (pre.take n1 ++ byC q) := (q1.take _).app (flatL_out (byC_flat q))
      have hlen1 : (pre.take n1).length = n1 := by rw [List.length_take]; exact Nat.min_eq_left (by rw [hpl]; exact g6)
      refine bd.appendStr hown (L1 := [_]) (L2 := L2) (h.loc.perm hP) hq0 (by rw [hlen1]; have := hR.len; rw [List.length_append, hlen1, hlen] at this; omega) ?_
      intro A n cc L1' w' hn hoo hl'
      rw [← byC_ints] at hoo
      obtain ⟨n', f1, ⟨f2, f3, -⟩ | ⟨g', cap, cur, f2, rfl, f4, f5, f6, f7⟩⟩ := hoo
      · exfalso; rw [List.length_append, hlen, f3] at f1; omega
      · injection f2 with f8 f9 f10
        subst f8 f9 f10
        rw [hlen1] at hn
        have hcur : cur = (pre.take n1 ++ byC q) ++ cur.drop (n * 1) := by rw [← f7, List.take_append_drop]
        rw [hcur] at hl' f6
        obtain ⟨k1, k2⟩ := h.swap (kN := cc) (ab' := .cs 5 1 (cells.take n1 ++ byC q) true c.nx) hg rfl hι hP hl' (.cs (hR.mono (h.upd_le _)) (fun hc => by cases hc) f6 f5) rfl rfl
        have hnn : (cells.take n1 ++ byC q).length = n := by rw [← hR.len, List.length_append, hlen1, hlen]; exact hn.symm
        rw [hnn] at g7
        refine hK _ _ _ g7 k2 k1 ?_
        have hu : upd c.ι c.nx (g', cc) c.nx = some (g', cc) := by unfold upd; rw [if_pos rfl]
        exact VR.slc hu (by omega)
    · cases ha
theorem appB_ok (h : Ok m0 S w0 c) {ats : Array TypeId} {ty : TypeId} {l l' : List Value} {k : KS} {K : Value → World → Prop} (hl : VRL c.ι l l') (ha : appB c.nx c.M ats.toList l k = true)
    (hK : ∀ v (c' : Cf) v', k v c'.nx c'.M = true → To c c' → Ok m0 S w0 c' → VR c'.ι v v' → K v' c'.w) : RunReq Tryz.prog (Builtin.append_ ats ty (toArr l')) c.w K := by
  unfold appB at ha
  split at ha
  case h_2 => cases ha
  rename_i t t' hat
  have hat : ats = #[t, t'] := Array.ext' hat
  subst hat
  cases htt : Nat.beq t t' with
  | false => rw [htt] at ha; exact apsB_ok h hl ha hK
  | true =>
  rw [htt] at ha
  have htt := Nat.eq_of_beq_eq_true htt
  subst htt
  dsimp only at ha
  obtain ⟨ti, ht, ha⟩ := tyB_out ha
  split at ha
  case h_2 => cases ha
  rename_i te hd
  obtain ⟨tei, hte, ha⟩ := tyB_out ha
  split at ha
  case h_2 => cases ha
  rename_i hcond
  simp only [Bool.and_eq_true] at hcond
  obtain ⟨⟨hsz, hzs⟩, hby⟩ := hcond
  have hsz' : 0 < tei.size := by simpa [Nat.blt_eq] using hsz
  have hby' : Nat.ble tei.bytes (128 * tei.size) = true := hby
  split at ha
  case h_2 => cases ha
  rename_i x y
  match l', hl with
  | [x', y'], .cons hx (.cons hy .nil) =>
  obtain ⟨n2, c2, c2', A, cap2, g1, g2, rfl, g4, g5⟩ := sliceOf_ok h hy ha
  have harg : toArr [x', .slice A n2 cap2] = #[x', .slice A n2 cap2] := rfl
  cases n2 with
  | zero =>
    dsimp only at g1
    split at g1
    case h_2 => cases g1
    obtain ⟨A', n', cap', rfl, hle⟩ : ∃ A' n' cap', x' = .slice A' n' cap' ∧ n' ≤ cap' := by
      cases hx with
      | same hf => unfold flat1 at hf; split at hf <;> first | (cases hf; done) | (rename_i e; cases e <;> first | exact ⟨_, _, _, rfl, Nat.le_refl _⟩ | done) | skip
      | slc q1 q2 => exact ⟨_, _, _, rfl, by omega⟩
      | slx q1 q2 q3 => exact ⟨_, _, _, rfl, q3⟩
      | emp => exact ⟨_, _, _, rfl, Nat.zero_le _⟩
    exact RunReq.mk (run_append_none ht hd hte hle c.w) (hK _ c _ g1 (To.refl _) h hx)
  | succ n2 =>
    dsimp only at g1
    cases h1 : all1 c2 with
    | false => rw [h1] at g1; cases g1
    | true =>
    rw [h1] at g1
    rw [all1_eq] at h1
    dsimp only at g1
    have hg2 := g2.len
    cases hbig : Nat.ble (Nat.mul (Nat.succ n2) tei.size) 1000000 with
    | false => rw [hbig] at g1; cases g1
    | true =>
    rw [hbig] at g1
    dsimp only at g1
    have hbig : (n2 + 1) * tei.size ≤ 1099511627776 := Nat.le_trans (Nat.le_of_ble_eq_true hbig) (by decide)
    have h1' : ∀ u ∈ c2', u.oneCell' = true := fun u hu => List.all_eq_true.1 (by rw [g2.one]; exact h1) u hu
    split at g1
    · obtain ⟨-, -, rfl⟩ := hx.slc_nil
      unfold newB at g1
      rw [putK_eq, fN_eq] at g1
      refine RunReq.append hX t te ht hd hte hsz hzs (OwnS.nil te tei.size) (L1 := []) (L2 := c.L) h.loc (by rw [hg2]; exact g4) g5 h1' (by rw [List.length_nil, Nat.zero_add, hg2, g4]; exact hbig) hby' ?_
      intro A n cc L1' w' hn hoo hl'
      obtain ⟨n', f1, ⟨f2, f3, -⟩ | ⟨g', cap, cur, f2, rfl, f4, f5, f6, f7⟩⟩ := hoo
      · exfalso
        rw [List.nil_append, hg2, g4, f3] at f1
        have : 0 < (n2 + 1) * tei.size := Nat.mul_pos (by omega) hsz'
        omega
      · injection f2 with f8 f9 f10
        subst f8 f9 f10
        have hnn : n2 + 1 = n := by
          rw [List.nil_append, hg2, g4] at f1
          exact Nat.eq_of_mul_eq_mul_right hsz' f1
        rw [List.nil_append] at f7
        have hcur : cur = c2' ++ cur.drop (n * tei.size) := by rw [← f7, List.take_append_drop]
        rw [hcur] at hl' f6
        obtain ⟨k1, k2⟩ := h.new (k := cc) (ab := .cs te tei.size c2 true c.nx) (Mem.Le.refl _) hl' (.cs (g2.mono (h.upd_le _)) (fun hc => by cases hc) f6 f5) rfl rfl
        rw [← hnn]
        refine hK _ _ _ g1 k2 k1 ?_
        have hu : upd c.ι c.nx (g', cc) c.nx = some (g', cc) := by unfold upd; rw [if_pos rfl]
        exact VR.slc hu (by rw [Nat.zero_add]; show n2 + 1 ≤ cc; omega)
    · rename_i g n1
      cases hg : c.M.get (pth g) with
      | none => rw [hg] at g1; cases g1
      | some ab =>
      rw [hg] at g1
      split at g1
      case h_2 => cases g1
      rename_i ty2 sz cells opn st e
      injection e with e
      subst e
      split at g1
      case h_2 => cases g1
      rename_i hc2
      rw [Bool.and_eq_true] at hc2
      obtain ⟨e1, e2⟩ := hc2
      have e1 := Nat.eq_of_beq_eq_true e1
      have e2 := Nat.eq_of_beq_eq_true e2
      subst e1 e2
      obtain ⟨g6, g7⟩ := takeK_out g1
      rw [catK_eq] at g7
      split at g7
      case h_2 => cases g7
      rename_i hle
      have hle := Nat.le_of_ble_eq_true hle
      rw [lenN_eq] at hle
      rw [putK_eq, fN_eq] at g7
      unfold newB at g7
      rw [putK_eq, fN_eq] at g7
      obtain ⟨b, kb, hι, -, hdn, rfl⟩ := hx.slc_out rfl
      obtain ⟨-, b2, k2, o, h5, h6, h7⟩ := h.blk _ _ hg
      rw [hι] at h5
      injection h5 with h5
      injection h5 with h5 h5'
      subst h5 h5'
      cases h6 with
      | cs q1 q2 q3 q4 =>
      rename_i pre rest
      obtain ⟨L2, hP⟩ := mem_out (show (b, Obj.cells (toArr (pre ++ rest)) ty2 (0, 0)) ∈ c.L from h7)
      have hown : OwnS ty2 tei.size (.slice (some ⟨b, 0, none⟩) n1 kb) ((pre ++ rest).take (n1 * tei.size)) [(b, .cells (toArr (pre ++ rest)) ty2 (0, 0))] := OwnS.block (by omega) q4 q3
      have hpl := q1.len
      have htk : (pre ++ rest).take (n1 * tei.size) = pre.take (n1 * tei.size) := by rw [List.take_append_of_le_length (by rw [hpl]; exact g6)]
      rw [htk] at hown
      have hR : VRL c.ι (cells.take (n1 * tei.size) ++ c2) (pre.take (n1 * tei.size) ++ c2') := (q1.take _).app g2
      have hlen1 : (pre.take (n1 * tei.size)).length = n1 * tei.size := by rw [List.length_take]; exact Nat.min_eq_left (by rw [hpl]; exact g6)
      refine RunReq.append hX t ty2 ht hd hte hsz hzs hown (L1 := [_]) (L2 := L2) (h.loc.perm hP) (by rw [hg2]; exact g4) g5 h1' (by rw [← List.length_append, hR.len]; exact Nat.le_trans hle (by decide)) hby' ?_
      intro A n cc L1' w' hn hoo hl'
      obtain ⟨n', f1, ⟨f2, f3, -⟩ | ⟨g', cap, cur, f2, rfl, f4, f5, f6, f7⟩⟩ := hoo
      · exfalso
        rw [List.length_append, hlen1, hg2, g4, f3] at f1
        have : 0 < (n2 + 1) * tei.size := Nat.mul_pos (by omega) hsz'
        omega
      · injection f2 with f8 f9 f10
        subst f8 f9 f10
        have hnn : n1 + (n2 + 1) = n := by
          rw [List.length_append, hlen1, hg2, g4, ← Nat.add_mul] at f1
          exact Nat.eq_of_mul_eq_mul_right hsz' f1
        have hcur : cur = (pre.take (n1 * tei.size) ++ c2') ++ cur.drop (n * tei.size) := by rw [← f7, List.take_append_drop]
        rw [hcur] at hl' f6
        obtain ⟨k1, k2⟩ := h.swap (kN := cc) (ab' := .cs ty2 tei.size (cells.take (n1 * tei.size) ++ c2) true c.nx) hg rfl hι hP hl' (.cs (hR.mono (h.upd_le _)) (fun hc => by cases hc) f6 f5) rfl rfl
        rw [← hnn]
        refine hK _ _ _ g7 k2 k1 ?_
        have hu : upd c.ι c.nx (g', cc) c.nx = some (g', cc) := by unfold upd; rw [if_pos rfl]
        exact VR.slc hu (by rw [Nat.zero_add]; show n1 + (n2 + 1) ≤ cc; omega)
    · cases g1
end
end
end Go.Proofs.YtloofgoblodeiaaGreatDoor.am
namespace Go.Proofs.YtloofgoblodeiaaGreatDoor.am
open Go Go.Ev Go.Proofs.YtloofgoblodeiaaGreatDoor.co
open Go.Maps (Keyed)
noncomputable section
def CallOk (m0 : Mem) (S : List Nat) (w0 : World) (call : Callee') : Prop := ∀ (g : Nat) (args args' : List Value) (c : Cf) (k : KS) (K : Value → World → Prop), Ok m0 S w0 c → VRL c.ι args args' → call g args c.nx c.M k = true →
  (∀ v (c' : Cf) v', k v c'.nx c'.M = true → To c c' → Ok m0 S w0 c' → VR c'.ι v v' → K v' c'.w) → CallReq Tryz.prog g (toArr args') c.w K
section
variable {m0 : Mem} {S : List Nat} {w0 : World} {c : Cf} {N : Nat} {ae : T Value} {e : Env} {call : Callee'}
theorem sets_at {L : Own} {b : Nat} {o o' : Obj} : ∀ {i : Nat}, Ev.look L i = some (b, o) → Sets L b o o' (L.set i (b, o')) := by
  induction L with
  | nil => intro i h; simp [Ev.look] at h
  | cons x L ih =>
    intro i h
    cases i with
    | zero => simp [Ev.look] at h; subst h; exact .h
    | succ i => exact .t (ih h)
theorem mapW_B (l : List (Value × Value)) : mapW l = mapB 0 l := by unfold mapW mapB; rw [Nat.zero_add]
theorem map_at (h : Ok m0 S w0 c) {r b kk : Nat} (hr : c.ι r = some (b, kk)) {kt : Nat} {l : List (Value × Value)} {st : Nat} (hg : c.M.get (pth r) = some (.mp kt l st)) :
    ∃ l', MR c.ι l l' ∧ (∀ x ∈ l', IsK Tryz.prog kt x.1) ∧ isIn kt keyTs = true ∧ (l'.map (·.1)).Nodup ∧ (b, mapW l') ∈ c.L := by
  obtain ⟨-, b2, k2, o, h1, h2, h3⟩ := h.blk _ _ hg
  rw [hr] at h1
  injection h1 with h1
  injection h1 with h1 h1'
  subst h1 h1'
  cases h2 with
  | mp g1 g2 g3 g4 => exact ⟨_, g1, g2, g3, g4, h3⟩
theorem isKB_out {kt : Nat} {key : Value} (h : isKB kt key = true) : isIn kt keyTs = true ∧ flatV key = true ∧ IsK Tryz.prog kt key := by
  unfold isKB at h
  cases h1 : isIn kt keyTs with
  | false => rw [h1] at h; cases h
  | true =>
    rw [h1] at h
    cases h2 : flatV key with
    | false => rw [h2] at h; cases h
    | true =>
      rw [h2] at h
      exact ⟨rfl, rfl, Option.isSome_iff_exists.1 h⟩
theorem MR.len {ι : At} : ∀ {l l' : List (Value × Value)}, MR ι l l' → l'.length = l.length
  | _, _, .nil => rfl
  | _, _, .cons _ _ h => by simp [h.len]
theorem zero_rep1 (n : Nat) (z : Value) (hz : z.cells = #[z]) : (Builtin.zeroCells z.cells n).toList = List.replicate n z := by
  rw [hz]
  simp [Builtin.zeroCells]
  apply List.ext_getElem
  · simp
  · intro i h1 h2
    simp [Nat.mod_one]
theorem clear_ok {o : Oper} {ρ : Operand → Value} {c : Call} {m0 m : Mem} {S : List Nat} {w0 w : World} {L : Own} {t e ty : TypeId} {g off n cap : Nat} {cur : List Value} {z : Value} {K : Value → World → Prop} (ho : o.op = .call c) (hc : c.callee = .builtin .clear) (hat : c.argTypes = #[t])
    (hu : Tryz.prog.underlying t = some (.slice e)) (hz0 : ∀ w, (zeroValue e).run Tryz.prog w = .ok z w) (hz : z.cells = #[z]) (h1 : z.oneCell' = true) (ha : c.args.toList.map ρ = [.slice (some ⟨g, off, none⟩) n cap]) (hn : 0 < n) (i : Nat)
    (hL : Ev.Loc m0 S w0 m L w) (hi : Ev.look L i = some (g, .cells (toArr cur) ty (0, 0))) (hle : off + n ≤ cur.length)
    (h : ∀ w', Ev.Loc m0 S w0 m (L.set i (g, .cells (toArr (spliceL cur off (List.replicate n z))) ty (0, 0))) w' → K (.tuple #[]) w') : GenReq Tryz.prog o ρ w K := by
  constructor
  unfold OpOk
  have hargs : c.args.map ρ = #[.slice (some ⟨g, off, none⟩) n cap] := by apply Array.ext'; rw [Array.toList_map, ha]
  have hex : execOp ρ o = (do pure (.value (← Builtin.clear_ c.argTypes o.type #[.slice (some ⟨g, off, none⟩) n cap]))) := by rw [← hargs]; simp [execOp, ho, resolve, hc, Go.invoke, builtin]
  obtain ⟨w', hst, hl⟩ := run_storeCells (P := Tryz.prog) ty (List.replicate n z) 0 hL hi (by simpa using hle) (by intro v hv; rw [List.eq_of_mem_replicate hv]; exact h1)
  obtain ⟨k, rfl⟩ : ∃ k, n = k + 1 := ⟨n - 1, by omega⟩
  have hrun : (Builtin.clear_ c.argTypes o.type #[.slice (some ⟨g, off, none⟩) (k + 1) cap]).run Tryz.prog w = .ok (.tuple #[]) w' := by
    rw [hat]
    simp [Builtin.clear_, run_underlying hu, hz0, zero_rep1 _ _ hz, hst]
  rw [hex]
  simp only [Sem.run_bind, hrun, Result.andThen_ok, Sem.run_pure, upon]
  exact h w' (by simpa using hl)
theorem zerosL_one (z : Value) : ∀ n, zerosL n [z] = List.replicate n z
  | 0 => rfl
  | n + 1 => by show [z] ++ zerosL n [z] = _; rw [zerosL_one z n]; rfl
theorem own_at (h : Ok m0 S w0 c) {r b kk : Nat} (hr : c.ι r = some (b, kk)) {ty sz st : Nat} {cells : List Value} {opn : Bool} (hg : c.M.get (pth r) = some (.cs ty sz cells opn st)) :
    ∃ pre rest, VRL c.ι cells pre ∧ (opn = false → rest = []) ∧ (pre ++ rest).length = kk * sz ∧ kk ≤ maxLen ∧ (b, Obj.cells (toArr (pre ++ rest)) ty (0, 0)) ∈ c.L := by
  obtain ⟨-, b2, k2, o, h1, h2, h3⟩ := h.blk _ _ hg
  rw [hr] at h1
  injection h1 with h1
  injection h1 with h1 h1'
  subst h1 h1'
  cases h2 with
  | cs g1 g2 g3 g4 => exact ⟨_, _, g1, g2, g3, g4, h3⟩
theorem write_at (h : Ok m0 S w0 c) {r b kk : Nat} (hr : c.ι r = some (b, kk)) {ty sz st off : Nat} {cells vs vs' pre rest : List Value} {opn : Bool} {i : Nat} {w' : World} (hg : c.M.get (pth r) = some (.cs ty sz cells opn st))
    (g1 : VRL c.ι cells pre) (g2 : opn = false → rest = []) (g3 : (pre ++ rest).length = kk * sz) (g4 : kk ≤ maxLen) (hi : Ev.look c.L i = some (b, Obj.cells (toArr (pre ++ rest)) ty (0, 0))) (hv : VRL c.ι vs vs') (hle : off + vs.length ≤ cells.length)
    (hL : Ev.Loc m0 S w0 c.m (c.L.set i (b, .cells (toArr (spliceL (pre ++ rest) off vs')) ty (0, 0))) w') :
    let c' : Cf := ⟨c.ι, c.nx + 1, T.put (pth r) c.M (some (.cs ty sz (cells.take off ++ vs ++ cells.drop (off + vs.length)) opn c.nx)), c.m, c.L.set i (b, .cells (toArr (spliceL (pre ++ rest) off vs')) ty (0, 0)), w'⟩
    Ok m0 S w0 c' ∧ To c c' := by
  have hvl := hv.len
  have hpl := g1.len
  have hsp : spliceL (pre ++ rest) off vs' = spliceL pre off vs' ++ rest := by
    rw [spliceL_eq _ _ _ (by rw [hvl, List.length_append]; omega), spliceL_eq _ _ _ (by rw [hvl]; omega), List.take_append_of_le_length (by omega), List.drop_append_of_le_length (by rw [hvl]; omega)]
    simp only [List.append_assoc]
  have hR := splice_R hv g1 hle
  have hlen : (spliceL pre off vs' ++ rest).length = kk * sz := by rw [← hsp, spliceL_eq _ _ _ (by rw [hvl, List.length_append]; omega), ← g3]; simp only [List.length_append, List.length_take, List.length_drop]; omega
  have hS := sets_at (o' := Obj.cells (toArr (spliceL (pre ++ rest) off vs')) ty (0, 0)) hi
  rw [hsp] at hL hS ⊢
  exact h.set hg rfl hr hS hL (.cs hR g2 hlen g4) rfl rfl
theorem aCall_ok (hcall : CallOk m0 S w0 call) (h : Ok m0 S w0 c) (hE : ER c.ι N ae e) {o : Oper} {cl : Call} (ho : o.op = .call cl) {k : KS} {K : Value → World → Prop} (ha : aCall call N cl ae c.nx c.M k = true)
    (hK : ∀ v (c' : Cf) v', k v c'.nx c'.M = true → To c c' → Ok m0 S w0 c' → VR c'.ι v v' → K v' c'.w) : evCall Tryz.prog X N o cl e c.w K := by
  unfold evCall
  unfold aCall at ha
  cases hc : cl.callee with
  | builtin b =>
    rw [hc] at ha
    cases b <;> dsimp only at ha ⊢ <;> first | (cases ha; done) | skip
    case append =>
      obtain ⟨l, h1, h2⟩ := ardL_out h.gl hE ha
      rw [forceL_eq]
      exact appB_ok h h2 h1 hK
    case clear =>
      split at ha
      case h_2 => cases ha
      rename_i t hat
      have hat : cl.argTypes = #[t] := Array.ext' hat
      obtain ⟨ti, ht, ha⟩ := tyB_out ha
      split at ha
      case h_2 => cases ha
      rename_i te hd
      obtain ⟨tei, hte, ha⟩ := tyB_out ha
      obtain ⟨l, h1, h2⟩ := ardL_out h.gl hE ha
      split at h1
      case h_2 => cases h1
      rename_i a n d
      cases he : isE a with
      | true => rw [he] at h1; cases h1
      | false =>
      rw [he] at h1
      dsimp only at h1
      split at h1
      case h_2 => cases h1
      rename_i ty sz cells opn st hg
      unfold zeroB at h1
      cases hz : (Tryz.prog.info? te).bind (·.zero) with
      | none => rw [hz] at h1; cases h1
      | some z0 =>
      rw [hz] at h1
      dsimp only at h1
      cases hf : flatV z0 with
      | false => rw [hf] at h1; cases h1
      | true =>
      rw [hf] at h1
      dsimp only at h1
      split at h1
      case h_2 => cases h1
      rename_i hcond
      simp only [Bool.and_eq_true] at hcond
      obtain ⟨⟨⟨q1, q2⟩, q3⟩, hone⟩ := hcond
      rw [repK_eq] at h1
      obtain ⟨g6, g7⟩ := splK_out h1
      rw [putK_eq, fN_eq] at g7
      generalize hr : rdl N e cl.args.toList = rr at h2
      match rr, h2 with
      | [x'], .cons hx .nil =>
      obtain ⟨b, kb, cap0, hι, hae, hdn, rfl, -⟩ := hx.slc_gen he
      obtain ⟨pre, rest, p1, p2, p3, p4, p5⟩ := own_at h hι hg
      obtain ⟨i, hi⟩ := (mem_lies p5).ex
      have hz0 : ∀ w, (zeroValue te).run Tryz.prog w = .ok z0 w := by
        intro w
        cases hi2 : Tryz.prog.info? te with
        | none => rw [hi2] at hz; cases hz
        | some ii => rw [hi2] at hz; simp only [Option.bind_some] at hz; simp [zeroValue, Ev.run_typeInfo hi2, hz]
      have hzc2 : z0.cells = #[z0] := by cases z0 <;> first | rfl | (cases q3; done)
      rw [zerosL_one] at g6 g7
      have hfl : flatL [z0] = true := by show (match flat1 z0 with | true => true | false => false) = true; rw [q3]
      have hrl : VRL c.ι (List.replicate n z0) (List.replicate n z0) := by rw [← zerosL_one]; exact VRL.reps hfl n
      rw [List.length_replicate] at g6
      refine clear_ok ho hc hat (td_slice (hX.t _ _ ht) hd) hz0 hzc2 hone (by rw [← rdl_eq]; exact hr) (by simpa [Nat.blt_eq] using q2) i h.loc hi (by rw [List.length_append, p1.len]; omega) fun w' hL' => ?_
      obtain ⟨k1, k2⟩ := write_at h hι hg p1 p2 p3 p4 hi hrl (by rw [List.length_replicate]; exact g6) hL'
      exact hK _ _ _ g7 k2 k1 VR.undef
    case copy =>
      rw [forceL_eq]
      split at ha
      case h_2 => cases ha
      rename_i t t2 hat
      have hat : cl.argTypes = #[t, t2] := Array.ext' hat
      obtain ⟨ti, ht, ha⟩ := tyB_out ha
      split at ha
      case h_2 => cases ha
      rename_i te hd
      obtain ⟨tei, hte, ha⟩ := tyB_out ha
      cases hs1 : Nat.beq tei.size 1 with
      | false => rw [hs1] at ha; cases ha
      | true =>
      rw [hs1] at ha
      obtain ⟨l, h1, h2⟩ := ardL_out h.gl hE ha
      split at h1
      case h_2 => cases h1
      rename_i a n d y
      cases he : isE a with
      | true => rw [he] at h1; cases h1
      | false =>
      rw [he] at h1
      generalize hr : rdl N e cl.args.toList = rr at h2
      match rr, h2 with
      | [x', y'], .cons hx (.cons hy .nil) =>
      obtain ⟨b, kb, cap0, hι, hae, hdn, rfl, -⟩ := hx.slc_gen he
      obtain ⟨n2, c2, c2', A, cap2, f1, f2, rfl, f4, f5⟩ := sliceOf_ok h hy h1
      split at f1
      case h_2 => cases f1
      rename_i ty sz cells opn st hg
      split at f1
      case h_2 => cases f1
      rename_i hcond
      simp only [Bool.and_eq_true] at hcond
      obtain ⟨⟨q1, q2⟩, q3⟩ := hcond
      have q2 : 0 < n := by simpa [Nat.blt_eq] using q2
      have q3 : 0 < n2 := by simpa [Nat.blt_eq] using q3
      obtain ⟨f6, f7⟩ := takeK_out f1
      obtain ⟨g6, g7⟩ := splK_out f7
      rw [putK_eq, fN_eq, fN_eq, lenN_eq] at g7
      obtain ⟨pre, rest, p1, p2, p3, p4, p5⟩ := own_at h hι hg
      obtain ⟨i, hi⟩ := (mem_lies p5).ex
      have hvl := (f2.take (Nat.min n2 n))
      have htl : (c2.take (Nat.min n2 n)).length = Nat.min n2 n := by rw [List.length_take]; exact Nat.min_eq_left f6
      rw [Nat.mul_one] at f4
      have hc2p : 0 < c2'.length := by rw [f2.len, f4]; exact q3
      obtain ⟨a2, hA, -⟩ := f5 0 _ (List.getElem?_eq_getElem hc2p)
      subst hA
      have harg : toArr [Value.slice (some ⟨b, a.off, none⟩) n cap0, .slice (some a2) n2 cap2] = #[.slice (some ⟨b, a.off, none⟩) n cap0, .slice (some a2) n2 cap2] := rfl
      rw [hat, harg]
      refine RunReq.copyRow hX (cs := c2'.take (Nat.min n2 n)) ht hd hte (Nat.eq_of_beq_eq_true hs1) i h.loc hi (by rw [hvl.len, htl]) (fun j v hj => ?_) (by rw [hvl.len, List.length_append, p1.len]; omega) (fun v hv => List.all_eq_true.1 (by rw [hvl.one]; exact List.all_eq_true.2 fun x hx => List.all_eq_true.1 (by rw [← all1_eq]; exact q1) x (List.mem_of_mem_take hx)) v hv) fun w' hL' => ?_
      · rw [List.getElem?_take] at hj
        split at hj
        · obtain ⟨a3, e3, h3⟩ := f5 j v hj
          cases e3
          exact h3
        · cases hj
      · rw [← spliceL_eq _ _ _ (by rw [hvl.len, List.length_append, p1.len]; omega)] at hL'
        obtain ⟨k1, k2⟩ := write_at h hι hg p1 p2 p3 p4 hi hvl g6 hL'
        rw [hvl.len]
        exact hK _ _ _ g7 k2 k1 (.same rfl)
    case len =>
      split at ha
      case h_2 => cases ha
      rename_i t hat
      have hat : cl.argTypes = #[t] := Array.ext' hat
      obtain ⟨ti, ht, ha⟩ := tyB_out ha
      split at ha
      case h_2 => cases ha
      rename_i kt vt hd
      obtain ⟨l, h1, h2⟩ := ardL_out h.gl hE ha
      split at h1
      case h_2 => cases h1
      rename_i r
      split at h1
      case h_2 => cases h1
      rename_i kt' l2 st hg
      rw [fN_eq] at h1
      generalize hr : rdl N e cl.args.toList = rr at h2
      match rr, h2 with
      | [x'], .cons hx .nil =>
      obtain ⟨b, kk, hι, rfl⟩ := hx.map_out
      obtain ⟨l', g1, g2, g3, g4, g5⟩ := map_at h hι hg
      rw [mapW_B] at g5
      refine GenReq.lenB hX ho hc hat (by rw [← rdl_eq]; exact hr) ht hd h.loc (mem_lies g5) ?_
      rw [g1.len]
      exact hK _ c _ h1 (To.refl _) h (.same rfl)
  | value f =>
    rw [hc] at ha
    dsimp only at ha ⊢
    obtain ⟨fv, h1, h2⟩ := ardK_out h.gl hE ha
    split at h1
    case h_2 => cases h1
    rename_i g first captured
    obtain ⟨a', c', h3, h4, h5⟩ := h2.fn_out
    rw [h3]
    dsimp only
    split at h1
    · rename_i hgX
      rw [hgX]
      dsimp only
      obtain ⟨l, h6, h7⟩ := ardL_out h.gl hE h1
      rw [catK_eq, catK_eq] at h6
      rw [forceL_eq]
      exact hcall g _ _ c k K h ((h4.app h7).app h5) h6 hK
    · rename_i hgX
      split at h1
      case h_2 => cases h1
      rename_i hz
      rw [Bool.and_eq_true] at hz
      have e1 : first = #[] := Array.eq_empty_of_size_eq_zero (Nat.eq_of_beq_eq_true hz.1)
      have e2 : captured = #[] := Array.eq_empty_of_size_eq_zero (Nat.eq_of_beq_eq_true hz.2)
      subst e1 e2
      have e3 : a' = [] := by cases h4; rfl
      have e4 : c' = [] := by cases h5; rfl
      subst e3 e4
      split
      · rename_i hc2; exact absurd hc2 hgX
      obtain ⟨l, h6, h7⟩ := ardL_out h.gl hE h1
      split at h6
      case h_2 => cases h6
      rename_i s bt
      generalize hr : rdl N e cl.args.toList = rr at h7
      match rr, h7 with
      | [x', y'], .cons hx (.cons hy .nil) =>
      have hx := hx.str
      have hy := hy.int
      subst hx hy
      have harg : cl.args.toList.map (rd N e) = [.string s, .int .u8 (bt : Nat)] := by rw [← rdl_eq]; exact hr
      split at h6
      case h_2 => cases h6
      rename_i hb
      split at h6
      · rename_i hg
        have hg := Nat.eq_of_beq_eq_true hg
        subst hg
        refine ixC ?_ ho hc h3 harg hb
        rw [forceI_eq]
        rw [fI_eq] at h6
        exact hK _ c _ h6 (To.refl _) h (.same rfl)
      · split at h6
        case h_2 => cases h6
        rename_i hg
        have hg := Nat.eq_of_beq_eq_true hg
        subst hg
        refine cnC ?_ ho hc h3 harg hb
        rw [forceN_eq]
        rw [fN_eq] at h6
        exact hK _ c _ h6 (To.refl _) h (.same rfl)
  | _ => rw [hc] at ha; cases ha
theorem aOp_ok (hkeys : KeysOk) (hcall : CallOk m0 S w0 call) (h : Ok m0 S w0 c) (hE : ER c.ι N ae e) {o : Oper} {k : KS} {K : Value → World → Prop} (ha : aOp call N o ae c.nx c.M k = true)
    (hK : ∀ v (c' : Cf) v', k v c'.nx c'.M = true → To c c' → Ok m0 S w0 c' → VR c'.ι v v' → K v' c'.w) : evOp Tryz.prog X N o e c.w K := by
  unfold evOp
  unfold aOp at ha
  cases hp : isPure X o.op with
  | true =>
    rw [hp] at ha
    exact aU_ok rfl h.gl hE ha fun v v' h1 h2 => hK v c v' h1 (To.refl _) h h2
  | false =>
  rw [hp] at ha
  cases hop : o.op <;> rw [hop] at ha <;> dsimp only at ha ⊢ <;> first | (cases ha; done) | skip
  case alloc t =>
    obtain ⟨ti, ht, ha⟩ := tyB_out ha
    refine tyK_in ht ?_
    cases hz : flatL ti.zero with
    | false => rw [hz] at ha; cases ha
    | true =>
    rw [hz] at ha
    refine newB_ok h (kN := 1) (fun ι' _ => ?_) rfl rfl ha fun c' b h1 h2 h3 h4 => hK _ c' _ h1 h2 h3 (.ptr h4)
    have := AR.cs (ι := ι') (c := 1) (ty := t) (sz := lenN ti.zero) (opn := false) (st := c.nx) (rest := []) (flatL_out hz) (fun _ => rfl) (by rw [List.append_nil, lenN_eq]; omega) (by decide)
    rwa [List.append_nil] at this
  case box t x =>
    obtain ⟨v, h1, h2⟩ := ardK_out h.gl hE ha
    rw [force_eq]
    have e1 : (rd N e x).cells = toArr (rd N e x).cells.toList := by simp [toArr]
    rw [e1]
    refine newB_ok h (kN := 1) (fun ι' hι => ?_) rfl rfl h1 fun c' b h3 h4 h5 h6 => hK _ c' _ h3 h4 h5 (.ptr h6)
    have := AR.cs (ι := ι') (c := 1) (ty := t) (sz := lenN (celL v)) (cells := celL v) (opn := false) (st := c.nx) (rest := []) (by rw [celL_eq]; exact (h2.mono hι).cells) (fun _ => rfl) (by rw [List.append_nil, lenN_eq, celL_eq, h2.cells.len]; omega) (by decide)
    rwa [List.append_nil] at this
  case buildSlice t len parts =>
    obtain ⟨ps, h1, h2⟩ := ardP_out h.gl hE ha
    rw [forceP_eq]
    obtain ⟨ti, ht, h1⟩ := tyB_out h1
    refine tyK_in ht ?_
    split at h1
    case h_2 => cases h1
    rename_i el hd
    rw [hd]
    obtain ⟨te, hte, h1⟩ := tyB_out h1
    refine tyK_in hte ?_
    split at h1
    case h_2 => cases h1
    rename_i hcond
    simp only [Bool.and_eq_true] at hcond
    obtain ⟨⟨⟨q1, q2⟩, q3⟩, q4⟩ := hcond
    rw [show (Nat.ble (len * te.size) 16777216 && Nat.beq te.zero.length te.size) = true by rw [Bool.and_eq_true]; exact ⟨q1, q3⟩]
    rw [repK_eq] at h1
    refine fillB_ok (pl' := fun i K => K (i * te.size) te.size) (fun i kk hk => ⟨_, _, hk, fun K hK => hK⟩) h1 h2 (VRL.reps q4 len) fun l l' h3 h4 => ?_
    split at h3
    · cases h3
    rename_i hlen
    have hlen := Nat.eq_of_beq_eq_true hlen
    rw [lenN_eq] at hlen
    refine newB_ok h (kN := len) (fun ι' hι => ?_) rfl rfl h3 fun c' b h5 h6 h7 h8 => hK _ c' _ h5 h6 h7 (VR.slc h8 (by omega))
    have := AR.cs (ι := ι') (c := len) (ty := el) (sz := te.size) (cells := l) (opn := false) (st := c.nx) (rest := []) (h4.mono hι) (fun _ => rfl) (by rw [List.append_nil, h4.len]; exact hlen) (Nat.le_trans (Nat.le_of_ble_eq_true q2) (by decide))
    rwa [List.append_nil] at this
  case load t a =>
    obtain ⟨v, h1, h2⟩ := ardK_out h.gl hE ha
    split at h1
    case h_2 => cases h1
    rename_i a2
    obtain ⟨b, kk, h3, h4, h5⟩ := h2.ptr_out
    rw [h5]
    obtain ⟨u, u', g1, g2, ab, ob, g3, g4, g5⟩ := ldB_ok h h3 h1
    exact ⟨⟨u', g5 _ (h.heap g4), hK _ c _ g1 (To.refl _) h g2⟩⟩
  case store t a x =>
    obtain ⟨v, h1, h2⟩ := ardK_out h.gl hE ha
    split at h1
    case h_2 => cases h1
    rename_i a2
    obtain ⟨b, kk, h3, h4, h5⟩ := h2.ptr_out
    rw [h5]
    obtain ⟨u, h6, h7⟩ := ardK_out h.gl hE h1
    dsimp only
    rw [force_eq]
    exact stB_ok h h3 h7 h6 fun c' g1 g2 g3 => hK _ c' _ g1 g2 g3 VR.undef
  case convert src dst x =>
    obtain ⟨ts, hts, ha⟩ := tyB_out ha
    split at ha
    case h_2 => cases ha
    rename_i el hd
    obtain ⟨te, hte, ha⟩ := tyB_out ha
    split at ha
    case h_2 => cases ha
    rename_i hk8
    obtain ⟨td, htd, ha⟩ := tyB_out ha
    split at ha
    case h_2 => cases ha
    rename_i hds
    obtain ⟨v, h1, h2⟩ := ardK_out h.gl hE ha
    obtain ⟨n, l, l', A, cap, f1, f2, f3, f4, f5⟩ := sliceOf_ok h h2 h1
    obtain ⟨bt, g1, g2⟩ := toB_out f1
    rw [force_eq, f3]
    subst g2
    have hl' := f2.flat (byC_flat bt)
    subst hl'
    rw [Nat.mul_one] at f4
    have hn : n = bt.length := by rw [← f4]; simp [byC]
    subst hn
    have hs := td_slice (hX.t _ _ hts) hd
    have hi := td_int (hX.t _ _ hte) hk8
    have hdd := td_str (hX.t _ _ htd) hds
    refine RunReq.mk (v := .string (bs bt)) (w' := c.w) ?_ (hK _ c _ g1 (To.refl _) h (.same rfl))
    cases A with
    | none =>
      have hbt : bt = [] := by
        cases bt with
        | nil => rfl
        | cons x bt => obtain ⟨a, e1, -⟩ := f5 0 _ rfl; cases e1
      subst hbt
      rw [run_convert_bytes_string c.w src dst el none _ cap hs hi hdd]
      simp [Conv.bytesToString]
      rfl
    | some a =>
      refine run_convert_bytes_back (P := Tryz.prog) c.w src dst el a cap bt hs hi hdd fun j hj => ?_
      have hj2 : (byC bt)[j]? = some (.int .u8 (bt[j].toNat : Nat)) := by unfold byC; rw [List.getElem?_map, List.getElem?_eq_getElem hj]; rfl
      obtain ⟨a', e1, h3⟩ := f5 j _ hj2
      cases e1
      exact h3
  case makeSlice t l cc =>
    obtain ⟨v, h1, h2⟩ := ardK_out h.gl hE ha
    obtain ⟨u, h3, h4⟩ := ardK_out h.gl hE h1
    split at h3
    case h_2 => cases h3
    rename_i kl l
    split at h3
    case h_2 => cases h3
    rename_i kc cc
    rw [force_eq, force_eq, h2.int, h4.int]
    obtain ⟨ti, ht, h3⟩ := tyB_out h3
    split at h3
    case h_2 => cases h3
    rename_i te hd
    obtain ⟨tei, hte, h3⟩ := tyB_out h3
    split at h3
    case h_2 => cases h3
    rename_i hcond
    simp only [Bool.and_eq_true] at hcond
    obtain ⟨⟨⟨⟨q1, q2⟩, q3⟩, q4⟩, q5⟩ := hcond
    have q1 := Nat.le_of_ble_eq_true q1
    have q2 := Nat.le_of_ble_eq_true q2
    rw [repK_eq] at h3
    unfold newB at h3
    rw [putK_eq, fN_eq] at h3
    refine RunReq.make hX ht hd hte q3 l cc rfl rfl q1 (by omega) q4 h.loc fun b w' hL => ?_
    have hz : (zerosL cc tei.zero).length = cc * tei.size := by rw [length_zerosL, Nat.eq_of_beq_eq_true q3]
    obtain ⟨k1, k2⟩ := h.new (k := cc) (ab := .cs te tei.size (zerosL cc tei.zero) false c.nx) (Mem.Le.refl _) hL (by
      have := AR.cs (ι := upd c.ι c.nx (b, cc)) (c := cc) (ty := te) (sz := tei.size) (cells := zerosL cc tei.zero) (opn := false) (st := c.nx) (rest := []) (VRL.reps q5 cc) (fun _ => rfl) (by rw [List.append_nil]; exact hz) (Nat.le_trans q2 (by decide))
      rwa [List.append_nil] at this) rfl rfl
    refine hK _ _ _ h3 k2 k1 ?_
    have hu : upd c.ι c.nx (b, cc) c.nx = some (b, cc) := by unfold upd; rw [if_pos rfl]
    exact VR.slc hu (by omega)
  case makeMap t r =>
    cases r with
    | some _ => cases ha
    | none =>
    obtain ⟨ti, ht, ha⟩ := tyB_out ha
    split at ha
    case h_2 => cases ha
    rename_i kt vt hd
    split at ha
    case h_2 => cases ha
    rename_i hin
    unfold newB at ha
    rw [putK_eq, fN_eq] at ha
    refine RunReq.makeMapW h.loc fun b w' hL => ?_
    obtain ⟨k1, k2⟩ := h.new (k := 0) (ab := .mp kt [] c.nx) (Mem.Le.refl _) hL (.mp .nil (fun x hx => by cases hx) hin .nil) rfl rfl
    refine hK _ _ _ ha k2 k1 ?_
    have hu : upd c.ι c.nx (b, 0) c.nx = some (b, 0) := by unfold upd; rw [if_pos rfl]
    exact VR.map hu
  case lookup t x ix ok =>
    obtain ⟨ti, ht, ha⟩ := tyB_out ha
    split at ha
    case h_2 => cases ha
    rename_i kt vt hd
    obtain ⟨mv, h1, h2⟩ := ardK_out h.gl hE ha
    obtain ⟨key, h3, h4⟩ := ardK_out h.gl hE h1
    split at h3
    case h_2 => cases h3
    rename_i r
    split at h3
    case h_2 => cases h3
    rename_i kt' l st hg
    split at h3
    case h_2 => cases h3
    rename_i hcond
    rw [Bool.and_eq_true] at hcond
    obtain ⟨q1, q2⟩ := hcond
    have q1 := Nat.eq_of_beq_eq_true q1
    subst q1
    obtain ⟨q3, q4, q5⟩ := isKB_out q2
    obtain ⟨b, kk, hι, h5⟩ := h2.map_out
    rw [h5, h4.flat q4]
    obtain ⟨l', g1, g2, g3, g4, g5⟩ := map_at h hι hg
    unfold zeroB at h3
    cases hz : (Tryz.prog.info? vt).bind (·.zero) with
    | none => rw [hz] at h3; cases h3
    | some z =>
    rw [hz] at h3
    dsimp only at h3
    cases hf : flatV z with
    | false => rw [hf] at h3; cases h3
    | true =>
    rw [hf] at h3
    rcases mapGet_out q4 g1 g4 h3 with ⟨h6, h7⟩ | ⟨v, v', h6, h7, h8, h9⟩
    · refine RunReq.lookW hX ht hd (hkeys kt q3) hz h.loc (mem_lies g5) q5 g2 (fun _ => ?_) (fun v hv => absurd rfl (h7 _ hv))
      cases ok with
      | true => exact hK _ c _ h6 (To.refl _) h (VR.tup (.cons (flatV_out hf) (.cons (.same rfl) .nil)))
      | false => exact hK _ c _ h6 (To.refl _) h (flatV_out hf)
    · refine RunReq.lookW hX ht hd (hkeys kt q3) hz h.loc (mem_lies g5) q5 g2 (fun hno => absurd rfl (hno _ h8)) (fun u hu => ?_)
      rw [h9 u hu]
      cases ok with
      | true => exact hK _ c _ h6 (To.refl _) h (VR.tup (.cons h7 (.cons (.same rfl) .nil)))
      | false => exact hK _ c _ h6 (To.refl _) h h7
  case mapUpdate t m kx x =>
    obtain ⟨ti, ht, ha⟩ := tyB_out ha
    split at ha
    case h_2 => cases ha
    rename_i kt vt hd
    obtain ⟨mv, h1, h2⟩ := ardK_out h.gl hE ha
    obtain ⟨key, h3, h4⟩ := ardK_out h.gl hE h1
    obtain ⟨v, h5, h6⟩ := ardK_out h.gl hE h3
    split at h5
    case h_2 => cases h5
    rename_i r
    split at h5
    case h_2 => cases h5
    rename_i kt' l st hg
    split at h5
    case h_2 => cases h5
    rename_i hcond
    rw [Bool.and_eq_true] at hcond
    obtain ⟨q1, q2⟩ := hcond
    have q1 := Nat.eq_of_beq_eq_true q1
    subst q1
    obtain ⟨q3, q4, q5⟩ := isKB_out q2
    obtain ⟨b, kk, hι, h7⟩ := h2.map_out
    rw [h7, h4.flat q4]
    obtain ⟨l', g1, g2, g3, g4, g5⟩ := map_at h hι hg
    obtain ⟨rr, h8, h9, h10⟩ := mapPut_out q4 h6 g1 g4 h5
    rw [putK_eq, fN_eq] at h8
    obtain ⟨i, hi⟩ := (mem_lies g5).ex
    refine RunUReq.updW hX ht hd (hkeys kt q3) i h.loc hi q5 g2 (fun hno w' hL' => ?_) (fun q u hq w' hL' => ?_)
    · obtain ⟨k1, k2⟩ := h.set hg rfl hι (sets_at hi) hL' (ab' := .mp kt rr c.nx) (.mp (h9 hno) (fun y hy => by
        rcases List.mem_append.1 hy with hy | hy
        · exact g2 y hy
        · rw [List.mem_singleton.1 hy]; exact q5) q3 (by
        rw [List.map_append, List.nodup_append]
        refine ⟨g4, by simp, fun a ha b hb => ?_⟩
        obtain ⟨y, hy, rfl⟩ := List.mem_map.1 ha
        simp at hb
        subst hb
        exact hno y hy)) rfl rfl
      exact hK _ _ _ h8 k2 k1 VR.undef
    · have hkk : (l'.set q (key, rd N e x)).map (·.1) = l'.map (·.1) := by
        rw [List.map_set]
        refine List.ext_getElem? fun j => ?_
        rw [List.getElem?_set]
        split
        · rename_i hj
          subst hj
          rw [List.getElem?_map, hq]
          split
          · rfl
          · rename_i hlt; exact absurd (by simpa using (List.getElem?_eq_some_iff.1 hq).1) hlt
        · rfl
      obtain ⟨k1, k2⟩ := h.set hg rfl hι (sets_at hi) hL' (ab' := .mp kt rr c.nx) (.mp (h10 q u hq) (fun y hy => by
        rcases List.mem_or_eq_of_mem_set hy with hy | hy
        · exact g2 y hy
        · rw [hy]; exact q5) q3 (by rw [hkk]; exact g4)) rfl rfl
      exact hK _ _ _ h8 k2 k1 VR.undef
  case call cl => exact aCall_ok hcall h hE hop ha hK
end
end
end Go.Proofs.YtloofgoblodeiaaGreatDoor.am
namespace Go.Ev
open Go
section
variable {P : Program} {ops : Array Oper} {Q : Exit → Act → World → Prop} {S : Array Bool → World → Prop}
def wpSnap (P : Program) (ops : Array Oper) (Q : Exit → Act → World → Prop) (S : Array Bool → World → Prop) : Nat → Array Bool → Act → World → Prop
  | 0, listed, a, w => Region.ready .any ops listed = [] ∧ Q .normal a w
  | fuel + 1, listed, a, w =>
    (Region.ready .any ops listed = [] → Q .normal a w) ∧
    ∀ i ∈ Region.ready .any ops listed, wpOp P ops Q i (fun a' w' => S (listed.setIfInBounds i true) w' ∧ wpSnap P ops Q S fuel (listed.setIfInBounds i true) a' w') a w
theorem wpAny_of_S : ∀ (fuel : Nat) (listed : Array Bool) (a : Act) (w : World), wpSnap P ops Q S fuel listed a w → wpAny P .any ops Q fuel listed a w
  | 0, _, _, _, h => h
  | fuel + 1, _, _, _, h => ⟨h.1, fun i hi => wpOp_mono (fun a' w' h' => wpAny_of_S fuel _ a' w' h'.2) (h.2 i hi)⟩
def Closed (ops : Array Oper) (listed : Array Bool) : Prop := ∀ (j : Nat) (o : Oper), listed[j]? = some true → ops[j]? = some o → ∀ e ∈ o.after, Region.binds .any e = true → listed[e.on]? ≠ some false
theorem Closed.step {listed : Array Bool} (h : Closed ops listed) {j : Nat} (hj : j ∈ Region.ready .any ops listed) : Closed ops (listed.setIfInBounds j true) := by
  obtain ⟨hun, oj, hoj, hall⟩ := mem_ready.1 hj
  intro k o hk ho e he hb hc
  rw [Array.getElem?_setIfInBounds] at hk hc
  split at hc
  · split at hc <;> cases hc
  · split at hk
    · rename_i hjk
      subst hjk
      rw [hoj] at ho
      injection ho with ho
      subst ho
      have h1 := hall e he hb
      first
        | (rw [hc] at h1; cases h1; done)
        | (rw [Array.getD_eq_getD_getElem?, hc] at h1; cases h1; done)
    · exact h k o hk ho e he hb hc
theorem wpSnap_first {i : Nat} {oi : Oper} {v : Value} (hi : ops[i]? = some oi) (hsel : ∀ (j : Nat) (o : Oper) cs b, ops[j]? = some o → o.op ≠ .select cs b)
    (hQ : ∀ c a w, Q (.panic c) (a.put oi.dst v) w → Q (.panic c) a w)
    (hSm : ∀ l j w, S l w → S (l.setIfInBounds j true) w) (hSq : ∀ l w, S (l.setIfInBounds i true) w → S l w) :
    ∀ (fuel : Nat) (listed : Array Bool) (a : Act) (w : World),
      (∀ j oj, ops[j]? = some oj → j ≠ i → listed.getD j true = false → (∀ e ∈ oj.after, Region.binds .any e = true → e.on ≠ i) → oi.apart ops oj = true) →
      i ∈ Region.ready .any ops listed → Closed ops listed → YieldsIf P ops (fun w => ∃ l, Closed ops l ∧ l[i]? = some false ∧ S l w) oi v a → S listed w →
      wpSnap P ops Q S fuel (listed.setIfInBounds i true) (a.put oi.dst v) w → wpSnap P ops Q S (fuel + 1) listed a w := by
  have un : ∀ listed : Array Bool, i ∈ Region.ready .any ops listed → listed[i]? = some false := fun listed hr => by
    have h0 := (mem_ready.1 hr).1
    rcases Nat.lt_or_ge i listed.size with h' | h'
    · simpa [h'] using h0
    · simp [Array.getElem?_eq_none h'] at h0
  intro fuel
  induction fuel with
  | zero =>
    intro listed a w _ hr hcl hy hS H
    refine ⟨fun h => (by rw [h] at hr; cases hr), fun j hj => ?_⟩
    by_cases hji : j = i
    · subst hji; exact hy.wpOp hi ⟨listed, hcl, un listed hr, hS⟩ ⟨hSm _ _ _ hS, H⟩
    · have := ready_mono hj hji
      rw [H.1] at this
      cases this
  | succ fuel ih =>
    intro listed a w hfree hr hcl hy hS H
    refine ⟨fun h => (by rw [h] at hr; cases hr), fun j hj => ?_⟩
    by_cases hji : j = i
    · subst hji; exact hy.wpOp hi ⟨listed, hcl, un listed hr, hS⟩ ⟨hSm _ _ _ hS, H⟩
    · have h1 := H.2 j (ready_mono hj hji)
      obtain ⟨hjun, oj, hoj, hall⟩ := mem_ready.1 hj
      have hnot : ∀ e ∈ oj.after, Region.binds .any e = true → e.on ≠ i := fun e he hb heq => by
        have h1 := hall e he hb
        have h0 := (mem_ready.1 hr).1
        rw [heq] at h1
        rcases Nat.lt_or_ge i listed.size with h' | h'
        · simp [h'] at h0 h1; rw [h0] at h1; cases h1
        · simp [Array.getElem?_eq_none h'] at h1
      have h2 := wpOp_putIf hoj (hfree j oj hoj hji hjun hnot) (fun cs b => hsel i oi cs b hi) (fun cs b => hsel j oj cs b hoj) hQ hy h1
      have hfree' : ∀ k ok, ops[k]? = some ok → k ≠ i → (listed.setIfInBounds j true).getD k true = false →
          (∀ e ∈ ok.after, Region.binds .any e = true → e.on ≠ i) → oi.apart ops ok = true := fun k ok hk hki hun hno => by
        refine hfree k ok hk hki ?_ hno
        by_cases hjk : j = k
        · subst hjk; exact hjun
        · rw [getD_set_ne true hjk] at hun; exact hun
      refine wpOp_mono (fun a' w' h3 => ?_) h2
      have hS' : S (listed.setIfInBounds j true) w' := hSq _ _ (by rw [Array.setIfInBounds_comm _ _ hji]; exact h3.2.1)
      refine ⟨hS', ih (listed.setIfInBounds j true) a' w' hfree' (ready_mono hr (Ne.symm hji)) (hcl.step hj) h3.1 hS' ?_⟩
      rw [Array.setIfInBounds_comm _ _ hji]
      exact h3.2.2
theorem wpSnap_take {i : Nat} {oi : Oper} {v : Value} {fuel : Nat} {listed : Array Bool} {a : Act} {w : World} (hi : ops[i]? = some oi)
    (hs : Region.noSelect ops = true) (hf : Region.free .any ops listed i = true) (hr : (Region.ready .any ops listed).contains i = true)
    (hQ : ∀ c a w, Q (.panic c) (a.put oi.dst v) w → Q (.panic c) a w) (hSm : ∀ l j w, S l w → S (l.setIfInBounds j true) w) (hSq : ∀ l w, S (l.setIfInBounds i true) w → S l w)
    (hcl : Closed ops listed) (hy : YieldsIf P ops (fun w => ∃ l, Closed ops l ∧ l[i]? = some false ∧ S l w) oi v a) (hS : S listed w)
    (h : wpSnap P ops Q S fuel (listed.setIfInBounds i true) (a.put oi.dst v) w) : wpSnap P ops Q S (fuel + 1) listed a w :=
  wpSnap_first hi (Region.noSelect_spec hs) hQ hSm hSq fuel listed a w (Region.free_spec hi hf) (by simpa using hr) hcl hy hS h
theorem wp_region_S {id : Nat} {a : Act} {w : World} (hm : P.follows .mixedOrders = true)
    (h : wpSnap P ops Q S ops.size (Array.replicate ops.size false) a { w with drawn := w.drawn + 1 }) : (Code.region id ops true).wp P Q a w :=
  wp_region_any hm (wpAny_of_S _ _ _ _ h)
end
end Go.Ev
namespace Go.Proofs.YtloofgoblodeiaaGreatDoor.am
open Go Go.Ev Go.Proofs.YtloofgoblodeiaaGreatDoor.co
noncomputable section
section
variable {m0 : Mem} {S : List Nat} {w0 : World} {c : Cf} {N : Nat} {ae : T Value} {e : Env} {call : Callee'}
theorem aGuard_ok {ι : At} {all : List Oper} {g : Option (Nat × Bool)} {A B : Bool} (h : aGuard N all g ae A B = true) :
    (A = true ∧ ∀ (e : Env) (PA PB : Env → Prop), ER ι N ae e → (∀ e', ER ι N ae e' → PA e') → evGuard N all g e PA PB) ∨
    (B = true ∧ ∀ (e : Env) (PA PB : Env → Prop), ER ι N ae e → (∀ e', ER ι N ae e' → PB e') → evGuard N all g e PA PB) := by
  unfold aGuard at h
  unfold evGuard
  cases g with
  | none => exact .inl ⟨h, fun e PA PB hE hA => hA e hE⟩
  | some jw =>
    obtain ⟨j, want⟩ := jw
    dsimp only at h ⊢
    cases hd : dstAt all j with
    | none => rw [hd] at h; exact .inr ⟨h, fun e PA PB hE hB => hB e hE⟩
    | some d =>
      rw [hd] at h
      dsimp only at h ⊢
      cases hb : Nat.blt d N with
      | false => rw [hb] at h; exact .inr ⟨h, fun e PA PB hE hB => hB e hE⟩
      | true =>
        rw [hb] at h
        dsimp only at h ⊢
        have hdN : d < N := by simpa [Nat.blt_eq] using hb
        have hput : ∀ (e : Env) (b : Bool), ER ι N ae e → e d = .bool b → ER ι N ae (put d (.bool b) e) := fun e b hE hv t ht => by
          unfold put
          cases hbq : Nat.beq t d with
          | false => exact hE t ht
          | true => have := Nat.eq_of_beq_eq_true hbq; subst this; show VR ι _ (.bool b); rw [← hv]; exact hE t ht
        by_cases hbool : ∃ b, ae.get (pth d) = some (.bool b)
        · obtain ⟨b, hg⟩ := hbool
          rw [hg] at h
          have hv : ∀ e, ER ι N ae e → e d = .bool b := fun e hE => by
            have h1 := hE d hdN
            unfold aget at h1
            rw [hg] at h1
            exact h1.bool
          cases b with
          | true =>
            cases want with
            | true => exact .inl ⟨h, fun e PA PB hE hA => by rw [hv e hE]; exact .tt (hA _ (hput e _ hE (hv e hE)))⟩
            | false => exact .inr ⟨h, fun e PA PB hE hB => by rw [hv e hE]; exact .tt (hB _ (hput e _ hE (hv e hE)))⟩
          | false =>
            cases want with
            | true => exact .inr ⟨h, fun e PA PB hE hB => by rw [hv e hE]; exact .ff (hB _ (hput e _ hE (hv e hE)))⟩
            | false => exact .inl ⟨h, fun e PA PB hE hA => by rw [hv e hE]; exact .ff (hA _ (hput e _ hE (hv e hE)))⟩
        · have hB : B = true := by
            cases hg : ae.get (pth d) with
            | none => rw [hg] at h; exact h
            | some v =>
              rw [hg] at h
              cases v with
              | bool b => exact absurd ⟨b, hg⟩ hbool
              | _ => exact h
          refine .inr ⟨hB, fun e PA PB hE hPB => ?_⟩
          have h1 := hE d hdN
          unfold aget at h1
          split
          · rename_i b hv
            exfalso
            rw [hv] at h1
            cases hg : ae.get (pth d) with
            | none =>
              rw [hg] at h1
              dsimp only at h1
              have := h1.tup_out (cs := #[])
              obtain ⟨l', h2, -⟩ := this
              cases h2
            | some v =>
              rw [hg] at h1
              dsimp only at h1
              generalize hq : (Value.bool b) = q at h1
              cases h1 <;> first | (cases hq; done) | (subst hq; exact hbool ⟨b, hg⟩)
          · exact hPB e hE
theorem aOps_ok (hkeys : KeysOk) (hcall : CallOk m0 S w0 call) {all : List Oper} : ∀ (l : List Oper) {c : Cf} {ae : T Value} {e : Env} {k : KE} {K : Env → World → Prop}, Ok m0 S w0 c → ER c.ι N ae e → aOps call N all l k ae c.nx c.M = true →
    (∀ ae' (c' : Cf) e', k ae' c'.nx c'.M = true → To c c' → Ok m0 S w0 c' → ER c'.ι N ae' e' → K e' c'.w) → evOps Tryz.prog X N all l K e c.w
  | [], c, ae, e, k, K, h, hE, ha, hK => hK ae c e ha (To.refl _) h hE
  | o :: l, c, ae, e, k, K, h, hE, ha, hK => by
    rw [evOps_cons]
    rcases aGuard_ok (ι := c.ι) (A := aOp call N o ae c.nx c.M fun v nx M => apK N ae o.dst v fun ae => aOps call N all l k ae nx M) (B := apK N ae o.dst undef fun ae => aOps call N all l k ae c.nx c.M) ha with ⟨hA, hg⟩ | ⟨hB, hg⟩
    · refine hg e _ _ hE fun e' hE' => ?_
      refine aOp_ok hkeys hcall h hE' hA fun v c' v' h1 h2 h3 h4 => ?_
      rw [force_eq]
      obtain ⟨ae', h5, h6⟩ := apK_out (hE'.mono h2.le) h4 h1
      exact aOps_ok hkeys hcall l h3 h6 h5 fun ae2 c2 e2 g1 g2 g3 g4 => hK ae2 c2 e2 g1 (h2.trans g2) g3 g4
    · refine hg e _ _ hE fun e' hE' => ?_
      obtain ⟨ae', h5, h6⟩ := apK_out hE' VR.undef hB
      exact aOps_ok hkeys hcall l h h6 h5 hK
def Ret (all : List Oper) (listed : Array Bool) (i : Nat) : Prop := ∃ j : Nat, listed[j]? = some true ∧ waits all j i = true
def SF (all : List Oper) (c0 : Cf) (RD : List (Nat × Nat)) (listed : Array Bool) (w : World) : Prop := ∀ x ∈ RD, ¬ Ret all listed x.1 → ∀ b k, c0.ι x.2 = some (b, k) → w.heap[b]? = c0.w.heap[b]?
theorem ret_set {all : List Oper} {l : Array Bool} {i j : Nat} (h : Ret all l i) : Ret all (l.setIfInBounds j true) i := by
  obtain ⟨q, h1, h2⟩ := h
  refine ⟨q, ?_, h2⟩
  rw [Array.getElem?_setIfInBounds]
  split
  · rename_i e; subst e
    rw [if_pos (Array.getElem?_eq_some_iff.1 h1).1]
  · exact h1
theorem SF.mono {all : List Oper} {c0 : Cf} {RD : List (Nat × Nat)} {l : Array Bool} {w : World} (h : SF all c0 RD l w) (j : Nat) : SF all c0 RD (l.setIfInBounds j true) w :=
  fun x hx hr => h x hx fun hc => hr (ret_set hc)
theorem SF.quiet {all : List Oper} {c0 : Cf} {RD : List (Nat × Nat)} {l : Array Bool} {w : World} {i : Nat} {o : Oper} (hi : Ev.look all i = some o) (hq : quiet o.op = true) (h : SF all c0 RD (l.setIfInBounds i true) w) : SF all c0 RD l w :=
  fun x hx hr => h x hx fun hc => by
    obtain ⟨q, h1, h2⟩ := hc
    rw [Array.getElem?_setIfInBounds] at h1
    split at h1
    · rename_i e; subst e
      unfold waits at h2
      rw [hi] at h2
      dsimp only at h2
      rw [hq] at h2
      cases h2
    · exact hr ⟨q, h1, h2⟩
theorem keptB_out {all : List Oper} {i nx0 : Nat} {M : Mm} : ∀ {rd : List (Nat × Nat)} {k : List (Nat × Nat) → Bool}, keptB all i nx0 M rd k = true →
    ∃ rd', k rd' = true ∧ (∀ x ∈ rd', x ∈ rd ∧ ∃ ab, M.get (pth x.2) = some ab ∧ ab.st < nx0) ∧ ∀ x ∈ rd, x ∈ rd' ∨ waits all i x.1 = true
  | [], k, h => ⟨[], h, fun x hx => by (cases hx), fun x hx => by (cases hx)⟩
  | x :: rd, k, h => by
    have h : (match waits all i x.1 with
      | true => keptB all i nx0 M rd k
      | false => match M.get (pth x.2) with
        | some (.cs _ _ _ _ st) => match Nat.blt st nx0 with | true => keptB all i nx0 M rd fun l => k (x :: l) | false => false
        | some (.gl _ st) => match Nat.blt st nx0 with | true => keptB all i nx0 M rd fun l => k (x :: l) | false => false
        | _ => false) = true := h
    cases hw : waits all i x.1 with
    | true =>
      rw [hw] at h
      obtain ⟨rd', h1, h2, h3⟩ := keptB_out h
      exact ⟨rd', h1, fun y hy => ⟨List.mem_cons_of_mem _ (h2 y hy).1, (h2 y hy).2⟩, fun y hy => by
        rcases List.mem_cons.1 hy with rfl | hy
        · exact .inr hw
        · exact h3 y hy⟩
    | false =>
      rw [hw] at h
      dsimp only at h
      have fin : ∀ ab st, M.get (pth x.2) = some ab → ab.st = st → (match Nat.blt st nx0 with | true => keptB all i nx0 M rd fun l => k (x :: l) | false => false) = true →
          ∃ rd', k rd' = true ∧ (∀ y ∈ rd', y ∈ x :: rd ∧ ∃ ab, M.get (pth y.2) = some ab ∧ ab.st < nx0) ∧ ∀ y ∈ x :: rd, y ∈ rd' ∨ waits all i y.1 = true := by
        intro ab st hg hst h
        cases hb : Nat.blt st nx0 with
        | false => rw [hb] at h; cases h
        | true =>
          rw [hb] at h
          obtain ⟨rd', h1, h2, h3⟩ := keptB_out h
          refine ⟨x :: rd', h1, fun y hy => ?_, fun y hy => ?_⟩
          · rcases List.mem_cons.1 hy with rfl | hy
            · exact ⟨List.mem_cons_self, ab, hg, by rw [hst]; simpa [Nat.blt_eq] using hb⟩
            · exact ⟨List.mem_cons_of_mem _ (h2 y hy).1, (h2 y hy).2⟩
          · rcases List.mem_cons.1 hy with rfl | hy
            · exact .inl List.mem_cons_self
            · rcases h3 y hy with g | g
              · exact .inl (List.mem_cons_of_mem _ g)
              · exact .inr g
      cases hg : M.get (pth x.2) with
      | none => rw [hg] at h; cases h
      | some ab =>
        rw [hg] at h
        cases ab with
        | cs ty sz cells opn st => exact fin _ st hg rfl h
        | gl cells st => exact fin _ st hg rfl h
        | mp => cases h
theorem aPlan_fst (ops : List Oper) (nx0 i : Nat) (p : Plan) (fresh : Bool) (rd : List (Nat × Nat)) (k : KE) (ae : T Value) (nx : Nat) (M : Mm) : aPlan call N nx0 ops (.fst i p) fresh rd k ae nx M = (match Ev.look ops i with
      | some o => match isPure X o.op with
        | true => aGuard N ops o.guard ae
          (aU N o.op ae fun v => apK N ae o.dst v fun ae => aPlan call N nx0 ops p fresh rd k ae nx M)
          (apK N ae o.dst undef fun ae => aPlan call N nx0 ops p fresh rd k ae nx M)
        | false => match o.op with
          | .load t a => aGuard N ops o.guard ae
            (ardK N ae a fun a => match a with
              | .pointer (some a) => match fresh with
                | true => ldB M t a fun v => apK N ae o.dst v fun ae => aPlan call N nx0 ops p true ((i, a.block) :: rd) k ae nx M
                | false => ldB M t a fun v => apK N ae o.dst v fun ae => aTail N ops p k ae nx M
              | _ => false)
            (apK N ae o.dst undef fun ae => aPlan call N nx0 ops p fresh rd k ae nx M)
          | _ => false
      | none => false) := rfl
theorem aPlan_alt (ops : List Oper) (nx0 i : Nat) (p : Plan) (fresh : Bool) (rd : List (Nat × Nat)) (k : KE) (ae : T Value) (nx : Nat) (M : Mm) : aPlan call N nx0 ops (.alt i p .stop) fresh rd k ae nx M = (match Ev.look ops i with
        | some o => aGuard N ops o.guard ae
          (aOp call N o ae nx M fun v nx M => keptB ops i nx0 M rd fun rd => apK N ae o.dst v fun ae => aPlan call N nx0 ops p false rd k ae nx M)
          (apK N ae o.dst undef fun ae => aPlan call N nx0 ops p fresh rd k ae nx M)
        | none => false) := rfl
theorem aPlan_alts (ops : List Oper) (nx0 i j : Nat) (p p2 q2 : Plan) (fresh : Bool) (rd : List (Nat × Nat)) (k : KE) (ae : T Value) (nx : Nat) (M : Mm) : aPlan call N nx0 ops (.alt i p (.alt j p2 q2)) fresh rd k ae nx M = (match Ev.look ops i with
        | some o => (match aGuard N ops o.guard ae
          (aOp call N o ae nx M fun v nx M => keptB ops i nx0 M rd fun rd => apK N ae o.dst v fun ae => aPlan call N nx0 ops p false rd k ae nx M)
          (apK N ae o.dst undef fun ae => aPlan call N nx0 ops p false rd k ae nx M) with
          | true => aPlan call N nx0 ops (.alt j p2 q2) false rd k ae nx M
          | false => false)
        | none => false) := rfl
theorem aGuard_two {ι : At} {ops : Array Oper} {o : Oper} {A B : Bool} (h : aGuard N ops.toList o.guard ae A B = true) :
    (A = true ∧ ∀ (e : Env) (a : Act), ER ι N ae e → Agree N e a → Region.wanted o (yielded ops a.tmps) = true) ∨
    (B = true ∧ ∀ (e : Env) (a : Act), ER ι N ae e → Agree N e a → Region.wanted o (yielded ops a.tmps) = false) := by
  rcases aGuard_ok (ι := ι) h with ⟨hA, hg⟩ | ⟨hB, hg⟩
  · refine .inl ⟨hA, fun e a hE ha => ?_⟩
    rcases evGuard_ok ha (hg e (fun _ => True) (fun _ => False) hE fun _ _ => trivial) with ⟨h1, -⟩ | ⟨-, _, -, h2⟩
    · exact h1
    · exact h2.elim
  · refine .inr ⟨hB, fun e a hE ha => ?_⟩
    rcases evGuard_ok ha (hg e (fun _ => False) (fun _ => True) hE fun _ _ => trivial) with ⟨-, _, -, h2⟩ | ⟨h1, -⟩
    · exact h2.elim
    · exact h1
def PlanGoal (ops : Array Oper) (c0 : Cf) (K : Env → World → Prop) (N : Nat) (pl : Plan) (fresh : Bool) (rd : List (Nat × Nat)) (a : Act) (w : World) : Prop :=
  ∃ RD, (∀ x ∈ rd, x ∈ RD) ∧ (fresh = false → RD = rd) ∧ ∀ (RDall : List (Nat × Nat)) (n : Nat) (listed : Array Bool), (∀ x ∈ RD, x ∈ RDall) → (∀ x ∈ RDall, x ∈ RD ∨ Ret ops.toList listed x.1) →
      planOk ops pl n true listed = true → Closed ops listed → SF ops.toList c0 RDall listed w → wpSnap Tryz.prog ops (Qn N K) (SF ops.toList c0 RDall) n listed a w
def AltGoal (ops : Array Oper) (c0 : Cf) (K : Env → World → Prop) (N : Nat) (pl : Plan) (rd : List (Nat × Nat)) (a : Act) (w : World) : Prop :=
  ∀ (RDall : List (Nat × Nat)) (n : Nat) (listed : Array Bool), (∀ x ∈ rd, x ∈ RDall) → (∀ x ∈ RDall, x ∈ rd ∨ Ret ops.toList listed x.1) →
      planOk ops pl (n + 1) false listed = true → Closed ops listed → SF ops.toList c0 RDall listed w → ∀ j ∈ Region.ready .any ops listed, j ∈ pl.alts →
      wpOp Tryz.prog ops (Qn N K) j (fun a' w' => SF ops.toList c0 RDall (listed.setIfInBounds j true) w' ∧ wpSnap Tryz.prog ops (Qn N K) (SF ops.toList c0 RDall) n (listed.setIfInBounds j true) a' w') a w
theorem aTail_fst (ops : List Oper) (i : Nat) (p : Plan) (k : KE) (ae : T Value) (nx : Nat) (M : Mm) : aTail N ops (.fst i p) k ae nx M = (match Ev.look ops i with
      | some o => match isPure X o.op with
        | true => aGuard N ops o.guard ae
          (aU N o.op ae fun v => apK N ae o.dst v fun ae => aTail N ops p k ae nx M)
          (apK N ae o.dst undef fun ae => aTail N ops p k ae nx M)
        | false => match o.op with
          | .load t a => aGuard N ops o.guard ae
            (ardK N ae a fun a => match a with
              | .pointer (some a) => ldB M t a fun v => apK N ae o.dst v fun ae => aTail N ops p k ae nx M
              | _ => false)
            (apK N ae o.dst undef fun ae => aTail N ops p k ae nx M)
          | _ => false
      | none => false) := rfl
theorem wpSnap_weak {P : Program} {ops : Array Oper} {Q : Exit → Act → World → Prop} {S1 S2 : Array Bool → World → Prop} (hS : ∀ l w, S1 l w → S2 l w) : ∀ (n : Nat) (listed : Array Bool) (a : Act) (w : World), wpSnap P ops Q S1 n listed a w → wpSnap P ops Q S2 n listed a w
  | 0, _, _, _, h => h
  | n + 1, _, _, _, h => ⟨h.1, fun i hi => wpOp_mono (fun a' w' h' => ⟨hS _ _ h'.1, wpSnap_weak hS n _ a' w' h'.2⟩) (h.2 i hi)⟩
def Still (ops : List Oper) (c0 : Cf) (RD : List (Nat × Nat)) (w1 : World) (l : Array Bool) (w : World) : Prop := w = w1 ∧ SF ops c0 RD l w
theorem aTail_ok {ops : Array Oper} (hns : Region.noSelect ops = true) {c0 : Cf} {RDall : List (Nat × Nat)} {k : KE} {K : Env → World → Prop} (h : Ok m0 S w0 c) : ∀ (pl : Plan) (ae : T Value) (e : Env) (a : Act),
    aTail N ops.toList pl k ae c.nx c.M = true → ER c.ι N ae e → Agree N e a → (∀ ae' e', k ae' c.nx c.M = true → ER c.ι N ae' e' → K e' c.w) →
    ∀ (n : Nat) (listed : Array Bool), planOk ops pl n true listed = true → Closed ops listed → SF ops.toList c0 RDall listed c.w → wpSnap Tryz.prog ops (Qn N K) (Still ops.toList c0 RDall c.w) n listed a c.w := by
  intro pl
  induction pl with
  | done =>
    intro ae e a ha hE hag hK n listed hp hcl hS
    have hr : Region.ready .any ops listed = [] := by cases n <;> simpa [planOk] using hp
    have hq : Qn N K .normal a c.w := ⟨e, hag, hK ae e ha hE⟩
    cases n with
    | zero => exact ⟨hr, hq⟩
    | succ n => exact ⟨fun _ => hq, by rw [hr]; simp⟩
  | stop => intro ae e a ha; cases ha
  | alt => intro ae e a ha; cases ha
  | fst i p ih =>
    intro ae e a ha hE hag hK n listed hp hcl hS
    rw [aTail_fst] at ha
    cases ho : Ev.look ops.toList i with
    | none => rw [ho] at ha; cases ha
    | some o =>
    rw [ho] at ha
    dsimp only at ha
    have hoa : ops[i]? = some o := by rw [look_eq, Array.getElem?_toList] at ho; exact ho
    cases n with
    | zero => simp [planOk] at hp
    | succ n =>
    simp only [planOk, Bool.and_eq_true] at hp
    obtain ⟨⟨p1, p2⟩, p3⟩ := hp
    have take : ∀ (v : Value), quiet o.op = true → YieldsIf Tryz.prog ops (fun w => ∃ l, Closed ops l ∧ l[i]? = some false ∧ Still ops.toList c0 RDall c.w l w) o v a →
        wpSnap Tryz.prog ops (Qn N K) (Still ops.toList c0 RDall c.w) n (listed.setIfInBounds i true) (a.put o.dst v) c.w → wpSnap Tryz.prog ops (Qn N K) (Still ops.toList c0 RDall c.w) (n + 1) listed a c.w := by
      intro v hq hy hn
      exact wpSnap_take hoa hns p2 p1 (fun cc a w hq => hq) (fun l j w hl => ⟨hl.1, hl.2.mono j⟩) (fun l w hl => ⟨hl.1, hl.2.quiet ho hq⟩) hcl hy ⟨rfl, hS⟩ hn
    have go : ∀ (v : Value) (ae' : T Value) (e' : Env), aTail N ops.toList p k ae' c.nx c.M = true → ER c.ι N ae' e' → Agree N e' (a.put o.dst v) → wpSnap Tryz.prog ops (Qn N K) (Still ops.toList c0 RDall c.w) n (listed.setIfInBounds i true) (a.put o.dst v) c.w := fun v ae' e' h1 h2 h3 =>
      ih ae' e' _ h1 h2 h3 hK n _ p3 (hcl.step (by simpa using p1)) (hS.mono i)
    cases hpu : isPure X o.op with
    | true =>
      have hq : quiet o.op = true := by unfold quiet; rw [hpu]
      rw [hpu] at ha
      rcases aGuard_two (ι := c.ι) ha with ⟨hA, hw⟩ | ⟨hB, hw⟩
      · have h1 := aU_ok (o := o) rfl h.gl hE hA (K := fun v' => ∃ v, (apK N ae o.dst v fun ae => aTail N ops.toList p k ae c.nx c.M) = true ∧ VR c.ι v v') fun v v' g1 g2 => ⟨v, g1, g2⟩
        obtain ⟨v', h2, v, h3, h4⟩ := evU_ok hX h1
        obtain ⟨ae', h5, h6⟩ := apK_out hE h4 h3
        refine take v' hq (.inl ⟨hw e a hE hag, fun w _ => ?_⟩) (go v' ae' _ h5 h6 (hag.put _ _))
        rw [hag.eval]
        exact h2 w
      · obtain ⟨ae', h1, h2⟩ := apK_out hE VR.undef hB
        exact take undef hq (.inr ⟨hw e a hE hag, rfl⟩) (go undef ae' _ h1 h2 (hag.put _ _))
    | false =>
      rw [hpu] at ha
      dsimp only at ha
      split at ha
      case h_2 => cases ha
      rename_i t x hop
      have hq : quiet o.op = true := by unfold quiet; rw [hpu, hop]
      rcases aGuard_two (ι := c.ι) ha with ⟨hA, hw⟩ | ⟨hB, hw⟩
      · obtain ⟨u, h1, h2⟩ := ardK_out h.gl hE hA
        split at h1
        case h_2 => cases h1
        rename_i ad
        obtain ⟨b, kk, h3, h4, h5⟩ := h2.ptr_out
        obtain ⟨v, v', g1, g2, ab, ob, g3, g4, g5⟩ := ldB_ok h h3 h1
        obtain ⟨ae', h6, h7⟩ := apK_out hE g2 g1
        refine take v' hq (.inl ⟨hw e a hE hag, fun w hw2 => ?_⟩) (go v' ae' _ h6 h7 (hag.put _ _))
        obtain ⟨l, -, -, hww, -⟩ := hw2
        have hrun := g5 w (by rw [hww]; exact h.heap g4)
        rw [hag.eval]
        simp only [execOp, hop, h5, Instr.loadAt, Instr.sureAddr, Sem.run_bind, Sem.run_pure, Result.andThen_ok, hrun]
      · obtain ⟨ae', h1, h2⟩ := apK_out hE VR.undef hB
        exact take undef hq (.inr ⟨hw e a hE hag, rfl⟩) (go undef ae' _ h1 h2 (hag.put _ _))
theorem aPlan_ok (hkeys : KeysOk) (hcall : CallOk m0 S w0 call) {ops : Array Oper} (hns : Region.noSelect ops = true) {c0 : Cf} {k : KE} {K : Env → World → Prop} : ∀ (pl : Plan) (fresh : Bool) (rd : List (Nat × Nat)) (ae : T Value) (c : Cf) (e : Env) (a : Act),
    aPlan call N c0.nx ops.toList pl fresh rd k ae c.nx c.M = true → Ok m0 S w0 c → To c0 c → (fresh = true → c = c0) → ER c.ι N ae e → Agree N e a →
    (∀ ae' (c' : Cf) e', k ae' c'.nx c'.M = true → To c0 c' → Ok m0 S w0 c' → ER c'.ι N ae' e' → K e' c'.w) → PlanGoal ops c0 K N pl fresh rd a c.w ∧ (fresh = false → AltGoal ops c0 K N pl rd a c.w) := by
  intro pl
  induction pl with
  | done =>
    intro fresh rd ae c e a ha h ht hf hE hag hK
    refine ⟨?_, fun _ RDall n listed _ _ _ _ _ j _ hc => by cases hc⟩
    refine ⟨rd, fun x hx => hx, fun _ => rfl, fun RDall n listed h1 h2 hp hcl hS => ?_⟩
    have hr : Region.ready .any ops listed = [] := by cases n <;> simpa [planOk] using hp
    have hq : Qn N K .normal a c.w := ⟨e, hag, hK ae c e ha ht h hE⟩
    cases n with
    | zero => exact ⟨hr, hq⟩
    | succ n => exact ⟨fun _ => hq, by rw [hr]; simp⟩
  | stop => intro fresh rd ae c e a ha; cases ha
  | fst i p ih =>
    intro fresh rd ae c e a ha h ht hf hE hag hK
    refine ⟨?_, fun _ RDall n listed _ _ _ _ _ j _ hc => by cases hc⟩
    rw [aPlan_fst] at ha
    cases ho : Ev.look ops.toList i with
    | none => rw [ho] at ha; cases ha
    | some o =>
    rw [ho] at ha
    dsimp only at ha
    have hoa : ops[i]? = some o := by rw [look_eq, Array.getElem?_toList] at ho; exact ho
    have take : ∀ (v : Value) (rd2 : List (Nat × Nat)) (fresh2 : Bool), quiet o.op = true → (∀ x ∈ rd, x ∈ rd2) → (fresh = false → fresh2 = false ∧ rd2 = rd) →
        (∀ RDall : List (Nat × Nat), (∀ x ∈ rd2, x ∈ RDall) → YieldsIf Tryz.prog ops (fun w => ∃ l, Closed ops l ∧ l[i]? = some false ∧ SF ops.toList c0 RDall l w) o v a) →
        PlanGoal ops c0 K N p fresh2 rd2 (a.put o.dst v) c.w → PlanGoal ops c0 K N (.fst i p) fresh rd a c.w := by
      intro v rd2 fresh2 hq hsub hfr hy ⟨RD, g1, g2, g3⟩
      refine ⟨RD, fun x hx => g1 x (hsub x hx), fun hfa => by rw [g2 (hfr hfa).1, (hfr hfa).2], fun RDall n listed h1 h2 hp hcl hS => ?_⟩
      cases n with
      | zero => simp [planOk] at hp
      | succ n =>
        simp only [planOk, Bool.and_eq_true] at hp
        obtain ⟨⟨p1, p2⟩, p3⟩ := hp
        refine wpSnap_take hoa hns p2 p1 (fun cc a w hq => hq) (fun l j w hl => hl.mono j) (fun l w hl => hl.quiet ho hq) hcl (hy RDall fun x hx => h1 x (g1 x hx)) hS ?_
        exact g3 RDall n _ h1 (fun x hx => (h2 x hx).imp id ret_set) p3 (hcl.step (by simpa using p1)) (hS.mono i)
    have skip : quiet o.op = true → (∀ (e : Env) (a : Act), ER c.ι N ae e → Agree N e a → Region.wanted o (yielded ops a.tmps) = false) → (apK N ae o.dst undef fun ae => aPlan call N c0.nx ops.toList p fresh rd k ae c.nx c.M) = true → PlanGoal ops c0 K N (.fst i p) fresh rd a c.w := by
      intro hq hw hB
      obtain ⟨ae', h1, h2⟩ := apK_out hE VR.undef hB
      exact take undef rd fresh hq (fun x hx => hx) (fun hfa => ⟨hfa, rfl⟩) (fun _ _ => .inr ⟨hw e a hE hag, rfl⟩) (ih fresh rd ae' c _ _ h1 h ht hf h2 (hag.put _ _) hK).1
    cases hp : isPure X o.op with
    | true =>
      have hq : quiet o.op = true := by unfold quiet; rw [hp]
      rw [hp] at ha
      rcases aGuard_two (ι := c.ι) ha with ⟨hA, hw⟩ | ⟨hB, hw⟩
      · have h1 := aU_ok (o := o) rfl h.gl hE hA (K := fun v' => ∃ v, (apK N ae o.dst v fun ae => aPlan call N c0.nx ops.toList p fresh rd k ae c.nx c.M) = true ∧ VR c.ι v v') fun v v' g1 g2 => ⟨v, g1, g2⟩
        obtain ⟨v', h2, v, h3, h4⟩ := evU_ok hX h1
        obtain ⟨ae', h5, h6⟩ := apK_out hE h4 h3
        refine take v' rd fresh hq (fun x hx => hx) (fun hfa => ⟨hfa, rfl⟩) (fun _ _ => .inl ⟨hw e a hE hag, fun w _ => ?_⟩) (ih fresh rd ae' c _ _ h5 h ht hf h6 (hag.put _ _) hK).1
        rw [hag.eval]
        exact h2 w
      · exact skip hq hw hB
    | false =>
      rw [hp] at ha
      dsimp only at ha
      split at ha
      case h_2 => cases ha
      rename_i t x hop
      have hq : quiet o.op = true := by unfold quiet; rw [hp, hop]
      rcases aGuard_two (ι := c.ι) ha with ⟨hA, hw⟩ | ⟨hB, hw⟩
      · obtain ⟨u, h1, h2⟩ := ardK_out h.gl hE hA
        split at h1
        case h_2 => cases h1
        rename_i ad
        cases fresh with
        | false =>
          obtain ⟨b, kk, h3, h4, h5⟩ := h2.ptr_out
          obtain ⟨v, v', g1, g2, ab, ob, g3, g4, g5⟩ := ldB_ok h h3 h1
          obtain ⟨ae', h6, h7⟩ := apK_out hE g2 g1
          refine ⟨rd, fun x hx => hx, fun _ => rfl, fun RDall n listed z1 z2 hp hcl hS => ?_⟩
          refine wpSnap_weak (S1 := Still ops.toList c0 RDall c.w) (fun _ _ hz => hz.2) _ _ _ _ ?_
          cases n with
          | zero => simp [planOk] at hp
          | succ n =>
          simp only [planOk, Bool.and_eq_true] at hp
          obtain ⟨⟨p1, p2⟩, p3⟩ := hp
          refine wpSnap_take (v := v') hoa hns p2 p1 (fun cc a w hq => hq) (fun l j w hl => ⟨hl.1, hl.2.mono j⟩) (fun l w hl => ⟨hl.1, hl.2.quiet ho hq⟩) hcl (.inl ⟨hw e a hE hag, fun w hw2 => ?_⟩) ⟨rfl, hS⟩
            (aTail_ok hns h p ae' _ _ h6 h7 (hag.put _ _) (fun ae2 e2 y1 y2 => hK ae2 c e2 y1 ht h y2) n _ p3 (hcl.step (by simpa using p1)) (hS.mono i))
          obtain ⟨l, -, -, hww, -⟩ := hw2
          have hrun := g5 w (by rw [hww]; exact h.heap g4)
          rw [hag.eval]
          simp only [execOp, hop, h5, Instr.loadAt, Instr.sureAddr, Sem.run_bind, Sem.run_pure, Result.andThen_ok, hrun]
        | true =>
        have hcc := hf rfl
        subst hcc
        obtain ⟨b, kk, h3, h4, h5⟩ := h2.ptr_out
        obtain ⟨v, v', g1, g2, ab, ob, g3, g4, g5⟩ := ldB_ok h h3 h1
        obtain ⟨ae', h6, h7⟩ := apK_out hE g2 g1
        refine take v' ((i, ad.block) :: rd) true hq (fun x hx => List.mem_cons_of_mem _ hx) (fun hfa => by cases hfa) (fun RDall hsub => .inl ⟨hw e a hE hag, fun w hw2 => ?_⟩) (ih true _ ae' c _ _ h6 h ht hf h7 (hag.put _ _) hK).1
        obtain ⟨l, hcl, hun, hSF⟩ := hw2
        have hnr : ¬ Ret ops.toList l i := by
          rintro ⟨j, q1, q2⟩
          unfold waits at q2
          split at q2
          case h_2 => cases q2
          rename_i oj hoj
          rw [look_eq, Array.getElem?_toList] at hoj
          split at q2
          · cases q2
          · obtain ⟨ed, q3, q4⟩ := List.any_eq_true.1 q2
            rw [Bool.and_eq_true] at q4
            have := Nat.eq_of_beq_eq_true q4.2
            exact hcl j oj q1 hoj ed (by simpa using q3) q4.1 (by rw [this]; exact hun)
        have hb := hSF _ (hsub _ List.mem_cons_self) hnr b kk h3
        rw [h.heap g4] at hb
        have hrun := g5 w hb
        rw [hag.eval]
        simp only [execOp, hop, h5, Instr.loadAt, Instr.sureAddr, Sem.run_bind, Sem.run_pure, Result.andThen_ok, hrun]
      · exact skip hq hw hB
  | alt i p q ihp ihq =>
    intro fresh rd ae c e a ha h ht hf hE hag hK
    have one : ∀ (o : Oper) (fr : Bool), Ev.look ops.toList i = some o → (fr = true → c = c0) →
        aGuard N ops.toList o.guard ae (aOp call N o ae c.nx c.M fun v nx M => keptB ops.toList i c0.nx M rd fun rd => apK N ae o.dst v fun ae => aPlan call N c0.nx ops.toList p false rd k ae nx M)
          (apK N ae o.dst undef fun ae => aPlan call N c0.nx ops.toList p fr rd k ae c.nx c.M) = true →
        ∃ RD, (∀ x ∈ rd, x ∈ RD) ∧ (fr = false → RD = rd) ∧ ∀ (RDall : List (Nat × Nat)) (m : Nat) (listed : Array Bool), (∀ x ∈ RD, x ∈ RDall) → (∀ x ∈ RDall, x ∈ RD ∨ Ret ops.toList listed x.1) →
          planOk ops p m true (listed.setIfInBounds i true) = true → Closed ops listed → SF ops.toList c0 RDall listed c.w → i ∈ Region.ready .any ops listed →
          wpOp Tryz.prog ops (Qn N K) i (fun a' w' => SF ops.toList c0 RDall (listed.setIfInBounds i true) w' ∧ wpSnap Tryz.prog ops (Qn N K) (SF ops.toList c0 RDall) m (listed.setIfInBounds i true) a' w') a c.w := by
      intro o fr ho hfr ha
      have hoa : ops[i]? = some o := by rw [look_eq, Array.getElem?_toList] at ho; exact ho
      rcases aGuard_two (ι := c.ι) ha with ⟨hA, hw⟩ | ⟨hB, hw⟩
      · refine ⟨rd, fun x hx => hx, fun _ => rfl, fun RDall m listed h1 h2 p3 hcl hS hj => ?_⟩
        unfold wpOp
        simp only [hoa]
        rw [if_pos (hw e a hE hag)]
        left
        have hop := evOp_ok hX (aOp_ok hkeys hcall h hE hA (K := fun v' w' => SF ops.toList c0 RDall (listed.setIfInBounds i true) w' ∧ wpSnap Tryz.prog ops (Qn N K) (SF ops.toList c0 RDall) m (listed.setIfInBounds i true) (a.put o.dst v') w') fun v c' v' q1 q2 q3 q4 => by
          obtain ⟨rd', q5, q6, q7⟩ := keptB_out q1
          obtain ⟨ae', q8, q9⟩ := apK_out (hE.mono q2.le) q4 q5
          have ht2 := ht.trans q2
          have hlt : i < listed.size := by
            have h0 := (mem_ready.1 hj).1
            rcases Nat.lt_or_ge i listed.size with h' | h'
            · exact h'
            · simp [Array.getElem?_eq_none h'] at h0
          have hlj : (listed.setIfInBounds i true)[i]? = some true := by simp [hlt]
          have hSF : SF ops.toList c0 RDall (listed.setIfInBounds i true) c'.w := fun x hx hnr b kk hb => by
            rcases h2 x hx with hr | hr
            · rcases q7 x hr with hr | hr
              · obtain ⟨-, ab, z1, z2⟩ := q6 x hr
                exact (ht2.same x.2 ab z1 z2).2 b kk hb
              · exact absurd ⟨i, hlj, hr⟩ hnr
            · exact absurd (ret_set hr) hnr
          refine ⟨hSF, ?_⟩
          obtain ⟨RD, z1, z2, z3⟩ := (ihp false rd' ae' c' _ (a.put o.dst v') q8 q3 ht2 (fun hc => by cases hc) q9 (hag.put _ _) hK).1
          have z2 := z2 rfl
          subst z2
          refine z3 RDall m _ (fun x hx => h1 x (q6 x hx).1) (fun x hx => ?_) p3 (hcl.step hj) hSF
          rcases h2 x hx with hr | hr
          · rcases q7 x hr with hr | hr
            · exact .inl hr
            · exact .inr ⟨i, hlj, hr⟩
          · exact .inr (ret_set hr))
        rw [← hag.eval] at hop
        exact OpOk.wp hop
      · obtain ⟨ae', h1, h2⟩ := apK_out hE VR.undef hB
        obtain ⟨RD, z1, z2, z3⟩ := (ihp fr rd ae' c _ (a.put o.dst undef) h1 h ht hfr h2 (hag.put _ _) hK).1
        refine ⟨RD, z1, z2, fun RDall m listed h1 h2 p3 hcl hS hj => ?_⟩
        unfold wpOp
        simp only [hoa]
        rw [if_neg (by rw [hw e a hE hag]; simp)]
        exact ⟨hS.mono i, z3 RDall m _ h1 (fun x hx => (h2 x hx).imp id ret_set) p3 (hcl.step hj) (hS.mono i)⟩
    cases q with
    | done => cases ha
    | fst => cases ha
    | stop =>
      rw [aPlan_alt] at ha
      cases ho : Ev.look ops.toList i with
      | none => rw [ho] at ha; cases ha
      | some o =>
      rw [ho] at ha
      dsimp only at ha
      obtain ⟨RD, g1, g2, g3⟩ := one o fresh ho hf ha
      refine ⟨⟨RD, g1, g2, fun RDall n listed h1 h2 hp hcl hS => ?_⟩, fun hfa RDall n listed h1 h2 hp hcl hS j hj hjm => ?_⟩
      · cases n with
        | zero => simp [planOk] at hp
        | succ n =>
          simp only [planOk, Bool.and_eq_true] at hp
          obtain ⟨⟨⟨p1, p2⟩, p3⟩, p4⟩ := hp
          have p1 : i ∈ Region.ready .any ops listed := by simpa using p1
          refine ⟨fun hc => (by rw [hc] at p1; cases p1), fun j hj => ?_⟩
          have := List.all_eq_true.1 p2 j hj
          have : j = i := by simpa [Plan.alts] using this
          subst this
          exact g3 RDall n listed h1 h2 p3 hcl hS hj
      · have : j = i := by simpa [Plan.alts] using hjm
        subst this
        have hRD := g2 hfa
        subst hRD
        simp only [planOk, Bool.and_eq_true] at hp
        exact g3 RDall n listed h1 h2 hp.1 hcl hS hj
    | alt i2 p2 q2 =>
      rw [aPlan_alts] at ha
      cases ho : Ev.look ops.toList i with
      | none => rw [ho] at ha; cases ha
      | some o =>
      rw [ho] at ha
      dsimp only at ha
      split at ha
      case h_2 => cases ha
      rename_i hg
      obtain ⟨RD, g1, g2, g3⟩ := one o false ho (fun hc => by cases hc) hg
      have hRD := (g2 rfl).symm
      subst hRD
      have hq := (ihq false rd ae c e a ha h ht (fun hc => by cases hc) hE hag hK).2 rfl
      refine ⟨⟨rd, fun x hx => hx, fun _ => rfl, fun RDall n listed h1 h2 hp hcl hS => ?_⟩, fun hfa RDall n listed h1 h2 hp hcl hS j hj hjm => ?_⟩
      · cases n with
        | zero => simp [planOk] at hp
        | succ n =>
          rw [planOk] at hp
          simp only [Bool.and_eq_true] at hp
          obtain ⟨⟨⟨p1, p5⟩, p3⟩, p4⟩ := hp
          have p1 : i ∈ Region.ready .any ops listed := by simpa using p1
          refine ⟨fun hc => (by rw [hc] at p1; cases p1), fun j hj => ?_⟩
          have := List.all_eq_true.1 p5 j hj
          have : j ∈ i :: (Plan.alt i2 p2 q2).alts := by simpa [Plan.alts] using this
          rcases List.mem_cons.1 this with rfl | hjm
          · exact g3 RDall n listed h1 h2 p3 hcl hS hj
          · exact hq RDall n listed h1 h2 p4 hcl hS j hj hjm
      · have hjm : j ∈ i :: (Plan.alt i2 p2 q2).alts := hjm
        rw [planOk] at hp
        simp only [Bool.and_eq_true] at hp
        rcases List.mem_cons.1 hjm with rfl | hjm
        · exact g3 RDall n listed h1 h2 hp.1 hcl hS hj
        · exact hq RDall n listed h1 h2 hp.2 hcl hS j hj hjm
end
end
end Go.Proofs.YtloofgoblodeiaaGreatDoor.am
namespace Go.Proofs.YtloofgoblodeiaaGreatDoor.am
open Go Go.Ev Go.Proofs.YtloofgoblodeiaaGreatDoor.co
noncomputable section
section
variable {m0 : Mem} {S : List Nat} {w0 : World} {c : Cf} {N : Nat} {ae : T Value} {e : Env} {call : Callee'}
theorem Ok.drew (h : Ok m0 S w0 c) : Ok m0 S w0 { c with w := c.w.drew } := ⟨h.gl, h.n16, h.fresh, h.loc.drew, h.blk, h.inj⟩
theorem to_drew : To c { c with w := c.w.drew } := ⟨At.le.refl _, Nat.le_refl _, Mem.Le.refl _, fun _ _ h _ => ⟨h, fun _ _ _ => rfl⟩⟩
theorem aDraw_ok (hkeys : KeysOk) (hcall : CallOk m0 S w0 call) {ops : Array Oper} {k : KE} {K : Env → World → Prop} (h : Ok m0 S w0 c) (hE : ER c.ι N ae e) (ha : aDraw call N ops k ae c.nx c.M = true)
    (hK : ∀ ae' (c' : Cf) e', k ae' c'.nx c'.M = true → To c c' → Ok m0 S w0 c' → ER c'.ι N ae' e' → K e' c'.w) : DrawReq Tryz.prog X N ops K e c.w := by
  unfold aDraw at ha
  cases hp : plB ops (planOf X ops []) with
  | false => rw [hp] at ha; cases ha
  | true =>
  rw [hp] at ha
  unfold plB at hp
  cases hns : Region.noSelect ops with
  | false => rw [hns] at hp; cases hp
  | true =>
  rw [hns] at hp
  constructor
  intro a id hag
  obtain ⟨RD, -, -, h3⟩ := (aPlan_ok hkeys hcall hns (c0 := { c with w := c.w.drew }) (k := k) (K := K) _ true [] ae { c with w := c.w.drew } e a ha h.drew (To.refl _) (fun _ => rfl) hE hag (fun ae' c' e' h1 h2 h3 h4 => hK ae' c' e' h1 (to_drew.trans h2) h3 h4)).1
  exact wp_region_S (S := SF ops.toList { c with w := c.w.drew } RD) hX.mixed (h3 RD ops.size _ (fun x hx => hx) (fun x hx => .inl hx) hp (fun j o hj _ e _ _ => by
    rw [Array.getElem?_replicate] at hj
    split at hj <;> cases hj) (fun x hx _ b kk hb => rfl))
theorem ev_seq {x y : Code} {k : Env → World → Prop} {kx : Nat → Env → World → Prop} {kr : Env → World → Prop} {e : Env} {w : World}
    (h : ev Tryz.prog X N x (fun e w => ev Tryz.prog X N y k kx kr e w) kx kr e w) : ev Tryz.prog X N (.seq x y) k kx kr e w := by
  cases x with
  | region id ops draw => cases draw <;> exact h
  | _ => exact SeqReq.go hX h
theorem loopN_succ {P : Program} {X : Tab} (hX : TabsOk P X) {n : Nat} {c : Code} {k : Env → World → Prop} {kx : Nat → Env → World → Prop} {kr : Env → World → Prop} {e : Env} {w : World}
    (h : ev P X N c (fun e' w' => LoopN P N c n k kx kr e' w') kx kr e w) : LoopN P N c (n + 1) k kx kr e w := by
  constructor
  intro a ha
  rw [rounds_succ]
  refine wp_mono (ev_ok hX c _ kx kr _ a w ha h) fun ex a w hq => ?_
  cases ex with
  | normal => obtain ⟨e', ha', h'⟩ := hq; exact h'.out a ha'
  | _ => exact hq
theorem er_putB {ι : At} {x : Operand} {b : Bool} (hE : ER ι N ae e) (hv : rd N e x = .bool b) : ER ι N ae (putB x b e) := by
  cases x with
  | tmp t =>
    intro i hi
    show VR ι _ (put t (.bool b) e i)
    unfold put
    cases hb : Nat.beq i t with
    | false => exact hE i hi
    | true =>
      have := Nat.eq_of_beq_eq_true hb
      subst this
      simp only [rd] at hv
      rw [show Nat.blt i N = true by simpa [Nat.blt_eq] using hi] at hv
      have h1 := hE i hi
      rw [show e i = .bool b from hv] at h1
      exact h1
  | _ => exact hE
theorem aCode_ok (hkeys : KeysOk) (hcall : CallOk m0 S w0 call) : ∀ (cd : Code) {c : Cf} {ae : T Value} {e : Env} {k : KE} {kx : KX} {kr : KE} {K : Env → World → Prop} {Kx : Nat → Env → World → Prop} {Kr : Env → World → Prop}, Ok m0 S w0 c → ER c.ι N ae e → aCode call N cd k kx kr ae c.nx c.M = true →
    (∀ ae' (c' : Cf) e', k ae' c'.nx c'.M = true → To c c' → Ok m0 S w0 c' → ER c'.ι N ae' e' → K e' c'.w) →
    (∀ j ae' (c' : Cf) e', kx j ae' c'.nx c'.M = true → To c c' → Ok m0 S w0 c' → ER c'.ι N ae' e' → Kx j e' c'.w) →
    (∀ ae' (c' : Cf) e', kr ae' c'.nx c'.M = true → To c c' → Ok m0 S w0 c' → ER c'.ι N ae' e' → Kr e' c'.w) → ev Tryz.prog X N cd K Kx Kr e c.w := by
  intro cd
  induction cd with
  | skip => intro c ae e k kx kr K Kx Kr h hE ha hk _ _; exact hk ae c e ha (To.refl _) h hE
  | region id ops draw =>
    intro c ae e k kx kr K Kx Kr h hE ha hk _ _
    cases draw with
    | false => exact aOps_ok hkeys hcall _ h hE ha hk
    | true => exact aDraw_ok hkeys hcall h hE ha hk
  | seq x y ihx ihy =>
    intro c ae e k kx kr K Kx Kr h hE ha hk hkx hkr
    refine ev_seq (ihx (k := fun ae nx M => aCode call N y k kx kr ae nx M) h hE ha (fun ae' c' e' h1 h2 h3 h4 => ?_) hkx hkr)
    exact ihy h3 h4 h1 (fun ae2 c2 e2 g1 g2 g3 g4 => hk ae2 c2 e2 g1 (h2.trans g2) g3 g4) (fun j ae2 c2 e2 g1 g2 g3 g4 => hkx j ae2 c2 e2 g1 (h2.trans g2) g3 g4) (fun ae2 c2 e2 g1 g2 g3 g4 => hkr ae2 c2 e2 g1 (h2.trans g2) g3 g4)
  | cond x t f iht ihf =>
    intro c ae e k kx kr K Kx Kr h hE ha hk hkx hkr
    obtain ⟨v, h1, h2⟩ := ardK_out h.gl hE ha
    cases v with
    | bool b =>
      have hb := h2.bool
      show (match rd N e x with
        | .bool b => BrReq b (ev Tryz.prog X N t K Kx Kr (putB x true e) c.w) (ev Tryz.prog X N f K Kx Kr (putB x false e) c.w)
        | _ => False)
      rw [hb]
      cases b with
      | true => exact .tt (iht h (er_putB hE hb) h1 hk hkx hkr)
      | false => exact .ff (ihf h (er_putB hE hb) h1 hk hkx hkr)
    | _ => cases h1
  | block id x ih =>
    intro c ae e k kx kr K Kx Kr h hE ha hk hkx hkr
    refine ih (kx := fun j ae nx M => match Nat.beq j id with | true => k ae nx M | false => kx j ae nx M) (Kx := fun j e w => match Nat.beq j id with | true => K e w | false => Kx j e w) h hE ha hk (fun j ae' c' e' h1 h2 h3 h4 => ?_) hkr
    cases hb : Nat.beq j id with
    | true => simp only [hb] at h1 ⊢; exact hk ae' c' e' h1 h2 h3 h4
    | false => simp only [hb] at h1 ⊢; exact hkx j ae' c' e' h1 h2 h3 h4
  | loop x ih =>
    intro c ae e k kx kr K Kx Kr h hE ha hk hkx hkr
    have key : ∀ (n : Nat) (ae' : T Value) (c' : Cf) (e' : Env), aLoop (aCode call N x) kx kr n ae' c'.nx c'.M = true → To c c' → Ok m0 S w0 c' → ER c'.ι N ae' e' → LoopN Tryz.prog N x n K Kx Kr e' c'.w := by
      intro n
      induction n with
      | zero => intro ae' c' e' h1; cases h1
      | succ n ihn =>
        intro ae' c' e' h1 h2 h3 h4
        refine loopN_succ hX (ih (k := aLoop (aCode call N x) kx kr n) h3 h4 h1 (fun ae2 c2 e2 g1 g2 g3 g4 => ihn ae2 c2 e2 g1 (h2.trans g2) g3 g4) (fun j ae2 c2 e2 g1 g2 g3 g4 => hkx j ae2 c2 e2 g1 (h2.trans g2) g3 g4) (fun ae2 c2 e2 g1 g2 g3 g4 => hkr ae2 c2 e2 g1 (h2.trans g2) g3 g4))
    exact lpn rounds (key rounds ae c e ha (To.refl _) h hE)
  | rangeFunc f ps a b _ _ => intro c ae e k kx kr K Kx Kr h hE ha; cases ha
  | exit id => intro c ae e k kx kr K Kx Kr h hE ha hk hkx hkr; exact hkx id ae c e ha (To.refl _) h hE
  | scope b _ => intro c ae e k kx kr K Kx Kr h hE ha; cases ha
  | label l => intro c ae e k kx kr K Kx Kr h hE ha hk _ _; exact hk ae c e ha (To.refl _) h hE
  | goto l => intro c ae e k kx kr K Kx Kr h hE ha; cases ha
  | ret => intro c ae e k kx kr K Kx Kr h hE ha _ _ hkr; exact hkr ae c e ha (To.refl _) h hE
  | refuse s => intro c ae e k kx kr K Kx Kr h hE ha; cases ha
theorem aRes_ok (h : Ok m0 S w0 c) (hE : ER c.ι N ae e) : ∀ {l : List ResultVar} {k : List Value → Bool} {K : List Value → Prop}, aRes N ae c.M l k = true → (∀ vs vs', k vs = true → VRL c.ι vs vs' → K vs') → evRes Tryz.prog N e c.w l K
  | [], k, K, ha, hK => hK [] [] ha .nil
  | .tmp t :: l, k, K, ha, hK => by
    obtain ⟨v, h1, h2⟩ := agK_out hE ha
    exact aRes_ok (l := l) (k := fun l => k (v :: l)) h hE h1 fun vs vs' h3 h4 => hK _ _ h3 (.cons h2 h4)
  | .cell a t :: l, k, K, ha, hK => by
    obtain ⟨v, h1, h2⟩ := agK_out hE ha
    split at h1
    case h_2 => cases h1
    rename_i ad
    obtain ⟨b, kk, h3, h4, h5⟩ := h2.ptr_out
    obtain ⟨u, u', g1, g2, ab, ob, g3, g4, g5⟩ := ldB_ok h h3 h1
    simp only [evRes]
    rw [h5]
    exact ⟨⟨u', g5 _ (h.heap g4), aRes_ok (l := l) (k := fun l => k (u :: l)) h hE g1 fun vs vs' h3 h4 => hK _ _ h3 (.cons g2 h4)⟩⟩
theorem resV_R {ι : At} {vs vs' : List Value} (h : VRL ι vs vs') : VR ι (resV vs) (resV vs') := by
  cases h with
  | nil => exact VR.tup .nil
  | cons h1 h2 =>
    cases h2 with
    | nil => exact h1
    | cons h3 h4 => exact VR.tup (.cons h1 (.cons h3 h4))
theorem aEnv_out : ∀ {l : List Value} {i : Nat} {t : T Value} {k : T Value → Bool}, aEnv l i t k = true → ∃ t', k t' = true ∧ ∀ j, T.get t' (pth j) = if i ≤ j ∧ j < i + l.length then l[j - i]? else T.get t (pth j)
  | [], i, t, k, h => ⟨t, h, fun j => by rw [if_neg (fun hc => by have := hc.2; simp at this; omega)]⟩
  | v :: l, i, t, k, h => by
    have h : T.putK (pth i) t (some v) (fun t => aEnv l (Nat.succ i) t k) = true := h
    rw [putK_eq] at h
    obtain ⟨t', h1, h2⟩ := aEnv_out h
    refine ⟨t', h1, fun j => ?_⟩
    rw [h2 j, get_putN]
    by_cases hj : j = i
    · subst hj
      rw [if_neg (by omega), if_pos rfl, if_pos (by simp)]
      simp
    · rw [if_neg hj]
      by_cases hlt : i ≤ j ∧ j < i + (v :: l).length
      · rw [if_pos hlt, if_pos (by simp at hlt; omega)]
        obtain ⟨q, rfl⟩ : ∃ q, j = i + 1 + q := ⟨j - i - 1, by omega⟩
        rw [show i + 1 + q - Nat.succ i = q by omega, show i + 1 + q - i = q + 1 by omega]
        simp
      · rw [if_neg hlt, if_neg (by simp at hlt ⊢; omega)]
theorem aBody_ok (hkeys : KeysOk) (hcall : CallOk m0 S w0 call) : CallOk m0 S w0 (aBody call) := by
  intro f args args' c k K h hv ha hK
  unfold aBody at ha
  split at ha
  case h_2 => cases ha
  rename_i fn hf
  cases hb : fn.body with
  | none => rw [hb] at ha; cases ha
  | some cd =>
  rw [hb] at ha
  dsimp only at ha
  cases hl : Nat.ble args.length fn.ntmps with
  | false => rw [hl] at ha; cases ha
  | true =>
  rw [hl] at ha
  obtain ⟨ae, h1, h2⟩ := aEnv_out ha
  have hE : ER c.ι fn.ntmps ae (envOf args') := fun t ht => by
    have e1 : aget ae t = match Ev.look args t with | some v => v | none => undef := by
      unfold aget
      rw [h2 t, look_eq]
      by_cases hlt : t < args.length
      · rw [if_pos ⟨Nat.zero_le _, by omega⟩, Nat.sub_zero]; rfl
      · rw [if_neg (by omega), List.getElem?_eq_none (by omega)]; rfl
    rw [e1]
    unfold envOf
    rw [look_eq, look_eq]
    by_cases hlt : t < args.length
    · obtain ⟨v', h3, h4⟩ := hv.get (List.getElem?_eq_getElem hlt)
      rw [List.getElem?_eq_getElem hlt, h3]; exact h4
    · rw [List.getElem?_eq_none (by omega), List.getElem?_eq_none (by rw [hv.len]; omega)]; exact VR.undef
  have hbody : bodyOf fn = cd := by unfold bodyOf; rw [hb]
  refine inlT hX (fn := fn) ?_ hf (by rw [hb]; rfl) (by rw [hv.len]; exact hl)
  rw [hbody]
  have fin : ∀ ae' (c' : Cf) e', aRes fn.ntmps ae' c'.M fn.results.toList (fun vs => k (resV vs) c'.nx c'.M) = true → To c c' → Ok m0 S w0 c' → ER c'.ι fn.ntmps ae' e' → evRes Tryz.prog fn.ntmps e' c'.w fn.results.toList fun vs => K (resV vs) c'.w :=
    fun ae' c' e' g1 g2 g3 g4 => aRes_ok g3 g4 g1 fun vs vs' g5 g6 => hK _ c' _ g5 g2 g3 (resV_R g6)
  exact aCode_ok hkeys hcall cd (k := fun ae nx M => aRes fn.ntmps ae M fn.results.toList fun vs => k (resV vs) nx M) (kx := fun _ _ _ _ => false) (kr := fun ae nx M => aRes fn.ntmps ae M fn.results.toList fun vs => k (resV vs) nx M) h hE h1 fin (fun j ae' c' e' g1 => by cases g1) fin
end
def SmOne (m0 : Mem) (f : Nat) (s : Sm) : Prop := ∀ (S : List Nat) (w0 : World) (args args' : List Value) (c : Cf) (k : KS) (K : Value → World → Prop), Ok m0 S w0 c → VRL c.ι args args' → s args c.nx c.M k = true →
  (∀ v (c' : Cf) v', k v c'.nx c'.M = true → To c c' → Ok m0 S w0 c' → VR c'.ι v v' → K v' c'.w) → CallReq Tryz.prog f (toArr args') c.w K
def SmOk (m0 : Mem) (sm : Nat → Option Sm) : Prop := ∀ f s, sm f = some s → SmOne m0 f s
theorem run_ok {sm : Nat → Option Sm} {m0 : Mem} (hkeys : KeysOk) (hsm : SmOk m0 sm) {S : List Nat} {w0 : World} : ∀ d, CallOk m0 S w0 (run sm d)
  | 0 => fun g args args' c k K _ _ ha _ => by cases ha
  | d + 1 => fun g args args' c k K h hv ha hK => by
    have ha : (match sm g with | some s => s args c.nx c.M k | none => aBody (run sm d) g args c.nx c.M k) = true := ha
    cases hs : sm g with
    | some s =>
      rw [hs] at ha
      exact hsm g s hs S w0 args args' c k K h hv ha hK
    | none =>
      rw [hs] at ha
      exact aBody_ok hkeys (run_ok hkeys hsm d) g args args' c k K h hv ha hK
def smOf : List (Nat × Sm) → Nat → Option Sm
  | [], _ => none
  | x :: l, f => match Nat.beq f x.1 with | true => some x.2 | false => smOf l f
theorem smOf_ok {m0 : Mem} : ∀ {l : List (Nat × Sm)}, (∀ x ∈ l, SmOne m0 x.1 x.2) → SmOk m0 (smOf l)
  | [], _, f, s, h => by cases h
  | x :: l, hl, f, s, h => by
    have h : (match Nat.beq f x.1 with | true => some x.2 | false => smOf l f) = some s := h
    cases hb : Nat.beq f x.1 with
    | true =>
      rw [hb] at h
      injection h with h
      subst h
      rw [Nat.eq_of_beq_eq_true hb]
      exact hl x List.mem_cons_self
    | false =>
      rw [hb] at h
      exact smOf_ok (fun y hy => hl y (List.mem_cons_of_mem _ hy)) f s h
theorem Ok.world {m0 : Mem} {S : List Nat} {w0 : World} {c : Cf} (h : Ok m0 S w0 c) {w' : World} (hL : Ev.Loc m0 S w0 c.m c.L w') : Ok m0 S w0 { c with w := w' } ∧ To c { c with w := w' } := h.move (Mem.Le.refl _) hL fun _ _ _ _ _ _ _ _ h => h
theorem Ok.setP {m0 : Mem} {S : List Nat} {w0 : World} {c : Cf} (h : Ok m0 S w0 c) {i : Nat} {ab ab' : AB} {b k : Nat} {o o' : Obj} {L2 : Own} {w' : World} (hi : c.M.get (pth i) = some ab) (hown : ab.own = true) (hb : c.ι i = some (b, k)) (hP : c.L.Perm ((b, o) :: L2))
    (hL : Ev.Loc m0 S w0 c.m ((b, o') :: L2) w') (hAR : AR c.ι k ab' o') (hst : ab'.st = c.nx) (ho : ab'.own = true) :
    let c' : Cf := ⟨c.ι, c.nx + 1, T.put (pth i) c.M (some ab'), c.m, (b, o') :: L2, w'⟩
    Ok m0 S w0 c' ∧ To c c' := by
  intro c'
  refine h.turn (c' := c') (At.le.refl _) (Nat.lt_succ_self _) (fun j hj => h.fresh j (by have : c.nx + 1 ≤ j := hj; omega)) (Mem.Le.refl _) hL i i ab' b k o' hb hAR hst ?_ (fun j => ?_) (fun j ab2 b2 k2 o2 h1 h2 h3 h4 h5 h6 => ?_) (fun _ j ab2 k2 h1 h2 h3 h4 h5 => ?_)
  · unfold Holds; rw [ho]; exact List.mem_cons_self
  · show T.get (T.put (pth i) c.M (some ab')) (pth j) = _
    rw [get_putN]
    by_cases hj : j = i
    · rw [if_pos hj, if_pos hj]
    · rw [if_neg hj, if_neg hj, if_neg hj]
  · rcases List.mem_cons.1 (hP.subset h6) with e | e
    · injection e with e _
      subst e
      exact absurd (h.inj j i ab2 ab _ k2 k h3 h4 hi hown h5 hb) h1
    · exact List.mem_cons_of_mem _ e
  · exact h1 (h.inj j i ab2 ab _ k2 k h3 h4 hi hown h5 hb)
end
end Go.Proofs.YtloofgoblodeiaaGreatDoor.am
namespace Go.Proofs
open Go.Shelf
def Tryz.laysM171_ren : Go.Shelf.Ren := ⟨fun | 171 => 22 | 243 => 55 | 246 => 120 | 283 => 203 | 284 => 204 | 285 => 205 | 286 => 206 | 129 => 268 | 317 => 267 | 318 => 269 | 319 => 270 | 320 => 271 | 337 => 322 | 338 => 263 | n => n, fun | 3 => 3 | 9 => 9 | 2 => 2 | 4 => 4 | 171 => 329 | 0 => 0 | 53 => 55 | 37 => 27 | 5 => 5 | 173 => 332 | 212 => 401 | 51 => 135 | 20 => 20 | 213 => 402 | 46 => 157 | 232 => 461 | 233 => 441 | n => n, fun | 17 => 1 | 18 => 5 | 19 => 4 | n => n⟩
theorem Tryz.laysM171 : Go.Proofs.LaysM.n171 Tryz.prog Tryz.laysM171_ren := {
  mixed := by kernel_rfl
  f129 := Tryz.func268.trans (congrArg some (by kernel_rfl))
  f171 := Tryz.func22.trans (congrArg some (by kernel_rfl))
  f243 := Tryz.func55.trans (congrArg some (by kernel_rfl))
  f246 := Tryz.func120.trans (congrArg some (by kernel_rfl))
  f283 := Tryz.func203.trans (congrArg some (by kernel_rfl))
  f284 := Tryz.func204.trans (congrArg some (by kernel_rfl))
  f285 := Tryz.func205.trans (congrArg some (by kernel_rfl))
  f286 := Tryz.func206.trans (congrArg some (by kernel_rfl))
  f317 := Tryz.func267.trans (congrArg some (by kernel_rfl))
  f318 := Tryz.func269.trans (congrArg some (by kernel_rfl))
  f319 := Tryz.func270.trans (congrArg some (by kernel_rfl))
  f320 := Tryz.func271.trans (congrArg some (by kernel_rfl))
  f337 := Tryz.func322.trans (congrArg some (by kernel_rfl))
  f338 := Tryz.func263.trans (congrArg some (by kernel_rfl))
  t0 := Tryz.underlying0
  a0 := Tryz.isAgg0
  z0 := Tryz.sizeOf0
  v0 := Tryz.zeroValue0
  t2 := Tryz.underlying2
  a2 := Tryz.isAgg2
  z2 := Tryz.sizeOf2
  v2 := Tryz.zeroValue2
  t3 := Tryz.underlying3
  a3 := Tryz.isAgg3
  z3 := Tryz.sizeOf3
  v3 := Tryz.zeroValue3
  t4 := Tryz.underlying4
  a4 := Tryz.isAgg4
  z4 := Tryz.sizeOf4
  v4 := Tryz.zeroValue4
  t5 := Tryz.underlying5
  a5 := Tryz.isAgg5
  z5 := Tryz.sizeOf5
  v5 := Tryz.zeroValue5
  t9 := Tryz.underlying9
  a9 := Tryz.isAgg9
  z9 := Tryz.sizeOf9
  v9 := Tryz.zeroValue9
  t20 := Tryz.underlying20
  a20 := Tryz.isAgg20
  z20 := Tryz.sizeOf20
  v20 := Tryz.zeroValue20
  t37 := Tryz.underlying27
  a37 := Tryz.isAgg27
  z37 := Tryz.sizeOf27
  v37 := Tryz.zeroValue27
  t46 := Tryz.underlying157
  a46 := Tryz.isAgg157
  z46 := Tryz.sizeOf157
  v46 := Tryz.zeroValue157
  t51 := Tryz.underlying135
  a51 := Tryz.isAgg135
  z51 := Tryz.sizeOf135
  v51 := Tryz.zeroValue135
  t53 := Tryz.underlying55
  a53 := Tryz.isAgg55
  z53 := Tryz.sizeOf55
  v53 := Tryz.zeroValue55
  t171 := Tryz.underlying329
  a171 := Tryz.isAgg329
  z171 := Tryz.sizeOf329
  v171 := Tryz.zeroValue329
  t173 := Tryz.underlying332
  a173 := Tryz.isAgg332
  z173 := Tryz.sizeOf332
  v173 := Tryz.zeroValue332
  t212 := Tryz.underlying401
  a212 := Tryz.isAgg401
  z212 := Tryz.sizeOf401
  v212 := Tryz.zeroValue401
  t213 := Tryz.underlying402
  a213 := Tryz.isAgg402
  z213 := Tryz.sizeOf402
  t232 := Tryz.underlying461
  a232 := Tryz.isAgg461
  z232 := Tryz.sizeOf461
  v232 := Tryz.zeroValue461
  t233 := Tryz.underlying441
  a233 := Tryz.isAgg441
  z233 := Tryz.sizeOf441
  v233 := Tryz.zeroValue441
  g17 := by kernel_rfl
  g18 := by kernel_rfl
  g19 := by kernel_rfl
  i0 := by kernel_rfl
  i2 := by kernel_rfl
  i3 := by kernel_rfl
  i4 := by kernel_rfl
  i5 := by kernel_rfl
  i9 := by kernel_rfl
  i20 := by kernel_rfl
  i37 := by kernel_rfl
  i46 := by kernel_rfl
  i51 := by kernel_rfl
  i53 := by kernel_rfl
  i171 := by kernel_rfl
  i173 := by kernel_rfl
  i212 := by kernel_rfl
  i232 := by kernel_rfl
  i233 := by kernel_rfl
  m17 := by kernel_rfl
  m18 := by kernel_rfl
  m19 := by kernel_rfl }
open Go.RowKit Go.Sort Go.Lib in
theorem Tryz.strconv_Itoa (n : Int) (h0 : -9223372036854775808 ≤ n) (h1 : n ≤ 9223372036854775807) (w : World) (htab : Lib.TabIs Tryz.prog w "internal/strconv.uint64pow10" .u64 Lib.pow10Tab) :
    Calls Tryz.prog 22 #[.int .i64 n] w fun e w' => e = .returned (.string ⟨(Lib.itoa n).toArray⟩) ∧ ∃ k os, w' = grow (w.drewN k) os := Any.strconv_Itoa Tryz.laysM171 n h0 h1 w htab
end Go.Proofs
