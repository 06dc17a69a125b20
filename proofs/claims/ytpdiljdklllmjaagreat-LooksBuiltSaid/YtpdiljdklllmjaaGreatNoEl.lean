/- norm, plain law: Or and And of nodes. Conditions: none. -/
import Derived.Test.YtpdiljdklllmjaaGreatNoNorm

namespace Go.Proofs.YtpdiljdklllmjaaGreat.ar
open Go Go.Ev Go.Proofs

/-! ### What is put together -/
structure El where
  P : Int → Prop
  hb : Prop
  bt : Nat → Prop
theorem El.ext' {E F : El} (h1 : ∀ z, E.P z ↔ F.P z) (h2 : E.hb ↔ F.hb) (h3 : ∀ j, E.bt j ↔ F.bt j) : E = F := by
  obtain ⟨P, hb, bt⟩ := E
  obtain ⟨P', hb', bt'⟩ := F
  obtain rfl : P = P' := funext fun z => propext (h1 z)
  obtain rfl : hb = hb' := propext h2
  obtain rfl : bt = bt' := funext fun j => propext (h3 j)
  rfl
def nothingI : Bool → Int | true => 2 | false => 0
def winsI : Bool → Int | true => 0 | false => 2
def btOf (g : Bool) (ns : List Nd) (Q : Int → Prop) (j : Nat) : Prop := match g with
  | false => ∃ z, Q z ∧ kindN ns z = 2 ∧ bit (setOf (nodeN ns z).1) j = true
  | true => ∀ z, Q z → kindN ns z = 2 → bit (setOf (nodeN ns z).1) j = true
def elOf (g : Bool) (ns : List Nd) (Q : Int → Prop) : El := ⟨fun z => Q z ∧ kindN ns z ≠ 2 ∧ z ≠ nothingI g, ∃ z, Q z ∧ kindN ns z = 2, btOf g ns Q⟩
def ofId (g : Bool) (ns : List Nd) (x : Int) : El := elOf g ns fun z => z ∈ chN ns (kdG g) x
def elL (g : Bool) (ns : List Nd) (l : List Int) : El := elOf g ns fun z => ∃ x ∈ l, z ∈ chN ns (kdG g) x
def top (g : Bool) (E : El) : Prop := E.P (winsI g) ∨ g = true ∧ E.hb ∧ ∀ j, ¬ E.bt j
def sim (g : Bool) (E F : El) : Prop := top g E ∧ top g F ∨ E = F
def joinB (g : Bool) (a b : Prop) : Prop := match g with | false => a ∨ b | true => a ∧ b
def join (g : Bool) (E F : El) : El := ⟨fun z => E.P z ∨ F.P z, E.hb ∨ F.hb, fun j => joinB g (E.bt j) (F.bt j)⟩
def unitE (g : Bool) : El := ⟨fun _ => False, False, fun _ => g = true⟩
def IsG (g : Bool) (ns : List Nd) (r : Int) (E : El) : Prop := okId ns r ∧ sim g (ofId g ns r) E
theorem sim.refl (g : Bool) (E : El) : sim g E E := .inr rfl
theorem sim.symm {g : Bool} {E F : El} (h : sim g E F) : sim g F E := h.elim (fun h => .inl ⟨h.2, h.1⟩) fun h => .inr h.symm
theorem sim.trans {g : Bool} {E F G : El} (h : sim g E F) (k : sim g F G) : sim g E G := by
  rcases h with h | rfl
  · rcases k with k | rfl
    · exact .inl ⟨h.1, k.2⟩
    · exact .inl h
  · exact k
theorem join_comm (g : Bool) (E F : El) : join g E F = join g F E := by
  refine El.ext' (fun z => or_comm) or_comm fun j => ?_
  cases g
  · exact or_comm
  · exact and_comm
theorem join_assoc (g : Bool) (E F G : El) : join g (join g E F) G = join g E (join g F G) := by
  refine El.ext' (fun z => or_assoc) or_assoc fun j => ?_
  cases g
  · exact or_assoc
  · exact and_assoc
theorem join_self (g : Bool) (E : El) : join g E E = E := by
  refine El.ext' (fun z => or_self_iff) or_self_iff fun j => ?_
  cases g
  · exact or_self_iff
  · exact and_self_iff
theorem join_unit (g : Bool) (E : El) : join g E (unitE g) = E := by
  refine El.ext' (fun z => or_iff_left id) (or_iff_left id) fun j => ?_
  cases g
  · exact or_iff_left (by unfold unitE; simp)
  · exact and_iff_left rfl
theorem top_join {g : Bool} {E F : El} (h : top g E) : top g (join g E F) := by
  rcases h with h | ⟨rfl, h1, h2⟩
  · exact .inl (.inl h)
  · exact .inr ⟨rfl, .inl h1, fun j hj => h2 j hj.1⟩
theorem sim.join {g : Bool} {E F : El} (h : sim g E F) (G : El) : sim g (join g E G) (join g F G) := by
  rcases h with ⟨h1, h2⟩ | rfl
  · exact .inl ⟨top_join h1, top_join h2⟩
  · exact .inr rfl
theorem elOf_congr {g : Bool} {ns : List Nd} {Q R : Int → Prop} (h : ∀ z, Q z ↔ R z) : elOf g ns Q = elOf g ns R := by rw [show Q = R from funext fun z => propext (h z)]
theorem elOf_or (g : Bool) (ns : List Nd) (Q R : Int → Prop) : elOf g ns (fun z => Q z ∨ R z) = join g (elOf g ns Q) (elOf g ns R) := by
  refine El.ext' (fun z => or_and_right) ⟨?_, ?_⟩ fun j => ?_
  · rintro ⟨z, h | h, k⟩
    · exact .inl ⟨z, h, k⟩
    · exact .inr ⟨z, h, k⟩
  · rintro (⟨z, h, k⟩ | ⟨z, h, k⟩)
    · exact ⟨z, .inl h, k⟩
    · exact ⟨z, .inr h, k⟩
  · cases g
    · constructor
      · rintro ⟨z, h | h, k⟩
        · exact .inl ⟨z, h, k⟩
        · exact .inr ⟨z, h, k⟩
      · rintro (⟨z, h, k⟩ | ⟨z, h, k⟩)
        · exact ⟨z, .inl h, k⟩
        · exact ⟨z, .inr h, k⟩
    · constructor
      · exact fun h => ⟨fun z hz => h z (.inl hz), fun z hz => h z (.inr hz)⟩
      · rintro ⟨h1, h2⟩ z (h | h)
        · exact h1 z h
        · exact h2 z h
theorem elL_nil (g : Bool) (ns : List Nd) : elL g ns [] = unitE g := by
  refine El.ext' (fun z => ⟨?_, False.elim⟩) ⟨?_, False.elim⟩ fun j => ?_
  · rintro ⟨⟨x, hx, -⟩, -⟩; simp at hx
  · rintro ⟨z, ⟨x, hx, -⟩, -⟩; simp at hx
  · cases g
    · exact ⟨fun ⟨z, ⟨x, hx, _⟩, _⟩ => absurd hx (by simp), fun h => Bool.noConfusion (show false = true from h)⟩
    · exact ⟨fun _ => rfl, fun _ z ⟨x, hx, _⟩ => absurd hx (by simp)⟩
theorem elL_cons (g : Bool) (ns : List Nd) (x : Int) (l : List Int) : elL g ns (x :: l) = join g (ofId g ns x) (elL g ns l) := by
  unfold elL ofId
  rw [← elOf_or]
  exact elOf_congr fun z => by simp
theorem elL_one (g : Bool) (ns : List Nd) (x : Int) : elL g ns [x] = ofId g ns x := by rw [elL_cons, elL_nil, join_unit]
theorem elL_two (g : Bool) (ns : List Nd) (x y : Int) : elL g ns [x, y] = join g (ofId g ns x) (ofId g ns y) := by rw [elL_cons, elL_one]
theorem kdG_or3 (g : Bool) : kdG g = 3 ∨ kdG g = 4 ∨ kdG g = 5 := by cases g <;> decide
theorem ofId_pre {ns ns' : List Nd} (hO : OkA ns) (hO' : OkA ns') (hp : ns <+: ns') (g : Bool) {x : Int} (hx : okId ns x) : ofId g ns' x = ofId g ns x := by
  have hok := ch_ok hO (kdG_or3 g) x hx
  unfold ofId
  rw [ch_pre hO hO' hp (kdG_or3 g) x hx]
  refine El.ext' (fun z => ?_) ?_ fun j => ?_
  · exact ⟨fun ⟨h1, h2, h3⟩ => ⟨h1, by rwa [kind_pre hp (hok z h1)] at h2, h3⟩, fun ⟨h1, h2, h3⟩ => ⟨h1, by rwa [kind_pre hp (hok z h1)], h3⟩⟩
  · exact ⟨fun ⟨z, h1, h2⟩ => ⟨z, h1, by rwa [kind_pre hp (hok z h1)] at h2⟩, fun ⟨z, h1, h2⟩ => ⟨z, h1, by rwa [kind_pre hp (hok z h1)]⟩⟩
  · cases g
    · exact ⟨fun ⟨z, h1, h2, h3⟩ => ⟨z, h1, by rwa [kind_pre hp (hok z h1)] at h2, by rwa [node_pre hp (hok z h1)] at h3⟩, fun ⟨z, h1, h2, h3⟩ => ⟨z, h1, by rwa [kind_pre hp (hok z h1)], by rwa [node_pre hp (hok z h1)]⟩⟩
    · exact ⟨fun h z h1 h2 => by have := h z h1 (by rwa [kind_pre hp (hok z h1)]); rwa [node_pre hp (hok z h1)] at this, fun h z h1 h2 => by rw [kind_pre hp (hok z h1)] at h2; rw [node_pre hp (hok z h1)]; exact h z h1 h2⟩
theorem elL_pre {ns ns' : List Nd} (hO : OkA ns) (hO' : OkA ns') (hp : ns <+: ns') (g : Bool) : ∀ {l : List Int}, (∀ x ∈ l, okId ns x) → elL g ns' l = elL g ns l
  | [], _ => by rw [elL_nil, elL_nil]
  | x :: l, h => by rw [elL_cons, elL_cons, ofId_pre hO hO' hp g (h x (by simp)), elL_pre hO hO' hp g fun y hy => h y (by simp [hy])]
theorem IsG.pre {ns ns' : List Nd} (hO : OkA ns) (hO' : OkA ns') (hp : ns <+: ns') {g : Bool} {r : Int} {E : El} (h : IsG g ns r E) : IsG g ns' r E :=
  ⟨okId_pre hp h.1, by rw [ofId_pre hO hO' hp g h.1]; exact h.2⟩

/-! ### One node for one element -/
theorem Nm.kind2 {ns : List Nd} (h : Nm ns) {z : Int} (hz : okId ns z) (hk : kindN ns z = 2) : At ns z (ndB (setOf (nodeN ns z).1)) ∧ InS (setOf (nodeN ns z).1) ∧ setOf (nodeN ns z).1 ≠ z4 := by
  obtain ⟨x, h1, h2⟩ := hz.at
  rw [h2]
  have hk' : x.k = 2 := by rw [← h1.kind]; exact hk
  have hr := h1.right h.ok
  unfold rightN at hr
  rw [if_neg (by omega), if_pos hk'] at hr
  have e := of_decide_eq_true hr
  refine ⟨?_, inS_of (h.ok.inn x (List.mem_of_getElem? h1.2)), (h.nm z x h1).1 hk'⟩
  have : ndB (setOf x) = x := by rw [← e, hk']; rfl
  rw [show ((x, true) : Nd × Bool).1 = x from rfl, this]
  exact h1
theorem Nm.g0 {ns : List Nd} (h : Nm ns) (g : Bool) : okId ns (nothingI g) ∧ kindN ns (nothingI g) ≠ 2 ∧ kindN ns (nothingI g) ≠ kdG g := by
  cases g
  · exact ⟨h.n0.ok, by show kindN ns 0 ≠ 2; rw [h.n0.kind]; decide, by show kindN ns 0 ≠ 4; rw [h.n0.kind]; decide⟩
  · exact ⟨h.n2.ok, by show kindN ns 2 ≠ 2; rw [h.n2.kind]; decide, by show kindN ns 2 ≠ 5; rw [h.n2.kind]; decide⟩
theorem Nm.g1 {ns : List Nd} (h : Nm ns) (g : Bool) : okId ns (winsI g) ∧ kindN ns (winsI g) ≠ 2 ∧ kindN ns (winsI g) ≠ kdG g := by
  cases g
  · exact ⟨h.n2.ok, by show kindN ns 2 ≠ 2; rw [h.n2.kind]; decide, by show kindN ns 2 ≠ 4; rw [h.n2.kind]; decide⟩
  · exact ⟨h.n0.ok, by show kindN ns 0 ≠ 2; rw [h.n0.kind]; decide, by show kindN ns 0 ≠ 5; rw [h.n0.kind]; decide⟩
theorem wn_ne (g : Bool) : winsI g ≠ nothingI g := by cases g <;> decide
theorem wn_cases (g : Bool) {z : Int} (h1 : z ≠ winsI g) (h2 : z ≠ nothingI g) : z ≠ 0 ∧ z ≠ 2 := by cases g; exact ⟨h2, h1⟩; exact ⟨h1, h2⟩
/-- A node's list, without what counts for nothing. -/
def elI (g : Bool) (ns : List Nd) (x : Int) : List Int := if x = nothingI g then [] else chN ns (kdG g) x
theorem chG_lst {ns : List Nd} (h : Nm ns) (g : Bool) {x : Int} (hx : okId ns x) (hk : kindN ns x = kdG g) : Lst ns (kdG g) (chN ns (kdG g) x) := ch_lst h (kdG_or g) hx hk
theorem elI_not {ns : List Nd} (h : Nm ns) (g : Bool) {x : Int} (hx : okId ns x) : ∀ z ∈ elI g ns x, z ≠ nothingI g := by
  intro z hz
  unfold elI at hz
  split at hz
  · simp at hz
  rename_i hn
  by_cases hk : kindN ns x = kdG g
  · have hl := chG_lst h g hx hk
    cases g
    · exact hl.none z hz
    · exact hl.all z hz
  · rw [ch_leaf _ hk] at hz
    rw [List.mem_singleton.1 hz]; exact hn
theorem elI_lt {ns : List Nd} (h : Nm ns) (g : Bool) {x : Int} (hx : okId ns x) : (elI g ns x).Pairwise (· < ·) := by
  unfold elI
  split
  · simp
  by_cases hk : kindN ns x = kdG g
  · exact (chG_lst h g hx hk).lt
  · rw [ch_leaf _ hk]; simp
theorem ofId_elI {ns : List Nd} (h : Nm ns) (g : Bool) (x : Int) : ofId g ns x = elOf g ns fun z => z ∈ elI g ns x := by
  unfold ofId elI
  split
  · rename_i e
    have h0 := h.g0 g
    rw [e, ch_leaf _ h0.2.2]
    refine El.ext' (fun z => ⟨fun ⟨h1, _, h3⟩ => absurd (List.mem_singleton.1 h1) h3, fun ⟨h1, _⟩ => absurd h1 (by simp)⟩)
      ⟨fun ⟨z, h1, h2⟩ => absurd ((List.mem_singleton.1 h1) ▸ h2) h0.2.1, fun ⟨z, h1, _⟩ => absurd h1 (by simp)⟩ fun j => ?_
    cases g
    · exact ⟨fun ⟨z, h1, h2, _⟩ => absurd ((List.mem_singleton.1 h1) ▸ h2) h0.2.1, fun ⟨z, h1, _⟩ => absurd h1 (by simp)⟩
    · exact ⟨fun _ z h1 => absurd h1 (by simp), fun _ z h1 h2 => absurd ((List.mem_singleton.1 h1) ▸ h2) h0.2.1⟩
  · rfl
theorem elI_one {ns : List Nd} (h : Nm ns) (g : Bool) {x : Int} (hx : okId ns x) : ∀ z ∈ elI g ns x, ∀ y ∈ elI g ns x, kindN ns z = 2 → kindN ns y = 2 → z = y := by
  intro z hz y hy h1 h2
  unfold elI at hz hy
  split at hz
  · simp at hz
  rename_i hn
  rw [if_neg hn] at hy
  by_cases hk : kindN ns x = kdG g
  · exact (chG_lst h g hx hk).one z hz y hy h1 h2
  · rw [ch_leaf _ hk] at hz hy
    rw [List.mem_singleton.1 hz, List.mem_singleton.1 hy]
theorem elI_ok {ns : List Nd} (h : Nm ns) (g : Bool) {x : Int} (hx : okId ns x) : ∀ z ∈ elI g ns x, okId ns z := by
  intro z hz
  unfold elI at hz
  split at hz
  · simp at hz
  · exact ch_ok h.ok (kdG_or3 g) x hx z hz
theorem elI_inj {ns : List Nd} (h : Nm ns) (g : Bool) {x y : Int} (hx : okId ns x) (hy : okId ns y) (e : elI g ns x = elI g ns y) : x = y := by
  unfold elI at e
  split at e
  · rename_i h1
    split at e
    · rename_i h2; rw [h1, h2]
    · exact absurd e.symm ch_ne
  · split at e
    · exact absurd e ch_ne
    · exact ch_inj h.ok (kdG_or3 g) x hx y hy e
theorem top_id {ns : List Nd} (h : Nm ns) {g : Bool} {x : Int} (hx : okId ns x) (ht : top g (ofId g ns x)) : x = winsI g := by
  rcases ht with ⟨h1, -, -⟩ | ⟨rfl, ⟨z, h1, h2⟩, h3⟩
  · by_cases hk : kindN ns x = kdG g
    · have hl := chG_lst h g hx hk
      cases g
      · exact absurd rfl (hl.all _ h1)
      · exact absurd rfl (hl.none _ h1)
    · rw [ch_leaf _ hk] at h1
      exact (List.mem_singleton.1 h1).symm
  · exfalso
    have hz := ch_ok h.ok (kdG_or3 true) x hx z h1
    obtain ⟨-, h4, h5⟩ := h.kind2 hz h2
    have hone : ∀ y ∈ chN ns (kdG true) x, kindN ns y = 2 → z = y := fun y hy hk => by
      by_cases hkx : kindN ns x = kdG true
      · exact (chG_lst h true hx hkx).one z h1 y hy h2 hk
      · rw [ch_leaf _ hkx] at h1 hy
        rw [List.mem_singleton.1 h1, List.mem_singleton.1 hy]
    apply h5
    refine bit_ext h4 inS_z fun j => ?_
    rw [bit_z]
    cases hb : bit (setOf (nodeN ns z).1) j with
    | false => rfl
    | true => exact absurd (fun y hy hk => by rw [← hone y hy hk]; exact hb) (h3 j)
theorem top_wins {ns : List Nd} (h : Nm ns) (g : Bool) : top g (ofId g ns (winsI g)) :=
  .inl ⟨by show winsI g ∈ chN ns (kdG g) (winsI g); rw [ch_leaf _ (h.g1 g).2.2]; simp, (h.g1 g).2.1, wn_ne g⟩
theorem el_uniq {ns : List Nd} (h : Nm ns) {g : Bool} {x y : Int} (hx : okId ns x) (hy : okId ns y) (hs : sim g (ofId g ns x) (ofId g ns y)) : x = y := by
  rcases hs with ⟨h1, h2⟩ | he
  · rw [top_id h hx h1, top_id h hy h2]
  · rw [ofId_elI h, ofId_elI h] at he
    suffices hh : ∀ x y, okId ns x → okId ns y → elOf g ns (fun z => z ∈ elI g ns x) = elOf g ns (fun z => z ∈ elI g ns y) → ∀ z, z ∈ elI g ns x → z ∈ elI g ns y from
      elI_inj h g hx hy (lt_ext (elI_lt h g hx) (elI_lt h g hy) fun z => ⟨hh x y hx hy he z, hh y x hy hx he.symm z⟩)
    clear he hx hy
    intro x y hx hy he z hz
    by_cases hk : kindN ns z = 2
    · have hbx : (elOf g ns fun z => z ∈ elI g ns x).hb := ⟨z, hz, hk⟩
      rw [he] at hbx
      obtain ⟨z', hz', hk'⟩ := hbx
      obtain ⟨a1, a2, -⟩ := h.kind2 (elI_ok h g hx z hz) hk
      obtain ⟨b1, b2, -⟩ := h.kind2 (elI_ok h g hy z' hz') hk'
      have hbit : ∀ j, bit (setOf (nodeN ns z).1) j = bit (setOf (nodeN ns z').1) j := fun j => by
        have e1 : (elOf g ns fun z => z ∈ elI g ns x).bt j = (elOf g ns fun z => z ∈ elI g ns y).bt j := by rw [he]
        have one : ∀ {x z : Int}, okId ns x → z ∈ elI g ns x → kindN ns z = 2 → ((elOf g ns fun z => z ∈ elI g ns x).bt j ↔ bit (setOf (nodeN ns z).1) j = true) := fun {x z} hx hz hk => by
          cases g
          · exact ⟨fun ⟨y, h1, h2, h3⟩ => by rw [elI_one h false hx z hz y h1 hk h2]; exact h3, fun h3 => ⟨z, hz, hk, h3⟩⟩
          · exact ⟨fun h1 => h1 z hz hk, fun h3 y h1 h2 => by rw [← elI_one h true hx z hz y h1 hk h2]; exact h3⟩
        rw [Bool.eq_iff_iff, ← one hx hz hk, ← one hy hz' hk', e1]
      have := bit_ext a2 b2 hbit
      rw [this] at a1
      rw [a1.inj h.ok b1]; exact hz'
    · have hp : (elOf g ns fun z => z ∈ elI g ns x).P z := ⟨hz, hk, elI_not h g hx z hz⟩
      rw [he] at hp
      exact hp.1
theorem IsG.uniq {ns : List Nd} (h : Nm ns) {g : Bool} {x y : Int} {E : El} (hx : IsG g ns x E) (hy : IsG g ns y E) : x = y := el_uniq h hx.1 hy.1 (hx.2.trans hy.2.symm)
end Go.Proofs.YtpdiljdklllmjaaGreat.ar
