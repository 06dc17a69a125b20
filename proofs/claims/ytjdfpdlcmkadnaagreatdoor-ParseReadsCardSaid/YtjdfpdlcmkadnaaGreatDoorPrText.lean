/- A plain pattern's text, as the program writes it. Conditions: none. -/
import Derived.Test.YtjdfpdlcmkadnaaGreatDoorPrPlain
import Derived.Test.YtjdfpdlcmkadnaaGreatDoorTreePlains

namespace Go.Proofs.YtjdfpdlcmkadnaaGreatDoor.pt
open Go Go.Ev Go.Proofs Go.Proofs.YtjdfpdlcmkadnaaGreatDoor.tree Go.Proofs.YtjdfpdlcmkadnaaGreatDoor.bd Go.Proofs.YtjdfpdlcmkadnaaGreatDoor.tabs

theorem freeze1 {α : Type} {m0 m : Mem} {S : List Nat} {w0 w : World} {te : Nat} {v : Value} {vs : List Value} {l : List α} {R : Value → α → Prop} {L1 L2 : Ev.Own} (h : OwnS te 1 v vs L1) (hL : Ev.Loc m0 S w0 m (L1 ++ L2) w) (hl : l.length = vs.length)
    (hR : ∀ (i : Nat) (x : α), l[i]? = some x → ∃ u, vs[i]? = some u ∧ R u x) :
    ∃ m', Ev.Loc m0 S w0 m' L2 w ∧ Mem.Le m m' ∧ Sl m' 1 (fun cs x => ∃ u, cs = [u] ∧ R u x) v l := by
  obtain ⟨m', A, c, -, h1, h2, h3, -⟩ := OwnS.freezeRows (l := l) (size := 1) (rows := vs.map fun r => [r]) (R := fun cs x => ∃ u, cs = [u] ∧ R u x) (by omega) (by rw [show (vs.map fun r => [r]).flatten = vs from by simp [← List.flatMap_def]]; exact h) hL (by simp) (by simpa using hl) fun i x hx => by
    obtain ⟨u, hu, hr⟩ := hR i x hx
    exact ⟨[u], by simp [hu], u, rfl, hr⟩
  exact ⟨m', h1, h2, h3⟩
def strs (ts : List (List UInt8)) : List Value := ts.map fun t => .string (bs t)
theorem strs_snoc (ts : List (List UInt8)) (t : List UInt8) : strs (ts ++ [t]) = strs ts ++ [.string (bs t)] := by simp [strs]
theorem strs_freeze {m0 m : Mem} {S : List Nat} {w0 w : World} {te : Nat} {v : Value} {ts : List (List UInt8)} {L1 L2 : Ev.Own} (h : OwnS te 1 v (strs ts) L1) (hL : Ev.Loc m0 S w0 m (L1 ++ L2) w) :
    ∃ m', Ev.Loc m0 S w0 m' L2 w ∧ Mem.Le m m' ∧ Sl m' 1 isS v ts := by
  obtain ⟨m', h1, h2, h3⟩ := freeze1 (R := fun u t => u = .string (bs t)) (l := ts) h hL (by simp [strs]) fun i x hx => ⟨_, by simp [strs, hx], rfl⟩
  exact ⟨m', h1, h2, Sl.le h3 (Mem.Le.refl _) fun _ _ _ ⟨u, e, hs⟩ => by rw [e, hs]; rfl⟩

theorem totT (rs : List Re) : totL ((rs.map textR).map par) ≤ 2400 * nodesL rs := by
  induction rs with
  | nil => simp [totL]
  | cons p l ih =>
    have h1 := text_len p
    have h3 := par_len (textR p)
    simp only [List.map_cons, nodesL, totL, List.sum_cons] at ih ⊢
    omega

end Go.Proofs.YtjdfpdlcmkadnaaGreatDoor.pt
