/- Small numbers' digits, as the program and as the document write them. Conditions: none. -/
import Derived.Test.YtjdfpdlcmkadnaaGreatDoorPrClass
import Derived.Test.YtjdfpdlcmkadnaaGreatDoorJn

namespace Go.Proofs.YtjdfpdlcmkadnaaGreatDoor.pt
open Go Go.Ev Go.Proofs

/-- A number's digits (of numbers below a hundred). -/
def numT (n : Nat) : List UInt8 := if n < 10 then [UInt8.ofNat (48 + n)] else [UInt8.ofNat (48 + n / 10), UInt8.ofNat (48 + n % 10)]
theorem numT_len (n : Nat) : (numT n).length ≤ 2 := by unfold numT; split <;> simp

def dig36 : List UInt8 := [48, 49, 50, 51, 52, 53, 54, 55, 56, 57, 97, 98, 99, 100, 101, 102, 103, 104, 105, 106, 107, 108, 109, 110, 111, 112, 113, 114, 115, 116, 117, 118, 119, 120, 121, 122]
theorem dig_lo : ∀ n, n < 21 → n < 10 → (dig36.take (n + 1)).drop n = numT n := by decide +kernel
def hun : List UInt8 := (List.range 100).flatMap fun n => [UInt8.ofNat (48 + n / 10), UInt8.ofNat (48 + n % 10)]
set_option maxRecDepth 100000 in
theorem dig_hi : ∀ n, n < 21 → ¬ n < 10 → (hun.take (n * 2 + 2)).drop (n * 2) = numT n := by decide +kernel

set_option maxRecDepth 100000 in
theorem small_fn (m : Mem) (n : Nat) (h : n ≤ 20) : FnV Tryz.prog 96 [.int .i64 n] m (.string (bs (numT n))) := by
  refine Fn.enter (N := 15) hX Tryz.func96 rfl rfl (by show _ ≤ _; simp) (fun w0 hL => ?_)
  conv => whnf
  conv => whnf
  repeat ((first | refine BrReq.tt ?_ | refine BrReq.ff ?_ | (refine' zl hX rfl rfl hL ?_ ?_ ?_; rotate_left 4; (repeat first | exact .h | refine .t ?_); exact rfl) | (refine' zm hX rfl rfl hL ?_ ?_ ?_; rotate_left 3; (repeat first | exact .h | refine .t ?_); exact rfl) | (refine' zs hX rfl rfl rfl hL ?_ ?_ ?_; rotate_left 3; (repeat first | exact .h | apply Sets.t); exact rfl; clear hL; intro w hL) | refine ArReq.i64 (by omega) (by omega) ?_ | refine SeqReq.go hX ?_ | refine OptReq.mk rfl ?_); conv => whnf)
  refine BrReq.dec (fun hlt => ?_) (fun hlt => ?_)
  · conv => whnf
    repeat ((first | (refine SlReq.mk n (n + 1) rfl rfl (by omega) (by show _ ≤ 36; omega) ?_) | refine BrReq.tt ?_ | refine BrReq.ff ?_ | (refine' zl hX rfl rfl hL ?_ ?_ ?_; rotate_left 4; (repeat first | exact .h | refine .t ?_); exact rfl) | (refine' zm hX rfl rfl hL ?_ ?_ ?_; rotate_left 3; (repeat first | exact .h | refine .t ?_); exact rfl) | (refine' zs hX rfl rfl rfl hL ?_ ?_ ?_; rotate_left 3; (repeat first | exact .h | apply Sets.t); exact rfl; clear hL; intro w hL) | refine ArReq.i64 (by omega) (by omega) ?_ | refine SeqReq.go hX ?_ | refine OptReq.mk rfl ?_); conv => whnf)
    refine RetReq.mk hL ⟨rfl, congrArg Value.string ?_⟩
    rw [← dig_lo n (by omega) (by omega)]
    exact bs_extract dig36 n (n + 1)
  · conv => whnf
    repeat ((first | (refine SlReq.mk (n * 2) (n * 2 + 2) (by omega) (by omega) (by omega) (by show _ ≤ 200; omega) ?_) | refine BrReq.tt ?_ | refine BrReq.ff ?_ | (refine' zl hX rfl rfl hL ?_ ?_ ?_; rotate_left 4; (repeat first | exact .h | refine .t ?_); exact rfl) | (refine' zm hX rfl rfl hL ?_ ?_ ?_; rotate_left 3; (repeat first | exact .h | refine .t ?_); exact rfl) | (refine' zs hX rfl rfl rfl hL ?_ ?_ ?_; rotate_left 3; (repeat first | exact .h | apply Sets.t); exact rfl; clear hL; intro w hL) | refine ArReq.i64 (by omega) (by omega) ?_ | refine SeqReq.go hX ?_ | refine OptReq.mk rfl ?_); conv => whnf)
    refine RetReq.mk hL ⟨rfl, congrArg Value.string ?_⟩
    rw [← dig_hi n (by omega) (by omega), ← bs_extract hun]
    exact congrArg (fun b : ByteArray => b.extract (n * 2) (n * 2 + 2)) (by decide +kernel)

theorem FormatInt_fn (m : Mem) (n : Nat) (h : n ≤ 20) : FnV Tryz.prog 92 [.int .i64 n, .int .i64 10] m (.string (bs (numT n))) := by
  refine Fn.enter (N := 54) hX Tryz.func92 rfl rfl (by show _ ≤ _; simp) (fun w0 hL => ?_)
  conv => whnf
  conv => whnf
  repeat ((first | refine BrReq.tt ?_ | refine BrReq.ff ?_ | (refine' zl hX rfl rfl hL ?_ ?_ ?_; rotate_left 4; (repeat first | exact .h | refine .t ?_); exact rfl) | (refine' zm hX rfl rfl hL ?_ ?_ ?_; rotate_left 3; (repeat first | exact .h | refine .t ?_); exact rfl) | (refine' zs hX rfl rfl rfl hL ?_ ?_ ?_; rotate_left 3; (repeat first | exact .h | apply Sets.t); exact rfl; clear hL; intro w hL) | refine ArReq.i64 (by omega) (by omega) ?_ | refine SeqReq.go hX ?_ | refine OptReq.mk rfl ?_); conv => whnf)
  conv => whnf
  repeat ((first | refine BrReq.yes (by omega) ?_ | refine BrReq.yes (by decide) ?_ | refine BrReq.tt ?_ | refine BrReq.ff ?_ | (refine' zl hX rfl rfl hL ?_ ?_ ?_; rotate_left 4; (repeat first | exact .h | refine .t ?_); exact rfl) | (refine' zm hX rfl rfl hL ?_ ?_ ?_; rotate_left 3; (repeat first | exact .h | refine .t ?_); exact rfl) | (refine' zs hX rfl rfl rfl hL ?_ ?_ ?_; rotate_left 3; (repeat first | exact .h | apply Sets.t); exact rfl; clear hL; intro w hL) | refine ArReq.i64 (by omega) (by omega) ?_ | refine SeqReq.go hX ?_ | refine OptReq.mk rfl ?_); conv => whnf)
  refine CallReq.val (small_fn m n h) hL ?_
  clear hL
  intro w hL
  conv => whnf
  repeat ((first | refine BrReq.tt ?_ | refine BrReq.ff ?_ | (refine' zl hX rfl rfl hL ?_ ?_ ?_; rotate_left 4; (repeat first | exact .h | refine .t ?_); exact rfl) | (refine' zm hX rfl rfl hL ?_ ?_ ?_; rotate_left 3; (repeat first | exact .h | refine .t ?_); exact rfl) | (refine' zs hX rfl rfl rfl hL ?_ ?_ ?_; rotate_left 3; (repeat first | exact .h | apply Sets.t); exact rfl; clear hL; intro w hL) | refine ArReq.i64 (by omega) (by omega) ?_ | refine SeqReq.go hX ?_ | refine OptReq.mk rfl ?_); conv => whnf)
  exact RetReq.mk hL ⟨rfl, rfl⟩
theorem Itoa0_fn (m : Mem) (n : Nat) (h : n ≤ 20) : FnV Tryz.prog 83 [.int .i64 n] m (.string (bs (numT n))) := by
  refine Fn.enter (N := 5) hX Tryz.func83 rfl rfl (by show _ ≤ _; simp) (fun w0 hL => ?_)
  conv => whnf
  conv => whnf
  repeat ((first | refine BrReq.tt ?_ | refine BrReq.ff ?_ | (refine' zl hX rfl rfl hL ?_ ?_ ?_; rotate_left 4; (repeat first | exact .h | refine .t ?_); exact rfl) | (refine' zm hX rfl rfl hL ?_ ?_ ?_; rotate_left 3; (repeat first | exact .h | refine .t ?_); exact rfl) | (refine' zs hX rfl rfl rfl hL ?_ ?_ ?_; rotate_left 3; (repeat first | exact .h | apply Sets.t); exact rfl; clear hL; intro w hL) | refine ArReq.i64 (by omega) (by omega) ?_ | refine SeqReq.go hX ?_ | refine OptReq.mk rfl ?_); conv => whnf)
  refine CallReq.val (FormatInt_fn m n h) hL ?_
  clear hL
  intro w hL
  conv => whnf
  repeat ((first | refine BrReq.tt ?_ | refine BrReq.ff ?_ | (refine' zl hX rfl rfl hL ?_ ?_ ?_; rotate_left 4; (repeat first | exact .h | refine .t ?_); exact rfl) | (refine' zm hX rfl rfl hL ?_ ?_ ?_; rotate_left 3; (repeat first | exact .h | refine .t ?_); exact rfl) | (refine' zs hX rfl rfl rfl hL ?_ ?_ ?_; rotate_left 3; (repeat first | exact .h | apply Sets.t); exact rfl; clear hL; intro w hL) | refine ArReq.i64 (by omega) (by omega) ?_ | refine SeqReq.go hX ?_ | refine OptReq.mk rfl ?_); conv => whnf)
  exact RetReq.mk hL ⟨rfl, rfl⟩
theorem Itoa_fn (m : Mem) (n : Nat) (h : n ≤ 20) : FnV Tryz.prog 76 [.int .i64 n] m (.string (bs (numT n))) := by
  refine Fn.enter (N := 5) hX Tryz.func76 rfl rfl (by show _ ≤ _; simp) (fun w0 hL => ?_)
  conv => whnf
  conv => whnf
  repeat ((first | refine BrReq.tt ?_ | refine BrReq.ff ?_ | (refine' zl hX rfl rfl hL ?_ ?_ ?_; rotate_left 4; (repeat first | exact .h | refine .t ?_); exact rfl) | (refine' zm hX rfl rfl hL ?_ ?_ ?_; rotate_left 3; (repeat first | exact .h | refine .t ?_); exact rfl) | (refine' zs hX rfl rfl rfl hL ?_ ?_ ?_; rotate_left 3; (repeat first | exact .h | apply Sets.t); exact rfl; clear hL; intro w hL) | refine ArReq.i64 (by omega) (by omega) ?_ | refine SeqReq.go hX ?_ | refine OptReq.mk rfl ?_); conv => whnf)
  refine CallReq.val (Itoa0_fn m n h) hL ?_
  clear hL
  intro w hL
  conv => whnf
  repeat ((first | refine BrReq.tt ?_ | refine BrReq.ff ?_ | (refine' zl hX rfl rfl hL ?_ ?_ ?_; rotate_left 4; (repeat first | exact .h | refine .t ?_); exact rfl) | (refine' zm hX rfl rfl hL ?_ ?_ ?_; rotate_left 3; (repeat first | exact .h | refine .t ?_); exact rfl) | (refine' zs hX rfl rfl rfl hL ?_ ?_ ?_; rotate_left 3; (repeat first | exact .h | apply Sets.t); exact rfl; clear hL; intro w hL) | refine ArReq.i64 (by omega) (by omega) ?_ | refine SeqReq.go hX ?_ | refine OptReq.mk rfl ?_); conv => whnf)
  exact RetReq.mk hL ⟨rfl, rfl⟩

theorem str_num : ∀ n, n < 21 → n < 10 → strOf [48 + ((n % 10 : Nat) : Int)] = bs (numT n) := by decide +kernel
theorem str_num2 : ∀ n, n < 21 → ¬ n < 10 → strOf [48 + ((n / 10 % 10 : Nat) : Int), 48 + ((n % 10 : Nat) : Int)] = bs (numT n) := by decide +kernel
theorem strOwn {m0 m : Mem} {S : List Nat} {w0 w : World} {L1 L2 : Ev.Own} {v : Value} {l : List Int} {K : Value → World → Prop} (ho : OwnS 5 1 v (ints .u8 l) L1) (hb : ∀ z ∈ l, 0 ≤ z ∧ z ≤ 255) (hL : Ev.Loc m0 S w0 m (L1 ++ L2) w)
    (h : ∀ m', Mem.Le m m' → Ev.Loc m0 S w0 m' L2 w → K (.string (strOf l)) w) : RunReq Tryz.prog (convert 67 9 v) w K := by
  obtain ⟨m', hL', hm, hs⟩ := ho.freeze hL
  exact RunReq.bytesStr hX rfl rfl rfl rfl rfl rfl hs hb hL' (h m' hm hL')

theorem Digits_fn (m : Mem) (n : Nat) (h : n ≤ 20) : FnV Tryz.prog 27 [.int .i64 n] m (.string (bs (numT n))) := by
  refine Fn.enter (N := 22) hX Tryz.func27 rfl rfl (by show _ ≤ _; simp) (fun w0 hL => ?_)
  conv => whnf
  conv => whnf
  repeat ((first | refine BrReq.tt ?_ | refine BrReq.ff ?_ | (refine' zl hX rfl rfl hL ?_ ?_ ?_; rotate_left 4; (repeat first | exact .h | refine .t ?_); exact rfl) | (refine' zm hX rfl rfl hL ?_ ?_ ?_; rotate_left 3; (repeat first | exact .h | refine .t ?_); exact rfl) | (refine' zs hX rfl rfl rfl hL ?_ ?_ ?_; rotate_left 3; (repeat first | exact .h | apply Sets.t); exact rfl; clear hL; intro w hL) | refine ArReq.i64 (by omega) (by omega) ?_ | refine SeqReq.go hX ?_ | refine OptReq.mk rfl ?_); conv => whnf)
  refine BrReq.dec (fun hlt => ?_) (fun hlt => ?_)
  · conv => whnf
    repeat ((first | refine DivReq.i64 (k := 10) rfl (by omega) (by omega) ?_ | refine RemReq.nat (k := 10) rfl (by omega) ?_ | refine ArReq.u8 (by omega) (by omega) ?_ | refine BrReq.tt ?_ | refine BrReq.ff ?_ | (refine' zl hX rfl rfl hL ?_ ?_ ?_; rotate_left 4; (repeat first | exact .h | refine .t ?_); exact rfl) | (refine' zm hX rfl rfl hL ?_ ?_ ?_; rotate_left 3; (repeat first | exact .h | refine .t ?_); exact rfl) | (refine' zs hX rfl rfl rfl hL ?_ ?_ ?_; rotate_left 3; (repeat first | exact .h | apply Sets.t); exact rfl; clear hL; intro w hL) | refine ArReq.i64 (by omega) (by omega) ?_ | refine SeqReq.go hX ?_ | refine OptReq.mk rfl ?_); conv => whnf)
    refine NewReq.mk hL ?_
    clear hL
    intro g w hL
    conv => whnf
    replace hL : Ev.Loc m [] w0 m ([(g, .cells (toArr (ints .u8 [48 + ((n / 10 % 10 : Nat) : Int), 48 + ((n % 10 : Nat) : Int)])) 5 (0, 0))] ++ []) w := hL
    conv => whnf
    repeat ((first | refine BrReq.tt ?_ | refine BrReq.ff ?_ | (refine' zl hX rfl rfl hL ?_ ?_ ?_; rotate_left 4; (repeat first | exact .h | refine .t ?_); exact rfl) | (refine' zm hX rfl rfl hL ?_ ?_ ?_; rotate_left 3; (repeat first | exact .h | refine .t ?_); exact rfl) | (refine' zs hX rfl rfl rfl hL ?_ ?_ ?_; rotate_left 3; (repeat first | exact .h | apply Sets.t); exact rfl; clear hL; intro w hL) | refine ArReq.i64 (by omega) (by omega) ?_ | refine SeqReq.go hX ?_ | refine OptReq.mk rfl ?_); conv => whnf)
    refine strOwn (l := [48 + ((n / 10 % 10 : Nat) : Int), 48 + ((n % 10 : Nat) : Int)]) (OwnS.full (n := 2) (by decide) rfl) (by intro z hz; simp at hz; omega) hL ?_
    clear hL
    intro m' hm hL
    conv => whnf
    repeat ((first | refine BrReq.tt ?_ | refine BrReq.ff ?_ | (refine' zl hX rfl rfl hL ?_ ?_ ?_; rotate_left 4; (repeat first | exact .h | refine .t ?_); exact rfl) | (refine' zm hX rfl rfl hL ?_ ?_ ?_; rotate_left 3; (repeat first | exact .h | refine .t ?_); exact rfl) | (refine' zs hX rfl rfl rfl hL ?_ ?_ ?_; rotate_left 3; (repeat first | exact .h | apply Sets.t); exact rfl; clear hL; intro w hL) | refine ArReq.i64 (by omega) (by omega) ?_ | refine SeqReq.go hX ?_ | refine OptReq.mk rfl ?_); conv => whnf)
    exact RetReq.mk (hL.weaken hm (Mem.Le.refl m)) ⟨rfl, congrArg Value.string (str_num2 n (by omega) (by omega))⟩
  · conv => whnf
    repeat ((first | refine DivReq.i64 (k := 10) rfl (by omega) (by omega) ?_ | refine RemReq.nat (k := 10) rfl (by omega) ?_ | refine ArReq.u8 (by omega) (by omega) ?_ | refine BrReq.tt ?_ | refine BrReq.ff ?_ | (refine' zl hX rfl rfl hL ?_ ?_ ?_; rotate_left 4; (repeat first | exact .h | refine .t ?_); exact rfl) | (refine' zm hX rfl rfl hL ?_ ?_ ?_; rotate_left 3; (repeat first | exact .h | refine .t ?_); exact rfl) | (refine' zs hX rfl rfl rfl hL ?_ ?_ ?_; rotate_left 3; (repeat first | exact .h | apply Sets.t); exact rfl; clear hL; intro w hL) | refine ArReq.i64 (by omega) (by omega) ?_ | refine SeqReq.go hX ?_ | refine OptReq.mk rfl ?_); conv => whnf)
    refine NewReq.mk hL ?_
    clear hL
    intro g w hL
    conv => whnf
    replace hL : Ev.Loc m [] w0 m ([(g, .cells (toArr (ints .u8 [48 + ((n % 10 : Nat) : Int)])) 5 (0, 0))] ++ []) w := hL
    conv => whnf
    repeat ((first | refine BrReq.tt ?_ | refine BrReq.ff ?_ | (refine' zl hX rfl rfl hL ?_ ?_ ?_; rotate_left 4; (repeat first | exact .h | refine .t ?_); exact rfl) | (refine' zm hX rfl rfl hL ?_ ?_ ?_; rotate_left 3; (repeat first | exact .h | refine .t ?_); exact rfl) | (refine' zs hX rfl rfl rfl hL ?_ ?_ ?_; rotate_left 3; (repeat first | exact .h | apply Sets.t); exact rfl; clear hL; intro w hL) | refine ArReq.i64 (by omega) (by omega) ?_ | refine SeqReq.go hX ?_ | refine OptReq.mk rfl ?_); conv => whnf)
    refine strOwn (l := [48 + ((n % 10 : Nat) : Int)]) (OwnS.full (n := 1) (by decide) rfl) (by intro z hz; simp at hz; omega) hL ?_
    clear hL
    intro m' hm hL
    conv => whnf
    repeat ((first | refine BrReq.tt ?_ | refine BrReq.ff ?_ | (refine' zl hX rfl rfl hL ?_ ?_ ?_; rotate_left 4; (repeat first | exact .h | refine .t ?_); exact rfl) | (refine' zm hX rfl rfl hL ?_ ?_ ?_; rotate_left 3; (repeat first | exact .h | refine .t ?_); exact rfl) | (refine' zs hX rfl rfl rfl hL ?_ ?_ ?_; rotate_left 3; (repeat first | exact .h | apply Sets.t); exact rfl; clear hL; intro w hL) | refine ArReq.i64 (by omega) (by omega) ?_ | refine SeqReq.go hX ?_ | refine OptReq.mk rfl ?_); conv => whnf)
    exact RetReq.mk (hL.weaken hm (Mem.Le.refl m)) ⟨rfl, congrArg Value.string (str_num n (by omega) (by omega))⟩
end Go.Proofs.YtjdfpdlcmkadnaaGreatDoor.pt
