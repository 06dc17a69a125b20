/- The document's words: its smaller steps. Conditions: none. -/
import Derived.Test.YtjdfpdlcmkadnaaGreatDoorLxWords

namespace Go.Proofs.YtjdfpdlcmkadnaaGreatDoor.lx
open Go Go.Ev Go.Proofs

theorem Alpha_fn (m : Mem) (n : Nat) (h : n < 256) : FnV Tryz.prog 29 [.int .u8 n] m (.bool (isL n)) := by
  refine Fn.enter (N := 17) hX Tryz.func29 rfl rfl (by show _ ≤ _; simp) (fun w0 hL => ?_)
  conv => whnf
  conv => whnf
  repeat' (first | ((first | refine BrReq.tt ?_ | refine BrReq.ff ?_ | (refine' zl hX rfl rfl hL ?_ ?_ ?_; rotate_left 4; (repeat first | exact .h | refine .t ?_); exact rfl) | (refine' zm hX rfl rfl hL ?_ ?_ ?_; rotate_left 3; (repeat first | exact .h | refine .t ?_); exact rfl) | (refine' zs hX rfl rfl rfl hL ?_ ?_ ?_; rotate_left 3; (repeat first | exact .h | apply Sets.t); exact rfl; clear hL; intro w hL) | refine ArReq.i64 (by omega) (by omega) ?_ | refine SeqReq.go hX ?_ | refine OptReq.mk rfl ?_); conv => whnf) | (refine BrReq.dec (fun _ => ?_) (fun _ => ?_) <;> (conv => whnf)) | (refine BrReq.not ?_; refine BrReq.dec (fun _ => ?_) (fun _ => ?_) <;> (conv => whnf)) | (refine BrReq.bool (fun _ => ?_) (fun _ => ?_) <;> (conv => whnf)))
  all_goals (refine RetReq.bool hL ?_; unfold isL; first | exact decide_eq_decide.2 (by omega) | exact (decide_eq_true (by omega)).symm | exact (decide_eq_false (by omega)).symm)
end Go.Proofs.YtjdfpdlcmkadnaaGreatDoor.lx
