/- graph.usable and Distances at valid arguments. -/
import Derived.Test.YtckigonkcjceeaaEDistB
namespace Go.Proofs.Ytckigonkcjceeaa
set_option linter.unusedVariables false
set_option linter.unusedSimpArgs false
open Go.RowKit
set_option maxHeartbeats 2000000 in
theorem usable_ (N : List Nd) (C : List Cb) (An Ac Au : Option Addr) (kn kc ku : Nat) (up : List Bool) (w : World) (hp : PlanAt w w.heap.size ⟨N, C, An, kn, Ac, kc⟩) (hv : validE N C = 0) (hlu : up.length = C.length) :
    Calls Try.prog 47 #[.agg #[.slice An N.length kn, .slice Ac C.length kc], .slice Au up.length ku] w fun e w' => e = .returned (.bool true) ∧ Below w.heap.size w w' := by
  have HP := Kept.mk hp
  obtain ⟨L1, L2⟩ := hp.len
  simp only at L1 L2
  have HV := Kept.mk hv
  have hc32 := (valid_spec hv).2.1
  have q1 : ((up.length : Int) == (C.length : Int)) = true := beq_iff_eq.2 (by omega)
  have HB := Kept.mk (Blk.new w 32 #[.slice An N.length kn, .slice Ac C.length kc])
  have HG : Kept (Below w.heap.size w (w.alloc (.cells #[.slice An N.length kn, .slice Ac C.length kc] 32))) := ⟨(Below.refl _ _).alloc (Nat.le_refl _) _⟩
  clear hp hv hlu
  go_enter Try.func47, Try.ntmps47
  go_wp2_with (go_at_call 15; refine (valid_ N C An Ac kn kc _ (HP.out.new_ HG.out)).mono ?_; rintro e w1 ⟨rfl, hb1⟩; rw [HV.out]; have HB1 := Kept.mk (HB.out.new_ hb1); have HD1 := Kept.mk (join HG.out hb1); clear hb1; have k1 := HB1.out.cell 1 (v := .slice Ac C.length kc) rfl; have z1 := HB1.out.lt)
  go_ret
  exact ⟨rfl, HD1.out⟩
set_option maxHeartbeats 2000000 in
theorem Distances_ (N : List Nd) (C : List Cb) (An Ac Au : Option Addr) (kn kc ku s : Nat) (up : List Bool) (w : World) (hp : PlanAt w w.heap.size ⟨N, C, An, kn, Ac, kc⟩) (hu : RowsAt w w.heap.size 1 bcell1 Au up) (hv : validE N C = 0) (hlu : up.length = C.length) (hs : s < N.length) :
    Calls Try.prog 33 #[.agg #[.slice An N.length kn, .slice Ac C.length kc], .int .i64 (s : Int), .slice Au up.length ku] w (DistR w (C.zip up) N.length s) := by
  have HP := Kept.mk hp
  have HU := Kept.mk hu
  obtain ⟨L1, L2⟩ := hp.len
  simp only at L1 L2
  have HV := Kept.mk hv
  have HLU := Kept.mk hlu
  have d1 : decide ((s : Int) < 0) = false := decide_eq_false (by omega)
  have d2 : decide ((N.length : Int) ≤ (s : Int)) = false := decide_eq_false (by omega)
  have HB := Kept.mk (Blk.new w 32 #[.slice An N.length kn, .slice Ac C.length kc])
  have HG : Kept (Below w.heap.size w (w.alloc (.cells #[.slice An N.length kn, .slice Ac C.length kc] 32))) := ⟨(Below.refl _ _).alloc (Nat.le_refl _) _⟩
  clear hp hv hlu hu
  go_enter Try.func33, Try.ntmps33
  go_wp2_with (go_at_call 47; refine (usable_ N C An Ac Au kn kc ku up _ (HP.out.new_ HG.out) HV.out HLU.out).mono ?_; rintro e w1 ⟨rfl, hb1⟩; have HB1 := Kept.mk (HB.out.new_ hb1); have HD1 := Kept.mk (join HG.out hb1); clear hb1; have k0 := HB1.out.cell 0 (v := .slice An N.length kn) rfl; have k1 := HB1.out.cell 1 (v := .slice Ac C.length kc) rfl; have z1 := HB1.out.lt)
  refine (distances_ N C An Ac Au kn kc ku s up _ (HP.out.new_ HD1.out) (HU.out.new_ HD1.out) HV.out HLU.out hs).mono ?_
  rintro e w2 ⟨A, kap, L, rfl, hf, hr, hb⟩
  have HF := Kept.mk hf
  have HR := Kept.mk hr
  have HD2 := Kept.mk (join HD1.out hb)
  clear hf hr hb k0 k1 z1
  go_wp2_with fail
  go_ret
  exact ⟨A, kap, L, rfl, HF.out, HR.out, HD2.out⟩
end Go.Proofs.Ytckigonkcjceeaa
