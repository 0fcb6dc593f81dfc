/- Setup: the walk of the statements' step: an operation on a chain and the messages in flight (printed by gen_step.py). -/
import Derived.Test.YtnmgnggchgckoaaDel
import Derived.Test.YtnmgnggchgckoaaRecvB
namespace Go.Proofs.Ytnmgnggchgckoaa
set_option linter.unusedVariables false
set_option linter.unusedSimpArgs false
open Go.RowKit
def stepAt (c : Ch) (fly : List Msg) (kind : Int) (i : Nat) : Ch × List Msg :=
  if kind = 0 then ((startP c).1, fly.take 120 ++ (startP c).2.1)
  else if kind = 1 ∨ kind = 2 ∨ kind = 3 then
    if fly = [] then (c, [])
    else if kind = 3 then (c, (fly.eraseIdx i).take 120)
    else ((recvP c (fly.getD i ⟨0, 0, 0⟩)).1, (if kind = 2 then fly else fly.eraseIdx i).take 120 ++ (recvP c (fly.getD i ⟨0, 0, 0⟩)).2.1)
  else if kind = 4 then ((stopP c).1, fly.take 120 ++ (stopP c).2.1)
  else if kind = 5 then (c, fly.take 120 ++ repP c)
  else (c, fly.take 120)
def Steps (w : World) (L : Loc) (B : Nat) (c : Ch) (fly : List Msg) (kind : Int) (e : Ending) (w' : World) : Prop :=
  ∃ (i : Nat) (v : Value), (0 < fly.length → i < fly.length) ∧ e = .returned v ∧ w'.ownsRow B 38 3 v (stepAt c fly kind i).2.length (mcells (stepAt c fly kind i).2) ∧ IsCh w' L (stepAt c fly kind i).1 ∧ OnlyP (fun x => x = L.S) w w'
theorem steps_mk {w w' : World} {L : Loc} {B : Nat} {c c' : Ch} {fly ms : List Msg} {kind : Int} {v : Value} (i : Nat) (hi : 0 < fly.length → i < fly.length) (h : stepAt c fly kind i = (c', ms))
    (ho : w'.ownsRow B 38 3 v ms.length (mcells ms)) (hc : IsCh w' L c') (hw : OnlyP (fun x => x = L.S) w w') : Steps w L B c fly kind (.returned v) w' :=
  ⟨i, v, hi, rfl, by rw [h]; exact ho, by rw [h]; exact hc, hw⟩
theorem Reads.take {w : World} {B sz n k : Nat} {A : Option Addr} {xs : List Value} (h : Reads w B sz A n xs) (hk : k ≤ n) : Reads w B sz A k (xs.take (k * sz)) := by
  refine ⟨by rw [List.length_take, h.1]; exact Nat.min_eq_left (Nat.mul_le_mul_right _ hk), fun h0 => ?_⟩
  obtain ⟨ad, h1, h2, h3⟩ := h.2 (by omega)
  exact ⟨ad, h1, h2, fun j u hu => h3 j u (by
    have := (List.getElem?_eq_some_iff.1 hu).1
    rw [List.length_take] at this
    rwa [List.getElem?_take_of_lt (by omega)] at hu)⟩
theorem mreads_take {w : World} {B k : Nat} {A : Option Addr} {l : List Msg} (h : Reads w B 3 A l.length (mcells l)) (hk : k ≤ l.length) : Reads w B 3 A (l.take k).length (mcells (l.take k)) := by
  have := h.take hk
  rw [mcells_take] at this
  rwa [List.length_take, Nat.min_eq_left hk]
theorem wrap_bd (n : Int) : 0 ≤ IntKind.u64.wrap n := by rw [IntKind.wrap_u64]; omega
theorem at_of (n : Int) {len : Nat} (h : 0 < len) : ∃ i : Nat, IntKind.u64.wrap n % (len : Int) = (i : Int) ∧ i < len := by
  have h1 := Int.emod_nonneg (IntKind.u64.wrap n) (show (len : Int) ≠ 0 by omega)
  have h2 := Int.emod_lt_of_pos (IntKind.u64.wrap n) (show (0 : Int) < len by omega)
  exact ⟨(IntKind.u64.wrap n % (len : Int)).toNat, by omega, by omega⟩
theorem reads_only {S : Nat → Prop} {w w' : World} {B sz n : Nat} {A : Option Addr} {xs : List Value} (h : Reads w B sz A n xs) (hb : OnlyP S w w') (hS : ∀ k, S k → B ≤ k) (hB : B ≤ w.heap.size) : Reads w' B sz A n xs :=
  h.keep fun p hp => World.cell?_of_block (hb.block p.block (by omega) (fun hs => by have := hS _ hs; omega))
theorem own_reads_only {S : Nat → Prop} {w w' : World} {B sz n : Nat} {e : TypeId} {A : Option Addr} {k : Nat} {xs : List Value} (h : w.ownsRow B e sz (.slice A n k) n xs) (hb : OnlyP S w w') (hS : ∀ g, S g → g < B) : Reads w' w'.heap.size sz A n xs :=
  own_reads (own_only h hb hS)
theorem only_step {S : Nat} {B : Nat} {w w1 w2 : World} {T : Nat → Prop} (h : OnlyP (fun x => x = S) w w1) (k : OnlyP T w1 w2) (hT : ∀ i, T i → w.heap.size ≤ i) : OnlyP (fun x => x = S) w w2 :=
  h.step k fun i hi ht => absurd (hT i ht) (by omega)
/-- The chain's blocks lie below the messages'. -/
structure Low (L : Loc) (B : Nat) : Prop where
  p : L.p < B
  R : L.R < B
  S : L.S < B
theorem IsCh.grown {w w' : World} {L : Loc} {c : Ch} {row : Option Nat} (h : IsCh w L c) (hg : w.grownBy w' row) (hr : ∀ g, row = some g → L.p ≠ g ∧ L.R ≠ g ∧ L.S ≠ g) : IsCh w' L c :=
  h.move hg.size (hg.block _ h.tab.lt (fun e => (hr _ e.symm).1 rfl)) (hg.block _ h.rlt (fun e => (hr _ e.symm).2.1 rfl)) (hg.block _ h.row.lt (fun e => (hr _ e.symm).2.2 rfl))
theorem own_cap {w : World} {B sz n k : Nat} {e : TypeId} {A : Option Addr} {xs : List Value} (h : w.ownsRow B e sz (.slice A n k) n xs) : n ≤ k := by
  rcases h.2 with ⟨h1, h2⟩ | ⟨g, cap, cur, h1, _, _, h4, _⟩
  · omega
  · injection h1 with _ _ h10; omega
theorem own_some {w : World} {B sz n : Nat} {e : TypeId} {v : Value} {xs : List Value} (h : w.ownsRow B e sz v n xs) (hn : 0 < n) : ∃ g k, v = .slice (some ⟨g, 0, none⟩) n k ∧ B ≤ g ∧ g < w.heap.size := by
  rcases h.2 with ⟨_, h2⟩ | ⟨g, cap, cur, rfl, h2, h3, _⟩
  · omega
  · exact ⟨g, cap, rfl, h2, (Array.getElem?_eq_some_iff.1 h3).1⟩
theorem reads_at {w w' : World} {B sz n g : Nat} {xs : List Value} (h : Reads w B sz (some ⟨g, 0, none⟩) n xs) (hb : w'.heap[g]? = w.heap[g]?) : Reads w' B sz (some ⟨g, 0, none⟩) n xs :=
  ⟨h.1, fun hn => by
    obtain ⟨ad, h1, h2, h3⟩ := h.2 hn
    injection h1 with h1
    subst h1
    exact ⟨_, rfl, h2, fun j u hu => (World.cell?_of_block (by rw [block_of_add]; exact hb)).trans (h3 j u hu)⟩⟩
theorem tail_end {w W wc wz : World} {L : Loc} {B n : Nat} {c' : Ch} {F ml : List Msg} {vc vz : Value} (hBw : B ≤ w.heap.size) (lo : Low L B) (HC : IsCh W L c') (HO : OnlyP (fun x => x = L.S) w W) (hbc : Below W.heap.size W wc)
    (hcl : wc.ownsRow W.heap.size 38 3 vc n (mcells F)) (hgz : wc.grownBy wz vc.ownBlock) (hn : n = F.length) (hoz : wz.ownsRow W.heap.size 38 3 vz (n + ml.length) (mcells F ++ mcells ml)) :
    wz.ownsRow B 38 3 vz (F ++ ml).length (mcells (F ++ ml)) ∧ IsCh wz L c' ∧ OnlyP (fun x => x = L.S) w wz := by
  have hz := HO.size
  have hr : ∀ g, vc.ownBlock = some g → W.heap.size ≤ g := fun g hg => (hcl.lt g hg).1
  refine ⟨?_, (HC.new_ hbc).grown hgz fun g hg => ?_, (HO.new hbc).grown hgz fun g hg => .inr (by have := hr g hg; omega)⟩
  · rw [List.length_append, mcells_app, ← hn]; exact ownsRow_base hoz (by omega)
  · have := hr g hg
    have h1 := HC.tab.lt
    have h2 := HC.rlt
    have h3 := HC.row.lt
    exact ⟨by omega, by omega, by omega⟩
theorem openP_len (c : Ch) (i : Nat) : (openP c i).2.length ≤ 1 := by
  unfold openP; repeat' split
  all_goals first | exact sendP_le _ _ _ | simp
theorem closeP_len (c : Ch) (i : Nat) : (closeP c i).2.length ≤ 1 := by
  unfold closeP; repeat' split
  all_goals first | exact sendP_le _ _ _ | simp
theorem turnP_len (c : Ch) (i : Nat) (a b k : Int) : (turnP c i a b k).2.length ≤ 1 := by
  unfold turnP; repeat' split
  all_goals first | exact sendP_le _ _ _ | simp
theorem startP_len (c : Ch) : (startP c).2.1.length ≤ 100 := by
  unfold startP; split
  · exact Nat.le_trans (openP_len _ _) (by omega)
  · simp
theorem stopP_len (c : Ch) : (stopP c).2.1.length ≤ 100 := by
  unfold stopP; split
  · exact Nat.le_trans (closeP_len _ _) (by omega)
  · simp
theorem ruleP_len (c : Ch) (m : Msg) : (ruleP c m).2.length ≤ 1 := by
  unfold ruleP; repeat' split
  all_goals first | exact openP_len _ _ | exact closeP_len _ _ | exact turnP_len _ _ _ _ _
theorem recvP_len (c : Ch) (m : Msg) : (recvP c m).2.1.length ≤ 100 := by
  unfold recvP; repeat' split
  all_goals first | exact Nat.le_trans (ruleP_len _ _) (by omega) | simp
theorem repP_len {c : Ch} (h : Ok c) : (repP c).length ≤ 100 := Nat.le_trans (repN_le _ _) (by have := h.n2; omega)
theorem stepAt_none (c : Ch) (fly : List Msg) {kind : Int} (i : Nat) (k0 : (kind == 0) = false) (k1 : (kind == 1) = false) (k2 : (kind == 2) = false) (k3 : (kind == 3) = false) (k4 : (kind == 4) = false) (k5 : (kind == 5) = false) : stepAt c fly kind i = (c, fly.take 120 ++ []) := by
  have e : ∀ x : Int, (kind == x) = false → kind ≠ x := fun x h => by simpa using h
  unfold stepAt
  rw [if_neg (e _ k0), if_neg (by rintro (h | h | h); exact e _ k1 h; exact e _ k2 h; exact e _ k3 h), if_neg (e _ k4), if_neg (e _ k5), List.append_nil]
theorem nil_reads (w : World) : Reads w w.heap.size 3 none ([] : List Msg).length (mcells []) := Reads.none_
set_option maxHeartbeats 4000000 in
theorem step_start_z (c : Ch) (fly : List Msg) (A : Option Addr) (kap : Nat) (nn m1 m2 m3 : Int) (w : World) (L : Loc) (B : Nat) (h : IsCh w L c) (hf : w.ownsRow B 38 3 (.slice A fly.length kap) fly.length (mcells fly)) (hBw : B ≤ w.heap.size) (lo : Low L B) (hn : fly.length ≤ 100000) (h0 : ¬ 0 < fly.length) :
    Calls Try.prog 22 #[.pointer (some ⟨L.p, 0, none⟩), .slice A fly.length kap, .agg #[.int .i64 0, .int .i64 nn, .int .i64 m1, .int .i64 m2, .int .i64 m3]] w (Steps w L B c fly 0) := by
  obtain ⟨i0, hi0, hz0, hz1, hz2⟩ := info_parts info38
  have HF := Kept.mk hf
  have H := Kept.mk h
  have HLO := Kept.mk lo
  have HBX : Kept (Blk (w.alloc (.cells #[.int .i64 0, .int .i64 nn, .int .i64 m1, .int .i64 m2, .int .i64 m3] 46)) w.heap.size 46 #[.int .i64 0, .int .i64 nn, .int .i64 m1, .int .i64 m2, .int .i64 m3]) := ⟨Blk.new w 46 _⟩
  have HC0 := Kept.mk (h.alloc (.cells #[.int .i64 0, .int .i64 nn, .int .i64 m1, .int .i64 m2, .int .i64 m3] 46))
  have HF0 := Kept.mk (hf.alloc (.cells #[.int .i64 0, .int .i64 nn, .int .i64 m1, .int .i64 m2, .int .i64 m3] 46))
  have HO0 : Kept (OnlyP (fun x => x = L.S) w (w.alloc (.cells #[.int .i64 0, .int .i64 nn, .int .i64 m1, .int .i64 m2, .int .i64 m3] 46))) := ⟨(OnlyP.refl _ _).alloc _⟩
  have hpl := h.tab.lt
  have hsl := h.row.lt
  have loS := lo.S
  have hkap := own_cap hf
  clear h hf
  go_enter Try.func22, Try.ntmps22
  go_wp2_with fail
  refine (start_c c _ L HC0.out).mono ?_
  rintro e w1 ⟨v, rfl, hv, hc, hO⟩
  obtain ⟨A2, kk, rfl⟩ := own_slice hv
  have HV1 := Kept.mk hv
  have HC1 := Kept.mk hc
  have HF1 := Kept.mk (own_only HF0.out hO (by rintro j rfl; exact loS))
  have HO1 := Kept.mk (HO0.out.trans hO)
  have HBX1 := Kept.mk (HBX.out.only hO (by omega))
  clear hv hc hO
  have hml : ((startP c).2.1).length ≤ 100 := startP_len c
  go_wp2_with fail
  refine (cloneM_c A (fly.length) kap (mcells (fly.take 120)) _ _ (by rw [List.take_of_length_le (by omega)]; exact (own_reads HF1.out)) (Nat.le_refl _) mcells_one (by omega)).mono ?_
  rintro e wc ⟨vc, rfl, hoc, hbc⟩
  have HCL := Kept.mk hoc
  have HBC := Kept.mk hbc
  have HML := Kept.mk (own_reads (own_new HV1.out HBC.out))
  have HCZ := Kept.mk hbc.size
  clear hoc hbc
  go_wp2_with (at_builtin; refine wpList_append_any _ rfl _ _ _ rfl w1.heap.size 38 i0 _ 3 24 Try.underlying30 hi0 hz0 hz1 hz2 rfl (by omega) _ _ _ rfl HCL.out _ A2 _ _ _ rfl HML.out mcells_one (by unfold maxLen; omega) (by omega) HCZ.out ?_; intro vz wz hoz hgz _)
  have HE := Kept.mk (tail_end (ml := (startP c).2.1) hBw HLO.out HC1.out HO1.out HBC.out HCL.out hgz (by rw [List.length_take]; omega) hoz)
  clear hoz hgz
  go_ret
  exact steps_mk (c' := (startP c).1) (ms := (fly.take 120) ++ (startP c).2.1) 0 (fun hh => absurd hh h0) rfl HE.out.1 HE.out.2.1 HE.out.2.2
set_option maxHeartbeats 4000000 in
theorem step_start_s (c : Ch) (fly : List Msg) (A : Option Addr) (kap : Nat) (nn m1 m2 m3 : Int) (w : World) (L : Loc) (B : Nat) (h : IsCh w L c) (hf : w.ownsRow B 38 3 (.slice A fly.length kap) fly.length (mcells fly)) (hBw : B ≤ w.heap.size) (lo : Low L B) (hn : fly.length ≤ 100000) (h0 : 0 < fly.length) (hs : fly.length ≤ 120) :
    Calls Try.prog 22 #[.pointer (some ⟨L.p, 0, none⟩), .slice A fly.length kap, .agg #[.int .i64 0, .int .i64 nn, .int .i64 m1, .int .i64 m2, .int .i64 m3]] w (Steps w L B c fly 0) := by
  obtain ⟨i0, hi0, hz0, hz1, hz2⟩ := info_parts info38
  have HF := Kept.mk hf
  have H := Kept.mk h
  have HLO := Kept.mk lo
  have HBX : Kept (Blk (w.alloc (.cells #[.int .i64 0, .int .i64 nn, .int .i64 m1, .int .i64 m2, .int .i64 m3] 46)) w.heap.size 46 #[.int .i64 0, .int .i64 nn, .int .i64 m1, .int .i64 m2, .int .i64 m3]) := ⟨Blk.new w 46 _⟩
  have HC0 := Kept.mk (h.alloc (.cells #[.int .i64 0, .int .i64 nn, .int .i64 m1, .int .i64 m2, .int .i64 m3] 46))
  have HF0 := Kept.mk (hf.alloc (.cells #[.int .i64 0, .int .i64 nn, .int .i64 m1, .int .i64 m2, .int .i64 m3] 46))
  have HO0 : Kept (OnlyP (fun x => x = L.S) w (w.alloc (.cells #[.int .i64 0, .int .i64 nn, .int .i64 m1, .int .i64 m2, .int .i64 m3] 46))) := ⟨(OnlyP.refl _ _).alloc _⟩
  have hpl := h.tab.lt
  have hsl := h.row.lt
  have loS := lo.S
  have hkap := own_cap hf
  clear h hf
  obtain ⟨i, hat, hi⟩ := at_of nn h0
  have hwb := wrap_bd nn
  go_enter Try.func22, Try.ntmps22
  go_wp2_with fail
  refine (start_c c _ L HC0.out).mono ?_
  rintro e w1 ⟨v, rfl, hv, hc, hO⟩
  obtain ⟨A2, kk, rfl⟩ := own_slice hv
  have HV1 := Kept.mk hv
  have HC1 := Kept.mk hc
  have HF1 := Kept.mk (own_only HF0.out hO (by rintro j rfl; exact loS))
  have HO1 := Kept.mk (HO0.out.trans hO)
  have HBX1 := Kept.mk (HBX.out.only hO (by omega))
  clear hv hc hO
  have hml : ((startP c).2.1).length ≤ 100 := startP_len c
  go_wp2_with fail
  refine (cloneM_c A (fly.length) kap (mcells (fly.take 120)) _ _ (by rw [List.take_of_length_le (by omega)]; exact (own_reads HF1.out)) (Nat.le_refl _) mcells_one (by omega)).mono ?_
  rintro e wc ⟨vc, rfl, hoc, hbc⟩
  have HCL := Kept.mk hoc
  have HBC := Kept.mk hbc
  have HML := Kept.mk (own_reads (own_new HV1.out HBC.out))
  have HCZ := Kept.mk hbc.size
  clear hoc hbc
  go_wp2_with (at_builtin; refine wpList_append_any _ rfl _ _ _ rfl w1.heap.size 38 i0 _ 3 24 Try.underlying30 hi0 hz0 hz1 hz2 rfl (by omega) _ _ _ rfl HCL.out _ A2 _ _ _ rfl HML.out mcells_one (by unfold maxLen; omega) (by omega) HCZ.out ?_; intro vz wz hoz hgz _)
  have HE := Kept.mk (tail_end (ml := (startP c).2.1) hBw HLO.out HC1.out HO1.out HBC.out HCL.out hgz (by rw [List.length_take]; omega) hoz)
  clear hoz hgz
  go_ret
  exact steps_mk (c' := (startP c).1) (ms := (fly.take 120) ++ (startP c).2.1) i (fun _ => hi) rfl HE.out.1 HE.out.2.1 HE.out.2.2
set_option maxHeartbeats 4000000 in
theorem step_start_b (c : Ch) (fly : List Msg) (A : Option Addr) (kap : Nat) (nn m1 m2 m3 : Int) (w : World) (L : Loc) (B : Nat) (h : IsCh w L c) (hf : w.ownsRow B 38 3 (.slice A fly.length kap) fly.length (mcells fly)) (hBw : B ≤ w.heap.size) (lo : Low L B) (hn : fly.length ≤ 100000) (h0 : 0 < fly.length) (hs : 120 < fly.length) :
    Calls Try.prog 22 #[.pointer (some ⟨L.p, 0, none⟩), .slice A fly.length kap, .agg #[.int .i64 0, .int .i64 nn, .int .i64 m1, .int .i64 m2, .int .i64 m3]] w (Steps w L B c fly 0) := by
  obtain ⟨i0, hi0, hz0, hz1, hz2⟩ := info_parts info38
  have HF := Kept.mk hf
  have H := Kept.mk h
  have HLO := Kept.mk lo
  have HBX : Kept (Blk (w.alloc (.cells #[.int .i64 0, .int .i64 nn, .int .i64 m1, .int .i64 m2, .int .i64 m3] 46)) w.heap.size 46 #[.int .i64 0, .int .i64 nn, .int .i64 m1, .int .i64 m2, .int .i64 m3]) := ⟨Blk.new w 46 _⟩
  have HC0 := Kept.mk (h.alloc (.cells #[.int .i64 0, .int .i64 nn, .int .i64 m1, .int .i64 m2, .int .i64 m3] 46))
  have HF0 := Kept.mk (hf.alloc (.cells #[.int .i64 0, .int .i64 nn, .int .i64 m1, .int .i64 m2, .int .i64 m3] 46))
  have HO0 : Kept (OnlyP (fun x => x = L.S) w (w.alloc (.cells #[.int .i64 0, .int .i64 nn, .int .i64 m1, .int .i64 m2, .int .i64 m3] 46))) := ⟨(OnlyP.refl _ _).alloc _⟩
  have hpl := h.tab.lt
  have hsl := h.row.lt
  have loS := lo.S
  have hkap := own_cap hf
  clear h hf
  obtain ⟨i, hat, hi⟩ := at_of nn h0
  have hwb := wrap_bd nn
  go_enter Try.func22, Try.ntmps22
  go_wp2_with fail
  refine (start_c c _ L HC0.out).mono ?_
  rintro e w1 ⟨v, rfl, hv, hc, hO⟩
  obtain ⟨A2, kk, rfl⟩ := own_slice hv
  have HV1 := Kept.mk hv
  have HC1 := Kept.mk hc
  have HF1 := Kept.mk (own_only HF0.out hO (by rintro j rfl; exact loS))
  have HO1 := Kept.mk (HO0.out.trans hO)
  have HBX1 := Kept.mk (HBX.out.only hO (by omega))
  clear hv hc hO
  have hml : ((startP c).2.1).length ≤ 100 := startP_len c
  go_wp2_with fail
  refine (cloneM_c A (120) kap (mcells (fly.take 120)) _ _ (by have hh := mreads_take (own_reads HF1.out) (show 120 ≤ fly.length by omega); rwa [List.length_take, Nat.min_eq_left (by omega)] at hh) (Nat.le_refl _) mcells_one (by omega)).mono ?_
  rintro e wc ⟨vc, rfl, hoc, hbc⟩
  have HCL := Kept.mk hoc
  have HBC := Kept.mk hbc
  have HML := Kept.mk (own_reads (own_new HV1.out HBC.out))
  have HCZ := Kept.mk hbc.size
  clear hoc hbc
  go_wp2_with (at_builtin; refine wpList_append_any _ rfl _ _ _ rfl w1.heap.size 38 i0 _ 3 24 Try.underlying30 hi0 hz0 hz1 hz2 rfl (by omega) _ _ _ rfl HCL.out _ A2 _ _ _ rfl HML.out mcells_one (by unfold maxLen; omega) (by omega) HCZ.out ?_; intro vz wz hoz hgz _)
  have HE := Kept.mk (tail_end (ml := (startP c).2.1) hBw HLO.out HC1.out HO1.out HBC.out HCL.out hgz (by rw [List.length_take]; omega) hoz)
  clear hoz hgz
  go_ret
  exact steps_mk (c' := (startP c).1) (ms := (fly.take 120) ++ (startP c).2.1) i (fun _ => hi) rfl HE.out.1 HE.out.2.1 HE.out.2.2
set_option maxHeartbeats 4000000 in
theorem step_stop_z (c : Ch) (fly : List Msg) (A : Option Addr) (kap : Nat) (nn m1 m2 m3 : Int) (w : World) (L : Loc) (B : Nat) (h : IsCh w L c) (hf : w.ownsRow B 38 3 (.slice A fly.length kap) fly.length (mcells fly)) (hBw : B ≤ w.heap.size) (lo : Low L B) (hn : fly.length ≤ 100000) (h0 : ¬ 0 < fly.length) :
    Calls Try.prog 22 #[.pointer (some ⟨L.p, 0, none⟩), .slice A fly.length kap, .agg #[.int .i64 4, .int .i64 nn, .int .i64 m1, .int .i64 m2, .int .i64 m3]] w (Steps w L B c fly 4) := by
  obtain ⟨i0, hi0, hz0, hz1, hz2⟩ := info_parts info38
  have HF := Kept.mk hf
  have H := Kept.mk h
  have HLO := Kept.mk lo
  have HBX : Kept (Blk (w.alloc (.cells #[.int .i64 4, .int .i64 nn, .int .i64 m1, .int .i64 m2, .int .i64 m3] 46)) w.heap.size 46 #[.int .i64 4, .int .i64 nn, .int .i64 m1, .int .i64 m2, .int .i64 m3]) := ⟨Blk.new w 46 _⟩
  have HC0 := Kept.mk (h.alloc (.cells #[.int .i64 4, .int .i64 nn, .int .i64 m1, .int .i64 m2, .int .i64 m3] 46))
  have HF0 := Kept.mk (hf.alloc (.cells #[.int .i64 4, .int .i64 nn, .int .i64 m1, .int .i64 m2, .int .i64 m3] 46))
  have HO0 : Kept (OnlyP (fun x => x = L.S) w (w.alloc (.cells #[.int .i64 4, .int .i64 nn, .int .i64 m1, .int .i64 m2, .int .i64 m3] 46))) := ⟨(OnlyP.refl _ _).alloc _⟩
  have hpl := h.tab.lt
  have hsl := h.row.lt
  have loS := lo.S
  have hkap := own_cap hf
  clear h hf
  go_enter Try.func22, Try.ntmps22
  go_wp2_with fail
  refine (stop_c c _ L HC0.out).mono ?_
  rintro e w1 ⟨v, rfl, hv, hc, hO⟩
  obtain ⟨A2, kk, rfl⟩ := own_slice hv
  have HV1 := Kept.mk hv
  have HC1 := Kept.mk hc
  have HF1 := Kept.mk (own_only HF0.out hO (by rintro j rfl; exact loS))
  have HO1 := Kept.mk (HO0.out.trans hO)
  have HBX1 := Kept.mk (HBX.out.only hO (by omega))
  clear hv hc hO
  have hml : ((stopP c).2.1).length ≤ 100 := stopP_len c
  go_wp2_with fail
  refine (cloneM_c A (fly.length) kap (mcells (fly.take 120)) _ _ (by rw [List.take_of_length_le (by omega)]; exact (own_reads HF1.out)) (Nat.le_refl _) mcells_one (by omega)).mono ?_
  rintro e wc ⟨vc, rfl, hoc, hbc⟩
  have HCL := Kept.mk hoc
  have HBC := Kept.mk hbc
  have HML := Kept.mk (own_reads (own_new HV1.out HBC.out))
  have HCZ := Kept.mk hbc.size
  clear hoc hbc
  go_wp2_with (at_builtin; refine wpList_append_any _ rfl _ _ _ rfl w1.heap.size 38 i0 _ 3 24 Try.underlying30 hi0 hz0 hz1 hz2 rfl (by omega) _ _ _ rfl HCL.out _ A2 _ _ _ rfl HML.out mcells_one (by unfold maxLen; omega) (by omega) HCZ.out ?_; intro vz wz hoz hgz _)
  have HE := Kept.mk (tail_end (ml := (stopP c).2.1) hBw HLO.out HC1.out HO1.out HBC.out HCL.out hgz (by rw [List.length_take]; omega) hoz)
  clear hoz hgz
  go_ret
  exact steps_mk (c' := (stopP c).1) (ms := (fly.take 120) ++ (stopP c).2.1) 0 (fun hh => absurd hh h0) rfl HE.out.1 HE.out.2.1 HE.out.2.2
set_option maxHeartbeats 4000000 in
theorem step_stop_s (c : Ch) (fly : List Msg) (A : Option Addr) (kap : Nat) (nn m1 m2 m3 : Int) (w : World) (L : Loc) (B : Nat) (h : IsCh w L c) (hf : w.ownsRow B 38 3 (.slice A fly.length kap) fly.length (mcells fly)) (hBw : B ≤ w.heap.size) (lo : Low L B) (hn : fly.length ≤ 100000) (h0 : 0 < fly.length) (hs : fly.length ≤ 120) :
    Calls Try.prog 22 #[.pointer (some ⟨L.p, 0, none⟩), .slice A fly.length kap, .agg #[.int .i64 4, .int .i64 nn, .int .i64 m1, .int .i64 m2, .int .i64 m3]] w (Steps w L B c fly 4) := by
  obtain ⟨i0, hi0, hz0, hz1, hz2⟩ := info_parts info38
  have HF := Kept.mk hf
  have H := Kept.mk h
  have HLO := Kept.mk lo
  have HBX : Kept (Blk (w.alloc (.cells #[.int .i64 4, .int .i64 nn, .int .i64 m1, .int .i64 m2, .int .i64 m3] 46)) w.heap.size 46 #[.int .i64 4, .int .i64 nn, .int .i64 m1, .int .i64 m2, .int .i64 m3]) := ⟨Blk.new w 46 _⟩
  have HC0 := Kept.mk (h.alloc (.cells #[.int .i64 4, .int .i64 nn, .int .i64 m1, .int .i64 m2, .int .i64 m3] 46))
  have HF0 := Kept.mk (hf.alloc (.cells #[.int .i64 4, .int .i64 nn, .int .i64 m1, .int .i64 m2, .int .i64 m3] 46))
  have HO0 : Kept (OnlyP (fun x => x = L.S) w (w.alloc (.cells #[.int .i64 4, .int .i64 nn, .int .i64 m1, .int .i64 m2, .int .i64 m3] 46))) := ⟨(OnlyP.refl _ _).alloc _⟩
  have hpl := h.tab.lt
  have hsl := h.row.lt
  have loS := lo.S
  have hkap := own_cap hf
  clear h hf
  obtain ⟨i, hat, hi⟩ := at_of nn h0
  have hwb := wrap_bd nn
  go_enter Try.func22, Try.ntmps22
  go_wp2_with fail
  refine (stop_c c _ L HC0.out).mono ?_
  rintro e w1 ⟨v, rfl, hv, hc, hO⟩
  obtain ⟨A2, kk, rfl⟩ := own_slice hv
  have HV1 := Kept.mk hv
  have HC1 := Kept.mk hc
  have HF1 := Kept.mk (own_only HF0.out hO (by rintro j rfl; exact loS))
  have HO1 := Kept.mk (HO0.out.trans hO)
  have HBX1 := Kept.mk (HBX.out.only hO (by omega))
  clear hv hc hO
  have hml : ((stopP c).2.1).length ≤ 100 := stopP_len c
  go_wp2_with fail
  refine (cloneM_c A (fly.length) kap (mcells (fly.take 120)) _ _ (by rw [List.take_of_length_le (by omega)]; exact (own_reads HF1.out)) (Nat.le_refl _) mcells_one (by omega)).mono ?_
  rintro e wc ⟨vc, rfl, hoc, hbc⟩
  have HCL := Kept.mk hoc
  have HBC := Kept.mk hbc
  have HML := Kept.mk (own_reads (own_new HV1.out HBC.out))
  have HCZ := Kept.mk hbc.size
  clear hoc hbc
  go_wp2_with (at_builtin; refine wpList_append_any _ rfl _ _ _ rfl w1.heap.size 38 i0 _ 3 24 Try.underlying30 hi0 hz0 hz1 hz2 rfl (by omega) _ _ _ rfl HCL.out _ A2 _ _ _ rfl HML.out mcells_one (by unfold maxLen; omega) (by omega) HCZ.out ?_; intro vz wz hoz hgz _)
  have HE := Kept.mk (tail_end (ml := (stopP c).2.1) hBw HLO.out HC1.out HO1.out HBC.out HCL.out hgz (by rw [List.length_take]; omega) hoz)
  clear hoz hgz
  go_ret
  exact steps_mk (c' := (stopP c).1) (ms := (fly.take 120) ++ (stopP c).2.1) i (fun _ => hi) rfl HE.out.1 HE.out.2.1 HE.out.2.2
set_option maxHeartbeats 4000000 in
theorem step_stop_b (c : Ch) (fly : List Msg) (A : Option Addr) (kap : Nat) (nn m1 m2 m3 : Int) (w : World) (L : Loc) (B : Nat) (h : IsCh w L c) (hf : w.ownsRow B 38 3 (.slice A fly.length kap) fly.length (mcells fly)) (hBw : B ≤ w.heap.size) (lo : Low L B) (hn : fly.length ≤ 100000) (h0 : 0 < fly.length) (hs : 120 < fly.length) :
    Calls Try.prog 22 #[.pointer (some ⟨L.p, 0, none⟩), .slice A fly.length kap, .agg #[.int .i64 4, .int .i64 nn, .int .i64 m1, .int .i64 m2, .int .i64 m3]] w (Steps w L B c fly 4) := by
  obtain ⟨i0, hi0, hz0, hz1, hz2⟩ := info_parts info38
  have HF := Kept.mk hf
  have H := Kept.mk h
  have HLO := Kept.mk lo
  have HBX : Kept (Blk (w.alloc (.cells #[.int .i64 4, .int .i64 nn, .int .i64 m1, .int .i64 m2, .int .i64 m3] 46)) w.heap.size 46 #[.int .i64 4, .int .i64 nn, .int .i64 m1, .int .i64 m2, .int .i64 m3]) := ⟨Blk.new w 46 _⟩
  have HC0 := Kept.mk (h.alloc (.cells #[.int .i64 4, .int .i64 nn, .int .i64 m1, .int .i64 m2, .int .i64 m3] 46))
  have HF0 := Kept.mk (hf.alloc (.cells #[.int .i64 4, .int .i64 nn, .int .i64 m1, .int .i64 m2, .int .i64 m3] 46))
  have HO0 : Kept (OnlyP (fun x => x = L.S) w (w.alloc (.cells #[.int .i64 4, .int .i64 nn, .int .i64 m1, .int .i64 m2, .int .i64 m3] 46))) := ⟨(OnlyP.refl _ _).alloc _⟩
  have hpl := h.tab.lt
  have hsl := h.row.lt
  have loS := lo.S
  have hkap := own_cap hf
  clear h hf
  obtain ⟨i, hat, hi⟩ := at_of nn h0
  have hwb := wrap_bd nn
  go_enter Try.func22, Try.ntmps22
  go_wp2_with fail
  refine (stop_c c _ L HC0.out).mono ?_
  rintro e w1 ⟨v, rfl, hv, hc, hO⟩
  obtain ⟨A2, kk, rfl⟩ := own_slice hv
  have HV1 := Kept.mk hv
  have HC1 := Kept.mk hc
  have HF1 := Kept.mk (own_only HF0.out hO (by rintro j rfl; exact loS))
  have HO1 := Kept.mk (HO0.out.trans hO)
  have HBX1 := Kept.mk (HBX.out.only hO (by omega))
  clear hv hc hO
  have hml : ((stopP c).2.1).length ≤ 100 := stopP_len c
  go_wp2_with fail
  refine (cloneM_c A (120) kap (mcells (fly.take 120)) _ _ (by have hh := mreads_take (own_reads HF1.out) (show 120 ≤ fly.length by omega); rwa [List.length_take, Nat.min_eq_left (by omega)] at hh) (Nat.le_refl _) mcells_one (by omega)).mono ?_
  rintro e wc ⟨vc, rfl, hoc, hbc⟩
  have HCL := Kept.mk hoc
  have HBC := Kept.mk hbc
  have HML := Kept.mk (own_reads (own_new HV1.out HBC.out))
  have HCZ := Kept.mk hbc.size
  clear hoc hbc
  go_wp2_with (at_builtin; refine wpList_append_any _ rfl _ _ _ rfl w1.heap.size 38 i0 _ 3 24 Try.underlying30 hi0 hz0 hz1 hz2 rfl (by omega) _ _ _ rfl HCL.out _ A2 _ _ _ rfl HML.out mcells_one (by unfold maxLen; omega) (by omega) HCZ.out ?_; intro vz wz hoz hgz _)
  have HE := Kept.mk (tail_end (ml := (stopP c).2.1) hBw HLO.out HC1.out HO1.out HBC.out HCL.out hgz (by rw [List.length_take]; omega) hoz)
  clear hoz hgz
  go_ret
  exact steps_mk (c' := (stopP c).1) (ms := (fly.take 120) ++ (stopP c).2.1) i (fun _ => hi) rfl HE.out.1 HE.out.2.1 HE.out.2.2
set_option maxHeartbeats 4000000 in
theorem step_rep_z (c : Ch) (fly : List Msg) (A : Option Addr) (kap : Nat) (nn m1 m2 m3 : Int) (w : World) (L : Loc) (B : Nat) (h : IsCh w L c) (hf : w.ownsRow B 38 3 (.slice A fly.length kap) fly.length (mcells fly)) (hBw : B ≤ w.heap.size) (lo : Low L B) (hn : fly.length ≤ 100000) (h0 : ¬ 0 < fly.length) :
    Calls Try.prog 22 #[.pointer (some ⟨L.p, 0, none⟩), .slice A fly.length kap, .agg #[.int .i64 5, .int .i64 nn, .int .i64 m1, .int .i64 m2, .int .i64 m3]] w (Steps w L B c fly 5) := by
  obtain ⟨i0, hi0, hz0, hz1, hz2⟩ := info_parts info38
  have HF := Kept.mk hf
  have H := Kept.mk h
  have HLO := Kept.mk lo
  have HBX : Kept (Blk (w.alloc (.cells #[.int .i64 5, .int .i64 nn, .int .i64 m1, .int .i64 m2, .int .i64 m3] 46)) w.heap.size 46 #[.int .i64 5, .int .i64 nn, .int .i64 m1, .int .i64 m2, .int .i64 m3]) := ⟨Blk.new w 46 _⟩
  have HC0 := Kept.mk (h.alloc (.cells #[.int .i64 5, .int .i64 nn, .int .i64 m1, .int .i64 m2, .int .i64 m3] 46))
  have HF0 := Kept.mk (hf.alloc (.cells #[.int .i64 5, .int .i64 nn, .int .i64 m1, .int .i64 m2, .int .i64 m3] 46))
  have HO0 : Kept (OnlyP (fun x => x = L.S) w (w.alloc (.cells #[.int .i64 5, .int .i64 nn, .int .i64 m1, .int .i64 m2, .int .i64 m3] 46))) := ⟨(OnlyP.refl _ _).alloc _⟩
  have hpl := h.tab.lt
  have hsl := h.row.lt
  have loS := lo.S
  have hkap := own_cap hf
  clear h hf
  go_enter Try.func22, Try.ntmps22
  go_wp2_with fail
  refine (rep_c c _ L HC0.out).mono ?_
  rintro e w1 ⟨v, rfl, hv, hb⟩
  obtain ⟨A2, kk, rfl⟩ := own_slice hv
  have HV1 := Kept.mk hv
  have HC1 := Kept.mk (HC0.out.new_ hb)
  have HF1 := Kept.mk (own_new HF0.out hb)
  have HO1 := Kept.mk (HO0.out.new hb)
  clear hv hb
  have hml : (repP c).length ≤ 100 := repP_len H.out.ok
  go_wp2_with fail
  refine (cloneM_c A (fly.length) kap (mcells (fly.take 120)) _ _ (by rw [List.take_of_length_le (by omega)]; exact (own_reads HF1.out)) (Nat.le_refl _) mcells_one (by omega)).mono ?_
  rintro e wc ⟨vc, rfl, hoc, hbc⟩
  have HCL := Kept.mk hoc
  have HBC := Kept.mk hbc
  have HML := Kept.mk (own_reads (own_new HV1.out HBC.out))
  have HCZ := Kept.mk hbc.size
  clear hoc hbc
  go_wp2_with (at_builtin; refine wpList_append_any _ rfl _ _ _ rfl w1.heap.size 38 i0 _ 3 24 Try.underlying30 hi0 hz0 hz1 hz2 rfl (by omega) _ _ _ rfl HCL.out _ A2 _ _ _ rfl HML.out mcells_one (by unfold maxLen; omega) (by omega) HCZ.out ?_; intro vz wz hoz hgz _)
  have HE := Kept.mk (tail_end (ml := repP c) hBw HLO.out HC1.out HO1.out HBC.out HCL.out hgz (by rw [List.length_take]; omega) hoz)
  clear hoz hgz
  go_ret
  exact steps_mk (c' := c) (ms := (fly.take 120) ++ repP c) 0 (fun hh => absurd hh h0) rfl HE.out.1 HE.out.2.1 HE.out.2.2
set_option maxHeartbeats 4000000 in
theorem step_rep_s (c : Ch) (fly : List Msg) (A : Option Addr) (kap : Nat) (nn m1 m2 m3 : Int) (w : World) (L : Loc) (B : Nat) (h : IsCh w L c) (hf : w.ownsRow B 38 3 (.slice A fly.length kap) fly.length (mcells fly)) (hBw : B ≤ w.heap.size) (lo : Low L B) (hn : fly.length ≤ 100000) (h0 : 0 < fly.length) (hs : fly.length ≤ 120) :
    Calls Try.prog 22 #[.pointer (some ⟨L.p, 0, none⟩), .slice A fly.length kap, .agg #[.int .i64 5, .int .i64 nn, .int .i64 m1, .int .i64 m2, .int .i64 m3]] w (Steps w L B c fly 5) := by
  obtain ⟨i0, hi0, hz0, hz1, hz2⟩ := info_parts info38
  have HF := Kept.mk hf
  have H := Kept.mk h
  have HLO := Kept.mk lo
  have HBX : Kept (Blk (w.alloc (.cells #[.int .i64 5, .int .i64 nn, .int .i64 m1, .int .i64 m2, .int .i64 m3] 46)) w.heap.size 46 #[.int .i64 5, .int .i64 nn, .int .i64 m1, .int .i64 m2, .int .i64 m3]) := ⟨Blk.new w 46 _⟩
  have HC0 := Kept.mk (h.alloc (.cells #[.int .i64 5, .int .i64 nn, .int .i64 m1, .int .i64 m2, .int .i64 m3] 46))
  have HF0 := Kept.mk (hf.alloc (.cells #[.int .i64 5, .int .i64 nn, .int .i64 m1, .int .i64 m2, .int .i64 m3] 46))
  have HO0 : Kept (OnlyP (fun x => x = L.S) w (w.alloc (.cells #[.int .i64 5, .int .i64 nn, .int .i64 m1, .int .i64 m2, .int .i64 m3] 46))) := ⟨(OnlyP.refl _ _).alloc _⟩
  have hpl := h.tab.lt
  have hsl := h.row.lt
  have loS := lo.S
  have hkap := own_cap hf
  clear h hf
  obtain ⟨i, hat, hi⟩ := at_of nn h0
  have hwb := wrap_bd nn
  go_enter Try.func22, Try.ntmps22
  go_wp2_with fail
  refine (rep_c c _ L HC0.out).mono ?_
  rintro e w1 ⟨v, rfl, hv, hb⟩
  obtain ⟨A2, kk, rfl⟩ := own_slice hv
  have HV1 := Kept.mk hv
  have HC1 := Kept.mk (HC0.out.new_ hb)
  have HF1 := Kept.mk (own_new HF0.out hb)
  have HO1 := Kept.mk (HO0.out.new hb)
  clear hv hb
  have hml : (repP c).length ≤ 100 := repP_len H.out.ok
  go_wp2_with fail
  refine (cloneM_c A (fly.length) kap (mcells (fly.take 120)) _ _ (by rw [List.take_of_length_le (by omega)]; exact (own_reads HF1.out)) (Nat.le_refl _) mcells_one (by omega)).mono ?_
  rintro e wc ⟨vc, rfl, hoc, hbc⟩
  have HCL := Kept.mk hoc
  have HBC := Kept.mk hbc
  have HML := Kept.mk (own_reads (own_new HV1.out HBC.out))
  have HCZ := Kept.mk hbc.size
  clear hoc hbc
  go_wp2_with (at_builtin; refine wpList_append_any _ rfl _ _ _ rfl w1.heap.size 38 i0 _ 3 24 Try.underlying30 hi0 hz0 hz1 hz2 rfl (by omega) _ _ _ rfl HCL.out _ A2 _ _ _ rfl HML.out mcells_one (by unfold maxLen; omega) (by omega) HCZ.out ?_; intro vz wz hoz hgz _)
  have HE := Kept.mk (tail_end (ml := repP c) hBw HLO.out HC1.out HO1.out HBC.out HCL.out hgz (by rw [List.length_take]; omega) hoz)
  clear hoz hgz
  go_ret
  exact steps_mk (c' := c) (ms := (fly.take 120) ++ repP c) i (fun _ => hi) rfl HE.out.1 HE.out.2.1 HE.out.2.2
set_option maxHeartbeats 4000000 in
theorem step_rep_b (c : Ch) (fly : List Msg) (A : Option Addr) (kap : Nat) (nn m1 m2 m3 : Int) (w : World) (L : Loc) (B : Nat) (h : IsCh w L c) (hf : w.ownsRow B 38 3 (.slice A fly.length kap) fly.length (mcells fly)) (hBw : B ≤ w.heap.size) (lo : Low L B) (hn : fly.length ≤ 100000) (h0 : 0 < fly.length) (hs : 120 < fly.length) :
    Calls Try.prog 22 #[.pointer (some ⟨L.p, 0, none⟩), .slice A fly.length kap, .agg #[.int .i64 5, .int .i64 nn, .int .i64 m1, .int .i64 m2, .int .i64 m3]] w (Steps w L B c fly 5) := by
  obtain ⟨i0, hi0, hz0, hz1, hz2⟩ := info_parts info38
  have HF := Kept.mk hf
  have H := Kept.mk h
  have HLO := Kept.mk lo
  have HBX : Kept (Blk (w.alloc (.cells #[.int .i64 5, .int .i64 nn, .int .i64 m1, .int .i64 m2, .int .i64 m3] 46)) w.heap.size 46 #[.int .i64 5, .int .i64 nn, .int .i64 m1, .int .i64 m2, .int .i64 m3]) := ⟨Blk.new w 46 _⟩
  have HC0 := Kept.mk (h.alloc (.cells #[.int .i64 5, .int .i64 nn, .int .i64 m1, .int .i64 m2, .int .i64 m3] 46))
  have HF0 := Kept.mk (hf.alloc (.cells #[.int .i64 5, .int .i64 nn, .int .i64 m1, .int .i64 m2, .int .i64 m3] 46))
  have HO0 : Kept (OnlyP (fun x => x = L.S) w (w.alloc (.cells #[.int .i64 5, .int .i64 nn, .int .i64 m1, .int .i64 m2, .int .i64 m3] 46))) := ⟨(OnlyP.refl _ _).alloc _⟩
  have hpl := h.tab.lt
  have hsl := h.row.lt
  have loS := lo.S
  have hkap := own_cap hf
  clear h hf
  obtain ⟨i, hat, hi⟩ := at_of nn h0
  have hwb := wrap_bd nn
  go_enter Try.func22, Try.ntmps22
  go_wp2_with fail
  refine (rep_c c _ L HC0.out).mono ?_
  rintro e w1 ⟨v, rfl, hv, hb⟩
  obtain ⟨A2, kk, rfl⟩ := own_slice hv
  have HV1 := Kept.mk hv
  have HC1 := Kept.mk (HC0.out.new_ hb)
  have HF1 := Kept.mk (own_new HF0.out hb)
  have HO1 := Kept.mk (HO0.out.new hb)
  clear hv hb
  have hml : (repP c).length ≤ 100 := repP_len H.out.ok
  go_wp2_with fail
  refine (cloneM_c A (120) kap (mcells (fly.take 120)) _ _ (by have hh := mreads_take (own_reads HF1.out) (show 120 ≤ fly.length by omega); rwa [List.length_take, Nat.min_eq_left (by omega)] at hh) (Nat.le_refl _) mcells_one (by omega)).mono ?_
  rintro e wc ⟨vc, rfl, hoc, hbc⟩
  have HCL := Kept.mk hoc
  have HBC := Kept.mk hbc
  have HML := Kept.mk (own_reads (own_new HV1.out HBC.out))
  have HCZ := Kept.mk hbc.size
  clear hoc hbc
  go_wp2_with (at_builtin; refine wpList_append_any _ rfl _ _ _ rfl w1.heap.size 38 i0 _ 3 24 Try.underlying30 hi0 hz0 hz1 hz2 rfl (by omega) _ _ _ rfl HCL.out _ A2 _ _ _ rfl HML.out mcells_one (by unfold maxLen; omega) (by omega) HCZ.out ?_; intro vz wz hoz hgz _)
  have HE := Kept.mk (tail_end (ml := repP c) hBw HLO.out HC1.out HO1.out HBC.out HCL.out hgz (by rw [List.length_take]; omega) hoz)
  clear hoz hgz
  go_ret
  exact steps_mk (c' := c) (ms := (fly.take 120) ++ repP c) i (fun _ => hi) rfl HE.out.1 HE.out.2.1 HE.out.2.2
set_option maxHeartbeats 4000000 in
theorem step_none_z (c : Ch) (fly : List Msg) (A : Option Addr) (kap : Nat) (kind : Int) (nn m1 m2 m3 : Int) (w : World) (L : Loc) (B : Nat) (h : IsCh w L c) (hf : w.ownsRow B 38 3 (.slice A fly.length kap) fly.length (mcells fly)) (hBw : B ≤ w.heap.size) (lo : Low L B) (hn : fly.length ≤ 100000) (h0 : ¬ 0 < fly.length) (k0 : (kind == 0) = false) (k1 : (kind == 1) = false) (k2 : (kind == 2) = false) (k3 : (kind == 3) = false) (k4 : (kind == 4) = false) (k5 : (kind == 5) = false) :
    Calls Try.prog 22 #[.pointer (some ⟨L.p, 0, none⟩), .slice A fly.length kap, .agg #[.int .i64 kind, .int .i64 nn, .int .i64 m1, .int .i64 m2, .int .i64 m3]] w (Steps w L B c fly kind) := by
  obtain ⟨i0, hi0, hz0, hz1, hz2⟩ := info_parts info38
  have HF := Kept.mk hf
  have H := Kept.mk h
  have HLO := Kept.mk lo
  have HBX : Kept (Blk (w.alloc (.cells #[.int .i64 kind, .int .i64 nn, .int .i64 m1, .int .i64 m2, .int .i64 m3] 46)) w.heap.size 46 #[.int .i64 kind, .int .i64 nn, .int .i64 m1, .int .i64 m2, .int .i64 m3]) := ⟨Blk.new w 46 _⟩
  have HC0 := Kept.mk (h.alloc (.cells #[.int .i64 kind, .int .i64 nn, .int .i64 m1, .int .i64 m2, .int .i64 m3] 46))
  have HF0 := Kept.mk (hf.alloc (.cells #[.int .i64 kind, .int .i64 nn, .int .i64 m1, .int .i64 m2, .int .i64 m3] 46))
  have HO0 : Kept (OnlyP (fun x => x = L.S) w (w.alloc (.cells #[.int .i64 kind, .int .i64 nn, .int .i64 m1, .int .i64 m2, .int .i64 m3] 46))) := ⟨(OnlyP.refl _ _).alloc _⟩
  have hpl := h.tab.lt
  have hsl := h.row.lt
  have loS := lo.S
  have hkap := own_cap hf
  clear h hf
  go_enter Try.func22, Try.ntmps22
  go_wp2_with fail
  refine (cloneM_c A (fly.length) kap (mcells (fly.take 120)) _ _ (by rw [List.take_of_length_le (by omega)]; exact (own_reads HF0.out)) (Nat.le_refl _) mcells_one (by omega)).mono ?_
  rintro e wc ⟨vc, rfl, hoc, hbc⟩
  have HCL := Kept.mk hoc
  have HBC := Kept.mk hbc
  have HML := Kept.mk (nil_reads wc)
  have HCZ := Kept.mk hbc.size
  clear hoc hbc
  go_wp2_with (at_builtin; refine wpList_append_any _ rfl _ _ _ rfl (w.alloc (.cells #[.int .i64 kind, .int .i64 nn, .int .i64 m1, .int .i64 m2, .int .i64 m3] 46)).heap.size 38 i0 _ 3 24 Try.underlying30 hi0 hz0 hz1 hz2 rfl (by omega) _ _ _ rfl HCL.out _ none _ _ _ rfl HML.out mcells_one (by unfold maxLen; omega) (by omega) HCZ.out ?_; intro vz wz hoz hgz _)
  have HE := Kept.mk (tail_end (ml := []) hBw HLO.out HC0.out HO0.out HBC.out HCL.out hgz (by rw [List.length_take]; omega) hoz)
  clear hoz hgz
  go_ret
  exact steps_mk (c' := c) (ms := (fly.take 120) ++ []) 0 (fun hh => absurd hh h0) (stepAt_none _ _ _ k0 k1 k2 k3 k4 k5) HE.out.1 HE.out.2.1 HE.out.2.2
set_option maxHeartbeats 4000000 in
theorem step_none_s (c : Ch) (fly : List Msg) (A : Option Addr) (kap : Nat) (kind : Int) (nn m1 m2 m3 : Int) (w : World) (L : Loc) (B : Nat) (h : IsCh w L c) (hf : w.ownsRow B 38 3 (.slice A fly.length kap) fly.length (mcells fly)) (hBw : B ≤ w.heap.size) (lo : Low L B) (hn : fly.length ≤ 100000) (h0 : 0 < fly.length) (hs : fly.length ≤ 120) (k0 : (kind == 0) = false) (k1 : (kind == 1) = false) (k2 : (kind == 2) = false) (k3 : (kind == 3) = false) (k4 : (kind == 4) = false) (k5 : (kind == 5) = false) :
    Calls Try.prog 22 #[.pointer (some ⟨L.p, 0, none⟩), .slice A fly.length kap, .agg #[.int .i64 kind, .int .i64 nn, .int .i64 m1, .int .i64 m2, .int .i64 m3]] w (Steps w L B c fly kind) := by
  obtain ⟨i0, hi0, hz0, hz1, hz2⟩ := info_parts info38
  have HF := Kept.mk hf
  have H := Kept.mk h
  have HLO := Kept.mk lo
  have HBX : Kept (Blk (w.alloc (.cells #[.int .i64 kind, .int .i64 nn, .int .i64 m1, .int .i64 m2, .int .i64 m3] 46)) w.heap.size 46 #[.int .i64 kind, .int .i64 nn, .int .i64 m1, .int .i64 m2, .int .i64 m3]) := ⟨Blk.new w 46 _⟩
  have HC0 := Kept.mk (h.alloc (.cells #[.int .i64 kind, .int .i64 nn, .int .i64 m1, .int .i64 m2, .int .i64 m3] 46))
  have HF0 := Kept.mk (hf.alloc (.cells #[.int .i64 kind, .int .i64 nn, .int .i64 m1, .int .i64 m2, .int .i64 m3] 46))
  have HO0 : Kept (OnlyP (fun x => x = L.S) w (w.alloc (.cells #[.int .i64 kind, .int .i64 nn, .int .i64 m1, .int .i64 m2, .int .i64 m3] 46))) := ⟨(OnlyP.refl _ _).alloc _⟩
  have hpl := h.tab.lt
  have hsl := h.row.lt
  have loS := lo.S
  have hkap := own_cap hf
  clear h hf
  obtain ⟨i, hat, hi⟩ := at_of nn h0
  have hwb := wrap_bd nn
  go_enter Try.func22, Try.ntmps22
  go_wp2_with fail
  refine (cloneM_c A (fly.length) kap (mcells (fly.take 120)) _ _ (by rw [List.take_of_length_le (by omega)]; exact (own_reads HF0.out)) (Nat.le_refl _) mcells_one (by omega)).mono ?_
  rintro e wc ⟨vc, rfl, hoc, hbc⟩
  have HCL := Kept.mk hoc
  have HBC := Kept.mk hbc
  have HML := Kept.mk (nil_reads wc)
  have HCZ := Kept.mk hbc.size
  clear hoc hbc
  go_wp2_with (at_builtin; refine wpList_append_any _ rfl _ _ _ rfl (w.alloc (.cells #[.int .i64 kind, .int .i64 nn, .int .i64 m1, .int .i64 m2, .int .i64 m3] 46)).heap.size 38 i0 _ 3 24 Try.underlying30 hi0 hz0 hz1 hz2 rfl (by omega) _ _ _ rfl HCL.out _ none _ _ _ rfl HML.out mcells_one (by unfold maxLen; omega) (by omega) HCZ.out ?_; intro vz wz hoz hgz _)
  have HE := Kept.mk (tail_end (ml := []) hBw HLO.out HC0.out HO0.out HBC.out HCL.out hgz (by rw [List.length_take]; omega) hoz)
  clear hoz hgz
  go_ret
  exact steps_mk (c' := c) (ms := (fly.take 120) ++ []) i (fun _ => hi) (stepAt_none _ _ _ k0 k1 k2 k3 k4 k5) HE.out.1 HE.out.2.1 HE.out.2.2
set_option maxHeartbeats 4000000 in
theorem step_none_b (c : Ch) (fly : List Msg) (A : Option Addr) (kap : Nat) (kind : Int) (nn m1 m2 m3 : Int) (w : World) (L : Loc) (B : Nat) (h : IsCh w L c) (hf : w.ownsRow B 38 3 (.slice A fly.length kap) fly.length (mcells fly)) (hBw : B ≤ w.heap.size) (lo : Low L B) (hn : fly.length ≤ 100000) (h0 : 0 < fly.length) (hs : 120 < fly.length) (k0 : (kind == 0) = false) (k1 : (kind == 1) = false) (k2 : (kind == 2) = false) (k3 : (kind == 3) = false) (k4 : (kind == 4) = false) (k5 : (kind == 5) = false) :
    Calls Try.prog 22 #[.pointer (some ⟨L.p, 0, none⟩), .slice A fly.length kap, .agg #[.int .i64 kind, .int .i64 nn, .int .i64 m1, .int .i64 m2, .int .i64 m3]] w (Steps w L B c fly kind) := by
  obtain ⟨i0, hi0, hz0, hz1, hz2⟩ := info_parts info38
  have HF := Kept.mk hf
  have H := Kept.mk h
  have HLO := Kept.mk lo
  have HBX : Kept (Blk (w.alloc (.cells #[.int .i64 kind, .int .i64 nn, .int .i64 m1, .int .i64 m2, .int .i64 m3] 46)) w.heap.size 46 #[.int .i64 kind, .int .i64 nn, .int .i64 m1, .int .i64 m2, .int .i64 m3]) := ⟨Blk.new w 46 _⟩
  have HC0 := Kept.mk (h.alloc (.cells #[.int .i64 kind, .int .i64 nn, .int .i64 m1, .int .i64 m2, .int .i64 m3] 46))
  have HF0 := Kept.mk (hf.alloc (.cells #[.int .i64 kind, .int .i64 nn, .int .i64 m1, .int .i64 m2, .int .i64 m3] 46))
  have HO0 : Kept (OnlyP (fun x => x = L.S) w (w.alloc (.cells #[.int .i64 kind, .int .i64 nn, .int .i64 m1, .int .i64 m2, .int .i64 m3] 46))) := ⟨(OnlyP.refl _ _).alloc _⟩
  have hpl := h.tab.lt
  have hsl := h.row.lt
  have loS := lo.S
  have hkap := own_cap hf
  clear h hf
  obtain ⟨i, hat, hi⟩ := at_of nn h0
  have hwb := wrap_bd nn
  go_enter Try.func22, Try.ntmps22
  go_wp2_with fail
  refine (cloneM_c A (120) kap (mcells (fly.take 120)) _ _ (by have hh := mreads_take (own_reads HF0.out) (show 120 ≤ fly.length by omega); rwa [List.length_take, Nat.min_eq_left (by omega)] at hh) (Nat.le_refl _) mcells_one (by omega)).mono ?_
  rintro e wc ⟨vc, rfl, hoc, hbc⟩
  have HCL := Kept.mk hoc
  have HBC := Kept.mk hbc
  have HML := Kept.mk (nil_reads wc)
  have HCZ := Kept.mk hbc.size
  clear hoc hbc
  go_wp2_with (at_builtin; refine wpList_append_any _ rfl _ _ _ rfl (w.alloc (.cells #[.int .i64 kind, .int .i64 nn, .int .i64 m1, .int .i64 m2, .int .i64 m3] 46)).heap.size 38 i0 _ 3 24 Try.underlying30 hi0 hz0 hz1 hz2 rfl (by omega) _ _ _ rfl HCL.out _ none _ _ _ rfl HML.out mcells_one (by unfold maxLen; omega) (by omega) HCZ.out ?_; intro vz wz hoz hgz _)
  have HE := Kept.mk (tail_end (ml := []) hBw HLO.out HC0.out HO0.out HBC.out HCL.out hgz (by rw [List.length_take]; omega) hoz)
  clear hoz hgz
  go_ret
  exact steps_mk (c' := c) (ms := (fly.take 120) ++ []) i (fun _ => hi) (stepAt_none _ _ _ k0 k1 k2 k3 k4 k5) HE.out.1 HE.out.2.1 HE.out.2.2
set_option maxHeartbeats 4000000 in
theorem step_1_z (c : Ch) (fly : List Msg) (A : Option Addr) (kap : Nat) (nn m1 m2 m3 : Int) (w : World) (L : Loc) (B : Nat) (h : IsCh w L c) (hf : w.ownsRow B 38 3 (.slice A fly.length kap) fly.length (mcells fly)) (hBw : B ≤ w.heap.size) (lo : Low L B) (hn : fly.length ≤ 100000) (h0 : ¬ 0 < fly.length) :
    Calls Try.prog 22 #[.pointer (some ⟨L.p, 0, none⟩), .slice A fly.length kap, .agg #[.int .i64 1, .int .i64 nn, .int .i64 m1, .int .i64 m2, .int .i64 m3]] w (Steps w L B c fly 1) := by
  obtain ⟨i0, hi0, hz0, hz1, hz2⟩ := info_parts info38
  have HF := Kept.mk hf
  have H := Kept.mk h
  have HLO := Kept.mk lo
  have HBX : Kept (Blk (w.alloc (.cells #[.int .i64 1, .int .i64 nn, .int .i64 m1, .int .i64 m2, .int .i64 m3] 46)) w.heap.size 46 #[.int .i64 1, .int .i64 nn, .int .i64 m1, .int .i64 m2, .int .i64 m3]) := ⟨Blk.new w 46 _⟩
  have HC0 := Kept.mk (h.alloc (.cells #[.int .i64 1, .int .i64 nn, .int .i64 m1, .int .i64 m2, .int .i64 m3] 46))
  have HF0 := Kept.mk (hf.alloc (.cells #[.int .i64 1, .int .i64 nn, .int .i64 m1, .int .i64 m2, .int .i64 m3] 46))
  have HO0 : Kept (OnlyP (fun x => x = L.S) w (w.alloc (.cells #[.int .i64 1, .int .i64 nn, .int .i64 m1, .int .i64 m2, .int .i64 m3] 46))) := ⟨(OnlyP.refl _ _).alloc _⟩
  have hpl := h.tab.lt
  have hsl := h.row.lt
  have loS := lo.S
  have hkap := own_cap hf
  clear h hf
  have hz : fly = [] := List.eq_nil_of_length_eq_zero (by omega)
  have HE : Kept (stepAt c fly 1 0 = (c, [])) := ⟨by subst hz; rfl⟩
  have HF2 : Kept ((w.alloc (.cells #[.int .i64 1, .int .i64 nn, .int .i64 m1, .int .i64 m2, .int .i64 m3] 46)).ownsRow B 38 3 (.slice A fly.length kap) ([] : List Msg).length (mcells [])) := ⟨by have := HF0.out; rw [hz] at this ⊢; exact this⟩
  clear hz
  go_enter Try.func22, Try.ntmps22
  go_wp2_with fail
  go_ret
  exact steps_mk 0 (fun hh => absurd hh h0) HE.out HF2.out HC0.out HO0.out
set_option maxHeartbeats 4000000 in
theorem step_2_z (c : Ch) (fly : List Msg) (A : Option Addr) (kap : Nat) (nn m1 m2 m3 : Int) (w : World) (L : Loc) (B : Nat) (h : IsCh w L c) (hf : w.ownsRow B 38 3 (.slice A fly.length kap) fly.length (mcells fly)) (hBw : B ≤ w.heap.size) (lo : Low L B) (hn : fly.length ≤ 100000) (h0 : ¬ 0 < fly.length) :
    Calls Try.prog 22 #[.pointer (some ⟨L.p, 0, none⟩), .slice A fly.length kap, .agg #[.int .i64 2, .int .i64 nn, .int .i64 m1, .int .i64 m2, .int .i64 m3]] w (Steps w L B c fly 2) := by
  obtain ⟨i0, hi0, hz0, hz1, hz2⟩ := info_parts info38
  have HF := Kept.mk hf
  have H := Kept.mk h
  have HLO := Kept.mk lo
  have HBX : Kept (Blk (w.alloc (.cells #[.int .i64 2, .int .i64 nn, .int .i64 m1, .int .i64 m2, .int .i64 m3] 46)) w.heap.size 46 #[.int .i64 2, .int .i64 nn, .int .i64 m1, .int .i64 m2, .int .i64 m3]) := ⟨Blk.new w 46 _⟩
  have HC0 := Kept.mk (h.alloc (.cells #[.int .i64 2, .int .i64 nn, .int .i64 m1, .int .i64 m2, .int .i64 m3] 46))
  have HF0 := Kept.mk (hf.alloc (.cells #[.int .i64 2, .int .i64 nn, .int .i64 m1, .int .i64 m2, .int .i64 m3] 46))
  have HO0 : Kept (OnlyP (fun x => x = L.S) w (w.alloc (.cells #[.int .i64 2, .int .i64 nn, .int .i64 m1, .int .i64 m2, .int .i64 m3] 46))) := ⟨(OnlyP.refl _ _).alloc _⟩
  have hpl := h.tab.lt
  have hsl := h.row.lt
  have loS := lo.S
  have hkap := own_cap hf
  clear h hf
  have hz : fly = [] := List.eq_nil_of_length_eq_zero (by omega)
  have HE : Kept (stepAt c fly 2 0 = (c, [])) := ⟨by subst hz; rfl⟩
  have HF2 : Kept ((w.alloc (.cells #[.int .i64 2, .int .i64 nn, .int .i64 m1, .int .i64 m2, .int .i64 m3] 46)).ownsRow B 38 3 (.slice A fly.length kap) ([] : List Msg).length (mcells [])) := ⟨by have := HF0.out; rw [hz] at this ⊢; exact this⟩
  clear hz
  go_enter Try.func22, Try.ntmps22
  go_wp2_with fail
  go_ret
  exact steps_mk 0 (fun hh => absurd hh h0) HE.out HF2.out HC0.out HO0.out
set_option maxHeartbeats 4000000 in
theorem step_3_z (c : Ch) (fly : List Msg) (A : Option Addr) (kap : Nat) (nn m1 m2 m3 : Int) (w : World) (L : Loc) (B : Nat) (h : IsCh w L c) (hf : w.ownsRow B 38 3 (.slice A fly.length kap) fly.length (mcells fly)) (hBw : B ≤ w.heap.size) (lo : Low L B) (hn : fly.length ≤ 100000) (h0 : ¬ 0 < fly.length) :
    Calls Try.prog 22 #[.pointer (some ⟨L.p, 0, none⟩), .slice A fly.length kap, .agg #[.int .i64 3, .int .i64 nn, .int .i64 m1, .int .i64 m2, .int .i64 m3]] w (Steps w L B c fly 3) := by
  obtain ⟨i0, hi0, hz0, hz1, hz2⟩ := info_parts info38
  have HF := Kept.mk hf
  have H := Kept.mk h
  have HLO := Kept.mk lo
  have HBX : Kept (Blk (w.alloc (.cells #[.int .i64 3, .int .i64 nn, .int .i64 m1, .int .i64 m2, .int .i64 m3] 46)) w.heap.size 46 #[.int .i64 3, .int .i64 nn, .int .i64 m1, .int .i64 m2, .int .i64 m3]) := ⟨Blk.new w 46 _⟩
  have HC0 := Kept.mk (h.alloc (.cells #[.int .i64 3, .int .i64 nn, .int .i64 m1, .int .i64 m2, .int .i64 m3] 46))
  have HF0 := Kept.mk (hf.alloc (.cells #[.int .i64 3, .int .i64 nn, .int .i64 m1, .int .i64 m2, .int .i64 m3] 46))
  have HO0 : Kept (OnlyP (fun x => x = L.S) w (w.alloc (.cells #[.int .i64 3, .int .i64 nn, .int .i64 m1, .int .i64 m2, .int .i64 m3] 46))) := ⟨(OnlyP.refl _ _).alloc _⟩
  have hpl := h.tab.lt
  have hsl := h.row.lt
  have loS := lo.S
  have hkap := own_cap hf
  clear h hf
  have hz : fly = [] := List.eq_nil_of_length_eq_zero (by omega)
  have HE : Kept (stepAt c fly 3 0 = (c, [])) := ⟨by subst hz; rfl⟩
  have HF2 : Kept ((w.alloc (.cells #[.int .i64 3, .int .i64 nn, .int .i64 m1, .int .i64 m2, .int .i64 m3] 46)).ownsRow B 38 3 (.slice A fly.length kap) ([] : List Msg).length (mcells [])) := ⟨by have := HF0.out; rw [hz] at this ⊢; exact this⟩
  clear hz
  go_enter Try.func22, Try.ntmps22
  go_wp2_with fail
  go_ret
  exact steps_mk 0 (fun hh => absurd hh h0) HE.out HF2.out HC0.out HO0.out
set_option maxHeartbeats 4000000 in
theorem step_2_s (c : Ch) (fly : List Msg) (A : Option Addr) (kap : Nat) (nn m1 m2 m3 : Int) (w : World) (L : Loc) (B : Nat) (h : IsCh w L c) (hf : w.ownsRow B 38 3 (.slice A fly.length kap) fly.length (mcells fly)) (hBw : B ≤ w.heap.size) (lo : Low L B) (hn : fly.length ≤ 100000) (h0 : 0 < fly.length) (hs : fly.length ≤ 120) :
    Calls Try.prog 22 #[.pointer (some ⟨L.p, 0, none⟩), .slice A fly.length kap, .agg #[.int .i64 2, .int .i64 nn, .int .i64 m1, .int .i64 m2, .int .i64 m3]] w (Steps w L B c fly 2) := by
  obtain ⟨i0, hi0, hz0, hz1, hz2⟩ := info_parts info38
  have HF := Kept.mk hf
  have H := Kept.mk h
  have HLO := Kept.mk lo
  have HBX : Kept (Blk (w.alloc (.cells #[.int .i64 2, .int .i64 nn, .int .i64 m1, .int .i64 m2, .int .i64 m3] 46)) w.heap.size 46 #[.int .i64 2, .int .i64 nn, .int .i64 m1, .int .i64 m2, .int .i64 m3]) := ⟨Blk.new w 46 _⟩
  have HC0 := Kept.mk (h.alloc (.cells #[.int .i64 2, .int .i64 nn, .int .i64 m1, .int .i64 m2, .int .i64 m3] 46))
  have HF0 := Kept.mk (hf.alloc (.cells #[.int .i64 2, .int .i64 nn, .int .i64 m1, .int .i64 m2, .int .i64 m3] 46))
  have HO0 : Kept (OnlyP (fun x => x = L.S) w (w.alloc (.cells #[.int .i64 2, .int .i64 nn, .int .i64 m1, .int .i64 m2, .int .i64 m3] 46))) := ⟨(OnlyP.refl _ _).alloc _⟩
  have hpl := h.tab.lt
  have hsl := h.row.lt
  have loS := lo.S
  have hkap := own_cap hf
  clear h hf
  obtain ⟨i, hat, hi⟩ := at_of nn h0
  have hwb := wrap_bd nn
  obtain ⟨b, off, rfl, -, hb, hc⟩ := (own_reads HF0.out).spot h0 (by omega)
  obtain ⟨m, hm⟩ := get_some hi
  have HGM : Kept (fly.getD i ⟨0, 0, 0⟩ = m) := ⟨by rw [List.getD_eq_getElem?_getD, hm]; rfl⟩
  obtain ⟨g1, g2, g3⟩ := mcells_get hm
  have c1 := hc _ _ g1
  have c2 := hc _ _ g2
  have c3 := hc _ _ g3
  rw [show off + (i * 3 + 1) = off + i * 3 + 1 by omega] at c2
  rw [show off + (i * 3 + 2) = off + i * 3 + 2 by omega] at c3
  clear hc g1 g2 g3 hm
  have hne : Kept (fly ≠ []) := ⟨by rintro rfl; simp at h0⟩
  have HE2 : Kept (stepAt c fly 2 i = ((recvP c m).1, fly.take 120 ++ (recvP c m).2.1)) := ⟨by unfold stepAt; rw [if_neg (by decide), if_pos (by decide), if_neg hne.out, if_neg (by decide), HGM.out, if_pos rfl]⟩
  have HC0' := Kept.mk (HC0.out.alloc (.cells #[.int .i64 m.kind, .int .i64 m.conn, .int .i64 m.dest] 38))
  have HF0' := Kept.mk (HF0.out.alloc (.cells #[.int .i64 m.kind, .int .i64 m.conn, .int .i64 m.dest] 38))
  have HO0' := Kept.mk (HO0.out.alloc (.cells #[.int .i64 m.kind, .int .i64 m.conn, .int .i64 m.dest] 38))
  go_enter Try.func22, Try.ntmps22
  go_wp2_with fail
  refine (recv_c c m _ L HC0'.out).mono ?_
  rintro e w1 ⟨v, rfl, hv, hc, hO⟩
  obtain ⟨A2, kk, rfl⟩ := own_slice hv
  have HV1 := Kept.mk hv
  have HC1 := Kept.mk hc
  have HF1 := Kept.mk (own_only HF0'.out hO (by rintro j rfl; exact loS))
  have HO1 := Kept.mk (HO0'.out.trans hO)
  clear hv hc hO
  have hml : (recvP c m).2.1.length ≤ 100 := recvP_len c m
  go_wp2_with fail
  refine (cloneM_c (some ⟨b, off, none⟩) (fly.length) kap (mcells (fly.take 120)) _ _ (by rw [List.take_of_length_le (by omega)]; exact (own_reads HF1.out)) (Nat.le_refl _) mcells_one (by omega)).mono ?_
  rintro e wc ⟨vc, rfl, hoc, hbc⟩
  have HCL := Kept.mk hoc
  have HBC := Kept.mk hbc
  have HML := Kept.mk (own_reads (own_new HV1.out HBC.out))
  have HCZ := Kept.mk hbc.size
  clear hoc hbc
  go_wp2_with (at_builtin; refine wpList_append_any _ rfl _ _ _ rfl w1.heap.size 38 i0 _ 3 24 Try.underlying30 hi0 hz0 hz1 hz2 rfl (by omega) _ _ _ rfl HCL.out _ A2 _ _ _ rfl HML.out mcells_one (by unfold maxLen; omega) (by omega) HCZ.out ?_; intro vz wz hoz hgz _)
  have HE := Kept.mk (tail_end (ml := (recvP c m).2.1) hBw HLO.out HC1.out HO1.out HBC.out HCL.out hgz (by rw [List.length_take]; omega) hoz)
  clear hoz hgz
  go_ret
  exact steps_mk (c' := (recvP c m).1) (ms := (fly.take 120) ++ (recvP c m).2.1) i (fun _ => hi) HE2.out HE.out.1 HE.out.2.1 HE.out.2.2
set_option maxHeartbeats 4000000 in
theorem step_2_b (c : Ch) (fly : List Msg) (A : Option Addr) (kap : Nat) (nn m1 m2 m3 : Int) (w : World) (L : Loc) (B : Nat) (h : IsCh w L c) (hf : w.ownsRow B 38 3 (.slice A fly.length kap) fly.length (mcells fly)) (hBw : B ≤ w.heap.size) (lo : Low L B) (hn : fly.length ≤ 100000) (h0 : 0 < fly.length) (hs : 120 < fly.length) :
    Calls Try.prog 22 #[.pointer (some ⟨L.p, 0, none⟩), .slice A fly.length kap, .agg #[.int .i64 2, .int .i64 nn, .int .i64 m1, .int .i64 m2, .int .i64 m3]] w (Steps w L B c fly 2) := by
  obtain ⟨i0, hi0, hz0, hz1, hz2⟩ := info_parts info38
  have HF := Kept.mk hf
  have H := Kept.mk h
  have HLO := Kept.mk lo
  have HBX : Kept (Blk (w.alloc (.cells #[.int .i64 2, .int .i64 nn, .int .i64 m1, .int .i64 m2, .int .i64 m3] 46)) w.heap.size 46 #[.int .i64 2, .int .i64 nn, .int .i64 m1, .int .i64 m2, .int .i64 m3]) := ⟨Blk.new w 46 _⟩
  have HC0 := Kept.mk (h.alloc (.cells #[.int .i64 2, .int .i64 nn, .int .i64 m1, .int .i64 m2, .int .i64 m3] 46))
  have HF0 := Kept.mk (hf.alloc (.cells #[.int .i64 2, .int .i64 nn, .int .i64 m1, .int .i64 m2, .int .i64 m3] 46))
  have HO0 : Kept (OnlyP (fun x => x = L.S) w (w.alloc (.cells #[.int .i64 2, .int .i64 nn, .int .i64 m1, .int .i64 m2, .int .i64 m3] 46))) := ⟨(OnlyP.refl _ _).alloc _⟩
  have hpl := h.tab.lt
  have hsl := h.row.lt
  have loS := lo.S
  have hkap := own_cap hf
  clear h hf
  obtain ⟨i, hat, hi⟩ := at_of nn h0
  have hwb := wrap_bd nn
  obtain ⟨b, off, rfl, -, hb, hc⟩ := (own_reads HF0.out).spot h0 (by omega)
  obtain ⟨m, hm⟩ := get_some hi
  have HGM : Kept (fly.getD i ⟨0, 0, 0⟩ = m) := ⟨by rw [List.getD_eq_getElem?_getD, hm]; rfl⟩
  obtain ⟨g1, g2, g3⟩ := mcells_get hm
  have c1 := hc _ _ g1
  have c2 := hc _ _ g2
  have c3 := hc _ _ g3
  rw [show off + (i * 3 + 1) = off + i * 3 + 1 by omega] at c2
  rw [show off + (i * 3 + 2) = off + i * 3 + 2 by omega] at c3
  clear hc g1 g2 g3 hm
  have hne : Kept (fly ≠ []) := ⟨by rintro rfl; simp at h0⟩
  have HE2 : Kept (stepAt c fly 2 i = ((recvP c m).1, fly.take 120 ++ (recvP c m).2.1)) := ⟨by unfold stepAt; rw [if_neg (by decide), if_pos (by decide), if_neg hne.out, if_neg (by decide), HGM.out, if_pos rfl]⟩
  have HC0' := Kept.mk (HC0.out.alloc (.cells #[.int .i64 m.kind, .int .i64 m.conn, .int .i64 m.dest] 38))
  have HF0' := Kept.mk (HF0.out.alloc (.cells #[.int .i64 m.kind, .int .i64 m.conn, .int .i64 m.dest] 38))
  have HO0' := Kept.mk (HO0.out.alloc (.cells #[.int .i64 m.kind, .int .i64 m.conn, .int .i64 m.dest] 38))
  go_enter Try.func22, Try.ntmps22
  go_wp2_with fail
  refine (recv_c c m _ L HC0'.out).mono ?_
  rintro e w1 ⟨v, rfl, hv, hc, hO⟩
  obtain ⟨A2, kk, rfl⟩ := own_slice hv
  have HV1 := Kept.mk hv
  have HC1 := Kept.mk hc
  have HF1 := Kept.mk (own_only HF0'.out hO (by rintro j rfl; exact loS))
  have HO1 := Kept.mk (HO0'.out.trans hO)
  clear hv hc hO
  have hml : (recvP c m).2.1.length ≤ 100 := recvP_len c m
  go_wp2_with fail
  refine (cloneM_c (some ⟨b, off, none⟩) (120) kap (mcells (fly.take 120)) _ _ (by have hh := mreads_take (own_reads HF1.out) (show 120 ≤ fly.length by omega); rwa [List.length_take, Nat.min_eq_left (by omega)] at hh) (Nat.le_refl _) mcells_one (by omega)).mono ?_
  rintro e wc ⟨vc, rfl, hoc, hbc⟩
  have HCL := Kept.mk hoc
  have HBC := Kept.mk hbc
  have HML := Kept.mk (own_reads (own_new HV1.out HBC.out))
  have HCZ := Kept.mk hbc.size
  clear hoc hbc
  go_wp2_with (at_builtin; refine wpList_append_any _ rfl _ _ _ rfl w1.heap.size 38 i0 _ 3 24 Try.underlying30 hi0 hz0 hz1 hz2 rfl (by omega) _ _ _ rfl HCL.out _ A2 _ _ _ rfl HML.out mcells_one (by unfold maxLen; omega) (by omega) HCZ.out ?_; intro vz wz hoz hgz _)
  have HE := Kept.mk (tail_end (ml := (recvP c m).2.1) hBw HLO.out HC1.out HO1.out HBC.out HCL.out hgz (by rw [List.length_take]; omega) hoz)
  clear hoz hgz
  go_ret
  exact steps_mk (c' := (recvP c m).1) (ms := (fly.take 120) ++ (recvP c m).2.1) i (fun _ => hi) HE2.out HE.out.1 HE.out.2.1 HE.out.2.2
set_option maxHeartbeats 4000000 in
theorem step_1_s (c : Ch) (fly : List Msg) (A : Option Addr) (kap : Nat) (nn m1 m2 m3 : Int) (w : World) (L : Loc) (B : Nat) (h : IsCh w L c) (hf : w.ownsRow B 38 3 (.slice A fly.length kap) fly.length (mcells fly)) (hBw : B ≤ w.heap.size) (lo : Low L B) (hn : fly.length ≤ 100000) (h0 : 0 < fly.length) (hs : fly.length ≤ 121) :
    Calls Try.prog 22 #[.pointer (some ⟨L.p, 0, none⟩), .slice A fly.length kap, .agg #[.int .i64 1, .int .i64 nn, .int .i64 m1, .int .i64 m2, .int .i64 m3]] w (Steps w L B c fly 1) := by
  obtain ⟨i0, hi0, hz0, hz1, hz2⟩ := info_parts info38
  have HF := Kept.mk hf
  have H := Kept.mk h
  have HLO := Kept.mk lo
  have HBX : Kept (Blk (w.alloc (.cells #[.int .i64 1, .int .i64 nn, .int .i64 m1, .int .i64 m2, .int .i64 m3] 46)) w.heap.size 46 #[.int .i64 1, .int .i64 nn, .int .i64 m1, .int .i64 m2, .int .i64 m3]) := ⟨Blk.new w 46 _⟩
  have HC0 := Kept.mk (h.alloc (.cells #[.int .i64 1, .int .i64 nn, .int .i64 m1, .int .i64 m2, .int .i64 m3] 46))
  have HF0 := Kept.mk (hf.alloc (.cells #[.int .i64 1, .int .i64 nn, .int .i64 m1, .int .i64 m2, .int .i64 m3] 46))
  have HO0 : Kept (OnlyP (fun x => x = L.S) w (w.alloc (.cells #[.int .i64 1, .int .i64 nn, .int .i64 m1, .int .i64 m2, .int .i64 m3] 46))) := ⟨(OnlyP.refl _ _).alloc _⟩
  have hpl := h.tab.lt
  have hsl := h.row.lt
  have loS := lo.S
  have hkap := own_cap hf
  clear h hf
  obtain ⟨i, hat, hi⟩ := at_of nn h0
  have hwb := wrap_bd nn
  obtain ⟨b, off, rfl, -, hb, hc⟩ := (own_reads HF0.out).spot h0 (by omega)
  obtain ⟨m, hm⟩ := get_some hi
  have HGM : Kept (fly.getD i ⟨0, 0, 0⟩ = m) := ⟨by rw [List.getD_eq_getElem?_getD, hm]; rfl⟩
  obtain ⟨g1, g2, g3⟩ := mcells_get hm
  have c1 := hc _ _ g1
  have c2 := hc _ _ g2
  have c3 := hc _ _ g3
  rw [show off + (i * 3 + 1) = off + i * 3 + 1 by omega] at c2
  rw [show off + (i * 3 + 2) = off + i * 3 + 2 by omega] at c3
  clear hc g1 g2 g3 hm
  have hne : Kept (fly ≠ []) := ⟨by rintro rfl; simp at h0⟩
  have HE2 : Kept (stepAt c fly 1 i = ((recvP c m).1, (fly.eraseIdx i).take 120 ++ (recvP c m).2.1)) := ⟨by unfold stepAt; rw [if_neg (by decide), if_pos (by decide), if_neg hne.out, if_neg (by decide), HGM.out, if_neg (by decide)]⟩
  have HLE : Kept ((fly.eraseIdx i).length = fly.length - 1) := ⟨by rw [List.length_eraseIdx, if_pos hi]⟩
  have HC0' := Kept.mk (HC0.out.alloc (.cells #[.int .i64 m.kind, .int .i64 m.conn, .int .i64 m.dest] 38))
  have HF0' := Kept.mk (HF0.out.alloc (.cells #[.int .i64 m.kind, .int .i64 m.conn, .int .i64 m.dest] 38))
  have HO0' := Kept.mk (HO0.out.alloc (.cells #[.int .i64 m.kind, .int .i64 m.conn, .int .i64 m.dest] 38))
  have HBX0 := Kept.mk (HBX.out.alloc (.cells #[.int .i64 m.kind, .int .i64 m.conn, .int .i64 m.dest] 38))
  have HMG0 := Kept.mk (Blk.new (w.alloc (.cells #[.int .i64 1, .int .i64 nn, .int .i64 m1, .int .i64 m2, .int .i64 m3] 46)) 38 #[.int .i64 m.kind, .int .i64 m.conn, .int .i64 m.dest])
  go_enter Try.func22, Try.ntmps22
  go_wp2_with fail
  refine (cloneM_c (some ⟨b, off, none⟩) fly.length kap (mcells fly) _ _ (own_reads HF0'.out) (Nat.le_refl _) mcells_one (by omega)).mono ?_
  rintro e wk ⟨vk, rfl, hok, hbk⟩
  obtain ⟨g, kk, rfl, hg, hgl⟩ := own_some hok h0
  have hzz := HO0'.out.size
  have HOK := Kept.mk hok
  have HCk := Kept.mk (HC0'.out.new_ hbk)
  have HOk := Kept.mk (HO0'.out.new hbk)
  have HBXk := Kept.mk (HBX0.out.new_ hbk)
  have HMGk := Kept.mk (HMG0.out.new_ hbk)
  have hBXl := HBX0.out.lt
  have hMGl := HMG0.out.lt
  have hCl := HC0'.out.tab.lt
  have hCl2 := HC0'.out.rlt
  have hCl3 := HC0'.out.row.lt
  have hkk := own_cap hok
  clear hok hbk HC0' HF0' HO0' HBX0 HMG0 HC0 HF0 HO0 HBX
  go_wp2_with fail
  refine (del_c fly g kk i _ _ HOK.out hi (by omega)).mono ?_
  rintro e wd ⟨rfl, hrd, hod⟩
  have HRD := Kept.mk hrd
  have HCd := Kept.mk (HCk.out.only hod (by omega) (by omega) (by omega))
  have HOd : Kept (OnlyP (fun x => x = L.S) w wd) := ⟨HOk.out.step hod (by rintro j hj rfl; omega)⟩
  have hBXd := HBXk.out.only hod (by omega)
  have hMGd := HMGk.out.only hod (by omega)
  have hgd : g < wd.heap.size := Nat.lt_of_lt_of_le hgl hod.size
  have b0 := hBXd.cell 0 (v := .int .i64 1) rfl
  have m0 := hMGd.cell 0 (v := .int .i64 m.kind) rfl
  have m1' := hMGd.cell 1 (v := .int .i64 m.conn) rfl
  have m2' := hMGd.cell 2 (v := .int .i64 m.dest) rfl
  simp only [World.size_alloc] at m0 m1' m2'
  have hbl := hBXd.lt
  have hml' := hMGd.lt
  simp only [World.size_alloc] at hml'
  clear hrd hod hBXd hMGd HBXk HMGk HOK c1 c2 c3
  go_wp2_with fail
  refine (recv_c c m _ L HCd.out).mono ?_
  rintro e w1 ⟨v, rfl, hv, hc, hO⟩
  obtain ⟨A2, k2, rfl⟩ := own_slice hv
  have HV1 := Kept.mk hv
  have HC1 := Kept.mk hc
  have HR1 := Kept.mk (reads_at HRD.out (hO.block g hgd (by show ¬ g = L.S; omega)))
  have HO1 := Kept.mk (HOd.out.trans hO)
  have hg1 : g + 1 ≤ w1.heap.size := Nat.lt_of_lt_of_le hgd hO.size
  clear hv hc hO
  have hml : (recvP c m).2.1.length ≤ 100 := recvP_len c m
  go_wp2_with fail
  refine (cloneM_c (some ⟨g, 0, none⟩) (fly.length - 1) kk (mcells ((fly.eraseIdx i).take 120)) _ _ (by have := HLE.out; rw [List.take_of_length_le (by omega)]; exact HR1.out) hg1 mcells_one (by omega)).mono ?_
  rintro e wc ⟨vc, rfl, hoc, hbc⟩
  have HCL := Kept.mk hoc
  have HBC := Kept.mk hbc
  have HML := Kept.mk (own_reads (own_new HV1.out HBC.out))
  have HCZ := Kept.mk hbc.size
  clear hoc hbc
  go_wp2_with (at_builtin; refine wpList_append_any _ rfl _ _ _ rfl w1.heap.size 38 i0 _ 3 24 Try.underlying30 hi0 hz0 hz1 hz2 rfl (by omega) _ _ _ rfl HCL.out _ A2 _ _ _ rfl HML.out mcells_one (by unfold maxLen; omega) (by omega) HCZ.out ?_; intro vz wz hoz hgz _)
  have HE := Kept.mk (tail_end (ml := (recvP c m).2.1) hBw HLO.out HC1.out HO1.out HBC.out HCL.out hgz (by have := HLE.out; rw [List.length_take]; omega) hoz)
  clear hoz hgz
  go_ret
  exact steps_mk (c' := (recvP c m).1) (ms := ((fly.eraseIdx i).take 120) ++ (recvP c m).2.1) i (fun _ => hi) HE2.out HE.out.1 HE.out.2.1 HE.out.2.2
set_option maxHeartbeats 4000000 in
theorem step_1_b (c : Ch) (fly : List Msg) (A : Option Addr) (kap : Nat) (nn m1 m2 m3 : Int) (w : World) (L : Loc) (B : Nat) (h : IsCh w L c) (hf : w.ownsRow B 38 3 (.slice A fly.length kap) fly.length (mcells fly)) (hBw : B ≤ w.heap.size) (lo : Low L B) (hn : fly.length ≤ 100000) (h0 : 0 < fly.length) (hs : 121 < fly.length) :
    Calls Try.prog 22 #[.pointer (some ⟨L.p, 0, none⟩), .slice A fly.length kap, .agg #[.int .i64 1, .int .i64 nn, .int .i64 m1, .int .i64 m2, .int .i64 m3]] w (Steps w L B c fly 1) := by
  obtain ⟨i0, hi0, hz0, hz1, hz2⟩ := info_parts info38
  have HF := Kept.mk hf
  have H := Kept.mk h
  have HLO := Kept.mk lo
  have HBX : Kept (Blk (w.alloc (.cells #[.int .i64 1, .int .i64 nn, .int .i64 m1, .int .i64 m2, .int .i64 m3] 46)) w.heap.size 46 #[.int .i64 1, .int .i64 nn, .int .i64 m1, .int .i64 m2, .int .i64 m3]) := ⟨Blk.new w 46 _⟩
  have HC0 := Kept.mk (h.alloc (.cells #[.int .i64 1, .int .i64 nn, .int .i64 m1, .int .i64 m2, .int .i64 m3] 46))
  have HF0 := Kept.mk (hf.alloc (.cells #[.int .i64 1, .int .i64 nn, .int .i64 m1, .int .i64 m2, .int .i64 m3] 46))
  have HO0 : Kept (OnlyP (fun x => x = L.S) w (w.alloc (.cells #[.int .i64 1, .int .i64 nn, .int .i64 m1, .int .i64 m2, .int .i64 m3] 46))) := ⟨(OnlyP.refl _ _).alloc _⟩
  have hpl := h.tab.lt
  have hsl := h.row.lt
  have loS := lo.S
  have hkap := own_cap hf
  clear h hf
  obtain ⟨i, hat, hi⟩ := at_of nn h0
  have hwb := wrap_bd nn
  obtain ⟨b, off, rfl, -, hb, hc⟩ := (own_reads HF0.out).spot h0 (by omega)
  obtain ⟨m, hm⟩ := get_some hi
  have HGM : Kept (fly.getD i ⟨0, 0, 0⟩ = m) := ⟨by rw [List.getD_eq_getElem?_getD, hm]; rfl⟩
  obtain ⟨g1, g2, g3⟩ := mcells_get hm
  have c1 := hc _ _ g1
  have c2 := hc _ _ g2
  have c3 := hc _ _ g3
  rw [show off + (i * 3 + 1) = off + i * 3 + 1 by omega] at c2
  rw [show off + (i * 3 + 2) = off + i * 3 + 2 by omega] at c3
  clear hc g1 g2 g3 hm
  have hne : Kept (fly ≠ []) := ⟨by rintro rfl; simp at h0⟩
  have HE2 : Kept (stepAt c fly 1 i = ((recvP c m).1, (fly.eraseIdx i).take 120 ++ (recvP c m).2.1)) := ⟨by unfold stepAt; rw [if_neg (by decide), if_pos (by decide), if_neg hne.out, if_neg (by decide), HGM.out, if_neg (by decide)]⟩
  have HLE : Kept ((fly.eraseIdx i).length = fly.length - 1) := ⟨by rw [List.length_eraseIdx, if_pos hi]⟩
  have HC0' := Kept.mk (HC0.out.alloc (.cells #[.int .i64 m.kind, .int .i64 m.conn, .int .i64 m.dest] 38))
  have HF0' := Kept.mk (HF0.out.alloc (.cells #[.int .i64 m.kind, .int .i64 m.conn, .int .i64 m.dest] 38))
  have HO0' := Kept.mk (HO0.out.alloc (.cells #[.int .i64 m.kind, .int .i64 m.conn, .int .i64 m.dest] 38))
  have HBX0 := Kept.mk (HBX.out.alloc (.cells #[.int .i64 m.kind, .int .i64 m.conn, .int .i64 m.dest] 38))
  have HMG0 := Kept.mk (Blk.new (w.alloc (.cells #[.int .i64 1, .int .i64 nn, .int .i64 m1, .int .i64 m2, .int .i64 m3] 46)) 38 #[.int .i64 m.kind, .int .i64 m.conn, .int .i64 m.dest])
  go_enter Try.func22, Try.ntmps22
  go_wp2_with fail
  refine (cloneM_c (some ⟨b, off, none⟩) fly.length kap (mcells fly) _ _ (own_reads HF0'.out) (Nat.le_refl _) mcells_one (by omega)).mono ?_
  rintro e wk ⟨vk, rfl, hok, hbk⟩
  obtain ⟨g, kk, rfl, hg, hgl⟩ := own_some hok h0
  have hzz := HO0'.out.size
  have HOK := Kept.mk hok
  have HCk := Kept.mk (HC0'.out.new_ hbk)
  have HOk := Kept.mk (HO0'.out.new hbk)
  have HBXk := Kept.mk (HBX0.out.new_ hbk)
  have HMGk := Kept.mk (HMG0.out.new_ hbk)
  have hBXl := HBX0.out.lt
  have hMGl := HMG0.out.lt
  have hCl := HC0'.out.tab.lt
  have hCl2 := HC0'.out.rlt
  have hCl3 := HC0'.out.row.lt
  have hkk := own_cap hok
  clear hok hbk HC0' HF0' HO0' HBX0 HMG0 HC0 HF0 HO0 HBX
  go_wp2_with fail
  refine (del_c fly g kk i _ _ HOK.out hi (by omega)).mono ?_
  rintro e wd ⟨rfl, hrd, hod⟩
  have HRD := Kept.mk hrd
  have HCd := Kept.mk (HCk.out.only hod (by omega) (by omega) (by omega))
  have HOd : Kept (OnlyP (fun x => x = L.S) w wd) := ⟨HOk.out.step hod (by rintro j hj rfl; omega)⟩
  have hBXd := HBXk.out.only hod (by omega)
  have hMGd := HMGk.out.only hod (by omega)
  have hgd : g < wd.heap.size := Nat.lt_of_lt_of_le hgl hod.size
  have b0 := hBXd.cell 0 (v := .int .i64 1) rfl
  have m0 := hMGd.cell 0 (v := .int .i64 m.kind) rfl
  have m1' := hMGd.cell 1 (v := .int .i64 m.conn) rfl
  have m2' := hMGd.cell 2 (v := .int .i64 m.dest) rfl
  simp only [World.size_alloc] at m0 m1' m2'
  have hbl := hBXd.lt
  have hml' := hMGd.lt
  simp only [World.size_alloc] at hml'
  clear hrd hod hBXd hMGd HBXk HMGk HOK c1 c2 c3
  go_wp2_with fail
  refine (recv_c c m _ L HCd.out).mono ?_
  rintro e w1 ⟨v, rfl, hv, hc, hO⟩
  obtain ⟨A2, k2, rfl⟩ := own_slice hv
  have HV1 := Kept.mk hv
  have HC1 := Kept.mk hc
  have HR1 := Kept.mk (reads_at HRD.out (hO.block g hgd (by show ¬ g = L.S; omega)))
  have HO1 := Kept.mk (HOd.out.trans hO)
  have hg1 : g + 1 ≤ w1.heap.size := Nat.lt_of_lt_of_le hgd hO.size
  clear hv hc hO
  have hml : (recvP c m).2.1.length ≤ 100 := recvP_len c m
  go_wp2_with fail
  refine (cloneM_c (some ⟨g, 0, none⟩) (120) kk (mcells ((fly.eraseIdx i).take 120)) _ _ (by have hl := HLE.out; have hh := mreads_take (l := fly.eraseIdx i) (k := 120) (by rw [hl]; exact HR1.out) (by omega); rwa [List.length_take, Nat.min_eq_left (by omega)] at hh) hg1 mcells_one (by omega)).mono ?_
  rintro e wc ⟨vc, rfl, hoc, hbc⟩
  have HCL := Kept.mk hoc
  have HBC := Kept.mk hbc
  have HML := Kept.mk (own_reads (own_new HV1.out HBC.out))
  have HCZ := Kept.mk hbc.size
  clear hoc hbc
  go_wp2_with (at_builtin; refine wpList_append_any _ rfl _ _ _ rfl w1.heap.size 38 i0 _ 3 24 Try.underlying30 hi0 hz0 hz1 hz2 rfl (by omega) _ _ _ rfl HCL.out _ A2 _ _ _ rfl HML.out mcells_one (by unfold maxLen; omega) (by omega) HCZ.out ?_; intro vz wz hoz hgz _)
  have HE := Kept.mk (tail_end (ml := (recvP c m).2.1) hBw HLO.out HC1.out HO1.out HBC.out HCL.out hgz (by have := HLE.out; rw [List.length_take]; omega) hoz)
  clear hoz hgz
  go_ret
  exact steps_mk (c' := (recvP c m).1) (ms := ((fly.eraseIdx i).take 120) ++ (recvP c m).2.1) i (fun _ => hi) HE2.out HE.out.1 HE.out.2.1 HE.out.2.2
set_option maxHeartbeats 4000000 in
theorem step_3_s (c : Ch) (fly : List Msg) (A : Option Addr) (kap : Nat) (nn m1 m2 m3 : Int) (w : World) (L : Loc) (B : Nat) (h : IsCh w L c) (hf : w.ownsRow B 38 3 (.slice A fly.length kap) fly.length (mcells fly)) (hBw : B ≤ w.heap.size) (lo : Low L B) (hn : fly.length ≤ 100000) (h0 : 0 < fly.length) (hs : fly.length ≤ 121) :
    Calls Try.prog 22 #[.pointer (some ⟨L.p, 0, none⟩), .slice A fly.length kap, .agg #[.int .i64 3, .int .i64 nn, .int .i64 m1, .int .i64 m2, .int .i64 m3]] w (Steps w L B c fly 3) := by
  obtain ⟨i0, hi0, hz0, hz1, hz2⟩ := info_parts info38
  have HF := Kept.mk hf
  have H := Kept.mk h
  have HLO := Kept.mk lo
  have HBX : Kept (Blk (w.alloc (.cells #[.int .i64 3, .int .i64 nn, .int .i64 m1, .int .i64 m2, .int .i64 m3] 46)) w.heap.size 46 #[.int .i64 3, .int .i64 nn, .int .i64 m1, .int .i64 m2, .int .i64 m3]) := ⟨Blk.new w 46 _⟩
  have HC0 := Kept.mk (h.alloc (.cells #[.int .i64 3, .int .i64 nn, .int .i64 m1, .int .i64 m2, .int .i64 m3] 46))
  have HF0 := Kept.mk (hf.alloc (.cells #[.int .i64 3, .int .i64 nn, .int .i64 m1, .int .i64 m2, .int .i64 m3] 46))
  have HO0 : Kept (OnlyP (fun x => x = L.S) w (w.alloc (.cells #[.int .i64 3, .int .i64 nn, .int .i64 m1, .int .i64 m2, .int .i64 m3] 46))) := ⟨(OnlyP.refl _ _).alloc _⟩
  have hpl := h.tab.lt
  have hsl := h.row.lt
  have loS := lo.S
  have hkap := own_cap hf
  clear h hf
  obtain ⟨i, hat, hi⟩ := at_of nn h0
  have hwb := wrap_bd nn
  obtain ⟨b, off, rfl, -, hb, hc⟩ := (own_reads HF0.out).spot h0 (by omega)
  obtain ⟨m, hm⟩ := get_some hi
  have HGM : Kept (fly.getD i ⟨0, 0, 0⟩ = m) := ⟨by rw [List.getD_eq_getElem?_getD, hm]; rfl⟩
  obtain ⟨g1, g2, g3⟩ := mcells_get hm
  have c1 := hc _ _ g1
  have c2 := hc _ _ g2
  have c3 := hc _ _ g3
  rw [show off + (i * 3 + 1) = off + i * 3 + 1 by omega] at c2
  rw [show off + (i * 3 + 2) = off + i * 3 + 2 by omega] at c3
  clear hc g1 g2 g3 hm
  have hne : Kept (fly ≠ []) := ⟨by rintro rfl; simp at h0⟩
  have HE2 : Kept (stepAt c fly 3 i = (c, (fly.eraseIdx i).take 120 ++ [])) := ⟨by unfold stepAt; rw [if_neg (by decide), if_pos (by decide), if_neg hne.out, if_pos rfl, List.append_nil]⟩
  have HLE : Kept ((fly.eraseIdx i).length = fly.length - 1) := ⟨by rw [List.length_eraseIdx, if_pos hi]⟩
  have HC0' := Kept.mk (HC0.out.alloc (.cells #[.int .i64 m.kind, .int .i64 m.conn, .int .i64 m.dest] 38))
  have HF0' := Kept.mk (HF0.out.alloc (.cells #[.int .i64 m.kind, .int .i64 m.conn, .int .i64 m.dest] 38))
  have HO0' := Kept.mk (HO0.out.alloc (.cells #[.int .i64 m.kind, .int .i64 m.conn, .int .i64 m.dest] 38))
  have HBX0 := Kept.mk (HBX.out.alloc (.cells #[.int .i64 m.kind, .int .i64 m.conn, .int .i64 m.dest] 38))
  have HMG0 := Kept.mk (Blk.new (w.alloc (.cells #[.int .i64 3, .int .i64 nn, .int .i64 m1, .int .i64 m2, .int .i64 m3] 46)) 38 #[.int .i64 m.kind, .int .i64 m.conn, .int .i64 m.dest])
  go_enter Try.func22, Try.ntmps22
  go_wp2_with fail
  refine (cloneM_c (some ⟨b, off, none⟩) fly.length kap (mcells fly) _ _ (own_reads HF0'.out) (Nat.le_refl _) mcells_one (by omega)).mono ?_
  rintro e wk ⟨vk, rfl, hok, hbk⟩
  obtain ⟨g, kk, rfl, hg, hgl⟩ := own_some hok h0
  have hzz := HO0'.out.size
  have HOK := Kept.mk hok
  have HCk := Kept.mk (HC0'.out.new_ hbk)
  have HOk := Kept.mk (HO0'.out.new hbk)
  have HBXk := Kept.mk (HBX0.out.new_ hbk)
  have HMGk := Kept.mk (HMG0.out.new_ hbk)
  have hBXl := HBX0.out.lt
  have hMGl := HMG0.out.lt
  have hCl := HC0'.out.tab.lt
  have hCl2 := HC0'.out.rlt
  have hCl3 := HC0'.out.row.lt
  have hkk := own_cap hok
  clear hok hbk HC0' HF0' HO0' HBX0 HMG0 HC0 HF0 HO0 HBX
  go_wp2_with fail
  refine (del_c fly g kk i _ _ HOK.out hi (by omega)).mono ?_
  rintro e wd ⟨rfl, hrd, hod⟩
  have HRD := Kept.mk hrd
  have HCd := Kept.mk (HCk.out.only hod (by omega) (by omega) (by omega))
  have HOd : Kept (OnlyP (fun x => x = L.S) w wd) := ⟨HOk.out.step hod (by rintro j hj rfl; omega)⟩
  have hBXd := HBXk.out.only hod (by omega)
  have hMGd := HMGk.out.only hod (by omega)
  have hgd : g < wd.heap.size := Nat.lt_of_lt_of_le hgl hod.size
  have b0 := hBXd.cell 0 (v := .int .i64 3) rfl
  have m0 := hMGd.cell 0 (v := .int .i64 m.kind) rfl
  have m1' := hMGd.cell 1 (v := .int .i64 m.conn) rfl
  have m2' := hMGd.cell 2 (v := .int .i64 m.dest) rfl
  simp only [World.size_alloc] at m0 m1' m2'
  have hbl := hBXd.lt
  have hml' := hMGd.lt
  simp only [World.size_alloc] at hml'
  clear hrd hod hBXd hMGd HBXk HMGk HOK c1 c2 c3
  go_wp2_with fail
  refine (cloneM_c (some ⟨g, 0, none⟩) (fly.length - 1) kk (mcells ((fly.eraseIdx i).take 120)) _ _ (by have := HLE.out; rw [List.take_of_length_le (by omega)]; exact HRD.out) hgd mcells_one (by omega)).mono ?_
  rintro e wc ⟨vc, rfl, hoc, hbc⟩
  have HCL := Kept.mk hoc
  have HBC := Kept.mk hbc
  have HML := Kept.mk (nil_reads wc)
  have HCZ := Kept.mk hbc.size
  clear hoc hbc
  go_wp2_with (at_builtin; refine wpList_append_any _ rfl _ _ _ rfl wd.heap.size 38 i0 _ 3 24 Try.underlying30 hi0 hz0 hz1 hz2 rfl (by omega) _ _ _ rfl HCL.out _ none _ _ _ rfl HML.out mcells_one (by unfold maxLen; omega) (by omega) HCZ.out ?_; intro vz wz hoz hgz _)
  have HE := Kept.mk (tail_end (ml := []) hBw HLO.out HCd.out HOd.out HBC.out HCL.out hgz (by have := HLE.out; rw [List.length_take]; omega) hoz)
  clear hoz hgz
  go_ret
  exact steps_mk (c' := c) (ms := ((fly.eraseIdx i).take 120) ++ []) i (fun _ => hi) HE2.out HE.out.1 HE.out.2.1 HE.out.2.2
set_option maxHeartbeats 4000000 in
theorem step_3_b (c : Ch) (fly : List Msg) (A : Option Addr) (kap : Nat) (nn m1 m2 m3 : Int) (w : World) (L : Loc) (B : Nat) (h : IsCh w L c) (hf : w.ownsRow B 38 3 (.slice A fly.length kap) fly.length (mcells fly)) (hBw : B ≤ w.heap.size) (lo : Low L B) (hn : fly.length ≤ 100000) (h0 : 0 < fly.length) (hs : 121 < fly.length) :
    Calls Try.prog 22 #[.pointer (some ⟨L.p, 0, none⟩), .slice A fly.length kap, .agg #[.int .i64 3, .int .i64 nn, .int .i64 m1, .int .i64 m2, .int .i64 m3]] w (Steps w L B c fly 3) := by
  obtain ⟨i0, hi0, hz0, hz1, hz2⟩ := info_parts info38
  have HF := Kept.mk hf
  have H := Kept.mk h
  have HLO := Kept.mk lo
  have HBX : Kept (Blk (w.alloc (.cells #[.int .i64 3, .int .i64 nn, .int .i64 m1, .int .i64 m2, .int .i64 m3] 46)) w.heap.size 46 #[.int .i64 3, .int .i64 nn, .int .i64 m1, .int .i64 m2, .int .i64 m3]) := ⟨Blk.new w 46 _⟩
  have HC0 := Kept.mk (h.alloc (.cells #[.int .i64 3, .int .i64 nn, .int .i64 m1, .int .i64 m2, .int .i64 m3] 46))
  have HF0 := Kept.mk (hf.alloc (.cells #[.int .i64 3, .int .i64 nn, .int .i64 m1, .int .i64 m2, .int .i64 m3] 46))
  have HO0 : Kept (OnlyP (fun x => x = L.S) w (w.alloc (.cells #[.int .i64 3, .int .i64 nn, .int .i64 m1, .int .i64 m2, .int .i64 m3] 46))) := ⟨(OnlyP.refl _ _).alloc _⟩
  have hpl := h.tab.lt
  have hsl := h.row.lt
  have loS := lo.S
  have hkap := own_cap hf
  clear h hf
  obtain ⟨i, hat, hi⟩ := at_of nn h0
  have hwb := wrap_bd nn
  obtain ⟨b, off, rfl, -, hb, hc⟩ := (own_reads HF0.out).spot h0 (by omega)
  obtain ⟨m, hm⟩ := get_some hi
  have HGM : Kept (fly.getD i ⟨0, 0, 0⟩ = m) := ⟨by rw [List.getD_eq_getElem?_getD, hm]; rfl⟩
  obtain ⟨g1, g2, g3⟩ := mcells_get hm
  have c1 := hc _ _ g1
  have c2 := hc _ _ g2
  have c3 := hc _ _ g3
  rw [show off + (i * 3 + 1) = off + i * 3 + 1 by omega] at c2
  rw [show off + (i * 3 + 2) = off + i * 3 + 2 by omega] at c3
  clear hc g1 g2 g3 hm
  have hne : Kept (fly ≠ []) := ⟨by rintro rfl; simp at h0⟩
  have HE2 : Kept (stepAt c fly 3 i = (c, (fly.eraseIdx i).take 120 ++ [])) := ⟨by unfold stepAt; rw [if_neg (by decide), if_pos (by decide), if_neg hne.out, if_pos rfl, List.append_nil]⟩
  have HLE : Kept ((fly.eraseIdx i).length = fly.length - 1) := ⟨by rw [List.length_eraseIdx, if_pos hi]⟩
  have HC0' := Kept.mk (HC0.out.alloc (.cells #[.int .i64 m.kind, .int .i64 m.conn, .int .i64 m.dest] 38))
  have HF0' := Kept.mk (HF0.out.alloc (.cells #[.int .i64 m.kind, .int .i64 m.conn, .int .i64 m.dest] 38))
  have HO0' := Kept.mk (HO0.out.alloc (.cells #[.int .i64 m.kind, .int .i64 m.conn, .int .i64 m.dest] 38))
  have HBX0 := Kept.mk (HBX.out.alloc (.cells #[.int .i64 m.kind, .int .i64 m.conn, .int .i64 m.dest] 38))
  have HMG0 := Kept.mk (Blk.new (w.alloc (.cells #[.int .i64 3, .int .i64 nn, .int .i64 m1, .int .i64 m2, .int .i64 m3] 46)) 38 #[.int .i64 m.kind, .int .i64 m.conn, .int .i64 m.dest])
  go_enter Try.func22, Try.ntmps22
  go_wp2_with fail
  refine (cloneM_c (some ⟨b, off, none⟩) fly.length kap (mcells fly) _ _ (own_reads HF0'.out) (Nat.le_refl _) mcells_one (by omega)).mono ?_
  rintro e wk ⟨vk, rfl, hok, hbk⟩
  obtain ⟨g, kk, rfl, hg, hgl⟩ := own_some hok h0
  have hzz := HO0'.out.size
  have HOK := Kept.mk hok
  have HCk := Kept.mk (HC0'.out.new_ hbk)
  have HOk := Kept.mk (HO0'.out.new hbk)
  have HBXk := Kept.mk (HBX0.out.new_ hbk)
  have HMGk := Kept.mk (HMG0.out.new_ hbk)
  have hBXl := HBX0.out.lt
  have hMGl := HMG0.out.lt
  have hCl := HC0'.out.tab.lt
  have hCl2 := HC0'.out.rlt
  have hCl3 := HC0'.out.row.lt
  have hkk := own_cap hok
  clear hok hbk HC0' HF0' HO0' HBX0 HMG0 HC0 HF0 HO0 HBX
  go_wp2_with fail
  refine (del_c fly g kk i _ _ HOK.out hi (by omega)).mono ?_
  rintro e wd ⟨rfl, hrd, hod⟩
  have HRD := Kept.mk hrd
  have HCd := Kept.mk (HCk.out.only hod (by omega) (by omega) (by omega))
  have HOd : Kept (OnlyP (fun x => x = L.S) w wd) := ⟨HOk.out.step hod (by rintro j hj rfl; omega)⟩
  have hBXd := HBXk.out.only hod (by omega)
  have hMGd := HMGk.out.only hod (by omega)
  have hgd : g < wd.heap.size := Nat.lt_of_lt_of_le hgl hod.size
  have b0 := hBXd.cell 0 (v := .int .i64 3) rfl
  have m0 := hMGd.cell 0 (v := .int .i64 m.kind) rfl
  have m1' := hMGd.cell 1 (v := .int .i64 m.conn) rfl
  have m2' := hMGd.cell 2 (v := .int .i64 m.dest) rfl
  simp only [World.size_alloc] at m0 m1' m2'
  have hbl := hBXd.lt
  have hml' := hMGd.lt
  simp only [World.size_alloc] at hml'
  clear hrd hod hBXd hMGd HBXk HMGk HOK c1 c2 c3
  go_wp2_with fail
  refine (cloneM_c (some ⟨g, 0, none⟩) (120) kk (mcells ((fly.eraseIdx i).take 120)) _ _ (by have hl := HLE.out; have hh := mreads_take (l := fly.eraseIdx i) (k := 120) (by rw [hl]; exact HRD.out) (by omega); rwa [List.length_take, Nat.min_eq_left (by omega)] at hh) hgd mcells_one (by omega)).mono ?_
  rintro e wc ⟨vc, rfl, hoc, hbc⟩
  have HCL := Kept.mk hoc
  have HBC := Kept.mk hbc
  have HML := Kept.mk (nil_reads wc)
  have HCZ := Kept.mk hbc.size
  clear hoc hbc
  go_wp2_with (at_builtin; refine wpList_append_any _ rfl _ _ _ rfl wd.heap.size 38 i0 _ 3 24 Try.underlying30 hi0 hz0 hz1 hz2 rfl (by omega) _ _ _ rfl HCL.out _ none _ _ _ rfl HML.out mcells_one (by unfold maxLen; omega) (by omega) HCZ.out ?_; intro vz wz hoz hgz _)
  have HE := Kept.mk (tail_end (ml := []) hBw HLO.out HCd.out HOd.out HBC.out HCL.out hgz (by have := HLE.out; rw [List.length_take]; omega) hoz)
  clear hoz hgz
  go_ret
  exact steps_mk (c' := c) (ms := ((fly.eraseIdx i).take 120) ++ []) i (fun _ => hi) HE2.out HE.out.1 HE.out.2.1 HE.out.2.2
theorem step_c (c : Ch) (fly : List Msg) (A : Option Addr) (kap : Nat) (kind nn m1 m2 m3 : Int) (w : World) (L : Loc) (B : Nat) (h : IsCh w L c) (hf : w.ownsRow B 38 3 (.slice A fly.length kap) fly.length (mcells fly)) (hBw : B ≤ w.heap.size) (lo : Low L B) (hn : fly.length ≤ 100000) :
    Calls Try.prog 22 #[.pointer (some ⟨L.p, 0, none⟩), .slice A fly.length kap, .agg #[.int .i64 kind, .int .i64 nn, .int .i64 m1, .int .i64 m2, .int .i64 m3]] w (Steps w L B c fly kind) := by
  by_cases h0 : 0 < fly.length
  · by_cases k0 : kind = 0
    · subst k0
      by_cases hs : fly.length ≤ 120
      · exact step_start_s c fly A kap nn m1 m2 m3 w L B h hf hBw lo hn h0 hs
      · exact step_start_b c fly A kap nn m1 m2 m3 w L B h hf hBw lo hn h0 (by omega)
    by_cases k1 : kind = 1
    · subst k1
      by_cases hs : fly.length ≤ 121
      · exact step_1_s c fly A kap nn m1 m2 m3 w L B h hf hBw lo hn h0 hs
      · exact step_1_b c fly A kap nn m1 m2 m3 w L B h hf hBw lo hn h0 (by omega)
    by_cases k2 : kind = 2
    · subst k2
      by_cases hs : fly.length ≤ 120
      · exact step_2_s c fly A kap nn m1 m2 m3 w L B h hf hBw lo hn h0 hs
      · exact step_2_b c fly A kap nn m1 m2 m3 w L B h hf hBw lo hn h0 (by omega)
    by_cases k3 : kind = 3
    · subst k3
      by_cases hs : fly.length ≤ 121
      · exact step_3_s c fly A kap nn m1 m2 m3 w L B h hf hBw lo hn h0 hs
      · exact step_3_b c fly A kap nn m1 m2 m3 w L B h hf hBw lo hn h0 (by omega)
    by_cases k4 : kind = 4
    · subst k4
      by_cases hs : fly.length ≤ 120
      · exact step_stop_s c fly A kap nn m1 m2 m3 w L B h hf hBw lo hn h0 hs
      · exact step_stop_b c fly A kap nn m1 m2 m3 w L B h hf hBw lo hn h0 (by omega)
    by_cases k5 : kind = 5
    · subst k5
      by_cases hs : fly.length ≤ 120
      · exact step_rep_s c fly A kap nn m1 m2 m3 w L B h hf hBw lo hn h0 hs
      · exact step_rep_b c fly A kap nn m1 m2 m3 w L B h hf hBw lo hn h0 (by omega)
    by_cases hs : fly.length ≤ 120
    · exact step_none_s c fly A kap kind nn m1 m2 m3 w L B h hf hBw lo hn h0 hs (by simpa using k0) (by simpa using k1) (by simpa using k2) (by simpa using k3) (by simpa using k4) (by simpa using k5)
    · exact step_none_b c fly A kap kind nn m1 m2 m3 w L B h hf hBw lo hn h0 (by omega) (by simpa using k0) (by simpa using k1) (by simpa using k2) (by simpa using k3) (by simpa using k4) (by simpa using k5)
  · by_cases k0 : kind = 0
    · subst k0; exact step_start_z c fly A kap nn m1 m2 m3 w L B h hf hBw lo hn h0
    by_cases k1 : kind = 1
    · subst k1; exact step_1_z c fly A kap nn m1 m2 m3 w L B h hf hBw lo hn h0
    by_cases k2 : kind = 2
    · subst k2; exact step_2_z c fly A kap nn m1 m2 m3 w L B h hf hBw lo hn h0
    by_cases k3 : kind = 3
    · subst k3; exact step_3_z c fly A kap nn m1 m2 m3 w L B h hf hBw lo hn h0
    by_cases k4 : kind = 4
    · subst k4; exact step_stop_z c fly A kap nn m1 m2 m3 w L B h hf hBw lo hn h0
    by_cases k5 : kind = 5
    · subst k5; exact step_rep_z c fly A kap nn m1 m2 m3 w L B h hf hBw lo hn h0
    exact step_none_z c fly A kap kind nn m1 m2 m3 w L B h hf hBw lo hn h0 (by simpa using k0) (by simpa using k1) (by simpa using k2) (by simpa using k3) (by simpa using k4) (by simpa using k5)
end Go.Proofs.Ytnmgnggchgckoaa
