/- Reconfig: the statements' step (printed by gen_rfly.py). -/
import Derived.Test.YtibmbhnpmfgclaaRAwake
import Derived.Deep.CutBlock
namespace Go.Proofs.Ytibmbhnpmfgclaa
set_option linter.unusedVariables false
set_option linter.unusedSimpArgs false
open Go.RowKit Go.Maps
/-- What the switch leaves: the nodes, the messages in flight, the new messages. -/
def StpM (P : List Int) (r : Nat) (ns : List Sn) (fly : List Mg) (kd n : Int) (ns1 : List Sn) (fly1 l : List Mg) : Prop :=
  (kd = 0 ∧ fly1 = fly ∧ (ns1, l) = beginP P r ns) ∨
  (∃ i m, fly[i]? = some m ∧ ((kd = 1 ∧ fly1 = fly.eraseIdx i ∧ (ns1, l) = recvP P r ns m) ∨ (kd = 2 ∧ fly1 = fly ∧ (ns1, l) = recvP P r ns m) ∨ (kd = 3 ∧ fly1 = fly.eraseIdx i ∧ (ns1, l) = (ns, [])))) ∨
  (kd = 4 ∧ fly1 = fly ∧ (ns1, l) = drainP P r ns n) ∨ (kd = 5 ∧ fly1 = fly ∧ (ns1, l) = (ns, repeatP P ns)) ∨ ((kd < 0 ∨ 5 < kd) ∧ fly1 = fly ∧ (ns1, l) = (ns, []))
def StpR (P : List Int) (r : Nat) (ns : List Sn) (fly : List Mg) (kd n : Int) (ns' : List Sn) (fly' : List Mg) : Prop :=
  (∃ fly1 l, StpM P r ns fly kd n ns' fly1 l ∧ fly' = fly1.take 120 ++ l) ∨ (1 ≤ kd ∧ kd ≤ 3 ∧ fly = [] ∧ ns' = ns ∧ fly' = [])
section
variable {P : List Int} {r : Nat} {ns : List Sn}
theorem commit_len (v : Nat) : (commitP P ns v).2.length ≤ P.length + 1 := by unfold commitP; have := down_len P ⟨(nd ns v).ep + 1, 3, [], false⟩ 3 v ((nd ns v).ep + 1); simp only; omega
theorem prepared_len (v : Nat) : (preparedP P r ns v).2.length ≤ P.length + 1 := by
  unfold preparedP; split
  · exact commit_len v
  · simp [riseP]
theorem prepare_len (v : Nat) : (prepareP P r ns v).2.length ≤ P.length + 1 := by
  unfold prepareP; split
  · exact prepared_len v
  · exact Nat.le_trans (down_len P _ 1 v _) (Nat.le_succ _)
theorem settle_len (v : Nat) : (settleP P r ns v).2.length ≤ P.length + 1 := by
  unfold settleP; split
  · split <;> simp [riseP]
  · simp
theorem recv_len (m : Mg) : (recvP P r ns m).2.length ≤ P.length + 1 := by
  unfold recvP goP recvPrepareP recvReadyP recvCommitP recvDoneP
  repeat' split
  all_goals first | exact prepare_len _ | exact prepared_len _ | exact commit_len _ | exact settle_len _ | simp [riseP]
theorem begin_len : (beginP P r ns).2.length ≤ P.length + 1 := by
  unfold beginP; split
  · exact prepare_len _
  · simp
theorem drain_len (v : Int) : (drainP P r ns v).2.length ≤ P.length + 1 := by
  unfold drainP; split
  · exact settle_len _
  · simp
theorem repeat_len : (repeatP P ns).length ≤ ns.length * (P.length + 1) := repK_len P ns ns.length
theorem StpM.len {fly : List Mg} {kd n : Int} {ns1 : List Sn} {fly1 l : List Mg} (h : StpM P r ns fly kd n ns1 fly1 l) (hn : ns.length = P.length) (hp : P.length ≤ 10) : l.length ≤ 110 ∧ fly1.length ≤ fly.length := by
  rcases h with ⟨_, rfl, e⟩ | ⟨i, m, _, ⟨_, rfl, e⟩ | ⟨_, rfl, e⟩ | ⟨_, rfl, e⟩⟩ | ⟨_, rfl, e⟩ | ⟨_, rfl, e⟩ | ⟨_, rfl, e⟩
  · have := begin_len (P := P) (r := r) (ns := ns); rw [← e] at this; simp only at this; omega
  · have := recv_len (P := P) (r := r) (ns := ns) m; rw [← e] at this; simp only at this
    have := List.length_eraseIdx_le fly i
    omega
  · have := recv_len (P := P) (r := r) (ns := ns) m; rw [← e] at this; simp only at this; omega
  · injection e with _ e; subst e
    have := List.length_eraseIdx_le fly i
    simp; omega
  · have := drain_len (P := P) (r := r) (ns := ns) n; rw [← e] at this; simp only at this; omega
  · injection e with _ e; subst e
    have := repeat_len (P := P) (ns := ns)
    have h2 : ns.length * (P.length + 1) ≤ 10 * 11 := Nat.mul_le_mul (by omega) (by omega)
    omega
  · injection e with _ e; subst e; simp
end
theorem wrap_bd (n : Int) : 0 ≤ IntKind.u64.wrap n := by rw [IntKind.wrap_u64]; omega
theorem at_of (n : Int) {len : Nat} (h : 0 < len) : ∃ i : Nat, IntKind.u64.wrap n % (len : Int) = (i : Int) ∧ i < len := by
  have h1 := Int.emod_nonneg (IntKind.u64.wrap n) (show (len : Int) ≠ 0 by omega)
  have h2 := Int.emod_lt_of_pos (IntKind.u64.wrap n) (show (0 : Int) < len by omega)
  exact ⟨(IntKind.u64.wrap n % (len : Int)).toNat, by omega, by omega⟩
theorem Reads.blk {w w' : World} {B sz n g o : Nat} {xs : List Value} (h : Reads w B sz (some ⟨g, o, none⟩) n xs) (hb : w'.heap[g]? = w.heap[g]?) : Reads w' B sz (some ⟨g, o, none⟩) n xs :=
  ⟨h.1, fun hn => by
    obtain ⟨ad, e, hlt, hc⟩ := h.2 hn
    injection e with e
    subst e
    exact ⟨_, rfl, hlt, fun j u hu => (World.cell?_of_block (by rw [block_of_add]; exact hb)).trans (hc j u hu)⟩⟩
theorem Reads.take {w : World} {B sz n k : Nat} {A : Option Addr} {xs : List Value} (h : Reads w B sz A n xs) (hk : k ≤ n) : Reads w B sz A k (xs.take (k * sz)) := by
  have hle : k * sz ≤ n * sz := Nat.mul_le_mul_right _ hk
  refine ⟨by rw [List.length_take, h.1]; omega, fun hn => ?_⟩
  obtain ⟨ad, e, hlt, hc⟩ := h.2 (by omega)
  refine ⟨ad, e, hlt, fun j u hu => hc j u ?_⟩
  have hj := (List.getElem?_eq_some_iff.1 hu).1
  rw [List.length_take] at hj
  rwa [List.getElem?_take_of_lt (by omega)] at hu
theorem own_blk {w : World} {B sz n g kap : Nat} {e : TypeId} {xs : List Value} (h : w.ownsRow B e sz (.slice (some ⟨g, 0, none⟩) n kap) n xs) : ∃ cs, Blk w g e cs := by
  rcases h.2 with ⟨h1, _⟩ | ⟨g', cap, cur, h1, _, hh, _⟩
  · cases h1
  · injection h1 with h1
    injection h1 with h1
    injection h1 with h1
    subst h1
    exact ⟨cur, hh⟩
theorem own_some {w : World} {B sz n kap : Nat} {e : TypeId} {A : Option Addr} {xs : List Value} (h : w.ownsRow B e sz (.slice A n kap) n xs) (hn : 0 < n) : ∃ g, A = some ⟨g, 0, none⟩ ∧ B ≤ g ∧ g < w.heap.size := by
  rcases h.2 with ⟨h1, _⟩ | ⟨g', cap, cur, h1, hB, hh, _⟩
  · injection h1 with _ h2; omega
  · injection h1 with h1
    exact ⟨g', h1, hB, Blk.lt (t := e) (cs := cur) hh⟩
section
variable {w w' : World} {L : Lay} {M : List Nm}
theorem sl_lt (h : ChAt w L M) {g : Nat} (hg : SL L M g) : g < w.heap.size := by
  rcases hg with e | ⟨m, hm, e⟩
  · rw [e]; exact h.nodes.lt
  · exact (h.mlt m hm g e).1
theorem sl_own (h : ChAt w L M) {B n : Nat} {v : Value} {xs : List Value} (ho : w.ownsRow B 39 4 v n xs) : ∀ g, v.ownBlock = some g → ¬ SL L M g := fun g hg hs => by
  rcases hs with e | ⟨m, hm, e⟩
  · exact own_blk_ne ho h.nodes (by decide) (by rw [hg, e])
  · rcases ho.2 with ⟨rfl, _⟩ | ⟨g', cap, cur, rfl, _, hh, _⟩
    · simp [Value.ownBlock] at hg
    · have : g' = g := by simpa [Value.ownBlock] using hg
      subst this
      exact (h.mlt m hm _ e).2 _ _ hh
end
/-- What the switch leaves in memory. -/
def Mid (w : World) (L : Lay) (M : List Nm) (fly : List Mg) (kd n : Int) (v1 v7 : Value) (wx : World) : Prop :=
  ∃ (A1 A7 : Option Addr) (k1 k7 : Nat) (fly1 l : List Mg) (M1 : List Nm), v1 = .slice A1 fly1.length k1 ∧ v7 = .slice A7 l.length k7 ∧ StpM L.P L.root (sns M) fly kd n (sns M1) fly1 l ∧ ChAt wx L M1 ∧ Reads wx wx.heap.size 4 A1 fly1.length (mcells fly1) ∧ Reads wx wx.heap.size 4 A7 l.length (mcells l) ∧
    OnlyP (SL L M) w wx ∧ (∀ g, SL L M1 g → SL L M g ∨ w.heap.size ≤ g) ∧ fly1.length ≤ k1 ∧ k1 ≤ maxLen
/-- What step leaves. -/
def StepR (w : World) (L : Lay) (M : List Nm) (fly : List Mg) (kd n : Int) (e : Ending) (w' : World) : Prop :=
  ∃ (A' : Option Addr) (kap' : Nat) (fly' : List Mg) (M' : List Nm), e = .returned (.slice A' fly'.length kap') ∧ StpR L.P L.root (sns M) fly kd n (sns M') fly' ∧ ChAt w' L M' ∧ w'.ownsRow 0 39 4 (.slice A' fly'.length kap') fly'.length (mcells fly') ∧ OnlyP (SL L M) w w' ∧ (∀ g, SL L M' g → SL L M g ∨ w.heap.size ≤ g)
section
variable {w w0 : World} {L : Lay} {M : List Nm} {fly : List Mg} {kd n : Int} {A : Option Addr} {kap : Nat}
/-- Where the messages in flight are left as they are. -/
theorem mid_same {w1 w' : World} {M1 : List Nm} {l : List Mg} {A7 : Option Addr} {k7 : Nat} (hC : ChAt w1 L M) (hf : w1.ownsRow 0 39 4 (.slice A fly.length kap) fly.length (mcells fly)) (hb : Below w.heap.size w w1)
    (hC' : ChAt w' L M1) (hl : Reads w' w'.heap.size 4 A7 l.length (mcells l)) (hk : OnlyP (SL L M) w1 w') (hs : ∀ g, SL L M1 g → SL L M g ∨ w1.heap.size ≤ g) (hM : StpM L.P L.root (sns M) fly kd n (sns M1) fly l) : Mid w L M fly kd n (.slice A fly.length kap) (.slice A7 l.length k7) w' := by
  have hc := own_cap hf
  have hf' := own_keep hf hk (sl_own hC hf)
  exact ⟨A, A7, kap, k7, fly, l, M1, rfl, rfl, hM, hC', Reads.of_own hf', hl, (OnlyP.of_below hb _).trans hk, fun g hg => by
    rcases hs g hg with h | h
    · exact .inl h
    · have := hb.size; exact .inr (by omega), hc.1, hc.2⟩
end
set_option maxRecDepth 100000 in
set_option maxHeartbeats 16000000 in
theorem step_e (w : World) (L : Lay) (M : List Nm) (fly : List Mg) (A : Option Addr) (kap : Nat) (kd n : Int) (q : Mg) (h : ChAt w L M) (hfit : Fit (sns M)) (hf : w.ownsRow 0 39 4 (.slice A fly.length kap) fly.length (mcells fly)) (hp10 : L.P.length ≤ 10) (hfl0 : fly.length ≤ 1000) (h0 : fly = []) :
    Calls Try.prog 32 #[.pointer (some ⟨L.b, 0, none⟩), .slice A fly.length kap, .agg #[.int .i64 kd, .int .i64 n, .int .i64 q.kind, .int .i64 q.frm, .int .i64 q.to_, .int .i64 q.ep]] w (StepR w L M fly kd n) := by
  have HF := Kept.mk hf
  have HH := Kept.mk h
  have HFI := Kept.mk hfit
  have HBX := Kept.mk (Blk.new w 56 #[.int .i64 kd, .int .i64 n, .int .i64 q.kind, .int .i64 q.frm, .int .i64 q.to_, .int .i64 q.ep])
  have HD0 : Kept (Below w.heap.size w (w.alloc (.cells #[.int .i64 kd, .int .i64 n, .int .i64 q.kind, .int .i64 q.frm, .int .i64 q.to_, .int .i64 q.ep] 56))) := ⟨(Below.refl _ _).alloc (Nat.le_refl _) _⟩
  have HC0 := Kept.mk (h.new_ HD0.out)
  have HF0 := Kept.mk (hf.alloc (.cells #[.int .i64 kd, .int .i64 n, .int .i64 q.kind, .int .i64 q.frm, .int .i64 q.to_, .int .i64 q.ep] 56))
  have hcp := own_cap hf
  have hsl := sl_len h
  obtain ⟨jj, hjj, hy0, hy1, hy2⟩ := info_parts infoM
  have hpl : L.P.length ≤ 1000000 := by omega
  have HE0 := Kept.mk h0
  have hle0 : ¬ 0 < fly.length := by rw [h0]; simp
  have hq0 := z_yes' (show (fly.length : Int) = 0 by omega)
  obtain ⟨qq, -⟩ := hq0
  clear h hfit hf h0
  unfold StepR
  go_enter Try.func32, Try.ntmps32
  go_upto_block 0 with fail
  go_cut [1, 7] (fun s1 s7 wx => Mid w L M fly kd n s1 s7 wx)
  case first =>
    clear hjj hy0 hy1 hy2
    rcases (by omega : kd = 0 ∨ kd = 1 ∨ kd = 2 ∨ kd = 3 ∨ kd = 4 ∨ kd = 5 ∨ (kd < 0 ∨ 5 < kd)) with hkd | hkd | hkd | hkd | hkd | hkd | hko
    · subst hkd
      go_wp2_with (go_at_call 17; refine (Begin_c _ L M HC0.out HFI.out).mono ?_; rintro e w2 hu; generalize (if (nd (sns M) L.root).ph = 0 then (0 : Int) else 6) = z at hu; obtain ⟨A2, k2, M2, rfl, hs2, hC2, ho2, hon2, hsl2⟩ := Upd2.get hu; have HS2 := Kept.mk hs2; have HC2 := Kept.mk hC2; have HR2 := Kept.mk (Reads.of_own ho2); have HO2 := Kept.mk hon2; have HSL2 := Kept.mk hsl2; clear hu hs2 hC2 ho2 hon2 hsl2)
      go_meet
      exact mid_same HC0.out HF0.out HD0.out HC2.out HR2.out HO2.out HSL2.out (.inl ⟨rfl, rfl, by rw [HS2.out]⟩)
    · subst hkd
      go_wp2_with fail
      go_ret
      refine ⟨A, kap, fly, M, rfl, .inr ⟨by omega, by omega, HE0.out, rfl, HE0.out⟩, HC0.out, HF0.out, OnlyP.of_below HD0.out _, sl_same⟩
    · subst hkd
      go_wp2_with fail
      go_ret
      refine ⟨A, kap, fly, M, rfl, .inr ⟨by omega, by omega, HE0.out, rfl, HE0.out⟩, HC0.out, HF0.out, OnlyP.of_below HD0.out _, sl_same⟩
    · subst hkd
      go_wp2_with fail
      go_ret
      refine ⟨A, kap, fly, M, rfl, .inr ⟨by omega, by omega, HE0.out, rfl, HE0.out⟩, HC0.out, HF0.out, OnlyP.of_below HD0.out _, sl_same⟩
    · subst hkd
      go_wp2_with (go_at_call 19; refine (Drained_c _ L M n HC0.out HFI.out).mono ?_; rintro e w2 hu; obtain ⟨A2, k2, M2, rfl, hs2, hC2, ho2, hon2, hsl2⟩ := Upd2.get hu; have HS2 := Kept.mk hs2; have HC2 := Kept.mk hC2; have HR2 := Kept.mk (Reads.of_own ho2); have HO2 := Kept.mk hon2; have HSL2 := Kept.mk hsl2; clear hu hs2 hC2 ho2 hon2 hsl2)
      go_meet
      exact mid_same HC0.out HF0.out HD0.out HC2.out HR2.out HO2.out HSL2.out (.inr (.inr (.inl ⟨rfl, rfl, by rw [HS2.out]⟩)))
    · subst hkd
      go_wp2_with (go_at_call 23; refine (Repeat_c _ L M HC0.out HFI.out).mono ?_; rintro e w2 ⟨A2, k2, rfl, ho2, hb2⟩; have HR2 := Kept.mk (Reads.of_own ho2); have HB2 := Kept.mk hb2; clear ho2 hb2)
      go_meet
      exact mid_same HC0.out HF0.out HD0.out (HC0.out.new_ HB2.out) HR2.out (OnlyP.of_below HB2.out _) sl_same (.inr (.inr (.inr (.inl ⟨rfl, rfl, rfl⟩))))
    · obtain ⟨p0, -⟩ := z_no' (show kd ≠ 0 by omega)
      obtain ⟨p1, -⟩ := z_no' (show kd ≠ 1 by omega)
      obtain ⟨p2, -⟩ := z_no' (show kd ≠ 2 by omega)
      obtain ⟨p3, -⟩ := z_no' (show kd ≠ 3 by omega)
      obtain ⟨p4, -⟩ := z_no' (show kd ≠ 4 by omega)
      obtain ⟨p5, -⟩ := z_no' (show kd ≠ 5 by omega)
      go_wp2_with fail
      go_meet
      exact mid_same (l := []) HC0.out HF0.out HD0.out HC0.out Reads.none_ (OnlyP.refl _ _) sl_same (.inr (.inr (.inr (.inr ⟨hko, rfl, rfl⟩))))
  case rest =>
    obtain ⟨A1, A7, k1, k7, fly1, l, M1, rfl, rfl, hM, hC1, hr1, hr7, hon, hsl1, hk1, hk2⟩ := hcut
    obtain ⟨hll, hfl⟩ := hM.len hsl hp10
    have HM := Kept.mk hM
    have HC1 := Kept.mk hC1
    have HR1 := Kept.mk hr1
    have HR7 := Kept.mk hr7
    have HON := Kept.mk hon
    have HSL := Kept.mk hsl1
    unfold maxLen at hk2
    clear hM hC1 hr1 hr7 hon hsl1 hsl
    have h120 : ¬ 120 < fly1.length := by omega
    have HT : Kept (fly1.take 120 = fly1) := ⟨List.take_of_length_le (by omega)⟩
    go_wp2_with (first | (go_at_call 61; refine (clone_c A1 fly1.length k1 (mcells fly1) _ _ HR1.out (Nat.le_refl _) (m_one _) (by omega)).mono ?_; rintro e wc ⟨Ac, kc, rfl, hoc, hbc⟩; have HOC := Kept.mk hoc; have HBC := Kept.mk hbc; have HR7C := Kept.mk (HR7.out.new_ hbc); have hzc := hbc.size; clear hoc hbc) | (at_builtin; refine wpList_append_any _ rfl _ _ _ rfl _ 39 jj _ 4 32 Try.underlying40 hjj hy0 hy1 hy2 rfl (by omega) _ fly1.length _ rfl HOC.out _ A7 l.length k7 _ rfl HR7C.out (m_one _) (by unfold maxLen; omega) (by omega) hzc ?_; intro v' w4 ho hgw hat; obtain ⟨Av, kv, rfl⟩ := own_slice ho; have HO4 := Kept.mk ho; have HG4 := Kept.mk hgw; clear ho hgw hat))
    go_ret
    have hlen : (fly1.take 120 ++ l).length = fly1.length + l.length := by rw [HT.out, List.length_append]
    have hb4 := (HBC.out.grown HG4.out (Nat.le_trans (Nat.le_refl _) HBC.out.size) (fun j hj => (HOC.out.lt j hj).1))
    refine ⟨Av, kv, fly1.take 120 ++ l, M1, by rw [hlen]; rfl, .inl ⟨fly1, l, HM.out, rfl⟩, HC1.out.new_ hb4, ?_, HON.out.new hb4, HSL.out⟩
    rw [hlen, HT.out, mcells_app]
    exact own_base HO4.out (Nat.zero_le _)
set_option maxRecDepth 100000 in
set_option maxHeartbeats 16000000 in
theorem step_f (w : World) (L : Lay) (M : List Nm) (fly : List Mg) (A : Option Addr) (kap : Nat) (kd n : Int) (q : Mg) (h : ChAt w L M) (hfit : Fit (sns M)) (hf : w.ownsRow 0 39 4 (.slice A fly.length kap) fly.length (mcells fly)) (hp10 : L.P.length ≤ 10) (hfl0 : fly.length ≤ 1000) (h0 : 0 < fly.length) :
    Calls Try.prog 32 #[.pointer (some ⟨L.b, 0, none⟩), .slice A fly.length kap, .agg #[.int .i64 kd, .int .i64 n, .int .i64 q.kind, .int .i64 q.frm, .int .i64 q.to_, .int .i64 q.ep]] w (StepR w L M fly kd n) := by
  have HF := Kept.mk hf
  have HH := Kept.mk h
  have HFI := Kept.mk hfit
  have HBX := Kept.mk (Blk.new w 56 #[.int .i64 kd, .int .i64 n, .int .i64 q.kind, .int .i64 q.frm, .int .i64 q.to_, .int .i64 q.ep])
  have HD0 : Kept (Below w.heap.size w (w.alloc (.cells #[.int .i64 kd, .int .i64 n, .int .i64 q.kind, .int .i64 q.frm, .int .i64 q.to_, .int .i64 q.ep] 56))) := ⟨(Below.refl _ _).alloc (Nat.le_refl _) _⟩
  have HC0 := Kept.mk (h.new_ HD0.out)
  have HF0 := Kept.mk (hf.alloc (.cells #[.int .i64 kd, .int .i64 n, .int .i64 q.kind, .int .i64 q.frm, .int .i64 q.to_, .int .i64 q.ep] 56))
  have hcp := own_cap hf
  have hsl := sl_len h
  obtain ⟨jj, hjj, hy0, hy1, hy2⟩ := info_parts infoM
  have hpl : L.P.length ≤ 1000000 := by omega
  obtain ⟨i, hat, hi⟩ := at_of n h0
  have hwb := wrap_bd n
  have hq0 := z_no' (show (fly.length : Int) ≠ 0 by omega)
  obtain ⟨qq, -⟩ := hq0
  clear h hfit hf h0
  unfold StepR
  go_enter Try.func32, Try.ntmps32
  go_upto_block 0 with fail
  go_cut [1, 7] (fun s1 s7 wx => Mid w L M fly kd n s1 s7 wx)
  case first =>
    clear hjj hy0 hy1 hy2
    rcases (by omega : kd = 0 ∨ kd = 1 ∨ kd = 2 ∨ kd = 3 ∨ kd = 4 ∨ kd = 5 ∨ (kd < 0 ∨ 5 < kd)) with hkd | hkd | hkd | hkd | hkd | hkd | hko
    · subst hkd
      go_wp2_with (go_at_call 17; refine (Begin_c _ L M HC0.out HFI.out).mono ?_; rintro e w2 hu; generalize (if (nd (sns M) L.root).ph = 0 then (0 : Int) else 6) = z at hu; obtain ⟨A2, k2, M2, rfl, hs2, hC2, ho2, hon2, hsl2⟩ := Upd2.get hu; have HS2 := Kept.mk hs2; have HC2 := Kept.mk hC2; have HR2 := Kept.mk (Reads.of_own ho2); have HO2 := Kept.mk hon2; have HSL2 := Kept.mk hsl2; clear hu hs2 hC2 ho2 hon2 hsl2)
      go_meet
      exact mid_same HC0.out HF0.out HD0.out HC2.out HR2.out HO2.out HSL2.out (.inl ⟨rfl, rfl, by rw [HS2.out]⟩)
    · subst hkd
      obtain ⟨m, b, off, hm, hA, hb, c1, c2, c3, c4⟩ := m_cells (Reads.of_own HF0.out) hi
      have HMX := Kept.mk hm
      have HAX := Kept.mk hA
      rw [hA]
      have HB3 : Kept (Below w.heap.size w ((w.alloc (.cells #[.int .i64 1, .int .i64 n, .int .i64 q.kind, .int .i64 q.frm, .int .i64 q.to_, .int .i64 q.ep] 56)).alloc (.cells #[.int .i64 m.kind, .int .i64 m.frm, .int .i64 m.to_, .int .i64 m.ep] 39))) := ⟨HD0.out.alloc HD0.out.size _⟩
      have HC3 := Kept.mk (HH.out.new_ HB3.out)
      have HBM : Kept (Blk ((w.alloc (.cells #[.int .i64 1, .int .i64 n, .int .i64 q.kind, .int .i64 q.frm, .int .i64 q.to_, .int .i64 q.ep] 56)).alloc (.cells #[.int .i64 m.kind, .int .i64 m.frm, .int .i64 m.to_, .int .i64 m.ep] 39)) (w.heap.size + 1) 39 #[.int .i64 m.kind, .int .i64 m.frm, .int .i64 m.to_, .int .i64 m.ep]) := ⟨by have h9 := Blk.new (w.alloc (.cells #[.int .i64 1, .int .i64 n, .int .i64 q.kind, .int .i64 q.frm, .int .i64 q.to_, .int .i64 q.ep] 56)) 39 #[.int .i64 m.kind, .int .i64 m.frm, .int .i64 m.to_, .int .i64 m.ep]; rwa [World.size_alloc] at h9⟩
      have HF3 := Kept.mk (HF0.out.alloc (.cells #[.int .i64 m.kind, .int .i64 m.frm, .int .i64 m.to_, .int .i64 m.ep] 39))
      clear hm hA
      go_wp2_with (first | (go_at_call 61; refine (clone_c (some ⟨b, off, none⟩) fly.length kap (mcells fly) _ _ (by rw [← HAX.out]; exact Reads.of_own HF3.out) (Nat.le_refl _) (m_one _) (by omega)).mono ?_; rintro e wc ⟨Ac, kc, rfl, hoc, hbc⟩; obtain ⟨gc, rfl, hgc, hgl⟩ := own_some hoc (by omega); have HOC := Kept.mk hoc; have HCC := Kept.mk (HC3.out.new_ hbc); have HBC := Kept.mk (join HB3.out hbc); have hkc := own_cap hoc; have HMB := Kept.mk (hbc.block (w.heap.size + 1) (by simp)); have HOB := Kept.mk (hbc.block w.heap.size (by simp; omega)); have hzc2 : w.heap.size + 1 < wc.heap.size := (by have h9 := hbc.size; simp at h9; omega); have hgc2 : w.heap.size + 2 ≤ gc := (by simp at hgc; omega); clear hoc hbc) | (go_at_call 60; refine (del_c fly gc kc i _ _ HOC.out hi (by omega)).mono ?_; rintro e wd ⟨rfl, hrd, hod⟩; have HRD := Kept.mk hrd; have HOD := Kept.mk hod; have HCD := Kept.mk (HCC.out.only hod (fun g hg _ => by subst hg; obtain ⟨cs, hcs⟩ := own_blk HOC.out; exact ⟨_, cs, hcs, by decide, by decide, by decide, by decide⟩)); have hgd : gc < wd.heap.size := Nat.lt_of_lt_of_le hgl hod.size; have HMD := Kept.mk ((hod.block (w.heap.size + 1) hzc2 (fun e9 => by have e9 : w.heap.size + 1 = gc := e9; omega)).trans HMB.out); have HBD := Kept.mk ((hod.block w.heap.size (by omega) (fun e9 => by have e9 : w.heap.size = gc := e9; omega)).trans HOB.out); have e0 : wd.cell? ⟨w.heap.size, 0, none⟩ = some (.int .i64 1) := (World.cell?_of_block HBD.out).trans (((HBX.out.alloc _)).cell 0 rfl); have m0 : wd.cell? ⟨w.heap.size + 1, 0, none⟩ = some (.int .i64 m.kind) := (World.cell?_of_block HMD.out).trans (HBM.out.cell 0 rfl); have m1 : wd.cell? ⟨w.heap.size + 1, 1, none⟩ = some (.int .i64 m.frm) := (World.cell?_of_block HMD.out).trans (HBM.out.cell 1 rfl); have m2 : wd.cell? ⟨w.heap.size + 1, 2, none⟩ = some (.int .i64 m.to_) := (World.cell?_of_block HMD.out).trans (HBM.out.cell 2 rfl); have m3 : wd.cell? ⟨w.heap.size + 1, 3, none⟩ = some (.int .i64 m.ep) := (World.cell?_of_block HMD.out).trans (HBM.out.cell 3 rfl); have hzd : w.heap.size + 1 < wd.heap.size := (Nat.lt_of_lt_of_le hzc2 hod.size); clear hrd hod) | (go_at_call 18; refine (Receive_c _ L M m HCD.out HFI.out).mono ?_; rintro e w2 hu; obtain ⟨A2, k2, M2, rfl, hs2, hC2, ho2, hon2, hsl2⟩ := Upd2.get hu; have HS2 := Kept.mk hs2; have HC2 := Kept.mk hC2; have HR2 := Kept.mk (Reads.of_own ho2); have HO2 := Kept.mk hon2; have HSL2 := Kept.mk hsl2; clear hu hs2 hC2 ho2 hon2 hsl2))
      go_meet
      have hle : (fly.eraseIdx i).length = fly.length - 1 := by rw [List.length_eraseIdx, if_pos hi]
      have hns : ¬ SL L M gc := fun hs => by have := sl_lt HC3.out hs; simp at this; omega
      refine ⟨some ⟨gc, 0, none⟩, A2, kc, k2, fly.eraseIdx i, _, M2, by rw [hle], rfl, .inr (.inl ⟨i, m, HMX.out, .inl ⟨rfl, rfl, by rw [HS2.out]⟩⟩), HC2.out, ?_, HR2.out, ((OnlyP.of_below HBC.out _).step HOD.out (fun j hj he => by have he : j = gc := he; omega)).trans HO2.out, fun g hg => ?_, by rw [hle]; omega, hkc.2⟩
      · rw [hle]; exact (HRD.out.blk (HO2.out.block gc hgd hns)).more (by have := HO2.out.size; omega)
      · rcases HSL2.out g hg with h | h
        · exact .inl h
        · exact .inr (by omega)
    · subst hkd
      obtain ⟨m, b, off, hm, hA, hb, c1, c2, c3, c4⟩ := m_cells (Reads.of_own HF0.out) hi
      have HMX := Kept.mk hm
      have HAX := Kept.mk hA
      rw [hA]
      have HB3 : Kept (Below w.heap.size w ((w.alloc (.cells #[.int .i64 2, .int .i64 n, .int .i64 q.kind, .int .i64 q.frm, .int .i64 q.to_, .int .i64 q.ep] 56)).alloc (.cells #[.int .i64 m.kind, .int .i64 m.frm, .int .i64 m.to_, .int .i64 m.ep] 39))) := ⟨HD0.out.alloc HD0.out.size _⟩
      have HC3 := Kept.mk (HH.out.new_ HB3.out)
      have HBM : Kept (Blk ((w.alloc (.cells #[.int .i64 2, .int .i64 n, .int .i64 q.kind, .int .i64 q.frm, .int .i64 q.to_, .int .i64 q.ep] 56)).alloc (.cells #[.int .i64 m.kind, .int .i64 m.frm, .int .i64 m.to_, .int .i64 m.ep] 39)) (w.heap.size + 1) 39 #[.int .i64 m.kind, .int .i64 m.frm, .int .i64 m.to_, .int .i64 m.ep]) := ⟨by have h9 := Blk.new (w.alloc (.cells #[.int .i64 2, .int .i64 n, .int .i64 q.kind, .int .i64 q.frm, .int .i64 q.to_, .int .i64 q.ep] 56)) 39 #[.int .i64 m.kind, .int .i64 m.frm, .int .i64 m.to_, .int .i64 m.ep]; rwa [World.size_alloc] at h9⟩
      have HF3 := Kept.mk (HF0.out.alloc (.cells #[.int .i64 m.kind, .int .i64 m.frm, .int .i64 m.to_, .int .i64 m.ep] 39))
      clear hm hA
      go_wp2_with (go_at_call 18; refine (Receive_c _ L M m HC3.out HFI.out).mono ?_; rintro e w2 hu; obtain ⟨A2, k2, M2, rfl, hs2, hC2, ho2, hon2, hsl2⟩ := Upd2.get hu; have HS2 := Kept.mk hs2; have HC2 := Kept.mk hC2; have HR2 := Kept.mk (Reads.of_own ho2); have HO2 := Kept.mk hon2; have HSL2 := Kept.mk hsl2; clear hu hs2 hC2 ho2 hon2 hsl2)
      go_meet
      rw [← HAX.out]
      exact mid_same HC3.out HF3.out HB3.out HC2.out HR2.out HO2.out HSL2.out (.inr (.inl ⟨i, m, HMX.out, .inr (.inl ⟨rfl, rfl, by rw [HS2.out]⟩)⟩))
    · subst hkd
      obtain ⟨m, b, off, hm, hA, hb, c1, c2, c3, c4⟩ := m_cells (Reads.of_own HF0.out) hi
      have HMX := Kept.mk hm
      have HAX := Kept.mk hA
      rw [hA]
      have HB3 : Kept (Below w.heap.size w ((w.alloc (.cells #[.int .i64 3, .int .i64 n, .int .i64 q.kind, .int .i64 q.frm, .int .i64 q.to_, .int .i64 q.ep] 56)).alloc (.cells #[.int .i64 m.kind, .int .i64 m.frm, .int .i64 m.to_, .int .i64 m.ep] 39))) := ⟨HD0.out.alloc HD0.out.size _⟩
      have HC3 := Kept.mk (HH.out.new_ HB3.out)
      have HBM : Kept (Blk ((w.alloc (.cells #[.int .i64 3, .int .i64 n, .int .i64 q.kind, .int .i64 q.frm, .int .i64 q.to_, .int .i64 q.ep] 56)).alloc (.cells #[.int .i64 m.kind, .int .i64 m.frm, .int .i64 m.to_, .int .i64 m.ep] 39)) (w.heap.size + 1) 39 #[.int .i64 m.kind, .int .i64 m.frm, .int .i64 m.to_, .int .i64 m.ep]) := ⟨by have h9 := Blk.new (w.alloc (.cells #[.int .i64 3, .int .i64 n, .int .i64 q.kind, .int .i64 q.frm, .int .i64 q.to_, .int .i64 q.ep] 56)) 39 #[.int .i64 m.kind, .int .i64 m.frm, .int .i64 m.to_, .int .i64 m.ep]; rwa [World.size_alloc] at h9⟩
      have HF3 := Kept.mk (HF0.out.alloc (.cells #[.int .i64 m.kind, .int .i64 m.frm, .int .i64 m.to_, .int .i64 m.ep] 39))
      clear hm hA
      go_wp2_with (first | (go_at_call 61; refine (clone_c (some ⟨b, off, none⟩) fly.length kap (mcells fly) _ _ (by rw [← HAX.out]; exact Reads.of_own HF3.out) (Nat.le_refl _) (m_one _) (by omega)).mono ?_; rintro e wc ⟨Ac, kc, rfl, hoc, hbc⟩; obtain ⟨gc, rfl, hgc, hgl⟩ := own_some hoc (by omega); have HOC := Kept.mk hoc; have HCC := Kept.mk (HC3.out.new_ hbc); have HBC := Kept.mk (join HB3.out hbc); have hkc := own_cap hoc; have HMB := Kept.mk (hbc.block (w.heap.size + 1) (by simp)); have HOB := Kept.mk (hbc.block w.heap.size (by simp; omega)); have hzc2 : w.heap.size + 1 < wc.heap.size := (by have h9 := hbc.size; simp at h9; omega); have hgc2 : w.heap.size + 2 ≤ gc := (by simp at hgc; omega); clear hoc hbc) | (go_at_call 60; refine (del_c fly gc kc i _ _ HOC.out hi (by omega)).mono ?_; rintro e wd ⟨rfl, hrd, hod⟩; have HRD := Kept.mk hrd; have HOD := Kept.mk hod; have HCD := Kept.mk (HCC.out.only hod (fun g hg _ => by subst hg; obtain ⟨cs, hcs⟩ := own_blk HOC.out; exact ⟨_, cs, hcs, by decide, by decide, by decide, by decide⟩)); have hgd : gc < wd.heap.size := Nat.lt_of_lt_of_le hgl hod.size; have HMD := Kept.mk ((hod.block (w.heap.size + 1) hzc2 (fun e9 => by have e9 : w.heap.size + 1 = gc := e9; omega)).trans HMB.out); have HBD := Kept.mk ((hod.block w.heap.size (by omega) (fun e9 => by have e9 : w.heap.size = gc := e9; omega)).trans HOB.out); have e0 : wd.cell? ⟨w.heap.size, 0, none⟩ = some (.int .i64 3) := (World.cell?_of_block HBD.out).trans (((HBX.out.alloc _)).cell 0 rfl); have m0 : wd.cell? ⟨w.heap.size + 1, 0, none⟩ = some (.int .i64 m.kind) := (World.cell?_of_block HMD.out).trans (HBM.out.cell 0 rfl); have m1 : wd.cell? ⟨w.heap.size + 1, 1, none⟩ = some (.int .i64 m.frm) := (World.cell?_of_block HMD.out).trans (HBM.out.cell 1 rfl); have m2 : wd.cell? ⟨w.heap.size + 1, 2, none⟩ = some (.int .i64 m.to_) := (World.cell?_of_block HMD.out).trans (HBM.out.cell 2 rfl); have m3 : wd.cell? ⟨w.heap.size + 1, 3, none⟩ = some (.int .i64 m.ep) := (World.cell?_of_block HMD.out).trans (HBM.out.cell 3 rfl); have hzd : w.heap.size + 1 < wd.heap.size := (Nat.lt_of_lt_of_le hzc2 hod.size); clear hrd hod))
      go_meet
      have hle : (fly.eraseIdx i).length = fly.length - 1 := by rw [List.length_eraseIdx, if_pos hi]
      refine ⟨some ⟨gc, 0, none⟩, none, kc, 0, fly.eraseIdx i, [], M, by rw [hle], rfl, .inr (.inl ⟨i, m, HMX.out, .inr (.inr ⟨rfl, rfl, rfl⟩)⟩), HCD.out, by rw [hle]; exact HRD.out.more (by omega), Reads.none_, (OnlyP.of_below HBC.out _).step HOD.out (fun j hj he => by have he : j = gc := he; omega), sl_same, by rw [hle]; omega, hkc.2⟩
    · subst hkd
      go_wp2_with (go_at_call 19; refine (Drained_c _ L M n HC0.out HFI.out).mono ?_; rintro e w2 hu; obtain ⟨A2, k2, M2, rfl, hs2, hC2, ho2, hon2, hsl2⟩ := Upd2.get hu; have HS2 := Kept.mk hs2; have HC2 := Kept.mk hC2; have HR2 := Kept.mk (Reads.of_own ho2); have HO2 := Kept.mk hon2; have HSL2 := Kept.mk hsl2; clear hu hs2 hC2 ho2 hon2 hsl2)
      go_meet
      exact mid_same HC0.out HF0.out HD0.out HC2.out HR2.out HO2.out HSL2.out (.inr (.inr (.inl ⟨rfl, rfl, by rw [HS2.out]⟩)))
    · subst hkd
      go_wp2_with (go_at_call 23; refine (Repeat_c _ L M HC0.out HFI.out).mono ?_; rintro e w2 ⟨A2, k2, rfl, ho2, hb2⟩; have HR2 := Kept.mk (Reads.of_own ho2); have HB2 := Kept.mk hb2; clear ho2 hb2)
      go_meet
      exact mid_same HC0.out HF0.out HD0.out (HC0.out.new_ HB2.out) HR2.out (OnlyP.of_below HB2.out _) sl_same (.inr (.inr (.inr (.inl ⟨rfl, rfl, rfl⟩))))
    · obtain ⟨p0, -⟩ := z_no' (show kd ≠ 0 by omega)
      obtain ⟨p1, -⟩ := z_no' (show kd ≠ 1 by omega)
      obtain ⟨p2, -⟩ := z_no' (show kd ≠ 2 by omega)
      obtain ⟨p3, -⟩ := z_no' (show kd ≠ 3 by omega)
      obtain ⟨p4, -⟩ := z_no' (show kd ≠ 4 by omega)
      obtain ⟨p5, -⟩ := z_no' (show kd ≠ 5 by omega)
      go_wp2_with fail
      go_meet
      exact mid_same (l := []) HC0.out HF0.out HD0.out HC0.out Reads.none_ (OnlyP.refl _ _) sl_same (.inr (.inr (.inr (.inr ⟨hko, rfl, rfl⟩))))
  case rest =>
    obtain ⟨A1, A7, k1, k7, fly1, l, M1, rfl, rfl, hM, hC1, hr1, hr7, hon, hsl1, hk1, hk2⟩ := hcut
    obtain ⟨hll, hfl⟩ := hM.len hsl hp10
    have HM := Kept.mk hM
    have HC1 := Kept.mk hC1
    have HR1 := Kept.mk hr1
    have HR7 := Kept.mk hr7
    have HON := Kept.mk hon
    have HSL := Kept.mk hsl1
    unfold maxLen at hk2
    clear hM hC1 hr1 hr7 hon hsl1 hsl
    by_cases h120 : 120 < fly1.length
    · have HT : Kept ((fly1.take 120).length = 120) := ⟨by rw [List.length_take]; omega⟩
      have HRT := Kept.mk (HR1.out.take (k := 120) (by omega))
      rw [mcells_take] at HRT
      go_wp2_with (first | (go_at_call 61; refine (clone_c A1 120 k1 (mcells (fly1.take 120)) _ _ HRT.out (Nat.le_refl _) (m_one _) (by omega)).mono ?_; rintro e wc ⟨Ac, kc, rfl, hoc, hbc⟩; have HOC := Kept.mk hoc; have HBC := Kept.mk hbc; have HR7C := Kept.mk (HR7.out.new_ hbc); have hzc := hbc.size; clear hoc hbc) | (at_builtin; refine wpList_append_any _ rfl _ _ _ rfl _ 39 jj _ 4 32 Try.underlying40 hjj hy0 hy1 hy2 rfl (by omega) _ 120 _ rfl HOC.out _ A7 l.length k7 _ rfl HR7C.out (m_one _) (by unfold maxLen; omega) (by omega) hzc ?_; intro v' w4 ho hgw hat; obtain ⟨Av, kv, rfl⟩ := own_slice ho; have HO4 := Kept.mk ho; have HG4 := Kept.mk hgw; clear ho hgw hat))
      go_ret
      have hlen : (fly1.take 120 ++ l).length = 120 + l.length := by rw [List.length_append, HT.out]
      have hb4 := (HBC.out.grown HG4.out (Nat.le_trans (Nat.le_refl _) HBC.out.size) (fun j hj => (HOC.out.lt j hj).1))
      refine ⟨Av, kv, fly1.take 120 ++ l, M1, by rw [hlen]; rfl, .inl ⟨fly1, l, HM.out, rfl⟩, HC1.out.new_ hb4, ?_, HON.out.new hb4, HSL.out⟩
      rw [hlen, mcells_app]
      exact own_base HO4.out (Nat.zero_le _)
    · have HT : Kept (fly1.take 120 = fly1) := ⟨List.take_of_length_le (by omega)⟩
      go_wp2_with (first | (go_at_call 61; refine (clone_c A1 fly1.length k1 (mcells fly1) _ _ HR1.out (Nat.le_refl _) (m_one _) (by omega)).mono ?_; rintro e wc ⟨Ac, kc, rfl, hoc, hbc⟩; have HOC := Kept.mk hoc; have HBC := Kept.mk hbc; have HR7C := Kept.mk (HR7.out.new_ hbc); have hzc := hbc.size; clear hoc hbc) | (at_builtin; refine wpList_append_any _ rfl _ _ _ rfl _ 39 jj _ 4 32 Try.underlying40 hjj hy0 hy1 hy2 rfl (by omega) _ fly1.length _ rfl HOC.out _ A7 l.length k7 _ rfl HR7C.out (m_one _) (by unfold maxLen; omega) (by omega) hzc ?_; intro v' w4 ho hgw hat; obtain ⟨Av, kv, rfl⟩ := own_slice ho; have HO4 := Kept.mk ho; have HG4 := Kept.mk hgw; clear ho hgw hat))
      go_ret
      have hlen : (fly1.take 120 ++ l).length = fly1.length + l.length := by rw [HT.out, List.length_append]
      have hb4 := (HBC.out.grown HG4.out (Nat.le_trans (Nat.le_refl _) HBC.out.size) (fun j hj => (HOC.out.lt j hj).1))
      refine ⟨Av, kv, fly1.take 120 ++ l, M1, by rw [hlen]; rfl, .inl ⟨fly1, l, HM.out, rfl⟩, HC1.out.new_ hb4, ?_, HON.out.new hb4, HSL.out⟩
      rw [hlen, HT.out, mcells_app]
      exact own_base HO4.out (Nat.zero_le _)
theorem step_c (w : World) (L : Lay) (M : List Nm) (fly : List Mg) (A : Option Addr) (kap : Nat) (kd n : Int) (q : Mg) (h : ChAt w L M) (hfit : Fit (sns M)) (hf : w.ownsRow 0 39 4 (.slice A fly.length kap) fly.length (mcells fly)) (hp10 : L.P.length ≤ 10) (hfl0 : fly.length ≤ 1000) :
    Calls Try.prog 32 #[.pointer (some ⟨L.b, 0, none⟩), .slice A fly.length kap, .agg #[.int .i64 kd, .int .i64 n, .int .i64 q.kind, .int .i64 q.frm, .int .i64 q.to_, .int .i64 q.ep]] w (StepR w L M fly kd n) := by
  by_cases h0 : 0 < fly.length
  · exact step_f w L M fly A kap kd n q h hfit hf hp10 hfl0 h0
  · exact step_e w L M fly A kap kd n q h hfit hf hp10 hfl0 (List.length_eq_zero_iff.1 (by omega))
end Go.Proofs.Ytibmbhnpmfgclaa
