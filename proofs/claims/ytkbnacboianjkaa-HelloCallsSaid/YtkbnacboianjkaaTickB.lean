/- Hello: Tick's messages. -/
import Derived.Test.YtkbnacboianjkaaTick
namespace Go.Proofs.Ytkbnacboianjkaa
set_option linter.unusedVariables false
set_option linter.unusedSimpArgs false
open Go.RowKit
theorem own_blk_ne {w : World} {g : Nat} {t : TypeId} {cs : Array Value} {base : Nat} {e : TypeId} {size n : Nat} {v : Value} {xs : List Value} (h : w.ownsRow base e size v n xs) (hg : Blk w g t cs) (hne : e ≠ t) : v.ownBlock ≠ some g := by
  rcases h.2 with ⟨rfl, _⟩ | ⟨g', cap, cur, rfl, _, hh, _⟩
  · simp [Value.ownBlock]
  · intro he
    have : g' = g := by simpa [Value.ownBlock] using he
    subst this
    unfold Blk at hg
    rw [hg] at hh
    injection hh with hh
    injection hh with _ ht
    exact hne ht.symm
theorem info39 : (Try.prog.info? 39).map (fun i => (i.zero, i.size, i.bytes)) = some (some (.agg #[.int .i64 0, .int .i64 0, .int .i64 0, .int .i64 0]), 4, 32) := by kernel_rfl
def mcells (m : Msg) : List Value := [.int .i64 m.node, .int .i64 m.inc, .int .i64 m.port, .int .i64 m.heard]
def mflat : List Msg → List Value
  | [] => []
  | m :: ms => mcells m ++ mflat ms
theorem mflat_snoc (ms : List Msg) (m : Msg) : mflat (ms ++ [m]) = mflat ms ++ mcells m := by
  induction ms with
  | nil => simp [mflat]
  | cons a ms ih => simp [mflat, ih]
/-- The slice v is the call's own row of messages ms. -/
def Msgs (w : World) (base : Nat) (v : Value) (ms : List Msg) : Prop := w.ownsRow base 39 4 v ms.length (mflat ms)
theorem news2 (w : World) (o : Obj) (cs : Array Value) (t : TypeId) : ∀ j u, cs.toList[j]? = some u → ((w.alloc o).alloc (.cells cs t)).drew.cell? ((⟨w.heap.size + 1, 0, none⟩ : Addr).add j) = some u := by
  have h := World.news_of_block (w := ((w.alloc o).alloc (.cells cs t)).drew) (B := (w.alloc o).heap.size) (heap_alloc_new (w.alloc o) (.cells cs t))
  rwa [World.size_alloc] at h
theorem Blk.grown_ {w w' : World} {g : Nat} {t : TypeId} {cs : Array Value} {v : Value} (h : Blk w g t cs) (hg : w.grownBy w' v.ownBlock) (hne : v.ownBlock ≠ some g) : Blk w' g t cs := (hg.block g h.lt (Ne.symm hne)).trans h
theorem own_far {w : World} {base : Nat} {e : TypeId} {size n : Nat} {v : Value} {xs : List Value} (h : w.ownsRow base e size v n xs) {p : Addr} (hne : v.ownBlock ≠ some p.block) (u : Value) : (w.setCell p u).ownsRow base e size v n xs :=
  h.kept (row := some p.block) ⟨rfl, rfl, rfl, by simp [World.setCell], fun k hk hb => Below.heap_setCell _ _ _ _ (fun e => hb (by rw [e]))⟩ (.inr hne)
def Sent (w : World) (d base : Nat) (ms : List Msg) (v : Value) (e : Ending) (w' : World) : Prop :=
  e = .returned (.tuple #[]) ∧ ∃ v', Blk w' d 46 #[v'] ∧ Msgs w' base v' ms ∧ OnlyP (fun k => k = d ∨ v.ownBlock = some k) w w'
set_option maxHeartbeats 2000000 in
theorem send_c (t : Tb) (i : Nat) (p : Pt) (w : World) (b g c d base : Nat) (v : Value) (ms : List Msg) (h : Table w b g t) (hp : t.ports[i]? = some p) (hc : Blk w c 23 #[.pointer (some ⟨b, 0, none⟩)]) (hd : Blk w d 46 #[v]) (hown : Msgs w base v ms) (hl : ms.length ≤ 8) (hbase : base ≤ w.heap.size) :
    Calls Try.prog 28 #[.int .i64 (i : Int), .pointer (some ⟨g, i * 6, none⟩), .pointer (some ⟨c, 0, none⟩), .pointer (some ⟨d, 0, none⟩)] w (Sent w d base (ms ++ [⟨t.node, t.inc, i, heardOf p⟩]) v) := by
  obtain ⟨i0, hi, hz0, hz1, hz2⟩ := info_parts info39
  obtain ⟨h0, h1, h2, h3, h4, h5, h6⟩ := h.all
  obtain ⟨p0, p1, p2, p3, p4, p5⟩ := h.at_ hp
  have hlt := h.tab.lt
  have hlt2 := h.row.lt
  have hltc := hc.lt
  have hltd := hd.lt
  have c0 := hc.cell 0 (v := .pointer (some ⟨b, 0, none⟩)) rfl
  have d0 := hd.cell 0 (v := v) rfl
  have d1 := hd.free 0
  have n1 : w.heap.size ≠ b := by omega
  have n2 : w.heap.size ≠ g := by omega
  have n3 : w.heap.size ≠ c := by omega
  have n4 : w.heap.size ≠ d := by omega
  have n5 : b ≠ w.heap.size := by omega
  have n6 : c ≠ w.heap.size := by omega
  have n7 : d ≠ w.heap.size := by omega
  have n8 : g ≠ w.heap.size := by omega
  have hnd := own_blk_ne hown hd (by decide)
  have HD := hid hd
  have HO : Hid (w.ownsRow base 39 4 v ms.length (mflat ms)) := hid hown
  have HND := hid hnd
  clear h hp hc hd hown hnd h2 h3 h4 h5 h6
  have hs : ((p.state == 0) = true ∧ (p.state != 0) = false ∧ Hid (heardOf p = 0)) ∨ ((p.state == 0) = false ∧ (p.state != 0) = true ∧ Hid (heardOf p = p.last.inc)) := by
    rcases bool_int p.state 0 with ⟨s1, s2⟩ | ⟨s1, s2⟩
    · exact .inl ⟨s1, s2, by simp [Hid, heardOf, show p.state = 0 by simpa using s1]⟩
    · exact .inr ⟨s1, s2, by simp [Hid, heardOf, show ¬ p.state = 0 by simpa using s1]⟩
  rcases hs with ⟨s1, s2, E⟩ | ⟨s1, s2, E⟩
  · skip
    go_enter Try.func28, Try.ntmps28
    go_wp2_with fail
    refine wp_region_held_drew (S := (fun w' => w'.cell? ⟨c, 0, none⟩ = some (.pointer (some ⟨b, 0, none⟩)) ∧ w'.cell? ⟨b, 0, none⟩ = some (.int .i64 t.node) ∧ w'.cell? ⟨b, 1, none⟩ = some (.int .i64 t.inc))) (by kernel_rfl) (by (try dsimp only); (first | (go_keep; done) | (go_simp; done) | (simp [World.cell?_setCell_other, *]; done))) (fun hHeld => ?_)
    refine wpAnyH_take (i := 0) (v := ?_) rfl (by kernel_rfl) (by kernel_rfl) (by kernel_rfl) (fun _ _ _ h => h) (Or.inl ⟨by rfl, ?_⟩) (by assumption) ?_; rotate_left; (intro w hSw; (try dsimp only at hSw); go_simp; try (with_reducible rfl)); try simp only [Act.put, List.setIfInBounds_toArray, List.set_cons_zero, List.set_cons_succ, List.getElem_toArray, List.getElem_cons_succ, List.getElem_cons_zero]
    refine wpAnyH_take (i := 1) (v := ?_) rfl (by kernel_rfl) (by kernel_rfl) (by kernel_rfl) (fun _ _ _ h => h) (Or.inl ⟨by rfl, ?_⟩) (by assumption) ?_; rotate_left; (intro w hSw; (try dsimp only at hSw); go_simp; try (with_reducible rfl)); try simp only [Act.put, List.setIfInBounds_toArray, List.set_cons_zero, List.set_cons_succ, List.getElem_toArray, List.getElem_cons_succ, List.getElem_cons_zero]
    refine wpAnyH_take (i := 2) (v := ?_) rfl (by kernel_rfl) (by kernel_rfl) (by kernel_rfl) (fun _ _ _ h => h) (Or.inl ⟨by rfl, ?_⟩) (by assumption) ?_; rotate_left; (intro w hSw; (try dsimp only at hSw); go_simp; try (with_reducible rfl)); try simp only [Act.put, List.setIfInBounds_toArray, List.set_cons_zero, List.set_cons_succ, List.getElem_toArray, List.getElem_cons_succ, List.getElem_cons_zero]
    refine wpAnyH_take (i := 3) (v := ?_) rfl (by kernel_rfl) (by kernel_rfl) (by kernel_rfl) (fun _ _ _ h => h) (Or.inl ⟨by rfl, ?_⟩) (by assumption) ?_; rotate_left; (intro w hSw; (try dsimp only at hSw); go_simp; try (with_reducible rfl)); try simp only [Act.put, List.setIfInBounds_toArray, List.set_cons_zero, List.set_cons_succ, List.getElem_toArray, List.getElem_cons_succ, List.getElem_cons_zero]
    refine wpAnyH_take (i := 4) (v := ?_) rfl (by kernel_rfl) (by kernel_rfl) (by kernel_rfl) (fun _ _ _ h => h) (Or.inl ⟨by rfl, ?_⟩) (by assumption) ?_; rotate_left; (intro w hSw; (try dsimp only at hSw); go_simp; try (with_reducible rfl)); try simp only [Act.put, List.setIfInBounds_toArray, List.set_cons_zero, List.set_cons_succ, List.getElem_toArray, List.getElem_cons_succ, List.getElem_cons_zero]
    refine wpAnyH_take (i := 5) (v := ?_) rfl (by kernel_rfl) (by kernel_rfl) (by kernel_rfl) (fun _ _ _ h => h) (Or.inl ⟨by rfl, ?_⟩) (by assumption) ?_; rotate_left; (intro w hSw; (try dsimp only at hSw); go_simp; try (with_reducible rfl)); try simp only [Act.put, List.setIfInBounds_toArray, List.set_cons_zero, List.set_cons_succ, List.getElem_toArray, List.getElem_cons_succ, List.getElem_cons_zero]
    refine wpAnyH_take (i := 6) (v := ?_) rfl (by kernel_rfl) (by kernel_rfl) (by kernel_rfl) (fun _ _ _ h => h) (Or.inl ⟨by rfl, ?_⟩) (by assumption) ?_; rotate_left; (intro w hSw; (try dsimp only at hSw); go_simp; try (with_reducible rfl)); try simp only [Act.put, List.setIfInBounds_toArray, List.set_cons_zero, List.set_cons_succ, List.getElem_toArray, List.getElem_cons_succ, List.getElem_cons_zero]
    refine wpAnyH_take (i := 7) (v := ?_) rfl (by kernel_rfl) (by kernel_rfl) (by kernel_rfl) (fun _ _ _ h => h) (Or.inl ⟨by rfl, ?_⟩) (by assumption) ?_; rotate_left; (intro w hSw; (try dsimp only at hSw); go_simp; try (with_reducible rfl)); try simp only [Act.put, List.setIfInBounds_toArray, List.set_cons_zero, List.set_cons_succ, List.getElem_toArray, List.getElem_cons_succ, List.getElem_cons_zero]
    refine wpAnyH_take (i := 8) (v := ?_) rfl (by kernel_rfl) (by kernel_rfl) (by kernel_rfl) (fun _ _ _ h => h) (Or.inl ⟨by rfl, ?_⟩) (by assumption) ?_; rotate_left; (intro w hSw; (try dsimp only at hSw); go_simp; try (with_reducible rfl)); try simp only [Act.put, List.setIfInBounds_toArray, List.set_cons_zero, List.set_cons_succ, List.getElem_toArray, List.getElem_cons_succ, List.getElem_cons_zero]
    refine wpAnyH_take (i := 9) (v := ?_) rfl (by kernel_rfl) (by kernel_rfl) (by kernel_rfl) (fun _ _ _ h => h) (Or.inl ⟨by rfl, ?_⟩) (by assumption) ?_; rotate_left; (intro w hSw; (try dsimp only at hSw); go_simp; try (with_reducible rfl)); try simp only [Act.put, List.setIfInBounds_toArray, List.set_cons_zero, List.set_cons_succ, List.getElem_toArray, List.getElem_cons_succ, List.getElem_cons_zero]
    refine wpAnyH_ready (rs := [10]) (by kernel_rfl) (by simp) ?_; refine AllReadyH.cons rfl (fun K hK => ?_) AllReadyH.nil; go_simp
    refine hK.out _ _ (by (try dsimp only); (first | (go_keep; done) | (go_simp; done) | (simp [World.cell?_setCell_other, *]; done))) (fun hHeld => ?_); clear hK K; try simp only [Act.put, List.setIfInBounds_toArray, List.set_cons_zero, List.set_cons_succ, List.getElem_toArray, List.getElem_cons_succ, List.getElem_cons_zero]
    refine wpAnyH_ready (rs := [11]) (by kernel_rfl) (by simp) ?_; refine AllReadyH.cons rfl (fun K hK => ?_) AllReadyH.nil; go_simp
    refine hK.out _ _ (by (try dsimp only); (first | (go_keep; done) | (go_simp; done) | (simp [World.cell?_setCell_other, *]; done))) (fun hHeld => ?_); clear hK K; try simp only [Act.put, List.setIfInBounds_toArray, List.set_cons_zero, List.set_cons_succ, List.getElem_toArray, List.getElem_cons_succ, List.getElem_cons_zero]
    refine wpAnyH_done (by kernel_rfl) ?_ _
    go_wp2_with (at_builtin; refine wpList_append_lies _ rfl _ _ 46 rfl base 39 i0 (.agg #[.int .i64 0, .int .i64 0, .int .i64 0, .int .i64 0]) 4 32 Try.underlying46 hi hz0 hz1 hz2 rfl (by decide) _ _ _ rfl (((HO.out.alloc _).alloc _).drew) ⟨w.heap.size + 1, 0, none⟩ 1 1 [.int .i64 t.node, .int .i64 t.inc, .int .i64 (i : Int), .int .i64 0] rfl rfl (news2 _ _ #[.int .i64 t.node, .int .i64 t.inc, .int .i64 (i : Int), .int .i64 0] _) (fun x hx => by simp at hx; rcases hx with rfl | rfl | rfl | rfl <;> rfl) (by omega) (by unfold maxLen; omega) (by omega) (by simp; omega) (w.heap.size + 2) (by simp) ?_; intro g' cap' w1 hown1 hgrow1 hat1 hlt1; have hD1 : Blk w1 d 46 #[v] := (((HD.out.alloc _).alloc _).drew).grown_ hgrow1 HND.out; have e0 := hD1.cell 0 (v := v) rfl; have e1 := hD1.free 0)
    go_end0
    refine ⟨rfl, _, hD1.to 0 _ rfl, ?_, (((((OnlyP.refl _ _).alloc _).alloc _).drew).grown hgrow1 (fun g hg => .inl (.inr hg))).set (.inl (.inl rfl)) _⟩
    unfold Msgs
    rw [mflat_snoc, E.out, List.length_append]
    refine own_far hown1 ?_ _
    exact own_blk_ne hown1 hD1 (by decide)
  · skip
    go_enter Try.func28, Try.ntmps28
    go_wp2_with fail
    refine wp_region_held_drew (S := (fun w' => w'.cell? ⟨c, 0, none⟩ = some (.pointer (some ⟨b, 0, none⟩)) ∧ w'.cell? ⟨b, 0, none⟩ = some (.int .i64 t.node) ∧ w'.cell? ⟨b, 1, none⟩ = some (.int .i64 t.inc))) (by kernel_rfl) (by (try dsimp only); (first | (go_keep; done) | (go_simp; done) | (simp [World.cell?_setCell_other, *]; done))) (fun hHeld => ?_)
    refine wpAnyH_take (i := 0) (v := ?_) rfl (by kernel_rfl) (by kernel_rfl) (by kernel_rfl) (fun _ _ _ h => h) (Or.inl ⟨by rfl, ?_⟩) (by assumption) ?_; rotate_left; (intro w hSw; (try dsimp only at hSw); go_simp; try (with_reducible rfl)); try simp only [Act.put, List.setIfInBounds_toArray, List.set_cons_zero, List.set_cons_succ, List.getElem_toArray, List.getElem_cons_succ, List.getElem_cons_zero]
    refine wpAnyH_take (i := 1) (v := ?_) rfl (by kernel_rfl) (by kernel_rfl) (by kernel_rfl) (fun _ _ _ h => h) (Or.inl ⟨by rfl, ?_⟩) (by assumption) ?_; rotate_left; (intro w hSw; (try dsimp only at hSw); go_simp; try (with_reducible rfl)); try simp only [Act.put, List.setIfInBounds_toArray, List.set_cons_zero, List.set_cons_succ, List.getElem_toArray, List.getElem_cons_succ, List.getElem_cons_zero]
    refine wpAnyH_take (i := 2) (v := ?_) rfl (by kernel_rfl) (by kernel_rfl) (by kernel_rfl) (fun _ _ _ h => h) (Or.inl ⟨by rfl, ?_⟩) (by assumption) ?_; rotate_left; (intro w hSw; (try dsimp only at hSw); go_simp; try (with_reducible rfl)); try simp only [Act.put, List.setIfInBounds_toArray, List.set_cons_zero, List.set_cons_succ, List.getElem_toArray, List.getElem_cons_succ, List.getElem_cons_zero]
    refine wpAnyH_take (i := 3) (v := ?_) rfl (by kernel_rfl) (by kernel_rfl) (by kernel_rfl) (fun _ _ _ h => h) (Or.inl ⟨by rfl, ?_⟩) (by assumption) ?_; rotate_left; (intro w hSw; (try dsimp only at hSw); go_simp; try (with_reducible rfl)); try simp only [Act.put, List.setIfInBounds_toArray, List.set_cons_zero, List.set_cons_succ, List.getElem_toArray, List.getElem_cons_succ, List.getElem_cons_zero]
    refine wpAnyH_take (i := 4) (v := ?_) rfl (by kernel_rfl) (by kernel_rfl) (by kernel_rfl) (fun _ _ _ h => h) (Or.inl ⟨by rfl, ?_⟩) (by assumption) ?_; rotate_left; (intro w hSw; (try dsimp only at hSw); go_simp; try (with_reducible rfl)); try simp only [Act.put, List.setIfInBounds_toArray, List.set_cons_zero, List.set_cons_succ, List.getElem_toArray, List.getElem_cons_succ, List.getElem_cons_zero]
    refine wpAnyH_take (i := 5) (v := ?_) rfl (by kernel_rfl) (by kernel_rfl) (by kernel_rfl) (fun _ _ _ h => h) (Or.inl ⟨by rfl, ?_⟩) (by assumption) ?_; rotate_left; (intro w hSw; (try dsimp only at hSw); go_simp; try (with_reducible rfl)); try simp only [Act.put, List.setIfInBounds_toArray, List.set_cons_zero, List.set_cons_succ, List.getElem_toArray, List.getElem_cons_succ, List.getElem_cons_zero]
    refine wpAnyH_take (i := 6) (v := ?_) rfl (by kernel_rfl) (by kernel_rfl) (by kernel_rfl) (fun _ _ _ h => h) (Or.inl ⟨by rfl, ?_⟩) (by assumption) ?_; rotate_left; (intro w hSw; (try dsimp only at hSw); go_simp; try (with_reducible rfl)); try simp only [Act.put, List.setIfInBounds_toArray, List.set_cons_zero, List.set_cons_succ, List.getElem_toArray, List.getElem_cons_succ, List.getElem_cons_zero]
    refine wpAnyH_take (i := 7) (v := ?_) rfl (by kernel_rfl) (by kernel_rfl) (by kernel_rfl) (fun _ _ _ h => h) (Or.inl ⟨by rfl, ?_⟩) (by assumption) ?_; rotate_left; (intro w hSw; (try dsimp only at hSw); go_simp; try (with_reducible rfl)); try simp only [Act.put, List.setIfInBounds_toArray, List.set_cons_zero, List.set_cons_succ, List.getElem_toArray, List.getElem_cons_succ, List.getElem_cons_zero]
    refine wpAnyH_take (i := 8) (v := ?_) rfl (by kernel_rfl) (by kernel_rfl) (by kernel_rfl) (fun _ _ _ h => h) (Or.inl ⟨by rfl, ?_⟩) (by assumption) ?_; rotate_left; (intro w hSw; (try dsimp only at hSw); go_simp; try (with_reducible rfl)); try simp only [Act.put, List.setIfInBounds_toArray, List.set_cons_zero, List.set_cons_succ, List.getElem_toArray, List.getElem_cons_succ, List.getElem_cons_zero]
    refine wpAnyH_take (i := 9) (v := ?_) rfl (by kernel_rfl) (by kernel_rfl) (by kernel_rfl) (fun _ _ _ h => h) (Or.inl ⟨by rfl, ?_⟩) (by assumption) ?_; rotate_left; (intro w hSw; (try dsimp only at hSw); go_simp; try (with_reducible rfl)); try simp only [Act.put, List.setIfInBounds_toArray, List.set_cons_zero, List.set_cons_succ, List.getElem_toArray, List.getElem_cons_succ, List.getElem_cons_zero]
    refine wpAnyH_ready (rs := [10]) (by kernel_rfl) (by simp) ?_; refine AllReadyH.cons rfl (fun K hK => ?_) AllReadyH.nil; go_simp
    refine hK.out _ _ (by (try dsimp only); (first | (go_keep; done) | (go_simp; done) | (simp [World.cell?_setCell_other, *]; done))) (fun hHeld => ?_); clear hK K; try simp only [Act.put, List.setIfInBounds_toArray, List.set_cons_zero, List.set_cons_succ, List.getElem_toArray, List.getElem_cons_succ, List.getElem_cons_zero]
    refine wpAnyH_ready (rs := [11]) (by kernel_rfl) (by simp) ?_; refine AllReadyH.cons rfl (fun K hK => ?_) AllReadyH.nil; go_simp
    refine hK.out _ _ (by (try dsimp only); (first | (go_keep; done) | (go_simp; done) | (simp [World.cell?_setCell_other, *]; done))) (fun hHeld => ?_); clear hK K; try simp only [Act.put, List.setIfInBounds_toArray, List.set_cons_zero, List.set_cons_succ, List.getElem_toArray, List.getElem_cons_succ, List.getElem_cons_zero]
    refine wpAnyH_done (by kernel_rfl) ?_ _
    go_wp2_with (at_builtin; refine wpList_append_lies _ rfl _ _ 46 rfl base 39 i0 (.agg #[.int .i64 0, .int .i64 0, .int .i64 0, .int .i64 0]) 4 32 Try.underlying46 hi hz0 hz1 hz2 rfl (by decide) _ _ _ rfl (((HO.out.alloc _).alloc _).drew) ⟨w.heap.size + 1, 0, none⟩ 1 1 [.int .i64 t.node, .int .i64 t.inc, .int .i64 (i : Int), .int .i64 p.last.inc] rfl rfl (news2 _ _ #[.int .i64 t.node, .int .i64 t.inc, .int .i64 (i : Int), .int .i64 p.last.inc] _) (fun x hx => by simp at hx; rcases hx with rfl | rfl | rfl | rfl <;> rfl) (by omega) (by unfold maxLen; omega) (by omega) (by simp; omega) (w.heap.size + 2) (by simp) ?_; intro g' cap' w1 hown1 hgrow1 hat1 hlt1; have hD1 : Blk w1 d 46 #[v] := (((HD.out.alloc _).alloc _).drew).grown_ hgrow1 HND.out; have e0 := hD1.cell 0 (v := v) rfl; have e1 := hD1.free 0)
    go_end0
    refine ⟨rfl, _, hD1.to 0 _ rfl, ?_, (((((OnlyP.refl _ _).alloc _).alloc _).drew).grown hgrow1 (fun g hg => .inl (.inr hg))).set (.inl (.inl rfl)) _⟩
    unfold Msgs
    rw [mflat_snoc, E.out, List.length_append]
    refine own_far hown1 ?_ _
    exact own_blk_ne hown1 hD1 (by decide)

end Go.Proofs.Ytkbnacboianjkaa
