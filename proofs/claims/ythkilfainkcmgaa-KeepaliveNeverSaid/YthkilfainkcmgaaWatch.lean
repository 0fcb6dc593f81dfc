/- Keepalive: a watch as plain data, how it lies in memory, and what its methods do to it. -/
import Derived.Test.YthkilfainkcmgaaWait
namespace Go.Proofs.Ythkilfainkcmgaa
set_option linter.unusedVariables false
set_option linter.unusedSimpArgs false
open Go.RowKit
structure St where
  every : Int
  dead : Int
  now : Int
  begun : Bool
  sent : Int
  any : Bool
  last : Int
  alarmed : Bool
  alarms : Int
def wc (s : St) : Array Value := #[.int .i64 s.every, .int .i64 s.dead, .int .i64 s.now, .bool s.begun, .int .i64 s.sent, .bool (s.begun || s.any), .int .i64 s.last, .bool s.alarmed, .int .i64 s.alarms]
def rc (s : St) : Array Value := #[.int .i64 s.every, .int .i64 s.dead, .int .i64 s.now, .int .i64 s.sent, .int .i64 s.last, .bool s.begun, .bool s.any, .bool s.alarmed, .int .i64 s.alarms]
def lastT (s : St) (n : Int) : Int := if (s.begun || s.any) = true then s.last else max s.now n
def sendT (s : St) (n : Int) : Bool := !s.begun || decide (s.every ≤ max s.now n - s.sent)
def alarmT (s : St) (n : Int) : Bool := !s.alarmed && decide (s.dead < max s.now n - lastT s n)
def tick (s : St) (n : Int) : St :=
  { s with now := max s.now n, last := lastT s n, sent := if sendT s n then max s.now n else s.sent, begun := true, alarmed := s.alarmed || alarmT s n, alarms := s.alarms + if alarmT s n then 1 else 0 }
def heard (s : St) (n : Int) : St := { s with now := max s.now n, last := max s.now n, any := true, alarmed := false }
structure Fit (s : St) : Prop where
  now0 : 0 ≤ s.now
  now1 : s.now ≤ 17179869184
  sent0 : 0 ≤ s.sent
  sent1 : s.sent ≤ 17179869184
  last0 : 0 ≤ s.last
  last1 : s.last ≤ 17179869184
  al0 : 0 ≤ s.alarms
  al1 : s.alarms ≤ 1000000
theorem Blk.cast {w : World} {g : Nat} {t : TypeId} {cs cs' : Array Value} (h : Blk w g t cs) (e : cs = cs') : Blk w g t cs' := e ▸ h
theorem OnlyP.setb {b o : Nat} {w w1 : World} {u : Value} (h : OnlyP (fun x => x = b) w w1) : OnlyP (fun x => x = b) w (w1.setCell ⟨b, o, none⟩ u) := h.set (p := ⟨b, o, none⟩) (.inl rfl) u
def Ticks (w : World) (b : Nat) (s : St) (n : Int) (e : Ending) (w' : World) : Prop :=
  e = .returned (.tuple #[.bool (sendT s n), .bool (alarmT s n)]) ∧ Blk w' b 59 (wc (tick s n)) ∧ OnlyP (· = b) w w'
set_option maxHeartbeats 8000000 in
theorem tick_c (s : St) (n : Int) (w : World) (b : Nat) (h : Blk w b 59 (wc s)) (hf : Fit s) (n0 : 0 ≤ n) (n1 : n ≤ 17179869184) :
    Calls Try.prog 15 #[.pointer (some ⟨b, 0, none⟩), .int .i64 n] w (Ticks w b s n) := by
  obtain ⟨f1, f2, f3, f4, f5, f6, f7, f8⟩ := hf
  have c0 := h.cell 0 (v := .int .i64 s.every) rfl
  have c1 := h.cell 1 (v := .int .i64 s.dead) rfl
  have c2 := h.cell 2 (v := .int .i64 s.now) rfl
  have c3 := h.cell 3 (v := .bool s.begun) rfl
  have c4 := h.cell 4 (v := .int .i64 s.sent) rfl
  have c5 := h.cell 5 (v := .bool (s.begun || s.any)) rfl
  have c6 := h.cell 6 (v := .int .i64 s.last) rfl
  have c7 := h.cell 7 (v := .bool s.alarmed) rfl
  have c8 := h.cell 8 (v := .int .i64 s.alarms) rfl
  have z2 := h.free 2
  have z3 := h.free 3
  have z4 := h.free 4
  have z5 := h.free 5
  have z6 := h.free 6
  have z7 := h.free 7
  have z8 := h.free 8
  have hlt := h.lt
  have HB := Kept.mk h
  clear h
  obtain ⟨every, dead, now, begun, sent, any, last, alarmed, alarms⟩ := s
  simp only at f1 f2 f3 f4 f5 f6 f7 f8 c0 c1 c2 c3 c4 c5 c6 c7 c8
  rcases (by omega : (now < n ∧ max now n = n) ∨ (n ≤ now ∧ max now n = now)) with ⟨hmn, hm⟩ | ⟨hmn, hm⟩
  · have HM := Kept.mk hm
    clear hm
    cases begun with
    | false =>
      cases any with
      | false =>
        cases alarmed with
        | true =>
          have SE := Kept.mk (show sendT ⟨every, dead, now, false, sent, false, last, true, alarms⟩ n = true by simp only [sendT, HM.out]; simp)
          have LE := Kept.mk (show lastT ⟨every, dead, now, false, sent, false, last, true, alarms⟩ n = n by simp [lastT, HM.out])
          have AE := Kept.mk (show alarmT ⟨every, dead, now, false, sent, false, last, true, alarms⟩ n = false by simp only [alarmT, HM.out, LE.out]; simp)
          have HT := Kept.mk (show wc (tick ⟨every, dead, now, false, sent, false, last, true, alarms⟩ n) = #[.int .i64 every, .int .i64 dead, .int .i64 n, .bool true, .int .i64 n, .bool true, .int .i64 n, .bool true, .int .i64 alarms] by simp [wc, tick, SE.out, AE.out, LE.out, HM.out])
          go_enter Try.func15, Try.ntmps15
          go_wp2_with fail
          go_quiet (fail)
          go_wp2_with fail
          go_quiet (fail)
          go_wp2_with fail
          go_ret2
          exact ⟨by rw [SE.out, AE.out] <;> rfl, by rw [HT.out]; exact Blk.cast (by with_reducible repeat (first | exact HB.out | apply Blk.drewN | apply Blk.drew | apply Blk.set_)) (by rfl), by with_reducible repeat (first | exact OnlyP.refl _ _ | apply OnlyP.drewN | apply OnlyP.drew | apply OnlyP.setb)⟩
        | false =>
          by_cases ha : dead < n - n
          · have SE := Kept.mk (show sendT ⟨every, dead, now, false, sent, false, last, false, alarms⟩ n = true by simp only [sendT, HM.out]; simp)
            have LE := Kept.mk (show lastT ⟨every, dead, now, false, sent, false, last, false, alarms⟩ n = n by simp [lastT, HM.out])
            have AE := Kept.mk (show alarmT ⟨every, dead, now, false, sent, false, last, false, alarms⟩ n = true by simp only [alarmT, HM.out, LE.out]; simp; omega)
            have HT := Kept.mk (show wc (tick ⟨every, dead, now, false, sent, false, last, false, alarms⟩ n) = #[.int .i64 every, .int .i64 dead, .int .i64 n, .bool true, .int .i64 n, .bool true, .int .i64 n, .bool true, .int .i64 (alarms + 1)] by simp [wc, tick, SE.out, AE.out, LE.out, HM.out])
            have w2 : IntKind.i64.wrap (n - n) = n - n := IntWalk.i64_in _ (by omega)
            go_enter Try.func15, Try.ntmps15
            go_wp2_with fail
            go_quiet (fail)
            go_wp2_with fail
            go_quiet (fail)
            go_wp2_with fail
            go_ret2
            exact ⟨by rw [SE.out, AE.out] <;> rfl, by rw [HT.out]; exact Blk.cast (by with_reducible repeat (first | exact HB.out | apply Blk.drewN | apply Blk.drew | apply Blk.set_)) (by rfl), by with_reducible repeat (first | exact OnlyP.refl _ _ | apply OnlyP.drewN | apply OnlyP.drew | apply OnlyP.setb)⟩
          · have SE := Kept.mk (show sendT ⟨every, dead, now, false, sent, false, last, false, alarms⟩ n = true by simp only [sendT, HM.out]; simp)
            have LE := Kept.mk (show lastT ⟨every, dead, now, false, sent, false, last, false, alarms⟩ n = n by simp [lastT, HM.out])
            have AE := Kept.mk (show alarmT ⟨every, dead, now, false, sent, false, last, false, alarms⟩ n = false by simp only [alarmT, HM.out, LE.out]; simp; omega)
            have HT := Kept.mk (show wc (tick ⟨every, dead, now, false, sent, false, last, false, alarms⟩ n) = #[.int .i64 every, .int .i64 dead, .int .i64 n, .bool true, .int .i64 n, .bool true, .int .i64 n, .bool false, .int .i64 alarms] by simp [wc, tick, SE.out, AE.out, LE.out, HM.out])
            have w2 : IntKind.i64.wrap (n - n) = n - n := IntWalk.i64_in _ (by omega)
            go_enter Try.func15, Try.ntmps15
            go_wp2_with fail
            go_quiet (fail)
            go_wp2_with fail
            go_quiet (fail)
            go_wp2_with fail
            go_ret2
            exact ⟨by rw [SE.out, AE.out] <;> rfl, by rw [HT.out]; exact Blk.cast (by with_reducible repeat (first | exact HB.out | apply Blk.drewN | apply Blk.drew | apply Blk.set_)) (by rfl), by with_reducible repeat (first | exact OnlyP.refl _ _ | apply OnlyP.drewN | apply OnlyP.drew | apply OnlyP.setb)⟩
      | true =>
        cases alarmed with
        | true =>
          have SE := Kept.mk (show sendT ⟨every, dead, now, false, sent, true, last, true, alarms⟩ n = true by simp only [sendT, HM.out]; simp)
          have LE := Kept.mk (show lastT ⟨every, dead, now, false, sent, true, last, true, alarms⟩ n = last by simp [lastT])
          have AE := Kept.mk (show alarmT ⟨every, dead, now, false, sent, true, last, true, alarms⟩ n = false by simp only [alarmT, HM.out, LE.out]; simp)
          have HT := Kept.mk (show wc (tick ⟨every, dead, now, false, sent, true, last, true, alarms⟩ n) = #[.int .i64 every, .int .i64 dead, .int .i64 n, .bool true, .int .i64 n, .bool true, .int .i64 last, .bool true, .int .i64 alarms] by simp [wc, tick, SE.out, AE.out, LE.out, HM.out])
          go_enter Try.func15, Try.ntmps15
          go_wp2_with fail
          go_quiet (fail)
          go_wp2_with fail
          go_quiet (fail)
          go_wp2_with fail
          go_ret2
          exact ⟨by rw [SE.out, AE.out] <;> rfl, by rw [HT.out]; exact Blk.cast (by with_reducible repeat (first | exact HB.out | apply Blk.drewN | apply Blk.drew | apply Blk.set_)) (by rfl), by with_reducible repeat (first | exact OnlyP.refl _ _ | apply OnlyP.drewN | apply OnlyP.drew | apply OnlyP.setb)⟩
        | false =>
          by_cases ha : dead < n - last
          · have SE := Kept.mk (show sendT ⟨every, dead, now, false, sent, true, last, false, alarms⟩ n = true by simp only [sendT, HM.out]; simp)
            have LE := Kept.mk (show lastT ⟨every, dead, now, false, sent, true, last, false, alarms⟩ n = last by simp [lastT])
            have AE := Kept.mk (show alarmT ⟨every, dead, now, false, sent, true, last, false, alarms⟩ n = true by simp only [alarmT, HM.out, LE.out]; simp; omega)
            have HT := Kept.mk (show wc (tick ⟨every, dead, now, false, sent, true, last, false, alarms⟩ n) = #[.int .i64 every, .int .i64 dead, .int .i64 n, .bool true, .int .i64 n, .bool true, .int .i64 last, .bool true, .int .i64 (alarms + 1)] by simp [wc, tick, SE.out, AE.out, LE.out, HM.out])
            have w2 : IntKind.i64.wrap (n - last) = n - last := IntWalk.i64_in _ (by omega)
            go_enter Try.func15, Try.ntmps15
            go_wp2_with fail
            go_quiet (fail)
            go_wp2_with fail
            go_quiet (fail)
            go_wp2_with fail
            go_ret2
            exact ⟨by rw [SE.out, AE.out] <;> rfl, by rw [HT.out]; exact Blk.cast (by with_reducible repeat (first | exact HB.out | apply Blk.drewN | apply Blk.drew | apply Blk.set_)) (by rfl), by with_reducible repeat (first | exact OnlyP.refl _ _ | apply OnlyP.drewN | apply OnlyP.drew | apply OnlyP.setb)⟩
          · have SE := Kept.mk (show sendT ⟨every, dead, now, false, sent, true, last, false, alarms⟩ n = true by simp only [sendT, HM.out]; simp)
            have LE := Kept.mk (show lastT ⟨every, dead, now, false, sent, true, last, false, alarms⟩ n = last by simp [lastT])
            have AE := Kept.mk (show alarmT ⟨every, dead, now, false, sent, true, last, false, alarms⟩ n = false by simp only [alarmT, HM.out, LE.out]; simp; omega)
            have HT := Kept.mk (show wc (tick ⟨every, dead, now, false, sent, true, last, false, alarms⟩ n) = #[.int .i64 every, .int .i64 dead, .int .i64 n, .bool true, .int .i64 n, .bool true, .int .i64 last, .bool false, .int .i64 alarms] by simp [wc, tick, SE.out, AE.out, LE.out, HM.out])
            have w2 : IntKind.i64.wrap (n - last) = n - last := IntWalk.i64_in _ (by omega)
            go_enter Try.func15, Try.ntmps15
            go_wp2_with fail
            go_quiet (fail)
            go_wp2_with fail
            go_quiet (fail)
            go_wp2_with fail
            go_ret2
            exact ⟨by rw [SE.out, AE.out] <;> rfl, by rw [HT.out]; exact Blk.cast (by with_reducible repeat (first | exact HB.out | apply Blk.drewN | apply Blk.drew | apply Blk.set_)) (by rfl), by with_reducible repeat (first | exact OnlyP.refl _ _ | apply OnlyP.drewN | apply OnlyP.drew | apply OnlyP.setb)⟩
    | true =>
      by_cases hs : every ≤ n - sent
      · cases alarmed with
        | true =>
          have SE := Kept.mk (show sendT ⟨every, dead, now, true, sent, any, last, true, alarms⟩ n = true by simp only [sendT, HM.out]; simp; omega)
          have LE := Kept.mk (show lastT ⟨every, dead, now, true, sent, any, last, true, alarms⟩ n = last by simp [lastT])
          have AE := Kept.mk (show alarmT ⟨every, dead, now, true, sent, any, last, true, alarms⟩ n = false by simp only [alarmT, HM.out, LE.out]; simp)
          have HT := Kept.mk (show wc (tick ⟨every, dead, now, true, sent, any, last, true, alarms⟩ n) = #[.int .i64 every, .int .i64 dead, .int .i64 n, .bool true, .int .i64 n, .bool true, .int .i64 last, .bool true, .int .i64 alarms] by simp [wc, tick, SE.out, AE.out, LE.out, HM.out])
          have w1 : IntKind.i64.wrap (n - sent) = n - sent := IntWalk.i64_in _ (by omega)
          go_enter Try.func15, Try.ntmps15
          go_wp2_with fail
          go_quiet (fail)
          go_wp2_with fail
          go_quiet (fail)
          go_wp2_with fail
          go_ret2
          exact ⟨by rw [SE.out, AE.out] <;> rfl, by rw [HT.out]; exact Blk.cast (by with_reducible repeat (first | exact HB.out | apply Blk.drewN | apply Blk.drew | apply Blk.set_)) (by rfl), by with_reducible repeat (first | exact OnlyP.refl _ _ | apply OnlyP.drewN | apply OnlyP.drew | apply OnlyP.setb)⟩
        | false =>
          by_cases ha : dead < n - last
          · have SE := Kept.mk (show sendT ⟨every, dead, now, true, sent, any, last, false, alarms⟩ n = true by simp only [sendT, HM.out]; simp; omega)
            have LE := Kept.mk (show lastT ⟨every, dead, now, true, sent, any, last, false, alarms⟩ n = last by simp [lastT])
            have AE := Kept.mk (show alarmT ⟨every, dead, now, true, sent, any, last, false, alarms⟩ n = true by simp only [alarmT, HM.out, LE.out]; simp; omega)
            have HT := Kept.mk (show wc (tick ⟨every, dead, now, true, sent, any, last, false, alarms⟩ n) = #[.int .i64 every, .int .i64 dead, .int .i64 n, .bool true, .int .i64 n, .bool true, .int .i64 last, .bool true, .int .i64 (alarms + 1)] by simp [wc, tick, SE.out, AE.out, LE.out, HM.out])
            have w1 : IntKind.i64.wrap (n - sent) = n - sent := IntWalk.i64_in _ (by omega)
            have w2 : IntKind.i64.wrap (n - last) = n - last := IntWalk.i64_in _ (by omega)
            go_enter Try.func15, Try.ntmps15
            go_wp2_with fail
            go_quiet (fail)
            go_wp2_with fail
            go_quiet (fail)
            go_wp2_with fail
            go_ret2
            exact ⟨by rw [SE.out, AE.out] <;> rfl, by rw [HT.out]; exact Blk.cast (by with_reducible repeat (first | exact HB.out | apply Blk.drewN | apply Blk.drew | apply Blk.set_)) (by rfl), by with_reducible repeat (first | exact OnlyP.refl _ _ | apply OnlyP.drewN | apply OnlyP.drew | apply OnlyP.setb)⟩
          · have SE := Kept.mk (show sendT ⟨every, dead, now, true, sent, any, last, false, alarms⟩ n = true by simp only [sendT, HM.out]; simp; omega)
            have LE := Kept.mk (show lastT ⟨every, dead, now, true, sent, any, last, false, alarms⟩ n = last by simp [lastT])
            have AE := Kept.mk (show alarmT ⟨every, dead, now, true, sent, any, last, false, alarms⟩ n = false by simp only [alarmT, HM.out, LE.out]; simp; omega)
            have HT := Kept.mk (show wc (tick ⟨every, dead, now, true, sent, any, last, false, alarms⟩ n) = #[.int .i64 every, .int .i64 dead, .int .i64 n, .bool true, .int .i64 n, .bool true, .int .i64 last, .bool false, .int .i64 alarms] by simp [wc, tick, SE.out, AE.out, LE.out, HM.out])
            have w1 : IntKind.i64.wrap (n - sent) = n - sent := IntWalk.i64_in _ (by omega)
            have w2 : IntKind.i64.wrap (n - last) = n - last := IntWalk.i64_in _ (by omega)
            go_enter Try.func15, Try.ntmps15
            go_wp2_with fail
            go_quiet (fail)
            go_wp2_with fail
            go_quiet (fail)
            go_wp2_with fail
            go_ret2
            exact ⟨by rw [SE.out, AE.out] <;> rfl, by rw [HT.out]; exact Blk.cast (by with_reducible repeat (first | exact HB.out | apply Blk.drewN | apply Blk.drew | apply Blk.set_)) (by rfl), by with_reducible repeat (first | exact OnlyP.refl _ _ | apply OnlyP.drewN | apply OnlyP.drew | apply OnlyP.setb)⟩
      · cases alarmed with
        | true =>
          have SE := Kept.mk (show sendT ⟨every, dead, now, true, sent, any, last, true, alarms⟩ n = false by simp only [sendT, HM.out]; simp; omega)
          have LE := Kept.mk (show lastT ⟨every, dead, now, true, sent, any, last, true, alarms⟩ n = last by simp [lastT])
          have AE := Kept.mk (show alarmT ⟨every, dead, now, true, sent, any, last, true, alarms⟩ n = false by simp only [alarmT, HM.out, LE.out]; simp)
          have HT := Kept.mk (show wc (tick ⟨every, dead, now, true, sent, any, last, true, alarms⟩ n) = #[.int .i64 every, .int .i64 dead, .int .i64 n, .bool true, .int .i64 sent, .bool true, .int .i64 last, .bool true, .int .i64 alarms] by simp [wc, tick, SE.out, AE.out, LE.out, HM.out])
          have w1 : IntKind.i64.wrap (n - sent) = n - sent := IntWalk.i64_in _ (by omega)
          go_enter Try.func15, Try.ntmps15
          go_wp2_with fail
          go_quiet (fail)
          go_wp2_with fail
          go_quiet (fail)
          go_wp2_with fail
          go_ret2
          exact ⟨by rw [SE.out, AE.out] <;> rfl, by rw [HT.out]; exact Blk.cast (by with_reducible repeat (first | exact HB.out | apply Blk.drewN | apply Blk.drew | apply Blk.set_)) (by rfl), by with_reducible repeat (first | exact OnlyP.refl _ _ | apply OnlyP.drewN | apply OnlyP.drew | apply OnlyP.setb)⟩
        | false =>
          by_cases ha : dead < n - last
          · have SE := Kept.mk (show sendT ⟨every, dead, now, true, sent, any, last, false, alarms⟩ n = false by simp only [sendT, HM.out]; simp; omega)
            have LE := Kept.mk (show lastT ⟨every, dead, now, true, sent, any, last, false, alarms⟩ n = last by simp [lastT])
            have AE := Kept.mk (show alarmT ⟨every, dead, now, true, sent, any, last, false, alarms⟩ n = true by simp only [alarmT, HM.out, LE.out]; simp; omega)
            have HT := Kept.mk (show wc (tick ⟨every, dead, now, true, sent, any, last, false, alarms⟩ n) = #[.int .i64 every, .int .i64 dead, .int .i64 n, .bool true, .int .i64 sent, .bool true, .int .i64 last, .bool true, .int .i64 (alarms + 1)] by simp [wc, tick, SE.out, AE.out, LE.out, HM.out])
            have w1 : IntKind.i64.wrap (n - sent) = n - sent := IntWalk.i64_in _ (by omega)
            have w2 : IntKind.i64.wrap (n - last) = n - last := IntWalk.i64_in _ (by omega)
            go_enter Try.func15, Try.ntmps15
            go_wp2_with fail
            go_quiet (fail)
            go_wp2_with fail
            go_quiet (fail)
            go_wp2_with fail
            go_ret2
            exact ⟨by rw [SE.out, AE.out] <;> rfl, by rw [HT.out]; exact Blk.cast (by with_reducible repeat (first | exact HB.out | apply Blk.drewN | apply Blk.drew | apply Blk.set_)) (by rfl), by with_reducible repeat (first | exact OnlyP.refl _ _ | apply OnlyP.drewN | apply OnlyP.drew | apply OnlyP.setb)⟩
          · have SE := Kept.mk (show sendT ⟨every, dead, now, true, sent, any, last, false, alarms⟩ n = false by simp only [sendT, HM.out]; simp; omega)
            have LE := Kept.mk (show lastT ⟨every, dead, now, true, sent, any, last, false, alarms⟩ n = last by simp [lastT])
            have AE := Kept.mk (show alarmT ⟨every, dead, now, true, sent, any, last, false, alarms⟩ n = false by simp only [alarmT, HM.out, LE.out]; simp; omega)
            have HT := Kept.mk (show wc (tick ⟨every, dead, now, true, sent, any, last, false, alarms⟩ n) = #[.int .i64 every, .int .i64 dead, .int .i64 n, .bool true, .int .i64 sent, .bool true, .int .i64 last, .bool false, .int .i64 alarms] by simp [wc, tick, SE.out, AE.out, LE.out, HM.out])
            have w1 : IntKind.i64.wrap (n - sent) = n - sent := IntWalk.i64_in _ (by omega)
            have w2 : IntKind.i64.wrap (n - last) = n - last := IntWalk.i64_in _ (by omega)
            go_enter Try.func15, Try.ntmps15
            go_wp2_with fail
            go_quiet (fail)
            go_wp2_with fail
            go_quiet (fail)
            go_wp2_with fail
            go_ret2
            exact ⟨by rw [SE.out, AE.out] <;> rfl, by rw [HT.out]; exact Blk.cast (by with_reducible repeat (first | exact HB.out | apply Blk.drewN | apply Blk.drew | apply Blk.set_)) (by rfl), by with_reducible repeat (first | exact OnlyP.refl _ _ | apply OnlyP.drewN | apply OnlyP.drew | apply OnlyP.setb)⟩
  · have HM := Kept.mk hm
    clear hm
    cases begun with
    | false =>
      cases any with
      | false =>
        cases alarmed with
        | true =>
          have SE := Kept.mk (show sendT ⟨every, dead, now, false, sent, false, last, true, alarms⟩ n = true by simp only [sendT, HM.out]; simp)
          have LE := Kept.mk (show lastT ⟨every, dead, now, false, sent, false, last, true, alarms⟩ n = now by simp [lastT, HM.out])
          have AE := Kept.mk (show alarmT ⟨every, dead, now, false, sent, false, last, true, alarms⟩ n = false by simp only [alarmT, HM.out, LE.out]; simp)
          have HT := Kept.mk (show wc (tick ⟨every, dead, now, false, sent, false, last, true, alarms⟩ n) = #[.int .i64 every, .int .i64 dead, .int .i64 now, .bool true, .int .i64 now, .bool true, .int .i64 now, .bool true, .int .i64 alarms] by simp [wc, tick, SE.out, AE.out, LE.out, HM.out])
          go_enter Try.func15, Try.ntmps15
          go_wp2_with fail
          go_quiet (fail)
          go_wp2_with fail
          go_quiet (fail)
          go_wp2_with fail
          go_ret2
          exact ⟨by rw [SE.out, AE.out] <;> rfl, by rw [HT.out]; exact Blk.cast (by with_reducible repeat (first | exact HB.out | apply Blk.drewN | apply Blk.drew | apply Blk.set_)) (by rfl), by with_reducible repeat (first | exact OnlyP.refl _ _ | apply OnlyP.drewN | apply OnlyP.drew | apply OnlyP.setb)⟩
        | false =>
          by_cases ha : dead < now - now
          · have SE := Kept.mk (show sendT ⟨every, dead, now, false, sent, false, last, false, alarms⟩ n = true by simp only [sendT, HM.out]; simp)
            have LE := Kept.mk (show lastT ⟨every, dead, now, false, sent, false, last, false, alarms⟩ n = now by simp [lastT, HM.out])
            have AE := Kept.mk (show alarmT ⟨every, dead, now, false, sent, false, last, false, alarms⟩ n = true by simp only [alarmT, HM.out, LE.out]; simp; omega)
            have HT := Kept.mk (show wc (tick ⟨every, dead, now, false, sent, false, last, false, alarms⟩ n) = #[.int .i64 every, .int .i64 dead, .int .i64 now, .bool true, .int .i64 now, .bool true, .int .i64 now, .bool true, .int .i64 (alarms + 1)] by simp [wc, tick, SE.out, AE.out, LE.out, HM.out])
            have w2 : IntKind.i64.wrap (now - now) = now - now := IntWalk.i64_in _ (by omega)
            go_enter Try.func15, Try.ntmps15
            go_wp2_with fail
            go_quiet (fail)
            go_wp2_with fail
            go_quiet (fail)
            go_wp2_with fail
            go_ret2
            exact ⟨by rw [SE.out, AE.out] <;> rfl, by rw [HT.out]; exact Blk.cast (by with_reducible repeat (first | exact HB.out | apply Blk.drewN | apply Blk.drew | apply Blk.set_)) (by rfl), by with_reducible repeat (first | exact OnlyP.refl _ _ | apply OnlyP.drewN | apply OnlyP.drew | apply OnlyP.setb)⟩
          · have SE := Kept.mk (show sendT ⟨every, dead, now, false, sent, false, last, false, alarms⟩ n = true by simp only [sendT, HM.out]; simp)
            have LE := Kept.mk (show lastT ⟨every, dead, now, false, sent, false, last, false, alarms⟩ n = now by simp [lastT, HM.out])
            have AE := Kept.mk (show alarmT ⟨every, dead, now, false, sent, false, last, false, alarms⟩ n = false by simp only [alarmT, HM.out, LE.out]; simp; omega)
            have HT := Kept.mk (show wc (tick ⟨every, dead, now, false, sent, false, last, false, alarms⟩ n) = #[.int .i64 every, .int .i64 dead, .int .i64 now, .bool true, .int .i64 now, .bool true, .int .i64 now, .bool false, .int .i64 alarms] by simp [wc, tick, SE.out, AE.out, LE.out, HM.out])
            have w2 : IntKind.i64.wrap (now - now) = now - now := IntWalk.i64_in _ (by omega)
            go_enter Try.func15, Try.ntmps15
            go_wp2_with fail
            go_quiet (fail)
            go_wp2_with fail
            go_quiet (fail)
            go_wp2_with fail
            go_ret2
            exact ⟨by rw [SE.out, AE.out] <;> rfl, by rw [HT.out]; exact Blk.cast (by with_reducible repeat (first | exact HB.out | apply Blk.drewN | apply Blk.drew | apply Blk.set_)) (by rfl), by with_reducible repeat (first | exact OnlyP.refl _ _ | apply OnlyP.drewN | apply OnlyP.drew | apply OnlyP.setb)⟩
      | true =>
        cases alarmed with
        | true =>
          have SE := Kept.mk (show sendT ⟨every, dead, now, false, sent, true, last, true, alarms⟩ n = true by simp only [sendT, HM.out]; simp)
          have LE := Kept.mk (show lastT ⟨every, dead, now, false, sent, true, last, true, alarms⟩ n = last by simp [lastT])
          have AE := Kept.mk (show alarmT ⟨every, dead, now, false, sent, true, last, true, alarms⟩ n = false by simp only [alarmT, HM.out, LE.out]; simp)
          have HT := Kept.mk (show wc (tick ⟨every, dead, now, false, sent, true, last, true, alarms⟩ n) = #[.int .i64 every, .int .i64 dead, .int .i64 now, .bool true, .int .i64 now, .bool true, .int .i64 last, .bool true, .int .i64 alarms] by simp [wc, tick, SE.out, AE.out, LE.out, HM.out])
          go_enter Try.func15, Try.ntmps15
          go_wp2_with fail
          go_quiet (fail)
          go_wp2_with fail
          go_quiet (fail)
          go_wp2_with fail
          go_ret2
          exact ⟨by rw [SE.out, AE.out] <;> rfl, by rw [HT.out]; exact Blk.cast (by with_reducible repeat (first | exact HB.out | apply Blk.drewN | apply Blk.drew | apply Blk.set_)) (by rfl), by with_reducible repeat (first | exact OnlyP.refl _ _ | apply OnlyP.drewN | apply OnlyP.drew | apply OnlyP.setb)⟩
        | false =>
          by_cases ha : dead < now - last
          · have SE := Kept.mk (show sendT ⟨every, dead, now, false, sent, true, last, false, alarms⟩ n = true by simp only [sendT, HM.out]; simp)
            have LE := Kept.mk (show lastT ⟨every, dead, now, false, sent, true, last, false, alarms⟩ n = last by simp [lastT])
            have AE := Kept.mk (show alarmT ⟨every, dead, now, false, sent, true, last, false, alarms⟩ n = true by simp only [alarmT, HM.out, LE.out]; simp; omega)
            have HT := Kept.mk (show wc (tick ⟨every, dead, now, false, sent, true, last, false, alarms⟩ n) = #[.int .i64 every, .int .i64 dead, .int .i64 now, .bool true, .int .i64 now, .bool true, .int .i64 last, .bool true, .int .i64 (alarms + 1)] by simp [wc, tick, SE.out, AE.out, LE.out, HM.out])
            have w2 : IntKind.i64.wrap (now - last) = now - last := IntWalk.i64_in _ (by omega)
            go_enter Try.func15, Try.ntmps15
            go_wp2_with fail
            go_quiet (fail)
            go_wp2_with fail
            go_quiet (fail)
            go_wp2_with fail
            go_ret2
            exact ⟨by rw [SE.out, AE.out] <;> rfl, by rw [HT.out]; exact Blk.cast (by with_reducible repeat (first | exact HB.out | apply Blk.drewN | apply Blk.drew | apply Blk.set_)) (by rfl), by with_reducible repeat (first | exact OnlyP.refl _ _ | apply OnlyP.drewN | apply OnlyP.drew | apply OnlyP.setb)⟩
          · have SE := Kept.mk (show sendT ⟨every, dead, now, false, sent, true, last, false, alarms⟩ n = true by simp only [sendT, HM.out]; simp)
            have LE := Kept.mk (show lastT ⟨every, dead, now, false, sent, true, last, false, alarms⟩ n = last by simp [lastT])
            have AE := Kept.mk (show alarmT ⟨every, dead, now, false, sent, true, last, false, alarms⟩ n = false by simp only [alarmT, HM.out, LE.out]; simp; omega)
            have HT := Kept.mk (show wc (tick ⟨every, dead, now, false, sent, true, last, false, alarms⟩ n) = #[.int .i64 every, .int .i64 dead, .int .i64 now, .bool true, .int .i64 now, .bool true, .int .i64 last, .bool false, .int .i64 alarms] by simp [wc, tick, SE.out, AE.out, LE.out, HM.out])
            have w2 : IntKind.i64.wrap (now - last) = now - last := IntWalk.i64_in _ (by omega)
            go_enter Try.func15, Try.ntmps15
            go_wp2_with fail
            go_quiet (fail)
            go_wp2_with fail
            go_quiet (fail)
            go_wp2_with fail
            go_ret2
            exact ⟨by rw [SE.out, AE.out] <;> rfl, by rw [HT.out]; exact Blk.cast (by with_reducible repeat (first | exact HB.out | apply Blk.drewN | apply Blk.drew | apply Blk.set_)) (by rfl), by with_reducible repeat (first | exact OnlyP.refl _ _ | apply OnlyP.drewN | apply OnlyP.drew | apply OnlyP.setb)⟩
    | true =>
      by_cases hs : every ≤ now - sent
      · cases alarmed with
        | true =>
          have SE := Kept.mk (show sendT ⟨every, dead, now, true, sent, any, last, true, alarms⟩ n = true by simp only [sendT, HM.out]; simp; omega)
          have LE := Kept.mk (show lastT ⟨every, dead, now, true, sent, any, last, true, alarms⟩ n = last by simp [lastT])
          have AE := Kept.mk (show alarmT ⟨every, dead, now, true, sent, any, last, true, alarms⟩ n = false by simp only [alarmT, HM.out, LE.out]; simp)
          have HT := Kept.mk (show wc (tick ⟨every, dead, now, true, sent, any, last, true, alarms⟩ n) = #[.int .i64 every, .int .i64 dead, .int .i64 now, .bool true, .int .i64 now, .bool true, .int .i64 last, .bool true, .int .i64 alarms] by simp [wc, tick, SE.out, AE.out, LE.out, HM.out])
          have w1 : IntKind.i64.wrap (now - sent) = now - sent := IntWalk.i64_in _ (by omega)
          go_enter Try.func15, Try.ntmps15
          go_wp2_with fail
          go_quiet (fail)
          go_wp2_with fail
          go_quiet (fail)
          go_wp2_with fail
          go_ret2
          exact ⟨by rw [SE.out, AE.out] <;> rfl, by rw [HT.out]; exact Blk.cast (by with_reducible repeat (first | exact HB.out | apply Blk.drewN | apply Blk.drew | apply Blk.set_)) (by rfl), by with_reducible repeat (first | exact OnlyP.refl _ _ | apply OnlyP.drewN | apply OnlyP.drew | apply OnlyP.setb)⟩
        | false =>
          by_cases ha : dead < now - last
          · have SE := Kept.mk (show sendT ⟨every, dead, now, true, sent, any, last, false, alarms⟩ n = true by simp only [sendT, HM.out]; simp; omega)
            have LE := Kept.mk (show lastT ⟨every, dead, now, true, sent, any, last, false, alarms⟩ n = last by simp [lastT])
            have AE := Kept.mk (show alarmT ⟨every, dead, now, true, sent, any, last, false, alarms⟩ n = true by simp only [alarmT, HM.out, LE.out]; simp; omega)
            have HT := Kept.mk (show wc (tick ⟨every, dead, now, true, sent, any, last, false, alarms⟩ n) = #[.int .i64 every, .int .i64 dead, .int .i64 now, .bool true, .int .i64 now, .bool true, .int .i64 last, .bool true, .int .i64 (alarms + 1)] by simp [wc, tick, SE.out, AE.out, LE.out, HM.out])
            have w1 : IntKind.i64.wrap (now - sent) = now - sent := IntWalk.i64_in _ (by omega)
            have w2 : IntKind.i64.wrap (now - last) = now - last := IntWalk.i64_in _ (by omega)
            go_enter Try.func15, Try.ntmps15
            go_wp2_with fail
            go_quiet (fail)
            go_wp2_with fail
            go_quiet (fail)
            go_wp2_with fail
            go_ret2
            exact ⟨by rw [SE.out, AE.out] <;> rfl, by rw [HT.out]; exact Blk.cast (by with_reducible repeat (first | exact HB.out | apply Blk.drewN | apply Blk.drew | apply Blk.set_)) (by rfl), by with_reducible repeat (first | exact OnlyP.refl _ _ | apply OnlyP.drewN | apply OnlyP.drew | apply OnlyP.setb)⟩
          · have SE := Kept.mk (show sendT ⟨every, dead, now, true, sent, any, last, false, alarms⟩ n = true by simp only [sendT, HM.out]; simp; omega)
            have LE := Kept.mk (show lastT ⟨every, dead, now, true, sent, any, last, false, alarms⟩ n = last by simp [lastT])
            have AE := Kept.mk (show alarmT ⟨every, dead, now, true, sent, any, last, false, alarms⟩ n = false by simp only [alarmT, HM.out, LE.out]; simp; omega)
            have HT := Kept.mk (show wc (tick ⟨every, dead, now, true, sent, any, last, false, alarms⟩ n) = #[.int .i64 every, .int .i64 dead, .int .i64 now, .bool true, .int .i64 now, .bool true, .int .i64 last, .bool false, .int .i64 alarms] by simp [wc, tick, SE.out, AE.out, LE.out, HM.out])
            have w1 : IntKind.i64.wrap (now - sent) = now - sent := IntWalk.i64_in _ (by omega)
            have w2 : IntKind.i64.wrap (now - last) = now - last := IntWalk.i64_in _ (by omega)
            go_enter Try.func15, Try.ntmps15
            go_wp2_with fail
            go_quiet (fail)
            go_wp2_with fail
            go_quiet (fail)
            go_wp2_with fail
            go_ret2
            exact ⟨by rw [SE.out, AE.out] <;> rfl, by rw [HT.out]; exact Blk.cast (by with_reducible repeat (first | exact HB.out | apply Blk.drewN | apply Blk.drew | apply Blk.set_)) (by rfl), by with_reducible repeat (first | exact OnlyP.refl _ _ | apply OnlyP.drewN | apply OnlyP.drew | apply OnlyP.setb)⟩
      · cases alarmed with
        | true =>
          have SE := Kept.mk (show sendT ⟨every, dead, now, true, sent, any, last, true, alarms⟩ n = false by simp only [sendT, HM.out]; simp; omega)
          have LE := Kept.mk (show lastT ⟨every, dead, now, true, sent, any, last, true, alarms⟩ n = last by simp [lastT])
          have AE := Kept.mk (show alarmT ⟨every, dead, now, true, sent, any, last, true, alarms⟩ n = false by simp only [alarmT, HM.out, LE.out]; simp)
          have HT := Kept.mk (show wc (tick ⟨every, dead, now, true, sent, any, last, true, alarms⟩ n) = #[.int .i64 every, .int .i64 dead, .int .i64 now, .bool true, .int .i64 sent, .bool true, .int .i64 last, .bool true, .int .i64 alarms] by simp [wc, tick, SE.out, AE.out, LE.out, HM.out])
          have w1 : IntKind.i64.wrap (now - sent) = now - sent := IntWalk.i64_in _ (by omega)
          go_enter Try.func15, Try.ntmps15
          go_wp2_with fail
          go_quiet (fail)
          go_wp2_with fail
          go_quiet (fail)
          go_wp2_with fail
          go_ret2
          exact ⟨by rw [SE.out, AE.out] <;> rfl, by rw [HT.out]; exact Blk.cast (by with_reducible repeat (first | exact HB.out | apply Blk.drewN | apply Blk.drew | apply Blk.set_)) (by rfl), by with_reducible repeat (first | exact OnlyP.refl _ _ | apply OnlyP.drewN | apply OnlyP.drew | apply OnlyP.setb)⟩
        | false =>
          by_cases ha : dead < now - last
          · have SE := Kept.mk (show sendT ⟨every, dead, now, true, sent, any, last, false, alarms⟩ n = false by simp only [sendT, HM.out]; simp; omega)
            have LE := Kept.mk (show lastT ⟨every, dead, now, true, sent, any, last, false, alarms⟩ n = last by simp [lastT])
            have AE := Kept.mk (show alarmT ⟨every, dead, now, true, sent, any, last, false, alarms⟩ n = true by simp only [alarmT, HM.out, LE.out]; simp; omega)
            have HT := Kept.mk (show wc (tick ⟨every, dead, now, true, sent, any, last, false, alarms⟩ n) = #[.int .i64 every, .int .i64 dead, .int .i64 now, .bool true, .int .i64 sent, .bool true, .int .i64 last, .bool true, .int .i64 (alarms + 1)] by simp [wc, tick, SE.out, AE.out, LE.out, HM.out])
            have w1 : IntKind.i64.wrap (now - sent) = now - sent := IntWalk.i64_in _ (by omega)
            have w2 : IntKind.i64.wrap (now - last) = now - last := IntWalk.i64_in _ (by omega)
            go_enter Try.func15, Try.ntmps15
            go_wp2_with fail
            go_quiet (fail)
            go_wp2_with fail
            go_quiet (fail)
            go_wp2_with fail
            go_ret2
            exact ⟨by rw [SE.out, AE.out] <;> rfl, by rw [HT.out]; exact Blk.cast (by with_reducible repeat (first | exact HB.out | apply Blk.drewN | apply Blk.drew | apply Blk.set_)) (by rfl), by with_reducible repeat (first | exact OnlyP.refl _ _ | apply OnlyP.drewN | apply OnlyP.drew | apply OnlyP.setb)⟩
          · have SE := Kept.mk (show sendT ⟨every, dead, now, true, sent, any, last, false, alarms⟩ n = false by simp only [sendT, HM.out]; simp; omega)
            have LE := Kept.mk (show lastT ⟨every, dead, now, true, sent, any, last, false, alarms⟩ n = last by simp [lastT])
            have AE := Kept.mk (show alarmT ⟨every, dead, now, true, sent, any, last, false, alarms⟩ n = false by simp only [alarmT, HM.out, LE.out]; simp; omega)
            have HT := Kept.mk (show wc (tick ⟨every, dead, now, true, sent, any, last, false, alarms⟩ n) = #[.int .i64 every, .int .i64 dead, .int .i64 now, .bool true, .int .i64 sent, .bool true, .int .i64 last, .bool false, .int .i64 alarms] by simp [wc, tick, SE.out, AE.out, LE.out, HM.out])
            have w1 : IntKind.i64.wrap (now - sent) = now - sent := IntWalk.i64_in _ (by omega)
            have w2 : IntKind.i64.wrap (now - last) = now - last := IntWalk.i64_in _ (by omega)
            go_enter Try.func15, Try.ntmps15
            go_wp2_with fail
            go_quiet (fail)
            go_wp2_with fail
            go_quiet (fail)
            go_wp2_with fail
            go_ret2
            exact ⟨by rw [SE.out, AE.out] <;> rfl, by rw [HT.out]; exact Blk.cast (by with_reducible repeat (first | exact HB.out | apply Blk.drewN | apply Blk.drew | apply Blk.set_)) (by rfl), by with_reducible repeat (first | exact OnlyP.refl _ _ | apply OnlyP.drewN | apply OnlyP.drew | apply OnlyP.setb)⟩
end Go.Proofs.Ythkilfainkcmgaa
