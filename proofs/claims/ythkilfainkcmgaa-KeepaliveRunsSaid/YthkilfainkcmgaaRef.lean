/- Keepalive: the reference's watch. -/
import Derived.Test.YthkilfainkcmgaaSafe
namespace Go.Proofs.Ythkilfainkcmgaa
set_option linter.unusedVariables false
set_option linter.unusedSimpArgs false
open Go.RowKit
set_option maxHeartbeats 2000000 in
theorem refHeard_c (s : St) (n : Int) (w : World) :
    Calls Try.prog 14 #[.agg (rc s), .int .i64 n] w fun e w' => e = .returned (.agg (rc (heard s n))) ∧ Below w.heap.size w w' := by
  have HH : Kept (∀ m, max s.now n = m → rc (heard s n) = #[.int .i64 s.every, .int .i64 s.dead, .int .i64 m, .int .i64 s.sent, .int .i64 m, .bool s.begun, .bool true, .bool false, .int .i64 s.alarms]) := ⟨fun m hm => by simp [rc, heard, hm]⟩
  rw [show rc s = #[.int .i64 s.every, .int .i64 s.dead, .int .i64 s.now, .int .i64 s.sent, .int .i64 s.last, .bool s.begun, .bool s.any, .bool s.alarmed, .int .i64 s.alarms] from rfl]
  rcases (by omega : (s.now < n ∧ max s.now n = n) ∨ (n ≤ s.now ∧ max s.now n = s.now)) with ⟨hmn, hm⟩ | ⟨hmn, hm⟩
  · have HM := Kept.mk (HH.out _ hm)
    clear hm HH
    go_enter Try.func14, Try.ntmps14
    go_wp2_with fail
    exact bodyPost_ret (v := .agg #[.int .i64 s.every, .int .i64 s.dead, .int .i64 n, .int .i64 s.sent, .int .i64 n, .bool s.begun, .bool true, .bool false, .int .i64 s.alarms]) (by simp [results, Try.results14, go_sem]) rfl ⟨by rw [HM.out], by first | go_grown | exact ((Below.refl _ _).alloc (Nat.le_refl _) _).alloc (by simp) _⟩
  · have HM := Kept.mk (HH.out _ hm)
    clear hm HH
    go_enter Try.func14, Try.ntmps14
    go_wp2_with fail
    exact bodyPost_ret (v := .agg #[.int .i64 s.every, .int .i64 s.dead, .int .i64 s.now, .int .i64 s.sent, .int .i64 s.now, .bool s.begun, .bool true, .bool false, .int .i64 s.alarms]) (by simp [results, Try.results14, go_sem]) rfl ⟨by rw [HM.out], by first | go_grown | exact ((Below.refl _ _).alloc (Nat.le_refl _) _).alloc (by simp) _⟩
def RTicks (w : World) (s : St) (n : Int) (e : Ending) (w' : World) : Prop :=
  e = .returned (.tuple #[.agg (rc (tick s n)), .bool (sendT s n), .bool (alarmT s n)]) ∧ Below w.heap.size w w'
set_option maxHeartbeats 8000000 in
theorem refTick_c (s : St) (n : Int) (w : World) (hf : Fit s) (n0 : 0 ≤ n) (n1 : n ≤ 17179869184) :
    Calls Try.prog 16 #[.agg (rc s), .int .i64 n] w (RTicks w s n) := by
  obtain ⟨f1, f2, f3, f4, f5, f6, f7, f8⟩ := hf
  rw [show rc s = #[.int .i64 s.every, .int .i64 s.dead, .int .i64 s.now, .int .i64 s.sent, .int .i64 s.last, .bool s.begun, .bool s.any, .bool s.alarmed, .int .i64 s.alarms] from rfl]
  obtain ⟨every, dead, now, begun, sent, any, last, alarmed, alarms⟩ := s
  simp only at f1 f2 f3 f4 f5 f6 f7 f8 ⊢
  rcases (by omega : (now < n ∧ max now n = n) ∨ (n ≤ now ∧ max now n = now)) with ⟨hmn, hm⟩ | ⟨hmn, hm⟩
  · have HM := Kept.mk hm
    clear hm
    cases begun with
    | false =>
      cases any with
      | false =>
        cases alarmed with
        | true =>
          have SE := Kept.mk (show sendT ⟨every, dead, now, false, sent, false, last, true, alarms⟩ n = true by simp only [sendT, HM.out]; simp)
          have LE := Kept.mk (show lastT ⟨every, dead, now, false, sent, false, last, true, alarms⟩ n = n by simp [lastT, HM.out])
          have AE := Kept.mk (show alarmT ⟨every, dead, now, false, sent, false, last, true, alarms⟩ n = false by simp only [alarmT, HM.out, LE.out]; simp)
          have HT := Kept.mk (show rc (tick ⟨every, dead, now, false, sent, false, last, true, alarms⟩ n) = #[.int .i64 every, .int .i64 dead, .int .i64 n, .int .i64 n, .int .i64 n, .bool true, .bool false, .bool true, .int .i64 alarms] by simp [rc, tick, SE.out, AE.out, LE.out, HM.out])
          go_enter Try.func16, Try.ntmps16
          go_wp2_with fail
          exact bodyPost_ret (v := .tuple #[.agg #[.int .i64 every, .int .i64 dead, .int .i64 n, .int .i64 n, .int .i64 n, .bool true, .bool false, .bool true, .int .i64 alarms], .bool true, .bool false]) (by simp [results, Try.results16, go_sem]) rfl ⟨by rw [HT.out, SE.out, AE.out], by first | go_grown | exact ((Below.refl _ _).alloc (Nat.le_refl _) _).alloc (by simp) _⟩
        | false =>
          by_cases ha : dead < 0
          · have SE := Kept.mk (show sendT ⟨every, dead, now, false, sent, false, last, false, alarms⟩ n = true by simp only [sendT, HM.out]; simp)
            have LE := Kept.mk (show lastT ⟨every, dead, now, false, sent, false, last, false, alarms⟩ n = n by simp [lastT, HM.out])
            have AE := Kept.mk (show alarmT ⟨every, dead, now, false, sent, false, last, false, alarms⟩ n = true by simp only [alarmT, HM.out, LE.out]; simp; omega)
            have HT := Kept.mk (show rc (tick ⟨every, dead, now, false, sent, false, last, false, alarms⟩ n) = #[.int .i64 every, .int .i64 dead, .int .i64 n, .int .i64 n, .int .i64 n, .bool true, .bool false, .bool true, .int .i64 (alarms + 1)] by simp [rc, tick, SE.out, AE.out, LE.out, HM.out])
            go_enter Try.func16, Try.ntmps16
            go_wp2_with fail
            exact bodyPost_ret (v := .tuple #[.agg #[.int .i64 every, .int .i64 dead, .int .i64 n, .int .i64 n, .int .i64 n, .bool true, .bool false, .bool true, .int .i64 (alarms + 1)], .bool true, .bool true]) (by simp [results, Try.results16, go_sem]) rfl ⟨by rw [HT.out, SE.out, AE.out], by first | go_grown | exact ((Below.refl _ _).alloc (Nat.le_refl _) _).alloc (by simp) _⟩
          · have SE := Kept.mk (show sendT ⟨every, dead, now, false, sent, false, last, false, alarms⟩ n = true by simp only [sendT, HM.out]; simp)
            have LE := Kept.mk (show lastT ⟨every, dead, now, false, sent, false, last, false, alarms⟩ n = n by simp [lastT, HM.out])
            have AE := Kept.mk (show alarmT ⟨every, dead, now, false, sent, false, last, false, alarms⟩ n = false by simp only [alarmT, HM.out, LE.out]; simp; omega)
            have HT := Kept.mk (show rc (tick ⟨every, dead, now, false, sent, false, last, false, alarms⟩ n) = #[.int .i64 every, .int .i64 dead, .int .i64 n, .int .i64 n, .int .i64 n, .bool true, .bool false, .bool false, .int .i64 alarms] by simp [rc, tick, SE.out, AE.out, LE.out, HM.out])
            go_enter Try.func16, Try.ntmps16
            go_wp2_with fail
            exact bodyPost_ret (v := .tuple #[.agg #[.int .i64 every, .int .i64 dead, .int .i64 n, .int .i64 n, .int .i64 n, .bool true, .bool false, .bool false, .int .i64 alarms], .bool true, .bool false]) (by simp [results, Try.results16, go_sem]) rfl ⟨by rw [HT.out, SE.out, AE.out], by first | go_grown | exact ((Below.refl _ _).alloc (Nat.le_refl _) _).alloc (by simp) _⟩
      | true =>
        cases alarmed with
        | true =>
          have SE := Kept.mk (show sendT ⟨every, dead, now, false, sent, true, last, true, alarms⟩ n = true by simp only [sendT, HM.out]; simp)
          have LE := Kept.mk (show lastT ⟨every, dead, now, false, sent, true, last, true, alarms⟩ n = last by simp [lastT])
          have AE := Kept.mk (show alarmT ⟨every, dead, now, false, sent, true, last, true, alarms⟩ n = false by simp only [alarmT, HM.out, LE.out]; simp)
          have HT := Kept.mk (show rc (tick ⟨every, dead, now, false, sent, true, last, true, alarms⟩ n) = #[.int .i64 every, .int .i64 dead, .int .i64 n, .int .i64 n, .int .i64 last, .bool true, .bool true, .bool true, .int .i64 alarms] by simp [rc, tick, SE.out, AE.out, LE.out, HM.out])
          go_enter Try.func16, Try.ntmps16
          go_wp2_with fail
          exact bodyPost_ret (v := .tuple #[.agg #[.int .i64 every, .int .i64 dead, .int .i64 n, .int .i64 n, .int .i64 last, .bool true, .bool true, .bool true, .int .i64 alarms], .bool true, .bool false]) (by simp [results, Try.results16, go_sem]) rfl ⟨by rw [HT.out, SE.out, AE.out], by first | go_grown | exact ((Below.refl _ _).alloc (Nat.le_refl _) _).alloc (by simp) _⟩
        | false =>
          by_cases ha : dead < n - last
          · have SE := Kept.mk (show sendT ⟨every, dead, now, false, sent, true, last, false, alarms⟩ n = true by simp only [sendT, HM.out]; simp)
            have LE := Kept.mk (show lastT ⟨every, dead, now, false, sent, true, last, false, alarms⟩ n = last by simp [lastT])
            have AE := Kept.mk (show alarmT ⟨every, dead, now, false, sent, true, last, false, alarms⟩ n = true by simp only [alarmT, HM.out, LE.out]; simp; omega)
            have HT := Kept.mk (show rc (tick ⟨every, dead, now, false, sent, true, last, false, alarms⟩ n) = #[.int .i64 every, .int .i64 dead, .int .i64 n, .int .i64 n, .int .i64 last, .bool true, .bool true, .bool true, .int .i64 (alarms + 1)] by simp [rc, tick, SE.out, AE.out, LE.out, HM.out])
            go_enter Try.func16, Try.ntmps16
            go_wp2_with fail
            exact bodyPost_ret (v := .tuple #[.agg #[.int .i64 every, .int .i64 dead, .int .i64 n, .int .i64 n, .int .i64 last, .bool true, .bool true, .bool true, .int .i64 (alarms + 1)], .bool true, .bool true]) (by simp [results, Try.results16, go_sem]) rfl ⟨by rw [HT.out, SE.out, AE.out], by first | go_grown | exact ((Below.refl _ _).alloc (Nat.le_refl _) _).alloc (by simp) _⟩
          · have SE := Kept.mk (show sendT ⟨every, dead, now, false, sent, true, last, false, alarms⟩ n = true by simp only [sendT, HM.out]; simp)
            have LE := Kept.mk (show lastT ⟨every, dead, now, false, sent, true, last, false, alarms⟩ n = last by simp [lastT])
            have AE := Kept.mk (show alarmT ⟨every, dead, now, false, sent, true, last, false, alarms⟩ n = false by simp only [alarmT, HM.out, LE.out]; simp; omega)
            have HT := Kept.mk (show rc (tick ⟨every, dead, now, false, sent, true, last, false, alarms⟩ n) = #[.int .i64 every, .int .i64 dead, .int .i64 n, .int .i64 n, .int .i64 last, .bool true, .bool true, .bool false, .int .i64 alarms] by simp [rc, tick, SE.out, AE.out, LE.out, HM.out])
            go_enter Try.func16, Try.ntmps16
            go_wp2_with fail
            exact bodyPost_ret (v := .tuple #[.agg #[.int .i64 every, .int .i64 dead, .int .i64 n, .int .i64 n, .int .i64 last, .bool true, .bool true, .bool false, .int .i64 alarms], .bool true, .bool false]) (by simp [results, Try.results16, go_sem]) rfl ⟨by rw [HT.out, SE.out, AE.out], by first | go_grown | exact ((Below.refl _ _).alloc (Nat.le_refl _) _).alloc (by simp) _⟩
    | true =>
      by_cases hs : every ≤ n - sent
      · cases alarmed with
        | true =>
          have SE := Kept.mk (show sendT ⟨every, dead, now, true, sent, any, last, true, alarms⟩ n = true by simp only [sendT, HM.out]; simp; omega)
          have LE := Kept.mk (show lastT ⟨every, dead, now, true, sent, any, last, true, alarms⟩ n = last by simp [lastT])
          have AE := Kept.mk (show alarmT ⟨every, dead, now, true, sent, any, last, true, alarms⟩ n = false by simp only [alarmT, HM.out, LE.out]; simp)
          have HT := Kept.mk (show rc (tick ⟨every, dead, now, true, sent, any, last, true, alarms⟩ n) = #[.int .i64 every, .int .i64 dead, .int .i64 n, .int .i64 n, .int .i64 last, .bool true, .bool any, .bool true, .int .i64 alarms] by simp [rc, tick, SE.out, AE.out, LE.out, HM.out])
          go_enter Try.func16, Try.ntmps16
          go_wp2_with fail
          exact bodyPost_ret (v := .tuple #[.agg #[.int .i64 every, .int .i64 dead, .int .i64 n, .int .i64 n, .int .i64 last, .bool true, .bool any, .bool true, .int .i64 alarms], .bool true, .bool false]) (by simp [results, Try.results16, go_sem]) rfl ⟨by rw [HT.out, SE.out, AE.out], by first | go_grown | exact ((Below.refl _ _).alloc (Nat.le_refl _) _).alloc (by simp) _⟩
        | false =>
          by_cases ha : dead < n - last
          · have SE := Kept.mk (show sendT ⟨every, dead, now, true, sent, any, last, false, alarms⟩ n = true by simp only [sendT, HM.out]; simp; omega)
            have LE := Kept.mk (show lastT ⟨every, dead, now, true, sent, any, last, false, alarms⟩ n = last by simp [lastT])
            have AE := Kept.mk (show alarmT ⟨every, dead, now, true, sent, any, last, false, alarms⟩ n = true by simp only [alarmT, HM.out, LE.out]; simp; omega)
            have HT := Kept.mk (show rc (tick ⟨every, dead, now, true, sent, any, last, false, alarms⟩ n) = #[.int .i64 every, .int .i64 dead, .int .i64 n, .int .i64 n, .int .i64 last, .bool true, .bool any, .bool true, .int .i64 (alarms + 1)] by simp [rc, tick, SE.out, AE.out, LE.out, HM.out])
            go_enter Try.func16, Try.ntmps16
            go_wp2_with fail
            exact bodyPost_ret (v := .tuple #[.agg #[.int .i64 every, .int .i64 dead, .int .i64 n, .int .i64 n, .int .i64 last, .bool true, .bool any, .bool true, .int .i64 (alarms + 1)], .bool true, .bool true]) (by simp [results, Try.results16, go_sem]) rfl ⟨by rw [HT.out, SE.out, AE.out], by first | go_grown | exact ((Below.refl _ _).alloc (Nat.le_refl _) _).alloc (by simp) _⟩
          · have SE := Kept.mk (show sendT ⟨every, dead, now, true, sent, any, last, false, alarms⟩ n = true by simp only [sendT, HM.out]; simp; omega)
            have LE := Kept.mk (show lastT ⟨every, dead, now, true, sent, any, last, false, alarms⟩ n = last by simp [lastT])
            have AE := Kept.mk (show alarmT ⟨every, dead, now, true, sent, any, last, false, alarms⟩ n = false by simp only [alarmT, HM.out, LE.out]; simp; omega)
            have HT := Kept.mk (show rc (tick ⟨every, dead, now, true, sent, any, last, false, alarms⟩ n) = #[.int .i64 every, .int .i64 dead, .int .i64 n, .int .i64 n, .int .i64 last, .bool true, .bool any, .bool false, .int .i64 alarms] by simp [rc, tick, SE.out, AE.out, LE.out, HM.out])
            go_enter Try.func16, Try.ntmps16
            go_wp2_with fail
            exact bodyPost_ret (v := .tuple #[.agg #[.int .i64 every, .int .i64 dead, .int .i64 n, .int .i64 n, .int .i64 last, .bool true, .bool any, .bool false, .int .i64 alarms], .bool true, .bool false]) (by simp [results, Try.results16, go_sem]) rfl ⟨by rw [HT.out, SE.out, AE.out], by first | go_grown | exact ((Below.refl _ _).alloc (Nat.le_refl _) _).alloc (by simp) _⟩
      · cases alarmed with
        | true =>
          have SE := Kept.mk (show sendT ⟨every, dead, now, true, sent, any, last, true, alarms⟩ n = false by simp only [sendT, HM.out]; simp; omega)
          have LE := Kept.mk (show lastT ⟨every, dead, now, true, sent, any, last, true, alarms⟩ n = last by simp [lastT])
          have AE := Kept.mk (show alarmT ⟨every, dead, now, true, sent, any, last, true, alarms⟩ n = false by simp only [alarmT, HM.out, LE.out]; simp)
          have HT := Kept.mk (show rc (tick ⟨every, dead, now, true, sent, any, last, true, alarms⟩ n) = #[.int .i64 every, .int .i64 dead, .int .i64 n, .int .i64 sent, .int .i64 last, .bool true, .bool any, .bool true, .int .i64 alarms] by simp [rc, tick, SE.out, AE.out, LE.out, HM.out])
          go_enter Try.func16, Try.ntmps16
          go_wp2_with fail
          exact bodyPost_ret (v := .tuple #[.agg #[.int .i64 every, .int .i64 dead, .int .i64 n, .int .i64 sent, .int .i64 last, .bool true, .bool any, .bool true, .int .i64 alarms], .bool false, .bool false]) (by simp [results, Try.results16, go_sem]) rfl ⟨by rw [HT.out, SE.out, AE.out], by first | go_grown | exact ((Below.refl _ _).alloc (Nat.le_refl _) _).alloc (by simp) _⟩
        | false =>
          by_cases ha : dead < n - last
          · have SE := Kept.mk (show sendT ⟨every, dead, now, true, sent, any, last, false, alarms⟩ n = false by simp only [sendT, HM.out]; simp; omega)
            have LE := Kept.mk (show lastT ⟨every, dead, now, true, sent, any, last, false, alarms⟩ n = last by simp [lastT])
            have AE := Kept.mk (show alarmT ⟨every, dead, now, true, sent, any, last, false, alarms⟩ n = true by simp only [alarmT, HM.out, LE.out]; simp; omega)
            have HT := Kept.mk (show rc (tick ⟨every, dead, now, true, sent, any, last, false, alarms⟩ n) = #[.int .i64 every, .int .i64 dead, .int .i64 n, .int .i64 sent, .int .i64 last, .bool true, .bool any, .bool true, .int .i64 (alarms + 1)] by simp [rc, tick, SE.out, AE.out, LE.out, HM.out])
            go_enter Try.func16, Try.ntmps16
            go_wp2_with fail
            exact bodyPost_ret (v := .tuple #[.agg #[.int .i64 every, .int .i64 dead, .int .i64 n, .int .i64 sent, .int .i64 last, .bool true, .bool any, .bool true, .int .i64 (alarms + 1)], .bool false, .bool true]) (by simp [results, Try.results16, go_sem]) rfl ⟨by rw [HT.out, SE.out, AE.out], by first | go_grown | exact ((Below.refl _ _).alloc (Nat.le_refl _) _).alloc (by simp) _⟩
          · have SE := Kept.mk (show sendT ⟨every, dead, now, true, sent, any, last, false, alarms⟩ n = false by simp only [sendT, HM.out]; simp; omega)
            have LE := Kept.mk (show lastT ⟨every, dead, now, true, sent, any, last, false, alarms⟩ n = last by simp [lastT])
            have AE := Kept.mk (show alarmT ⟨every, dead, now, true, sent, any, last, false, alarms⟩ n = false by simp only [alarmT, HM.out, LE.out]; simp; omega)
            have HT := Kept.mk (show rc (tick ⟨every, dead, now, true, sent, any, last, false, alarms⟩ n) = #[.int .i64 every, .int .i64 dead, .int .i64 n, .int .i64 sent, .int .i64 last, .bool true, .bool any, .bool false, .int .i64 alarms] by simp [rc, tick, SE.out, AE.out, LE.out, HM.out])
            go_enter Try.func16, Try.ntmps16
            go_wp2_with fail
            exact bodyPost_ret (v := .tuple #[.agg #[.int .i64 every, .int .i64 dead, .int .i64 n, .int .i64 sent, .int .i64 last, .bool true, .bool any, .bool false, .int .i64 alarms], .bool false, .bool false]) (by simp [results, Try.results16, go_sem]) rfl ⟨by rw [HT.out, SE.out, AE.out], by first | go_grown | exact ((Below.refl _ _).alloc (Nat.le_refl _) _).alloc (by simp) _⟩
  · have HM := Kept.mk hm
    clear hm
    cases begun with
    | false =>
      cases any with
      | false =>
        cases alarmed with
        | true =>
          have SE := Kept.mk (show sendT ⟨every, dead, now, false, sent, false, last, true, alarms⟩ n = true by simp only [sendT, HM.out]; simp)
          have LE := Kept.mk (show lastT ⟨every, dead, now, false, sent, false, last, true, alarms⟩ n = now by simp [lastT, HM.out])
          have AE := Kept.mk (show alarmT ⟨every, dead, now, false, sent, false, last, true, alarms⟩ n = false by simp only [alarmT, HM.out, LE.out]; simp)
          have HT := Kept.mk (show rc (tick ⟨every, dead, now, false, sent, false, last, true, alarms⟩ n) = #[.int .i64 every, .int .i64 dead, .int .i64 now, .int .i64 now, .int .i64 now, .bool true, .bool false, .bool true, .int .i64 alarms] by simp [rc, tick, SE.out, AE.out, LE.out, HM.out])
          go_enter Try.func16, Try.ntmps16
          go_wp2_with fail
          exact bodyPost_ret (v := .tuple #[.agg #[.int .i64 every, .int .i64 dead, .int .i64 now, .int .i64 now, .int .i64 now, .bool true, .bool false, .bool true, .int .i64 alarms], .bool true, .bool false]) (by simp [results, Try.results16, go_sem]) rfl ⟨by rw [HT.out, SE.out, AE.out], by first | go_grown | exact ((Below.refl _ _).alloc (Nat.le_refl _) _).alloc (by simp) _⟩
        | false =>
          by_cases ha : dead < 0
          · have SE := Kept.mk (show sendT ⟨every, dead, now, false, sent, false, last, false, alarms⟩ n = true by simp only [sendT, HM.out]; simp)
            have LE := Kept.mk (show lastT ⟨every, dead, now, false, sent, false, last, false, alarms⟩ n = now by simp [lastT, HM.out])
            have AE := Kept.mk (show alarmT ⟨every, dead, now, false, sent, false, last, false, alarms⟩ n = true by simp only [alarmT, HM.out, LE.out]; simp; omega)
            have HT := Kept.mk (show rc (tick ⟨every, dead, now, false, sent, false, last, false, alarms⟩ n) = #[.int .i64 every, .int .i64 dead, .int .i64 now, .int .i64 now, .int .i64 now, .bool true, .bool false, .bool true, .int .i64 (alarms + 1)] by simp [rc, tick, SE.out, AE.out, LE.out, HM.out])
            go_enter Try.func16, Try.ntmps16
            go_wp2_with fail
            exact bodyPost_ret (v := .tuple #[.agg #[.int .i64 every, .int .i64 dead, .int .i64 now, .int .i64 now, .int .i64 now, .bool true, .bool false, .bool true, .int .i64 (alarms + 1)], .bool true, .bool true]) (by simp [results, Try.results16, go_sem]) rfl ⟨by rw [HT.out, SE.out, AE.out], by first | go_grown | exact ((Below.refl _ _).alloc (Nat.le_refl _) _).alloc (by simp) _⟩
          · have SE := Kept.mk (show sendT ⟨every, dead, now, false, sent, false, last, false, alarms⟩ n = true by simp only [sendT, HM.out]; simp)
            have LE := Kept.mk (show lastT ⟨every, dead, now, false, sent, false, last, false, alarms⟩ n = now by simp [lastT, HM.out])
            have AE := Kept.mk (show alarmT ⟨every, dead, now, false, sent, false, last, false, alarms⟩ n = false by simp only [alarmT, HM.out, LE.out]; simp; omega)
            have HT := Kept.mk (show rc (tick ⟨every, dead, now, false, sent, false, last, false, alarms⟩ n) = #[.int .i64 every, .int .i64 dead, .int .i64 now, .int .i64 now, .int .i64 now, .bool true, .bool false, .bool false, .int .i64 alarms] by simp [rc, tick, SE.out, AE.out, LE.out, HM.out])
            go_enter Try.func16, Try.ntmps16
            go_wp2_with fail
            exact bodyPost_ret (v := .tuple #[.agg #[.int .i64 every, .int .i64 dead, .int .i64 now, .int .i64 now, .int .i64 now, .bool true, .bool false, .bool false, .int .i64 alarms], .bool true, .bool false]) (by simp [results, Try.results16, go_sem]) rfl ⟨by rw [HT.out, SE.out, AE.out], by first | go_grown | exact ((Below.refl _ _).alloc (Nat.le_refl _) _).alloc (by simp) _⟩
      | true =>
        cases alarmed with
        | true =>
          have SE := Kept.mk (show sendT ⟨every, dead, now, false, sent, true, last, true, alarms⟩ n = true by simp only [sendT, HM.out]; simp)
          have LE := Kept.mk (show lastT ⟨every, dead, now, false, sent, true, last, true, alarms⟩ n = last by simp [lastT])
          have AE := Kept.mk (show alarmT ⟨every, dead, now, false, sent, true, last, true, alarms⟩ n = false by simp only [alarmT, HM.out, LE.out]; simp)
          have HT := Kept.mk (show rc (tick ⟨every, dead, now, false, sent, true, last, true, alarms⟩ n) = #[.int .i64 every, .int .i64 dead, .int .i64 now, .int .i64 now, .int .i64 last, .bool true, .bool true, .bool true, .int .i64 alarms] by simp [rc, tick, SE.out, AE.out, LE.out, HM.out])
          go_enter Try.func16, Try.ntmps16
          go_wp2_with fail
          exact bodyPost_ret (v := .tuple #[.agg #[.int .i64 every, .int .i64 dead, .int .i64 now, .int .i64 now, .int .i64 last, .bool true, .bool true, .bool true, .int .i64 alarms], .bool true, .bool false]) (by simp [results, Try.results16, go_sem]) rfl ⟨by rw [HT.out, SE.out, AE.out], by first | go_grown | exact ((Below.refl _ _).alloc (Nat.le_refl _) _).alloc (by simp) _⟩
        | false =>
          by_cases ha : dead < now - last
          · have SE := Kept.mk (show sendT ⟨every, dead, now, false, sent, true, last, false, alarms⟩ n = true by simp only [sendT, HM.out]; simp)
            have LE := Kept.mk (show lastT ⟨every, dead, now, false, sent, true, last, false, alarms⟩ n = last by simp [lastT])
            have AE := Kept.mk (show alarmT ⟨every, dead, now, false, sent, true, last, false, alarms⟩ n = true by simp only [alarmT, HM.out, LE.out]; simp; omega)
            have HT := Kept.mk (show rc (tick ⟨every, dead, now, false, sent, true, last, false, alarms⟩ n) = #[.int .i64 every, .int .i64 dead, .int .i64 now, .int .i64 now, .int .i64 last, .bool true, .bool true, .bool true, .int .i64 (alarms + 1)] by simp [rc, tick, SE.out, AE.out, LE.out, HM.out])
            go_enter Try.func16, Try.ntmps16
            go_wp2_with fail
            exact bodyPost_ret (v := .tuple #[.agg #[.int .i64 every, .int .i64 dead, .int .i64 now, .int .i64 now, .int .i64 last, .bool true, .bool true, .bool true, .int .i64 (alarms + 1)], .bool true, .bool true]) (by simp [results, Try.results16, go_sem]) rfl ⟨by rw [HT.out, SE.out, AE.out], by first | go_grown | exact ((Below.refl _ _).alloc (Nat.le_refl _) _).alloc (by simp) _⟩
          · have SE := Kept.mk (show sendT ⟨every, dead, now, false, sent, true, last, false, alarms⟩ n = true by simp only [sendT, HM.out]; simp)
            have LE := Kept.mk (show lastT ⟨every, dead, now, false, sent, true, last, false, alarms⟩ n = last by simp [lastT])
            have AE := Kept.mk (show alarmT ⟨every, dead, now, false, sent, true, last, false, alarms⟩ n = false by simp only [alarmT, HM.out, LE.out]; simp; omega)
            have HT := Kept.mk (show rc (tick ⟨every, dead, now, false, sent, true, last, false, alarms⟩ n) = #[.int .i64 every, .int .i64 dead, .int .i64 now, .int .i64 now, .int .i64 last, .bool true, .bool true, .bool false, .int .i64 alarms] by simp [rc, tick, SE.out, AE.out, LE.out, HM.out])
            go_enter Try.func16, Try.ntmps16
            go_wp2_with fail
            exact bodyPost_ret (v := .tuple #[.agg #[.int .i64 every, .int .i64 dead, .int .i64 now, .int .i64 now, .int .i64 last, .bool true, .bool true, .bool false, .int .i64 alarms], .bool true, .bool false]) (by simp [results, Try.results16, go_sem]) rfl ⟨by rw [HT.out, SE.out, AE.out], by first | go_grown | exact ((Below.refl _ _).alloc (Nat.le_refl _) _).alloc (by simp) _⟩
    | true =>
      by_cases hs : every ≤ now - sent
      · cases alarmed with
        | true =>
          have SE := Kept.mk (show sendT ⟨every, dead, now, true, sent, any, last, true, alarms⟩ n = true by simp only [sendT, HM.out]; simp; omega)
          have LE := Kept.mk (show lastT ⟨every, dead, now, true, sent, any, last, true, alarms⟩ n = last by simp [lastT])
          have AE := Kept.mk (show alarmT ⟨every, dead, now, true, sent, any, last, true, alarms⟩ n = false by simp only [alarmT, HM.out, LE.out]; simp)
          have HT := Kept.mk (show rc (tick ⟨every, dead, now, true, sent, any, last, true, alarms⟩ n) = #[.int .i64 every, .int .i64 dead, .int .i64 now, .int .i64 now, .int .i64 last, .bool true, .bool any, .bool true, .int .i64 alarms] by simp [rc, tick, SE.out, AE.out, LE.out, HM.out])
          go_enter Try.func16, Try.ntmps16
          go_wp2_with fail
          exact bodyPost_ret (v := .tuple #[.agg #[.int .i64 every, .int .i64 dead, .int .i64 now, .int .i64 now, .int .i64 last, .bool true, .bool any, .bool true, .int .i64 alarms], .bool true, .bool false]) (by simp [results, Try.results16, go_sem]) rfl ⟨by rw [HT.out, SE.out, AE.out], by first | go_grown | exact ((Below.refl _ _).alloc (Nat.le_refl _) _).alloc (by simp) _⟩
        | false =>
          by_cases ha : dead < now - last
          · have SE := Kept.mk (show sendT ⟨every, dead, now, true, sent, any, last, false, alarms⟩ n = true by simp only [sendT, HM.out]; simp; omega)
            have LE := Kept.mk (show lastT ⟨every, dead, now, true, sent, any, last, false, alarms⟩ n = last by simp [lastT])
            have AE := Kept.mk (show alarmT ⟨every, dead, now, true, sent, any, last, false, alarms⟩ n = true by simp only [alarmT, HM.out, LE.out]; simp; omega)
            have HT := Kept.mk (show rc (tick ⟨every, dead, now, true, sent, any, last, false, alarms⟩ n) = #[.int .i64 every, .int .i64 dead, .int .i64 now, .int .i64 now, .int .i64 last, .bool true, .bool any, .bool true, .int .i64 (alarms + 1)] by simp [rc, tick, SE.out, AE.out, LE.out, HM.out])
            go_enter Try.func16, Try.ntmps16
            go_wp2_with fail
            exact bodyPost_ret (v := .tuple #[.agg #[.int .i64 every, .int .i64 dead, .int .i64 now, .int .i64 now, .int .i64 last, .bool true, .bool any, .bool true, .int .i64 (alarms + 1)], .bool true, .bool true]) (by simp [results, Try.results16, go_sem]) rfl ⟨by rw [HT.out, SE.out, AE.out], by first | go_grown | exact ((Below.refl _ _).alloc (Nat.le_refl _) _).alloc (by simp) _⟩
          · have SE := Kept.mk (show sendT ⟨every, dead, now, true, sent, any, last, false, alarms⟩ n = true by simp only [sendT, HM.out]; simp; omega)
            have LE := Kept.mk (show lastT ⟨every, dead, now, true, sent, any, last, false, alarms⟩ n = last by simp [lastT])
            have AE := Kept.mk (show alarmT ⟨every, dead, now, true, sent, any, last, false, alarms⟩ n = false by simp only [alarmT, HM.out, LE.out]; simp; omega)
            have HT := Kept.mk (show rc (tick ⟨every, dead, now, true, sent, any, last, false, alarms⟩ n) = #[.int .i64 every, .int .i64 dead, .int .i64 now, .int .i64 now, .int .i64 last, .bool true, .bool any, .bool false, .int .i64 alarms] by simp [rc, tick, SE.out, AE.out, LE.out, HM.out])
            go_enter Try.func16, Try.ntmps16
            go_wp2_with fail
            exact bodyPost_ret (v := .tuple #[.agg #[.int .i64 every, .int .i64 dead, .int .i64 now, .int .i64 now, .int .i64 last, .bool true, .bool any, .bool false, .int .i64 alarms], .bool true, .bool false]) (by simp [results, Try.results16, go_sem]) rfl ⟨by rw [HT.out, SE.out, AE.out], by first | go_grown | exact ((Below.refl _ _).alloc (Nat.le_refl _) _).alloc (by simp) _⟩
      · cases alarmed with
        | true =>
          have SE := Kept.mk (show sendT ⟨every, dead, now, true, sent, any, last, true, alarms⟩ n = false by simp only [sendT, HM.out]; simp; omega)
          have LE := Kept.mk (show lastT ⟨every, dead, now, true, sent, any, last, true, alarms⟩ n = last by simp [lastT])
          have AE := Kept.mk (show alarmT ⟨every, dead, now, true, sent, any, last, true, alarms⟩ n = false by simp only [alarmT, HM.out, LE.out]; simp)
          have HT := Kept.mk (show rc (tick ⟨every, dead, now, true, sent, any, last, true, alarms⟩ n) = #[.int .i64 every, .int .i64 dead, .int .i64 now, .int .i64 sent, .int .i64 last, .bool true, .bool any, .bool true, .int .i64 alarms] by simp [rc, tick, SE.out, AE.out, LE.out, HM.out])
          go_enter Try.func16, Try.ntmps16
          go_wp2_with fail
          exact bodyPost_ret (v := .tuple #[.agg #[.int .i64 every, .int .i64 dead, .int .i64 now, .int .i64 sent, .int .i64 last, .bool true, .bool any, .bool true, .int .i64 alarms], .bool false, .bool false]) (by simp [results, Try.results16, go_sem]) rfl ⟨by rw [HT.out, SE.out, AE.out], by first | go_grown | exact ((Below.refl _ _).alloc (Nat.le_refl _) _).alloc (by simp) _⟩
        | false =>
          by_cases ha : dead < now - last
          · have SE := Kept.mk (show sendT ⟨every, dead, now, true, sent, any, last, false, alarms⟩ n = false by simp only [sendT, HM.out]; simp; omega)
            have LE := Kept.mk (show lastT ⟨every, dead, now, true, sent, any, last, false, alarms⟩ n = last by simp [lastT])
            have AE := Kept.mk (show alarmT ⟨every, dead, now, true, sent, any, last, false, alarms⟩ n = true by simp only [alarmT, HM.out, LE.out]; simp; omega)
            have HT := Kept.mk (show rc (tick ⟨every, dead, now, true, sent, any, last, false, alarms⟩ n) = #[.int .i64 every, .int .i64 dead, .int .i64 now, .int .i64 sent, .int .i64 last, .bool true, .bool any, .bool true, .int .i64 (alarms + 1)] by simp [rc, tick, SE.out, AE.out, LE.out, HM.out])
            go_enter Try.func16, Try.ntmps16
            go_wp2_with fail
            exact bodyPost_ret (v := .tuple #[.agg #[.int .i64 every, .int .i64 dead, .int .i64 now, .int .i64 sent, .int .i64 last, .bool true, .bool any, .bool true, .int .i64 (alarms + 1)], .bool false, .bool true]) (by simp [results, Try.results16, go_sem]) rfl ⟨by rw [HT.out, SE.out, AE.out], by first | go_grown | exact ((Below.refl _ _).alloc (Nat.le_refl _) _).alloc (by simp) _⟩
          · have SE := Kept.mk (show sendT ⟨every, dead, now, true, sent, any, last, false, alarms⟩ n = false by simp only [sendT, HM.out]; simp; omega)
            have LE := Kept.mk (show lastT ⟨every, dead, now, true, sent, any, last, false, alarms⟩ n = last by simp [lastT])
            have AE := Kept.mk (show alarmT ⟨every, dead, now, true, sent, any, last, false, alarms⟩ n = false by simp only [alarmT, HM.out, LE.out]; simp; omega)
            have HT := Kept.mk (show rc (tick ⟨every, dead, now, true, sent, any, last, false, alarms⟩ n) = #[.int .i64 every, .int .i64 dead, .int .i64 now, .int .i64 sent, .int .i64 last, .bool true, .bool any, .bool false, .int .i64 alarms] by simp [rc, tick, SE.out, AE.out, LE.out, HM.out])
            go_enter Try.func16, Try.ntmps16
            go_wp2_with fail
            exact bodyPost_ret (v := .tuple #[.agg #[.int .i64 every, .int .i64 dead, .int .i64 now, .int .i64 sent, .int .i64 last, .bool true, .bool any, .bool false, .int .i64 alarms], .bool false, .bool false]) (by simp [results, Try.results16, go_sem]) rfl ⟨by rw [HT.out, SE.out, AE.out], by first | go_grown | exact ((Below.refl _ _).alloc (Nat.le_refl _) _).alloc (by simp) _⟩
end Go.Proofs.Ythkilfainkcmgaa
