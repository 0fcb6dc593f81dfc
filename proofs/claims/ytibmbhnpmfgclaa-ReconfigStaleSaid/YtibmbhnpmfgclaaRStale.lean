/- Reconfig: a message with another epoch changes nothing. -/
import Derived.Test.YtibmbhnpmfgclaaRLaw
namespace Go.Proofs.Ytibmbhnpmfgclaa
set_option linter.unusedVariables false
set_option linter.unusedSimpArgs false
open Go.RowKit Go.Maps
theorem stale_recv {P : List Int} {ns : List Sn} {m : Mg} (hl : ns.length = P.length) (h1 : m.ep ≠ epQ ns m.to_) (h2 : m.ep ≠ epQ ns m.to_ + 1) : recvP P 0 ns m = (ns, []) := by
  unfold recvP
  by_cases he : errP P m = 0
  · rw [if_pos he]
    obtain ⟨k1, k4, f0, f1, t0, t1, h13, h24⟩ := err_none he
    have hq : epQ ns m.to_ = ((nd ns m.to_.toNat).ep : Int) := by unfold epQ; rw [if_neg (by omega)]
    rw [hq] at h1 h2
    unfold goP
    by_cases e1 : m.kind = 1
    · rw [if_pos e1]
      unfold recvPrepareP
      rw [if_neg h2]
    rw [if_neg e1]
    by_cases e2 : m.kind = 2
    · rw [if_pos e2]
      unfold recvReadyP
      rw [if_neg (fun h => h2 h.1), if_neg (fun h => h1 h.1)]
    rw [if_neg e2]
    by_cases e3 : m.kind = 3
    · rw [if_pos e3]
      unfold recvCommitP
      rw [if_neg (fun h => h2 h.1), if_neg (fun h => h1 h.1)]
    rw [if_neg e3]
    unfold recvDoneP
    rw [if_neg (fun h => h1 h.1)]
  · rw [if_neg he]
theorem err_cases (P : List Int) (m : Mg) : errP P m = 16 ∨ errP P m = 2 ∨ errP P m = 12 ∨ errP P m = 0 := by
  unfold errP; repeat' split
  all_goals simp
theorem epQ_bd {w0 w : World} {L : Lay} {xs : List Nat} {k : Nat} {M : List Nm} {fly : List Mg} {A : Option Addr} {kap : Nat} (h : St w0 L xs k M fly A kap w) (v : Int) : -1 ≤ epQ (sns M) v ∧ epQ (sns M) v ≤ k := by
  unfold epQ
  split
  · omega
  · have := h.ep v.toNat; omega
end Go.Proofs.Ytibmbhnpmfgclaa
