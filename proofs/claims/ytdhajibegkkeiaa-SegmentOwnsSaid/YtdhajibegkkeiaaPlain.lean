/- Segment: segments as plain data, and how they lie in memory. No program in sight. -/
import Derived.Test.YtdhajibegkkeiaaWords
import Derived.Laws.BytesArg
namespace Go.Proofs.Ytdhajibegkkeiaa
set_option linter.unusedVariables false
set_option linter.unusedSimpArgs false
open Go.RowKit
structure Kept (p : Prop) : Prop where
  out : p
structure Seg where
  off : Int
  data : List Int
  last : Bool
deriving DecidableEq
def Bytes (l : List Int) : Prop := ∀ x ∈ l, 0 ≤ x ∧ x ≤ 255
theorem Bytes.at_ {l : List Int} (h : Bytes l) {i : Nat} (hi : i < l.length) : 0 ≤ l.getD i 0 ∧ l.getD i 0 ≤ 255 := by
  rw [List.getD_eq_getElem?_getD, List.getElem?_eq_getElem hi]; exact h _ (List.getElem_mem hi)
theorem Bytes.take {l : List Int} (h : Bytes l) (n : Nat) : Bytes (l.take n) := fun x hx => h x (List.mem_of_mem_take hx)
theorem Bytes.drop {l : List Int} (h : Bytes l) (n : Nat) : Bytes (l.drop n) := fun x hx => h x (List.mem_of_mem_drop hx)
theorem Bytes.app {l m : List Int} (h : Bytes l) (k : Bytes m) : Bytes (l ++ m) := fun x hx => by rcases List.mem_append.1 hx with hx | hx; exact h x hx; exact k x hx
def bv (l : List Int) : List Value := l.map (Value.int .u8)
theorem bv_len (l : List Int) : (bv l).length = l.length := by simp [bv]
theorem bv_get {l : List Int} {i : Nat} (hi : i < l.length) : (bv l)[i]? = some (.int .u8 (l.getD i 0)) := by
  simp [bv, List.getD_eq_getElem?_getD, List.getElem?_eq_getElem hi]
theorem bv_one (l : List Int) : ∀ u ∈ bv l, u.oneCell' = true := by
  intro u hu
  simp only [bv, List.mem_map] at hu
  obtain ⟨x, _, rfl⟩ := hu
  rfl
theorem bv_app (l m : List Int) : bv (l ++ m) = bv l ++ bv m := by simp [bv]
theorem bv_take (l : List Int) (n : Nat) : bv (l.take n) = (bv l).take n := by simp [bv, List.map_take]
theorem bv_drop (l : List Int) (n : Nat) : bv (l.drop n) = (bv l).drop n := by simp [bv, List.map_drop]
theorem strOf_inj {l m : List Int} (hl : Bytes l) (hm : Bytes m) (h : strOfNums l = strOfNums m) : l = m := by
  have h1 := congrArg (fun s : ByteArray => s.data.toList) h
  simp only [strOfNums_data] at h1
  induction l generalizing m with
  | nil => cases m with
    | nil => rfl
    | cons b m => simp at h1
  | cons a l ih =>
    cases m with
    | nil => simp at h1
    | cons b m =>
      simp only [List.map_cons, List.cons.injEq] at h1
      obtain ⟨h2, h3⟩ := h1
      have ha := hl a (by simp)
      have hb := hm b (by simp)
      have h4 := congrArg UInt8.toNat h2
      simp only [UInt8.toNat_ofNat'] at h4
      have h5 : a = b := by omega
      rw [h5, ih (fun x hx => hl x (by simp [hx])) (fun x hx => hm x (by simp [hx])) (by unfold strOfNums; rw [h3]) h3]
theorem strOf_list (l : List Int) : (strOfNums l).toList = l.map fun n => UInt8.ofNat n.toNat := by
  rw [ByteArray.toList_eq, strOfNums_data]
theorem strOf_beq {l m : List Int} (hl : Bytes l) (hm : Bytes m) : ((strOfNums l).toList == (strOfNums m).toList) = decide (l = m) := by
  rw [Bool.eq_iff_iff, beq_iff_eq, decide_eq_true_eq]
  refine ⟨fun h => strOf_inj hl hm ?_, fun h => by rw [h]⟩
  rw [strOf_list, strOf_list] at h
  unfold strOfNums; rw [h]
def validB (s : Seg) : Bool := decide (0 ≤ s.off) && decide (s.data.length ≤ 64) && decide (s.off ≤ 1099511627776 - s.data.length)
theorem valid_iff {s : Seg} : validB s = true ↔ 0 ≤ s.off ∧ s.data.length ≤ 64 ∧ s.off ≤ 1099511627776 - s.data.length := by simp [validB, and_assoc]
def segVal (s : Seg) (A : Option Addr) (kap : Nat) : Value := .agg #[.int .i64 s.off, .slice A s.data.length kap, .bool s.last]
/-- A segment's bytes in memory. -/
structure SegAt (w : World) (B : Nat) (s : Seg) (A : Option Addr) (kap : Nat) : Prop where
  rd : Reads w B 1 A s.data.length (bv s.data)
  by_ : Bytes s.data
  le : s.data.length ≤ kap
  max : kap ≤ maxLen
theorem SegAt.below {w w' : World} {B : Nat} {s : Seg} {A : Option Addr} {kap : Nat} (h : SegAt w B s A kap) (hb : Below B w w') : SegAt w' B s A kap := ⟨h.rd.below hb, h.by_, h.le, h.max⟩
theorem SegAt.more {w : World} {B B' : Nat} {s : Seg} {A : Option Addr} {kap : Nat} (h : SegAt w B s A kap) (hB : B ≤ B') : SegAt w B' s A kap := ⟨h.rd.more hB, h.by_, h.le, h.max⟩
theorem SegAt.alloc {w : World} {B : Nat} {s : Seg} {A : Option Addr} {kap : Nat} (h : SegAt w B s A kap) (hB : B ≤ w.heap.size) (o : Obj) : SegAt (w.alloc o) B s A kap := ⟨h.rd.alloc hB o, h.by_, h.le, h.max⟩
theorem own_slice {w : World} {B sz n : Nat} {e : TypeId} {v : Value} {xs : List Value} (h : w.ownsRow B e sz v n xs) : ∃ A k, v = .slice A n k := by
  rcases h.2 with ⟨h2, rfl⟩ | ⟨g, cap, cur, h1, _⟩
  · exact ⟨_, _, h2⟩
  · exact ⟨_, _, h1⟩
theorem own_cap {w : World} {B sz n k : Nat} {e : TypeId} {A : Option Addr} {xs : List Value} (h : w.ownsRow B e sz (.slice A n k) n xs) : n ≤ k ∧ k ≤ maxLen := by
  rcases h.2 with ⟨h1, h2⟩ | ⟨g, cap, cur, h1, _, _, h4, h5, _⟩
  · cases h1; exact ⟨by omega, by unfold maxLen; omega⟩
  · injection h1 with _ _ h10; subst h10; exact ⟨h4, h5⟩
theorem own_move {w w' : World} {B sz n : Nat} {e : TypeId} {v : Value} {xs : List Value} (h : w.ownsRow B e sz v n xs) (hk : ∀ g, v.ownBlock = some g → w'.heap[g]? = w.heap[g]?) : w'.ownsRow B e sz v n xs := by
  refine ⟨h.1, ?_⟩
  rcases h.2 with h2 | ⟨g, cap, cur, rfl, h2, h3, h4⟩
  · exact .inl h2
  · exact .inr ⟨g, cap, cur, rfl, h2, (hk g rfl).trans h3, h4⟩
theorem own_new {w w' : World} {B sz n : Nat} {e : TypeId} {v : Value} {xs : List Value} (h : w.ownsRow B e sz v n xs) (hb : Below w.heap.size w w') : w'.ownsRow B e sz v n xs :=
  own_move h fun g hg => hb.block g (h.lt g hg).2
theorem own_base {w : World} {B B' sz n : Nat} {e : TypeId} {v : Value} {xs : List Value} (h : w.ownsRow B e sz v n xs) (hB : B' ≤ B) : w.ownsRow B' e sz v n xs := by
  refine ⟨h.1, ?_⟩
  rcases h.2 with h2 | ⟨g, cap, cur, h1, h2, h3⟩
  · exact .inl h2
  · exact .inr ⟨g, cap, cur, h1, by omega, h3⟩
theorem own_seg {w : World} {B : Nat} {s : Seg} {A : Option Addr} {k : Nat} (h : w.ownsRow B 5 1 (.slice A s.data.length k) s.data.length (bv s.data)) (hb : Bytes s.data) : SegAt w w.heap.size s A k :=
  ⟨Reads.of_own h, hb, (own_cap h).1, (own_cap h).2⟩
theorem reads_nil {w : World} {B sz n : Nat} {xs : List Value} (h : Reads w B sz none n xs) : n = 0 ∧ xs = [] := by
  rcases Nat.eq_zero_or_pos n with h0 | h0
  · subst h0; exact ⟨rfl, List.eq_nil_of_length_eq_zero (by simpa using h.1)⟩
  · obtain ⟨ad, h1, _⟩ := h.2 h0; cases h1
/-- The slice's cells lie in a row of plain cells. -/
theorem Reads.spot {w : World} {B sz n : Nat} {A : Option Addr} {xs : List Value} (h : Reads w B sz A n xs) (hn : 0 < n) (hs : 0 < sz) :
    ∃ b off, A = some ⟨b, off, none⟩ ∧ b < B ∧ b < w.heap.size ∧ ∀ j u, xs[j]? = some u → w.cell? ⟨b, off + j, none⟩ = some u := by
  obtain ⟨ad, rfl, hb, hc⟩ := h.2 hn
  have hl : 0 < xs.length := by rw [h.1]; exact Nat.mul_pos hn hs
  obtain ⟨b, off, spot⟩ := ad
  have h0 := hc 0 _ (List.getElem?_eq_getElem hl)
  rw [show (Addr.add ⟨b, off, spot⟩ 0) = ⟨b, off, spot⟩ by simp [Addr.add]] at h0
  have hsp : spot = none := World.cell?_spot h0
  subst hsp
  refine ⟨b, off, rfl, hb, World.block_lt_of_cell? w _ h0, fun j u hu => ?_⟩
  have := hc j u hu
  rw [← this]
  congr 1
  unfold Addr.add
  split
  · rename_i h; subst h; simp
  · rfl
/-- string(b). -/
theorem conv_reads {P : Program} {w : World} {B : Nat} {A : Option Addr} {kap : Nat} {xs : List Int} (src e dst : TypeId) (hs : P.underlying src = some (.slice e)) (he : P.underlying e = some (.int .u8)) (hd : P.underlying dst = some .string)
    (h : Reads w B 1 A xs.length (bv xs)) : (convert src dst (.slice A xs.length kap)).run P w = .ok (.string (strOfNums xs)) w := by
  rcases Nat.eq_zero_or_pos xs.length with h0 | h0
  · have hx : xs = [] := List.eq_nil_of_length_eq_zero h0
    subst hx
    rcases A with _ | ad
    · exact run_convert_bytes_nil w src e hs he _ _ dst hd
    · have h1 := run_bytesToString (P := P) w ad 0 kap [] (by simpa using run_loadCells_list (P := P) w ad [] (by simp))
      rw [run_convert_bytes_string w src dst e _ _ kap hs he hd]
      exact h1
  · obtain ⟨b, off, rfl, -, -, hc⟩ := h.spot h0 (by omega)
    exact run_convert_bytes_arg w src e hs he b off _ kap xs rfl (fun i hi => hc i _ (bv_get hi)) dst hd
end Go.Proofs.Ytdhajibegkkeiaa
