/- Segment: when lists of segments are joined to the same. No program in sight. -/
import Derived.Test.YtdhajibegkkeiaaPlainJ
namespace Go.Proofs.Ytdhajibegkkeiaa
set_option linter.unusedVariables false
set_option linter.unusedSimpArgs false
theorem anyL_iff {l : List Seg} : anyL l = true ↔ ∃ s ∈ l, s.last = true := by simp [anyL]
/-- What two lists must have alike. -/
structure Alike (l m : List Seg) : Prop where
  has : ∀ o x, HasL l o x ↔ HasL m o x
  low : ∀ a, IsLow l a → IsLow m a
  high : ∀ a, IsHigh l a → IsHigh m a
  bad : LastBad l ↔ LastBad m
  any : anyL l = anyL m
theorem Alike.join {l m : List Seg} {r : Res} (h : Alike l m) (j : JoinIs l r) (hl : l.length ≤ 1000) (hm : m.length ≤ 1000) (hv : AllV l) (hvm : AllV m) (hn : l ≠ []) (hnm : m ≠ []) : JoinIs m r :=
  joinIs_alike j hl hm hv hvm hn hnm h.has h.low h.high h.bad h.any
theorem alike_mem {l m : List Seg} (h : ∀ s, s ∈ l ↔ s ∈ m) : Alike l m := by
  refine ⟨fun o x => ?_, fun a => ?_, fun a => ?_, ?_, ?_⟩
  · unfold HasL; simp only [h]
  · unfold IsLow; simp only [h]; exact id
  · unfold IsHigh; simp only [h]; exact id
  · unfold LastBad; simp only [h]
  · rw [Bool.eq_iff_iff, anyL_iff, anyL_iff]; simp only [h]
/-- One segment in two pieces. -/
theorem alike_cut {l m r : List Seg} {s : Seg} {i : Nat} (hi : i ≤ s.data.length) (hl : ∀ t, t ∈ l ↔ t ∈ r ∨ t = s)
    (hm : ∀ t, t ∈ m ↔ t ∈ r ∨ t = ⟨s.off, s.data.take i, false⟩ ∨ t = ⟨s.off + i, s.data.drop i, s.last⟩) : Alike l m := by
  have hat : ∀ o x, s.at? o = some x ↔ (⟨s.off, s.data.take i, false⟩ : Seg).at? o = some x ∨ (⟨s.off + i, s.data.drop i, s.last⟩ : Seg).at? o = some x := by
    intro o x
    simp only [at_iff, Seg.fin, List.length_take, List.length_drop, List.getD_eq_getElem?_getD]
    constructor
    · rintro ⟨h1, h2, h3⟩
      by_cases c : o < s.off + i
      · left
        refine ⟨h1, by omega, ?_⟩
        rw [List.getElem?_take_of_lt (by omega)]; exact h3
      · right
        refine ⟨by omega, by omega, ?_⟩
        rw [List.getElem?_drop, show i + (o - (s.off + i)).toNat = (o - s.off).toNat by omega]; exact h3
    · rintro (⟨h1, h2, h3⟩ | ⟨h1, h2, h3⟩)
      · refine ⟨h1, by omega, ?_⟩
        rw [List.getElem?_take_of_lt (by omega)] at h3; exact h3
      · refine ⟨by omega, by omega, ?_⟩
        rw [List.getElem?_drop, show i + (o - (s.off + i)).toNat = (o - s.off).toNat by omega] at h3; exact h3
  have fa : (⟨s.off, s.data.take i, false⟩ : Seg).fin = s.off + i := by simp only [Seg.fin, List.length_take]; omega
  have fb : (⟨s.off + i, s.data.drop i, s.last⟩ : Seg).fin = s.fin := by simp only [Seg.fin, List.length_drop]; omega
  have fs : s.fin = s.off + s.data.length := rfl
  have ma := (hm ⟨s.off, s.data.take i, false⟩).2 (.inr (.inl rfl))
  have mb := (hm ⟨s.off + i, s.data.drop i, s.last⟩).2 (.inr (.inr rfl))
  have ms := (hl s).2 (.inr rfl)
  refine ⟨fun o x => ⟨?_, ?_⟩, ?_, ?_, ⟨?_, ?_⟩, ?_⟩
  · rintro ⟨t, ht, hx⟩
    rcases (hl t).1 ht with ht | rfl
    · exact ⟨t, (hm t).2 (.inl ht), hx⟩
    · rcases (hat o x).1 hx with hx | hx
      · exact ⟨_, ma, hx⟩
      · exact ⟨_, mb, hx⟩
  · rintro ⟨t, ht, hx⟩
    rcases (hm t).1 ht with ht | rfl | rfl
    · exact ⟨t, (hl t).2 (.inl ht), hx⟩
    · exact ⟨s, ms, (hat o x).2 (.inl hx)⟩
    · exact ⟨s, ms, (hat o x).2 (.inr hx)⟩
  · rintro a ⟨⟨t, ht, e⟩, h2⟩
    refine ⟨?_, fun u hu => ?_⟩
    · rcases (hl t).1 ht with ht | rfl
      · exact ⟨t, (hm t).2 (.inl ht), e⟩
      · exact ⟨_, ma, e⟩
    · rcases (hm u).1 hu with hu | rfl | rfl
      · exact h2 u ((hl u).2 (.inl hu))
      · exact h2 s ms
      · have := h2 s ms
        show a ≤ s.off + i
        omega
  · rintro a ⟨⟨t, ht, e⟩, h2⟩
    refine ⟨?_, fun u hu => ?_⟩
    · rcases (hl t).1 ht with ht | rfl
      · exact ⟨t, (hm t).2 (.inl ht), e⟩
      · exact ⟨_, mb, by rw [fb]; exact e⟩
    · rcases (hm u).1 hu with hu | rfl | rfl
      · exact h2 u ((hl u).2 (.inl hu))
      · have := h2 s ms
        rw [fa]; omega
      · rw [fb]; exact h2 s ms
  · rintro ⟨t, ht, h1, u, hu, h2⟩
    have hu' : ∃ u' ∈ m, u.fin ≤ u'.fin := by
      rcases (hl u).1 hu with hu | rfl
      · exact ⟨u, (hm u).2 (.inl hu), Int.le_refl _⟩
      · exact ⟨_, mb, by rw [fb]; exact Int.le_refl _⟩
    obtain ⟨u', hu1, hu2⟩ := hu'
    rcases (hl t).1 ht with ht | rfl
    · exact ⟨t, (hm t).2 (.inl ht), h1, u', hu1, by omega⟩
    · exact ⟨_, mb, h1, u', hu1, by rw [fb]; omega⟩
  · rintro ⟨t, ht, h1, u, hu, h2⟩
    have hu' : ∃ u' ∈ l, u.fin ≤ u'.fin := by
      rcases (hm u).1 hu with hu | rfl | rfl
      · exact ⟨u, (hl u).2 (.inl hu), Int.le_refl _⟩
      · exact ⟨s, ms, by rw [fa]; omega⟩
      · exact ⟨s, ms, by rw [fb]; exact Int.le_refl _⟩
    obtain ⟨u', hu1, hu2⟩ := hu'
    rcases (hm t).1 ht with ht | rfl | rfl
    · exact ⟨t, (hl t).2 (.inl ht), h1, u', hu1, by omega⟩
    · cases h1
    · rw [fb] at h2
      exact ⟨s, ms, h1, u', hu1, by omega⟩
  · rw [Bool.eq_iff_iff, anyL_iff, anyL_iff]
    constructor
    · rintro ⟨t, ht, h1⟩
      rcases (hl t).1 ht with ht | rfl
      · exact ⟨t, (hm t).2 (.inl ht), h1⟩
      · exact ⟨_, mb, h1⟩
    · rintro ⟨t, ht, h1⟩
      rcases (hm t).1 ht with ht | rfl | rfl
      · exact ⟨t, (hl t).2 (.inl ht), h1⟩
      · cases h1
      · exact ⟨s, ms, h1⟩
theorem valid_pieces {s : Seg} {i : Nat} (hv : validB s = true) (hi : i ≤ s.data.length) : validB ⟨s.off, s.data.take i, false⟩ = true ∧ validB ⟨s.off + i, s.data.drop i, s.last⟩ = true := by
  obtain ⟨x1, x2, x3⟩ := valid_iff.1 hv
  refine ⟨valid_iff.2 ⟨x1, ?_, ?_⟩, valid_iff.2 ⟨?_, ?_, ?_⟩⟩
  all_goals simp only [List.length_take, List.length_drop]
  all_goals omega
/-- One valid segment is joined to itself. -/
theorem join_one {s : Seg} (hv : validB s = true) : JoinIs [s] ⟨s.data, s.off, s.last, 0⟩ := by
  have hb : anyL [s] = s.last := by simp [anyL]
  rw [← hb]
  refine .ok (hi := s.fin) (by simp) (fun t ht => by simp at ht; rw [ht]; exact hv) (by simp) ?_ ⟨⟨s, by simp, rfl⟩, fun t ht => by simp at ht; rw [ht]; exact Int.le_refl _⟩ ⟨⟨s, by simp, rfl⟩, fun t ht => by simp at ht; rw [ht]; exact Int.le_refl _⟩ (by unfold Seg.fin; omega) fun i hi => ?_
  · rintro (h | ⟨t, ht, _, u, hu, hlt⟩)
    · refine h fun o x y ⟨t, ht, hx⟩ ⟨u, hu, hy⟩ => ?_
      simp at ht hu
      rw [ht] at hx; rw [hu, hx] at hy
      injection hy
    · simp at ht hu
      rw [ht, hu] at hlt
      omega
  · simp only [kn]
    rw [at_iff.2 ⟨by omega, by unfold Seg.fin; omega, rfl⟩]
    rw [show (s.off + (i : Int) - s.off).toNat = i by omega]
theorem cut_join {s : Seg} {i : Nat} {r : Res} (hv : validB s = true) (hi : i ≤ s.data.length) (h : JoinIs [⟨s.off + i, s.data.drop i, s.last⟩, ⟨s.off, s.data.take i, false⟩] r) : r = ⟨s.data, s.off, s.last, 0⟩ := by
  obtain ⟨v1, v2⟩ := valid_pieces hv hi
  refine joinIs_uniq h ((alike_cut (r := []) hi (fun t => by simp) (fun t => by simp [or_comm])).join (join_one hv) (by simp) (by simp) (fun t ht => by simp at ht; rw [ht]; exact hv) (fun t ht => ?_) (by simp) (by simp))
  simp at ht
  rcases ht with rfl | rfl
  · exact v2
  · exact v1
end Go.Proofs.Ytdhajibegkkeiaa
