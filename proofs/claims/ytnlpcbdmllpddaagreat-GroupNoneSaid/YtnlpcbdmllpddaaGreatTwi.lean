import Derived.Test.YtnlpcbdmllpddaaGreatTwa
import Derived.Test.YtnlpcbdmllpddaaGreatTwb
import Derived.Test.YtnlpcbdmllpddaaGreatTwc
import Derived.Test.YtnlpcbdmllpddaaGreatTwd
import Derived.Test.YtnlpcbdmllpddaaGreatTwe
import Derived.Test.YtnlpcbdmllpddaaGreatTwf
import Derived.Test.YtnlpcbdmllpddaaGreatTwg
import Derived.Test.YtnlpcbdmllpddaaGreatTwh
section
/- Good calls: what is asked is so. -/
namespace Go.Proofs.YtnlpcbdmllpddaaGreat
open Go SE
theorem emp_eq (a : BA) : eqB a (ByteArray.mk #[]) = emp a := rfl
theorem keyedVC_true (x : Int) : keyedVC x := by
  unfold keyedVC
  simp only [hd_iff, and_true, true_and, Nat.zero_add, Nat.add_zero, unit_ex, unit_all, true_implies, implies_true, Int.toNat_natCast, eq_self, and_self, cP_iff, beq_iff_eq, beq_eq_false_iff_ne, keyedM]
  refine ⟨fun h => by simp [h], fun h => ⟨fun h2 => by simp [h2], fun h2 => ?_⟩⟩
  simp only [h, h2, decide_false, Bool.false_or]; by_cases h3 : x = 3 <;> simp [h3]
theorem groupedVC_true (x : Int) : groupedVC x := by
  unfold groupedVC
  simp only [hd_iff, and_true, true_and, Nat.zero_add, Nat.add_zero, unit_ex, unit_all, true_implies, implies_true, Int.toNat_natCast, eq_self, and_self, cP_iff, beq_iff_eq, beq_eq_false_iff_ne, groupedM]
  refine ⟨fun h => by simp [h], fun h => ⟨fun h2 => by simp [h2], fun h2 => ?_⟩⟩
  simp only [h, h2, decide_false, Bool.false_or]; by_cases h3 : x = 4 <;> simp [h3]
theorem keyed_ok : CtrOk Tryz.prog 175 keyedC := det_end tt_ok mixed TblOk.nil (fun _ => noAn) 200 5 (fun _ => rfl) (fun _ => rfl) fun x _ => Eq.mp (keyedVC_ok x) (keyedVC_true x)
theorem grouped_ok : CtrOk Tryz.prog 176 groupedC := det_end tt_ok mixed TblOk.nil (fun _ => noAn) 200 5 (fun _ => rfl) (fun _ => rfl) fun x _ => Eq.mp (groupedVC_ok x) (groupedVC_true x)
theorem tblKG_ok : TblOk Tryz.prog tblKG := .cons (ctrT_ok keyed_ok) (.cons (ctrT_ok grouped_ok) .nil)
theorem shape_kind {c : Cll} (h : ¬ (1 ≤ c.kind ∧ c.kind ≤ 8)) : shapeM c = false := by simp [shapeM, h]
theorem shape_key {c : Cll} (h : keyedM c.kind = true) (he : emp c.key = true) : shapeM c = false := by simp [shapeM, h, he]
theorem shape_plain {c : Cll} (h : 1 ≤ c.kind ∧ c.kind ≤ 8) (he : (keyedM c.kind && emp c.key) = false) (h7 : c.kind ≠ 7) : shapeM c = true := by simp [shapeM, h, he, h7]
theorem shape_n {c : Cll} (h : c.kind = 7) (hn : ¬ (1 ≤ c.gn ∧ c.gn ≤ 3)) : shapeM c = false := by
  simp only [shapeM, h, ne_eq, not_true_eq_false, decide_false, Bool.false_or, Bool.and_eq_false_iff, decide_eq_false_iff_not]
  exact .inr fun hh => hn ⟨hh.1, hh.2.1⟩
theorem shape_bad {c : Cll} (h : c.kind = 7) {i : Nat} (hi : i < c.gn) (hb : memOk c.g i = false) : shapeM c = false := by
  simp only [shapeM, h, ne_eq, not_true_eq_false, decide_false, Bool.false_or, Bool.and_eq_false_iff, decide_eq_false_iff_not]
  refine .inr fun hh => ?_
  rw [hh.2.2 i hi] at hb; cases hb
theorem shape_group {c : Cll} (h : c.kind = 7) (hn : 1 ≤ c.gn ∧ c.gn ≤ 3) (hm : invMs c c.gn) : shapeM c = true := by
  have : keyedM 7 = false := rfl
  simp only [shapeM, h, this, hn.1, hn.2, ne_eq, not_true_eq_false, decide_false, Bool.false_or, true_and, Bool.false_and, Bool.not_false, Bool.and_true, Bool.and_eq_true, decide_eq_true_eq]
  exact ⟨by omega, hm⟩
theorem mem_bad {c : Cll} {i : Nat} (h : groupedM (c.g i).kind = false ∨ (keyedM (c.g i).kind && emp (c.g i).key) = true ∨ ∃ j, j < i ∧ clash c i j = true) : memOk c.g i = false := by
  unfold memOk
  rcases h with h | h | ⟨j, hj, h⟩
  · rw [h]; rfl
  · rw [h]; simp
  · rw [Bool.and_eq_false_iff]
    refine .inr (decide_eq_false fun hh => ?_)
    have := hh j hj
    unfold clash at h
    rw [h] at this; cases this
theorem mem_good {c : Cll} {i : Nat} (h1 : groupedM (c.g i).kind = true) (h2 : (keyedM (c.g i).kind && emp (c.g i).key) = false) (h3 : invJ c i i) : memOk c.g i = true := by
  unfold memOk
  simp only [h1, h2, Bool.not_false, Bool.and_true, Bool.true_and, decide_eq_true_eq]
  exact h3
theorem invMs_next {c : Cll} {i : Nat} (h : invMs c i) (hm : memOk c.g i = true) : invMs c (i + 1) := fun j hj => by
  rcases Nat.lt_or_ge j i with h' | h'
  · exact h j h'
  · have : j = i := by omega
    subst this; exact hm
theorem invJ_next {c : Cll} {i j : Nat} (h : invJ c i j) (hm : clash c i j = false) : invJ c i (j + 1) := fun q hq => by
  rcases Nat.lt_or_ge q j with h' | h'
  · exact h q h'
  · have : q = j := by omega
    subst this; exact hm
theorem shapeAVC_true (c : Cll) (hc : c.gn < 1099511627776) : shapeAVC c := by
  unfold shapeAVC
  simp only [hd_iff, and_true, true_and, Nat.zero_add, Nat.add_zero, unit_ex, unit_all, true_implies, implies_true, Int.toNat_natCast, eq_self, and_self, eL, emp_eq]
  refine cP_intro (fun h1 => shape_kind (by have := of_decide_eq_true h1; omega)) (fun h1 => cP_intro (fun h2 => shape_kind (by have := of_decide_eq_true h2; omega)) (fun h2 => ⟨_, rfl, ?_⟩))
  have h1 := of_decide_eq_false h1
  have h2 := of_decide_eq_false h2
  refine cP_intro (fun hk => cP_intro (fun he => shape_key hk he) (fun he => ?_)) (fun hk => ?_)
  all_goals
    refine cP_intro (fun h7 => shape_plain (by omega) (by rw [hk]; first | rfl | (rw [he]; rfl)) (by simpa using h7)) (fun h7 => ?_)
    have h7 : c.kind = 7 := by simpa using h7
    first | (rw [h7] at hk; cases hk; done) | skip
  refine cP_intro (fun hn => shape_n h7 (by have := of_decide_eq_true hn; omega)) (fun hn => cP_intro (fun hn2 => shape_n h7 (by have := of_decide_eq_true hn2; omega)) (fun hn2 => ?_))
  have hn := of_decide_eq_false hn
  have hn2 := of_decide_eq_false hn2
  refine ⟨⟨0, ⟨by omega, fun j hj => by omega⟩, rfl⟩, fun i ⟨hi, hms⟩ => cP_intro (fun hb => ?_) (fun hb => ?_)⟩
  · have hb := of_decide_eq_true hb
    have hl : i < c.gn := by omega
    refine ⟨⟨by omega, hb⟩, hl, _, rfl, cP_intro (fun hg => shape_bad h7 hl (mem_bad (.inl (by simpa using hg)))) (fun hg => ⟨_, rfl, ?_⟩)⟩
    have hg : groupedM (c.g i).kind = true := by simpa using hg
    refine cP_intro (fun hk2 => cP_intro (fun he => shape_bad h7 hl (mem_bad (.inr (.inl (by rw [hk2, he]; rfl))))) (fun he => ?_)) (fun hk2 => ?_)
    all_goals
      have hke : (keyedM (c.g i).kind && emp (c.g i).key) = false := by rw [hk2]; first | rfl | (rw [he]; rfl)
      refine ⟨by omega, by omega, ⟨0, ⟨by omega, fun j hj => by omega⟩, rfl⟩, fun j ⟨hj, hjs⟩ => ?_⟩
      refine cP_intro (fun hb => ?_) (fun hb => ?_)
      · have hb := of_decide_eq_true hb
        have next : clash c i j = false → I64 ((j : Int) + 1) ∧ ∃ q : Nat, (q ≤ i ∧ invJ c i q) ∧ i - q < i - j ∧ (q : Int) = (j : Int) + 1 := fun h => ⟨by unfold I64; omega, j + 1, ⟨by omega, invJ_next hjs h⟩, by omega, rfl⟩
        refine ⟨⟨by omega, hb⟩, by omega, _, rfl, cP_intro (fun ha => ⟨_, rfl, cP_intro (fun hb2 => cP_intro (fun hq => ?_) (fun hq => ?_)) (fun hb2 => ?_)⟩) (fun ha => ?_)⟩
        · exact shape_bad h7 hl (mem_bad (.inr (.inr ⟨j, by omega, by simp [clash, ha, hb2, hq]⟩)))
        · exact next (by unfold clash; rw [hq]; simp)
        · exact next (by unfold clash; rw [hb2]; simp)
        · exact next (by unfold clash; rw [ha]; simp)
      · have hb := of_decide_eq_false hb
        have : j = i := by omega
        subst this
        exact ⟨by unfold I64; omega, j + 1, ⟨by omega, invMs_next hms (mem_good hg hke hjs)⟩, by omega, rfl⟩
  · have : i = c.gn := by have := of_decide_eq_false hb; omega
    subst this
    exact shape_group h7 (by omega) hms
theorem shapeWVC_true (c : Cll) (hc : c.gn < 1099511627776) : shapeWVC c := by
  unfold shapeWVC
  simp only [hd_iff, and_true, true_and, Nat.zero_add, Nat.add_zero, unit_ex, unit_all, true_implies, implies_true, Int.toNat_natCast, eq_self, and_self, eL, emp_eq]
  refine cP_intro (fun h1 => shape_kind (by have := of_decide_eq_true h1; omega)) (fun h1 => cP_intro (fun h2 => shape_kind (by have := of_decide_eq_true h2; omega)) (fun h2 => ⟨_, rfl, ?_⟩))
  have h1 := of_decide_eq_false h1
  have h2 := of_decide_eq_false h2
  refine cP_intro (fun hk => cP_intro (fun he => shape_key hk he) (fun he => ?_)) (fun hk => ?_)
  all_goals
    refine cP_intro (fun h7 => shape_plain (by omega) (by rw [hk]; first | rfl | (rw [he]; rfl)) (by simpa using h7)) (fun h7 => ?_)
    have h7 : c.kind = 7 := by simpa using h7
    first | (rw [h7] at hk; cases hk; done) | skip
  refine cP_intro (fun hn => shape_n h7 (by have := of_decide_eq_true hn; omega)) (fun hn => cP_intro (fun hn2 => shape_n h7 (by have := of_decide_eq_true hn2; omega)) (fun hn2 => ?_))
  have hn := of_decide_eq_false hn
  have hn2 := of_decide_eq_false hn2
  refine ⟨⟨0, ⟨by omega, fun j hj => by omega⟩, rfl⟩, fun i ⟨hi, hms⟩ => cP_intro (fun hb => ?_) (fun hb => ?_)⟩
  · have hb := of_decide_eq_true hb
    have hl : i < c.gn := by omega
    refine ⟨⟨by omega, hb⟩, hl, _, rfl, cP_intro (fun hg => shape_bad h7 hl (mem_bad (.inl (by simpa using hg)))) (fun hg => ⟨_, rfl, ?_⟩)⟩
    have hg : groupedM (c.g i).kind = true := by simpa using hg
    refine cP_intro (fun hk2 => cP_intro (fun he => shape_bad h7 hl (mem_bad (.inr (.inl (by rw [hk2, he]; rfl))))) (fun he => ?_)) (fun hk2 => ?_)
    all_goals
      have hke : (keyedM (c.g i).kind && emp (c.g i).key) = false := by rw [hk2]; first | rfl | (rw [he]; rfl)
      refine ⟨by omega, by omega, ⟨0, ⟨by omega, fun j hj => by omega⟩, rfl⟩, fun j ⟨hj, hjs⟩ => ?_⟩
      refine cP_intro (fun hb => ?_) (fun hb => ?_)
      · have hb := of_decide_eq_true hb
        have next : clash c i j = false → I64 ((j : Int) + 1) ∧ ∃ q : Nat, (q ≤ i ∧ invJ c i q) ∧ i - q < i - j ∧ (q : Int) = (j : Int) + 1 := fun h => ⟨by unfold I64; omega, j + 1, ⟨by omega, invJ_next hjs h⟩, by omega, rfl⟩
        refine ⟨⟨by omega, hb⟩, by omega, _, rfl, cP_intro (fun ha => ⟨_, rfl, cP_intro (fun hb2 => cP_intro (fun hq => ?_) (fun hq => ?_)) (fun hb2 => ?_)⟩) (fun ha => ?_)⟩
        · exact shape_bad h7 hl (mem_bad (.inr (.inr ⟨j, by omega, by simp [clash, ha, hb2, hq]⟩)))
        · exact next (by unfold clash; rw [hq]; simp)
        · exact next (by unfold clash; rw [hb2]; simp)
        · exact next (by unfold clash; rw [ha]; simp)
      · have hb := of_decide_eq_false hb
        have : j = i := by omega
        subst this
        exact ⟨by unfold I64; omega, j + 1, ⟨by omega, invMs_next hms (mem_good hg hke hjs)⟩, by omega, rfl⟩
  · have : i = c.gn := by have := of_decide_eq_false hb; omega
    subst this
    exact shape_group h7 (by omega) hms
theorem gt16 {a b : Int} : decide (a > b) = decide (b < a) := rfl
theorem longMemVC_true (x : Mem) : longMemVC x := by
  unfold longMemVC
  simp only [hd_iff, and_true, true_and, Nat.zero_add, Nat.add_zero, unit_ex, unit_all, true_implies, implies_true, Int.toNat_natCast, eq_self, and_self, cP_iff, beq_iff_eq, beq_eq_false_iff_ne, gt16, longK]
  refine ⟨fun h => by simp [h], fun h1 => ⟨fun h => by simp [h], fun h3 => ⟨fun h => ?_, fun h2 => ⟨fun h => by simp [h], fun h4 => ⟨fun h => ?_, fun h6 => ⟨fun h => by simp [h], fun h7 => by simp [h1, h2, h3, h4, h6]⟩⟩⟩⟩⟩⟩
  · refine ⟨fun hk => ?_, fun hk => ?_⟩ <;> rw [h, hk] <;> rfl
  · refine ⟨fun hk => ?_, fun hk => ?_⟩ <;> rw [h, hk] <;> rfl
theorem long_plain {c : Cll} (h : c.kind ≠ 7) : longM c = longK c.kind c.key c.value c.to := by simp [longM, h]
theorem longK7 (a b d : BA) : longK 7 a b d = false := rfl
theorem long_some {c : Cll} (h : c.kind = 7) {i : Nat} (hi : i < c.gn) (hl : longK (c.g i).kind (c.g i).key (c.g i).value (c.g i).to = true) : longM c = true := by
  simp only [longM, h, longK7, Bool.false_or, decide_true, Bool.true_and, decide_eq_true_eq]
  exact ⟨i, hi, hl⟩
theorem long_none {c : Cll} (h : c.kind = 7) (hl : invLong c c.gn) : longM c = false := by
  simp only [longM, h, longK7, Bool.false_or, decide_true, Bool.true_and, decide_eq_false_iff_not]
  rintro ⟨i, hi, h'⟩
  rw [hl i hi] at h'; cases h'
theorem invLong_next {c : Cll} {i : Nat} (h : invLong c i) (hm : longK (c.g i).kind (c.g i).key (c.g i).value (c.g i).to = false) : invLong c (i + 1) := fun j hj => by
  rcases Nat.lt_or_ge j i with h' | h'
  · exact h j h'
  · have : j = i := by omega
    subst this; exact hm
theorem longAVC_true (c : Cll) (hc : c.small) : longAVC c := by
  unfold longAVC
  simp only [hd_iff, and_true, true_and, Nat.zero_add, Nat.add_zero, unit_ex, unit_all, true_implies, implies_true, Int.toNat_natCast, eq_self, and_self]
  have hp := fun h => long_plain (c := c) h
  have sm := fun i hi => (hc.2.2.2.2 i hi).2.2.2
  have hgn := hc.2.2.2.1
  refine cP_intro (fun h => ?_) (fun h1 => cP_intro (fun h => ?_) (fun h3 => cP_intro (fun h => ?_) (fun h2 => cP_intro (fun h => ?_) (fun h4 => cP_intro (fun h => ?_) (fun h6 => cP_intro (fun h => ?_) (fun h7 => ?_))))))
  all_goals simp only [beq_iff_eq, beq_eq_false_iff_ne] at *
  · rw [hp (by omega), h]; rfl
  · rw [hp (by omega), h]; rfl
  · rw [hp (by omega), h]
    refine cP_intro (fun hk => ?_) (fun hk => ?_) <;> simp only [gt16] at hk
    · have e : ∀ v t : BA, longK 2 c.key v t = true := fun v t => by unfold longK; rw [hk]; rfl
      exact e _ _
    · have e : ∀ v t : BA, longK 2 c.key v t = decide ((400 : Int) < (v.size : Nat)) := fun v t => by unfold longK; rw [hk]; rfl
      exact e _ _
  · rw [hp (by omega), h]; rfl
  · rw [hp (by omega), h]
    refine cP_intro (fun hk => ?_) (fun hk => ?_) <;> simp only [gt16] at hk
    · have e : ∀ v t : BA, longK 6 c.key v t = true := fun v t => by unfold longK; rw [hk]; rfl
      exact e _ _
    · have e : ∀ v t : BA, longK 6 c.key v t = decide ((16 : Int) < (t.size : Nat)) := fun v t => by unfold longK; rw [hk]; rfl
      exact e _ _
  · refine ⟨⟨0, ⟨by omega, fun j hj => by omega⟩, rfl⟩, fun i ⟨hi, hall⟩ => cP_intro (fun hb => ?_) (fun hb => ?_)⟩
    · have hb := of_decide_eq_true hb
      have hl : i < c.gn := by omega
      refine ⟨⟨by omega, hb⟩, hl, ⟨(c.g i).kind, (c.g i).key, (c.g i).value, (c.g i).to, (c.g i).gp, 0, (c.g i).gc⟩, ⟨rfl, rfl, rfl, rfl, by rw [sm i hl]⟩, cP_intro (fun hx => ?_) (fun hx => ?_)⟩
      · rw [long_some h hl hx]; exact (decide_eq_true (by omega)).symm
      · exact ⟨by unfold I64; omega, i + 1, ⟨by omega, invLong_next hall hx⟩, by omega, rfl⟩
    · have : i = c.gn := by have := of_decide_eq_false hb; omega
      subst this; exact long_none h hall
  · rw [hp (by omega)]; simp [longK, *]
theorem longWVC_true (c : Cll) (hc : c.small) : longWVC c := by
  unfold longWVC
  simp only [hd_iff, and_true, true_and, Nat.zero_add, Nat.add_zero, unit_ex, unit_all, true_implies, implies_true, Int.toNat_natCast, eq_self, and_self]
  have hp := fun h => long_plain (c := c) h
  have sm := fun i hi => (hc.2.2.2.2 i hi).2.2.2
  have hgn := hc.2.2.2.1
  refine cP_intro (fun h => ?_) (fun h1 => cP_intro (fun h => ?_) (fun h3 => cP_intro (fun h => ?_) (fun h2 => cP_intro (fun h => ?_) (fun h4 => cP_intro (fun h => ?_) (fun h6 => cP_intro (fun h => ?_) (fun h7 => ?_))))))
  all_goals simp only [beq_iff_eq, beq_eq_false_iff_ne] at *
  · rw [hp (by omega), h]; rfl
  · rw [hp (by omega), h]; rfl
  · rw [hp (by omega), h]
    refine cP_intro (fun hk => ?_) (fun hk => ?_) <;> simp only [gt16] at hk
    · have e : ∀ v t : BA, longK 2 c.key v t = true := fun v t => by unfold longK; rw [hk]; rfl
      exact e _ _
    · have e : ∀ v t : BA, longK 2 c.key v t = decide ((400 : Int) < (v.size : Nat)) := fun v t => by unfold longK; rw [hk]; rfl
      exact e _ _
  · rw [hp (by omega), h]; rfl
  · rw [hp (by omega), h]
    refine cP_intro (fun hk => ?_) (fun hk => ?_) <;> simp only [gt16] at hk
    · have e : ∀ v t : BA, longK 6 c.key v t = true := fun v t => by unfold longK; rw [hk]; rfl
      exact e _ _
    · have e : ∀ v t : BA, longK 6 c.key v t = decide ((16 : Int) < (t.size : Nat)) := fun v t => by unfold longK; rw [hk]; rfl
      exact e _ _
  · refine ⟨⟨0, ⟨by omega, fun j hj => by omega⟩, rfl⟩, fun i ⟨hi, hall⟩ => cP_intro (fun hb => ?_) (fun hb => ?_)⟩
    · have hb := of_decide_eq_true hb
      have hl : i < c.gn := by omega
      refine ⟨⟨by omega, hb⟩, hl, c.g i, ⟨rfl, rfl, rfl, rfl, by rw [sm i hl]⟩, cP_intro (fun hx => ?_) (fun hx => ?_)⟩
      · rw [long_some h hl hx]; exact (decide_eq_true (by omega)).symm
      · exact ⟨by unfold I64; omega, i + 1, ⟨by omega, invLong_next hall hx⟩, by omega, rfl⟩
    · have : i = c.gn := by have := of_decide_eq_false hb; omega
      subst this; exact long_none h hall
  · rw [hp (by omega)]; simp [longK, *]
theorem shapeNVC_true (c : Cll) (h0 : c.gn = 0) : shapeNVC c := by
  unfold shapeNVC
  simp only [hd_iff, and_true, true_and, Nat.zero_add, Nat.add_zero, unit_ex, unit_all, true_implies, implies_true, Int.toNat_natCast, eq_self, and_self, eL, emp_eq]
  refine cP_intro (fun h1 => shape_kind (by have := of_decide_eq_true h1; omega)) (fun h1 => cP_intro (fun h2 => shape_kind (by have := of_decide_eq_true h2; omega)) (fun h2 => ⟨_, rfl, ?_⟩))
  have h1 := of_decide_eq_false h1
  have h2 := of_decide_eq_false h2
  refine cP_intro (fun hk => cP_intro (fun he => shape_key hk he) (fun he => ?_)) (fun hk => ?_)
  all_goals
    refine cP_intro (fun h7 => shape_plain (by omega) (by rw [hk]; first | rfl | (rw [he]; rfl)) (by simpa using h7)) (fun h7 => ?_)
    have h7 : c.kind = 7 := by simpa using h7
    exact shape_n h7 (by omega)
theorem longNVC_true (c : Cll) (h0 : c.gn = 0) : longNVC c := by
  unfold longNVC
  simp only [hd_iff, and_true, true_and, Nat.zero_add, Nat.add_zero, unit_ex, unit_all, true_implies, implies_true, Int.toNat_natCast, eq_self, and_self]
  have hp := fun h => long_plain (c := c) h
  refine cP_intro (fun h => ?_) (fun h1 => cP_intro (fun h => ?_) (fun h3 => cP_intro (fun h => ?_) (fun h2 => cP_intro (fun h => ?_) (fun h4 => cP_intro (fun h => ?_) (fun h6 => cP_intro (fun h => ?_) (fun h7 => ?_))))))
  all_goals simp only [beq_iff_eq, beq_eq_false_iff_ne] at *
  · rw [hp (by omega), h]; rfl
  · rw [hp (by omega), h]; rfl
  · rw [hp (by omega), h]
    refine cP_intro (fun hk => ?_) (fun hk => ?_) <;> simp only [gt16] at hk
    · have e : ∀ v t : BA, longK 2 c.key v t = true := fun v t => by unfold longK; rw [hk]; rfl
      exact e _ _
    · have e : ∀ v t : BA, longK 2 c.key v t = decide ((400 : Int) < (v.size : Nat)) := fun v t => by unfold longK; rw [hk]; rfl
      exact e _ _
  · rw [hp (by omega), h]; rfl
  · rw [hp (by omega), h]
    refine cP_intro (fun hk => ?_) (fun hk => ?_) <;> simp only [gt16] at hk
    · have e : ∀ v t : BA, longK 6 c.key v t = true := fun v t => by unfold longK; rw [hk]; rfl
      exact e _ _
    · have e : ∀ v t : BA, longK 6 c.key v t = decide ((16 : Int) < (t.size : Nat)) := fun v t => by unfold longK; rw [hk]; rfl
      exact e _ _
  · exact ⟨⟨0, ⟨by omega, fun j hj => by omega⟩, rfl⟩, fun s hs => long_none h (fun j hj => by omega)⟩
  · rw [hp (by omega)]; simp [longK, *]
theorem longMem_ok : CtrOk Tryz.prog 89 longMemC := det_end tt_ok mixed TblOk.nil (fun _ => noAn) 200 5 (fun _ => rfl) (fun _ => rfl) fun x _ => Eq.mp (longMemVC_ok x) (longMemVC_true x)
theorem shapeA_ok : CtrOk Tryz.prog 88 shapeA := det_end tt_ok mixed tblKG_ok anShape 200 5 (fun _ => rfl) (fun _ => rfl) fun x hx => Eq.mp (shapeAVC_ok x) (shapeAVC_true x (by have := (hd_iff.1 hx).2.2.2.1; omega))
theorem longA_ok : CtrOk Tryz.prog 89 longA := det_end tt_ok mixed (.cons (ctrT_ok longMem_ok) .nil) anLong 200 5 (fun _ => rfl) (fun _ => rfl) fun x hx => Eq.mp (longAVC_ok x) (longAVC_true x (hd_iff.1 hx))
theorem shapeW_ok : CtrOk Tryz.prog 88 shapeW := det_end tt_ok mixed tblKG_ok anShape 200 5 (fun _ => rfl) (fun _ => rfl) fun x hx => Eq.mp (shapeWVC_ok x) (shapeWVC_true x (by have := (hd_iff.1 hx).2.2.2.1; omega))
theorem longW_ok : CtrOk Tryz.prog 89 longW := det_end tt_ok mixed (.cons (ctrT_ok longMem_ok) .nil) anLong 200 5 (fun _ => rfl) (fun _ => rfl) fun x hx => Eq.mp (longWVC_ok x) (longWVC_true x (hd_iff.1 hx))
theorem shapeN_ok : CtrOk Tryz.prog 88 shapeN := det_end tt_ok mixed tblKG_ok anShape 200 5 (fun _ => rfl) (fun _ => rfl) fun x hx => Eq.mp (shapeNVC_ok x) (shapeNVC_true x (hd_iff.1 hx))
theorem longN_ok : CtrOk Tryz.prog 89 longN := det_end tt_ok mixed (.cons (ctrT_ok longMem_ok) .nil) anLong 200 5 (fun _ => rfl) (fun _ => rfl) fun x hx => Eq.mp (longNVC_ok x) (longNVC_true x (hd_iff.1 hx))
theorem goodAVC_true (c : Cll) (hc : c.small) : goodAVC c := by
  unfold goodAVC
  simp only [hd_iff, and_true, true_and, Nat.zero_add, Nat.add_zero, unit_ex, unit_all, true_implies, implies_true, Int.toNat_natCast, eq_self, and_self]
  refine ⟨c, hc, ⟨rfl, rfl, rfl, rfl, rfl⟩, ⟨rfl, fun _ _ => rfl⟩, cP_intro (fun h => ?_) (fun h => ⟨c, hc, ⟨rfl, rfl, rfl, rfl, rfl⟩, ⟨rfl, fun _ _ => rfl⟩, cP_intro (fun h2 => ?_) (fun h2 => ?_)⟩)⟩
  · have h : shapeM c = false := by simpa using h
    unfold goodM; rw [h]; rfl
  · have h : shapeM c = true := by simpa using h
    unfold goodM; rw [h, h2]; rfl
  · have h : shapeM c = true := by simpa using h
    unfold goodM; rw [h, h2]; rfl
theorem goodA_ok : CtrOk Tryz.prog 36 goodA := det_end tt_ok mixed (.cons (ctrT_ok shapeA_ok) (.cons (ctrT_ok longA_ok) .nil)) (fun _ => noAn) 200 5 (fun _ => rfl) (fun _ => rfl) fun x hx => Eq.mp (goodAVC_ok x) (goodAVC_true x (hd_iff.1 hx))
theorem goodWVC_true (c : Cll) (hc : c.small) : goodWVC c := by
  unfold goodWVC
  simp only [hd_iff, and_true, true_and, Nat.zero_add, Nat.add_zero, unit_ex, unit_all, true_implies, implies_true, Int.toNat_natCast, eq_self, and_self]
  refine ⟨c, hc, ⟨rfl, rfl, rfl, rfl, rfl⟩, ⟨rfl, fun _ _ => rfl⟩, cP_intro (fun h => ⟨?_, rfl, fun _ _ => rfl⟩) (fun h => ⟨c, hc, ⟨rfl, rfl, rfl, rfl, rfl⟩, ⟨rfl, fun _ _ => rfl⟩, cP_intro (fun h2 => ⟨?_, rfl, fun _ _ => rfl⟩) (fun h2 => ⟨?_, rfl, fun _ _ => rfl⟩)⟩)⟩
  · have h : shapeM c = false := by simpa using h
    unfold goodM; rw [h]; rfl
  · have h : shapeM c = true := by simpa using h
    unfold goodM; rw [h, h2]; rfl
  · have h : shapeM c = true := by simpa using h
    unfold goodM; rw [h, h2]; rfl
theorem goodW_ok : CtrOk Tryz.prog 36 goodW := det_end tt_ok mixed (.cons (ctrT_ok shapeW_ok) (.cons (ctrT_ok longW_ok) .nil)) (fun _ => noAn) 200 5 (fun _ => rfl) (fun _ => rfl) fun x hx => Eq.mp (goodWVC_ok x) (goodWVC_true x (hd_iff.1 hx))
theorem goodNVC_true (c : Cll) (hc : c.gn = 0) : goodNVC c := by
  unfold goodNVC
  simp only [hd_iff, and_true, true_and, Nat.zero_add, Nat.add_zero, unit_ex, unit_all, true_implies, implies_true, Int.toNat_natCast, eq_self, and_self]
  refine ⟨c, hc, ⟨rfl, rfl, rfl, rfl⟩, cP_intro (fun h => ?_) (fun h => ⟨c, hc, ⟨rfl, rfl, rfl, rfl⟩, cP_intro (fun h2 => ?_) (fun h2 => ?_)⟩)⟩
  · have h : shapeM c = false := by simpa using h
    unfold goodM; rw [h]; rfl
  · have h : shapeM c = true := by simpa using h
    unfold goodM; rw [h, h2]; rfl
  · have h : shapeM c = true := by simpa using h
    unfold goodM; rw [h, h2]; rfl
theorem goodN_ok : CtrOk Tryz.prog 36 goodN := det_end tt_ok mixed (.cons (ctrT_ok shapeN_ok) (.cons (ctrT_ok longN_ok) .nil)) (fun _ => noAn) 200 5 (fun _ => rfl) (fun _ => rfl) fun x hx => Eq.mp (goodNVC_ok x) (goodNVC_true x (hd_iff.1 hx))
end Go.Proofs.YtnlpcbdmllpddaaGreat
end
section
/- Parts, repeated: one to three times. -/
namespace Go.Proofs.YtnlpcbdmllpddaaGreat
open Go SE
noncomputable section
def partO : AObj := .cells 208 (.av [boo false, str es, u64 0, u64 0, i64 0, i64 0, i64 (-1), i64 0])
def repC : Ctr := { X := Int, args := fun n => [.sl 0 0 1 1, i64 n], k := 1, os := fun _ => [partO], pre := fun n => Hd (n = 1 ∨ n = 2 ∨ n = 3), outs := [{ Y := Unit, post := fun _ _ => True, ret := fun _ _ => .one, m := 1, os := fun _ _ => [partO] }] }
/-- One cell, and the first object as it was. -/
def repK : AV → Heap → Rs (Option AObj) := fun v h => bif oneCell v && Nat.ble 1 h.next then .ok (h.get 0) else .no []
theorem leq_one {v : AV} {h : Heap} {o : AObj} (hn : 1 ≤ h.next) (hv : oneCell v = true) (hg : h.get 0 = some o) (hb : obelow 1 o = true) (ho : omap (atL [0]) o = o) : Leq 1 v h .one (hO 1 [o]) := by
  have h1 : Leq 1 v h .one h := ⟨hn, fun ρ T w u hR hvr => ⟨ρ, fun _ _ => rfl, hR, by simp only [VRel]; exact oneCell_spec hv hvr⟩⟩
  exact h1.trans (leq_sub 1 [0] [o] rfl (by decide) (objSub_of _ 0 fun j o' hj => by
    match j, hj with
    | 0, hj => cases hj; exact ⟨by rw [ho]; exact hg, hb⟩) rfl rfl)
theorem rep_look : lookX tblR 243 = none := by kernel_rfl
theorem rep_run1 : runH Tryz.prog tblR tt 2000 40 243 [.sl 0 0 1 1, i64 1] (hO 1 [partO]) repK = .ok (some partO) := by kernel_rfl
theorem rep_run2 : runH Tryz.prog tblR tt 2000 40 243 [.sl 0 0 1 1, i64 2] (hO 1 [partO]) repK = .ok (some partO) := by kernel_rfl
theorem rep_run3 : runH Tryz.prog tblR tt 2000 40 243 [.sl 0 0 1 1, i64 3] (hO 1 [partO]) repK = .ok (some partO) := by kernel_rfl
theorem rep_sp {n : Int} (hr : runH Tryz.prog tblR tt 2000 40 243 [.sl 0 0 1 1, i64 n] (hO 1 [partO]) repK = .ok (some partO)) :
    Sp Tryz.prog 243 [.sl 0 0 1 1, i64 n] (hO 1 [partO]) (fun v h => v = .one ∧ h = hO 1 [partO]) :=
  sp_leq ((runH_top tt_ok mixed tblR_ok 2000 40 _ _ _ _ _ rep_look hr).mono fun v h hk => ⟨.one, hO 1 [partO], by
    unfold repK at hk
    cases hb : (oneCell v && Nat.ble 1 h.next) <;> rw [hb] at hk
    · cases hk
    · simp only [cond_true, Rs.ok.injEq] at hk
      rw [Bool.and_eq_true] at hb
      exact leq_one (Nat.le_of_ble_eq_true hb.2) hb.1 hk rfl rfl, rfl, rfl⟩)
theorem rep_ok : CtrOk Tryz.prog 243 repC := fun n hn => ⟨rfl, by
  have h : Sp Tryz.prog 243 [.sl 0 0 1 1, i64 n] (hO 1 [partO]) (fun v h => v = .one ∧ h = hO 1 [partO]) := by
    rcases hd_iff.1 hn with rfl | rfl | rfl
    · exact rep_sp rep_run1
    · exact rep_sp rep_run2
    · exact rep_sp rep_run3
  exact h.mono fun v h' ⟨h1, h2⟩ => by with_unfolding_all exact Or.inl ⟨(), trivial, h1, h2⟩⟩
end
end Go.Proofs.YtnlpcbdmllpddaaGreat
end
section
/- A keeper without an arena: contracts. -/
namespace Go.Proofs.YtnlpcbdmllpddaaGreat
open Go SE
noncomputable section
def kStC : Ctr := det (Int × Int × Int) (fun x => [nilP, .agg [i64 x.1, i64 x.2.1], i64 x.2.2]) 0 (fun _ => []) (fun _ => True) (fun x => .tup [.agg [i64 x.1, i64 x.2.1], i64 0]) 0 (fun _ => [])
def kSyN : Ctr := det (Int × Cll) (fun x => [nilP, i64 x.1, x.2.frN]) 0 (fun _ => []) (fun _ => True) (fun x => .tup [x.2.frN, i64 0]) 0 (fun _ => [])
def kSyW : Ctr := { X := Int × CP, args := fun x => [nilP, i64 x.1, x.2.c.frW 0], k := 1, os := fun x => [roomC x.2.cs], pre := fun x => Hd x.2.ok, outs := [{ Y := PS, post := fun _ _ => True, ret := fun x _ => .tup [x.2.c.frW 1, i64 0], m := 2, os := fun x ps => [roomC x.2.cs, roomC (rowP x.2.c ps)] }] }
/-- With an arena, of another kind. -/
def kSaN : Ctr := det (Own × Cll) (fun x => [.ptr 0 0, i64 0, x.2.frN]) 1 (fun x => [.abs x.1]) (fun x => Hd (x.2.kind ≠ 8)) (fun x => .tup [x.2.frN, i64 0]) 1 (fun x => [.abs x.1])
def kSaW : Ctr := { X := Own × CP, args := fun x => [.ptr 0 0, i64 0, x.2.c.frW 1], k := 2, os := fun x => [.abs x.1, roomC x.2.cs], pre := fun x => Hd (x.2.ok ∧ x.2.c.kind ≠ 8), outs := [{ Y := PS, post := fun _ _ => True, ret := fun x _ => .tup [x.2.c.frW 2, i64 0], m := 3, os := fun x ps => [.abs x.1, roomC x.2.cs, roomC (rowP x.2.c ps)] }] }
end
end Go.Proofs.YtnlpcbdmllpddaaGreat
end
section
/- A sync with an arena, of its own kind: contracts. -/
namespace Go.Proofs.YtnlpcbdmllpddaaGreat
open Go SE
noncomputable section
/-- Memory of which nothing is said. -/
def trivO : Own := { holds := fun _ _ _ => True, stays := fun _ _ _ _ _ _ => trivial }
def okK8 : AV → Heap → Prop := fun v h' => match v with
  | .tup [.agg l, .lit (.int .i64 z)] => l.length = 28 ∧ l.all oneCell = true ∧ z = 0 ∧ (h'.get 0).isSome = true ∧ (h'.get 1).isSome = true
  | _ => False
/-- A frame of which nothing is said. -/
def anyF : AV := .agg (List.replicate 28 .one)
def tblK8 : WTbl := [(45, cloneT), (145, loadX .u64)]
def kS8N : Ctr := { X := Own × Cll, args := fun x => [.ptr 0 0, i64 0, x.2.frN], k := 1, os := fun x => [.abs x.1], pre := fun x => Hd (isMem sSAM sSAO x.1), outs := [{ Y := Unit, post := fun _ _ => True, ret := fun _ _ => .tup [anyF, i64 0], m := 1, os := fun _ _ => [.abs trivO] }] }
def kS8W : Ctr := { X := Own × CP, args := fun x => [.ptr 0 0, i64 0, x.2.c.frW 1], k := 2, os := fun x => [.abs x.1, roomC x.2.cs], pre := fun x => Hd (isMem sSAM sSAO x.1 ∧ x.2.ok), outs := [{ Y := Unit, post := fun _ _ => True, ret := fun _ _ => .tup [anyF, i64 0], m := 2, os := fun _ _ => [.abs trivO, .abs trivO] }] }
/-- Of what is there nothing is said. -/
theorem leq_triv {k : Nat} {v v' : AV} {h : Heap} (hs : ∀ i, i < k → (h.get i).isSome = true) (hv : ∀ ρ ρ' u, VRel ρ v u → VRel ρ' v' u) : Leq k v h v' (hO k (List.replicate k (.abs trivO))) := by
  have hg : ∀ i, (hO k (List.replicate k (AObj.abs trivO))).get i = if i < k then some (.abs trivO) else none := fun i => by
    rw [hO_get (by simp)]
    simp [List.getElem?_replicate]
  refine ⟨Nat.le_refl _, fun ρ T w u hR hvr => ?_⟩
  obtain ⟨S, h1, h2, h3, h4, h5⟩ := hR
  refine ⟨fun i => if i < k then ρ i else none, fun i hi => by simp [hi], ⟨fun _ _ => False, fun i o hi => ?_, fun i j o o' b _ _ _ hS => hS.elim, fun i o b _ hS => hS.elim, fun i hi => by simp [hO] at hi; simp; omega, h5⟩, hv _ _ _ hvr⟩
  rw [hg] at hi
  split at hi
  · rename_i hik
    cases hi
    obtain ⟨o, ho⟩ := Option.isSome_iff_exists.1 (hs i hik)
    obtain ⟨a, ha, _⟩ := h1 i o ho
    exact ⟨a, by simp [hik, ha], trivial⟩
  · cases hi
end
end Go.Proofs.YtnlpcbdmllpddaaGreat
end
