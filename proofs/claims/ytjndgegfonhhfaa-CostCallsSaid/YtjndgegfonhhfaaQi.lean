import Derived.Test.YtjndgegfonhhfaaQa
import Derived.Test.YtjndgegfonhhfaaQb
import Derived.Test.YtjndgegfonhhfaaQc
import Derived.Test.YtjndgegfonhhfaaQd
import Derived.Test.YtjndgegfonhhfaaQe
import Derived.Test.YtjndgegfonhhfaaQf
import Derived.Test.YtjndgegfonhhfaaQg
import Derived.Test.YtjndgegfonhhfaaQh
import Derived.KernelRfl
section
/- Good calls: what is asked is so. -/
namespace Go.Proofs.Ytjndgegfonhhfaa
open Go SE
theorem emp_eq (a : BA) : eqB a (ByteArray.mk #[]) = emp a := rfl
theorem keyedVC_true (x : Int) : keyedVC x := by
  unfold keyedVC
  simp only [hd_iff, and_true, true_and, Nat.zero_add, Nat.add_zero, unit_ex, unit_all, true_implies, implies_true, Int.toNat_natCast, eq_self, and_self, cP_iff, beq_iff_eq, beq_eq_false_iff_ne, keyedM]
  refine ⟨fun h => by simp [h], fun h => ⟨fun h2 => by simp [h2], fun h2 => ?_⟩⟩
  simp only [h, h2, decide_false, Bool.false_or]; by_cases h3 : x = 3 <;> simp [h3]
theorem groupedVC_true (x : Int) : groupedVC x := by
  unfold groupedVC
  simp only [hd_iff, and_true, true_and, Nat.zero_add, Nat.add_zero, unit_ex, unit_all, true_implies, implies_true, Int.toNat_natCast, eq_self, and_self, cP_iff, beq_iff_eq, beq_eq_false_iff_ne, groupedM]
  refine ⟨fun h => by simp [h], fun h => ⟨fun h2 => by simp [h2], fun h2 => ?_⟩⟩
  simp only [h, h2, decide_false, Bool.false_or]; by_cases h3 : x = 4 <;> simp [h3]
theorem keyed_ok : CtrOk Try.prog 80 keyedC := det_end tt_ok mixed TblOk.nil (fun _ => noAn) 200 5 (fun _ => rfl) (fun _ => rfl) fun x _ => Eq.mp (keyedVC_ok x) (keyedVC_true x)
theorem grouped_ok : CtrOk Try.prog 81 groupedC := det_end tt_ok mixed TblOk.nil (fun _ => noAn) 200 5 (fun _ => rfl) (fun _ => rfl) fun x _ => Eq.mp (groupedVC_ok x) (groupedVC_true x)
theorem tblK_ok : TblOk Try.prog tblK := .cons (ctrT_ok keyed_ok) (.cons (ctrT_ok grouped_ok) .nil)
theorem shape_kind {c : Cll} (h : ¬ (1 ≤ c.kind ∧ c.kind ≤ 8)) : shapeM c = false := by simp [shapeM, h]
theorem shape_key {c : Cll} (h : keyedM c.kind = true) (he : emp c.key = true) : shapeM c = false := by simp [shapeM, h, he]
theorem shape_plain {c : Cll} (h : 1 ≤ c.kind ∧ c.kind ≤ 8) (he : (keyedM c.kind && emp c.key) = false) (h7 : c.kind ≠ 7) : shapeM c = true := by simp [shapeM, h, he, h7]
theorem shape_n {c : Cll} (h : c.kind = 7) (hn : ¬ (1 ≤ c.gn ∧ c.gn ≤ 3)) : shapeM c = false := by
  simp only [shapeM, h, ne_eq, not_true_eq_false, decide_false, Bool.false_or, Bool.and_eq_false_iff, decide_eq_false_iff_not]
  exact .inr fun hh => hn ⟨hh.1, hh.2.1⟩
theorem shape_bad {c : Cll} (h : c.kind = 7) {i : Nat} (hi : i < c.gn) (hb : memOk c.g i = false) : shapeM c = false := by
  simp only [shapeM, h, ne_eq, not_true_eq_false, decide_false, Bool.false_or, Bool.and_eq_false_iff, decide_eq_false_iff_not]
  refine .inr fun hh => ?_
  rw [hh.2.2 i hi] at hb; cases hb
theorem shape_group {c : Cll} (h : c.kind = 7) (hn : 1 ≤ c.gn ∧ c.gn ≤ 3) (hm : invMs c c.gn) : shapeM c = true := by
  have : keyedM 7 = false := rfl
  simp only [shapeM, h, this, hn.1, hn.2, ne_eq, not_true_eq_false, decide_false, Bool.false_or, true_and, Bool.false_and, Bool.not_false, Bool.and_true, Bool.and_eq_true, decide_eq_true_eq]
  exact ⟨by omega, hm⟩
theorem mem_bad {c : Cll} {i : Nat} (h : groupedM (c.g i).kind = false ∨ (keyedM (c.g i).kind && emp (c.g i).key) = true ∨ ∃ j, j < i ∧ clash c i j = true) : memOk c.g i = false := by
  unfold memOk
  rcases h with h | h | ⟨j, hj, h⟩
  · rw [h]; rfl
  · rw [h]; simp
  · rw [Bool.and_eq_false_iff]
    refine .inr (decide_eq_false fun hh => ?_)
    have := hh j hj
    unfold clash at h
    rw [h] at this; cases this
theorem mem_good {c : Cll} {i : Nat} (h1 : groupedM (c.g i).kind = true) (h2 : (keyedM (c.g i).kind && emp (c.g i).key) = false) (h3 : invJ c i i) : memOk c.g i = true := by
  unfold memOk
  simp only [h1, h2, Bool.not_false, Bool.and_true, Bool.true_and, decide_eq_true_eq]
  exact h3
theorem invMs_next {c : Cll} {i : Nat} (h : invMs c i) (hm : memOk c.g i = true) : invMs c (i + 1) := fun j hj => by
  rcases Nat.lt_or_ge j i with h' | h'
  · exact h j h'
  · have : j = i := by omega
    subst this; exact hm
theorem invJ_next {c : Cll} {i j : Nat} (h : invJ c i j) (hm : clash c i j = false) : invJ c i (j + 1) := fun q hq => by
  rcases Nat.lt_or_ge q j with h' | h'
  · exact h q h'
  · have : q = j := by omega
    subst this; exact hm
theorem shapeVC_true (c : Cll) (hc : c.gn < 1099511627776) : shapeVC c := by
  unfold shapeVC
  simp only [hd_iff, and_true, true_and, Nat.zero_add, Nat.add_zero, unit_ex, unit_all, true_implies, implies_true, Int.toNat_natCast, eq_self, and_self, eL, emp_eq]
  refine cP_intro (fun h1 => shape_kind (by have := of_decide_eq_true h1; omega)) (fun h1 => cP_intro (fun h2 => shape_kind (by have := of_decide_eq_true h2; omega)) (fun h2 => ⟨_, rfl, ?_⟩))
  have h1 := of_decide_eq_false h1
  have h2 := of_decide_eq_false h2
  refine cP_intro (fun hk => cP_intro (fun he => shape_key hk he) (fun he => ?_)) (fun hk => ?_)
  all_goals
    refine cP_intro (fun h7 => shape_plain (by omega) (by rw [hk]; first | rfl | (rw [he]; rfl)) (by simpa using h7)) (fun h7 => ?_)
    have h7 : c.kind = 7 := by simpa using h7
    first | (rw [h7] at hk; cases hk; done) | skip
  refine cP_intro (fun hn => shape_n h7 (by have := of_decide_eq_true hn; omega)) (fun hn => cP_intro (fun hn2 => shape_n h7 (by have := of_decide_eq_true hn2; omega)) (fun hn2 => ?_))
  have hn := of_decide_eq_false hn
  have hn2 := of_decide_eq_false hn2
  refine ⟨⟨0, ⟨by omega, fun j hj => by omega⟩, rfl⟩, fun i ⟨hi, hms⟩ => cP_intro (fun hb => ?_) (fun hb => ?_)⟩
  · have hb := of_decide_eq_true hb
    have hl : i < c.gn := by omega
    refine ⟨⟨by omega, hb⟩, hl, _, rfl, cP_intro (fun hg => shape_bad h7 hl (mem_bad (.inl (by simpa using hg)))) (fun hg => ⟨_, rfl, ?_⟩)⟩
    have hg : groupedM (c.g i).kind = true := by simpa using hg
    refine cP_intro (fun hk2 => cP_intro (fun he => shape_bad h7 hl (mem_bad (.inr (.inl (by rw [hk2, he]; rfl))))) (fun he => ?_)) (fun hk2 => ?_)
    all_goals
      have hke : (keyedM (c.g i).kind && emp (c.g i).key) = false := by rw [hk2]; first | rfl | (rw [he]; rfl)
      refine ⟨by omega, by omega, ⟨0, ⟨by omega, fun j hj => by omega⟩, rfl⟩, fun j ⟨hj, hjs⟩ => ?_⟩
      refine cP_intro (fun hb => ?_) (fun hb => ?_)
      · have hb := of_decide_eq_true hb
        have next : clash c i j = false → I64 ((j : Int) + 1) ∧ ∃ q : Nat, (q ≤ i ∧ invJ c i q) ∧ i - q < i - j ∧ (q : Int) = (j : Int) + 1 := fun h => ⟨by unfold I64; omega, j + 1, ⟨by omega, invJ_next hjs h⟩, by omega, rfl⟩
        refine ⟨⟨by omega, hb⟩, by omega, _, rfl, cP_intro (fun ha => ⟨_, rfl, cP_intro (fun hb2 => cP_intro (fun hq => ?_) (fun hq => ?_)) (fun hb2 => ?_)⟩) (fun ha => ?_)⟩
        · exact shape_bad h7 hl (mem_bad (.inr (.inr ⟨j, by omega, by simp [clash, ha, hb2, hq]⟩)))
        · exact next (by unfold clash; rw [hq]; simp)
        · exact next (by unfold clash; rw [hb2]; simp)
        · exact next (by unfold clash; rw [ha]; simp)
      · have hb := of_decide_eq_false hb
        have : j = i := by omega
        subst this
        exact ⟨by unfold I64; omega, j + 1, ⟨by omega, invMs_next hms (mem_good hg hke hjs)⟩, by omega, rfl⟩
  · have : i = c.gn := by have := of_decide_eq_false hb; omega
    subst this
    exact shape_group h7 (by omega) hms
theorem gt16 {a b : Int} : decide (a > b) = decide (b < a) := rfl
theorem longMemVC_true (x : Mem) : longMemVC x := by
  unfold longMemVC
  simp only [hd_iff, and_true, true_and, Nat.zero_add, Nat.add_zero, unit_ex, unit_all, true_implies, implies_true, Int.toNat_natCast, eq_self, and_self, cP_iff, beq_iff_eq, beq_eq_false_iff_ne, gt16, longK]
  refine ⟨fun h => by simp [h], fun h1 => ⟨fun h => by simp [h], fun h3 => ⟨fun h => ?_, fun h2 => ⟨fun h => by simp [h], fun h4 => ⟨fun h => ?_, fun h6 => ⟨fun h => by simp [h], fun h7 => by simp [h1, h2, h3, h4, h6]⟩⟩⟩⟩⟩⟩
  · refine ⟨fun hk => ?_, fun hk => ?_⟩ <;> rw [h, hk] <;> rfl
  · refine ⟨fun hk => ?_, fun hk => ?_⟩ <;> rw [h, hk] <;> rfl
theorem long_plain {c : Cll} (h : c.kind ≠ 7) : longM c = longK c.kind c.key c.value c.to := by simp [longM, h]
theorem longK7 (a b d : BA) : longK 7 a b d = false := rfl
theorem long_some {c : Cll} (h : c.kind = 7) {i : Nat} (hi : i < c.gn) (hl : longK (c.g i).kind (c.g i).key (c.g i).value (c.g i).to = true) : longM c = true := by
  simp only [longM, h, longK7, Bool.false_or, decide_true, Bool.true_and, decide_eq_true_eq]
  exact ⟨i, hi, hl⟩
theorem long_none {c : Cll} (h : c.kind = 7) (hl : invLong c c.gn) : longM c = false := by
  simp only [longM, h, longK7, Bool.false_or, decide_true, Bool.true_and, decide_eq_false_iff_not]
  rintro ⟨i, hi, h'⟩
  rw [hl i hi] at h'; cases h'
theorem invLong_next {c : Cll} {i : Nat} (h : invLong c i) (hm : longK (c.g i).kind (c.g i).key (c.g i).value (c.g i).to = false) : invLong c (i + 1) := fun j hj => by
  rcases Nat.lt_or_ge j i with h' | h'
  · exact h j h'
  · have : j = i := by omega
    subst this; exact hm
theorem longVC_true (c : Cll) (hc : c.small) : longVC c := by
  unfold longVC
  simp only [hd_iff, and_true, true_and, Nat.zero_add, Nat.add_zero, unit_ex, unit_all, true_implies, implies_true, Int.toNat_natCast, eq_self, and_self]
  have hp := fun h => long_plain (c := c) h
  have sm := fun i hi => (hc.2.2.2.2 i hi).2.2.2
  have hgn := hc.2.2.2.1
  refine cP_intro (fun h => ?_) (fun h1 => cP_intro (fun h => ?_) (fun h3 => cP_intro (fun h => ?_) (fun h2 => cP_intro (fun h => ?_) (fun h4 => cP_intro (fun h => ?_) (fun h6 => cP_intro (fun h => ?_) (fun h7 => ?_))))))
  all_goals simp only [beq_iff_eq, beq_eq_false_iff_ne] at *
  · rw [hp (by omega), h]; rfl
  · rw [hp (by omega), h]; rfl
  · rw [hp (by omega), h]
    refine cP_intro (fun hk => ?_) (fun hk => ?_) <;> simp only [gt16] at hk
    · have e : ∀ v t : BA, longK 2 c.key v t = true := fun v t => by unfold longK; rw [hk]; rfl
      exact e _ _
    · have e : ∀ v t : BA, longK 2 c.key v t = decide ((400 : Int) < (v.size : Nat)) := fun v t => by unfold longK; rw [hk]; rfl
      exact e _ _
  · rw [hp (by omega), h]; rfl
  · rw [hp (by omega), h]
    refine cP_intro (fun hk => ?_) (fun hk => ?_) <;> simp only [gt16] at hk
    · have e : ∀ v t : BA, longK 6 c.key v t = true := fun v t => by unfold longK; rw [hk]; rfl
      exact e _ _
    · have e : ∀ v t : BA, longK 6 c.key v t = decide ((16 : Int) < (t.size : Nat)) := fun v t => by unfold longK; rw [hk]; rfl
      exact e _ _
  · refine ⟨⟨0, ⟨by omega, fun j hj => by omega⟩, rfl⟩, fun i ⟨hi, hall⟩ => cP_intro (fun hb => ?_) (fun hb => ?_)⟩
    · have hb := of_decide_eq_true hb
      have hl : i < c.gn := by omega
      refine ⟨⟨by omega, hb⟩, hl, ⟨(c.g i).kind, (c.g i).key, (c.g i).value, (c.g i).to, (c.g i).gp, 0, (c.g i).gc⟩, ⟨rfl, rfl, rfl, rfl, by rw [sm i hl]⟩, cP_intro (fun hx => ?_) (fun hx => ?_)⟩
      · rw [long_some h hl hx]; exact (decide_eq_true (by omega)).symm
      · exact ⟨by unfold I64; omega, i + 1, ⟨by omega, invLong_next hall hx⟩, by omega, rfl⟩
    · have : i = c.gn := by have := of_decide_eq_false hb; omega
      subst this; exact long_none h hall
  · rw [hp (by omega)]; simp [longK, *]
theorem weightVC_true (c : Cll) : weightVC c := by
  unfold weightVC
  have big : ∃ y : Int, (y ≤ 1500 → c.small) ∧ y = 1501 := ⟨1501, fun h => by omega, rfl⟩
  have i1 : I64 1501 := by unfold I64; omega
  simp only [hd_iff, and_true, true_and, Nat.zero_add, Nat.add_zero, unit_ex, unit_all, true_implies, implies_true, Int.toNat_natCast, eq_self, and_self, i1, big]
  refine cP_intro (fun _ => trivial) (fun h1 => cP_intro (fun _ => trivial) (fun h2 => cP_intro (fun _ => trivial) (fun h3 => cP_intro (fun _ => trivial) (fun h4 => ?_))))
  have h1 := of_decide_eq_false h1
  have h2 := of_decide_eq_false h2
  have h3 := of_decide_eq_false h3
  have h4 := of_decide_eq_false h4
  have hm : ∀ z : Int, imin z 1501 ≤ 1500 → z ≤ 1500 := fun z h => by unfold imin at h; grind
  refine ⟨by unfold I64; omega, by unfold I64; omega, ⟨(0, _), ⟨by omega, by simp; omega, by simp; omega, fun k hk => by simp at hk⟩, rfl, rfl⟩, fun ⟨i, z⟩ ⟨hi, h0, hz, hall⟩ => cP_intro (fun hb => ?_) (fun hb => ?_)⟩
  · dsimp only at *
    have hb := of_decide_eq_true hb
    refine cP_intro (fun hw => ?_) (fun hw => ⟨imin z 1501, fun h => ?_, rfl⟩)
    · refine ⟨⟨by omega, hb⟩, by omega, cP_intro (fun _ => trivial) (fun g1 => cP_intro (fun _ => trivial) (fun g2 => cP_intro (fun _ => trivial) (fun g3 => cP_intro (fun _ => trivial) (fun g4 => ?_))))⟩
      have hw := of_decide_eq_true hw
      have g1 := of_decide_eq_false g1
      have g2 := of_decide_eq_false g2
      have g3 := of_decide_eq_false g3
      have g4 := of_decide_eq_false g4
      refine ⟨by unfold I64; omega, by unfold I64; omega, by unfold I64; omega, by unfold I64; omega, (i + 1, _), ⟨by dsimp only; omega, by dsimp only; omega, by dsimp only; omega, fun k hk => ?_⟩, by dsimp only; omega, rfl, rfl⟩
      rcases Nat.lt_or_ge k i with h | h
      · exact hall k h
      · have : k = i := by dsimp only at hk; omega
        subst this; exact ⟨by omega, by omega, by omega, by omega⟩
    · have hw := of_decide_eq_false hw
      have := hm _ h; omega
  · dsimp only at *
    have : i = c.gn := by have := of_decide_eq_false hb; omega
    subst this
    exact ⟨imin z 1501, fun h => ⟨by omega, by omega, by omega, by omega, hall⟩, rfl⟩
theorem greatVC_true (s : Shf) : greatVC s := by
  unfold greatVC
  have big : ∃ y : Bool, (y = false → s.small) ∧ y = true := ⟨true, fun h => (by cases h), rfl⟩
  simp only [hd_iff, and_true, true_and, Nat.zero_add, Nat.add_zero, unit_ex, unit_all, true_implies, implies_true, Int.toNat_natCast, eq_self, and_self, big]
  refine cP_intro (fun _ => trivial) (fun h1 => cP_intro (fun _ => trivial) (fun h2 => ?_))
  have h1 := of_decide_eq_false h1
  have h2 := of_decide_eq_false h2
  refine ⟨⟨0, ⟨by omega, fun k hk => by omega⟩, rfl⟩, fun i ⟨hi, hall⟩ => cP_intro (fun hb => ?_) (fun hb => ?_)⟩
  · have hb := of_decide_eq_true hb
    refine ⟨⟨by omega, hb⟩, by omega, cP_intro (fun _ => trivial) (fun g1 => ⟨⟨by omega, hb⟩, by omega, cP_intro (fun _ => trivial) (fun g2 => ?_)⟩)⟩
    have g1 := of_decide_eq_false g1
    have g2 := of_decide_eq_false g2
    refine ⟨by unfold I64; omega, i + 1, ⟨by omega, fun k hk => ?_⟩, by omega, rfl⟩
    rcases Nat.lt_or_ge k i with h | h
    · exact hall k h
    · have : k = i := by omega
      subst this; omega
  · have : i = s.n := by have := of_decide_eq_false hb; omega
    subst this
    refine ⟨⟨0, ⟨by omega, fun k hk => by omega⟩, rfl⟩, fun j ⟨hj, hall2⟩ => cP_intro (fun hb => ?_) (fun hb => ?_)⟩
    · have hb := of_decide_eq_true hb
      refine ⟨⟨by omega, hb⟩, by omega, cP_intro (fun _ => trivial) (fun g1 => ?_)⟩
      have g1 := of_decide_eq_false g1
      refine ⟨by unfold I64; omega, j + 1, ⟨by omega, fun k hk => ?_⟩, by omega, rfl⟩
      rcases Nat.lt_or_ge k j with h | h
      · exact hall2 k h
      · have : k = j := by omega
        subst this; omega
    · have : j = s.m := by have := of_decide_eq_false hb; omega
      subst this
      exact ⟨false, fun _ => ⟨by omega, by omega, hall, hall2⟩, rfl⟩
end Go.Proofs.Ytjndgegfonhhfaa
end
section
/- Good calls, the document's: what is asked is so. -/
namespace Go.Proofs.Ytjndgegfonhhfaa
open Go SE
theorem rlongMemVC_true (x : Mem) : rlongMemVC x := by
  have h := longMemVC_true x
  unfold longMemVC at h
  unfold rlongMemVC
  exact h
theorem rlongVC_true (c : Cll) (hc : c.small) : rlongVC c := by
  unfold rlongVC
  simp only [hd_iff, and_true, true_and, Nat.zero_add, Nat.add_zero, unit_ex, unit_all, true_implies, implies_true, Int.toNat_natCast, eq_self, and_self]
  have hp := fun h => long_plain (c := c) h
  have sm := fun i hi => (hc.2.2.2.2 i hi).2.2.2
  have hgn := hc.2.2.2.1
  refine cP_intro (fun h => ?_) (fun h1 => cP_intro (fun h => ?_) (fun h3 => cP_intro (fun h => ?_) (fun h2 => cP_intro (fun h => ?_) (fun h4 => cP_intro (fun h => ?_) (fun h6 => cP_intro (fun h => ?_) (fun h7 => ?_))))))
  all_goals simp only [beq_iff_eq, beq_eq_false_iff_ne] at *
  · rw [hp (by omega), h]; rfl
  · rw [hp (by omega), h]; rfl
  · rw [hp (by omega), h]
    refine cP_intro (fun hk => ?_) (fun hk => ?_) <;> simp only [gt16] at hk
    · have e : ∀ v t : BA, longK 2 c.key v t = true := fun v t => by unfold longK; rw [hk]; rfl
      exact e _ _
    · have e : ∀ v t : BA, longK 2 c.key v t = decide ((400 : Int) < (v.size : Nat)) := fun v t => by unfold longK; rw [hk]; rfl
      exact e _ _
  · rw [hp (by omega), h]; rfl
  · rw [hp (by omega), h]
    refine cP_intro (fun hk => ?_) (fun hk => ?_) <;> simp only [gt16] at hk
    · have e : ∀ v t : BA, longK 6 c.key v t = true := fun v t => by unfold longK; rw [hk]; rfl
      exact e _ _
    · have e : ∀ v t : BA, longK 6 c.key v t = decide ((16 : Int) < (t.size : Nat)) := fun v t => by unfold longK; rw [hk]; rfl
      exact e _ _
  · refine ⟨⟨0, ⟨by omega, fun j hj => by omega⟩, rfl⟩, fun i ⟨hi, hall⟩ => cP_intro (fun hb => ?_) (fun hb => ?_)⟩
    · have hb := of_decide_eq_true hb
      have hl : i < c.gn := by omega
      refine ⟨⟨by omega, hb⟩, hl, ⟨(c.g i).kind, (c.g i).key, (c.g i).value, (c.g i).to, (c.g i).gp, 0, (c.g i).gc⟩, ⟨rfl, rfl, rfl, rfl, by rw [sm i hl]⟩, cP_intro (fun hx => ?_) (fun hx => ?_)⟩
      · exact long_some h hl hx
      · exact ⟨by unfold I64; omega, i + 1, ⟨by omega, invLong_next hall hx⟩, by omega, rfl⟩
    · have : i = c.gn := by have := of_decide_eq_false hb; omega
      subst this; exact long_none h hall
  · rw [hp (by omega)]; simp [longK, *]
theorem rshapeMemVC_true (x : Mem) : rshapeMemVC x := by
  unfold rshapeMemVC
  simp only [hd_iff, and_true, true_and, Nat.zero_add, Nat.add_zero, unit_ex, unit_all, true_implies, implies_true, Int.toNat_natCast, eq_self, and_self, eL, emp_eq, cP_iff, beq_iff_eq, beq_eq_false_iff_ne, rshapeK, keyedM, b2i]
  refine ⟨fun h => ?_, fun h1 => ⟨fun h => ?_, fun h2 => ⟨fun h => ?_, fun h3 => ?_⟩⟩⟩
  · refine ⟨fun he => ?_, fun he => ?_⟩ <;> simp [h, he]
  · refine ⟨fun he => ?_, fun he => ?_⟩ <;> simp [h, he]
  · refine ⟨fun he => ?_, fun he => ?_⟩ <;> simp [h, he]
  · refine ⟨fun h => ?_, fun h4 => ⟨fun h => ?_, fun h5 => ⟨fun h => ?_, fun h6 => ⟨fun h => ?_, fun h8 => ⟨fun h => ?_, fun h7 => ?_⟩⟩⟩⟩⟩ <;> simp [*]
theorem bad1 {c : Cll} (h : shapeM c = false) : b2i (!shapeM c) = 1 := by rw [h]; rfl
theorem ok0 {c : Cll} (h : shapeM c = true) : b2i (!shapeM c) = 0 := by rw [h]; rfl
theorem rshapeVC_true (c : Cll) (hc : c.small) : rshapeVC c := by
  unfold rshapeVC
  simp only [hd_iff, and_true, true_and, Nat.zero_add, Nat.add_zero, unit_ex, unit_all, true_implies, implies_true, Int.toNat_natCast, eq_self, and_self, eL, emp_eq]
  have sm := fun i hi => (hc.2.2.2.2 i hi).2.2.2
  have hgn := hc.2.2.2.1
  refine cP_intro (fun h => ?_) (fun h1 => cP_intro (fun h => ?_) (fun h2 => cP_intro (fun h => ?_) (fun h3 => cP_intro (fun h => ?_) (fun h4 => cP_intro (fun h => ?_) (fun h5 => cP_intro (fun h => ?_) (fun h6 => cP_intro (fun h => ?_) (fun h8 => cP_intro (fun h7 => ?_) (fun h7 => ?_))))))))
  all_goals simp only [beq_iff_eq, beq_eq_false_iff_ne] at *
  rotate_left 7
  · refine cP_intro (fun hn => bad1 (shape_n h7 (by have := of_decide_eq_true hn; omega))) (fun hn => cP_intro (fun hn2 => bad1 (shape_n h7 (by have := of_decide_eq_true hn2; omega))) (fun hn2 => ?_))
    have hn := of_decide_eq_false hn
    have hn2 := of_decide_eq_false hn2
    refine ⟨⟨0, ⟨by omega, fun j hj => by omega⟩, rfl⟩, fun i ⟨hi, hms⟩ => cP_intro (fun hb => ?_) (fun hb => ?_)⟩
    · have hb := of_decide_eq_true hb
      have hl : i < c.gn := by omega
      refine ⟨⟨by omega, hb⟩, hl, cP_intro (fun k2 => cP_intro (fun k3 => cP_intro (fun k4 => ?_) (fun k4 => ?_)) (fun k3 => ?_)) (fun k2 => ?_)⟩
      · have g1 : (c.g i).kind ≠ 2 := by simpa using k2
        have g2 : (c.g i).kind ≠ 3 := by simpa using k3
        have g3 : (c.g i).kind ≠ 4 := by simpa using k4
        exact bad1 (shape_bad h7 hl (mem_bad (.inl (by simp [groupedM, g1, g2, g3]))))
      all_goals
        have gk : (c.g i).kind = 2 ∨ (c.g i).kind = 3 ∨ (c.g i).kind = 4 := by
          first | (have : (c.g i).kind = 4 := by simpa using k4
                   omega) | (have : (c.g i).kind = 3 := by simpa using k3
                             omega) | (have : (c.g i).kind = 2 := by simpa using k2
                                       omega)
        have hg : groupedM (c.g i).kind = true := by rcases gk with h | h | h <;> rw [h] <;> rfl
        have hr : rshapeK (c.g i).kind (c.g i).key = b2i (keyedM (c.g i).kind && emp (c.g i).key) := by
          rcases gk with h | h | h <;> rw [h] <;> rfl
        have hkd : keyedM (c.g i).kind = ((c.g i).kind != 4) := by rcases gk with h | h | h <;> rw [h] <;> rfl
        refine ⟨⟨by omega, hb⟩, hl, ⟨(c.g i).kind, (c.g i).key, (c.g i).value, (c.g i).to, (c.g i).gp, 0, (c.g i).gc⟩, ⟨rfl, rfl, rfl, rfl, by rw [sm i hl]⟩, ?_⟩
        simp only [hr]
        refine cP_intro (fun hx => ?_) (fun hx => ?_)
        · refine bad1 (shape_bad h7 hl (mem_bad (.inr (.inl ?_))))
          cases hq : (keyedM (c.g i).kind && emp (c.g i).key) with
          | true => rfl
          | false => rw [hq] at hx; cases hx
        have hke : (keyedM (c.g i).kind && emp (c.g i).key) = false := by
          cases hq : (keyedM (c.g i).kind && emp (c.g i).key) with
          | true => rw [hq] at hx; cases hx
          | false => rfl
        refine ⟨⟨0, ⟨by omega, fun j hj => by omega⟩, rfl⟩, fun j ⟨hj, hjs⟩ => ?_⟩
        refine cP_intro (fun hb => ?_) (fun hb => ?_)
        · have hb := of_decide_eq_true hb
          have hjl : j < i := by omega
          have next : clash c i j = false → I64 ((j : Int) + 1) ∧ ∃ q : Nat, (q ≤ i ∧ invJ c i q) ∧ i - q < i - j ∧ (q : Int) = (j : Int) + 1 := fun h => ⟨by unfold I64; omega, j + 1, ⟨by omega, invJ_next hjs h⟩, by omega, rfl⟩
          have gkj : groupedM (c.g j).kind = true := by
            have := hms j hjl
            unfold memOk at this
            simp only [Bool.and_eq_true] at this
            exact this.1.1
          have hkj : keyedM (c.g j).kind = ((c.g j).kind != 4) := by
            simp only [groupedM, Bool.or_eq_true, decide_eq_true_eq] at gkj
            rcases gkj with (h | h) | h <;> rw [h] <;> rfl
          refine cP_intro (fun ha => ⟨⟨by omega, by omega⟩, by omega, cP_intro (fun hb2 => ⟨⟨by omega, by omega⟩, by omega, ⟨by omega, by omega⟩, by omega, cP_intro (fun hq => ?_) (fun hq => ?_)⟩) (fun hb2 => ?_)⟩) (fun ha => ?_)
          · exact bad1 (shape_bad h7 hl (mem_bad (.inr (.inr ⟨j, hjl, by unfold clash; rw [hkd, hkj, ha, hb2, hq]; rfl⟩))))
          · exact next (by unfold clash; rw [hq]; simp)
          · exact next (by unfold clash; rw [hkj, hb2]; simp)
          · exact next (by unfold clash; rw [hkd, ha]; simp)
        · have hb := of_decide_eq_false hb
          have : j = i := by omega
          subst this
          exact ⟨by unfold I64; omega, j + 1, ⟨by omega, invMs_next hms (mem_good hg hke hjs)⟩, by omega, rfl⟩
    · have : i = c.gn := by have := of_decide_eq_false hb; omega
      subst this
      exact ok0 (shape_group h7 (by omega) hms)
  · refine bad1 (shape_kind (by omega))
  · refine cP_intro (fun he => bad1 (shape_key (by rw [h]; rfl) he)) (fun he => ok0 (shape_plain (by omega) (by rw [he, h]; rfl) (by omega)))
  · refine cP_intro (fun he => bad1 (shape_key (by rw [h]; rfl) he)) (fun he => ok0 (shape_plain (by omega) (by rw [he, h]; rfl) (by omega)))
  · refine cP_intro (fun he => bad1 (shape_key (by rw [h]; rfl) he)) (fun he => ok0 (shape_plain (by omega) (by rw [he, h]; rfl) (by omega)))
  · exact ok0 (shape_plain (by omega) (by rw [h]; rfl) (by omega))
  · exact ok0 (shape_plain (by omega) (by rw [h]; rfl) (by omega))
  · exact ok0 (shape_plain (by omega) (by rw [h]; rfl) (by omega))
  · exact ok0 (shape_plain (by omega) (by rw [h]; rfl) (by omega))
theorem goodVC_true (c : Cll) (hc : c.small) : goodVC c := by
  unfold goodVC
  simp only [hd_iff, and_true, true_and, Nat.zero_add, Nat.add_zero, unit_ex, unit_all, true_implies, implies_true, Int.toNat_natCast, eq_self, and_self]
  refine ⟨c, by have := hc.2.2.2.1; omega, ⟨rfl, rfl, rfl, rfl, rfl⟩, ⟨rfl, fun _ _ => rfl⟩, cP_intro (fun h => ?_) (fun h => ⟨c, hc, ⟨rfl, rfl, rfl, rfl, rfl⟩, ⟨rfl, fun _ _ => rfl⟩, cP_intro (fun h2 => ?_) (fun h2 => ?_)⟩)⟩
  · have h : shapeM c = false := by simpa using h
    unfold goodM; rw [h]; rfl
  · have h : shapeM c = true := by simpa using h
    unfold goodM; rw [h, h2]; rfl
  · have h : shapeM c = true := by simpa using h
    unfold goodM; rw [h, h2]; rfl
theorem rgoodVC_true (c : Cll) (hc : c.small) : rgoodVC c := by
  unfold rgoodVC
  simp only [hd_iff, and_true, true_and, Nat.zero_add, Nat.add_zero, unit_ex, unit_all, true_implies, implies_true, Int.toNat_natCast, eq_self, and_self]
  refine ⟨c, hc, ⟨rfl, rfl, rfl, rfl, rfl⟩, ⟨rfl, fun _ _ => rfl⟩, ?_⟩
  cases h : shapeM c with
  | false =>
    refine cP_intro (fun h1 => by cases h1) (fun h1 => ?_)
    unfold goodM; rw [h]; rfl
  | true =>
    refine cP_intro (fun _ => ⟨c, hc, ⟨rfl, rfl, rfl, rfl, rfl⟩, ⟨rfl, fun _ _ => rfl⟩, cP_intro (fun h2 => ?_) (fun h2 => ?_)⟩) (fun h1 => by cases h1)
    · unfold goodM; rw [h, h2]; rfl
    · unfold goodM; rw [h, h2]; rfl
theorem shape_ok : CtrOk Try.prog 53 shapeC := det_end tt_ok mixed tblK_ok anShape 200 5 (fun _ => rfl) (fun _ => rfl) fun x hx => Eq.mp (shapeVC_ok x) (shapeVC_true x hx)
theorem longMem_ok : CtrOk Try.prog 54 longMemC := det_end tt_ok mixed TblOk.nil (fun _ => noAn) 200 5 (fun _ => rfl) (fun _ => rfl) fun x _ => Eq.mp (longMemVC_ok x) (longMemVC_true x)
theorem long_ok : CtrOk Try.prog 54 longC := det_end tt_ok mixed (.cons (ctrT_ok longMem_ok) .nil) anLong 200 5 (fun _ => rfl) (fun _ => rfl) fun x hx => Eq.mp (longVC_ok x) (longVC_true x (hd_iff.1 hx))
theorem rlongMem_ok : CtrOk Try.prog 73 longMemC := det_end tt_ok mixed TblOk.nil (fun _ => noAn) 200 5 (fun _ => rfl) (fun _ => rfl) fun x _ => Eq.mp (rlongMemVC_ok x) (rlongMemVC_true x)
theorem rlong_ok : CtrOk Try.prog 73 longC := det_end tt_ok mixed (.cons (ctrT_ok rlongMem_ok) .nil) anRLong 200 5 (fun _ => rfl) (fun _ => rfl) fun x hx => Eq.mp (rlongVC_ok x) (rlongVC_true x (hd_iff.1 hx))
theorem rshapeMem_ok : CtrOk Try.prog 72 rshapeMemC := det_end tt_ok mixed TblOk.nil (fun _ => noAn) 200 5 (fun _ => rfl) (fun _ => rfl) fun x _ => Eq.mp (rshapeMemVC_ok x) (rshapeMemVC_true x)
theorem rshape_ok : CtrOk Try.prog 72 rshapeC := det_end tt_ok mixed (.cons (ctrT_ok rshapeMem_ok) .nil) anRShape 200 5 (fun _ => rfl) (fun _ => rfl) fun x hx => Eq.mp (rshapeVC_ok x) (rshapeVC_true x (hd_iff.1 hx))
theorem good_ok : CtrOk Try.prog 17 goodC := det_end tt_ok mixed (.cons (ctrT_ok shape_ok) (.cons (ctrT_ok long_ok) .nil)) (fun _ => noAn) 200 5 (fun _ => rfl) (fun _ => rfl) fun x hx => Eq.mp (goodVC_ok x) (goodVC_true x (hd_iff.1 hx))
theorem rgood_ok : CtrOk Try.prog 44 goodC := det_end tt_ok mixed (.cons (ctrT_ok rshape_ok) (.cons (ctrT_ok rlong_ok) .nil)) (fun _ => noAn) 200 5 (fun _ => rfl) (fun _ => rfl) fun x hx => Eq.mp (rgoodVC_ok x) (rgoodVC_true x (hd_iff.1 hx))
theorem weight_ok : CtrOk Try.prog 10 weightC := ctr_end tt_ok mixed TblOk.nil (C := weightC) anWeight 200 5 (fun _ => rfl) (fun x o ho y => by have ho := List.mem_singleton.1 ho; subst ho; rfl) fun x _ => Eq.mp (weightVC_ok x) (weightVC_true x)
theorem great_ok : CtrOk Try.prog 9 greatC := ctr_end tt_ok mixed TblOk.nil (C := greatC) anGreat 200 5 (fun _ => rfl) (fun x o ho y => by have ho := List.mem_singleton.1 ho; subst ho; rfl) fun x _ => Eq.mp (greatVC_ok x) (greatVC_true x)
theorem find_ok : CtrOk Try.prog 35 findC := det_end tt_ok mixed tblV_ok anFind 200 5 (fun _ => rfl) (fun _ => rfl) fun x hx => Eq.mp (findVC_ok x) (findVC_true x (hd_iff.1 hx))
theorem rfind_ok : CtrOk Try.prog 46 findC := det_end tt_ok mixed tblV_ok anRFind 200 5 (fun _ => rfl) (fun _ => rfl) fun x hx => Eq.mp (rfindVC_ok x) (rfindVC_true x (hd_iff.1 hx))
theorem seek_ok : CtrOk Try.prog 41 seekC := det_end tt_ok mixed tblV_ok (anSeek 41) 200 5 (fun _ => rfl) (fun _ => rfl) fun x hx => Eq.mp (seekVC_ok x) (seekVC_true x (hd_iff.1 hx))
theorem rseek_ok : CtrOk Try.prog 78 seekC := det_end tt_ok mixed tblV_ok (anSeek 78) 200 5 (fun _ => rfl) (fun _ => rfl) fun x hx => Eq.mp (rseekVC_ok x) (rseekVC_true x (hd_iff.1 hx))
theorem may_ok : CtrOk Try.prog 16 mayC := det_end tt_ok mixed TblOk.nil anMay 200 5 (fun _ => rfl) (fun _ => rfl) fun x hx => Eq.mp (mayVC_ok x) (mayVC_true x (hd_iff.1 hx))
theorem rmay_ok : CtrOk Try.prog 43 mayC := det_end tt_ok mixed TblOk.nil anRMay 200 5 (fun _ => rfl) (fun _ => rfl) fun x hx => Eq.mp (rmayVC_ok x) (rmayVC_true x (hd_iff.1 hx))
theorem place_ok : CtrOk Try.prog 68 placeC := det_end tt_ok mixed TblOk.nil anPlace 200 5 (fun _ => rfl) (fun _ => rfl) fun x hx => Eq.mp (placeVC_ok x) (placeVC_true x (hd_iff.1 hx))
theorem get_ok : CtrOk Try.prog 36 getC := det_end tt_ok mixed (.cons (ctrT_ok place_ok) .nil) (fun _ => noAn) 200 5 (fun _ => rfl) (fun _ => rfl) fun x hx => Eq.mp (getVC_ok x) (getVC_true x (hd_iff.1 hx))
theorem rget_ok : CtrOk Try.prog 45 getC := det_end tt_ok mixed TblOk.nil anRGet 200 5 (fun _ => rfl) (fun _ => rfl) fun x hx => Eq.mp (rgetVC_ok x) (rgetVC_true x (hd_iff.1 hx))
end Go.Proofs.Ytjndgegfonhhfaa
end
section
/- What is asked of a sum. -/
namespace Go.Proofs.Ytjndgegfonhhfaa
open Go SE
def sumVC_wp (c : Nat → Cst) (n : Nat) (r : Cst) : Prop := wpF Try.prog [] tt (anSum c n) 200 5 15 [.slR 0 0 6 n] (hO 1 [.ro (rowC c n)]) (fun v h' => endP 1 r.av [.ro (rowC c n)] v h')
def sumVC (c : Nat → Cst) (n : Nat) (r : Cst) : Prop :=
  ((∃ (s : @Nat), ((s ≤ n) ∧
  (True ∧
  (((((s : Nat) : @Int) = (0 : @Int)) ∧
  True) ∧
  ((((@Cst.s0 (@Cst.sum c s)) = (0 : @Int)) ∧
  (((@Cst.s1 (@Cst.sum c s)) = (0 : @Int)) ∧
  (((@Cst.s2 (@Cst.sum c s)) = (0 : @Int)) ∧
  (((@Cst.s3 (@Cst.sum c s)) = (0 : @Int)) ∧
  (((@Cst.s4 (@Cst.sum c s)) = (0 : @Int)) ∧
  (((@Cst.s5 (@Cst.sum c s)) = (0 : @Int)) ∧
  True)))))) ∧
  ((((0 : @Int) = (0 : @Int)) ∧
  (((0 : @Int) = (0 : @Int)) ∧
  (((0 : @Int) = (0 : @Int)) ∧
  (((0 : @Int) = (0 : @Int)) ∧
  (((0 : @Int) = (0 : @Int)) ∧
  (((0 : @Int) = (0 : @Int)) ∧
  True)))))) ∧
  ((((@rowC c n) = (@rowC c n)) ∧
  (@Bool.true = @Bool.true)) ∧
  True))))))) ∧
  ((∀ (s : @Nat), ((s ≤ n) → (cP (decide (((s : Nat) : @Int) < ((n : Nat) : @Int))) ((((0 : @Int) ≤ ((s : Nat) : @Int)) ∧
  (((s : Nat) : @Int) < ((n : Nat) : @Int))) ∧
  ((((0 : @Nat) + s) < n) ∧
  (cP (@Bool.and (@BEq.beq @Int (@instBEqOfDecidableEq @Int @Int.instDecidableEq) (@Cst.s0 (c ((0 : @Nat) + s))) (0 : @Int)) (@Bool.and (@BEq.beq @Int (@instBEqOfDecidableEq @Int @Int.instDecidableEq) (@Cst.s1 (c ((0 : @Nat) + s))) (0 : @Int)) (@Bool.and (@BEq.beq @Int (@instBEqOfDecidableEq @Int @Int.instDecidableEq) (@Cst.s2 (c ((0 : @Nat) + s))) (0 : @Int)) (@Bool.and (@BEq.beq @Int (@instBEqOfDecidableEq @Int @Int.instDecidableEq) (@Cst.s3 (c ((0 : @Nat) + s))) (0 : @Int)) (@Bool.and (@BEq.beq @Int (@instBEqOfDecidableEq @Int @Int.instDecidableEq) (@Cst.s4 (c ((0 : @Nat) + s))) (0 : @Int)) (@Bool.and (@BEq.beq @Int (@instBEqOfDecidableEq @Int @Int.instDecidableEq) (@Cst.s5 (c ((0 : @Nat) + s))) (0 : @Int)) @Bool.true)))))) ((@I64 (((s : Nat) : @Int) + (1 : @Int))) ∧
  (∃ (s_1 : @Nat), ((s_1 ≤ n) ∧
  (((n - s_1) < (n - s)) ∧
  (((((s_1 : Nat) : @Int) = (((s : Nat) : @Int) + (1 : @Int))) ∧
  True) ∧
  ((((@Cst.s0 (@Cst.sum c s_1)) = (@Cst.s0 (@Cst.sum c s))) ∧
  (((@Cst.s1 (@Cst.sum c s_1)) = (@Cst.s1 (@Cst.sum c s))) ∧
  (((@Cst.s2 (@Cst.sum c s_1)) = (@Cst.s2 (@Cst.sum c s))) ∧
  (((@Cst.s3 (@Cst.sum c s_1)) = (@Cst.s3 (@Cst.sum c s))) ∧
  (((@Cst.s4 (@Cst.sum c s_1)) = (@Cst.s4 (@Cst.sum c s))) ∧
  (((@Cst.s5 (@Cst.sum c s_1)) = (@Cst.s5 (@Cst.sum c s))) ∧
  True)))))) ∧
  ((((0 : @Int) = (0 : @Int)) ∧
  (((0 : @Int) = (0 : @Int)) ∧
  (((0 : @Int) = (0 : @Int)) ∧
  (((0 : @Int) = (0 : @Int)) ∧
  (((0 : @Int) = (0 : @Int)) ∧
  (((0 : @Int) = (0 : @Int)) ∧
  True)))))) ∧
  ((((@rowC c n) = (@rowC c n)) ∧
  (@Bool.true = @Bool.true)) ∧
  True)))))))) ((@I64 ((1099511627776 : @Int) - (@Cst.s0 (@Cst.sum c s)))) ∧
  ((@I64 ((@Cst.s0 (@Cst.sum c s)) + (@imin (@imax (@Cst.s0 (c ((0 : @Nat) + s))) (0 : @Int)) ((1099511627776 : @Int) - (@Cst.s0 (@Cst.sum c s)))))) ∧
  ((((AV.lit (Value.int @IntKind.i64 (@Cst.s2 (c ((0 : @Nat) + s))))) = (AV.lit (Value.int @IntKind.i64 (@Cst.s2 (c ((0 : @Nat) + s)))))) ∧
  (((AV.lit (Value.int @IntKind.i64 (@Cst.s2 (@Cst.sum c s)))) = (AV.lit (Value.int @IntKind.i64 (@Cst.s2 (@Cst.sum c s))))) ∧
  (((AV.lit (Value.int @IntKind.i64 (@Cst.s1 (c ((0 : @Nat) + s))))) = (AV.lit (Value.int @IntKind.i64 (@Cst.s1 (c ((0 : @Nat) + s)))))) ∧
  (((AV.lit (Value.int @IntKind.i64 (@Cst.s1 (@Cst.sum c s)))) = (AV.lit (Value.int @IntKind.i64 (@Cst.s1 (@Cst.sum c s))))) ∧
  True)))) ∧
  ((@I64 ((1099511627776 : @Int) - (@Cst.s1 (@Cst.sum c s)))) ∧
  ((@I64 ((@Cst.s1 (@Cst.sum c s)) + (@imin (@imax (@Cst.s1 (c ((0 : @Nat) + s))) (0 : @Int)) ((1099511627776 : @Int) - (@Cst.s1 (@Cst.sum c s)))))) ∧
  ((((AV.lit (Value.int @IntKind.i64 (@Cst.s2 (c ((0 : @Nat) + s))))) = (AV.lit (Value.int @IntKind.i64 (@Cst.s2 (c ((0 : @Nat) + s)))))) ∧
  (((AV.lit (Value.int @IntKind.i64 (@Cst.s2 (@Cst.sum c s)))) = (AV.lit (Value.int @IntKind.i64 (@Cst.s2 (@Cst.sum c s))))) ∧
  True)) ∧
  ((@I64 ((1099511627776 : @Int) - (@Cst.s2 (@Cst.sum c s)))) ∧
  ((@I64 ((@Cst.s2 (@Cst.sum c s)) + (@imin (@imax (@Cst.s2 (c ((0 : @Nat) + s))) (0 : @Int)) ((1099511627776 : @Int) - (@Cst.s2 (@Cst.sum c s)))))) ∧
  (True ∧
  (True ∧
  (True ∧
  (True ∧
  ((@I64 ((1099511627776 : @Int) - (@Cst.s3 (@Cst.sum c s)))) ∧
  ((@I64 ((@Cst.s3 (@Cst.sum c s)) + (@imin (@imax (@Cst.s3 (c ((0 : @Nat) + s))) (0 : @Int)) ((1099511627776 : @Int) - (@Cst.s3 (@Cst.sum c s)))))) ∧
  ((((AV.lit (Value.int @IntKind.i64 (@Cst.s5 (c ((0 : @Nat) + s))))) = (AV.lit (Value.int @IntKind.i64 (@Cst.s5 (c ((0 : @Nat) + s)))))) ∧
  (((AV.lit (Value.int @IntKind.i64 (@Cst.s5 (@Cst.sum c s)))) = (AV.lit (Value.int @IntKind.i64 (@Cst.s5 (@Cst.sum c s))))) ∧
  (((AV.lit (Value.int @IntKind.i64 (@Cst.s4 (c ((0 : @Nat) + s))))) = (AV.lit (Value.int @IntKind.i64 (@Cst.s4 (c ((0 : @Nat) + s)))))) ∧
  (((AV.lit (Value.int @IntKind.i64 (@Cst.s4 (@Cst.sum c s)))) = (AV.lit (Value.int @IntKind.i64 (@Cst.s4 (@Cst.sum c s))))) ∧
  True)))) ∧
  ((@I64 ((1099511627776 : @Int) - (@Cst.s4 (@Cst.sum c s)))) ∧
  ((@I64 ((@Cst.s4 (@Cst.sum c s)) + (@imin (@imax (@Cst.s4 (c ((0 : @Nat) + s))) (0 : @Int)) ((1099511627776 : @Int) - (@Cst.s4 (@Cst.sum c s)))))) ∧
  ((((AV.lit (Value.int @IntKind.i64 (@Cst.s5 (c ((0 : @Nat) + s))))) = (AV.lit (Value.int @IntKind.i64 (@Cst.s5 (c ((0 : @Nat) + s)))))) ∧
  (((AV.lit (Value.int @IntKind.i64 (@Cst.s5 (@Cst.sum c s)))) = (AV.lit (Value.int @IntKind.i64 (@Cst.s5 (@Cst.sum c s))))) ∧
  True)) ∧
  ((@I64 ((1099511627776 : @Int) - (@Cst.s5 (@Cst.sum c s)))) ∧
  ((@I64 ((@Cst.s5 (@Cst.sum c s)) + (@imin (@imax (@Cst.s5 (c ((0 : @Nat) + s))) (0 : @Int)) ((1099511627776 : @Int) - (@Cst.s5 (@Cst.sum c s)))))) ∧
  (True ∧
  (True ∧
  (True ∧
  (True ∧
  ((@I64 (((s : Nat) : @Int) + (1 : @Int))) ∧
  (∃ (s_1 : @Nat), ((s_1 ≤ n) ∧
  (((n - s_1) < (n - s)) ∧
  (((((s_1 : Nat) : @Int) = (((s : Nat) : @Int) + (1 : @Int))) ∧
  True) ∧
  ((((@Cst.s0 (@Cst.sum c s_1)) = ((@Cst.s0 (@Cst.sum c s)) + (@imin (@imax (@Cst.s0 (c ((0 : @Nat) + s))) (0 : @Int)) ((1099511627776 : @Int) - (@Cst.s0 (@Cst.sum c s)))))) ∧
  (((@Cst.s1 (@Cst.sum c s_1)) = ((@Cst.s1 (@Cst.sum c s)) + (@imin (@imax (@Cst.s1 (c ((0 : @Nat) + s))) (0 : @Int)) ((1099511627776 : @Int) - (@Cst.s1 (@Cst.sum c s)))))) ∧
  (((@Cst.s2 (@Cst.sum c s_1)) = ((@Cst.s2 (@Cst.sum c s)) + (@imin (@imax (@Cst.s2 (c ((0 : @Nat) + s))) (0 : @Int)) ((1099511627776 : @Int) - (@Cst.s2 (@Cst.sum c s)))))) ∧
  (((@Cst.s3 (@Cst.sum c s_1)) = ((@Cst.s3 (@Cst.sum c s)) + (@imin (@imax (@Cst.s3 (c ((0 : @Nat) + s))) (0 : @Int)) ((1099511627776 : @Int) - (@Cst.s3 (@Cst.sum c s)))))) ∧
  (((@Cst.s4 (@Cst.sum c s_1)) = ((@Cst.s4 (@Cst.sum c s)) + (@imin (@imax (@Cst.s4 (c ((0 : @Nat) + s))) (0 : @Int)) ((1099511627776 : @Int) - (@Cst.s4 (@Cst.sum c s)))))) ∧
  (((@Cst.s5 (@Cst.sum c s_1)) = ((@Cst.s5 (@Cst.sum c s)) + (@imin (@imax (@Cst.s5 (c ((0 : @Nat) + s))) (0 : @Int)) ((1099511627776 : @Int) - (@Cst.s5 (@Cst.sum c s)))))) ∧
  True)))))) ∧
  ((((0 : @Int) = (0 : @Int)) ∧
  (((0 : @Int) = (0 : @Int)) ∧
  (((0 : @Int) = (0 : @Int)) ∧
  (((0 : @Int) = (0 : @Int)) ∧
  (((0 : @Int) = (0 : @Int)) ∧
  (((0 : @Int) = (0 : @Int)) ∧
  True)))))) ∧
  ((((@rowC c n) = (@rowC c n)) ∧
  (@Bool.true = @Bool.true)) ∧
  True))))))))))))))))))))))))))))))))))) ((((@Cst.s0 r) = (@Cst.s0 (@Cst.sum c s))) ∧
  (((@Cst.s1 r) = (@Cst.s1 (@Cst.sum c s))) ∧
  (((@Cst.s2 r) = (@Cst.s2 (@Cst.sum c s))) ∧
  (((@Cst.s3 r) = (@Cst.s3 (@Cst.sum c s))) ∧
  (((@Cst.s4 r) = (@Cst.s4 (@Cst.sum c s))) ∧
  (((@Cst.s5 r) = (@Cst.s5 (@Cst.sum c s))) ∧
  True)))))) ∧
  ((((@rowC c n) = (@rowC c n)) ∧
  (@Bool.true = @Bool.true)) ∧
  True))))) ∧
  True))
theorem sumVC_ok (c : Nat → Cst) (n : Nat) (r : Cst) : sumVC c n r = sumVC_wp c n r := by kernel_rfl
end Go.Proofs.Ytjndgegfonhhfaa
end
section
/- Sums. -/
namespace Go.Proofs.Ytjndgegfonhhfaa
open Go SE
namespace Cst
theorem held_ok {a b : Int} (h : okI a) : okI (heldM a b) := by unfold okI heldM maxCost imin imax at *; grind
theorem held_zero {a : Int} (h : okI a) : heldM a 0 = a := by unfold okI heldM maxCost imin imax at *; grind
theorem add_ok {x y : Cst} (h : x.ok) : (add x y).ok := by
  obtain ⟨h0, h1, h2, h3, h4, h5⟩ := h
  exact ⟨held_ok h0, held_ok h1, held_ok h2, held_ok h3, held_ok h4, held_ok h5⟩
theorem zero_ok : zero.ok := by unfold ok zero okI maxCost; simp
theorem sum_ok (c : Nat → Cst) : ∀ n, (sum c n).ok
  | 0 => zero_ok
  | n + 1 => add_ok (sum_ok c n)
theorem add_zero {x y : Cst} (h : x.ok) (h0 : y.s0 = 0) (h1 : y.s1 = 0) (h2 : y.s2 = 0) (h3 : y.s3 = 0) (h4 : y.s4 = 0) (h5 : y.s5 = 0) : add x y = x := by
  obtain ⟨k0, k1, k2, k3, k4, k5⟩ := h
  simp only [add, h0, h1, h2, h3, h4, h5, held_zero k0, held_zero k1, held_zero k2, held_zero k3, held_zero k4, held_zero k5]
theorem held_i64 {a b : Int} (h : okI a) : I64 (1099511627776 - a) ∧ I64 (a + imin (imax b 0) (1099511627776 - a)) := by
  have := held_ok (b := b) h
  unfold okI heldM maxCost at *; unfold I64; grind
end Cst
theorem sumVC_true (c : Nat → Cst) (n : Nat) (hn : n < 4611686018427387904) : sumVC c n (Cst.sum c n) := by
  unfold sumVC
  refine ⟨⟨(0 : Nat), ?_⟩, fun (s : Nat) (hs : s ≤ n) => ?_, trivial⟩
  · simp [Cst.sum, Cst.zero]
  obtain ⟨k0, k1, k2, k3, k4, k5⟩ := Cst.sum_ok c s
  simp only [Nat.zero_add, Int.toNat_natCast]
  refine cP_intro (fun hb => ?_) (fun hb => ?_)
  · have hb : (s : Int) < n := of_decide_eq_true hb
    have hsn : s < n := by omega
    have hI : I64 ((s : Int) + 1) := by unfold I64; omega
    refine ⟨⟨by omega, hb⟩, hsn, cP_intro (fun hz => ?_) (fun hz => ?_)⟩
    · simp only [Bool.and_eq_true, beq_iff_eq, Bool.and_true] at hz
      obtain ⟨z0, z1, z2, z3, z4, z5⟩ := hz
      have e : Cst.sum c (s + 1) = Cst.sum c s := Cst.add_zero (Cst.sum_ok c s) z0 z1 z2 z3 z4 z5
      refine ⟨hI, (s + 1 : Nat), ?_⟩
      simp only [e, and_true, true_and]
      exact ⟨by omega, by omega, by push_cast; rfl⟩
    · have a0 := fun b => Cst.held_i64 (b := b) k0
      have a1 := fun b => Cst.held_i64 (b := b) k1
      have a2 := fun b => Cst.held_i64 (b := b) k2
      have a3 := fun b => Cst.held_i64 (b := b) k3
      have a4 := fun b => Cst.held_i64 (b := b) k4
      have a5 := fun b => Cst.held_i64 (b := b) k5
      refine ⟨(a0 0).1, (a0 _).2, by simp, (a1 0).1, (a1 _).2, by simp, (a2 0).1, (a2 _).2, trivial, trivial, trivial, trivial, (a3 0).1, (a3 _).2, by simp, (a4 0).1, (a4 _).2, by simp, (a5 0).1, (a5 _).2, trivial, trivial, trivial, trivial, hI, (s + 1 : Nat), ?_⟩
      simp only [Cst.sum, Cst.add, Cst.heldM, Cst.maxCost, and_true, true_and]
      exact ⟨by omega, by omega, by push_cast; rfl⟩
  · have hb : ¬ (s : Int) < n := of_decide_eq_false hb
    obtain rfl : s = n := by omega
    simp
theorem sum_sp (c : Nat → Cst) (n : Nat) (hn : n < 4611686018427387904) : Sp Try.prog 15 [.slR 0 0 6 n] (hO 1 [.ro (rowC c n)]) (fun v h' => v = (Cst.sum c n).av ∧ h' = hO 1 [.ro (rowC c n)]) := by
  have h := sumVC_true c n hn
  rw [sumVC_ok] at h
  unfold sumVC_wp at h
  exact sp_endk tt_ok mixed TblOk.nil (anSum c n) 200 5 1 1 rfl rfl h
end Go.Proofs.Ytjndgegfonhhfaa
end
section
/- A program that is awake. -/
namespace Go.Proofs.Ytjndgegfonhhfaa
open Go SE
def awakeVC_wp  : Prop := wpF Try.prog [] tt (fun _ _ _ _ => []) 400 20 11 [] (hO 0 []) (fun v h' => endP 0 (.lit (.bool true)) [] v h')
def awakeVC  : Prop :=
  ((@I64 (2 : @Int)) ∧
  ((((0 : @Int) ≤ (0 : @Int)) ∧
  ((@I64 (0 : @Int)) ∧
  ((@I64 (0 : @Int)) ∧
  ((@I64 (28 : @Int)) ∧
  (((0 : @Int) ≤ (0 : @Int)) ∧
  ((@I64 (2 : @Int)) ∧
  ((@I64 (2 : @Int)) ∧
  ((((AV.lit (Value.string (@ByteArray.mk (@List.toArray @UInt8 [(97 : @UInt8)])))) = (AV.lit (Value.string (@ByteArray.mk (@List.toArray @UInt8 [(97 : @UInt8)]))))) ∧
  (((AV.agg [(AV.lit (Value.slice (@Option.none @Addr) (0 : @Nat) (0 : @Nat))), (AV.lit (Value.slice (@Option.none @Addr) (0 : @Nat) (0 : @Nat)))]) = (AV.agg [(AV.lit (Value.slice (@Option.none @Addr) (0 : @Nat) (0 : @Nat))), (AV.lit (Value.slice (@Option.none @Addr) (0 : @Nat) (0 : @Nat)))])) ∧
  True)) ∧
  ((True ∧
  ((True ∧
  (((((0 : @Int) ≤ (0 : @Int)) ∧
  ((0 : @Int) ≤ (1 : @Int))) ∧
  ((@I64 (1099511627776 : @Int)) ∧
  ((@I64 (2 : @Int)) ∧
  ((((AV.lit (Value.int @IntKind.i64 (0 : @Int))) = (AV.lit (Value.int @IntKind.i64 (0 : @Int)))) ∧
  (((AV.lit (Value.int @IntKind.i64 (0 : @Int))) = (AV.lit (Value.int @IntKind.i64 (0 : @Int)))) ∧
  (((AV.lit (Value.int @IntKind.i64 (2 : @Int))) = (AV.lit (Value.int @IntKind.i64 (2 : @Int)))) ∧
  (((AV.lit (Value.int @IntKind.i64 (0 : @Int))) = (AV.lit (Value.int @IntKind.i64 (0 : @Int)))) ∧
  True)))) ∧
  ((@I64 (1099511627776 : @Int)) ∧
  ((@I64 (2 : @Int)) ∧
  ((((AV.lit (Value.int @IntKind.i64 (0 : @Int))) = (AV.lit (Value.int @IntKind.i64 (0 : @Int)))) ∧
  (((AV.lit (Value.int @IntKind.i64 (0 : @Int))) = (AV.lit (Value.int @IntKind.i64 (0 : @Int)))) ∧
  True)) ∧
  ((@I64 (1099511627776 : @Int)) ∧
  ((@I64 (0 : @Int)) ∧
  (True ∧
  (True ∧
  (True ∧
  (True ∧
  ((@I64 (1099511627776 : @Int)) ∧
  ((@I64 (0 : @Int)) ∧
  ((((AV.lit (Value.int @IntKind.i64 (0 : @Int))) = (AV.lit (Value.int @IntKind.i64 (0 : @Int)))) ∧
  (((AV.lit (Value.int @IntKind.i64 (0 : @Int))) = (AV.lit (Value.int @IntKind.i64 (0 : @Int)))) ∧
  (((AV.lit (Value.int @IntKind.i64 (1 : @Int))) = (AV.lit (Value.int @IntKind.i64 (1 : @Int)))) ∧
  (((AV.lit (Value.int @IntKind.i64 (0 : @Int))) = (AV.lit (Value.int @IntKind.i64 (0 : @Int)))) ∧
  True)))) ∧
  ((@I64 (1099511627776 : @Int)) ∧
  ((@I64 (1 : @Int)) ∧
  ((((AV.lit (Value.int @IntKind.i64 (0 : @Int))) = (AV.lit (Value.int @IntKind.i64 (0 : @Int)))) ∧
  (((AV.lit (Value.int @IntKind.i64 (0 : @Int))) = (AV.lit (Value.int @IntKind.i64 (0 : @Int)))) ∧
  True)) ∧
  ((@I64 (1099511627776 : @Int)) ∧
  ((@I64 (0 : @Int)) ∧
  (True ∧
  (True ∧
  (True ∧
  (True ∧
  ((@I64 (1 : @Int)) ∧
  ((((0 : @Int) ≤ (1 : @Int)) ∧
  ((0 : @Int) ≤ (0 : @Int))) ∧
  ((@I64 (1099511627774 : @Int)) ∧
  ((@I64 (3 : @Int)) ∧
  ((((AV.lit (Value.int @IntKind.i64 (0 : @Int))) = (AV.lit (Value.int @IntKind.i64 (0 : @Int)))) ∧
  (((AV.lit (Value.int @IntKind.i64 (0 : @Int))) = (AV.lit (Value.int @IntKind.i64 (0 : @Int)))) ∧
  (((AV.lit (Value.int @IntKind.i64 (0 : @Int))) = (AV.lit (Value.int @IntKind.i64 (0 : @Int)))) ∧
  (((AV.lit (Value.int @IntKind.i64 (2 : @Int))) = (AV.lit (Value.int @IntKind.i64 (2 : @Int)))) ∧
  True)))) ∧
  ((@I64 (1099511627774 : @Int)) ∧
  ((@I64 (2 : @Int)) ∧
  ((((AV.lit (Value.int @IntKind.i64 (0 : @Int))) = (AV.lit (Value.int @IntKind.i64 (0 : @Int)))) ∧
  (((AV.lit (Value.int @IntKind.i64 (0 : @Int))) = (AV.lit (Value.int @IntKind.i64 (0 : @Int)))) ∧
  True)) ∧
  ((@I64 (1099511627776 : @Int)) ∧
  ((@I64 (0 : @Int)) ∧
  (True ∧
  (True ∧
  (True ∧
  (True ∧
  ((@I64 (1099511627776 : @Int)) ∧
  ((@I64 (0 : @Int)) ∧
  ((((AV.lit (Value.int @IntKind.i64 (0 : @Int))) = (AV.lit (Value.int @IntKind.i64 (0 : @Int)))) ∧
  (((AV.lit (Value.int @IntKind.i64 (0 : @Int))) = (AV.lit (Value.int @IntKind.i64 (0 : @Int)))) ∧
  (((AV.lit (Value.int @IntKind.i64 (0 : @Int))) = (AV.lit (Value.int @IntKind.i64 (0 : @Int)))) ∧
  (((AV.lit (Value.int @IntKind.i64 (1 : @Int))) = (AV.lit (Value.int @IntKind.i64 (1 : @Int)))) ∧
  True)))) ∧
  ((@I64 (1099511627775 : @Int)) ∧
  ((@I64 (1 : @Int)) ∧
  ((((AV.lit (Value.int @IntKind.i64 (0 : @Int))) = (AV.lit (Value.int @IntKind.i64 (0 : @Int)))) ∧
  (((AV.lit (Value.int @IntKind.i64 (0 : @Int))) = (AV.lit (Value.int @IntKind.i64 (0 : @Int)))) ∧
  True)) ∧
  ((@I64 (1099511627776 : @Int)) ∧
  ((@I64 (0 : @Int)) ∧
  (True ∧
  (True ∧
  (True ∧
  (True ∧
  ((@I64 (2 : @Int)) ∧
  (True ∧
  (True ∧
  (True ∧
  ((((0 : @Int) ≤ (0 : @Int)) ∧
  ((0 : @Int) ≤ (1 : @Int))) ∧
  ((@I64 (1099511627776 : @Int)) ∧
  ((@I64 (3 : @Int)) ∧
  ((((AV.lit (Value.int @IntKind.i64 (0 : @Int))) = (AV.lit (Value.int @IntKind.i64 (0 : @Int)))) ∧
  (((AV.lit (Value.int @IntKind.i64 (0 : @Int))) = (AV.lit (Value.int @IntKind.i64 (0 : @Int)))) ∧
  (((AV.lit (Value.int @IntKind.i64 (0 : @Int))) = (AV.lit (Value.int @IntKind.i64 (0 : @Int)))) ∧
  (((AV.lit (Value.int @IntKind.i64 (0 : @Int))) = (AV.lit (Value.int @IntKind.i64 (0 : @Int)))) ∧
  True)))) ∧
  ((@I64 (1099511627776 : @Int)) ∧
  ((@I64 (0 : @Int)) ∧
  ((((AV.lit (Value.int @IntKind.i64 (0 : @Int))) = (AV.lit (Value.int @IntKind.i64 (0 : @Int)))) ∧
  (((AV.lit (Value.int @IntKind.i64 (0 : @Int))) = (AV.lit (Value.int @IntKind.i64 (0 : @Int)))) ∧
  True)) ∧
  ((@I64 (1099511627776 : @Int)) ∧
  ((@I64 (0 : @Int)) ∧
  (True ∧
  (True ∧
  (True ∧
  (True ∧
  ((@I64 (1099511627776 : @Int)) ∧
  ((@I64 (0 : @Int)) ∧
  ((((AV.lit (Value.int @IntKind.i64 (0 : @Int))) = (AV.lit (Value.int @IntKind.i64 (0 : @Int)))) ∧
  (((AV.lit (Value.int @IntKind.i64 (0 : @Int))) = (AV.lit (Value.int @IntKind.i64 (0 : @Int)))) ∧
  (((AV.lit (Value.int @IntKind.i64 (0 : @Int))) = (AV.lit (Value.int @IntKind.i64 (0 : @Int)))) ∧
  (((AV.lit (Value.int @IntKind.i64 (0 : @Int))) = (AV.lit (Value.int @IntKind.i64 (0 : @Int)))) ∧
  True)))) ∧
  ((@I64 (1099511627776 : @Int)) ∧
  ((@I64 (0 : @Int)) ∧
  ((((AV.lit (Value.int @IntKind.i64 (0 : @Int))) = (AV.lit (Value.int @IntKind.i64 (0 : @Int)))) ∧
  (((AV.lit (Value.int @IntKind.i64 (0 : @Int))) = (AV.lit (Value.int @IntKind.i64 (0 : @Int)))) ∧
  True)) ∧
  ((@I64 (1099511627776 : @Int)) ∧
  ((@I64 (0 : @Int)) ∧
  (True ∧
  (True ∧
  (True ∧
  (True ∧
  ((@I64 (1 : @Int)) ∧
  ((((0 : @Int) ≤ (1 : @Int)) ∧
  ((0 : @Int) ≤ (0 : @Int))) ∧
  ((@I64 (1099511627773 : @Int)) ∧
  ((@I64 (6 : @Int)) ∧
  ((((AV.lit (Value.int @IntKind.i64 (0 : @Int))) = (AV.lit (Value.int @IntKind.i64 (0 : @Int)))) ∧
  (((AV.lit (Value.int @IntKind.i64 (0 : @Int))) = (AV.lit (Value.int @IntKind.i64 (0 : @Int)))) ∧
  (((AV.lit (Value.int @IntKind.i64 (2 : @Int))) = (AV.lit (Value.int @IntKind.i64 (2 : @Int)))) ∧
  (((AV.lit (Value.int @IntKind.i64 (0 : @Int))) = (AV.lit (Value.int @IntKind.i64 (0 : @Int)))) ∧
  True)))) ∧
  ((@I64 (1099511627776 : @Int)) ∧
  ((@I64 (2 : @Int)) ∧
  ((((AV.lit (Value.int @IntKind.i64 (0 : @Int))) = (AV.lit (Value.int @IntKind.i64 (0 : @Int)))) ∧
  (((AV.lit (Value.int @IntKind.i64 (0 : @Int))) = (AV.lit (Value.int @IntKind.i64 (0 : @Int)))) ∧
  True)) ∧
  ((@I64 (1099511627776 : @Int)) ∧
  ((@I64 (0 : @Int)) ∧
  (True ∧
  (True ∧
  (True ∧
  (True ∧
  ((@I64 (1099511627776 : @Int)) ∧
  ((@I64 (0 : @Int)) ∧
  ((((AV.lit (Value.int @IntKind.i64 (0 : @Int))) = (AV.lit (Value.int @IntKind.i64 (0 : @Int)))) ∧
  (((AV.lit (Value.int @IntKind.i64 (0 : @Int))) = (AV.lit (Value.int @IntKind.i64 (0 : @Int)))) ∧
  (((AV.lit (Value.int @IntKind.i64 (1 : @Int))) = (AV.lit (Value.int @IntKind.i64 (1 : @Int)))) ∧
  (((AV.lit (Value.int @IntKind.i64 (0 : @Int))) = (AV.lit (Value.int @IntKind.i64 (0 : @Int)))) ∧
  True)))) ∧
  ((@I64 (1099511627776 : @Int)) ∧
  ((@I64 (1 : @Int)) ∧
  ((((AV.lit (Value.int @IntKind.i64 (0 : @Int))) = (AV.lit (Value.int @IntKind.i64 (0 : @Int)))) ∧
  (((AV.lit (Value.int @IntKind.i64 (0 : @Int))) = (AV.lit (Value.int @IntKind.i64 (0 : @Int)))) ∧
  True)) ∧
  ((@I64 (1099511627776 : @Int)) ∧
  ((@I64 (0 : @Int)) ∧
  (True ∧
  (True ∧
  (True ∧
  (True ∧
  ((@I64 (2 : @Int)) ∧
  ((((0 : @Int) ≤ (0 : @Int)) ∧
  ((0 : @Int) ≤ (2 : @Int))) ∧
  ((((0 : @Int) ≤ (5 : @Int)) ∧
  ((0 : @Int) ≤ (252 : @Int))) ∧
  (((5 : @Nat) < (258 : @Nat)) ∧
  ((((0 : @Int) ≤ (5 : @Int)) ∧
  ((0 : @Int) ≤ (252 : @Int))) ∧
  (((5 : @Nat) < (258 : @Nat)) ∧
  ((@I64 (1 : @Int)) ∧
  ((@I64 (1 : @Int)) ∧
  ((((0 : @Int) ≤ (1 : @Int)) ∧
  ((0 : @Int) ≤ (1 : @Int))) ∧
  ((((0 : @Int) ≤ (3 : @Int)) ∧
  ((0 : @Int) ≤ (254 : @Int))) ∧
  (((3 : @Nat) < (258 : @Nat)) ∧
  ((((0 : @Int) ≤ (3 : @Int)) ∧
  ((0 : @Int) ≤ (254 : @Int))) ∧
  (((3 : @Nat) < (258 : @Nat)) ∧
  ((@I64 (2 : @Int)) ∧
  ((@I64 (2 : @Int)) ∧
  ((((0 : @Int) ≤ (2 : @Int)) ∧
  ((0 : @Int) ≤ (0 : @Int))) ∧
  ((((0 : @Int) ≤ (5 : @Int)) ∧
  ((0 : @Int) ≤ (252 : @Int))) ∧
  (((5 : @Nat) < (258 : @Nat)) ∧
  ((@I64 (3 : @Int)) ∧
  ((@I64 (6 : @Int)) ∧
  ((@I64 (3 : @Int)) ∧
  ((@Bool.true = @Bool.true) ∧
  True)))))))))))))))))))))))))))))))))))))))))))))))))))))))))))))))))))))))))))))))))))))))))))))))))))))))))))))))))))))))))))))))) ∧
  (True ∧
  ((((0 : @Int) ≤ (0 : @Int)) ∧
  ((0 : @Int) ≤ (1 : @Int))) ∧
  ((@I64 (1099511627776 : @Int)) ∧
  ((@I64 (2 : @Int)) ∧
  ((((AV.lit (Value.int @IntKind.i64 (0 : @Int))) = (AV.lit (Value.int @IntKind.i64 (0 : @Int)))) ∧
  (((AV.lit (Value.int @IntKind.i64 (0 : @Int))) = (AV.lit (Value.int @IntKind.i64 (0 : @Int)))) ∧
  (((AV.lit (Value.int @IntKind.i64 (2 : @Int))) = (AV.lit (Value.int @IntKind.i64 (2 : @Int)))) ∧
  (((AV.lit (Value.int @IntKind.i64 (0 : @Int))) = (AV.lit (Value.int @IntKind.i64 (0 : @Int)))) ∧
  True)))) ∧
  ((@I64 (1099511627776 : @Int)) ∧
  ((@I64 (2 : @Int)) ∧
  ((((AV.lit (Value.int @IntKind.i64 (0 : @Int))) = (AV.lit (Value.int @IntKind.i64 (0 : @Int)))) ∧
  (((AV.lit (Value.int @IntKind.i64 (0 : @Int))) = (AV.lit (Value.int @IntKind.i64 (0 : @Int)))) ∧
  True)) ∧
  ((@I64 (1099511627776 : @Int)) ∧
  ((@I64 (0 : @Int)) ∧
  (True ∧
  (True ∧
  (True ∧
  (True ∧
  ((@I64 (1099511627776 : @Int)) ∧
  ((@I64 (0 : @Int)) ∧
  ((((AV.lit (Value.int @IntKind.i64 (0 : @Int))) = (AV.lit (Value.int @IntKind.i64 (0 : @Int)))) ∧
  (((AV.lit (Value.int @IntKind.i64 (0 : @Int))) = (AV.lit (Value.int @IntKind.i64 (0 : @Int)))) ∧
  (((AV.lit (Value.int @IntKind.i64 (1 : @Int))) = (AV.lit (Value.int @IntKind.i64 (1 : @Int)))) ∧
  (((AV.lit (Value.int @IntKind.i64 (0 : @Int))) = (AV.lit (Value.int @IntKind.i64 (0 : @Int)))) ∧
  True)))) ∧
  ((@I64 (1099511627776 : @Int)) ∧
  ((@I64 (1 : @Int)) ∧
  ((((AV.lit (Value.int @IntKind.i64 (0 : @Int))) = (AV.lit (Value.int @IntKind.i64 (0 : @Int)))) ∧
  (((AV.lit (Value.int @IntKind.i64 (0 : @Int))) = (AV.lit (Value.int @IntKind.i64 (0 : @Int)))) ∧
  True)) ∧
  ((@I64 (1099511627776 : @Int)) ∧
  ((@I64 (0 : @Int)) ∧
  (True ∧
  (True ∧
  (True ∧
  (True ∧
  ((@I64 (1 : @Int)) ∧
  ((((0 : @Int) ≤ (1 : @Int)) ∧
  ((0 : @Int) ≤ (0 : @Int))) ∧
  ((@I64 (1099511627774 : @Int)) ∧
  ((@I64 (3 : @Int)) ∧
  ((((AV.lit (Value.int @IntKind.i64 (0 : @Int))) = (AV.lit (Value.int @IntKind.i64 (0 : @Int)))) ∧
  (((AV.lit (Value.int @IntKind.i64 (0 : @Int))) = (AV.lit (Value.int @IntKind.i64 (0 : @Int)))) ∧
  (((AV.lit (Value.int @IntKind.i64 (0 : @Int))) = (AV.lit (Value.int @IntKind.i64 (0 : @Int)))) ∧
  (((AV.lit (Value.int @IntKind.i64 (2 : @Int))) = (AV.lit (Value.int @IntKind.i64 (2 : @Int)))) ∧
  True)))) ∧
  ((@I64 (1099511627774 : @Int)) ∧
  ((@I64 (2 : @Int)) ∧
  ((((AV.lit (Value.int @IntKind.i64 (0 : @Int))) = (AV.lit (Value.int @IntKind.i64 (0 : @Int)))) ∧
  (((AV.lit (Value.int @IntKind.i64 (0 : @Int))) = (AV.lit (Value.int @IntKind.i64 (0 : @Int)))) ∧
  True)) ∧
  ((@I64 (1099511627776 : @Int)) ∧
  ((@I64 (0 : @Int)) ∧
  (True ∧
  (True ∧
  (True ∧
  (True ∧
  ((@I64 (1099511627776 : @Int)) ∧
  ((@I64 (0 : @Int)) ∧
  ((((AV.lit (Value.int @IntKind.i64 (0 : @Int))) = (AV.lit (Value.int @IntKind.i64 (0 : @Int)))) ∧
  (((AV.lit (Value.int @IntKind.i64 (0 : @Int))) = (AV.lit (Value.int @IntKind.i64 (0 : @Int)))) ∧
  (((AV.lit (Value.int @IntKind.i64 (0 : @Int))) = (AV.lit (Value.int @IntKind.i64 (0 : @Int)))) ∧
  (((AV.lit (Value.int @IntKind.i64 (1 : @Int))) = (AV.lit (Value.int @IntKind.i64 (1 : @Int)))) ∧
  True)))) ∧
  ((@I64 (1099511627775 : @Int)) ∧
  ((@I64 (1 : @Int)) ∧
  ((((AV.lit (Value.int @IntKind.i64 (0 : @Int))) = (AV.lit (Value.int @IntKind.i64 (0 : @Int)))) ∧
  (((AV.lit (Value.int @IntKind.i64 (0 : @Int))) = (AV.lit (Value.int @IntKind.i64 (0 : @Int)))) ∧
  True)) ∧
  ((@I64 (1099511627776 : @Int)) ∧
  ((@I64 (0 : @Int)) ∧
  (True ∧
  (True ∧
  (True ∧
  (True ∧
  ((@I64 (2 : @Int)) ∧
  (True ∧
  (True ∧
  ((((0 : @Int) ≤ (0 : @Int)) ∧
  ((0 : @Int) ≤ (1 : @Int))) ∧
  ((@I64 (1099511627776 : @Int)) ∧
  ((@I64 (3 : @Int)) ∧
  ((((AV.lit (Value.int @IntKind.i64 (0 : @Int))) = (AV.lit (Value.int @IntKind.i64 (0 : @Int)))) ∧
  (((AV.lit (Value.int @IntKind.i64 (0 : @Int))) = (AV.lit (Value.int @IntKind.i64 (0 : @Int)))) ∧
  (((AV.lit (Value.int @IntKind.i64 (0 : @Int))) = (AV.lit (Value.int @IntKind.i64 (0 : @Int)))) ∧
  (((AV.lit (Value.int @IntKind.i64 (0 : @Int))) = (AV.lit (Value.int @IntKind.i64 (0 : @Int)))) ∧
  True)))) ∧
  ((@I64 (1099511627776 : @Int)) ∧
  ((@I64 (0 : @Int)) ∧
  ((((AV.lit (Value.int @IntKind.i64 (0 : @Int))) = (AV.lit (Value.int @IntKind.i64 (0 : @Int)))) ∧
  (((AV.lit (Value.int @IntKind.i64 (0 : @Int))) = (AV.lit (Value.int @IntKind.i64 (0 : @Int)))) ∧
  True)) ∧
  ((@I64 (1099511627776 : @Int)) ∧
  ((@I64 (0 : @Int)) ∧
  (True ∧
  (True ∧
  (True ∧
  (True ∧
  ((@I64 (1099511627776 : @Int)) ∧
  ((@I64 (0 : @Int)) ∧
  ((((AV.lit (Value.int @IntKind.i64 (0 : @Int))) = (AV.lit (Value.int @IntKind.i64 (0 : @Int)))) ∧
  (((AV.lit (Value.int @IntKind.i64 (0 : @Int))) = (AV.lit (Value.int @IntKind.i64 (0 : @Int)))) ∧
  (((AV.lit (Value.int @IntKind.i64 (0 : @Int))) = (AV.lit (Value.int @IntKind.i64 (0 : @Int)))) ∧
  (((AV.lit (Value.int @IntKind.i64 (0 : @Int))) = (AV.lit (Value.int @IntKind.i64 (0 : @Int)))) ∧
  True)))) ∧
  ((@I64 (1099511627776 : @Int)) ∧
  ((@I64 (0 : @Int)) ∧
  ((((AV.lit (Value.int @IntKind.i64 (0 : @Int))) = (AV.lit (Value.int @IntKind.i64 (0 : @Int)))) ∧
  (((AV.lit (Value.int @IntKind.i64 (0 : @Int))) = (AV.lit (Value.int @IntKind.i64 (0 : @Int)))) ∧
  True)) ∧
  ((@I64 (1099511627776 : @Int)) ∧
  ((@I64 (0 : @Int)) ∧
  (True ∧
  (True ∧
  (True ∧
  (True ∧
  ((@I64 (1 : @Int)) ∧
  ((((0 : @Int) ≤ (1 : @Int)) ∧
  ((0 : @Int) ≤ (0 : @Int))) ∧
  ((@I64 (1099511627773 : @Int)) ∧
  ((@I64 (6 : @Int)) ∧
  ((((AV.lit (Value.int @IntKind.i64 (0 : @Int))) = (AV.lit (Value.int @IntKind.i64 (0 : @Int)))) ∧
  (((AV.lit (Value.int @IntKind.i64 (0 : @Int))) = (AV.lit (Value.int @IntKind.i64 (0 : @Int)))) ∧
  (((AV.lit (Value.int @IntKind.i64 (2 : @Int))) = (AV.lit (Value.int @IntKind.i64 (2 : @Int)))) ∧
  (((AV.lit (Value.int @IntKind.i64 (0 : @Int))) = (AV.lit (Value.int @IntKind.i64 (0 : @Int)))) ∧
  True)))) ∧
  ((@I64 (1099511627776 : @Int)) ∧
  ((@I64 (2 : @Int)) ∧
  ((((AV.lit (Value.int @IntKind.i64 (0 : @Int))) = (AV.lit (Value.int @IntKind.i64 (0 : @Int)))) ∧
  (((AV.lit (Value.int @IntKind.i64 (0 : @Int))) = (AV.lit (Value.int @IntKind.i64 (0 : @Int)))) ∧
  True)) ∧
  ((@I64 (1099511627776 : @Int)) ∧
  ((@I64 (0 : @Int)) ∧
  (True ∧
  (True ∧
  (True ∧
  (True ∧
  ((@I64 (1099511627776 : @Int)) ∧
  ((@I64 (0 : @Int)) ∧
  ((((AV.lit (Value.int @IntKind.i64 (0 : @Int))) = (AV.lit (Value.int @IntKind.i64 (0 : @Int)))) ∧
  (((AV.lit (Value.int @IntKind.i64 (0 : @Int))) = (AV.lit (Value.int @IntKind.i64 (0 : @Int)))) ∧
  (((AV.lit (Value.int @IntKind.i64 (1 : @Int))) = (AV.lit (Value.int @IntKind.i64 (1 : @Int)))) ∧
  (((AV.lit (Value.int @IntKind.i64 (0 : @Int))) = (AV.lit (Value.int @IntKind.i64 (0 : @Int)))) ∧
  True)))) ∧
  ((@I64 (1099511627776 : @Int)) ∧
  ((@I64 (1 : @Int)) ∧
  ((((AV.lit (Value.int @IntKind.i64 (0 : @Int))) = (AV.lit (Value.int @IntKind.i64 (0 : @Int)))) ∧
  (((AV.lit (Value.int @IntKind.i64 (0 : @Int))) = (AV.lit (Value.int @IntKind.i64 (0 : @Int)))) ∧
  True)) ∧
  ((@I64 (1099511627776 : @Int)) ∧
  ((@I64 (0 : @Int)) ∧
  (True ∧
  (True ∧
  (True ∧
  (True ∧
  ((@I64 (2 : @Int)) ∧
  ((((0 : @Int) ≤ (0 : @Int)) ∧
  ((0 : @Int) ≤ (2 : @Int))) ∧
  ((((0 : @Int) ≤ (5 : @Int)) ∧
  ((0 : @Int) ≤ (252 : @Int))) ∧
  (((5 : @Nat) < (258 : @Nat)) ∧
  ((((0 : @Int) ≤ (5 : @Int)) ∧
  ((0 : @Int) ≤ (252 : @Int))) ∧
  (((5 : @Nat) < (258 : @Nat)) ∧
  ((@I64 (1 : @Int)) ∧
  ((@I64 (1 : @Int)) ∧
  ((((0 : @Int) ≤ (1 : @Int)) ∧
  ((0 : @Int) ≤ (1 : @Int))) ∧
  ((((0 : @Int) ≤ (3 : @Int)) ∧
  ((0 : @Int) ≤ (254 : @Int))) ∧
  (((3 : @Nat) < (258 : @Nat)) ∧
  ((((0 : @Int) ≤ (3 : @Int)) ∧
  ((0 : @Int) ≤ (254 : @Int))) ∧
  (((3 : @Nat) < (258 : @Nat)) ∧
  ((@I64 (2 : @Int)) ∧
  ((@I64 (2 : @Int)) ∧
  ((((0 : @Int) ≤ (2 : @Int)) ∧
  ((0 : @Int) ≤ (0 : @Int))) ∧
  ((((0 : @Int) ≤ (5 : @Int)) ∧
  ((0 : @Int) ≤ (252 : @Int))) ∧
  (((5 : @Nat) < (258 : @Nat)) ∧
  ((@I64 (3 : @Int)) ∧
  ((@I64 (6 : @Int)) ∧
  ((@I64 (3 : @Int)) ∧
  ((@Bool.true = @Bool.true) ∧
  True)))))))))))))))))))))))))))))))))))))))))))))))))))))))))))))))))))))))))))))))))))))))))))))))))))))))))))))))))))))))))))))))))) ∧
  (True ∧
  (True ∧
  ((((0 : @Int) ≤ (0 : @Int)) ∧
  ((0 : @Int) ≤ (1 : @Int))) ∧
  ((@I64 (1099511627776 : @Int)) ∧
  ((@I64 (2 : @Int)) ∧
  ((((AV.lit (Value.int @IntKind.i64 (0 : @Int))) = (AV.lit (Value.int @IntKind.i64 (0 : @Int)))) ∧
  (((AV.lit (Value.int @IntKind.i64 (0 : @Int))) = (AV.lit (Value.int @IntKind.i64 (0 : @Int)))) ∧
  (((AV.lit (Value.int @IntKind.i64 (2 : @Int))) = (AV.lit (Value.int @IntKind.i64 (2 : @Int)))) ∧
  (((AV.lit (Value.int @IntKind.i64 (0 : @Int))) = (AV.lit (Value.int @IntKind.i64 (0 : @Int)))) ∧
  True)))) ∧
  ((@I64 (1099511627776 : @Int)) ∧
  ((@I64 (2 : @Int)) ∧
  ((((AV.lit (Value.int @IntKind.i64 (0 : @Int))) = (AV.lit (Value.int @IntKind.i64 (0 : @Int)))) ∧
  (((AV.lit (Value.int @IntKind.i64 (0 : @Int))) = (AV.lit (Value.int @IntKind.i64 (0 : @Int)))) ∧
  True)) ∧
  ((@I64 (1099511627776 : @Int)) ∧
  ((@I64 (0 : @Int)) ∧
  (True ∧
  (True ∧
  (True ∧
  (True ∧
  ((@I64 (1099511627776 : @Int)) ∧
  ((@I64 (0 : @Int)) ∧
  ((((AV.lit (Value.int @IntKind.i64 (0 : @Int))) = (AV.lit (Value.int @IntKind.i64 (0 : @Int)))) ∧
  (((AV.lit (Value.int @IntKind.i64 (0 : @Int))) = (AV.lit (Value.int @IntKind.i64 (0 : @Int)))) ∧
  (((AV.lit (Value.int @IntKind.i64 (1 : @Int))) = (AV.lit (Value.int @IntKind.i64 (1 : @Int)))) ∧
  (((AV.lit (Value.int @IntKind.i64 (0 : @Int))) = (AV.lit (Value.int @IntKind.i64 (0 : @Int)))) ∧
  True)))) ∧
  ((@I64 (1099511627776 : @Int)) ∧
  ((@I64 (1 : @Int)) ∧
  ((((AV.lit (Value.int @IntKind.i64 (0 : @Int))) = (AV.lit (Value.int @IntKind.i64 (0 : @Int)))) ∧
  (((AV.lit (Value.int @IntKind.i64 (0 : @Int))) = (AV.lit (Value.int @IntKind.i64 (0 : @Int)))) ∧
  True)) ∧
  ((@I64 (1099511627776 : @Int)) ∧
  ((@I64 (0 : @Int)) ∧
  (True ∧
  (True ∧
  (True ∧
  (True ∧
  ((@I64 (1 : @Int)) ∧
  ((((0 : @Int) ≤ (1 : @Int)) ∧
  ((0 : @Int) ≤ (0 : @Int))) ∧
  ((@I64 (1099511627774 : @Int)) ∧
  ((@I64 (3 : @Int)) ∧
  ((((AV.lit (Value.int @IntKind.i64 (0 : @Int))) = (AV.lit (Value.int @IntKind.i64 (0 : @Int)))) ∧
  (((AV.lit (Value.int @IntKind.i64 (0 : @Int))) = (AV.lit (Value.int @IntKind.i64 (0 : @Int)))) ∧
  (((AV.lit (Value.int @IntKind.i64 (0 : @Int))) = (AV.lit (Value.int @IntKind.i64 (0 : @Int)))) ∧
  (((AV.lit (Value.int @IntKind.i64 (2 : @Int))) = (AV.lit (Value.int @IntKind.i64 (2 : @Int)))) ∧
  True)))) ∧
  ((@I64 (1099511627774 : @Int)) ∧
  ((@I64 (2 : @Int)) ∧
  ((((AV.lit (Value.int @IntKind.i64 (0 : @Int))) = (AV.lit (Value.int @IntKind.i64 (0 : @Int)))) ∧
  (((AV.lit (Value.int @IntKind.i64 (0 : @Int))) = (AV.lit (Value.int @IntKind.i64 (0 : @Int)))) ∧
  True)) ∧
  ((@I64 (1099511627776 : @Int)) ∧
  ((@I64 (0 : @Int)) ∧
  (True ∧
  (True ∧
  (True ∧
  (True ∧
  ((@I64 (1099511627776 : @Int)) ∧
  ((@I64 (0 : @Int)) ∧
  ((((AV.lit (Value.int @IntKind.i64 (0 : @Int))) = (AV.lit (Value.int @IntKind.i64 (0 : @Int)))) ∧
  (((AV.lit (Value.int @IntKind.i64 (0 : @Int))) = (AV.lit (Value.int @IntKind.i64 (0 : @Int)))) ∧
  (((AV.lit (Value.int @IntKind.i64 (0 : @Int))) = (AV.lit (Value.int @IntKind.i64 (0 : @Int)))) ∧
  (((AV.lit (Value.int @IntKind.i64 (1 : @Int))) = (AV.lit (Value.int @IntKind.i64 (1 : @Int)))) ∧
  True)))) ∧
  ((@I64 (1099511627775 : @Int)) ∧
  ((@I64 (1 : @Int)) ∧
  ((((AV.lit (Value.int @IntKind.i64 (0 : @Int))) = (AV.lit (Value.int @IntKind.i64 (0 : @Int)))) ∧
  (((AV.lit (Value.int @IntKind.i64 (0 : @Int))) = (AV.lit (Value.int @IntKind.i64 (0 : @Int)))) ∧
  True)) ∧
  ((@I64 (1099511627776 : @Int)) ∧
  ((@I64 (0 : @Int)) ∧
  (True ∧
  (True ∧
  (True ∧
  (True ∧
  ((@I64 (2 : @Int)) ∧
  (True ∧
  (True ∧
  ((((0 : @Int) ≤ (0 : @Int)) ∧
  ((0 : @Int) ≤ (1 : @Int))) ∧
  ((@I64 (1099511627776 : @Int)) ∧
  ((@I64 (3 : @Int)) ∧
  ((((AV.lit (Value.int @IntKind.i64 (0 : @Int))) = (AV.lit (Value.int @IntKind.i64 (0 : @Int)))) ∧
  (((AV.lit (Value.int @IntKind.i64 (0 : @Int))) = (AV.lit (Value.int @IntKind.i64 (0 : @Int)))) ∧
  (((AV.lit (Value.int @IntKind.i64 (0 : @Int))) = (AV.lit (Value.int @IntKind.i64 (0 : @Int)))) ∧
  (((AV.lit (Value.int @IntKind.i64 (0 : @Int))) = (AV.lit (Value.int @IntKind.i64 (0 : @Int)))) ∧
  True)))) ∧
  ((@I64 (1099511627776 : @Int)) ∧
  ((@I64 (0 : @Int)) ∧
  ((((AV.lit (Value.int @IntKind.i64 (0 : @Int))) = (AV.lit (Value.int @IntKind.i64 (0 : @Int)))) ∧
  (((AV.lit (Value.int @IntKind.i64 (0 : @Int))) = (AV.lit (Value.int @IntKind.i64 (0 : @Int)))) ∧
  True)) ∧
  ((@I64 (1099511627776 : @Int)) ∧
  ((@I64 (0 : @Int)) ∧
  (True ∧
  (True ∧
  (True ∧
  (True ∧
  ((@I64 (1099511627776 : @Int)) ∧
  ((@I64 (0 : @Int)) ∧
  ((((AV.lit (Value.int @IntKind.i64 (0 : @Int))) = (AV.lit (Value.int @IntKind.i64 (0 : @Int)))) ∧
  (((AV.lit (Value.int @IntKind.i64 (0 : @Int))) = (AV.lit (Value.int @IntKind.i64 (0 : @Int)))) ∧
  (((AV.lit (Value.int @IntKind.i64 (0 : @Int))) = (AV.lit (Value.int @IntKind.i64 (0 : @Int)))) ∧
  (((AV.lit (Value.int @IntKind.i64 (0 : @Int))) = (AV.lit (Value.int @IntKind.i64 (0 : @Int)))) ∧
  True)))) ∧
  ((@I64 (1099511627776 : @Int)) ∧
  ((@I64 (0 : @Int)) ∧
  ((((AV.lit (Value.int @IntKind.i64 (0 : @Int))) = (AV.lit (Value.int @IntKind.i64 (0 : @Int)))) ∧
  (((AV.lit (Value.int @IntKind.i64 (0 : @Int))) = (AV.lit (Value.int @IntKind.i64 (0 : @Int)))) ∧
  True)) ∧
  ((@I64 (1099511627776 : @Int)) ∧
  ((@I64 (0 : @Int)) ∧
  (True ∧
  (True ∧
  (True ∧
  (True ∧
  ((@I64 (1 : @Int)) ∧
  ((((0 : @Int) ≤ (1 : @Int)) ∧
  ((0 : @Int) ≤ (0 : @Int))) ∧
  ((@I64 (1099511627773 : @Int)) ∧
  ((@I64 (6 : @Int)) ∧
  ((((AV.lit (Value.int @IntKind.i64 (0 : @Int))) = (AV.lit (Value.int @IntKind.i64 (0 : @Int)))) ∧
  (((AV.lit (Value.int @IntKind.i64 (0 : @Int))) = (AV.lit (Value.int @IntKind.i64 (0 : @Int)))) ∧
  (((AV.lit (Value.int @IntKind.i64 (2 : @Int))) = (AV.lit (Value.int @IntKind.i64 (2 : @Int)))) ∧
  (((AV.lit (Value.int @IntKind.i64 (0 : @Int))) = (AV.lit (Value.int @IntKind.i64 (0 : @Int)))) ∧
  True)))) ∧
  ((@I64 (1099511627776 : @Int)) ∧
  ((@I64 (2 : @Int)) ∧
  ((((AV.lit (Value.int @IntKind.i64 (0 : @Int))) = (AV.lit (Value.int @IntKind.i64 (0 : @Int)))) ∧
  (((AV.lit (Value.int @IntKind.i64 (0 : @Int))) = (AV.lit (Value.int @IntKind.i64 (0 : @Int)))) ∧
  True)) ∧
  ((@I64 (1099511627776 : @Int)) ∧
  ((@I64 (0 : @Int)) ∧
  (True ∧
  (True ∧
  (True ∧
  (True ∧
  ((@I64 (1099511627776 : @Int)) ∧
  ((@I64 (0 : @Int)) ∧
  ((((AV.lit (Value.int @IntKind.i64 (0 : @Int))) = (AV.lit (Value.int @IntKind.i64 (0 : @Int)))) ∧
  (((AV.lit (Value.int @IntKind.i64 (0 : @Int))) = (AV.lit (Value.int @IntKind.i64 (0 : @Int)))) ∧
  (((AV.lit (Value.int @IntKind.i64 (1 : @Int))) = (AV.lit (Value.int @IntKind.i64 (1 : @Int)))) ∧
  (((AV.lit (Value.int @IntKind.i64 (0 : @Int))) = (AV.lit (Value.int @IntKind.i64 (0 : @Int)))) ∧
  True)))) ∧
  ((@I64 (1099511627776 : @Int)) ∧
  ((@I64 (1 : @Int)) ∧
  ((((AV.lit (Value.int @IntKind.i64 (0 : @Int))) = (AV.lit (Value.int @IntKind.i64 (0 : @Int)))) ∧
  (((AV.lit (Value.int @IntKind.i64 (0 : @Int))) = (AV.lit (Value.int @IntKind.i64 (0 : @Int)))) ∧
  True)) ∧
  ((@I64 (1099511627776 : @Int)) ∧
  ((@I64 (0 : @Int)) ∧
  (True ∧
  (True ∧
  (True ∧
  (True ∧
  ((@I64 (2 : @Int)) ∧
  ((((0 : @Int) ≤ (0 : @Int)) ∧
  ((0 : @Int) ≤ (2 : @Int))) ∧
  ((((0 : @Int) ≤ (5 : @Int)) ∧
  ((0 : @Int) ≤ (252 : @Int))) ∧
  (((5 : @Nat) < (258 : @Nat)) ∧
  ((((0 : @Int) ≤ (5 : @Int)) ∧
  ((0 : @Int) ≤ (252 : @Int))) ∧
  (((5 : @Nat) < (258 : @Nat)) ∧
  ((@I64 (1 : @Int)) ∧
  ((@I64 (1 : @Int)) ∧
  ((((0 : @Int) ≤ (1 : @Int)) ∧
  ((0 : @Int) ≤ (1 : @Int))) ∧
  ((((0 : @Int) ≤ (3 : @Int)) ∧
  ((0 : @Int) ≤ (254 : @Int))) ∧
  (((3 : @Nat) < (258 : @Nat)) ∧
  ((((0 : @Int) ≤ (3 : @Int)) ∧
  ((0 : @Int) ≤ (254 : @Int))) ∧
  (((3 : @Nat) < (258 : @Nat)) ∧
  ((@I64 (2 : @Int)) ∧
  ((@I64 (2 : @Int)) ∧
  ((((0 : @Int) ≤ (2 : @Int)) ∧
  ((0 : @Int) ≤ (0 : @Int))) ∧
  ((((0 : @Int) ≤ (5 : @Int)) ∧
  ((0 : @Int) ≤ (252 : @Int))) ∧
  (((5 : @Nat) < (258 : @Nat)) ∧
  ((@I64 (3 : @Int)) ∧
  ((@I64 (6 : @Int)) ∧
  ((@I64 (3 : @Int)) ∧
  ((@Bool.true = @Bool.true) ∧
  True))))))))))))))))))))))))))))))))))))))))))))))))))))))))))))))))))))))))))))))))))))))))))))))))))))))))))))))))))))))))))))))))))) ∧
  ((((AV.lit (Value.string (@ByteArray.mk (@List.toArray @UInt8 [(97 : @UInt8)])))) = (AV.lit (Value.string (@ByteArray.mk (@List.toArray @UInt8 [(97 : @UInt8)]))))) ∧
  (((AV.agg [(AV.lit (Value.slice (@Option.none @Addr) (0 : @Nat) (0 : @Nat))), (AV.lit (Value.slice (@Option.none @Addr) (0 : @Nat) (0 : @Nat)))]) = (AV.agg [(AV.lit (Value.slice (@Option.none @Addr) (0 : @Nat) (0 : @Nat))), (AV.lit (Value.slice (@Option.none @Addr) (0 : @Nat) (0 : @Nat)))])) ∧
  True)) ∧
  (True ∧
  (True ∧
  ((((0 : @Int) ≤ (0 : @Int)) ∧
  ((0 : @Int) ≤ (1 : @Int))) ∧
  ((@I64 (1099511627776 : @Int)) ∧
  ((@I64 (2 : @Int)) ∧
  ((((AV.lit (Value.int @IntKind.i64 (0 : @Int))) = (AV.lit (Value.int @IntKind.i64 (0 : @Int)))) ∧
  (((AV.lit (Value.int @IntKind.i64 (0 : @Int))) = (AV.lit (Value.int @IntKind.i64 (0 : @Int)))) ∧
  (((AV.lit (Value.int @IntKind.i64 (2 : @Int))) = (AV.lit (Value.int @IntKind.i64 (2 : @Int)))) ∧
  (((AV.lit (Value.int @IntKind.i64 (0 : @Int))) = (AV.lit (Value.int @IntKind.i64 (0 : @Int)))) ∧
  True)))) ∧
  ((@I64 (1099511627776 : @Int)) ∧
  ((@I64 (2 : @Int)) ∧
  ((((AV.lit (Value.int @IntKind.i64 (0 : @Int))) = (AV.lit (Value.int @IntKind.i64 (0 : @Int)))) ∧
  (((AV.lit (Value.int @IntKind.i64 (0 : @Int))) = (AV.lit (Value.int @IntKind.i64 (0 : @Int)))) ∧
  True)) ∧
  ((@I64 (1099511627776 : @Int)) ∧
  ((@I64 (0 : @Int)) ∧
  (True ∧
  (True ∧
  (True ∧
  (True ∧
  ((@I64 (1099511627776 : @Int)) ∧
  ((@I64 (0 : @Int)) ∧
  ((((AV.lit (Value.int @IntKind.i64 (0 : @Int))) = (AV.lit (Value.int @IntKind.i64 (0 : @Int)))) ∧
  (((AV.lit (Value.int @IntKind.i64 (0 : @Int))) = (AV.lit (Value.int @IntKind.i64 (0 : @Int)))) ∧
  (((AV.lit (Value.int @IntKind.i64 (1 : @Int))) = (AV.lit (Value.int @IntKind.i64 (1 : @Int)))) ∧
  (((AV.lit (Value.int @IntKind.i64 (0 : @Int))) = (AV.lit (Value.int @IntKind.i64 (0 : @Int)))) ∧
  True)))) ∧
  ((@I64 (1099511627776 : @Int)) ∧
  ((@I64 (1 : @Int)) ∧
  ((((AV.lit (Value.int @IntKind.i64 (0 : @Int))) = (AV.lit (Value.int @IntKind.i64 (0 : @Int)))) ∧
  (((AV.lit (Value.int @IntKind.i64 (0 : @Int))) = (AV.lit (Value.int @IntKind.i64 (0 : @Int)))) ∧
  True)) ∧
  ((@I64 (1099511627776 : @Int)) ∧
  ((@I64 (0 : @Int)) ∧
  (True ∧
  (True ∧
  (True ∧
  (True ∧
  ((@I64 (1 : @Int)) ∧
  ((((0 : @Int) ≤ (1 : @Int)) ∧
  ((0 : @Int) ≤ (0 : @Int))) ∧
  ((@I64 (1099511627774 : @Int)) ∧
  ((@I64 (3 : @Int)) ∧
  ((((AV.lit (Value.int @IntKind.i64 (0 : @Int))) = (AV.lit (Value.int @IntKind.i64 (0 : @Int)))) ∧
  (((AV.lit (Value.int @IntKind.i64 (0 : @Int))) = (AV.lit (Value.int @IntKind.i64 (0 : @Int)))) ∧
  (((AV.lit (Value.int @IntKind.i64 (0 : @Int))) = (AV.lit (Value.int @IntKind.i64 (0 : @Int)))) ∧
  (((AV.lit (Value.int @IntKind.i64 (2 : @Int))) = (AV.lit (Value.int @IntKind.i64 (2 : @Int)))) ∧
  True)))) ∧
  ((@I64 (1099511627774 : @Int)) ∧
  ((@I64 (2 : @Int)) ∧
  ((((AV.lit (Value.int @IntKind.i64 (0 : @Int))) = (AV.lit (Value.int @IntKind.i64 (0 : @Int)))) ∧
  (((AV.lit (Value.int @IntKind.i64 (0 : @Int))) = (AV.lit (Value.int @IntKind.i64 (0 : @Int)))) ∧
  True)) ∧
  ((@I64 (1099511627776 : @Int)) ∧
  ((@I64 (0 : @Int)) ∧
  (True ∧
  (True ∧
  (True ∧
  (True ∧
  ((@I64 (1099511627776 : @Int)) ∧
  ((@I64 (0 : @Int)) ∧
  ((((AV.lit (Value.int @IntKind.i64 (0 : @Int))) = (AV.lit (Value.int @IntKind.i64 (0 : @Int)))) ∧
  (((AV.lit (Value.int @IntKind.i64 (0 : @Int))) = (AV.lit (Value.int @IntKind.i64 (0 : @Int)))) ∧
  (((AV.lit (Value.int @IntKind.i64 (0 : @Int))) = (AV.lit (Value.int @IntKind.i64 (0 : @Int)))) ∧
  (((AV.lit (Value.int @IntKind.i64 (1 : @Int))) = (AV.lit (Value.int @IntKind.i64 (1 : @Int)))) ∧
  True)))) ∧
  ((@I64 (1099511627775 : @Int)) ∧
  ((@I64 (1 : @Int)) ∧
  ((((AV.lit (Value.int @IntKind.i64 (0 : @Int))) = (AV.lit (Value.int @IntKind.i64 (0 : @Int)))) ∧
  (((AV.lit (Value.int @IntKind.i64 (0 : @Int))) = (AV.lit (Value.int @IntKind.i64 (0 : @Int)))) ∧
  True)) ∧
  ((@I64 (1099511627776 : @Int)) ∧
  ((@I64 (0 : @Int)) ∧
  (True ∧
  (True ∧
  (True ∧
  (True ∧
  ((@I64 (2 : @Int)) ∧
  (True ∧
  (True ∧
  ((((0 : @Int) ≤ (0 : @Int)) ∧
  ((0 : @Int) ≤ (1 : @Int))) ∧
  ((@I64 (1099511627776 : @Int)) ∧
  ((@I64 (3 : @Int)) ∧
  ((((AV.lit (Value.int @IntKind.i64 (0 : @Int))) = (AV.lit (Value.int @IntKind.i64 (0 : @Int)))) ∧
  (((AV.lit (Value.int @IntKind.i64 (0 : @Int))) = (AV.lit (Value.int @IntKind.i64 (0 : @Int)))) ∧
  (((AV.lit (Value.int @IntKind.i64 (0 : @Int))) = (AV.lit (Value.int @IntKind.i64 (0 : @Int)))) ∧
  (((AV.lit (Value.int @IntKind.i64 (0 : @Int))) = (AV.lit (Value.int @IntKind.i64 (0 : @Int)))) ∧
  True)))) ∧
  ((@I64 (1099511627776 : @Int)) ∧
  ((@I64 (0 : @Int)) ∧
  ((((AV.lit (Value.int @IntKind.i64 (0 : @Int))) = (AV.lit (Value.int @IntKind.i64 (0 : @Int)))) ∧
  (((AV.lit (Value.int @IntKind.i64 (0 : @Int))) = (AV.lit (Value.int @IntKind.i64 (0 : @Int)))) ∧
  True)) ∧
  ((@I64 (1099511627776 : @Int)) ∧
  ((@I64 (0 : @Int)) ∧
  (True ∧
  (True ∧
  (True ∧
  (True ∧
  ((@I64 (1099511627776 : @Int)) ∧
  ((@I64 (0 : @Int)) ∧
  ((((AV.lit (Value.int @IntKind.i64 (0 : @Int))) = (AV.lit (Value.int @IntKind.i64 (0 : @Int)))) ∧
  (((AV.lit (Value.int @IntKind.i64 (0 : @Int))) = (AV.lit (Value.int @IntKind.i64 (0 : @Int)))) ∧
  (((AV.lit (Value.int @IntKind.i64 (0 : @Int))) = (AV.lit (Value.int @IntKind.i64 (0 : @Int)))) ∧
  (((AV.lit (Value.int @IntKind.i64 (0 : @Int))) = (AV.lit (Value.int @IntKind.i64 (0 : @Int)))) ∧
  True)))) ∧
  ((@I64 (1099511627776 : @Int)) ∧
  ((@I64 (0 : @Int)) ∧
  ((((AV.lit (Value.int @IntKind.i64 (0 : @Int))) = (AV.lit (Value.int @IntKind.i64 (0 : @Int)))) ∧
  (((AV.lit (Value.int @IntKind.i64 (0 : @Int))) = (AV.lit (Value.int @IntKind.i64 (0 : @Int)))) ∧
  True)) ∧
  ((@I64 (1099511627776 : @Int)) ∧
  ((@I64 (0 : @Int)) ∧
  (True ∧
  (True ∧
  (True ∧
  (True ∧
  ((@I64 (1 : @Int)) ∧
  ((((0 : @Int) ≤ (1 : @Int)) ∧
  ((0 : @Int) ≤ (0 : @Int))) ∧
  ((@I64 (1099511627773 : @Int)) ∧
  ((@I64 (6 : @Int)) ∧
  ((((AV.lit (Value.int @IntKind.i64 (0 : @Int))) = (AV.lit (Value.int @IntKind.i64 (0 : @Int)))) ∧
  (((AV.lit (Value.int @IntKind.i64 (0 : @Int))) = (AV.lit (Value.int @IntKind.i64 (0 : @Int)))) ∧
  (((AV.lit (Value.int @IntKind.i64 (2 : @Int))) = (AV.lit (Value.int @IntKind.i64 (2 : @Int)))) ∧
  (((AV.lit (Value.int @IntKind.i64 (0 : @Int))) = (AV.lit (Value.int @IntKind.i64 (0 : @Int)))) ∧
  True)))) ∧
  ((@I64 (1099511627776 : @Int)) ∧
  ((@I64 (2 : @Int)) ∧
  ((((AV.lit (Value.int @IntKind.i64 (0 : @Int))) = (AV.lit (Value.int @IntKind.i64 (0 : @Int)))) ∧
  (((AV.lit (Value.int @IntKind.i64 (0 : @Int))) = (AV.lit (Value.int @IntKind.i64 (0 : @Int)))) ∧
  True)) ∧
  ((@I64 (1099511627776 : @Int)) ∧
  ((@I64 (0 : @Int)) ∧
  (True ∧
  (True ∧
  (True ∧
  (True ∧
  ((@I64 (1099511627776 : @Int)) ∧
  ((@I64 (0 : @Int)) ∧
  ((((AV.lit (Value.int @IntKind.i64 (0 : @Int))) = (AV.lit (Value.int @IntKind.i64 (0 : @Int)))) ∧
  (((AV.lit (Value.int @IntKind.i64 (0 : @Int))) = (AV.lit (Value.int @IntKind.i64 (0 : @Int)))) ∧
  (((AV.lit (Value.int @IntKind.i64 (1 : @Int))) = (AV.lit (Value.int @IntKind.i64 (1 : @Int)))) ∧
  (((AV.lit (Value.int @IntKind.i64 (0 : @Int))) = (AV.lit (Value.int @IntKind.i64 (0 : @Int)))) ∧
  True)))) ∧
  ((@I64 (1099511627776 : @Int)) ∧
  ((@I64 (1 : @Int)) ∧
  ((((AV.lit (Value.int @IntKind.i64 (0 : @Int))) = (AV.lit (Value.int @IntKind.i64 (0 : @Int)))) ∧
  (((AV.lit (Value.int @IntKind.i64 (0 : @Int))) = (AV.lit (Value.int @IntKind.i64 (0 : @Int)))) ∧
  True)) ∧
  ((@I64 (1099511627776 : @Int)) ∧
  ((@I64 (0 : @Int)) ∧
  (True ∧
  (True ∧
  (True ∧
  (True ∧
  ((@I64 (2 : @Int)) ∧
  ((((0 : @Int) ≤ (0 : @Int)) ∧
  ((0 : @Int) ≤ (2 : @Int))) ∧
  ((((0 : @Int) ≤ (5 : @Int)) ∧
  ((0 : @Int) ≤ (252 : @Int))) ∧
  (((5 : @Nat) < (258 : @Nat)) ∧
  ((((0 : @Int) ≤ (5 : @Int)) ∧
  ((0 : @Int) ≤ (252 : @Int))) ∧
  (((5 : @Nat) < (258 : @Nat)) ∧
  ((@I64 (1 : @Int)) ∧
  ((@I64 (1 : @Int)) ∧
  ((((0 : @Int) ≤ (1 : @Int)) ∧
  ((0 : @Int) ≤ (1 : @Int))) ∧
  ((((0 : @Int) ≤ (3 : @Int)) ∧
  ((0 : @Int) ≤ (254 : @Int))) ∧
  (((3 : @Nat) < (258 : @Nat)) ∧
  ((((0 : @Int) ≤ (3 : @Int)) ∧
  ((0 : @Int) ≤ (254 : @Int))) ∧
  (((3 : @Nat) < (258 : @Nat)) ∧
  ((@I64 (2 : @Int)) ∧
  ((@I64 (2 : @Int)) ∧
  ((((0 : @Int) ≤ (2 : @Int)) ∧
  ((0 : @Int) ≤ (0 : @Int))) ∧
  ((((0 : @Int) ≤ (5 : @Int)) ∧
  ((0 : @Int) ≤ (252 : @Int))) ∧
  (((5 : @Nat) < (258 : @Nat)) ∧
  ((@I64 (3 : @Int)) ∧
  ((@I64 (6 : @Int)) ∧
  ((@I64 (3 : @Int)) ∧
  ((@Bool.true = @Bool.true) ∧
  True))))))))))))))))))))))))))))))))))))))))))))))))))))))))))))))))))))))))))))))))))))))))))))))))))))))))))))))))))))))))))))))))))))))))))) ∧
  ((((AV.lit (Value.string (@ByteArray.mk (@List.toArray @UInt8 [(97 : @UInt8)])))) = (AV.lit (Value.string (@ByteArray.mk (@List.toArray @UInt8 [(97 : @UInt8)]))))) ∧
  (((AV.agg [(AV.lit (Value.slice (@Option.none @Addr) (0 : @Nat) (0 : @Nat))), (AV.lit (Value.slice (@Option.none @Addr) (0 : @Nat) (0 : @Nat)))]) = (AV.agg [(AV.lit (Value.slice (@Option.none @Addr) (0 : @Nat) (0 : @Nat))), (AV.lit (Value.slice (@Option.none @Addr) (0 : @Nat) (0 : @Nat)))])) ∧
  (((AV.lit (Value.string (@ByteArray.mk (@List.toArray @UInt8 [(49 : @UInt8)])))) = (AV.lit (Value.string (@ByteArray.mk (@List.toArray @UInt8 [(49 : @UInt8)]))))) ∧
  (((AV.lit (Value.string (@ByteArray.mk (@List.toArray @UInt8 [(97 : @UInt8)])))) = (AV.lit (Value.string (@ByteArray.mk (@List.toArray @UInt8 [(97 : @UInt8)]))))) ∧
  True)))) ∧
  (((0 : @Int) ≤ (0 : @Int)) ∧
  ((@I64 (0 : @Int)) ∧
  ((@I64 (0 : @Int)) ∧
  ((@I64 (28 : @Int)) ∧
  (((0 : @Int) ≤ (0 : @Int)) ∧
  ((@I64 (2 : @Int)) ∧
  ((@I64 (2 : @Int)) ∧
  ((((AV.lit (Value.string (@ByteArray.mk (@List.toArray @UInt8 [(97 : @UInt8)])))) = (AV.lit (Value.string (@ByteArray.mk (@List.toArray @UInt8 [(97 : @UInt8)]))))) ∧
  (((AV.agg [(AV.lit (Value.slice (@Option.none @Addr) (0 : @Nat) (0 : @Nat))), (AV.lit (Value.slice (@Option.none @Addr) (0 : @Nat) (0 : @Nat)))]) = (AV.agg [(AV.lit (Value.slice (@Option.none @Addr) (0 : @Nat) (0 : @Nat))), (AV.lit (Value.slice (@Option.none @Addr) (0 : @Nat) (0 : @Nat)))])) ∧
  True)) ∧
  (True ∧
  (True ∧
  ((((0 : @Int) ≤ (0 : @Int)) ∧
  ((0 : @Int) ≤ (1 : @Int))) ∧
  ((@I64 (1099511627776 : @Int)) ∧
  ((@I64 (2 : @Int)) ∧
  ((((AV.lit (Value.int @IntKind.i64 (0 : @Int))) = (AV.lit (Value.int @IntKind.i64 (0 : @Int)))) ∧
  (((AV.lit (Value.int @IntKind.i64 (0 : @Int))) = (AV.lit (Value.int @IntKind.i64 (0 : @Int)))) ∧
  (((AV.lit (Value.int @IntKind.i64 (2 : @Int))) = (AV.lit (Value.int @IntKind.i64 (2 : @Int)))) ∧
  (((AV.lit (Value.int @IntKind.i64 (0 : @Int))) = (AV.lit (Value.int @IntKind.i64 (0 : @Int)))) ∧
  True)))) ∧
  ((@I64 (1099511627776 : @Int)) ∧
  ((@I64 (2 : @Int)) ∧
  ((((AV.lit (Value.int @IntKind.i64 (0 : @Int))) = (AV.lit (Value.int @IntKind.i64 (0 : @Int)))) ∧
  (((AV.lit (Value.int @IntKind.i64 (0 : @Int))) = (AV.lit (Value.int @IntKind.i64 (0 : @Int)))) ∧
  True)) ∧
  ((@I64 (1099511627776 : @Int)) ∧
  ((@I64 (0 : @Int)) ∧
  (True ∧
  (True ∧
  (True ∧
  (True ∧
  ((@I64 (1099511627776 : @Int)) ∧
  ((@I64 (0 : @Int)) ∧
  ((((AV.lit (Value.int @IntKind.i64 (0 : @Int))) = (AV.lit (Value.int @IntKind.i64 (0 : @Int)))) ∧
  (((AV.lit (Value.int @IntKind.i64 (0 : @Int))) = (AV.lit (Value.int @IntKind.i64 (0 : @Int)))) ∧
  (((AV.lit (Value.int @IntKind.i64 (1 : @Int))) = (AV.lit (Value.int @IntKind.i64 (1 : @Int)))) ∧
  (((AV.lit (Value.int @IntKind.i64 (0 : @Int))) = (AV.lit (Value.int @IntKind.i64 (0 : @Int)))) ∧
  True)))) ∧
  ((@I64 (1099511627776 : @Int)) ∧
  ((@I64 (1 : @Int)) ∧
  ((((AV.lit (Value.int @IntKind.i64 (0 : @Int))) = (AV.lit (Value.int @IntKind.i64 (0 : @Int)))) ∧
  (((AV.lit (Value.int @IntKind.i64 (0 : @Int))) = (AV.lit (Value.int @IntKind.i64 (0 : @Int)))) ∧
  True)) ∧
  ((@I64 (1099511627776 : @Int)) ∧
  ((@I64 (0 : @Int)) ∧
  (True ∧
  (True ∧
  (True ∧
  (True ∧
  ((@I64 (1 : @Int)) ∧
  ((((0 : @Int) ≤ (1 : @Int)) ∧
  ((0 : @Int) ≤ (0 : @Int))) ∧
  ((@I64 (1099511627774 : @Int)) ∧
  ((@I64 (3 : @Int)) ∧
  ((((AV.lit (Value.int @IntKind.i64 (0 : @Int))) = (AV.lit (Value.int @IntKind.i64 (0 : @Int)))) ∧
  (((AV.lit (Value.int @IntKind.i64 (0 : @Int))) = (AV.lit (Value.int @IntKind.i64 (0 : @Int)))) ∧
  (((AV.lit (Value.int @IntKind.i64 (0 : @Int))) = (AV.lit (Value.int @IntKind.i64 (0 : @Int)))) ∧
  (((AV.lit (Value.int @IntKind.i64 (2 : @Int))) = (AV.lit (Value.int @IntKind.i64 (2 : @Int)))) ∧
  True)))) ∧
  ((@I64 (1099511627774 : @Int)) ∧
  ((@I64 (2 : @Int)) ∧
  ((((AV.lit (Value.int @IntKind.i64 (0 : @Int))) = (AV.lit (Value.int @IntKind.i64 (0 : @Int)))) ∧
  (((AV.lit (Value.int @IntKind.i64 (0 : @Int))) = (AV.lit (Value.int @IntKind.i64 (0 : @Int)))) ∧
  True)) ∧
  ((@I64 (1099511627776 : @Int)) ∧
  ((@I64 (0 : @Int)) ∧
  (True ∧
  (True ∧
  (True ∧
  (True ∧
  ((@I64 (1099511627776 : @Int)) ∧
  ((@I64 (0 : @Int)) ∧
  ((((AV.lit (Value.int @IntKind.i64 (0 : @Int))) = (AV.lit (Value.int @IntKind.i64 (0 : @Int)))) ∧
  (((AV.lit (Value.int @IntKind.i64 (0 : @Int))) = (AV.lit (Value.int @IntKind.i64 (0 : @Int)))) ∧
  (((AV.lit (Value.int @IntKind.i64 (0 : @Int))) = (AV.lit (Value.int @IntKind.i64 (0 : @Int)))) ∧
  (((AV.lit (Value.int @IntKind.i64 (1 : @Int))) = (AV.lit (Value.int @IntKind.i64 (1 : @Int)))) ∧
  True)))) ∧
  ((@I64 (1099511627775 : @Int)) ∧
  ((@I64 (1 : @Int)) ∧
  ((((AV.lit (Value.int @IntKind.i64 (0 : @Int))) = (AV.lit (Value.int @IntKind.i64 (0 : @Int)))) ∧
  (((AV.lit (Value.int @IntKind.i64 (0 : @Int))) = (AV.lit (Value.int @IntKind.i64 (0 : @Int)))) ∧
  True)) ∧
  ((@I64 (1099511627776 : @Int)) ∧
  ((@I64 (0 : @Int)) ∧
  (True ∧
  (True ∧
  (True ∧
  (True ∧
  ((@I64 (2 : @Int)) ∧
  (True ∧
  (True ∧
  ((((0 : @Int) ≤ (0 : @Int)) ∧
  ((0 : @Int) ≤ (1 : @Int))) ∧
  ((@I64 (1099511627776 : @Int)) ∧
  ((@I64 (3 : @Int)) ∧
  ((((AV.lit (Value.int @IntKind.i64 (0 : @Int))) = (AV.lit (Value.int @IntKind.i64 (0 : @Int)))) ∧
  (((AV.lit (Value.int @IntKind.i64 (0 : @Int))) = (AV.lit (Value.int @IntKind.i64 (0 : @Int)))) ∧
  (((AV.lit (Value.int @IntKind.i64 (0 : @Int))) = (AV.lit (Value.int @IntKind.i64 (0 : @Int)))) ∧
  (((AV.lit (Value.int @IntKind.i64 (0 : @Int))) = (AV.lit (Value.int @IntKind.i64 (0 : @Int)))) ∧
  True)))) ∧
  ((@I64 (1099511627776 : @Int)) ∧
  ((@I64 (0 : @Int)) ∧
  ((((AV.lit (Value.int @IntKind.i64 (0 : @Int))) = (AV.lit (Value.int @IntKind.i64 (0 : @Int)))) ∧
  (((AV.lit (Value.int @IntKind.i64 (0 : @Int))) = (AV.lit (Value.int @IntKind.i64 (0 : @Int)))) ∧
  True)) ∧
  ((@I64 (1099511627776 : @Int)) ∧
  ((@I64 (0 : @Int)) ∧
  (True ∧
  (True ∧
  (True ∧
  (True ∧
  ((@I64 (1099511627776 : @Int)) ∧
  ((@I64 (0 : @Int)) ∧
  ((((AV.lit (Value.int @IntKind.i64 (0 : @Int))) = (AV.lit (Value.int @IntKind.i64 (0 : @Int)))) ∧
  (((AV.lit (Value.int @IntKind.i64 (0 : @Int))) = (AV.lit (Value.int @IntKind.i64 (0 : @Int)))) ∧
  (((AV.lit (Value.int @IntKind.i64 (0 : @Int))) = (AV.lit (Value.int @IntKind.i64 (0 : @Int)))) ∧
  (((AV.lit (Value.int @IntKind.i64 (0 : @Int))) = (AV.lit (Value.int @IntKind.i64 (0 : @Int)))) ∧
  True)))) ∧
  ((@I64 (1099511627776 : @Int)) ∧
  ((@I64 (0 : @Int)) ∧
  ((((AV.lit (Value.int @IntKind.i64 (0 : @Int))) = (AV.lit (Value.int @IntKind.i64 (0 : @Int)))) ∧
  (((AV.lit (Value.int @IntKind.i64 (0 : @Int))) = (AV.lit (Value.int @IntKind.i64 (0 : @Int)))) ∧
  True)) ∧
  ((@I64 (1099511627776 : @Int)) ∧
  ((@I64 (0 : @Int)) ∧
  (True ∧
  (True ∧
  (True ∧
  (True ∧
  ((@I64 (1 : @Int)) ∧
  ((((0 : @Int) ≤ (1 : @Int)) ∧
  ((0 : @Int) ≤ (0 : @Int))) ∧
  ((@I64 (1099511627773 : @Int)) ∧
  ((@I64 (6 : @Int)) ∧
  ((((AV.lit (Value.int @IntKind.i64 (0 : @Int))) = (AV.lit (Value.int @IntKind.i64 (0 : @Int)))) ∧
  (((AV.lit (Value.int @IntKind.i64 (0 : @Int))) = (AV.lit (Value.int @IntKind.i64 (0 : @Int)))) ∧
  (((AV.lit (Value.int @IntKind.i64 (2 : @Int))) = (AV.lit (Value.int @IntKind.i64 (2 : @Int)))) ∧
  (((AV.lit (Value.int @IntKind.i64 (0 : @Int))) = (AV.lit (Value.int @IntKind.i64 (0 : @Int)))) ∧
  True)))) ∧
  ((@I64 (1099511627776 : @Int)) ∧
  ((@I64 (2 : @Int)) ∧
  ((((AV.lit (Value.int @IntKind.i64 (0 : @Int))) = (AV.lit (Value.int @IntKind.i64 (0 : @Int)))) ∧
  (((AV.lit (Value.int @IntKind.i64 (0 : @Int))) = (AV.lit (Value.int @IntKind.i64 (0 : @Int)))) ∧
  True)) ∧
  ((@I64 (1099511627776 : @Int)) ∧
  ((@I64 (0 : @Int)) ∧
  (True ∧
  (True ∧
  (True ∧
  (True ∧
  ((@I64 (1099511627776 : @Int)) ∧
  ((@I64 (0 : @Int)) ∧
  ((((AV.lit (Value.int @IntKind.i64 (0 : @Int))) = (AV.lit (Value.int @IntKind.i64 (0 : @Int)))) ∧
  (((AV.lit (Value.int @IntKind.i64 (0 : @Int))) = (AV.lit (Value.int @IntKind.i64 (0 : @Int)))) ∧
  (((AV.lit (Value.int @IntKind.i64 (1 : @Int))) = (AV.lit (Value.int @IntKind.i64 (1 : @Int)))) ∧
  (((AV.lit (Value.int @IntKind.i64 (0 : @Int))) = (AV.lit (Value.int @IntKind.i64 (0 : @Int)))) ∧
  True)))) ∧
  ((@I64 (1099511627776 : @Int)) ∧
  ((@I64 (1 : @Int)) ∧
  ((((AV.lit (Value.int @IntKind.i64 (0 : @Int))) = (AV.lit (Value.int @IntKind.i64 (0 : @Int)))) ∧
  (((AV.lit (Value.int @IntKind.i64 (0 : @Int))) = (AV.lit (Value.int @IntKind.i64 (0 : @Int)))) ∧
  True)) ∧
  ((@I64 (1099511627776 : @Int)) ∧
  ((@I64 (0 : @Int)) ∧
  (True ∧
  (True ∧
  (True ∧
  (True ∧
  ((@I64 (2 : @Int)) ∧
  ((((0 : @Int) ≤ (0 : @Int)) ∧
  ((0 : @Int) ≤ (2 : @Int))) ∧
  ((((0 : @Int) ≤ (5 : @Int)) ∧
  ((0 : @Int) ≤ (252 : @Int))) ∧
  (((5 : @Nat) < (258 : @Nat)) ∧
  ((((0 : @Int) ≤ (5 : @Int)) ∧
  ((0 : @Int) ≤ (252 : @Int))) ∧
  (((5 : @Nat) < (258 : @Nat)) ∧
  ((@I64 (1 : @Int)) ∧
  ((@I64 (1 : @Int)) ∧
  ((((0 : @Int) ≤ (1 : @Int)) ∧
  ((0 : @Int) ≤ (1 : @Int))) ∧
  ((((0 : @Int) ≤ (3 : @Int)) ∧
  ((0 : @Int) ≤ (254 : @Int))) ∧
  (((3 : @Nat) < (258 : @Nat)) ∧
  ((((0 : @Int) ≤ (3 : @Int)) ∧
  ((0 : @Int) ≤ (254 : @Int))) ∧
  (((3 : @Nat) < (258 : @Nat)) ∧
  ((@I64 (2 : @Int)) ∧
  ((@I64 (2 : @Int)) ∧
  ((((0 : @Int) ≤ (2 : @Int)) ∧
  ((0 : @Int) ≤ (0 : @Int))) ∧
  ((((0 : @Int) ≤ (5 : @Int)) ∧
  ((0 : @Int) ≤ (252 : @Int))) ∧
  (((5 : @Nat) < (258 : @Nat)) ∧
  ((@I64 (3 : @Int)) ∧
  ((@I64 (6 : @Int)) ∧
  ((@I64 (3 : @Int)) ∧
  ((@Bool.true = @Bool.true) ∧
  True))))))))))))))))))))))))))))))))))))))))))))))))))))))))))))))))))))))))))))))))))))))))))))))))))))))))))))))))))))))))))))))))))))))))))))
theorem awakeVC_ok  : awakeVC  = awakeVC_wp  := by kernel_rfl
def refBetweenVC_wp (a0 a1 a2 a3 a4 b0 b1 b2 b3 b4 : Int) (r : Cst) : Prop := wpF Try.prog [] tt (fun _ _ _ _ => []) 200 5 20 [.agg [i64 a0, i64 a1, i64 a2, i64 a3, i64 a4], .agg [i64 b0, i64 b1, i64 b2, i64 b3, i64 b4]] (hO 0 []) (fun v h' => endP 0 r.av [] v h')
def refBetweenVC (a0 a1 a2 a3 a4 b0 b1 b2 b3 b4 : Int) (r : Cst) : Prop :=
  ((@I64 ((@imax (0 : @Int) b0) - (@imax (0 : @Int) a0))) ∧
  ((((AV.lit (Value.int @IntKind.i64 b2)) = (AV.lit (Value.int @IntKind.i64 b2))) ∧
  (((AV.lit (Value.int @IntKind.i64 a2)) = (AV.lit (Value.int @IntKind.i64 a2))) ∧
  (((AV.lit (Value.int @IntKind.i64 b1)) = (AV.lit (Value.int @IntKind.i64 b1))) ∧
  (((AV.lit (Value.int @IntKind.i64 a1)) = (AV.lit (Value.int @IntKind.i64 a1))) ∧
  True)))) ∧
  ((@I64 ((@imax (0 : @Int) b1) - (@imax (0 : @Int) a1))) ∧
  ((((AV.lit (Value.int @IntKind.i64 b2)) = (AV.lit (Value.int @IntKind.i64 b2))) ∧
  (((AV.lit (Value.int @IntKind.i64 a2)) = (AV.lit (Value.int @IntKind.i64 a2))) ∧
  True)) ∧
  ((@I64 ((@imax (0 : @Int) b2) - (@imax (0 : @Int) a2))) ∧
  (True ∧
  (True ∧
  ((((@Cst.s0 r) = (0 : @Int)) ∧
  (((@Cst.s1 r) = (@imax (0 : @Int) ((@imax (0 : @Int) b0) - (@imax (0 : @Int) a0)))) ∧
  (((@Cst.s2 r) = (@imax (0 : @Int) ((@imax (0 : @Int) b1) - (@imax (0 : @Int) a1)))) ∧
  (((@Cst.s3 r) = (@imax (0 : @Int) ((@imax (0 : @Int) b2) - (@imax (0 : @Int) a2)))) ∧
  (((@Cst.s4 r) = (0 : @Int)) ∧
  (((@Cst.s5 r) = (0 : @Int)) ∧
  True)))))) ∧
  True))))))))
theorem refBetweenVC_ok (a0 a1 a2 a3 a4 b0 b1 b2 b3 b4 : Int) (r : Cst) : refBetweenVC a0 a1 a2 a3 a4 b0 b1 b2 b3 b4 r = refBetweenVC_wp a0 a1 a2 a3 a4 b0 b1 b2 b3 b4 r := by kernel_rfl
def betweenVC_wp (a0 a1 a2 a3 a4 b0 b1 b2 b3 b4 : Int) (r : Cst) : Prop := wpF Try.prog [] tt (fun _ _ _ _ => []) 200 5 19 [.agg [i64 a0, i64 a1, i64 a2, i64 a3, i64 a4], .agg [i64 b0, i64 b1, i64 b2, i64 b3, i64 b4]] (hO 0 []) (fun v h' => endP 0 r.av [] v h')
def betweenVC (a0 a1 a2 a3 a4 b0 b1 b2 b3 b4 : Int) (r : Cst) : Prop :=
  ((@I64 ((@imax b0 (0 : @Int)) - (@imax a0 (0 : @Int)))) ∧
  ((((AV.lit (Value.int @IntKind.i64 a2)) = (AV.lit (Value.int @IntKind.i64 a2))) ∧
  (((AV.lit (Value.int @IntKind.i64 b2)) = (AV.lit (Value.int @IntKind.i64 b2))) ∧
  (((AV.lit (Value.int @IntKind.i64 a1)) = (AV.lit (Value.int @IntKind.i64 a1))) ∧
  (((AV.lit (Value.int @IntKind.i64 b1)) = (AV.lit (Value.int @IntKind.i64 b1))) ∧
  True)))) ∧
  ((@I64 ((@imax b1 (0 : @Int)) - (@imax a1 (0 : @Int)))) ∧
  ((((AV.lit (Value.int @IntKind.i64 a2)) = (AV.lit (Value.int @IntKind.i64 a2))) ∧
  (((AV.lit (Value.int @IntKind.i64 b2)) = (AV.lit (Value.int @IntKind.i64 b2))) ∧
  True)) ∧
  ((@I64 ((@imax b2 (0 : @Int)) - (@imax a2 (0 : @Int)))) ∧
  (True ∧
  (True ∧
  ((((@Cst.s0 r) = (0 : @Int)) ∧
  (((@Cst.s1 r) = (@imax ((@imax b0 (0 : @Int)) - (@imax a0 (0 : @Int))) (0 : @Int))) ∧
  (((@Cst.s2 r) = (@imax ((@imax b1 (0 : @Int)) - (@imax a1 (0 : @Int))) (0 : @Int))) ∧
  (((@Cst.s3 r) = (@imax ((@imax b2 (0 : @Int)) - (@imax a2 (0 : @Int))) (0 : @Int))) ∧
  (((@Cst.s4 r) = (0 : @Int)) ∧
  (((@Cst.s5 r) = (0 : @Int)) ∧
  True)))))) ∧
  True))))))))
theorem betweenVC_ok (a0 a1 a2 a3 a4 b0 b1 b2 b3 b4 : Int) (r : Cst) : betweenVC a0 a1 a2 a3 a4 b0 b1 b2 b3 b4 r = betweenVC_wp a0 a1 a2 a3 a4 b0 b1 b2 b3 b4 r := by kernel_rfl
def refSumVC_wp (c : Nat → Cst) (n : Nat) (r : Cst) : Prop := wpF Try.prog [] tt (anRefSum c n) 200 5 21 [.slR 0 0 6 n] (hO 1 [.ro (rowC c n)]) (fun v h' => endP 1 r.av [.ro (rowC c n)] v h')
def refSumVC (c : Nat → Cst) (n : Nat) (r : Cst) : Prop :=
  ((∃ (s : @Nat), ((s ≤ n) ∧
  (True ∧
  (((((s : Nat) : @Int) = (0 : @Int)) ∧
  True) ∧
  ((((@Cst.s0 (@Cst.sum c s)) = (0 : @Int)) ∧
  (((@Cst.s1 (@Cst.sum c s)) = (0 : @Int)) ∧
  (((@Cst.s2 (@Cst.sum c s)) = (0 : @Int)) ∧
  (((@Cst.s3 (@Cst.sum c s)) = (0 : @Int)) ∧
  (((@Cst.s4 (@Cst.sum c s)) = (0 : @Int)) ∧
  (((@Cst.s5 (@Cst.sum c s)) = (0 : @Int)) ∧
  True)))))) ∧
  ((((0 : @Int) = (0 : @Int)) ∧
  (((0 : @Int) = (0 : @Int)) ∧
  (((0 : @Int) = (0 : @Int)) ∧
  (((0 : @Int) = (0 : @Int)) ∧
  (((0 : @Int) = (0 : @Int)) ∧
  (((0 : @Int) = (0 : @Int)) ∧
  True)))))) ∧
  ((((@rowC c n) = (@rowC c n)) ∧
  (@Bool.true = @Bool.true)) ∧
  True))))))) ∧
  ((∀ (s : @Nat), ((s ≤ n) → (cP (decide (((s : Nat) : @Int) < ((n : Nat) : @Int))) ((((0 : @Int) ≤ ((s : Nat) : @Int)) ∧
  (((s : Nat) : @Int) < ((n : Nat) : @Int))) ∧
  ((((0 : @Nat) + s) < n) ∧
  ((@I64 ((@imax (0 : @Int) (@imin (@Cst.s0 (@Cst.sum c s)) (1099511627776 : @Int))) + (@imax (0 : @Int) (@imin (@Cst.s0 (c ((0 : @Nat) + s))) (1099511627776 : @Int))))) ∧
  ((((AV.lit (Value.int @IntKind.i64 (@Cst.s5 (c ((0 : @Nat) + s))))) = (AV.lit (Value.int @IntKind.i64 (@Cst.s5 (c ((0 : @Nat) + s)))))) ∧
  (((AV.lit (Value.int @IntKind.i64 (@Cst.s5 (@Cst.sum c s)))) = (AV.lit (Value.int @IntKind.i64 (@Cst.s5 (@Cst.sum c s))))) ∧
  (((AV.lit (Value.int @IntKind.i64 (@Cst.s4 (c ((0 : @Nat) + s))))) = (AV.lit (Value.int @IntKind.i64 (@Cst.s4 (c ((0 : @Nat) + s)))))) ∧
  (((AV.lit (Value.int @IntKind.i64 (@Cst.s4 (@Cst.sum c s)))) = (AV.lit (Value.int @IntKind.i64 (@Cst.s4 (@Cst.sum c s))))) ∧
  (((AV.lit (Value.int @IntKind.i64 (@Cst.s3 (c ((0 : @Nat) + s))))) = (AV.lit (Value.int @IntKind.i64 (@Cst.s3 (c ((0 : @Nat) + s)))))) ∧
  (((AV.lit (Value.int @IntKind.i64 (@Cst.s3 (@Cst.sum c s)))) = (AV.lit (Value.int @IntKind.i64 (@Cst.s3 (@Cst.sum c s))))) ∧
  (((AV.lit (Value.int @IntKind.i64 (@Cst.s2 (c ((0 : @Nat) + s))))) = (AV.lit (Value.int @IntKind.i64 (@Cst.s2 (c ((0 : @Nat) + s)))))) ∧
  (((AV.lit (Value.int @IntKind.i64 (@Cst.s2 (@Cst.sum c s)))) = (AV.lit (Value.int @IntKind.i64 (@Cst.s2 (@Cst.sum c s))))) ∧
  (((AV.lit (Value.int @IntKind.i64 (@Cst.s1 (c ((0 : @Nat) + s))))) = (AV.lit (Value.int @IntKind.i64 (@Cst.s1 (c ((0 : @Nat) + s)))))) ∧
  (((AV.lit (Value.int @IntKind.i64 (@Cst.s1 (@Cst.sum c s)))) = (AV.lit (Value.int @IntKind.i64 (@Cst.s1 (@Cst.sum c s))))) ∧
  True)))))))))) ∧
  ((@I64 ((@imax (0 : @Int) (@imin (@Cst.s1 (@Cst.sum c s)) (1099511627776 : @Int))) + (@imax (0 : @Int) (@imin (@Cst.s1 (c ((0 : @Nat) + s))) (1099511627776 : @Int))))) ∧
  ((((AV.lit (Value.int @IntKind.i64 (@Cst.s5 (c ((0 : @Nat) + s))))) = (AV.lit (Value.int @IntKind.i64 (@Cst.s5 (c ((0 : @Nat) + s)))))) ∧
  (((AV.lit (Value.int @IntKind.i64 (@Cst.s5 (@Cst.sum c s)))) = (AV.lit (Value.int @IntKind.i64 (@Cst.s5 (@Cst.sum c s))))) ∧
  (((AV.lit (Value.int @IntKind.i64 (@Cst.s4 (c ((0 : @Nat) + s))))) = (AV.lit (Value.int @IntKind.i64 (@Cst.s4 (c ((0 : @Nat) + s)))))) ∧
  (((AV.lit (Value.int @IntKind.i64 (@Cst.s4 (@Cst.sum c s)))) = (AV.lit (Value.int @IntKind.i64 (@Cst.s4 (@Cst.sum c s))))) ∧
  (((AV.lit (Value.int @IntKind.i64 (@Cst.s3 (c ((0 : @Nat) + s))))) = (AV.lit (Value.int @IntKind.i64 (@Cst.s3 (c ((0 : @Nat) + s)))))) ∧
  (((AV.lit (Value.int @IntKind.i64 (@Cst.s3 (@Cst.sum c s)))) = (AV.lit (Value.int @IntKind.i64 (@Cst.s3 (@Cst.sum c s))))) ∧
  (((AV.lit (Value.int @IntKind.i64 (@Cst.s2 (c ((0 : @Nat) + s))))) = (AV.lit (Value.int @IntKind.i64 (@Cst.s2 (c ((0 : @Nat) + s)))))) ∧
  (((AV.lit (Value.int @IntKind.i64 (@Cst.s2 (@Cst.sum c s)))) = (AV.lit (Value.int @IntKind.i64 (@Cst.s2 (@Cst.sum c s))))) ∧
  True)))))))) ∧
  ((@I64 ((@imax (0 : @Int) (@imin (@Cst.s2 (@Cst.sum c s)) (1099511627776 : @Int))) + (@imax (0 : @Int) (@imin (@Cst.s2 (c ((0 : @Nat) + s))) (1099511627776 : @Int))))) ∧
  ((((AV.lit (Value.int @IntKind.i64 (@Cst.s5 (c ((0 : @Nat) + s))))) = (AV.lit (Value.int @IntKind.i64 (@Cst.s5 (c ((0 : @Nat) + s)))))) ∧
  (((AV.lit (Value.int @IntKind.i64 (@Cst.s5 (@Cst.sum c s)))) = (AV.lit (Value.int @IntKind.i64 (@Cst.s5 (@Cst.sum c s))))) ∧
  (((AV.lit (Value.int @IntKind.i64 (@Cst.s4 (c ((0 : @Nat) + s))))) = (AV.lit (Value.int @IntKind.i64 (@Cst.s4 (c ((0 : @Nat) + s)))))) ∧
  (((AV.lit (Value.int @IntKind.i64 (@Cst.s4 (@Cst.sum c s)))) = (AV.lit (Value.int @IntKind.i64 (@Cst.s4 (@Cst.sum c s))))) ∧
  (((AV.lit (Value.int @IntKind.i64 (@Cst.s3 (c ((0 : @Nat) + s))))) = (AV.lit (Value.int @IntKind.i64 (@Cst.s3 (c ((0 : @Nat) + s)))))) ∧
  (((AV.lit (Value.int @IntKind.i64 (@Cst.s3 (@Cst.sum c s)))) = (AV.lit (Value.int @IntKind.i64 (@Cst.s3 (@Cst.sum c s))))) ∧
  True)))))) ∧
  ((@I64 ((@imax (0 : @Int) (@imin (@Cst.s3 (@Cst.sum c s)) (1099511627776 : @Int))) + (@imax (0 : @Int) (@imin (@Cst.s3 (c ((0 : @Nat) + s))) (1099511627776 : @Int))))) ∧
  ((((AV.lit (Value.int @IntKind.i64 (@Cst.s5 (c ((0 : @Nat) + s))))) = (AV.lit (Value.int @IntKind.i64 (@Cst.s5 (c ((0 : @Nat) + s)))))) ∧
  (((AV.lit (Value.int @IntKind.i64 (@Cst.s5 (@Cst.sum c s)))) = (AV.lit (Value.int @IntKind.i64 (@Cst.s5 (@Cst.sum c s))))) ∧
  (((AV.lit (Value.int @IntKind.i64 (@Cst.s4 (c ((0 : @Nat) + s))))) = (AV.lit (Value.int @IntKind.i64 (@Cst.s4 (c ((0 : @Nat) + s)))))) ∧
  (((AV.lit (Value.int @IntKind.i64 (@Cst.s4 (@Cst.sum c s)))) = (AV.lit (Value.int @IntKind.i64 (@Cst.s4 (@Cst.sum c s))))) ∧
  True)))) ∧
  ((@I64 ((@imax (0 : @Int) (@imin (@Cst.s4 (@Cst.sum c s)) (1099511627776 : @Int))) + (@imax (0 : @Int) (@imin (@Cst.s4 (c ((0 : @Nat) + s))) (1099511627776 : @Int))))) ∧
  ((((AV.lit (Value.int @IntKind.i64 (@Cst.s5 (c ((0 : @Nat) + s))))) = (AV.lit (Value.int @IntKind.i64 (@Cst.s5 (c ((0 : @Nat) + s)))))) ∧
  (((AV.lit (Value.int @IntKind.i64 (@Cst.s5 (@Cst.sum c s)))) = (AV.lit (Value.int @IntKind.i64 (@Cst.s5 (@Cst.sum c s))))) ∧
  True)) ∧
  ((@I64 ((@imax (0 : @Int) (@imin (@Cst.s5 (@Cst.sum c s)) (1099511627776 : @Int))) + (@imax (0 : @Int) (@imin (@Cst.s5 (c ((0 : @Nat) + s))) (1099511627776 : @Int))))) ∧
  (True ∧
  (True ∧
  (True ∧
  (True ∧
  ((@I64 (((s : Nat) : @Int) + (1 : @Int))) ∧
  (∃ (s_1 : @Nat), ((s_1 ≤ n) ∧
  (((n - s_1) < (n - s)) ∧
  (((((s_1 : Nat) : @Int) = (((s : Nat) : @Int) + (1 : @Int))) ∧
  True) ∧
  ((((@Cst.s0 (@Cst.sum c s_1)) = (@imin ((@imax (0 : @Int) (@imin (@Cst.s0 (@Cst.sum c s)) (1099511627776 : @Int))) + (@imax (0 : @Int) (@imin (@Cst.s0 (c ((0 : @Nat) + s))) (1099511627776 : @Int)))) (1099511627776 : @Int))) ∧
  (((@Cst.s1 (@Cst.sum c s_1)) = (@imin ((@imax (0 : @Int) (@imin (@Cst.s1 (@Cst.sum c s)) (1099511627776 : @Int))) + (@imax (0 : @Int) (@imin (@Cst.s1 (c ((0 : @Nat) + s))) (1099511627776 : @Int)))) (1099511627776 : @Int))) ∧
  (((@Cst.s2 (@Cst.sum c s_1)) = (@imin ((@imax (0 : @Int) (@imin (@Cst.s2 (@Cst.sum c s)) (1099511627776 : @Int))) + (@imax (0 : @Int) (@imin (@Cst.s2 (c ((0 : @Nat) + s))) (1099511627776 : @Int)))) (1099511627776 : @Int))) ∧
  (((@Cst.s3 (@Cst.sum c s_1)) = (@imin ((@imax (0 : @Int) (@imin (@Cst.s3 (@Cst.sum c s)) (1099511627776 : @Int))) + (@imax (0 : @Int) (@imin (@Cst.s3 (c ((0 : @Nat) + s))) (1099511627776 : @Int)))) (1099511627776 : @Int))) ∧
  (((@Cst.s4 (@Cst.sum c s_1)) = (@imin ((@imax (0 : @Int) (@imin (@Cst.s4 (@Cst.sum c s)) (1099511627776 : @Int))) + (@imax (0 : @Int) (@imin (@Cst.s4 (c ((0 : @Nat) + s))) (1099511627776 : @Int)))) (1099511627776 : @Int))) ∧
  (((@Cst.s5 (@Cst.sum c s_1)) = (@imin ((@imax (0 : @Int) (@imin (@Cst.s5 (@Cst.sum c s)) (1099511627776 : @Int))) + (@imax (0 : @Int) (@imin (@Cst.s5 (c ((0 : @Nat) + s))) (1099511627776 : @Int)))) (1099511627776 : @Int))) ∧
  True)))))) ∧
  ((((0 : @Int) = (0 : @Int)) ∧
  (((0 : @Int) = (0 : @Int)) ∧
  (((0 : @Int) = (0 : @Int)) ∧
  (((0 : @Int) = (0 : @Int)) ∧
  (((0 : @Int) = (0 : @Int)) ∧
  (((0 : @Int) = (0 : @Int)) ∧
  True)))))) ∧
  ((((@rowC c n) = (@rowC c n)) ∧
  (@Bool.true = @Bool.true)) ∧
  True))))))))))))))))))))))))) ((((@Cst.s0 r) = (@Cst.s0 (@Cst.sum c s))) ∧
  (((@Cst.s1 r) = (@Cst.s1 (@Cst.sum c s))) ∧
  (((@Cst.s2 r) = (@Cst.s2 (@Cst.sum c s))) ∧
  (((@Cst.s3 r) = (@Cst.s3 (@Cst.sum c s))) ∧
  (((@Cst.s4 r) = (@Cst.s4 (@Cst.sum c s))) ∧
  (((@Cst.s5 r) = (@Cst.s5 (@Cst.sum c s))) ∧
  True)))))) ∧
  ((((@rowC c n) = (@rowC c n)) ∧
  (@Bool.true = @Bool.true)) ∧
  True))))) ∧
  True))
theorem refSumVC_ok (c : Nat → Cst) (n : Nat) (r : Cst) : refSumVC c n r = refSumVC_wp c n r := by kernel_rfl
end Go.Proofs.Ytjndgegfonhhfaa
end
section
/- Sums, told of any memory; a program that is awake. -/
namespace Go.Proofs.Ytjndgegfonhhfaa
open Go SE
theorem awake_true : awakeVC := by
  unfold awakeVC
  repeat' (first | exact trivial | exact rfl | exact Int.NonNeg.mk _ | (refine ⟨?_, ?_⟩) | decide)
theorem awake_sp : Sp Try.prog 11 [] (hO 0 []) (fun v h' => v = .lit (.bool true) ∧ h' = hO 0 []) := by
  have h := awake_true
  rw [awakeVC_ok] at h
  exact sp_endk tt_ok mixed TblOk.nil (fun _ _ _ _ => []) 400 20 0 0 rfl rfl h
def awakeT : WTr := fun args h K => match args with
  | [] => K (.lit (.bool true)) h
  | _ => False
theorem awakeT_ok (args : List AV) (h : Heap) (K : AV → Heap → Prop) (hq : awakeT args h K) : Sp Try.prog 11 args h K := by
  unfold awakeT at hq
  split at hq
  · exact (sp_plain h awake_sp (fun _ _ hh => hh.1) rfl rfl).mono fun v h' ⟨e1, e2⟩ => by subst e1 e2; exact hq
  · exact hq.elim
theorem Cst.litsOnly (x : Cst) : litsOnly x.av = true := rfl

theorem Cst.more_held {a b : Int} (h : Cst.okI a) : imin (imax 0 (imin a 1099511627776) + imax 0 (imin b 1099511627776)) 1099511627776 = Cst.heldM a b := by
  unfold Cst.okI Cst.heldM Cst.maxCost imin imax at *; grind
theorem Cst.more_i64 {a : Int} (b : Int) (h : Cst.okI a) : I64 (imax 0 (imin a 1099511627776) + imax 0 (imin b 1099511627776)) := by
  unfold Cst.okI Cst.maxCost I64 imin imax at *; grind
theorem refSumVC_true (c : Nat → Cst) (n : Nat) (hn : n < 4611686018427387904) : refSumVC c n (Cst.sum c n) := by
  unfold refSumVC
  refine ⟨⟨(0 : Nat), ?_⟩, fun (s : Nat) (hs : s ≤ n) => ?_, trivial⟩
  · simp [Cst.sum, Cst.zero]
  obtain ⟨k0, k1, k2, k3, k4, k5⟩ := Cst.sum_ok c s
  simp only [Nat.zero_add, Int.toNat_natCast, and_true, true_and]
  refine cP_intro (fun hb => ?_) (fun hb => ?_)
  · have hb : (s : Int) < n := of_decide_eq_true hb
    have hsn : s < n := by omega
    have hI : I64 ((s : Int) + 1) := by unfold I64; omega
    refine ⟨⟨by omega, hb⟩, hsn, Cst.more_i64 _ k0, Cst.more_i64 _ k1, Cst.more_i64 _ k2, Cst.more_i64 _ k3, Cst.more_i64 _ k4, Cst.more_i64 _ k5, hI, (s + 1 : Nat), ?_⟩
    rw [Cst.more_held k0, Cst.more_held k1, Cst.more_held k2, Cst.more_held k3, Cst.more_held k4, Cst.more_held k5]
    simp only [Cst.sum, Cst.add, and_true]
    exact ⟨by omega, by omega, by push_cast; rfl⟩
  · have hb : ¬ (s : Int) < n := of_decide_eq_false hb
    obtain rfl : s = n := by omega
    simp
theorem refSum_sp (c : Nat → Cst) (n : Nat) (hn : n < 4611686018427387904) : Sp Try.prog 21 [.slR 0 0 6 n] (hO 1 [.ro (rowC c n)]) (fun v h' => v = (Cst.sum c n).av ∧ h' = hO 1 [.ro (rowC c n)]) := by
  have h := refSumVC_true c n hn
  rw [refSumVC_ok] at h
  unfold refSumVC_wp at h
  exact sp_endk tt_ok mixed TblOk.nil (anRefSum c n) 200 5 1 1 rfl rfl h

/-- A cost of these cells. -/
def parseC : List Value → Option Cst
  | [.int .i64 a, .int .i64 b, .int .i64 c, .int .i64 d, .int .i64 e, .int .i64 f] => some ⟨a, b, c, d, e, f⟩
  | _ => none
theorem parseC_ok {l : List Value} {x : Cst} (h : parseC l = some x) : l = x.cells := by
  unfold parseC at h
  split at h
  · cases h; rfl
  · cases h
def parseL : List (List Value) → Option (List Cst)
  | [] => some []
  | l :: r => match parseC l with
    | some x => match parseL r with
      | some xs => some (x :: xs)
      | none => none
    | none => none
theorem parseL_ok : ∀ {L : List (List Value)} {xs : List Cst}, parseL L = some xs → L.length = xs.length ∧ ∀ k, k < xs.length → L.getD k [] = (xs.getD k Cst.zero).cells
  | [], xs, h => by simp only [parseL] at h; cases h; exact ⟨rfl, fun k hk => by simp at hk⟩
  | l :: r, xs, h => by
    simp only [parseL] at h
    split at h
    · rename_i x hx
      split at h
      · rename_i ys hy
        cases h
        obtain ⟨g1, g2⟩ := parseL_ok hy
        refine ⟨by simp [g1], fun k hk => ?_⟩
        cases k with
        | zero => simpa using parseC_ok hx
        | succ k => simpa using g2 k (by simpa using hk)
      · cases h
    · cases h
def sumFrom (x : Cst) : List Cst → Cst
  | [] => x
  | y :: r => sumFrom (Cst.add x y) r
theorem sum_list : ∀ (r l : List Cst) , sumFrom (Cst.sum (fun k => (l ++ r).getD k Cst.zero) l.length) r = Cst.sum (fun k => (l ++ r).getD k Cst.zero) (l ++ r).length
  | [], l => by simp [sumFrom]
  | y :: r, l => by
    have := sum_list r (l ++ [y])
    simp only [List.append_assoc, List.singleton_append, List.length_append, List.length_cons, List.length_nil] at this
    simp only [sumFrom, List.length_append, List.length_cons]
    rw [← this]
    simp only [Nat.zero_add, Cst.sum]
    congr 2
    simp
/-- The sum of what is given. -/
def sumT : WTr := fun args h K => match args with
  | [x] => vView h x 6 fun
    | .few L => match parseL L with
      | some cs => cs.length < 4611686018427387904 ∧ K (sumFrom Cst.zero cs).av h
      | none => False
    | .many n g => n < 4611686018427387904 ∧ ∃ c : Nat → Cst, (∀ k, k < n → g k = (c k).cells) ∧ K (Cst.sum c n).av h
  | _ => False
theorem sumT_of {f : FuncId} (hf : ∀ (c : Nat → Cst) (n : Nat), n < 4611686018427387904 → Sp Try.prog f [.slR 0 0 6 n] (hO 1 [.ro (rowC c n)]) (fun v h' => v = (Cst.sum c n).av ∧ h' = hO 1 [.ro (rowC c n)]))
    (args : List AV) (h : Heap) (K : AV → Heap → Prop) (hq : sumT args h K) : Sp Try.prog f args h K := by
  unfold sumT at hq
  split at hq
  · refine sp_slice (hf (fun _ => Cst.zero) 0 (by omega)).1 (by omega) hq fun e he => ?_
    split at he
    · rename_i L
      split at he
      · rename_i cs hcs
        obtain ⟨hl, hK⟩ := he
        obtain ⟨g1, g2⟩ := parseL_ok hcs
        refine ⟨cs.length, fun k => (cs.getD k Cst.zero).cells, (Cst.sum (fun k => cs.getD k Cst.zero) cs.length).av, g1, g2, rfl, ?_, (hf _ _ hl).mono fun _ _ hh => hh.1⟩
        have := sum_list cs []
        simp only [List.nil_append, List.length_nil, Cst.sum] at this
        rw [← this]; exact hK
      · exact he.elim
    · rename_i n g
      obtain ⟨hl, c, hc, hK⟩ := he
      exact ⟨n, fun k => (c k).cells, (Cst.sum c n).av, rfl, hc, rfl, hK, (hf c n hl).mono fun _ _ hh => hh.1⟩
  · exact hq.elim
def tbl : WTbl := [(15, sumT), (21, sumT), (11, awakeT)]
theorem tbl_ok : TblOk Try.prog tbl := .cons (sumT_of sum_sp) (.cons (sumT_of refSum_sp) (.cons awakeT_ok .nil))
end Go.Proofs.Ytjndgegfonhhfaa
end
section
/- Costs of calls: contracts. -/
namespace Go.Proofs.Ytjndgegfonhhfaa
open Go SE
noncomputable section
def tblN : WTbl := [(69, ctrT spanC), (75, ctrT spanC), (70, ctrT needC), (76, ctrT needC)]
theorem tblN_ok : TblOk Try.prog tblN := .cons (ctrT_ok span_ok) (.cons (ctrT_ok rspan_ok) (.cons (ctrT_ok need_ok) (.cons (ctrT_ok rneed_ok) .nil)))
def writeM (n : Int) : Cst := ⟨linesM n + 1, linesM n + 1, 0, 0, linesM n, 0⟩
def writeC : Ctr := det Int (fun n => [i64 n]) 0 (fun _ => []) (fun _ => True) (fun n => (writeM n).av) 0 (fun _ => [])
/-- A store and a part of a call. -/
structure SP where
  s : Shf
  kind : Int
  key : BA
  value : BA
  to : BA
  e : Int
def SP.ok (x : SP) : Prop := x.s.small ∧ x.key.size ≤ 1500 ∧ x.value.size ≤ 1500 ∧ (x.e = 0 ∨ x.e = 1)
def SP.av (x : SP) : AV := .agg [i64 x.kind, str x.key, str x.value, str x.to, .any]
def SP.pt (x : SP) : Cst := partM x.s x.kind x.key x.value x.e
def putC : Ctr := det SP (fun x => [x.s.av 0 1, x.av]) 2 (fun x => x.s.os) (fun x => Hd x.ok) (fun x => (partM x.s 2 x.key x.value 0).av) 2 (fun x => x.s.os)
def delC : Ctr := det SK (fun x => [x.s.av 0 1, str x.key]) 2 (fun x => x.s.os) (fun x => Hd x.ok) (fun x => (partM x.s 3 x.key x.key 0).av) 2 (fun x => x.s.os)
def partC : Ctr := det SP (fun x => [x.s.av 0 1, x.av, i64 x.e]) 2 (fun x => x.s.os) (fun x => Hd x.ok) (fun x => x.pt.av) 2 (fun x => x.s.os)
/-- A store and a group. -/
structure SG where
  s : Shf
  g : Nat → Mem
  n : Nat
def SG.os (x : SG) : List AObj := x.s.os ++ [.ro (.row 5 x.n (fun k => (x.g k).cells) [])]
def SG.ok (x : SG) : Prop := x.s.small ∧ x.n ≤ 3 ∧ ∀ k, k < x.n → (x.g k).small ∧ groupedM (x.g k).kind = true
def groupC : Ctr := det SG (fun x => [x.s.av 0 1, .slR 2 0 5 x.n]) 3 (fun x => x.os) (fun x => Hd x.ok) (fun x => (groupTo x.s x.g x.n).av) 3 (fun x => x.os)
def anGroup (x : SG) : FuncId → Anns := fun f => bif Nat.beq f 42 then (fun b _ _ => bif Nat.beq b 0 then [{ σ := Nat, fr := fun i => [(11, i64 i)], ob := fun i => [(5, some (.cells 33 (.av (groupTo x.s x.g i).avs)))], inv := fun i => i ≤ x.n, meas := fun i => x.n - i }] else []) else fun _ _ _ => []
def tblW : WTbl := [(40, ctrT writeC), (77, ctrT writeC), (35, ctrT findC), (46, ctrT findC), (36, ctrT getC), (45, ctrT getC), (15, sumT)]
end
end Go.Proofs.Ytjndgegfonhhfaa
end
