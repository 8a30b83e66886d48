/- Operations that look at no memory. Plain definitions, and one law for each. -/
import Derived.Test.YtpbdlibgbkhlhaaGreatE3
import Derived.Laws.StructEq
namespace Go.Proofs.YtpbdlibgbkhlhaaGreat.SE
open Go

/-! ### Parts of a value -/
/-- The cells of a struct or an array. -/
def aggOf : AV → Option (List AV)
  | .agg cs => some cs
  | .lit (.agg vs) => some (vs.toList.map .lit)
  | _ => none
theorem aggOf_spec {ρ : Ren} {v : AV} {u : Value} {cs : List AV} (h : aggOf v = some cs) (hv : VRel ρ v u) : ∃ vs, u = .agg vs ∧ LRel ρ cs vs.toList := by
  cases v with
  | agg l => simp only [aggOf, Option.some.injEq] at h; subst h; simpa only [VRel] using hv
  | lit x =>
    simp only [VRel] at hv; subst hv
    cases u <;> simp only [aggOf, Option.some.injEq] at h <;> first | (subst h; exact ⟨_, rfl, LRel.lits _⟩) | cases h
  | _ => simp [aggOf] at h

def takeN : Nat → Nat → List AV → Option (List AV)
  | o, n, l => bif Nat.ble (o + n) l.length then some ((l.drop o).take n) else none

def partA (tt : TT) (t : TypeId) (cs : List AV) (o : Nat) : Option AV :=
  match tt t with
  | some ti => bif ti.agg then (match takeN o ti.size cs with | some l => some (.agg l) | none => none) else cs[o]?
  | none => none

theorem LRel.take {ρ : Ren} {as : List AV} {vs : List Value} (h : LRel ρ as vs) (o n : Nat) : LRel ρ ((as.drop o).take n) ((vs.drop o).take n) := by
  refine LRel.of_get (by simp [h.length]) fun k a ha => ?_
  rw [List.getElem?_take] at ha
  split at ha
  · rename_i hk
    rw [List.getElem?_drop] at ha
    obtain ⟨v, hv, hr⟩ := h.get _ _ ha
    exact ⟨v, by rw [List.getElem?_take, if_pos hk, List.getElem?_drop]; exact hv, hr⟩
  · cases ha

theorem partA_ok {P : Program} {tt : TT} (hT : tt.ok P) {t : TypeId} {cs : List AV} {vs : Array Value} {o : Nat} {r : AV} {ρ : Ren} (h : partA tt t cs o = some r)
    (hv : LRel ρ cs vs.toList) : NOk P (part t vs o) ρ r := by
  unfold partA at h
  split at h
  · rename_i ti hti
    cases ha : ti.agg with
    | true =>
      rw [ha] at h
      simp only [cond_true, takeN] at h
      cases hb : Nat.ble (o + ti.size) cs.length with
      | false => rw [hb] at h; simp at h
      | true =>
        rw [hb] at h; simp only [cond_true, Option.some.injEq] at h; subst h
        refine ⟨.agg (vs.extract o (o + ti.size)), fun w => by simp [part, run_isAgg hT hti, ha, run_sizeOf hT hti], ?_⟩
        simp only [VRel]
        refine ⟨_, rfl, ?_⟩
        have : (vs.extract o (o + ti.size)).toList = (vs.toList.drop o).take ti.size := by
          rw [Array.toList_extract, List.extract_eq_take_drop]
          congr 1; omega
        rw [this]
        exact hv.take _ _
    | false =>
      rw [ha] at h
      simp only [cond_false] at h
      obtain ⟨u, hu, hr⟩ := hv.get _ _ h
      refine ⟨u, fun w => ?_, hr⟩
      have : vs[o]? = some u := by simpa using hu
      simp [part, run_isAgg hT hti, ha, this]
  · cases h

/-! ### '==' -/
def eqScalar : TD → AV → AV → Option Bool
  | .bool, .lit (.bool a), .lit (.bool b) => some (a == b)
  | .int _, .lit (.int k a), .lit (.int k' b) => if k = k' then some (a == b) else none
  | .string, .lit (.string a), .lit (.string b) => some (a.toList == b.toList)
  | .ptr _, .lit (.pointer none), .lit (.pointer none) => some true
  | .ptr _, .lit (.pointer none), .ptr _ _ => some false
  | .ptr _, .ptr _ _, .lit (.pointer none) => some false
  | .slice _, .lit (.slice none _ _), .lit (.slice none _ _) => some true
  | .slice _, .lit (.slice none _ _), .sl _ _ _ _ => some false
  | .slice _, .sl _ _ _ _, .lit (.slice none _ _) => some false
  | .slice _, .lit (.slice none _ _), .slU _ _ _ _ => some false
  | .slice _, .slU _ _ _ _, .lit (.slice none _ _) => some false
  | .slice _, .lit (.slice none _ _), .slE _ _ _ _ _ => some false
  | .slice _, .slE _ _ _ _ _, .lit (.slice none _ _) => some false
  | .slice _, .lit (.slice none _ _), .slW _ _ _ _ => some false
  | .slice _, .slW _ _ _ _, .lit (.slice none _ _) => some false
  | .slice _, .lit (.slice none _ _), .slZ z _ _ _ _ => some z
  | .slice _, .slZ z _ _ _ _, .lit (.slice none _ _) => some z
  | .ptr _, .lit (.pointer none), .ptrE _ _ _ _ => some false
  | .ptr _, .ptrE _ _ _ _, .lit (.pointer none) => some false
  | .map _ _, .lit (.map none), .lit (.map none) => some true
  | .map _ _, .lit (.map none), .mp _ => some false
  | .map _ _, .mp _, .lit (.map none) => some false
  | .func, .lit .nilFunc, .lit .nilFunc => some true
  | .func, .lit .nilFunc, .fn _ _ _ => some false
  | .func, .fn _ _ _, .lit .nilFunc => some false
  | _, _, _ => none

set_option maxHeartbeats 2000000 in
theorem eqScalar_ok {P : Program} {tt : TT} (hT : tt.ok P) {t : TypeId} {ti : TI} (hti : tt t = some ti) {x y : AV} {u v : Value} {r : Bool} {ρ : Ren}
    (h : eqScalar ti.desc x y = some r) (hu : VRel ρ x u) (hv : VRel ρ y v) (d : Nat) (w : World) : (Op.equalIn (d + 1) t u v).run P w = .ok r w := by
  obtain ⟨dd, hrun, hund, hmk⟩ := run_under (P := P) hT hti w
  unfold eqScalar at h
  split at h
  all_goals (try simp only [VRel] at hu hv)
  · cases h; rw [mkTD_bool (hmk.trans ‹_›)] at hrun; subst hu; subst hv
    simp [Op.equalIn, hrun]
  · rw [mkTD_int (hmk.trans ‹_›)] at hrun; subst hu; subst hv
    split at h
    · rename_i hk; cases h; subst hk
      simp [Op.equalIn, hrun]
    · cases h
  · cases h; rw [mkTD_string (hmk.trans ‹_›)] at hrun; subst hu; subst hv
    simp [Op.equalIn, hrun, beq_toListBytes]
  · cases h; rw [mkTD_ptr (hmk.trans ‹_›)] at hrun; subst hu; subst hv
    simp [Op.equalIn, hrun]
  · cases h; rw [mkTD_ptr (hmk.trans ‹_›)] at hrun; subst hu; obtain ⟨a, _, rfl⟩ := hv
    simp [Op.equalIn, hrun]
  · cases h; rw [mkTD_ptr (hmk.trans ‹_›)] at hrun; subst hv; obtain ⟨a, _, rfl⟩ := hu
    simp [Op.equalIn, hrun]
  · cases h; rw [mkTD_slice (hmk.trans ‹_›)] at hrun; subst hu; subst hv
    simp [Op.equalIn, hrun]
  · cases h; rw [mkTD_slice (hmk.trans ‹_›)] at hrun; subst hu; obtain ⟨a, _, rfl⟩ := hv
    simp [Op.equalIn, hrun]
  · cases h; rw [mkTD_slice (hmk.trans ‹_›)] at hrun; subst hv; obtain ⟨a, _, rfl⟩ := hu
    simp [Op.equalIn, hrun]
  · cases h; rw [mkTD_slice (hmk.trans ‹_›)] at hrun; subst hu; obtain ⟨a, _, _, rfl, _⟩ := hv
    simp [Op.equalIn, hrun]
  · cases h; rw [mkTD_slice (hmk.trans ‹_›)] at hrun; subst hv; obtain ⟨a, _, _, rfl, _⟩ := hu
    simp [Op.equalIn, hrun]
  · cases h; rw [mkTD_slice (hmk.trans ‹_›)] at hrun; subst hu; obtain ⟨a, _, _, rfl, _⟩ := hv
    simp [Op.equalIn, hrun]
  · cases h; rw [mkTD_slice (hmk.trans ‹_›)] at hrun; subst hv; obtain ⟨a, _, _, rfl, _⟩ := hu
    simp [Op.equalIn, hrun]
  · cases h; rw [mkTD_slice (hmk.trans ‹_›)] at hrun; subst hu; obtain ⟨a, _, _, _, rfl, _⟩ := hv
    simp [Op.equalIn, hrun]
  · cases h; rw [mkTD_slice (hmk.trans ‹_›)] at hrun; subst hv; obtain ⟨a, _, _, _, rfl, _⟩ := hu
    simp [Op.equalIn, hrun]
  · cases h; rw [mkTD_slice (hmk.trans ‹_›)] at hrun; subst hu
    rcases hv with ⟨hz, _, rfl⟩ | ⟨hz, a, _, _, _, rfl, _⟩ <;> simp [Op.equalIn, hrun, hz]
  · cases h; rw [mkTD_slice (hmk.trans ‹_›)] at hrun; subst hv
    rcases hu with ⟨hz, _, rfl⟩ | ⟨hz, a, _, _, _, rfl, _⟩ <;> simp [Op.equalIn, hrun, hz]
  · cases h; rw [mkTD_ptr (hmk.trans ‹_›)] at hrun; subst hu; obtain ⟨a, _, rfl⟩ := hv
    simp [Op.equalIn, hrun]
  · cases h; rw [mkTD_ptr (hmk.trans ‹_›)] at hrun; subst hv; obtain ⟨a, _, rfl⟩ := hu
    simp [Op.equalIn, hrun]
  · cases h; rw [mkTD_map (hmk.trans ‹_›)] at hrun; subst hu; subst hv
    simp [Op.equalIn, hrun]
  · cases h; rw [mkTD_map (hmk.trans ‹_›)] at hrun; subst hu; obtain ⟨a, _, rfl⟩ := hv
    simp [Op.equalIn, hrun]
  · cases h; rw [mkTD_map (hmk.trans ‹_›)] at hrun; subst hv; obtain ⟨a, _, rfl⟩ := hu
    simp [Op.equalIn, hrun]
  · cases h; obtain ⟨a, b, c, hf⟩ := mkTD_func (hmk.trans ‹_›); rw [hf] at hrun; subst hu; subst hv
    simp [Op.equalIn, hrun]
  · cases h; obtain ⟨a, b, c, hf⟩ := mkTD_func (hmk.trans ‹_›); rw [hf] at hrun; subst hu; obtain ⟨_, _, rfl, _⟩ := hv
    simp [Op.equalIn, hrun]
  · cases h; obtain ⟨a, b, c, hf⟩ := mkTD_func (hmk.trans ‹_›); rw [hf] at hrun; subst hv; obtain ⟨_, _, rfl, _⟩ := hu
    simp [Op.equalIn, hrun]
  · cases h

def eqFieldsA (tt : TT) (f : TypeId → AV → AV → Option Bool) : List (Nat × TypeId × Bool) → List AV → List AV → Option Bool
  | [], _, _ => some true
  | (o, t, true) :: fs, xs, ys => match partA tt t xs o, partA tt t ys o with
    | some a, some b => match f t a b with
      | some r => (match eqFieldsA tt f fs xs ys with | some q => some (r && q) | none => none)
      | none => none
    | _, _ => none
  | (_, _, false) :: fs, xs, ys => eqFieldsA tt f fs xs ys
def eqElemsA (tt : TT) (f : AV → AV → Option Bool) (e : TypeId) (s : Nat) : Nat → Nat → List AV → List AV → Option Bool
  | 0, _, _, _ => some true
  | n + 1, k, xs, ys => match partA tt e xs (k * s), partA tt e ys (k * s) with
    | some a, some b => match f a b with
      | some r => (match eqElemsA tt f e s n (k + 1) xs ys with | some q => some (r && q) | none => none)
      | none => none
    | _, _ => none
/-- '==' of two values of one type (fuel: the depth of the type). -/
def eqA (tt : TT) : Nat → TypeId → AV → AV → Option Bool
  | 0, _, _, _ => none
  | d + 1, t, x, y => match tt t with
    | some ti => match ti.desc with
      | .struct fs false => match aggOf x, aggOf y with
        | some xs, some ys => eqFieldsA tt (eqA tt d) fs xs ys
        | _, _ => none
      | .array n e => match aggOf x, aggOf y, tt e with
        | some xs, some ys, some te => eqElemsA tt (eqA tt d e) e te.size n 0 xs ys
        | _, _, _ => none
      | dd => eqScalar dd x y
    | none => none

theorem run_equalIn_array {P : Program} (w : World) (d : Nat) (t e : TypeId) (n : Nat) (xs ys : Array Value) (ht : P.underlying t = some (.array n e)) {s : Nat} (hs : ∀ w, (sizeOf e).run P w = .ok s w)
    (q : Nat → Bool) (hq : ∀ i, i < n → ∃ a b, (∀ w, (part e xs (i * s)).run P w = .ok a w) ∧ (∀ w, (part e ys (i * s)).run P w = .ok b w) ∧ ∀ w, (Op.equalIn d e a b).run P w = .ok (q i) w) :
    (Op.equalIn (d + 1) t (.agg xs) (.agg ys)).run P w = .ok ((List.range' 0 n).all q) w := by
  simp only [Op.equalIn, Sem.run_bind, underlying, run_program, Result.andThen_ok, ht, Sem.run_pure, hs]
  simp only [Std.Legacy.Range.forIn_eq_forIn_range', Std.Legacy.Range.size, Nat.sub_zero, Nat.add_sub_cancel, Nat.div_one]
  have key : ∀ (m k : Nat), k + m ≤ n → ∀ w, ((forIn (m := Sem) (List.range' k m) ((none, ()) : Option Bool × Unit) fun i r => do
        let a ← part e xs (i * s)
        let b ← part e ys (i * s)
        let c ← Op.equalIn d e a b
        if (!c) = true then pure (ForInStep.done (some false, ())) else pure (ForInStep.yield (none, ())))).run P w =
        .ok (if (List.range' k m).all q then none else some false, ()) w := by
    intro m
    induction m with
    | zero => intro k _ w; simp
    | succ m ih =>
      intro k hk w
      obtain ⟨a, b, ha, hb, hc⟩ := hq k (by omega)
      simp only [List.range'_succ, List.forIn_cons, Sem.run_bind, ha, hb, hc, Result.andThen_ok, Sem.run_ite, List.all_cons]
      cases hqk : q k with
      | true =>
        simp only [Bool.not_true, Bool.false_eq_true, if_false, Sem.run_pure, Result.andThen_ok, Bool.true_and]
        exact ih (k + 1) (by omega) w
      | false => simp
  rw [key n 0 (by omega) w]
  simp only [Result.andThen_ok]
  cases (List.range' 0 n).all q <;> rfl

/-- f decides '==' of a type's values, at a depth of D. -/
def EqOk (P : Program) (ρ : Ren) (D : Nat) (t : TypeId) (f : AV → AV → Option Bool) : Prop :=
  ∀ (x y : AV) (u v : Value) (r : Bool), f x y = some r → VRel ρ x u → VRel ρ y v → ∀ w, (Op.equalIn D t u v).run P w = .ok r w

theorem eqFieldsA_ok {P : Program} {tt : TT} (hT : tt.ok P) {ρ : Ren} {D : Nat} {f : TypeId → AV → AV → Option Bool} (hf : ∀ t, EqOk P ρ D t (f t)) :
    ∀ (fs : List (Nat × TypeId × Bool)) (xs ys : List AV) (us vs : Array Value) (r : Bool), eqFieldsA tt f fs xs ys = some r →
    LRel ρ xs us.toList → LRel ρ ys vs.toList → ∀ gs : List Field, gs.map (fun f => (f.offset, f.type, f.name != "_")) = fs → ∀ w, (Op.eqFields D us vs gs).run P w = .ok r w
  | [], xs, ys, us, vs, r, h, _, _ => fun gs hgs w => by
    simp [eqFieldsA] at h; subst h
    have : gs = [] := by simpa using hgs
    subst this
    simp [Op.eqFields]
  | (o, t, true) :: fs, xs, ys, us, vs, r, h, hu, hv => fun gs hgs w => by
    cases gs with
    | nil => simp at hgs
    | cons g gs =>
      simp only [List.map_cons, List.cons.injEq, Prod.mk.injEq] at hgs
      obtain ⟨⟨rfl, rfl, hn⟩, hgs⟩ := hgs
      simp only [eqFieldsA] at h
      split at h
      · rename_i a b ha hb
        split at h
        · rename_i q hq
          split at h
          · rename_i q2 hq2
            cases h
            obtain ⟨ua, hua, hra⟩ := partA_ok (P := P) hT ha hu
            obtain ⟨ub, hub, hrb⟩ := partA_ok (P := P) hT hb hv
            have h1 := hf g.type a b ua ub q hq hra hrb
            have h2 := eqFieldsA_ok hT hf fs xs ys us vs q2 hq2 hu hv gs hgs
            have hn' : g.name ≠ "_" := by simpa using hn
            simp only [Op.eqFields, if_pos hn', Sem.run_bind, hua, hub, h1, Result.andThen_ok, Sem.run_ite]
            cases q
            · simp
            · simp [h2]
          · cases h
        · cases h
      · cases h
  | (o, t, false) :: fs, xs, ys, us, vs, r, h, hu, hv => fun gs hgs w => by
    cases gs with
    | nil => simp at hgs
    | cons g gs =>
      simp only [List.map_cons, List.cons.injEq, Prod.mk.injEq] at hgs
      obtain ⟨⟨rfl, rfl, hn⟩, hgs⟩ := hgs
      simp only [eqFieldsA] at h
      have hn' : ¬ g.name ≠ "_" := by simpa using hn
      simp only [Op.eqFields, if_neg hn']
      exact eqFieldsA_ok hT hf fs xs ys us vs r h hu hv gs hgs w

theorem eqElemsA_ok {P : Program} {tt : TT} (hT : tt.ok P) {ρ : Ren} {D : Nat} {f : AV → AV → Option Bool} {e : TypeId} (hf : EqOk P ρ D e f) {s : Nat} :
    ∀ (n k : Nat) (xs ys : List AV) (us vs : Array Value) (r : Bool), eqElemsA tt f e s n k xs ys = some r →
    LRel ρ xs us.toList → LRel ρ ys vs.toList → ∃ q : Nat → Bool, (∀ i, k ≤ i → i < k + n → ∃ a b, (∀ w, (part e us (i * s)).run P w = .ok a w) ∧ (∀ w, (part e vs (i * s)).run P w = .ok b w) ∧
      ∀ w, (Op.equalIn D e a b).run P w = .ok (q i) w) ∧ (List.range' k n).all q = r
  | 0, k, xs, ys, us, vs, r, h, _, _ => by
    simp [eqElemsA] at h; subst h
    exact ⟨fun _ => true, fun i h1 h2 => by omega, rfl⟩
  | n + 1, k, xs, ys, us, vs, r, h, hu, hv => by
    simp only [eqElemsA] at h
    split at h
    · rename_i a b ha hb
      split at h
      · rename_i q hq
        split at h
        · rename_i q2 hq2
          cases h
          obtain ⟨ua, hua, hra⟩ := partA_ok (P := P) hT ha hu
          obtain ⟨ub, hub, hrb⟩ := partA_ok (P := P) hT hb hv
          have h1 := hf a b ua ub q hq hra hrb
          obtain ⟨p, hp, hpr⟩ := eqElemsA_ok hT hf n (k + 1) xs ys us vs q2 hq2 hu hv
          refine ⟨fun i => if i = k then q else p i, fun i h1' h2' => ?_, ?_⟩
          · by_cases hik : i = k
            · subst hik; exact ⟨ua, ub, hua, hub, fun w => by simpa using h1 w⟩
            · obtain ⟨a', b', h3, h4, h5⟩ := hp i (by omega) (by omega)
              exact ⟨a', b', h3, h4, fun w => by simpa [hik] using h5 w⟩
          · rw [List.range'_succ, List.all_cons, if_pos rfl, ← hpr]
            congr 1
            apply Bool.eq_iff_iff.2
            simp only [List.all_eq_true, List.mem_range'_1]
            constructor
            · intro hh x hx; have := hh x hx; rwa [if_neg (by omega)] at this
            · intro hh x hx; rw [if_neg (by omega)]; exact hh x hx
        · cases h
      · cases h
    · cases h

theorem eqA_ok {P : Program} {tt : TT} (hT : tt.ok P) {ρ : Ren} : ∀ (d : Nat) (t : TypeId) (D : Nat), d ≤ D → EqOk P ρ D t (eqA tt d t)
  | 0, _, _, _ => fun _ _ _ _ _ h => by simp [eqA] at h
  | d + 1, t, D, hD => fun x y u v r h hu hv w => by
    obtain ⟨D, rfl⟩ : ∃ k, D = k + 1 := ⟨D - 1, by omega⟩
    simp only [eqA] at h
    split at h
    · rename_i ti hti
      split at h
      · rename_i fs hfs
        split at h
        · rename_i xs ys hxs hys
          obtain ⟨us, rfl, hus⟩ := aggOf_spec hxs hu
          obtain ⟨vs, rfl, hvs⟩ := aggOf_spec hys hv
          obtain ⟨dd, _, hund, hmk⟩ := run_under (P := P) hT hti w
          obtain ⟨gs, rfl, hgs, hheld⟩ := mkTD_struct (hmk.trans hfs)
          have hf : P.underlying t = some (.struct (P.fieldsOf t)) := by simp [Program.fieldsOf, hund]
          rw [run_equalIn_struct w D t us vs hf hheld]
          have hg : (P.fieldsOf t) = gs := by simp [Program.fieldsOf, hund]
          rw [hg]
          exact eqFieldsA_ok hT (fun t => eqA_ok hT d t D (by omega)) fs xs ys us vs r h hus hvs gs.toList hgs w
        · cases h
      · rename_i n e hne
        split at h
        · rename_i xs ys te hxs hys hte
          obtain ⟨us, rfl, hus⟩ := aggOf_spec hxs hu
          obtain ⟨vs, rfl, hvs⟩ := aggOf_spec hys hv
          obtain ⟨dd, _, hund, hmk⟩ := run_under (P := P) hT hti w
          obtain rfl := mkTD_array (hmk.trans hne)
          obtain ⟨q, hq, hr⟩ := eqElemsA_ok hT (eqA_ok hT d e D (by omega)) n 0 xs ys us vs r h hus hvs
          rw [run_equalIn_array w D t e n us vs hund (fun w => run_sizeOf hT hte w) q (fun i hi => by simpa using hq i (by omega) (by omega)), hr]
        · cases h
      · exact eqScalar_ok hT hti h hu hv D w
    · cases h
end Go.Proofs.YtpbdlibgbkhlhaaGreat.SE
