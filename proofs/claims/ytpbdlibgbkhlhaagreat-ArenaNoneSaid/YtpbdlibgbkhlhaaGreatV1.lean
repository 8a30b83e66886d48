/- Operations on values of which not all is known: what each needs is asked, what it yields is handed on. -/
import Derived.Test.YtpbdlibgbkhlhaaGreatE20
namespace Go.Proofs.YtpbdlibgbkhlhaaGreat.SE
open Go

/-- Both ways of a test. -/
def cP (b : Bool) (x y : Prop) : Prop := match b with
  | true => x
  | false => y
theorem cP_intro {b : Bool} {x y : Prop} (h1 : b = true → x) (h2 : b = false → y) : cP b x y := by
  cases b with
  | true => exact h1 rfl
  | false => exact h2 rfl
theorem cP_elim {b : Bool} {x y : Prop} (h : cP b x y) : (b = true ∧ x) ∨ (b = false ∧ y) := by cases b <;> simp_all [cP]

/-! ### A cell of a row -/
theorem row_at {m n k j : Nat} (hk : k < n) (hj : j < m) : k * m + j < n * m ∧ (k * m + j) / m = k ∧ (k * m + j) % m = j := by
  have hm : 0 < m := by omega
  refine ⟨?_, ?_, ?_⟩
  · have : (k + 1) * m ≤ n * m := Nat.mul_le_mul_right _ hk
    rw [Nat.add_mul] at this; omega
  · rw [Nat.mul_comm, Nat.mul_add_div hm, Nat.div_eq_of_lt hj]; omega
  · rw [Nat.mul_comm, Nat.mul_add_mod, Nat.mod_eq_of_lt hj]
theorem row_get {m n k j : Nat} {g : Nat → List Value} {wr : List (Nat × List Value)} {v : Value} (hk : k < n) (hj : j < m) (hv : (Cs.eff g wr k)[j]? = some v) : (Cs.row m n g wr).get (k * m + j) = some (.lit v) := by
  obtain ⟨h1, h2, h3⟩ := row_at hk hj
  have : Nat.blt (k * m + j) (n * m) = true := nblt_iff.2 h1
  simp only [Cs.get, this, cond_true, h2, h3, hv]
theorem getN_row {h : Heap} {i : Nat} {ob : AObj} {m n k : Nat} {g : Nat → List Value} {wr : List (Nat × List Value)} (hi : h.get i = some ob) (hc : ob.conts = some (.row m n g wr)) (hk : k < n) :
    ∀ (vs : List Value) (j : Nat), j + vs.length ≤ m → (∀ q, q < vs.length → (Cs.eff g wr k)[j + q]? = vs[q]?) → getN h i (k * m + j) vs.length = some (vs.map .lit)
  | [], j, _, _ => rfl
  | v :: vs, j, hm, hv => by
    simp only [List.length_cons] at hm
    have h0 := hv 0 (by simp)
    simp only [Nat.add_zero, List.getElem?_cons_zero] at h0
    have hcell : cellAt h i (k * m + j) = some (.lit v) := by simp only [cellAt, hi, hc]; exact row_get hk (by omega) h0
    have ih := getN_row hi hc hk vs (j + 1) (by omega) (fun q hq => by
      have := hv (q + 1) (by simpa using hq)
      rw [List.getElem?_cons_succ] at this
      rw [← this]; congr 1; omega)
    rw [show k * m + (j + 1) = k * m + j + 1 by omega] at ih
    simp [getN, hcell, ih]

/-- The element k of a row, as far as it is known: each place that was written is asked. -/
def vElem (g : Nat → List Value) (wr : List (Nat × List Value)) (k : Nat) (Q : List Value → Prop) : Prop := match wr with
  | [] => Q (g k)
  | (q, c) :: r => cP (Nat.beq k q) (Q c) (vElem g r k Q)
theorem vElem_ok {g : Nat → List Value} {k : Nat} {Q : List Value → Prop} : ∀ {wr : List (Nat × List Value)}, vElem g wr k Q → Q (Cs.eff g wr k)
  | [], h => h
  | (q, c) :: r, h => by
    simp only [vElem] at h
    simp only [Cs.eff]
    rcases cP_elim h with ⟨hb, h⟩ | ⟨hb, h⟩
    · rw [hb]; exact h
    · rw [hb]; exact vElem_ok h

/-! ### Loads and stores -/
/-- A variable of a type at a place of an element. -/
def vLoadRow (ti : TI) (m n : Nat) (g : Nat → List Value) (wr : List (Nat × List Value)) (k j : Nat) (Q : AV → Prop) : Prop :=
  bif Nat.ble (j + ti.size) m then (k < n ∧ vElem g wr k fun l => bif ti.agg then (bif Nat.ble (j + ti.size) l.length then Q (.agg (((l.drop j).take ti.size).map .lit)) else False) else (match l[j]? with
    | some v => bif Nat.beq ti.size 1 then Q (.lit v) else False
    | none => False)) else False
def vLoad (tt : TT) (t : TypeId) (a : AV) (h : Heap) (Q : AV → Prop) : Prop :=
  match a with
  | .ptrE i k m j => match tt t, h.get i with
    | some ti, some ob => match ob.conts with
      | some (.row m' n g wr) => bif Nat.beq m m' then vLoadRow ti m n g wr k j Q else False
      | _ => False
    | _, _ => False
  | a => match loadA tt t a h with
    | some v => Q v
    | none => False
theorem vLoad_ok {P : Program} {tt : TT} (hT : tt.ok P) {h : Heap} {ρ : Ren} {T : Nat → Prop} {w : World} (hR : Rel h ρ T w) {t : TypeId} {a : AV} {u : Value} {Q : AV → Prop}
    (hl : vLoad tt t a h Q) (hu : VRel ρ a u) : ∃ v, ROk P (Instr.loadAt t u) ρ w v ∧ Q v := by
  unfold vLoad at hl
  split at hl
  · rename_i i k m j
    split at hl
    · rename_i ti ob hti hi
      split at hl
      · rename_i m' n g wr hc
        cases hb : Nat.beq m m' with
        | false => rw [hb] at hl; exact hl.elim
        | true =>
          rw [hb] at hl; simp only [cond_true] at hl
          have := Nat.eq_of_beq_eq_true hb; subst this
          unfold vLoadRow at hl
          cases hs : Nat.ble (j + ti.size) m with
          | false => rw [hs] at hl; exact hl.elim
          | true =>
            rw [hs] at hl; simp only [cond_true] at hl
            have hs' : j + ti.size ≤ m := by simpa using hs
            obtain ⟨hk, hl⟩ := hl
            have hl := vElem_ok hl
            have hu' : VRel ρ (.ptr i (k * m + j)) u := by simpa only [VRel] using hu
            cases hagg : ti.agg with
            | true =>
              rw [hagg] at hl; simp only [cond_true] at hl
              cases hle : Nat.ble (j + ti.size) (Cs.eff g wr k).length with
              | false => rw [hle] at hl; exact hl.elim
              | true =>
                rw [hle] at hl; simp only [cond_true] at hl
                have hle' : j + ti.size ≤ (Cs.eff g wr k).length := by simpa using hle
                have hlen : (((Cs.eff g wr k).drop j).take ti.size).length = ti.size := by simp; omega
                have hg := getN_row hi hc hk (((Cs.eff g wr k).drop j).take ti.size) j (by omega) (fun q hq => by
                  rw [hlen] at hq; rw [List.getElem?_take, if_pos hq, List.getElem?_drop])
                rw [hlen] at hg
                exact ⟨_, loadA_ok hT hR (a := .ptr i (k * m + j)) (by simp [loadA, hti, hagg, hg]) hu', hl⟩
            | false =>
              rw [hagg] at hl; simp only [cond_false] at hl
              split at hl
              · rename_i v hv
                cases h1 : Nat.beq ti.size 1 with
                | false => rw [h1] at hl; exact hl.elim
                | true =>
                  rw [h1] at hl; simp only [cond_true] at hl
                  have h1' := Nat.eq_of_beq_eq_true h1
                  have hcell : cellAt h i (k * m + j) = some (.lit v) := by simp only [cellAt, hi, hc]; exact row_get hk (by omega) hv
                  exact ⟨_, loadA_ok hT hR (a := .ptr i (k * m + j)) (by simp [loadA, hti, hagg, hcell]) hu', hl⟩
              · exact hl.elim
      · exact hl.elim
    · exact hl.elim
  · split at hl
    · rename_i v hv
      exact ⟨v, loadA_ok hT hR hv hu, hl⟩
    · exact hl.elim

/-- An object with other contents. -/
def withC (x : AObj) (c : Cs) : AObj := match x with
  | .cells e _ => .cells e c
  | .room e _ => .room e c
  | x => x

theorem run_storeCells_row {P : Program} {h : Heap} {ρ : Ren} {T : Nat → Prop} {w : World} (hR : Rel h ρ T w) {i m n k j : Nat} {ob : AObj} {g : Nat → List Value} {wr : List (Nat × List Value)} {a : Loc} {cs : List Value}
    (hi : h.get i = some ob) (hrow : isOwnRow ob = true) (hc : ob.conts = some (.row m n g wr)) (ha : ρ i = some a) (hk : k < n) (hj : j + cs.length ≤ m) (hle : j + cs.length ≤ (Cs.eff g wr k).length) (h1 : ∀ u ∈ cs, u.oneCell' = true) :
    ∃ w', (storeCells ⟨a.blk, a.base + (k * m + j), none⟩ cs).run P w = .ok () w' ∧ Rel (h.set i (withC ob (.row m n g ((k, Cs.spliceV j cs (Cs.eff g wr k)) :: wr)))) ρ T w' ∧ Keeps T w w' := by
  have hKM : k * m + m ≤ n * m := by
    have : (k + 1) * m ≤ n * m := Nat.mul_le_mul_right _ hk
    rw [Nat.add_mul] at this; omega
  have key : ∀ (arr arr' : Array Value), CRel ρ (.row m n g wr) arr 0 → n * m ≤ arr.size → arr'.size = arr.size →
      (∀ q, arr'[q]? = if k * m + j ≤ q ∧ q < k * m + j + cs.length then cs[q - (k * m + j)]? else arr[q]?) → CRel ρ (.row m n g ((k, Cs.spliceV j cs (Cs.eff g wr k)) :: wr)) arr' 0 := by
    intro arr arr' hcr hsz hsz' hget q v hv
    have hlt := Cs.get_lt hv
    simp only [Cs.size] at hlt
    simp only [Cs.get, nblt_iff.2 hlt, cond_true] at hv
    have hm : 0 < m := by
      rcases Nat.eq_zero_or_pos m with h0 | h0
      · subst h0; simp at hlt
      · exact h0
    have hqm := Nat.div_add_mod' q m
    have hqlt := Nat.mod_lt q hm
    rw [Nat.zero_add, hget]
    have old : ∀ x, (Cs.eff g wr (q / m))[q % m]? = some x → ∃ u, arr[q]? = some u ∧ VRel ρ (.lit x) u := fun x hx => by
      have : (Cs.row m n g wr).get q = some (.lit x) := by simp only [Cs.get, nblt_iff.2 hlt, cond_true, hx]
      obtain ⟨u, hu, hr⟩ := hcr q _ this
      exact ⟨u, by simpa using hu, hr⟩
    have hsp : ∀ p, (Cs.spliceV j cs (Cs.eff g wr k))[p]? = if j ≤ p ∧ p < j + cs.length then cs[p - j]? else (Cs.eff g wr k)[p]? := fun p => Cs.splice_get j cs _ hle p
    by_cases hqk : q / m = k
    · rw [hqk] at hv
      simp only [Cs.eff, Nat.beq_refl, cond_true, hsp] at hv
      by_cases hin : j ≤ q % m ∧ q % m < j + cs.length
      · rw [if_pos hin] at hv
        rw [hqk] at hqm
        rw [if_pos (by omega), show q - (k * m + j) = q % m - j by omega]
        split at hv
        · rename_i x hx; cases hv; exact ⟨x, hx, by simp [VRel]⟩
        · rename_i hx
          rw [List.getElem?_eq_none_iff] at hx
          omega
      · rw [if_neg hin] at hv
        rw [hqk] at hqm
        rw [if_neg fun hh => hin ⟨by omega, by omega⟩]
        split at hv
        · rename_i x hx; cases hv; exact old x (by rw [hqk]; exact hx)
        · cases hv; exact ⟨arr[q], Array.getElem?_eq_getElem (by omega), by simp [VRel]⟩
    · simp only [Cs.eff, nbeq_ne hqk, cond_false] at hv
      have hne : ¬ (k * m + j ≤ q ∧ q < k * m + j + cs.length) := fun hh => by
        apply hqk
        exact Nat.div_eq_of_lt_le (by omega) (by rw [Nat.add_mul]; omega)
      rw [if_neg hne]
      split at hv
      · rename_i x hx; cases hv; exact old x hx
      · cases hv; exact ⟨arr[q], Array.getElem?_eq_getElem (by omega), by simp [VRel]⟩
  obtain ⟨S, r1, _⟩ := id hR
  obtain ⟨a', ha', ho⟩ := r1 i _ hi
  obtain rfl : a' = a := Option.some.inj (ha'.symm.trans ha)
  have main : ∀ (e : TypeId) (arr : Array Value), a'.base = 0 → w.heap[a'.blk]? = some (.cells arr e (0, 0)) → n * m ≤ arr.size → CRel ρ (.row m n g wr) arr 0 → (∀ S, OHolds ρ w T a' S ob → S a'.blk) →
      (∀ S (w' : World) arr', S a'.blk → OHolds ρ w T a' S ob → w'.heap[a'.blk]? = some (.cells arr' e (0, 0)) → arr'.size = arr.size → CRel ρ (.row m n g ((k, Cs.spliceV j cs (Cs.eff g wr k)) :: wr)) arr' 0 →
        OHolds ρ w' T a' S (withC ob (.row m n g ((k, Cs.spliceV j cs (Cs.eff g wr k)) :: wr)))) →
      ∃ w', (storeCells ⟨a'.blk, a'.base + (k * m + j), none⟩ cs).run P w = .ok () w' ∧ Rel (h.set i (withC ob (.row m n g ((k, Cs.spliceV j cs (Cs.eff g wr k)) :: wr)))) ρ T w' ∧ Keeps T w w' := by
    intro e arr h0 hb hsz hcr hown hnew
    obtain ⟨w', arr', hrun, hb', hsz', hw, hne, ho1, ho2, ho3, hget⟩ := run_storeCells (P := P) a'.blk cs (a'.base + (k * m + j)) 0 w arr hb h1 (by omega)
    have hget' : ∀ q, arr'[q]? = if k * m + j ≤ q ∧ q < k * m + j + cs.length then cs[q - (k * m + j)]? else arr[q]? := fun q => by
      rw [hget]; simp only [h0, Nat.zero_add, Nat.add_zero]
    refine ⟨w', hrun, hR.upd hi ha hw hne hown fun S hS hx => hnew S w' arr' hS hx hb' hsz' (key arr arr' hcr hsz hsz' hget'), ⟨by omega, ho1, ho2, ho3, fun b hb2 => hne b fun hbb => hb2 ?_⟩⟩
    subst hbb
    exact hR.own_T hi ha hown
  cases ob with
  | cells e c =>
    simp only [AObj.conts, Option.some.injEq] at hc; subst hc
    obtain ⟨h0, hS, arr, hb, hsz, hlim, hcr⟩ := ho
    refine main e arr h0 hb (by simp only [Cs.size] at hsz; omega) hcr (fun S' h => h.2.1) fun S' w' arr' hS' hx hb' hsz' hc' => ?_
    exact ⟨h0, hS', arr', hb', by rw [hsz', hsz]; rfl, by rw [hlim]; rfl, hc'⟩
  | room e c =>
    simp only [AObj.conts, Option.some.injEq] at hc; subst hc
    obtain ⟨h0, hS, arr, hb, hsz, hle', hcr⟩ := ho
    refine main e arr h0 hb (by simp only [Cs.size] at hle'; omega) hcr (fun S' h => h.2.1) fun S' w' arr' hS' hx hb' hsz' hc' => ?_
    exact ⟨h0, hS', arr', hb', by omega, hle', hc'⟩
  | _ => simp [isOwnRow] at hrow

def vStore (tt : TT) (t : TypeId) (a v : AV) (h : Heap) (Q : Heap → Prop) : Prop :=
  match a with
  | .ptrE i k m j => match tt t, h.get i, acells v with
    | some ti, some ob, some cs => match ob.conts, litsOf cs with
      | some (.row m' n g wr), some vs => bif Nat.beq m m' && isOwnRow ob && Nat.beq vs.length ti.size && Nat.ble (j + vs.length) m && vs.all Value.oneCell' then (k < n ∧ vElem g wr k fun l =>
          bif Nat.ble (j + vs.length) l.length then Q (h.set i (withC ob (.row m n g ((k, Cs.spliceV j vs l) :: wr)))) else False) else False
      | _, _ => False
    | _, _, _ => False
  | a => match storeA tt t a v h with
    | some h' => Q h'
    | none => False
theorem vStore_ok {P : Program} {tt : TT} (hT : tt.ok P) {h : Heap} {ρ : Ren} {T : Nat → Prop} {w : World} (hR : Rel h ρ T w) {t : TypeId} {a v : AV} {u x : Value} {Q : Heap → Prop}
    (hl : vStore tt t a v h Q) (hu : VRel ρ a u) (hx : VRel ρ v x) : ∃ w' h', (Instr.storeAt t u x).run P w = .ok () w' ∧ Rel h' ρ T w' ∧ h'.next = h.next ∧ Keeps T w w' ∧ Q h' := by
  unfold vStore at hl
  split at hl
  · rename_i i k m j
    split at hl
    · rename_i ti ob cs hti hi hcs
      split at hl
      · rename_i m' n g wr vs hc hvs
        cases hb : (Nat.beq m m' && isOwnRow ob && Nat.beq vs.length ti.size && Nat.ble (j + vs.length) m && vs.all Value.oneCell') with
        | false => rw [hb] at hl; exact hl.elim
        | true =>
          rw [hb] at hl; simp only [cond_true] at hl
          simp only [Bool.and_eq_true, List.all_eq_true, Nat.ble_eq] at hb
          obtain ⟨⟨⟨⟨hm, hrow⟩, hsz⟩, hjm⟩, h1⟩ := hb
          have := Nat.eq_of_beq_eq_true hm; subst this
          have hsz := Nat.eq_of_beq_eq_true hsz
          obtain ⟨hk, hl⟩ := hl
          have hl := vElem_ok hl
          cases hle : Nat.ble (j + vs.length) (Cs.eff g wr k).length with
          | false => rw [hle] at hl; exact hl.elim
          | true =>
            rw [hle] at hl; simp only [cond_true] at hl
            have hle' : j + vs.length ≤ (Cs.eff g wr k).length := by simpa using hle
            simp only [VRel] at hu
            obtain ⟨a, ha, rfl⟩ := hu
            have hlr := acells_spec hcs hx
            have hcl := litsOf_spec hvs
            subst hcl
            have hxv : x.cells.toList = vs := by
              have : ∀ (l : List Value) (r : List Value), LRel ρ (l.map .lit) r → r = l := by
                intro l
                induction l with
                | nil => intro r hr; simpa [LRel] using hr
                | cons y l ih => intro r hr; simp only [List.map_cons, LRel, VRel] at hr; obtain ⟨z, zs, rfl, rfl, hr⟩ := hr; rw [ih zs hr]
              exact this _ _ hlr
            obtain ⟨w', hrun, hR', hk'⟩ := run_storeCells_row (P := P) hR hi hrow hc ha hk hjm hle' h1
            refine ⟨w', _, ?_, hR', by simp, hk', hl⟩
            have hsz2 : x.cells.size = ti.size := by rw [← Array.length_toList, hxv, hsz]
            simp only [Instr.storeAt, Instr.sureAddr, Sem.run_bind, Sem.run_pure, Result.andThen_ok, storeVar, run_sizeOf hT hti]
            rw [if_neg (by simpa using hsz2)]
            simp only [hxv]
            exact hrun
      · exact hl.elim
    · exact hl.elim
  · split at hl
    · rename_i h2 hs
      obtain ⟨w', h1, h3, h4, h5⟩ := storeA_ok (P := P) hT hR hs hu hx
      exact ⟨w', h2, h1, h3, h4, h5, hl⟩
    · exact hl.elim
end Go.Proofs.YtpbdlibgbkhlhaaGreat.SE
