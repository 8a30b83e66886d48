/- Slices, lengths, aggregates, function values: operations that look at no memory. -/
import Derived.Test.YtpbdlibgbkhlhaaGreatE5
namespace Go.Proofs.YtpbdlibgbkhlhaaGreat.SE
open Go

/-! ### Slice expressions -/
def bnd (x : Option AV) (d lim : Nat) : Option Nat :=
  match x with
  | none => some d
  | some (.lit (.int _ k)) => if 0 ≤ k ∧ k ≤ (lim : Int) then some k.toNat else none
  | some _ => none

def ORel (ρ : Ren) : Option AV → Option Value → Prop
  | none, v => v = none
  | some a, v => ∃ u, v = some u ∧ VRel ρ a u

theorem bnd_some {P : Program} {ρ : Ren} {a : AV} {u : Value} {d lim k : Nat} {c : BoundsCode} (h : bnd (some a) d lim = some k) (hu : VRel ρ a u) (w : World) :
    (Instr.sliceBound u lim c).run P w = .ok k w := by
  unfold bnd at h
  split at h
  · rename_i hn; cases hn
  · rename_i kk i ha
    cases ha
    simp only [VRel] at hu; subst hu
    split at h
    · rename_i hk
      cases h
      simp [Instr.sliceBound, asIntOf, hk]
    · cases h
  · cases h

/-- The three bounds: low, high, max. -/
def bnds (n c : Nat) (lo hi mx : Option AV) : Option (Nat × Nat × Nat) :=
  match bnd mx c c with
  | some m => match hi, mx with
    | none, some _ => none
    | _, _ => match bnd hi n m with
      | some h => match bnd lo 0 h with
        | some l => some (l, h, m)
        | none => none
      | none => none
  | none => none

theorem bnds_ok {P : Program} {ρ : Ren} {b : Bool} {n c : Nat} {lo hi mx : Option AV} {vl vh vm : Option Value} {r : Nat × Nat × Nat} (h : bnds n c lo hi mx = some r)
    (hl : ORel ρ lo vl) (hh : ORel ρ hi vh) (hm : ORel ρ mx vm) (w : World) : (Instr.sliceBounds b n c vl vh vm).run P w = .ok r w := by
  unfold bnds at h
  split at h
  · rename_i m hmx
    split at h
    · cases h
    · rename_i hne
      split at h
      · rename_i hv hhv
        split at h
        · rename_i l hl'
          cases h
          unfold Instr.sliceBounds
          cases mx with
          | none =>
            simp only [ORel] at hm; subst hm
            simp only [bnd, Option.some.injEq] at hmx; subst hmx
            cases hi with
            | none =>
              simp only [ORel] at hh; subst hh
              simp only [bnd, Option.some.injEq] at hhv; subst hhv
              cases lo with
              | none => simp only [ORel] at hl; subst hl; simp only [bnd, Option.some.injEq] at hl'; subst hl'; rfl
              | some x => simp only [ORel] at hl; obtain ⟨u, rfl, hu⟩ := hl; simp [bnd_some (P := P) hl' hu]
            | some y =>
              simp only [ORel] at hh; obtain ⟨uy, rfl, huy⟩ := hh
              cases lo with
              | none => simp only [ORel] at hl; subst hl; simp only [bnd, Option.some.injEq] at hl'; subst hl'; simp [bnd_some (P := P) hhv huy]
              | some x => simp only [ORel] at hl; obtain ⟨u, rfl, hu⟩ := hl; simp [bnd_some (P := P) hl' hu, bnd_some (P := P) hhv huy]
          | some z =>
            simp only [ORel] at hm; obtain ⟨uz, rfl, huz⟩ := hm
            cases hi with
            | none => exact (hne _ rfl rfl).elim
            | some y =>
              simp only [ORel] at hh; obtain ⟨uy, rfl, huy⟩ := hh
              cases lo with
              | none => simp only [ORel] at hl; subst hl; simp only [bnd, Option.some.injEq] at hl'; subst hl'; simp [bnd_some (P := P) hhv huy, bnd_some (P := P) hmx huz]
              | some x => simp only [ORel] at hl; obtain ⟨u, rfl, hu⟩ := hl; simp [bnd_some (P := P) hl' hu, bnd_some (P := P) hhv huy, bnd_some (P := P) hmx huz]
        · cases h
      · cases h
  · cases h

theorem bnd_lt {x : Option AV} {d lim k : Nat} (h : bnd x d lim = some k) : x = none ∧ k = d ∨ k ≤ lim := by
  unfold bnd at h
  split at h
  · cases h; exact .inl ⟨rfl, rfl⟩
  · split at h
    · rename_i hk; cases h; exact .inr (by omega)
    · cases h
  · cases h
theorem bnds_le {n : Nat} {lo hi : Option AV} {l h m : Nat} (hb : bnds n n lo hi none = some (l, h, m)) : l ≤ h ∧ h ≤ n := by
  unfold bnds at hb
  split at hb
  · rename_i m' hm
    have hm' : m' = n := by simpa [bnd] using hm.symm
    subst hm'
    split at hb
    · cases hb
    · split at hb
      · rename_i h' hh
        split at hb
        · rename_i l' hl
          cases hb
          have h1 := bnd_lt hh
          have h2 := bnd_lt hl
          omega
        · cases hb
      · cases hb
  · cases hb
theorem bnd_cap {x : Option AV} {d lim lim' k : Nat} (h : bnd x d lim = some k) (hl : lim ≤ lim') : bnd x d lim' = some k := by
  unfold bnd at h ⊢
  split at h
  · exact h
  · split at h
    · rename_i hk; cases h; rw [if_pos (by omega)]
    · cases h
  · cases h
theorem bnds_none (n c : Nat) (lo hi : Option AV) : bnds n c lo hi none = match bnd hi n c with
    | some h => (match bnd lo 0 h with | some l => some (l, h, c) | none => none)
    | none => none := by
  cases hi <;> rfl
theorem bnds_cap {n c : Nat} {lo hi : Option AV} {l h m : Nat} (hb : bnds n n lo hi none = some (l, h, m)) (hc : n ≤ c) : bnds n c lo hi none = some (l, h, c) := by
  rw [bnds_none] at hb ⊢
  cases hh : bnd hi n n with
  | none => rw [hh] at hb; cases hb
  | some h' =>
    rw [hh] at hb
    rw [bnd_cap hh hc]
    cases hl : bnd lo 0 h' with
    | none => simp only [hl] at hb; cases hb
    | some l' => simp only [hl] at hb; cases hb; simp only [hl]

def sliceN (tt : TT) (t : TypeId) (x : AV) (lo hi mx : Option AV) : Option AV :=
  match tt t with
  | some ti => match ti.desc, x with
    | .string, .lit (.string s) => match mx with
      | none => match bnds s.size s.size lo hi none with
        | some (l, h, _) => some (.lit (.string (s.extract l h)))
        | none => none
      | some _ => none
    | .slice e, .sl i o n c => match tt e with
      | some te => match bnds n c lo hi mx with
        | some (l, h, m) => some (.sl i (if m = l then o else o + l * te.size) (h - l) (m - l))
        | none => none
      | none => none
    | .slice e, .slU i o n sz => match tt e, mx with
      | some te, none => match bnds n n lo hi none with
        | some (l, h, _) => if (l < n ∨ l = 0) ∧ sz = te.size then some (.slU i (o + l * te.size) (h - l) sz) else none
        | none => none
      | _, _ => none
    | .slice e, .lit (.slice none n c) => match tt e with
      | some _ => match bnds n c lo hi mx with
        | some (l, h, m) => some (.lit (.slice none (h - l) (m - l)))
        | none => none
      | none => none
    | .array n e, .ptr i o => match tt e with
      | some te => match bnds n n lo hi mx with
        | some (l, h, m) => some (.sl i (if m = l then o else o + l * te.size) (h - l) (m - l))
        | none => none
      | none => none
    | _, _ => none
  | none => none

theorem sliceN_ok {P : Program} {tt : TT} (hT : tt.ok P) {ρ : Ren} {t : TypeId} {x r : AV} {u : Value} {lo hi mx : Option AV} {vl vh vm : Option Value} (h : sliceN tt t x lo hi mx = some r)
    (hu : VRel ρ x u) (hl : ORel ρ lo vl) (hh : ORel ρ hi vh) (hm : ORel ρ mx vm) : NOk P (Instr.sliceAt t u vl vh vm) ρ r := by
  unfold sliceN at h
  split at h
  · rename_i ti hti
    split at h
    · rename_i s hd
      split at h
      · split at h
        · rename_i l hh' m hb
          cases h; simp only [VRel] at hu; subst hu; simp only [ORel] at hm; subst hm
          refine ⟨.string (s.extract l hh'), fun w => ?_, by simp only [VRel]⟩
          obtain ⟨d1, r1, _, m1⟩ := run_under (P := P) hT hti w
          rw [mkTD_string (m1.trans hd)] at r1
          have hb' := bnds_ok (P := P) (b := false) (vm := none) hb hl hh (by simp [ORel]) w
          simp [Instr.sliceAt, Instr.slice, r1, hb']
        · cases h
      · cases h
    · rename_i e i o n c hd
      split at h
      · rename_i te hte
        split at h
        · rename_i l hh' m hb
          cases h; simp only [VRel] at hu; obtain ⟨a, ha, rfl⟩ := hu
          refine ⟨.slice (if m = l then some ⟨a.blk, a.base + o, none⟩ else some ⟨a.blk, a.base + o + l * te.size, none⟩) (hh' - l) (m - l), fun w => ?_, ?_⟩
          · obtain ⟨d1, r1, _, m1⟩ := run_under (P := P) hT hti w
            rw [mkTD_slice (m1.trans hd)] at r1
            have hb' := bnds_ok (P := P) (b := true) hb hl hh hm w
            simp [Instr.sliceAt, Instr.slice, r1, hb', run_sizeOf hT hte, add_zero_spot]
          · simp only [VRel]
            refine ⟨a, ha, ?_⟩
            split <;> simp [Nat.add_assoc]
        · cases h
      · cases h
    · rename_i e i o n sz hd
      split at h
      · rename_i te hte
        split at h
        · rename_i l hh' m hb
          split at h
          · rename_i hc
            obtain ⟨hc, rfl⟩ := hc
            cases h; simp only [VRel] at hu; obtain ⟨a, c, ha, rfl, hnc, hlim⟩ := hu
            simp only [ORel] at hm; subst hm
            obtain ⟨hb1, hb2⟩ := bnds_le hb
            have hb' : ∀ w, (Instr.sliceBounds true n c vl vh none).run P w = .ok (l, hh', c) w := fun w => bnds_ok (P := P) (b := true) (bnds_cap hb hnc) hl hh (by simp [ORel]) w
            refine ⟨.slice (if c = l then some ⟨a.blk, a.base + o, none⟩ else some ⟨a.blk, a.base + o + l * te.size, none⟩) (hh' - l) (c - l), fun w => ?_, ?_⟩
            · obtain ⟨d1, r1, _, m1⟩ := run_under (P := P) hT hti w
              rw [mkTD_slice (m1.trans hd)] at r1
              simp [Instr.sliceAt, Instr.slice, r1, hb', run_sizeOf hT hte, add_zero_spot]
            · simp only [VRel]
              refine ⟨a, c - l, ha, ?_, by omega, ?_⟩
              · rcases hc with hc | hc
                · rw [if_neg (by omega), Nat.add_assoc]
                · subst hc; simp
              · have : o + l * te.size + (c - l) * te.size = o + c * te.size := by
                  rw [Nat.add_assoc, ← Nat.add_mul]; congr 2; omega
                omega
          · cases h
        · cases h
      · cases h
    · rename_i e n c hd
      split at h
      · rename_i te hte
        split at h
        · rename_i l hh' m hb
          cases h; simp only [VRel] at hu; subst hu
          refine ⟨.slice none (hh' - l) (m - l), fun w => ?_, by simp only [VRel]⟩
          obtain ⟨d1, r1, _, m1⟩ := run_under (P := P) hT hti w
          rw [mkTD_slice (m1.trans hd)] at r1
          have hb' := bnds_ok (P := P) (b := true) hb hl hh hm w
          simp [Instr.sliceAt, Instr.slice, r1, hb', run_sizeOf hT hte]
        · cases h
      · cases h
    · rename_i n e i o hd
      split at h
      · rename_i te hte
        split at h
        · rename_i l hh' m hb
          cases h; simp only [VRel] at hu; obtain ⟨a, ha, rfl⟩ := hu
          refine ⟨.slice (if m = l then some ⟨a.blk, a.base + o, none⟩ else some ⟨a.blk, a.base + o + l * te.size, none⟩) (hh' - l) (m - l), fun w => ?_, ?_⟩
          · obtain ⟨d1, r1, _, m1⟩ := run_under (P := P) hT hti w
            rw [mkTD_array (m1.trans hd)] at r1
            have hb' := bnds_ok (P := P) (b := false) hb hl hh hm w
            simp only [Instr.sliceAt, r1, Sem.run_bind, Result.andThen_ok, Instr.sureAddr, Sem.run_pure, hb', run_sizeOf hT hte, add_zero_spot]
            split <;> rfl
          · simp only [VRel]
            refine ⟨a, ha, ?_⟩
            split <;> simp [Nat.add_assoc]
        · cases h
      · cases h
    · cases h
  · cases h

/-! ### len, cap, min, max -/
def lenN (tt : TT) (t : TypeId) (x : AV) : Option AV :=
  match tt t with
  | some ti => match ti.desc, x with
    | .string, .lit (.string s) => some (.lit (.int .i64 s.size))
    | .slice _, .sl _ _ n _ => some (.lit (.int .i64 n))
    | .slice _, .slU _ _ n _ => some (.lit (.int .i64 n))
    | .slice _, .slE _ _ _ n _ => some (.lit (.int .i64 n))
    | .slice _, .slW _ _ _ n => some (.lit (.int .i64 n))
    | .slice _, .slR _ _ _ n => some (.lit (.int .i64 n))
    | .slice _, .slZ _ _ _ _ n => some (.lit (.int .i64 n))
    | .slice _, .lit (.slice _ n _) => some (.lit (.int .i64 n))
    | .array n _, _ => some (.lit (.int .i64 n))
    | .map _ _, .lit (.map none) => some (.lit (.int .i64 0))
    | .ptr a, _ => match tt a with
      | some ta => match ta.desc with
        | .array n _ => some (.lit (.int .i64 n))
        | _ => none
      | none => none
    | _, _ => none
  | none => none
theorem lenN_ok {P : Program} {tt : TT} (hT : tt.ok P) {ρ : Ren} {t ty : TypeId} {x r : AV} {u : Value} {ts : Array TypeId} {us : Array Value} (h : lenN tt t x = some r) (hu : VRel ρ x u)
    (hts : ts[0]? = some t) (hus : us[0]? = some u) : NOk P (Builtin.len_ ts ty us) ρ r := by
  unfold lenN at h
  split at h
  · rename_i ti hti
    have hr : ∀ w, ∃ d, (underlying t).run P w = .ok d w ∧ P.underlying t = some d ∧ mkTD P t d = ti.desc := fun w => run_under (P := P) hT hti w
    split at h
    · rename_i s hd
      cases h; simp only [VRel] at hu; subst hu
      refine ⟨.int .i64 s.size, fun w => ?_, by simp only [VRel]⟩
      obtain ⟨d1, r1, _, m1⟩ := hr w; rw [mkTD_string (m1.trans hd)] at r1
      simp [Builtin.len_, hts, hus, r1, goInt]
    · rename_i e i o n c hd
      cases h; simp only [VRel] at hu; obtain ⟨a, _, rfl⟩ := hu
      refine ⟨.int .i64 n, fun w => ?_, by simp only [VRel]⟩
      obtain ⟨d1, r1, _, m1⟩ := hr w; rw [mkTD_slice (m1.trans hd)] at r1
      simp [Builtin.len_, hts, hus, r1, goInt]
    · rename_i e i o n c hd
      cases h; simp only [VRel] at hu; obtain ⟨a, _, _, rfl, _⟩ := hu
      refine ⟨.int .i64 n, fun w => ?_, by simp only [VRel]⟩
      obtain ⟨d1, r1, _, m1⟩ := hr w; rw [mkTD_slice (m1.trans hd)] at r1
      simp [Builtin.len_, hts, hus, r1, goInt]
    · rename_i e i k m n c hd
      cases h; simp only [VRel] at hu; obtain ⟨a, _, _, rfl, _⟩ := hu
      refine ⟨.int .i64 n, fun w => ?_, by simp only [VRel]⟩
      obtain ⟨d1, r1, _, m1⟩ := hr w; rw [mkTD_slice (m1.trans hd)] at r1
      simp [Builtin.len_, hts, hus, r1, goInt]
    · rename_i e i k m n hd
      cases h; simp only [VRel] at hu; obtain ⟨a, _, _, _, rfl, _⟩ := hu
      refine ⟨.int .i64 n, fun w => ?_, by simp only [VRel]⟩
      obtain ⟨d1, r1, _, m1⟩ := hr w; rw [mkTD_slice (m1.trans hd)] at r1
      simp [Builtin.len_, hts, hus, r1, goInt]
    · rename_i e i k m n hd
      cases h; simp only [VRel] at hu
      refine ⟨.int .i64 n, fun w => ?_, by simp only [VRel]⟩
      obtain ⟨d1, r1, _, m1⟩ := hr w; rw [mkTD_slice (m1.trans hd)] at r1
      rcases hu with ⟨rfl, rfl⟩ | ⟨a, _, _, _, rfl, _⟩ <;> simp [Builtin.len_, hts, hus, r1, goInt]
    · rename_i e z i k m n hd
      cases h; simp only [VRel] at hu
      refine ⟨.int .i64 n, fun w => ?_, by simp only [VRel]⟩
      obtain ⟨d1, r1, _, m1⟩ := hr w; rw [mkTD_slice (m1.trans hd)] at r1
      rcases hu with ⟨_, rfl, rfl⟩ | ⟨_, a, _, _, _, rfl, _⟩ <;> simp [Builtin.len_, hts, hus, r1, goInt]
    · rename_i e a n c hd
      cases h; simp only [VRel] at hu; subst hu
      refine ⟨.int .i64 n, fun w => ?_, by simp only [VRel]⟩
      obtain ⟨d1, r1, _, m1⟩ := hr w; rw [mkTD_slice (m1.trans hd)] at r1
      simp [Builtin.len_, hts, hus, r1, goInt]
    · rename_i n e hd
      cases h
      refine ⟨.int .i64 n, fun w => ?_, by simp only [VRel]⟩
      obtain ⟨d1, r1, _, m1⟩ := hr w; rw [mkTD_array (m1.trans hd)] at r1
      simp [Builtin.len_, hts, hus, r1, goInt]
    · rename_i k e hd
      cases h; simp only [VRel] at hu; subst hu
      refine ⟨.int .i64 0, fun w => ?_, by simp only [VRel]⟩
      obtain ⟨d1, r1, _, m1⟩ := hr w; rw [mkTD_map (m1.trans hd)] at r1
      simp [Builtin.len_, hts, hus, r1, goInt]
    · rename_i a hd
      split at h
      · rename_i ta hta
        split at h
        · rename_i n e hd2
          cases h
          refine ⟨.int .i64 n, fun w => ?_, by simp only [VRel]⟩
          obtain ⟨d1, r1, _, m1⟩ := hr w; rw [mkTD_ptr (m1.trans hd)] at r1
          obtain ⟨d2, r2, _, m2⟩ := run_under (P := P) hT hta w; rw [mkTD_array (m2.trans hd2)] at r2
          simp [Builtin.len_, hts, hus, r1, r2, goInt]
        · cases h
      · cases h
    · cases h
  · cases h

def capN (tt : TT) (t : TypeId) (x : AV) : Option AV :=
  match tt t with
  | some ti => match ti.desc, x with
    | .slice _, .sl _ _ _ c => some (.lit (.int .i64 c))
    | .slice _, .slE _ _ _ _ c => some (.lit (.int .i64 c))
    | .slice _, .lit (.slice _ _ c) => some (.lit (.int .i64 c))
    | _, _ => none
  | none => none
theorem capN_ok {P : Program} {tt : TT} (hT : tt.ok P) {ρ : Ren} {t ty : TypeId} {x r : AV} {u : Value} {ts : Array TypeId} {us : Array Value} (h : capN tt t x = some r) (hu : VRel ρ x u)
    (hts : ts[0]? = some t) (hus : us[0]? = some u) : NOk P (Builtin.cap_ ts ty us) ρ r := by
  unfold capN at h
  split at h
  · rename_i ti hti
    split at h
    · rename_i e i o n c hd
      cases h; simp only [VRel] at hu; obtain ⟨a, _, rfl⟩ := hu
      refine ⟨.int .i64 c, fun w => ?_, by simp only [VRel]⟩
      obtain ⟨d1, r1, _, m1⟩ := run_under (P := P) hT hti w; rw [mkTD_slice (m1.trans hd)] at r1
      simp [Builtin.cap_, hts, hus, r1, goInt]
    · rename_i e i k m n c hd
      cases h; simp only [VRel] at hu; obtain ⟨a, _, _, rfl, _⟩ := hu
      refine ⟨.int .i64 c, fun w => ?_, by simp only [VRel]⟩
      obtain ⟨d1, r1, _, m1⟩ := run_under (P := P) hT hti w; rw [mkTD_slice (m1.trans hd)] at r1
      simp [Builtin.cap_, hts, hus, r1, goInt]
    · rename_i e a n c hd
      cases h; simp only [VRel] at hu; subst hu
      refine ⟨.int .i64 c, fun w => ?_, by simp only [VRel]⟩
      obtain ⟨d1, r1, _, m1⟩ := run_under (P := P) hT hti w; rw [mkTD_slice (m1.trans hd)] at r1
      simp [Builtin.cap_, hts, hus, r1, goInt]
    · cases h
  · cases h

/-- min and max of integers. -/
def foldI (f : Int → Int → Int) : AV → List AV → Option AV
  | .lit (.int k a), [] => some (.lit (.int k a))
  | .lit (.int k a), .lit (.int _ b) :: r => foldI f (.lit (.int k (f a b))) r
  | _, _ => none
theorem foldI_ok {P : Program} {ρ : Ren} {f : Int → Int → Int} {g : Value → Value → Sem Value} (hg : ∀ k a k' b w, (g (.int k a) (.int k' b)).run P w = .ok (.int k (f a b)) w) :
    ∀ (l : List AV) (us : List Value) (x r : AV) (u : Value), foldI f x l = some r → VRel ρ x u → LRel ρ l us → NOk P (us.foldlM g u) ρ r
  | [], us, x, r, u, h, hu, hl => by
    simp only [LRel] at hl; subst hl
    unfold foldI at h
    split at h
    · cases h; simp only [VRel] at hu; subst hu; exact ⟨_, fun w => by simp; rfl, by simp only [VRel]⟩
    · rename_i he; cases he
    · cases h
  | y :: l, us, x, r, u, h, hu, hl => by
    simp only [LRel] at hl; obtain ⟨v, us', rfl, hv, hl⟩ := hl
    unfold foldI at h
    split at h
    · rename_i he; cases he
    · rename_i k a k' b r' he
      cases he
      simp only [VRel] at hu hv; subst hu; subst hv
      obtain ⟨q, hq, hr⟩ := foldI_ok (P := P) hg l us' _ r (.int k (f a b)) h (by simp only [VRel]) hl
      exact ⟨q, fun w => by simp [hg, hq], hr⟩
    · cases h

def imin (a b : Int) : Int := if b < a then b else a
def imax (a b : Int) : Int := if b > a then b else a
def minN (l : List AV) : Option AV := match l with
  | [] => none
  | x :: r => foldI imin x r
def maxN (l : List AV) : Option AV := match l with
  | [] => none
  | x :: r => foldI imax x r
theorem minN_ok {P : Program} {ρ : Ren} {l : List AV} {us : Array Value} {r : AV} {ts : Array TypeId} {ty : TypeId} (h : minN l = some r) (hl : LRel ρ l us.toList) : NOk P (Builtin.min_ ts ty us) ρ r := by
  cases l with
  | nil => cases h
  | cons x l =>
    simp only [LRel] at hl; obtain ⟨v, us', he, hv, hl⟩ := hl
    obtain ⟨q, hq, hr⟩ := foldI_ok (P := P) (g := Builtin.min2) (fun k a k' b w => by simp [Builtin.min2, imin]) l us' x r v h hv hl
    exact ⟨q, fun w => by simp only [Builtin.min_, he]; exact hq w, hr⟩
theorem maxN_ok {P : Program} {ρ : Ren} {l : List AV} {us : Array Value} {r : AV} {ts : Array TypeId} {ty : TypeId} (h : maxN l = some r) (hl : LRel ρ l us.toList) : NOk P (Builtin.max_ ts ty us) ρ r := by
  cases l with
  | nil => cases h
  | cons x l =>
    simp only [LRel] at hl; obtain ⟨v, us', he, hv, hl⟩ := hl
    obtain ⟨q, hq, hr⟩ := foldI_ok (P := P) (g := Builtin.max2) (fun k a k' b w => by simp [Builtin.max2, imax]) l us' x r v h hv hl
    exact ⟨q, fun w => by simp only [Builtin.max_, he]; exact hq w, hr⟩

/-! ### Function values, aggregates -/
theorem makeFunc_ok {P : Program} {ρ : Ren} {f : Fn} {as bs : List AV} {us vs : Array Value} (ha : LRel ρ as us.toList) (hb : LRel ρ bs vs.toList) : NOk P (Instr.makeFunc f us vs) ρ (.fn f as bs) :=
  ⟨.func f us vs, fun w => by simp [Instr.makeFunc], by simp only [VRel]; exact ⟨us, vs, rfl, ha, hb⟩⟩

def splice (off : Nat) (cs l : List AV) : List AV := l.take off ++ cs ++ l.drop (off + cs.length)
def fillA (place : Nat → Option (Nat × Nat)) (cells : List AV) : List (Nat × AV) → Option (List AV)
  | [] => some cells
  | (i, v) :: rest => match place i, acells v with
    | some (off, size), some cs => bif Nat.beq cs.length size && Nat.ble (off + size) cells.length then fillA place (splice off cs cells) rest else none
    | _, _ => none

def PRel (ρ : Ren) : List (Nat × AV) → List (Nat × Value) → Prop
  | [], us => us = []
  | (i, a) :: l, us => ∃ u us', us = (i, u) :: us' ∧ VRel ρ a u ∧ PRel ρ l us'

theorem foldl_set_size (cs : List Value) : ∀ (off k : Nat) (arr : Array Value), ((cs.zipIdx k).foldl (fun a (x : Value × Nat) => a.setIfInBounds (off + x.2) x.1) arr).size = arr.size := by
  induction cs with
  | nil => intro off k arr; simp
  | cons c cs ih => intro off k arr; simp only [List.zipIdx_cons, List.foldl_cons]; rw [ih]; simp

theorem foldl_set_get (cs : List Value) : ∀ (off k : Nat) (arr : Array Value) (j : Nat), off + k + cs.length ≤ arr.size →
    ((cs.zipIdx k).foldl (fun a (x : Value × Nat) => a.setIfInBounds (off + x.2) x.1) arr)[j]? = if off + k ≤ j ∧ j < off + k + cs.length then cs[j - (off + k)]? else arr[j]? := by
  induction cs with
  | nil => intro off k arr j h; simp; intro h1 h2; omega
  | cons c cs ih =>
    intro off k arr j h
    simp only [List.zipIdx_cons, List.foldl_cons, List.length_cons] at h ⊢
    rw [ih off (k + 1) _ j (by simp; omega)]
    by_cases h1 : off + k = j
    · rw [if_neg (by omega), if_pos (by omega)]
      subst h1
      have : off + k < arr.size := by omega
      simp [this]
    · rw [Array.getElem?_setIfInBounds_ne h1]
      by_cases h2 : off + k ≤ j ∧ j < off + k + (cs.length + 1)
      · rw [if_pos h2, if_pos (by omega)]
        have : j - (off + k) = (j - (off + (k + 1))) + 1 := by omega
        rw [this]; simp
      · rw [if_neg h2, if_neg (by omega)]

theorem splice_rel {ρ : Ren} {off : Nat} {cs l : List AV} {us : List Value} {arr : Array Value} (hl : LRel ρ l arr.toList) (hc : LRel ρ cs us) (hb : off + cs.length ≤ l.length) :
    LRel ρ (splice off cs l) ((us.zipIdx.foldl (fun a (x : Value × Nat) => a.setIfInBounds (off + x.2) x.1) arr).toList) := by
  have hlen := hl.length
  have hcl := hc.length
  have hsz : off + 0 + us.length ≤ arr.size := by rw [← hcl, ← Array.length_toList, ← hlen]; omega
  refine LRel.of_get ?_ fun k a ha => ?_
  · refine Eq.trans ?_ (Array.length_toList.trans (foldl_set_size us off 0 arr)).symm
    simp only [splice, List.length_append, List.length_take, List.length_drop]
    rw [← Array.length_toList, ← hlen]; omega
  · simp only [Array.getElem?_toList]
    rw [foldl_set_get us off 0 arr k hsz]
    simp only [splice, List.getElem?_append, List.length_append, List.length_take] at ha
    rw [Nat.min_eq_left (by omega)] at ha
    by_cases h1 : off ≤ k ∧ k < off + us.length
    · rw [if_pos (by omega)]
      rw [if_pos (by omega), if_neg (by omega)] at ha
      simpa using hc.get _ _ ha
    · rw [if_neg (by omega)]
      have : l[k]? = some a := by
        by_cases h2 : k < off
        · rw [if_pos (by omega), if_pos h2, List.getElem?_take, if_pos h2] at ha; exact ha
        · rw [if_neg (by omega), List.getElem?_drop] at ha
          have e : off + cs.length + (k - (off + cs.length)) = k := by omega
          rw [e] at ha; exact ha
      simpa using hl.get _ _ this

theorem fillA_ok {ρ : Ren} {place : Nat → Option (Nat × Nat)} : ∀ (ps : List (Nat × AV)) (us : List (Nat × Value)) (l r : List AV) (arr : Array Value), fillA place l ps = some r → PRel ρ ps us → LRel ρ l arr.toList →
    ∃ arr', Instr.fill place arr us = some arr' ∧ LRel ρ r arr'.toList
  | [], us, l, r, arr, h, hp, hl => by
    simp only [PRel] at hp; subst hp
    simp only [fillA, Option.some.injEq] at h; subst h
    exact ⟨arr, rfl, hl⟩
  | (i, v) :: ps, us, l, r, arr, h, hp, hl => by
    simp only [PRel] at hp; obtain ⟨u, us', rfl, hv, hp⟩ := hp
    simp only [fillA] at h
    split at h
    · rename_i off size cs hpl hcs
      cases hb : (Nat.beq cs.length size && Nat.ble (off + size) l.length) with
      | false => rw [hb] at h; simp at h
      | true =>
        rw [hb] at h; simp only [cond_true] at h
        simp only [Bool.and_eq_true, Nat.ble_eq] at hb
        have h1 : cs.length = size := Nat.eq_of_beq_eq_true hb.1
        have hcr := acells_spec hcs hv
        have hcl : u.cells.size = size := by rw [← Array.length_toList, ← hcr.length, h1]
        have hsz : arr.size = l.length := by rw [← Array.length_toList, ← hl.length]
        obtain ⟨arr', ha, hr⟩ := fillA_ok ps us' _ r (u.cells.zipIdx.foldl (fun cs (c, j) => cs.setIfInBounds (off + j) c) arr) h hp (by
          have := splice_rel (off := off) hl hcr (by omega)
          rw [← Array.foldl_toList, Array.toList_zipIdx]
          exact this)
        refine ⟨arr', ?_, hr⟩
        have hn : (u.cells.size ≠ size || decide (off + u.cells.size > arr.size)) = false := by
          simp [hcl]; omega
        have hn' : ¬ (u.cells.size ≠ size || decide (off + u.cells.size > arr.size)) = true := by rw [hn]; simp
        simp only [Instr.fill, hpl]
        rw [if_neg (by simpa using hn')]
        exact ha
    · cases h

def placeS (tt : TT) (fs : List (Nat × TypeId × Bool)) (i : Nat) : Option (Nat × Nat) :=
  match fs[i]? with
  | some (o, ft, _) => match tt ft with
    | some tf => some (o, tf.size)
    | none => none
  | none => none
/-- The value of a composite literal of a struct or an array. -/
def buildN (tt : TT) (t : TypeId) (ps : List (Nat × AV)) : Option AV :=
  match tt t with
  | some ti => match ti.desc with
    | .struct fs _ => match fillA (placeS tt fs) (toAV ti.zero) ps with
      | some l => bif fs.all (fun f => (tt f.2.1).isSome) then some (.agg l) else none
      | none => none
    | .array _ e => match tt e with
      | some te => match fillA (fun i => some (i * te.size, te.size)) (toAV ti.zero) ps with
        | some l => some (.agg l)
        | none => none
      | none => none
    | _ => none
  | none => none

theorem run_mapM_places {P : Program} {tt : TT} (hT : tt.ok P) : ∀ (gs : List Field), (∀ g ∈ gs, (tt g.type).isSome = true) → ∀ w,
    (gs.mapM (fun f => do pure (f.offset, ← sizeOf f.type)) : Sem (List (Nat × Nat))).run P w = .ok (gs.map fun g => (g.offset, ((tt g.type).map TI.size).getD 0)) w
  | [], _, w => by simp
  | g :: gs, h, w => by
    have hg := h g (by simp)
    cases htg : tt g.type with
    | none => rw [htg] at hg; cases hg
    | some tg =>
      have ih := run_mapM_places (P := P) hT gs (fun x hx => h x (by simp [hx]))
      simp only [List.mapM_cons, Sem.run_bind, run_sizeOf hT htg, Result.andThen_ok, Sem.run_pure, ih, List.map_cons, htg, Option.map_some, Option.getD_some]

theorem buildN_ok {P : Program} {tt : TT} (hT : tt.ok P) {ρ : Ren} {t : TypeId} {ps : List (Nat × AV)} {us : Array (Nat × Value)} {r : AV} (h : buildN tt t ps = some r) (hp : PRel ρ ps us.toList) :
    NOk P (Instr.build t us) ρ r := by
  unfold buildN at h
  split at h
  · rename_i ti hti
    obtain ⟨_, _, z, hi, _, _, _, hz, hzc, _⟩ := hT.info hti
    have hzr : ∀ w, (zeroValue t).run P w = .ok z w := fun w => by simp [zeroValue, typeInfo, hi, hz]
    have hzl : LRel ρ (toAV ti.zero) z.cells.toList := by rw [hzc]; exact LRel.lits _
    split at h
    · rename_i fs held hfs
      split at h
      · rename_i l hf
        cases ha : fs.all (fun f => (tt f.2.1).isSome) with
        | false => rw [ha] at h; simp at h
        | true =>
          rw [ha] at h; simp only [cond_true, Option.some.injEq] at h; subst h
          obtain ⟨gs, hund, hg⟩ : ∃ gs : Array Field, P.underlying t = some (.struct gs) ∧ gs.toList.map (fun f => (f.offset, f.type, f.name != "_")) = fs := by
            obtain ⟨d1, _, hund, m1⟩ := run_under (P := P) hT hti default
            obtain ⟨gs, rfl, hg, _⟩ := mkTD_struct (m1.trans hfs)
            exact ⟨gs, hund, hg⟩
          have hall : ∀ g ∈ gs.toList, (tt g.type).isSome = true := by
            rw [← hg, List.all_map, List.all_eq_true] at ha
            exact fun g hgm => ha g hgm
          obtain ⟨arr', hfill, hr⟩ := fillA_ok ps us.toList _ l z.cells hf hp hzl
          refine ⟨.agg arr', fun w => ?_, by simp only [VRel]; exact ⟨arr', rfl, hr⟩⟩
          have hm := run_mapM_places (P := P) hT gs.toList hall w
          have hm' : (gs.mapM (fun f => do pure (f.offset, ← sizeOf f.type)) : Sem (Array (Nat × Nat))).run P w = .ok (gs.toList.map fun g => (g.offset, ((tt g.type).map TI.size).getD 0)).toArray w := by
            rw [Array.mapM_eq_mapM_toList, Sem.run_map, hm]; rfl
          have hpl : (fun i => ((gs.toList.map fun g => (g.offset, ((tt g.type).map TI.size).getD 0)).toArray)[i]?) = placeS tt fs := by
            funext i
            unfold placeS
            rw [← hg, List.getElem?_map]
            simp only [List.getElem?_toArray, List.getElem?_map]
            cases hgi : gs.toList[i]? with
            | none => rfl
            | some g =>
              have := hall g (List.mem_of_getElem? hgi)
              cases htg : tt g.type with
              | none => rw [htg] at this; cases this
              | some tg => simp [htg]
          simp only [Instr.build, Sem.run_bind, hzr, Result.andThen_ok, underlying, run_program, hund, Sem.run_pure, hm', hpl, hfill]
      · cases h
    · rename_i n e hd
      split at h
      · rename_i te hte
        split at h
        · rename_i l hf
          cases h
          obtain ⟨arr', hfill, hr⟩ := fillA_ok ps us.toList _ l z.cells hf hp hzl
          refine ⟨.agg arr', fun w => ?_, by simp only [VRel]; exact ⟨arr', rfl, hr⟩⟩
          obtain ⟨d1, r1, _, m1⟩ := run_under (P := P) hT hti w
          rw [mkTD_array (m1.trans hd)] at r1
          simp only [Instr.build, Sem.run_bind, hzr, Result.andThen_ok, r1, run_sizeOf hT hte, hfill, Sem.run_pure]
        · cases h
      · cases h
    · cases h
  · cases h
end Go.Proofs.YtpbdlibgbkhlhaaGreat.SE
