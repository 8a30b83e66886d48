/- Rows that are appended to, and whole numbers. -/
import Derived.Test.YtpbdlibgbkhlhaaGreatE14
namespace Go.Proofs.YtpbdlibgbkhlhaaGreat.SE
open Go

theorem seg_row {α : Type} {f : α → List Value} {m : Nat} (hf : ∀ a, (f a).length = m) {h : Heap} {j a n o c s : Nat} {ls : List α} (hr : RawAt h j (flat f ls)) (ho : o = a * m) (hle : a + n ≤ ls.length) :
    segOf h (.slU j o c s) n m = some (.raw (flat f ((ls.drop a).take n))) := by
  obtain ⟨ob, h1, h2⟩ := hr
  subst ho
  have hb : Nat.ble (a * m + n * m) (flat f ls).length = true := by
    rw [Nat.ble_eq, flat_length hf, ← Nat.add_mul]
    exact Nat.mul_le_mul_right _ hle
  simp only [segOf, h1, h2, Cs.sub, hb, cond_true, flat_drop hf, flat_take hf]
theorem seg_rowS {α : Type} {f : α → List Value} {m : Nat} (hf : ∀ a, (f a).length = m) {h : Heap} {j a n o c s : Nat} {ls : List α} (hr : RawAt h j (flat f ls)) (ho : o = a * m) (hle : a + n ≤ ls.length) :
    segOf h (.sl j o c s) n m = some (.raw (flat f ((ls.drop a).take n))) := by
  obtain ⟨ob, h1, h2⟩ := hr
  subst ho
  have hb : Nat.ble (a * m + n * m) (flat f ls).length = true := by
    rw [Nat.ble_eq, flat_length hf, ← Nat.add_mul]
    exact Nat.mul_le_mul_right _ hle
  simp only [segOf, h1, h2, Cs.sub, hb, cond_true, flat_drop hf, flat_take hf]

theorem appendU {tt : TT} {t xt e : TypeId} {ti tx te : TI} {h : Heap} {i sn n sz : Nat} {x : AV} {L : List Value} {d c' : Cs} (hti : tt t = some ti) (htx : tt xt = some tx) (hxi : isIntD tx.desc = false) (hd : ti.desc = .slice e)
    (hte : tt e = some te) (hb : (Nat.beq te.bytes 0 || !Nat.beq te.zero.length te.size) = false) (hsz : te.size = sz) (hi : h.get i = some (.room e (.raw L))) (hL : L.length = sn * sz) (hn : lenA x = some n) (hseg : segOf h x n sz = some d)
    (happ : (Cs.raw L).app d = some c') (hone : oneCells d = true) (hlim : (2 * (sn + n) + 1000) * te.bytes ≤ 2 ^ 48) :
    appendA tt t xt (.slU i 0 sn sz) x h = some ((h.drop i).new (fun k => .slU k 0 (sn + n) sz) (.room e c')) := by
  subst hsz
  have h1 : Nat.beq te.size te.size = true := Nat.beq_refl _
  have h2 : Nat.beq (Cs.raw L).size (sn * te.size) = true := by simp only [Cs.size, hL]; exact Nat.beq_refl _
  have h3 : Nat.beq e e = true := Nat.beq_refl _
  have h4 : Nat.ble ((2 * (sn + n) + 1000) * te.bytes) (2 ^ 48) = true := by rw [Nat.ble_eq]; exact hlim
  simp only [appendA, hti, htx, hn, hxi, cond_false, hd, hte, hb, hseg, hi, h1, h2, h3, h4, hone, Bool.and_true, cond_true, happ]

theorem tmod_nat (a b : Nat) : (a : Int).tmod (b : Int) = ((a % b : Nat) : Int) := (Int.ofNat_tmod a b).symm
theorem wrap_nat {a : Nat} (h : a < 2 ^ 62) : IntKind.i64.wrap (a : Int) = (a : Int) := wrap_i64 (by omega) (by omega)
end Go.Proofs.YtpbdlibgbkhlhaaGreat.SE
