import Derived.Test.YtnlpcbdmllpddaaGreatTxa
import Derived.Test.YtnlpcbdmllpddaaGreatTxb
import Derived.Test.YtnlpcbdmllpddaaGreatTxc
import Derived.Test.YtnlpcbdmllpddaaGreatTxd
import Derived.Test.YtnlpcbdmllpddaaGreatTxe
import Derived.Test.YtnlpcbdmllpddaaGreatTxf
import Derived.Test.YtnlpcbdmllpddaaGreatTxg
import Derived.Test.YtnlpcbdmllpddaaGreatTxh
import Derived.Test.YtnlpcbdmllpddaaGreatTxi
import Derived.Test.YtnlpcbdmllpddaaGreatTxj
import Derived.Test.YtnlpcbdmllpddaaGreatTxk
import Derived.Test.YtnlpcbdmllpddaaGreatTxl
import Derived.Test.YtnlpcbdmllpddaaGreatTxm
import Derived.Test.YtnlpcbdmllpddaaGreatTxn
import Derived.Shelf.SlIter.Collect
import Derived.Test.YtnlpcbdmllpddaaGreatChecked
import Derived.KernelRfl
section
/- What a closed call yields, and the memory behind it: fusee/point.Step. -/
namespace Go.Proofs.YtnlpcbdmllpddaaGreat
open Go SE
set_option maxRecDepth 100000
noncomputable section
def sSE6V : AV := (AV.agg [(i64 2), (AV.lit (Value.string (bs [97]))), (AV.lit (Value.string (bs [49]))), (AV.lit (Value.string (bs []))), (AV.lit (Value.slice none 0 0)), (i64 7), (u64 1), (AV.lit (Value.string (bs []))), (AV.lit (Value.bool false)), (i64 0), (AV.lit (Value.bool false)), (AV.lit (Value.string (bs []))), (u64 0), (u64 0), (i64 0), (i64 0), (i64 (-0 - 1)), (i64 0), (i64 0), (AV.lit (Value.slice none 0 0)), (i64 0), (AV.lit (Value.slice none 0 0)), (i64 0), (AV.lit (Value.bool false)), (AV.lit (Value.string (bs []))), (AV.lit (Value.slice none 0 0)), (AV.lit (Value.slice none 0 0)), (u64 1)])
def sSE6O : List AObj := [
(AObj.cells 117 (Cs.av [(AV.ptr 1 0), (AV.ptr 2 0), (AV.ptr 3 0), (AV.ptr 4 0), (AV.ptr 5 0), (AV.ptr 6 0), (AV.ptr 7 0), (AV.ptr 8 0), (u64 1), (u64 1), (AV.slU 9 0 1 7)])),
(AObj.cells 152 (Cs.av [(AV.ptr 10 0), (AV.lit (Value.int IntKind.u32 1)), (AV.lit (Value.int IntKind.i32 0)), (AV.lit (Value.int IntKind.u32 0))])),
(AObj.cells 289 (Cs.av [(AV.sl 11 0 1 1)])),
(AObj.cells 204 (Cs.av [(u64 1), (AV.sl 12 0 1 1)])),
(AObj.cells 201 (Cs.av ([(u64 1), (u64 0), (u64 0), (AV.sl 13 0 1 1), (AV.lit (Value.bool false)), (AV.lit (Value.bool false)), (AV.lit (Value.bool true))] ++ List.replicate 513 (AV.lit (Value.bool false)) ++ [(AV.lit Value.nilFunc)]))),
(AObj.cells 247 (Cs.av [(AV.lit (Value.slice none 0 0))])),
(AObj.cells 269 (Cs.av [(AV.mp 14), (AV.mp 15), (AV.mp 16), (AV.mp 17), (AV.mp 18), (AV.mp 19), (AV.mp 20), (AV.mp 21)])),
(AObj.cells 298 (Cs.av [(AV.slU 22 0 1 5), (AV.slU 23 0 1 5), (AV.slU 24 0 1 5), (AV.slU 25 0 1 5)])),
(AObj.cells 279 (Cs.av [(AV.lit (Value.slice none 0 0)), (i64 0), (i64 0)])),
(AObj.room 155 (Cs.av [(i64 1), (AV.lit (Value.string (bs [97]))), (AV.lit (Value.string (bs [49]))), (u64 1), (u64 1), (u64 1), (i64 1)])),
(AObj.cells 218 (Cs.av [(AV.sl 26 0 10 10), (i64 4), (i64 2), (i64 1), (i64 0), (i64 0)])),
(AObj.cells 261 (Cs.tr 10 [(i64 0), (AV.lit (Value.bool false)), (AV.lit (Value.bool false)), (AV.lit (Value.bool false)), (AV.lit (Value.bool false)), (AV.lit (Value.bool false)), (AV.lit (Value.bool false)), (AV.lit (Value.bool false)), (AV.lit (Value.bool false)), (i64 0)] (PM.node (PM.node PM.leaf (some (AV.lit (Value.bool true))) (PM.node (PM.node PM.leaf (some (i64 1)) PM.leaf) none PM.leaf)) (some (i64 0)) PM.leaf))),
(AObj.cells 115 (Cs.tr 1 [(u64 0)] (PM.node PM.leaf (some (u64 0)) PM.leaf))),
(AObj.cells 3 (Cs.tr 1 [(i64 0)] (PM.node PM.leaf (some (i64 1)) PM.leaf))),
(AObj.map [] 0),
(AObj.map [] 0),
(AObj.map [] 0),
(AObj.map [((AV.lit (Value.string (bs [97]))), ((AV.agg [(AV.lit (Value.string (bs [97]))), (u64 1), (u64 1), (i64 2), (i64 0)]), 0))] 1),
(AObj.map [] 0),
(AObj.map [] 0),
(AObj.map [] 0),
(AObj.map [] 0),
(AObj.room 31 (Cs.av [(AV.lit (Value.string (bs [97]))), (u64 1), (u64 1), (i64 2), (i64 0)])),
(AObj.room 31 (Cs.av [(AV.lit (Value.string (bs [97]))), (u64 1), (u64 1), (i64 2), (i64 0)])),
(AObj.room 31 (Cs.av [(AV.lit (Value.string (bs [97]))), (u64 1), (u64 1), (i64 2), (i64 0)])),
(AObj.room 31 (Cs.av [(AV.lit (Value.string (bs [97]))), (u64 1), (u64 1), (i64 2), (i64 0)])),
(AObj.cells 253 (Cs.tr 1930 (List.replicate 192 (AV.lit (v8 0)) ++ [(AV.lit (Value.bool false))]) (N8 (N8 (N8 (N8 (N8 (N8 (N8 (N8 (L8 0) 0 (L8 0)) 0 (N8 (L8 0) 0 (L8 0))) 0 (N8 (N8 (L8 0) 0 (L8 0)) 0 (N8 (L8 0) 0 PM.leaf))) 0 (N8 (N8 (N8 (L8 0) 0 (L8 0)) 0 (N8 (L8 0) 0 PM.leaf)) 0 (N8 (N8 (L8 0) 0 (L8 0)) 0 (N8 (L8 0) 0 PM.leaf)))) 0 (N8 (N8 (N8 (N8 (L8 0) 0 (L8 0)) 0 (N8 (L8 0) 0 PM.leaf)) 0 (N8 (N8 (L8 0) 0 (L8 49)) 0 (N8 (L8 0) 0 PM.leaf))) 0 (N8 (N8 (N8 (L8 0) 0 (L8 0)) 0 (N8 (L8 0) 0 PM.leaf)) 0 (N8 (N8 (L8 0) 0 (L8 0)) 0 (N8 (L8 0) 0 PM.leaf))))) 83 (N8 (N8 (N8 (N8 (N8 (L8 0) 83 (L8 0)) 83 (N8 (L8 0) 0 PM.leaf)) 0 (N8 (N8 (L8 0) 0 (L8 38)) 0 (N8 (L8 0) 0 PM.leaf))) 0 (N8 (N8 (N8 (L8 0) 0 (L8 0)) 0 (N8 (L8 0) 0 PM.leaf)) 0 (N8 (N8 (L8 0) 0 (L8 0)) 0 (N8 (L8 0) 0 PM.leaf)))) 78 (N8 (N8 (N8 (N8 (L8 40) 78 (L8 0)) 78 (N8 (L8 40) 40 PM.leaf)) 0 (N8 (N8 (L8 0) 0 (L8 0)) 0 (N8 (L8 0) 0 PM.leaf))) 0 (N8 (N8 (N8 (L8 0) 0 (L8 0)) 0 (N8 (L8 0) 0 PM.leaf)) 0 (N8 (N8 (L8 0) 0 (L8 0)) 0 (N8 (L8 0) 0 PM.leaf)))))) 70 (N8 (N8 (N8 (N8 (N8 (N8 (L8 3) 70 (PM.node PM.leaf (some (AV.lit (Value.bool false))) PM.leaf)) 70 (N8 (L8 3) 3 (L8 0))) 0 (N8 (N8 (L8 0) 0 (L8 0)) 0 (N8 (L8 0) 0 PM.leaf))) 0 (N8 (N8 (N8 (L8 0) 0 (L8 0)) 0 (N8 (L8 0) 0 PM.leaf)) 0 (N8 (N8 (L8 0) 0 (L8 0)) 0 (N8 (L8 0) 0 PM.leaf)))) 220 (N8 (N8 (N8 (N8 (L8 0) 220 (L8 0)) 220 (N8 (L8 0) 0 PM.leaf)) 0 (N8 (N8 (L8 0) 0 (L8 0)) 0 (N8 (L8 0) 0 PM.leaf))) 0 (N8 (N8 (N8 (L8 0) 0 (L8 0)) 0 (N8 (L8 0) 0 PM.leaf)) 0 (N8 (N8 (L8 0) 0 (L8 0)) 0 (N8 (L8 0) 0 PM.leaf))))) 10 (N8 (N8 (N8 (N8 (N8 (L8 0) 10 (L8 1)) 10 (N8 (L8 0) 0 PM.leaf)) 0 (N8 (N8 (L8 0) 0 (L8 129)) 0 (N8 (L8 0) 0 PM.leaf))) 0 (N8 (N8 (N8 (L8 0) 0 (L8 0)) 0 (N8 (L8 0) 0 PM.leaf)) 0 (N8 (N8 (L8 0) 0 (L8 0)) 0 (N8 (L8 0) 0 PM.leaf)))) 0 (N8 (N8 (N8 (N8 (L8 223) 0 (L8 0)) 0 (N8 (L8 223) 223 PM.leaf)) 0 (N8 (N8 (L8 0) 0 (L8 0)) 0 (N8 (L8 0) 0 PM.leaf))) 0 (N8 (N8 (N8 (L8 0) 0 (L8 0)) 0 (N8 (L8 0) 0 PM.leaf)) 0 (N8 (N8 (L8 0) 0 (L8 0)) 0 (N8 (L8 0) 0 PM.leaf))))))) 4 (N8 (N8 (N8 (N8 (N8 (N8 (N8 (L8 0) 4 (L8 0)) 4 (PM.node (L8 0) (some (AV.lit (Value.bool false))) (L8 0))) 0 (N8 (N8 (L8 0) 0 (L8 0)) 0 (N8 (L8 0) 0 PM.leaf))) 0 (N8 (N8 (N8 (L8 0) 0 (L8 0)) 0 (N8 (L8 0) 0 PM.leaf)) 0 (N8 (N8 (L8 0) 0 (L8 0)) 0 (N8 (L8 0) 0 PM.leaf)))) 0 (N8 (N8 (N8 (N8 (L8 0) 0 (L8 0)) 0 (N8 (L8 0) 0 PM.leaf)) 0 (N8 (N8 (L8 0) 0 (L8 0)) 0 (N8 (L8 0) 0 PM.leaf))) 0 (N8 (N8 (N8 (L8 0) 0 (L8 0)) 0 (N8 (L8 0) 0 PM.leaf)) 0 (N8 (N8 (L8 0) 0 (L8 0)) 0 (N8 (L8 0) 0 PM.leaf))))) 69 (N8 (N8 (N8 (N8 (N8 (L8 0) 69 (L8 1)) 69 (N8 (L8 0) 0 PM.leaf)) 0 (N8 (N8 (L8 0) 0 (L8 201)) 0 (N8 (L8 0) 0 PM.leaf))) 0 (N8 (N8 (N8 (L8 0) 0 (L8 0)) 0 (N8 (L8 0) 0 PM.leaf)) 0 (N8 (N8 (L8 0) 0 (L8 0)) 0 (N8 (L8 0) 0 PM.leaf)))) 80 (N8 (N8 (N8 (N8 (L8 132) 80 (L8 0)) 80 (N8 (L8 132) 132 PM.leaf)) 0 (N8 (N8 (L8 0) 0 (L8 0)) 0 (N8 (L8 0) 0 PM.leaf))) 0 (N8 (N8 (N8 (L8 0) 0 (L8 0)) 0 (N8 (L8 0) 0 PM.leaf)) 0 (N8 (N8 (L8 0) 0 (L8 0)) 0 (N8 (L8 0) 0 PM.leaf)))))) 85 (N8 (N8 (N8 (N8 (N8 (N8 (L8 0) 85 (L8 1)) 85 (N8 (L8 0) 0 PM.leaf)) 0 (N8 (N8 (L8 0) 0 (L8 30)) 0 (N8 (L8 0) 0 PM.leaf))) 0 (N8 (N8 (N8 (L8 0) 0 (L8 1)) 0 (N8 (L8 0) 0 PM.leaf)) 0 (N8 (N8 (L8 0) 0 (L8 0)) 0 (N8 (L8 0) 0 PM.leaf)))) 5 (N8 (N8 (N8 (N8 (L8 107) 5 (L8 1)) 5 (N8 (L8 107) 107 PM.leaf)) 0 (N8 (N8 (L8 0) 0 (L8 0)) 0 (N8 (L8 0) 0 PM.leaf))) 0 (N8 (N8 (N8 (L8 0) 0 (L8 1)) 0 (N8 (L8 0) 0 PM.leaf)) 0 (N8 (N8 (L8 0) 0 (L8 0)) 0 (N8 (L8 0) 0 PM.leaf))))) 0 (N8 (N8 (N8 (N8 (N8 (L8 0) 0 (L8 1)) 0 (N8 (L8 0) 0 PM.leaf)) 0 (N8 (N8 (L8 0) 0 (L8 97)) 0 (N8 (L8 0) 0 PM.leaf))) 0 (N8 (N8 (N8 (L8 0) 0 (L8 0)) 0 (N8 (L8 0) 0 PM.leaf)) 0 (N8 (N8 (L8 0) 0 (L8 0)) 0 (N8 (L8 0) 0 PM.leaf)))) 0 (N8 (N8 (N8 (N8 (L8 0) 0 (L8 0)) 0 (N8 (L8 0) 0 PM.leaf)) 0 (N8 (N8 (L8 0) 0 (L8 0)) 0 (N8 (L8 0) 0 PM.leaf))) 0 (N8 (N8 (N8 (L8 0) 0 (L8 0)) 0 (N8 (L8 0) 0 PM.leaf)) 0 (N8 (N8 (L8 0) 0 (L8 0)) 0 (N8 (L8 0) 0 PM.leaf))))))))))]
abbrev sSE6M : Nat := 27
def sSE6I : List Nat := [0, 1, 2, 3, 4, 5, 6, 7, 8, 9, 10, 11, 12, 13, 14, 15, 16, 17, 18, 19, 20, 21, 22, 23, 24, 25, 26]
end
end Go.Proofs.YtnlpcbdmllpddaaGreat
end
section
/- A closed call, run: fusee/point.Step. -/
namespace Go.Proofs.YtnlpcbdmllpddaaGreat
open Go SE
set_option maxRecDepth 100000
noncomputable section
theorem sSE6_look : lookX tblR 35 = none := by kernel_rfl
theorem sSE6_run : runH Tryz.prog tblR tt 2000 40 35 [.ptr 0 0, i64 0, sSE5V] (hO sSE5M sSE5O) (told sSE6I) = .ok (vmap (atL sSE6I) sSE6V, sSE6O.map fun o => some (omap (atL sSE6I) o)) := by kernel_rfl
theorem sSE6_sp : Sp Tryz.prog 35 [.ptr 0 0, i64 0, sSE5V] (hO 1 [packed sSE5M sSE5O]) (fun v h => v = sSE6V ∧ h = hO 1 [packed sSE6M sSE6O]) :=
  stageP tt_ok mixed tblR_ok 2000 40 sSE5M sSE5O sSE6M sSE6I sSE6V sSE6O sSE6_look sSE6_run (by kernel_rfl) (by kernel_rfl) (by kernel_rfl)
end
end Go.Proofs.YtnlpcbdmllpddaaGreat
end
section
/- The keys of a map, appended: the shelf's contracts at this program. -/
namespace Go.Proofs.YtnlpcbdmllpddaaGreat
open Go
def kyF : Nat → Nat
  | 10 => 308
  | 11 => 323
  | k => k
def kyT : Nat → Nat
  | 0 => 0
  | 3 => 31
  | 4 => 4
  | 23 => 266
  | 24 => 63
  | 26 => 9
  | 28 => 379
  | 33 => 243
  | k => k
def kyR : Go.Shelf.Ren := ⟨kyF, kyT, fun k => k⟩
set_option maxRecDepth 100000 in
theorem ky10 : SlLaysZ.n10 Tryz.prog kyR := { mixed := mixed, f10 := ⟨Tryz.f308.name, by kernel_rfl, by kernel_rfl⟩, t0 := Tryz.underlying0, a0 := Tryz.isAgg0, z0 := Tryz.sizeOf0, v0 := Tryz.zeroValue0, t4 := Tryz.underlying4, a4 := Tryz.isAgg4, z4 := Tryz.sizeOf4, v4 := Tryz.zeroValue4, t23 := Tryz.underlying266, a23 := Tryz.isAgg266, z23 := Tryz.sizeOf266, v23 := Tryz.zeroValue266, t26 := Tryz.underlying9, a26 := Tryz.isAgg9, z26 := Tryz.sizeOf9, v26 := Tryz.zeroValue9, t33 := Tryz.underlying243, a33 := Tryz.isAgg243, z33 := Tryz.sizeOf243, v33 := Tryz.zeroValue243 }
set_option maxRecDepth 100000 in
theorem ky11 : SlLaysZ.n11 Tryz.prog kyR := { mixed := mixed, f11 := ⟨Tryz.f323.name, by kernel_rfl, by kernel_rfl⟩, t0 := Tryz.underlying0, a0 := Tryz.isAgg0, z0 := Tryz.sizeOf0, v0 := Tryz.zeroValue0, t24 := Tryz.underlying63, a24 := Tryz.isAgg63, z24 := Tryz.sizeOf63, v24 := Tryz.zeroValue63, t26 := Tryz.underlying9, a26 := Tryz.isAgg9, z26 := Tryz.sizeOf9, v26 := Tryz.zeroValue9, t28 := Tryz.underlying379, a28 := Tryz.isAgg379, z28 := Tryz.sizeOf379, v28 := Tryz.zeroValue379, i26 := by kernel_rfl }
end Go.Proofs.YtnlpcbdmllpddaaGreat
end
section
/- The keys of a map of one entry, appended: an operation of closed runs. -/
namespace Go.Proofs.YtnlpcbdmllpddaaGreat
open Go SE
/-- A new object beside what is there, in a block of its own. -/
theorem rel_new {h : Heap} {ρ : SE.Ren} {T : Nat → Prop} {w w' : World} (hR : Rel h ρ T w) (hb : Go.RowKit.Below w.heap.size w w') {a : SE.Loc} (hg : w.heap.size ≤ a.blk) (hg' : a.blk < w'.heap.size) {o : AObj} (hro : isRo o = false)
    (ho : ∀ ρ', OHolds ρ' w' T a (fun b => b = a.blk) o) : ∃ ρ', ρ.le ρ' ∧ ρ' h.next = some a ∧ (∀ i, i < h.next → ρ' i = ρ i) ∧ Rel (h.push o) ρ' T w' ∧ Keeps T w w' := by
  obtain ⟨S, h1, h2, h3, h4, h5⟩ := hR
  let ρ' : SE.Ren := fun i => if i = h.next then some a else ρ i
  have hle : ρ.le ρ' := fun i x hx => by
    by_cases hi : i = h.next
    · subst hi; rw [h4 _ (Nat.le_refl _)] at hx; cases hx
    · simp only [ρ', if_neg hi]; exact hx
  have hlow : ∀ i o, h.get i = some o → i < h.next := fun i o hi => by
    obtain ⟨x, hx, _⟩ := h1 i o hi
    rcases Nat.lt_or_ge i h.next with h' | h'
    · exact h'
    · rw [h4 i h'] at hx; cases hx
  have hkeep : Keeps T w w' := ⟨hb.size, hb.os, hb.tape, hb.output, fun b hbT => hb.block b (by
    rcases Nat.lt_or_ge b w.heap.size with h' | h'
    · exact h'
    · exact (hbT (h5 b h')).elim)⟩
  refine ⟨ρ', hle, by simp [ρ'], fun i hi => by simp [ρ', Nat.ne_of_lt hi], ⟨fun i b => if i = h.next then b = a.blk else S i b, fun i o' hi => ?_, fun i j o1 o2 b hi hj hij hSi hSj => ?_, fun i o' b hi hS => ?_, fun i hi => ?_, fun b hb' => h5 b (Nat.le_trans hb.size hb')⟩, hkeep⟩
  · rw [Heap.get_push] at hi
    by_cases hin : i = h.next
    · subst hin
      simp only [if_pos] at hi
      cases hi
      exact ⟨a, by simp [ρ'], by simpa using ho ρ'⟩
    · simp only [if_neg hin] at hi ⊢
      obtain ⟨x, hx, hh⟩ := h1 i o' hi
      refine ⟨x, hle _ _ hx, OHolds.mono hle (hh.stays fun b hbS => hb.block b ?_)⟩
      rcases hbS with hbS | hbS
      · exact (h3 i o' b hi hbS).2
      · rcases Nat.lt_or_ge b w.heap.size with h' | h'
        · exact h'
        · exact (hbS (h5 b h')).elim
  · rw [Heap.get_push] at hi hj
    by_cases hi' : i = h.next <;> by_cases hj' : j = h.next
    · exact hij (hi'.trans hj'.symm)
    · simp only [if_pos hi', if_neg hj'] at hSi hSj hj
      have := (h3 j o2 b hj hSj).2; omega
    · simp only [if_neg hi', if_pos hj'] at hSi hSj hi
      have := (h3 i o1 b hi hSi).2; omega
    · simp only [if_neg hi', if_neg hj'] at hSi hSj hi hj
      exact h2 i j o1 o2 b hi hj hij hSi hSj
  · rw [Heap.get_push] at hi
    by_cases hin : i = h.next
    · simp only [if_pos hin] at hS
      subst hS
      exact ⟨h5 _ hg, hg'⟩
    · simp only [if_neg hin] at hi hS
      obtain ⟨g1, g2⟩ := h3 i o' b hi hS
      exact ⟨g1, Nat.lt_of_lt_of_le g2 hb.size⟩
  · have hn : (h.push o).next = h.next + 1 := by simp
    rw [hn] at hi
    simp only [ρ', if_neg (by omega : ¬ i = h.next)]
    exact h4 i (by omega)
/-- A map of one entry, whose key is a text, as the shelf tells it. -/
theorem owns1 {w : World} {b : Nat} {e : MapEntry} {clock : Nat} {s : ByteArray} (hb : w.heap[b]? = some (.map #[e] clock)) (hk : e.key = .string s) (hs : s.size ≤ maxLen) (hc : e.born < clock) :
    w.ownsMap (H := Unit) Tryz.prog 9 (fun _ => some (.lit (.bool true), [])) b 1 (.map [(.string s.data.toList, .lit (.bool true))]) := by
  have hkey : Go.keyOf Tryz.prog 9 e.key = some (.string s.data.toList) := by
    rw [hk]
    simp [Go.keyOf, Tryz.underlying9, mapKey, hs]
  refine ⟨#[e], clock, hb, ⟨by simp [maxLen], ⟨by simpa using hc, by simp, by simp⟩, fun x hx => ?_⟩, by simp, ?_⟩
  · simp only [List.mem_singleton] at hx
    subst hx
    exact ⟨_, Go.WideElems.rd_mk (key := x.key) (val := x.val) (born := x.born) hkey rfl⟩
  · simp [Go.WideElems.rg, Go.WideElems.rd, hkey, DataW.insert]
theorem one_call {w : World} {Bm b : Nat} {e : MapEntry} {clock : Nat} {s : ByteArray} (hB : w.cell? ⟨Bm, 0, none⟩ = some (.map (some b))) (hBl : Bm < w.heap.size) (hb : w.heap[b]? = some (.map #[e] clock)) (hk : e.key = .string s) (hs : s.size ≤ maxLen) (hc : e.born < clock) :
    Calls Tryz.prog 323 #[.slice none 0 0, .func (.func 308) #[] #[.pointer (some ⟨Bm, 0, none⟩)]] w fun e w' =>
      ∃ g cap cur, e = .returned (.slice (some ⟨g, 0, none⟩) 1 cap) ∧ w.heap.size ≤ g ∧ w'.heap[g]? = some (.cells cur 9 (0, 0)) ∧ 1 ≤ cap ∧ cur.size = cap ∧ cur[0]? = some (.string s) ∧ Go.RowKit.Below w.heap.size w w' := by
  have hseq := AnyZ.keys_gives (H := Unit) ky10 Fence.wide 3 trivial rfl (by omega) Bm b 1 _ w hBl hB (owns1 hb hk hs hc)
  have h := AnyZ.appendSeq_in ky11 Fence.wide 4 trivial rfl (by omega) 308 #[.pointer (some ⟨Bm, 0, none⟩)] trivial (enters_of Tryz.func308 (by kernel_rfl) rfl) _ _ (by simp [Maps.size, maxLen]) (by simp [Maps.size]) w hseq
  refine (callsIn_wide.1 h).mono ?_
  rintro e' w' ⟨v, ss, rfl, hp, ⟨hl, hrow⟩, hnil, hbel⟩
  obtain rfl : ss = [s.data.toList] := List.perm_singleton.1 hp
  rcases hrow with ⟨_, h0⟩ | ⟨g, cap, cur, rfl, r1, r2, r3, r4, r5, r6⟩
  · simp at h0
  · refine ⟨g, cap, cur, rfl, r1, r2, by simpa using r3, by simpa using r5, ?_, hbel⟩
    have : cur.toList.take 1 = [Value.string s] := by simpa using r6
    cases hcu : cur.toList with
    | nil => rw [hcu] at this; cases this
    | cons a l =>
      rw [hcu] at this
      simp only [List.take_succ_cons, List.take_zero, List.cons.injEq, and_true] at this
      subst this
      rw [← Array.getElem?_toList, hcu]; rfl
def app1X (xt : XTbl) (run : RunG (AV × Heap)) : XFn := fun args h => match args with
  | [.lit (.slice none 0 0), .fn (.func g) [] [.ptr i 0]] => bif Nat.beq g 308 then (match h.get i with
    | some (.cells _ (.av [.mp j])) => (match h.get j with
      | some (.map [(.lit (.string s), _, born)] clock) => bif Nat.ble s.size maxLen && Nat.blt born clock then some (.slU h.next 0 1 1, h.push (.room 9 (.av [.lit (.string s)]))) else none
      | _ => app0X xt run args h)
    | _ => app0X xt run args h) else app0X xt run args h
  | _ => app0X xt run args h
theorem app1X_ok {xt : XTbl} {run : RunG (AV × Heap)} (hr : ∀ g args h K a, lookX xt g = none → run g args h K = .ok a → Sp Tryz.prog g args h (fun v h' => K v h' = .ok a)) {args : List AV} {h h' : Heap} {v : AV} (ho : app1X xt run args h = some (v, h')) :
    Sp Tryz.prog 323 args h (fun v1 h1 => v1 = v ∧ h1 = h') := by
  unfold app1X at ho
  split at ho
  · rename_i g i
    cases hg : Nat.beq g 308 <;> rw [hg] at ho
    · exact app0X_ok hr ho
    · have hg := Nat.eq_of_beq_eq_true hg
      simp only [cond_true] at ho
      split at ho
      · rename_i ty j hi
        split at ho
        · rename_i s val born clock hj
          cases hb : (Nat.ble s.size maxLen && Nat.blt born clock) <;> rw [hb] at ho
          · cases ho
          · simp only [cond_true, Option.some.injEq, Prod.mk.injEq] at ho
            obtain ⟨rfl, rfl⟩ := ho
            rw [Bool.and_eq_true] at hb
            have hs := Nat.le_of_ble_eq_true hb.1
            have hc := nblt_iff.1 hb.2
            refine ⟨⟨_, Tryz.func323, by kernel_rfl, by kernel_rfl⟩, fun ρ T w vs hR hl => ?_⟩
            simp only [LRel] at hl
            obtain ⟨u0, _, hvs, hu0, u1, _, rfl, hu1, rfl⟩ := hl
            simp only [VRel] at hu0 hu1
            subst hu0
            obtain ⟨fa, ca, rfl, hfa, hca⟩ := hu1
            rw [vs2 hvs]
            simp only [LRel] at hfa hca
            obtain ⟨u, _, hca, hu, rfl⟩ := hca
            simp only [VRel] at hu
            obtain ⟨a, ha, rfl⟩ := hu
            obtain rfl : fa = #[] := by cases fa; simp_all
            obtain rfl : ca = #[.pointer (some ⟨a.blk, a.base + 0, none⟩)] := by cases ca; simp_all
            have hR' := hR
            obtain ⟨S, h1, h2, h3, h4, h5⟩ := hR
            obtain ⟨a', ha', hO⟩ := h1 i _ hi
            rw [ha] at ha'; cases ha'
            obtain ⟨hb0, hS, arr, ha1, ha2, ha3, ha4⟩ := hO
            obtain ⟨um, hm1, hm2⟩ := ha4 0 (.mp j) rfl
            simp only [VRel] at hm2
            obtain ⟨aj, haj, rfl⟩ := hm2
            obtain ⟨aj', haj', hOj⟩ := h1 j _ hj
            rw [haj] at haj'; cases haj'
            obtain ⟨hSj, marr, hmb, hmr⟩ := hOj
            simp only [MRel] at hmr
            obtain ⟨en, _, hme, hmk, _, hborn, rfl⟩ := hmr
            obtain rfl : marr = #[en] := by cases marr; simp_all
            simp only [VRel] at hmk
            have hBl : a.blk < w.heap.size := (h3 i _ _ hi hS).2
            have hcell : w.cell? ⟨a.blk, 0, none⟩ = some (.map (some aj.blk)) := by
              simp [World.cell?, ha1, hb0] at hm1 ⊢
              simpa using hm1
            rw [hb0, hg]
            refine (one_call hcell hBl hmb hmk hs (by rw [hborn]; exact hc)).mono ?_
            rintro e w' ⟨gb, cap, cur, rfl, q1, q2, q3, q4, q5, q6⟩
            have hgl : gb < w'.heap.size := (Array.getElem?_eq_some_iff.1 q2).1
            obtain ⟨ρ', l1, l2, l3, l4, l5⟩ := rel_new (a := ⟨gb, 0, cap⟩) (o := .room 9 (.av [.lit (.string s)])) hR' q6 q1 hgl rfl (fun ρ' => ⟨rfl, rfl, cur, q2, q4, by simp [Cs.size]; omega, fun k x hk => by
              cases k with
              | zero => cases hk; exact ⟨_, by simpa using q5, by simp [VRel]⟩
              | succ k => simp [Cs.get] at hk⟩)
            exact ⟨ρ', .slU h.next 0 1 1, _, _, l3, by simp, l4, by simp only [VRel]; exact ⟨_, cap, l2, rfl, q3, by simp⟩, rfl, l5, rfl, rfl⟩
        · exact app0X_ok hr ho
      · exact app0X_ok hr ho
  · exact app0X_ok hr ho
end Go.Proofs.YtnlpcbdmllpddaaGreat
end
section
/- The functions that closed runs do not step through: keys of a map of one entry, too. -/
namespace Go.Proofs.YtnlpcbdmllpddaaGreat
open Go SE
noncomputable def tblP : XTbl := (323, app1X tblH (runH Tryz.prog tblH tt 2000 30)) :: tblR
theorem tblP_ok : XOk' Tryz.prog tblP := xok_cons (fun _ _ _ _ hv => .inl (app1X_ok (runH_top tt_ok mixed tblH_ok 2000 30) hv)) tblR_ok
end Go.Proofs.YtnlpcbdmllpddaaGreat
end
section
/- What a closed call yields, and the memory behind it: fusee/point.Step. -/
namespace Go.Proofs.YtnlpcbdmllpddaaGreat
open Go SE
set_option maxRecDepth 100000
noncomputable section
def sSL1V : AV := (AV.agg [(i64 1), (AV.lit (Value.string (bs [97]))), (AV.lit (Value.string (bs []))), (AV.lit (Value.string (bs []))), (AV.lit (Value.slice none 0 0)), (i64 1), (u64 1), (AV.lit (Value.string (bs []))), (AV.lit (Value.bool false)), (i64 0), (AV.lit (Value.bool false)), (AV.lit (Value.string (bs []))), (u64 0), (u64 0), (i64 0), (i64 0), (i64 (-0 - 1)), (i64 0), (i64 0), (AV.lit (Value.slice none 0 0)), (i64 0), (AV.lit (Value.slice none 0 0)), (i64 0), (AV.lit (Value.bool false)), (AV.lit (Value.string (bs []))), (AV.lit (Value.slice none 0 0)), (AV.lit (Value.slice none 0 0)), (u64 0)])
def sSL1O : List AObj := [
(AObj.cells 117 (Cs.av [(AV.ptr 1 0), (AV.ptr 2 0), (AV.ptr 3 0), (AV.ptr 4 0), (AV.ptr 5 0), (AV.ptr 6 0), (AV.ptr 7 0), (AV.ptr 8 0), (u64 1), (u64 1), (AV.slU 9 0 1 7)])),
(AObj.cells 152 (Cs.av [(AV.ptr 10 0), (AV.lit (Value.int IntKind.u32 1)), (AV.lit (Value.int IntKind.i32 0)), (AV.lit (Value.int IntKind.u32 0))])),
(AObj.cells 289 (Cs.av [(AV.sl 11 0 1 1)])),
(AObj.cells 204 (Cs.av [(u64 1), (AV.sl 12 0 1 1)])),
(AObj.cells 201 (Cs.av ([(u64 1), (u64 0), (u64 0), (AV.sl 13 0 1 1), (AV.lit (Value.bool false)), (AV.lit (Value.bool false)), (AV.lit (Value.bool true))] ++ List.replicate 513 (AV.lit (Value.bool false)) ++ [(AV.lit Value.nilFunc)]))),
(AObj.cells 247 (Cs.av [(AV.lit (Value.slice none 0 0))])),
(AObj.cells 269 (Cs.av [(AV.mp 14), (AV.mp 15), (AV.mp 16), (AV.mp 17), (AV.mp 18), (AV.mp 19), (AV.mp 20), (AV.mp 21)])),
(AObj.cells 298 (Cs.av [(AV.slU 22 0 1 5), (AV.slU 23 0 1 5), (AV.slU 24 0 1 5), (AV.slU 25 0 1 5)])),
(AObj.cells 279 (Cs.av [(AV.lit (Value.slice none 0 0)), (i64 0), (i64 0)])),
(AObj.room 155 (Cs.av [(i64 1), (AV.lit (Value.string (bs [97]))), (AV.lit (Value.string (bs [49]))), (u64 1), (u64 1), (u64 1), (i64 1)])),
(AObj.cells 218 (Cs.av [(AV.sl 26 0 10 10), (i64 4), (i64 2), (i64 1), (i64 0), (i64 0)])),
(AObj.cells 261 (Cs.tr 10 [(i64 0), (AV.lit (Value.bool false)), (AV.lit (Value.bool false)), (AV.lit (Value.bool false)), (AV.lit (Value.bool false)), (AV.lit (Value.bool false)), (AV.lit (Value.bool false)), (AV.lit (Value.bool false)), (AV.lit (Value.bool false)), (i64 0)] (PM.node (PM.node PM.leaf (some (AV.lit (Value.bool true))) (PM.node (PM.node PM.leaf (some (i64 1)) PM.leaf) none PM.leaf)) (some (i64 0)) PM.leaf))),
(AObj.cells 115 (Cs.tr 1 [(u64 0)] (PM.node PM.leaf (some (u64 1)) PM.leaf))),
(AObj.cells 3 (Cs.tr 1 [(i64 0)] (PM.node PM.leaf (some (i64 1)) PM.leaf))),
(AObj.map [] 0),
(AObj.map [] 0),
(AObj.map [] 0),
(AObj.map [((AV.lit (Value.string (bs [97]))), ((AV.agg [(AV.lit (Value.string (bs [97]))), (u64 1), (u64 1), (i64 2), (i64 0)]), 0))] 1),
(AObj.map [] 0),
(AObj.map [] 0),
(AObj.map [] 0),
(AObj.map [] 0),
(AObj.room 31 (Cs.av [(AV.lit (Value.string (bs [97]))), (u64 1), (u64 1), (i64 2), (i64 0)])),
(AObj.room 31 (Cs.av [(AV.lit (Value.string (bs [97]))), (u64 1), (u64 1), (i64 2), (i64 0)])),
(AObj.room 31 (Cs.av [(AV.lit (Value.string (bs [97]))), (u64 1), (u64 1), (i64 2), (i64 0)])),
(AObj.room 31 (Cs.av [(AV.lit (Value.string (bs [97]))), (u64 1), (u64 1), (i64 2), (i64 0)])),
(AObj.cells 253 (Cs.tr 1930 (List.replicate 192 (AV.lit (v8 0)) ++ [(AV.lit (Value.bool false))]) (N8 (N8 (N8 (N8 (N8 (N8 (N8 (N8 (L8 0) 0 (L8 0)) 0 (N8 (L8 0) 0 (L8 0))) 0 (N8 (N8 (L8 0) 0 (L8 0)) 0 (N8 (L8 0) 0 PM.leaf))) 0 (N8 (N8 (N8 (L8 0) 0 (L8 0)) 0 (N8 (L8 0) 0 PM.leaf)) 0 (N8 (N8 (L8 0) 0 (L8 0)) 0 (N8 (L8 0) 0 PM.leaf)))) 0 (N8 (N8 (N8 (N8 (L8 0) 0 (L8 0)) 0 (N8 (L8 0) 0 PM.leaf)) 0 (N8 (N8 (L8 0) 0 (L8 49)) 0 (N8 (L8 0) 0 PM.leaf))) 0 (N8 (N8 (N8 (L8 0) 0 (L8 0)) 0 (N8 (L8 0) 0 PM.leaf)) 0 (N8 (N8 (L8 0) 0 (L8 0)) 0 (N8 (L8 0) 0 PM.leaf))))) 83 (N8 (N8 (N8 (N8 (N8 (L8 0) 83 (L8 0)) 83 (N8 (L8 0) 0 PM.leaf)) 0 (N8 (N8 (L8 0) 0 (L8 38)) 0 (N8 (L8 0) 0 PM.leaf))) 0 (N8 (N8 (N8 (L8 0) 0 (L8 0)) 0 (N8 (L8 0) 0 PM.leaf)) 0 (N8 (N8 (L8 0) 0 (L8 0)) 0 (N8 (L8 0) 0 PM.leaf)))) 78 (N8 (N8 (N8 (N8 (L8 40) 78 (L8 0)) 78 (N8 (L8 40) 40 PM.leaf)) 0 (N8 (N8 (L8 0) 0 (L8 0)) 0 (N8 (L8 0) 0 PM.leaf))) 0 (N8 (N8 (N8 (L8 0) 0 (L8 0)) 0 (N8 (L8 0) 0 PM.leaf)) 0 (N8 (N8 (L8 0) 0 (L8 0)) 0 (N8 (L8 0) 0 PM.leaf)))))) 70 (N8 (N8 (N8 (N8 (N8 (N8 (L8 3) 70 (PM.node PM.leaf (some (AV.lit (Value.bool false))) PM.leaf)) 70 (N8 (L8 3) 3 (L8 0))) 0 (N8 (N8 (L8 0) 0 (L8 0)) 0 (N8 (L8 0) 0 PM.leaf))) 0 (N8 (N8 (N8 (L8 0) 0 (L8 0)) 0 (N8 (L8 0) 0 PM.leaf)) 0 (N8 (N8 (L8 0) 0 (L8 0)) 0 (N8 (L8 0) 0 PM.leaf)))) 220 (N8 (N8 (N8 (N8 (L8 0) 220 (L8 0)) 220 (N8 (L8 0) 0 PM.leaf)) 0 (N8 (N8 (L8 0) 0 (L8 0)) 0 (N8 (L8 0) 0 PM.leaf))) 0 (N8 (N8 (N8 (L8 0) 0 (L8 0)) 0 (N8 (L8 0) 0 PM.leaf)) 0 (N8 (N8 (L8 0) 0 (L8 0)) 0 (N8 (L8 0) 0 PM.leaf))))) 10 (N8 (N8 (N8 (N8 (N8 (L8 0) 10 (L8 1)) 10 (N8 (L8 0) 0 PM.leaf)) 0 (N8 (N8 (L8 0) 0 (L8 129)) 0 (N8 (L8 0) 0 PM.leaf))) 0 (N8 (N8 (N8 (L8 0) 0 (L8 0)) 0 (N8 (L8 0) 0 PM.leaf)) 0 (N8 (N8 (L8 0) 0 (L8 0)) 0 (N8 (L8 0) 0 PM.leaf)))) 0 (N8 (N8 (N8 (N8 (L8 223) 0 (L8 0)) 0 (N8 (L8 223) 223 PM.leaf)) 0 (N8 (N8 (L8 0) 0 (L8 0)) 0 (N8 (L8 0) 0 PM.leaf))) 0 (N8 (N8 (N8 (L8 0) 0 (L8 0)) 0 (N8 (L8 0) 0 PM.leaf)) 0 (N8 (N8 (L8 0) 0 (L8 0)) 0 (N8 (L8 0) 0 PM.leaf))))))) 4 (N8 (N8 (N8 (N8 (N8 (N8 (N8 (L8 0) 4 (L8 0)) 4 (PM.node (L8 0) (some (AV.lit (Value.bool false))) (L8 0))) 0 (N8 (N8 (L8 0) 0 (L8 0)) 0 (N8 (L8 0) 0 PM.leaf))) 0 (N8 (N8 (N8 (L8 0) 0 (L8 0)) 0 (N8 (L8 0) 0 PM.leaf)) 0 (N8 (N8 (L8 0) 0 (L8 0)) 0 (N8 (L8 0) 0 PM.leaf)))) 0 (N8 (N8 (N8 (N8 (L8 0) 0 (L8 0)) 0 (N8 (L8 0) 0 PM.leaf)) 0 (N8 (N8 (L8 0) 0 (L8 0)) 0 (N8 (L8 0) 0 PM.leaf))) 0 (N8 (N8 (N8 (L8 0) 0 (L8 0)) 0 (N8 (L8 0) 0 PM.leaf)) 0 (N8 (N8 (L8 0) 0 (L8 0)) 0 (N8 (L8 0) 0 PM.leaf))))) 69 (N8 (N8 (N8 (N8 (N8 (L8 0) 69 (L8 1)) 69 (N8 (L8 0) 0 PM.leaf)) 0 (N8 (N8 (L8 0) 0 (L8 201)) 0 (N8 (L8 0) 0 PM.leaf))) 0 (N8 (N8 (N8 (L8 0) 0 (L8 0)) 0 (N8 (L8 0) 0 PM.leaf)) 0 (N8 (N8 (L8 0) 0 (L8 0)) 0 (N8 (L8 0) 0 PM.leaf)))) 80 (N8 (N8 (N8 (N8 (L8 132) 80 (L8 0)) 80 (N8 (L8 132) 132 PM.leaf)) 0 (N8 (N8 (L8 0) 0 (L8 0)) 0 (N8 (L8 0) 0 PM.leaf))) 0 (N8 (N8 (N8 (L8 0) 0 (L8 0)) 0 (N8 (L8 0) 0 PM.leaf)) 0 (N8 (N8 (L8 0) 0 (L8 0)) 0 (N8 (L8 0) 0 PM.leaf)))))) 85 (N8 (N8 (N8 (N8 (N8 (N8 (L8 0) 85 (L8 1)) 85 (N8 (L8 0) 0 PM.leaf)) 0 (N8 (N8 (L8 0) 0 (L8 30)) 0 (N8 (L8 0) 0 PM.leaf))) 0 (N8 (N8 (N8 (L8 0) 0 (L8 1)) 0 (N8 (L8 0) 0 PM.leaf)) 0 (N8 (N8 (L8 0) 0 (L8 0)) 0 (N8 (L8 0) 0 PM.leaf)))) 5 (N8 (N8 (N8 (N8 (L8 107) 5 (L8 1)) 5 (N8 (L8 107) 107 PM.leaf)) 0 (N8 (N8 (L8 0) 0 (L8 0)) 0 (N8 (L8 0) 0 PM.leaf))) 0 (N8 (N8 (N8 (L8 0) 0 (L8 1)) 0 (N8 (L8 0) 0 PM.leaf)) 0 (N8 (N8 (L8 0) 0 (L8 0)) 0 (N8 (L8 0) 0 PM.leaf))))) 0 (N8 (N8 (N8 (N8 (N8 (L8 0) 0 (L8 1)) 0 (N8 (L8 0) 0 PM.leaf)) 0 (N8 (N8 (L8 0) 0 (L8 97)) 0 (N8 (L8 0) 0 PM.leaf))) 0 (N8 (N8 (N8 (L8 0) 0 (L8 0)) 0 (N8 (L8 0) 0 PM.leaf)) 0 (N8 (N8 (L8 0) 0 (L8 0)) 0 (N8 (L8 0) 0 PM.leaf)))) 0 (N8 (N8 (N8 (N8 (L8 0) 0 (L8 0)) 0 (N8 (L8 0) 0 PM.leaf)) 0 (N8 (N8 (L8 0) 0 (L8 0)) 0 (N8 (L8 0) 0 PM.leaf))) 0 (N8 (N8 (N8 (L8 0) 0 (L8 0)) 0 (N8 (L8 0) 0 PM.leaf)) 0 (N8 (N8 (L8 0) 0 (L8 0)) 0 (N8 (L8 0) 0 PM.leaf))))))))))]
abbrev sSL1M : Nat := 27
def sSL1I : List Nat := [0, 1, 2, 3, 4, 5, 6, 7, 8, 9, 10, 11, 12, 13, 14, 15, 16, 17, 18, 19, 20, 21, 22, 23, 24, 25, 26]
end
end Go.Proofs.YtnlpcbdmllpddaaGreat
end
section
/- A closed call, run: fusee/point.Step. -/
namespace Go.Proofs.YtnlpcbdmllpddaaGreat
open Go SE
set_option maxRecDepth 100000
noncomputable section
theorem sSL1_look : lookX tblP 35 = none := by kernel_rfl
theorem sSL1_run : runH Tryz.prog tblP tt 2000 40 35 [.ptr 0 0, i64 0, .agg (frL [i64 1, str (bs [97]), str es, str es] nilS)] (hO sSE6M sSE6O) (told sSL1I) = .ok (vmap (atL sSL1I) sSL1V, sSL1O.map fun o => some (omap (atL sSL1I) o)) := by kernel_rfl
theorem sSL1_sp : Sp Tryz.prog 35 [.ptr 0 0, i64 0, .agg (frL [i64 1, str (bs [97]), str es, str es] nilS)] (hO 1 [packed sSE6M sSE6O]) (fun v h => v = sSL1V ∧ h = hO 1 [packed sSL1M sSL1O]) :=
  stageP tt_ok mixed tblP_ok 2000 40 sSE6M sSE6O sSL1M sSL1I sSL1V sSL1O sSL1_look sSL1_run (by kernel_rfl) (by kernel_rfl) (by kernel_rfl)
end
end Go.Proofs.YtnlpcbdmllpddaaGreat
end
section
/- What a closed call yields, and the memory behind it: fusee/point.Step. -/
namespace Go.Proofs.YtnlpcbdmllpddaaGreat
open Go SE
set_option maxRecDepth 100000
noncomputable section
def sSL2V : AV := (AV.agg [(i64 1), (AV.lit (Value.string (bs [97]))), (AV.lit (Value.string (bs []))), (AV.lit (Value.string (bs []))), (AV.lit (Value.slice none 0 0)), (i64 2), (u64 1), (AV.lit (Value.string (bs []))), (AV.lit (Value.bool false)), (i64 0), (AV.lit (Value.bool true)), (AV.lit (Value.string (bs [97]))), (u64 1), (u64 1), (i64 2), (i64 0), (i64 (-0 - 1)), (i64 0), (i64 0), (AV.lit (Value.slice none 0 0)), (i64 0), (AV.lit (Value.slice none 0 0)), (i64 0), (AV.lit (Value.bool false)), (AV.lit (Value.string (bs []))), (AV.lit (Value.slice none 0 0)), (AV.lit (Value.slice none 0 0)), (u64 0)])
def sSL2O : List AObj := [
(AObj.cells 117 (Cs.av [(AV.ptr 1 0), (AV.ptr 2 0), (AV.ptr 3 0), (AV.ptr 4 0), (AV.ptr 5 0), (AV.ptr 6 0), (AV.ptr 7 0), (AV.ptr 8 0), (u64 1), (u64 1), (AV.slU 9 0 1 7)])),
(AObj.cells 152 (Cs.av [(AV.ptr 10 0), (AV.lit (Value.int IntKind.u32 1)), (AV.lit (Value.int IntKind.i32 0)), (AV.lit (Value.int IntKind.u32 0))])),
(AObj.cells 289 (Cs.av [(AV.sl 11 0 1 1)])),
(AObj.cells 204 (Cs.av [(u64 1), (AV.sl 12 0 1 1)])),
(AObj.cells 201 (Cs.av ([(u64 1), (u64 0), (u64 0), (AV.sl 13 0 1 1), (AV.lit (Value.bool false)), (AV.lit (Value.bool false)), (AV.lit (Value.bool true))] ++ List.replicate 513 (AV.lit (Value.bool false)) ++ [(AV.lit Value.nilFunc)]))),
(AObj.cells 247 (Cs.av [(AV.lit (Value.slice none 0 0))])),
(AObj.cells 269 (Cs.av [(AV.mp 14), (AV.mp 15), (AV.mp 16), (AV.mp 17), (AV.mp 18), (AV.mp 19), (AV.mp 20), (AV.mp 21)])),
(AObj.cells 298 (Cs.av [(AV.slU 22 0 1 5), (AV.slU 23 0 1 5), (AV.slU 24 0 1 5), (AV.slU 25 0 1 5)])),
(AObj.cells 279 (Cs.av [(AV.lit (Value.slice none 0 0)), (i64 0), (i64 0)])),
(AObj.room 155 (Cs.av [(i64 1), (AV.lit (Value.string (bs [97]))), (AV.lit (Value.string (bs [49]))), (u64 1), (u64 1), (u64 1), (i64 1)])),
(AObj.cells 218 (Cs.av [(AV.sl 26 0 10 10), (i64 4), (i64 2), (i64 1), (i64 0), (i64 0)])),
(AObj.cells 261 (Cs.tr 10 [(i64 0), (AV.lit (Value.bool false)), (AV.lit (Value.bool false)), (AV.lit (Value.bool false)), (AV.lit (Value.bool false)), (AV.lit (Value.bool false)), (AV.lit (Value.bool false)), (AV.lit (Value.bool false)), (AV.lit (Value.bool false)), (i64 0)] (PM.node (PM.node PM.leaf (some (AV.lit (Value.bool true))) (PM.node (PM.node PM.leaf (some (i64 1)) PM.leaf) none PM.leaf)) (some (i64 0)) PM.leaf))),
(AObj.cells 115 (Cs.tr 1 [(u64 0)] (PM.node PM.leaf (some (u64 1)) PM.leaf))),
(AObj.cells 3 (Cs.tr 1 [(i64 0)] (PM.node PM.leaf (some (i64 1)) PM.leaf))),
(AObj.map [] 0),
(AObj.map [] 0),
(AObj.map [] 0),
(AObj.map [((AV.lit (Value.string (bs [97]))), ((AV.agg [(AV.lit (Value.string (bs [97]))), (u64 1), (u64 1), (i64 2), (i64 0)]), 0))] 1),
(AObj.map [] 0),
(AObj.map [] 0),
(AObj.map [] 0),
(AObj.map [] 0),
(AObj.room 31 (Cs.av [(AV.lit (Value.string (bs [97]))), (u64 1), (u64 1), (i64 2), (i64 0)])),
(AObj.room 31 (Cs.av [(AV.lit (Value.string (bs [97]))), (u64 1), (u64 1), (i64 2), (i64 0)])),
(AObj.room 31 (Cs.av [(AV.lit (Value.string (bs [97]))), (u64 1), (u64 1), (i64 2), (i64 0)])),
(AObj.room 31 (Cs.av [(AV.lit (Value.string (bs [97]))), (u64 1), (u64 1), (i64 2), (i64 0)])),
(AObj.cells 253 (Cs.tr 1930 (List.replicate 192 (AV.lit (v8 0)) ++ [(AV.lit (Value.bool false))]) (N8 (N8 (N8 (N8 (N8 (N8 (N8 (N8 (L8 0) 0 (L8 0)) 0 (N8 (L8 0) 0 (L8 0))) 0 (N8 (N8 (L8 0) 0 (L8 0)) 0 (N8 (L8 0) 0 PM.leaf))) 0 (N8 (N8 (N8 (L8 0) 0 (L8 0)) 0 (N8 (L8 0) 0 PM.leaf)) 0 (N8 (N8 (L8 0) 0 (L8 0)) 0 (N8 (L8 0) 0 PM.leaf)))) 0 (N8 (N8 (N8 (N8 (L8 0) 0 (L8 0)) 0 (N8 (L8 0) 0 PM.leaf)) 0 (N8 (N8 (L8 0) 0 (L8 49)) 0 (N8 (L8 0) 0 PM.leaf))) 0 (N8 (N8 (N8 (L8 0) 0 (L8 0)) 0 (N8 (L8 0) 0 PM.leaf)) 0 (N8 (N8 (L8 0) 0 (L8 0)) 0 (N8 (L8 0) 0 PM.leaf))))) 83 (N8 (N8 (N8 (N8 (N8 (L8 0) 83 (L8 0)) 83 (N8 (L8 0) 0 PM.leaf)) 0 (N8 (N8 (L8 0) 0 (L8 38)) 0 (N8 (L8 0) 0 PM.leaf))) 0 (N8 (N8 (N8 (L8 0) 0 (L8 0)) 0 (N8 (L8 0) 0 PM.leaf)) 0 (N8 (N8 (L8 0) 0 (L8 0)) 0 (N8 (L8 0) 0 PM.leaf)))) 78 (N8 (N8 (N8 (N8 (L8 40) 78 (L8 0)) 78 (N8 (L8 40) 40 PM.leaf)) 0 (N8 (N8 (L8 0) 0 (L8 0)) 0 (N8 (L8 0) 0 PM.leaf))) 0 (N8 (N8 (N8 (L8 0) 0 (L8 0)) 0 (N8 (L8 0) 0 PM.leaf)) 0 (N8 (N8 (L8 0) 0 (L8 0)) 0 (N8 (L8 0) 0 PM.leaf)))))) 70 (N8 (N8 (N8 (N8 (N8 (N8 (L8 3) 70 (PM.node PM.leaf (some (AV.lit (Value.bool false))) PM.leaf)) 70 (N8 (L8 3) 3 (L8 0))) 0 (N8 (N8 (L8 0) 0 (L8 0)) 0 (N8 (L8 0) 0 PM.leaf))) 0 (N8 (N8 (N8 (L8 0) 0 (L8 0)) 0 (N8 (L8 0) 0 PM.leaf)) 0 (N8 (N8 (L8 0) 0 (L8 0)) 0 (N8 (L8 0) 0 PM.leaf)))) 220 (N8 (N8 (N8 (N8 (L8 0) 220 (L8 0)) 220 (N8 (L8 0) 0 PM.leaf)) 0 (N8 (N8 (L8 0) 0 (L8 0)) 0 (N8 (L8 0) 0 PM.leaf))) 0 (N8 (N8 (N8 (L8 0) 0 (L8 0)) 0 (N8 (L8 0) 0 PM.leaf)) 0 (N8 (N8 (L8 0) 0 (L8 0)) 0 (N8 (L8 0) 0 PM.leaf))))) 10 (N8 (N8 (N8 (N8 (N8 (L8 0) 10 (L8 1)) 10 (N8 (L8 0) 0 PM.leaf)) 0 (N8 (N8 (L8 0) 0 (L8 129)) 0 (N8 (L8 0) 0 PM.leaf))) 0 (N8 (N8 (N8 (L8 0) 0 (L8 0)) 0 (N8 (L8 0) 0 PM.leaf)) 0 (N8 (N8 (L8 0) 0 (L8 0)) 0 (N8 (L8 0) 0 PM.leaf)))) 0 (N8 (N8 (N8 (N8 (L8 223) 0 (L8 0)) 0 (N8 (L8 223) 223 PM.leaf)) 0 (N8 (N8 (L8 0) 0 (L8 0)) 0 (N8 (L8 0) 0 PM.leaf))) 0 (N8 (N8 (N8 (L8 0) 0 (L8 0)) 0 (N8 (L8 0) 0 PM.leaf)) 0 (N8 (N8 (L8 0) 0 (L8 0)) 0 (N8 (L8 0) 0 PM.leaf))))))) 4 (N8 (N8 (N8 (N8 (N8 (N8 (N8 (L8 0) 4 (L8 0)) 4 (PM.node (L8 0) (some (AV.lit (Value.bool false))) (L8 0))) 0 (N8 (N8 (L8 0) 0 (L8 0)) 0 (N8 (L8 0) 0 PM.leaf))) 0 (N8 (N8 (N8 (L8 0) 0 (L8 0)) 0 (N8 (L8 0) 0 PM.leaf)) 0 (N8 (N8 (L8 0) 0 (L8 0)) 0 (N8 (L8 0) 0 PM.leaf)))) 0 (N8 (N8 (N8 (N8 (L8 0) 0 (L8 0)) 0 (N8 (L8 0) 0 PM.leaf)) 0 (N8 (N8 (L8 0) 0 (L8 0)) 0 (N8 (L8 0) 0 PM.leaf))) 0 (N8 (N8 (N8 (L8 0) 0 (L8 0)) 0 (N8 (L8 0) 0 PM.leaf)) 0 (N8 (N8 (L8 0) 0 (L8 0)) 0 (N8 (L8 0) 0 PM.leaf))))) 69 (N8 (N8 (N8 (N8 (N8 (L8 0) 69 (L8 1)) 69 (N8 (L8 0) 0 PM.leaf)) 0 (N8 (N8 (L8 0) 0 (L8 201)) 0 (N8 (L8 0) 0 PM.leaf))) 0 (N8 (N8 (N8 (L8 0) 0 (L8 0)) 0 (N8 (L8 0) 0 PM.leaf)) 0 (N8 (N8 (L8 0) 0 (L8 0)) 0 (N8 (L8 0) 0 PM.leaf)))) 80 (N8 (N8 (N8 (N8 (L8 132) 80 (L8 0)) 80 (N8 (L8 132) 132 PM.leaf)) 0 (N8 (N8 (L8 0) 0 (L8 0)) 0 (N8 (L8 0) 0 PM.leaf))) 0 (N8 (N8 (N8 (L8 0) 0 (L8 0)) 0 (N8 (L8 0) 0 PM.leaf)) 0 (N8 (N8 (L8 0) 0 (L8 0)) 0 (N8 (L8 0) 0 PM.leaf)))))) 85 (N8 (N8 (N8 (N8 (N8 (N8 (L8 0) 85 (L8 1)) 85 (N8 (L8 0) 0 PM.leaf)) 0 (N8 (N8 (L8 0) 0 (L8 30)) 0 (N8 (L8 0) 0 PM.leaf))) 0 (N8 (N8 (N8 (L8 0) 0 (L8 1)) 0 (N8 (L8 0) 0 PM.leaf)) 0 (N8 (N8 (L8 0) 0 (L8 0)) 0 (N8 (L8 0) 0 PM.leaf)))) 5 (N8 (N8 (N8 (N8 (L8 107) 5 (L8 1)) 5 (N8 (L8 107) 107 PM.leaf)) 0 (N8 (N8 (L8 0) 0 (L8 0)) 0 (N8 (L8 0) 0 PM.leaf))) 0 (N8 (N8 (N8 (L8 0) 0 (L8 1)) 0 (N8 (L8 0) 0 PM.leaf)) 0 (N8 (N8 (L8 0) 0 (L8 0)) 0 (N8 (L8 0) 0 PM.leaf))))) 0 (N8 (N8 (N8 (N8 (N8 (L8 0) 0 (L8 1)) 0 (N8 (L8 0) 0 PM.leaf)) 0 (N8 (N8 (L8 0) 0 (L8 97)) 0 (N8 (L8 0) 0 PM.leaf))) 0 (N8 (N8 (N8 (L8 0) 0 (L8 0)) 0 (N8 (L8 0) 0 PM.leaf)) 0 (N8 (N8 (L8 0) 0 (L8 0)) 0 (N8 (L8 0) 0 PM.leaf)))) 0 (N8 (N8 (N8 (N8 (L8 0) 0 (L8 0)) 0 (N8 (L8 0) 0 PM.leaf)) 0 (N8 (N8 (L8 0) 0 (L8 0)) 0 (N8 (L8 0) 0 PM.leaf))) 0 (N8 (N8 (N8 (L8 0) 0 (L8 0)) 0 (N8 (L8 0) 0 PM.leaf)) 0 (N8 (N8 (L8 0) 0 (L8 0)) 0 (N8 (L8 0) 0 PM.leaf))))))))))]
abbrev sSL2M : Nat := 27
def sSL2I : List Nat := [0, 1, 2, 3, 4, 5, 6, 7, 8, 9, 10, 11, 12, 13, 14, 15, 16, 17, 18, 19, 20, 21, 22, 23, 24, 25, 26]
end
end Go.Proofs.YtnlpcbdmllpddaaGreat
end
section
/- A closed call, run: fusee/point.Step. -/
namespace Go.Proofs.YtnlpcbdmllpddaaGreat
open Go SE
set_option maxRecDepth 100000
noncomputable section
theorem sSL2_look : lookX tblP 35 = none := by kernel_rfl
theorem sSL2_run : runH Tryz.prog tblP tt 2000 40 35 [.ptr 0 0, i64 0, sSL1V] (hO sSL1M sSL1O) (told sSL2I) = .ok (vmap (atL sSL2I) sSL2V, sSL2O.map fun o => some (omap (atL sSL2I) o)) := by kernel_rfl
theorem sSL2_sp : Sp Tryz.prog 35 [.ptr 0 0, i64 0, sSL1V] (hO 1 [packed sSL1M sSL1O]) (fun v h => v = sSL2V ∧ h = hO 1 [packed sSL2M sSL2O]) :=
  stageP tt_ok mixed tblP_ok 2000 40 sSL1M sSL1O sSL2M sSL2I sSL2V sSL2O sSL2_look sSL2_run (by kernel_rfl) (by kernel_rfl) (by kernel_rfl)
end
end Go.Proofs.YtnlpcbdmllpddaaGreat
end
section
/- What a closed call yields, and the memory behind it: fusee/point.Step. -/
namespace Go.Proofs.YtnlpcbdmllpddaaGreat
open Go SE
set_option maxRecDepth 100000
noncomputable section
def sSL3V : AV := (AV.agg [(i64 1), (AV.lit (Value.string (bs [97]))), (AV.lit (Value.string (bs []))), (AV.lit (Value.string (bs []))), (AV.lit (Value.slice none 0 0)), (i64 6), (u64 1), (AV.lit (Value.string (bs []))), (AV.lit (Value.bool false)), (i64 0), (AV.lit (Value.bool true)), (AV.lit (Value.string (bs [97]))), (u64 1), (u64 1), (i64 2), (i64 0), (i64 (-0 - 1)), (i64 0), (i64 1), (AV.lit (Value.slice none 0 0)), (i64 0), (AV.lit (Value.slice none 0 0)), (i64 0), (AV.lit (Value.bool true)), (AV.lit (Value.string (bs [49]))), (AV.lit (Value.slice none 0 0)), (AV.lit (Value.slice none 0 0)), (u64 0)])
def sSL3O : List AObj := [
(AObj.cells 117 (Cs.av [(AV.ptr 1 0), (AV.ptr 2 0), (AV.ptr 3 0), (AV.ptr 4 0), (AV.ptr 5 0), (AV.ptr 6 0), (AV.ptr 7 0), (AV.ptr 8 0), (u64 1), (u64 1), (AV.slU 9 0 1 7)])),
(AObj.cells 152 (Cs.av [(AV.ptr 10 0), (AV.lit (Value.int IntKind.u32 1)), (AV.lit (Value.int IntKind.i32 0)), (AV.lit (Value.int IntKind.u32 0))])),
(AObj.cells 289 (Cs.av [(AV.sl 11 0 1 1)])),
(AObj.cells 204 (Cs.av [(u64 1), (AV.sl 12 0 1 1)])),
(AObj.cells 201 (Cs.av ([(u64 1), (u64 0), (u64 0), (AV.sl 13 0 1 1), (AV.lit (Value.bool false)), (AV.lit (Value.bool false)), (AV.lit (Value.bool true))] ++ List.replicate 513 (AV.lit (Value.bool false)) ++ [(AV.lit Value.nilFunc)]))),
(AObj.cells 247 (Cs.av [(AV.lit (Value.slice none 0 0))])),
(AObj.cells 269 (Cs.av [(AV.mp 14), (AV.mp 15), (AV.mp 16), (AV.mp 17), (AV.mp 18), (AV.mp 19), (AV.mp 20), (AV.mp 21)])),
(AObj.cells 298 (Cs.av [(AV.slU 22 0 1 5), (AV.slU 23 0 1 5), (AV.slU 24 0 1 5), (AV.slU 25 0 1 5)])),
(AObj.cells 279 (Cs.av [(AV.lit (Value.slice none 0 0)), (i64 0), (i64 0)])),
(AObj.room 155 (Cs.av [(i64 1), (AV.lit (Value.string (bs [97]))), (AV.lit (Value.string (bs [49]))), (u64 1), (u64 1), (u64 1), (i64 1)])),
(AObj.cells 218 (Cs.av [(AV.sl 26 0 10 10), (i64 4), (i64 2), (i64 1), (i64 0), (i64 0)])),
(AObj.cells 261 (Cs.tr 10 [(i64 0), (AV.lit (Value.bool false)), (AV.lit (Value.bool false)), (AV.lit (Value.bool false)), (AV.lit (Value.bool false)), (AV.lit (Value.bool false)), (AV.lit (Value.bool false)), (AV.lit (Value.bool false)), (AV.lit (Value.bool false)), (i64 0)] (PM.node (PM.node PM.leaf (some (AV.lit (Value.bool true))) (PM.node (PM.node PM.leaf (some (i64 1)) PM.leaf) none PM.leaf)) (some (i64 0)) PM.leaf))),
(AObj.cells 115 (Cs.tr 1 [(u64 0)] (PM.node PM.leaf (some (u64 1)) PM.leaf))),
(AObj.cells 3 (Cs.tr 1 [(i64 0)] (PM.node PM.leaf (some (i64 1)) PM.leaf))),
(AObj.map [] 0),
(AObj.map [] 0),
(AObj.map [] 0),
(AObj.map [((AV.lit (Value.string (bs [97]))), ((AV.agg [(AV.lit (Value.string (bs [97]))), (u64 1), (u64 1), (i64 2), (i64 0)]), 0))] 1),
(AObj.map [] 0),
(AObj.map [] 0),
(AObj.map [] 0),
(AObj.map [] 0),
(AObj.room 31 (Cs.av [(AV.lit (Value.string (bs [97]))), (u64 1), (u64 1), (i64 2), (i64 0)])),
(AObj.room 31 (Cs.av [(AV.lit (Value.string (bs [97]))), (u64 1), (u64 1), (i64 2), (i64 0)])),
(AObj.room 31 (Cs.av [(AV.lit (Value.string (bs [97]))), (u64 1), (u64 1), (i64 2), (i64 0)])),
(AObj.room 31 (Cs.av [(AV.lit (Value.string (bs [97]))), (u64 1), (u64 1), (i64 2), (i64 0)])),
(AObj.cells 253 (Cs.tr 1930 (List.replicate 192 (AV.lit (v8 0)) ++ [(AV.lit (Value.bool false))]) (N8 (N8 (N8 (N8 (N8 (N8 (N8 (N8 (L8 0) 0 (L8 0)) 0 (N8 (L8 0) 0 (L8 0))) 0 (N8 (N8 (L8 0) 0 (L8 0)) 0 (N8 (L8 0) 0 PM.leaf))) 0 (N8 (N8 (N8 (L8 0) 0 (L8 0)) 0 (N8 (L8 0) 0 PM.leaf)) 0 (N8 (N8 (L8 0) 0 (L8 0)) 0 (N8 (L8 0) 0 PM.leaf)))) 0 (N8 (N8 (N8 (N8 (L8 0) 0 (L8 0)) 0 (N8 (L8 0) 0 PM.leaf)) 0 (N8 (N8 (L8 0) 0 (L8 49)) 0 (N8 (L8 0) 0 PM.leaf))) 0 (N8 (N8 (N8 (L8 0) 0 (L8 0)) 0 (N8 (L8 0) 0 PM.leaf)) 0 (N8 (N8 (L8 0) 0 (L8 0)) 0 (N8 (L8 0) 0 PM.leaf))))) 83 (N8 (N8 (N8 (N8 (N8 (L8 0) 83 (L8 0)) 83 (N8 (L8 0) 0 PM.leaf)) 0 (N8 (N8 (L8 0) 0 (L8 38)) 0 (N8 (L8 0) 0 PM.leaf))) 0 (N8 (N8 (N8 (L8 0) 0 (L8 0)) 0 (N8 (L8 0) 0 PM.leaf)) 0 (N8 (N8 (L8 0) 0 (L8 0)) 0 (N8 (L8 0) 0 PM.leaf)))) 78 (N8 (N8 (N8 (N8 (L8 40) 78 (L8 0)) 78 (N8 (L8 40) 40 PM.leaf)) 0 (N8 (N8 (L8 0) 0 (L8 0)) 0 (N8 (L8 0) 0 PM.leaf))) 0 (N8 (N8 (N8 (L8 0) 0 (L8 0)) 0 (N8 (L8 0) 0 PM.leaf)) 0 (N8 (N8 (L8 0) 0 (L8 0)) 0 (N8 (L8 0) 0 PM.leaf)))))) 70 (N8 (N8 (N8 (N8 (N8 (N8 (L8 3) 70 (PM.node PM.leaf (some (AV.lit (Value.bool false))) PM.leaf)) 70 (N8 (L8 3) 3 (L8 0))) 0 (N8 (N8 (L8 0) 0 (L8 0)) 0 (N8 (L8 0) 0 PM.leaf))) 0 (N8 (N8 (N8 (L8 0) 0 (L8 0)) 0 (N8 (L8 0) 0 PM.leaf)) 0 (N8 (N8 (L8 0) 0 (L8 0)) 0 (N8 (L8 0) 0 PM.leaf)))) 220 (N8 (N8 (N8 (N8 (L8 0) 220 (L8 0)) 220 (N8 (L8 0) 0 PM.leaf)) 0 (N8 (N8 (L8 0) 0 (L8 0)) 0 (N8 (L8 0) 0 PM.leaf))) 0 (N8 (N8 (N8 (L8 0) 0 (L8 0)) 0 (N8 (L8 0) 0 PM.leaf)) 0 (N8 (N8 (L8 0) 0 (L8 0)) 0 (N8 (L8 0) 0 PM.leaf))))) 10 (N8 (N8 (N8 (N8 (N8 (L8 0) 10 (L8 1)) 10 (N8 (L8 0) 0 PM.leaf)) 0 (N8 (N8 (L8 0) 0 (L8 129)) 0 (N8 (L8 0) 0 PM.leaf))) 0 (N8 (N8 (N8 (L8 0) 0 (L8 0)) 0 (N8 (L8 0) 0 PM.leaf)) 0 (N8 (N8 (L8 0) 0 (L8 0)) 0 (N8 (L8 0) 0 PM.leaf)))) 0 (N8 (N8 (N8 (N8 (L8 223) 0 (L8 0)) 0 (N8 (L8 223) 223 PM.leaf)) 0 (N8 (N8 (L8 0) 0 (L8 0)) 0 (N8 (L8 0) 0 PM.leaf))) 0 (N8 (N8 (N8 (L8 0) 0 (L8 0)) 0 (N8 (L8 0) 0 PM.leaf)) 0 (N8 (N8 (L8 0) 0 (L8 0)) 0 (N8 (L8 0) 0 PM.leaf))))))) 4 (N8 (N8 (N8 (N8 (N8 (N8 (N8 (L8 0) 4 (L8 0)) 4 (PM.node (L8 0) (some (AV.lit (Value.bool false))) (L8 0))) 0 (N8 (N8 (L8 0) 0 (L8 0)) 0 (N8 (L8 0) 0 PM.leaf))) 0 (N8 (N8 (N8 (L8 0) 0 (L8 0)) 0 (N8 (L8 0) 0 PM.leaf)) 0 (N8 (N8 (L8 0) 0 (L8 0)) 0 (N8 (L8 0) 0 PM.leaf)))) 0 (N8 (N8 (N8 (N8 (L8 0) 0 (L8 0)) 0 (N8 (L8 0) 0 PM.leaf)) 0 (N8 (N8 (L8 0) 0 (L8 0)) 0 (N8 (L8 0) 0 PM.leaf))) 0 (N8 (N8 (N8 (L8 0) 0 (L8 0)) 0 (N8 (L8 0) 0 PM.leaf)) 0 (N8 (N8 (L8 0) 0 (L8 0)) 0 (N8 (L8 0) 0 PM.leaf))))) 69 (N8 (N8 (N8 (N8 (N8 (L8 0) 69 (L8 1)) 69 (N8 (L8 0) 0 PM.leaf)) 0 (N8 (N8 (L8 0) 0 (L8 201)) 0 (N8 (L8 0) 0 PM.leaf))) 0 (N8 (N8 (N8 (L8 0) 0 (L8 0)) 0 (N8 (L8 0) 0 PM.leaf)) 0 (N8 (N8 (L8 0) 0 (L8 0)) 0 (N8 (L8 0) 0 PM.leaf)))) 80 (N8 (N8 (N8 (N8 (L8 132) 80 (L8 0)) 80 (N8 (L8 132) 132 PM.leaf)) 0 (N8 (N8 (L8 0) 0 (L8 0)) 0 (N8 (L8 0) 0 PM.leaf))) 0 (N8 (N8 (N8 (L8 0) 0 (L8 0)) 0 (N8 (L8 0) 0 PM.leaf)) 0 (N8 (N8 (L8 0) 0 (L8 0)) 0 (N8 (L8 0) 0 PM.leaf)))))) 85 (N8 (N8 (N8 (N8 (N8 (N8 (L8 0) 85 (L8 1)) 85 (N8 (L8 0) 0 PM.leaf)) 0 (N8 (N8 (L8 0) 0 (L8 30)) 0 (N8 (L8 0) 0 PM.leaf))) 0 (N8 (N8 (N8 (L8 0) 0 (L8 1)) 0 (N8 (L8 0) 0 PM.leaf)) 0 (N8 (N8 (L8 0) 0 (L8 0)) 0 (N8 (L8 0) 0 PM.leaf)))) 5 (N8 (N8 (N8 (N8 (L8 107) 5 (L8 1)) 5 (N8 (L8 107) 107 PM.leaf)) 0 (N8 (N8 (L8 0) 0 (L8 0)) 0 (N8 (L8 0) 0 PM.leaf))) 0 (N8 (N8 (N8 (L8 0) 0 (L8 1)) 0 (N8 (L8 0) 0 PM.leaf)) 0 (N8 (N8 (L8 0) 0 (L8 0)) 0 (N8 (L8 0) 0 PM.leaf))))) 0 (N8 (N8 (N8 (N8 (N8 (L8 0) 0 (L8 1)) 0 (N8 (L8 0) 0 PM.leaf)) 0 (N8 (N8 (L8 0) 0 (L8 97)) 0 (N8 (L8 0) 0 PM.leaf))) 0 (N8 (N8 (N8 (L8 0) 0 (L8 0)) 0 (N8 (L8 0) 0 PM.leaf)) 0 (N8 (N8 (L8 0) 0 (L8 0)) 0 (N8 (L8 0) 0 PM.leaf)))) 0 (N8 (N8 (N8 (N8 (L8 0) 0 (L8 0)) 0 (N8 (L8 0) 0 PM.leaf)) 0 (N8 (N8 (L8 0) 0 (L8 0)) 0 (N8 (L8 0) 0 PM.leaf))) 0 (N8 (N8 (N8 (L8 0) 0 (L8 0)) 0 (N8 (L8 0) 0 PM.leaf)) 0 (N8 (N8 (L8 0) 0 (L8 0)) 0 (N8 (L8 0) 0 PM.leaf))))))))))]
abbrev sSL3M : Nat := 27
def sSL3I : List Nat := [0, 1, 2, 3, 4, 5, 6, 7, 8, 9, 10, 11, 12, 13, 14, 15, 16, 17, 18, 19, 20, 21, 22, 23, 24, 25, 26]
end
end Go.Proofs.YtnlpcbdmllpddaaGreat
end
