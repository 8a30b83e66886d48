import Derived.Test.YtenfleoejgjklaaGreatRa
import Derived.Test.YtenfleoejgjklaaGreatRb
import Derived.Test.YtenfleoejgjklaaGreatRc
import Derived.Test.YtenfleoejgjklaaGreatRd
import Derived.Test.YtenfleoejgjklaaGreatRe
import Derived.KernelRfl
import Derived.Tactics
import Derived.Tactics2
import Derived.Defers
import Derived.Laws.Pointers
import Derived.Laws.LoneSync
import Derived.RegionTactic
import Derived.RegionCalls
import Derived.ChangeAlike
set_option linter.unusedVariables false
set_option linter.unusedSimpArgs false
set_option linter.unnecessarySimpa false
section
namespace Go.Proofs.YtenfleoejgjklaaGreat
open Go SE
set_option linter.unusedSimpArgs false
theorem qm {b : Bool} {x y : Prop} : cP b x y ↔ (b = true->x)/\(b = false->y) := ⟨fun h => by cases b with
 | true => exact ⟨fun _ => h,fun e => nomatch e⟩
 | false => exact ⟨fun e => (nomatch e),fun _ => h⟩,fun h => bg h.1 h.2⟩
theorem X5 (x : CU) (hx : x.at_ + x.w<=64/\1<=x.w/\x.w<=8/\0<=x.v/\x.v < 256 ^ x.w/\∀ k,0<=x.g k/\x.g k < 256) : ahQ x := by
 obtain ⟨h1,h2,h3,h4,h5,h6⟩ := hx
 have e1 : Nat.ble 64 64 = true := rfl
 unfold ahQ
 simp only [ahN]
 simp only [aY,aU,aT,ay,aH,bI,bn,aN,aJ,au,aW,aV,bJ,bC,bD,bF,bK,bf,bG,aZ,dU,aG,aK,ah,aj,aA,aC,aB,aF]
 simp only [qm]
 refine ⟨⟨⟨x.g,0,64,64⟩,x.at_,x.w,x.v,64⟩,⟨⟨by simp,by simp,h6⟩,h1,h2,h3,h4,h5⟩,⟨⟨rfl,rfl,rfl⟩,rfl,rfl,rfl⟩,⟨rfl,fun q _ => rfl⟩,?_⟩
 have key : ∀ q,q < 64->oI x.g x.at_ x.w x.v q = bif Nat.blt q 64 then (uG.mk ⟨x.g,0,64,64⟩ x.at_ x.w x.v 64).res q else x.g q := fun q hq => by
  rw [bQ.2 hq,aO]
  simp only [uG.res,ay]
 exact ⟨aX _,fun _ => ⟨aX _,fun q hq => key q hq⟩,fun h => absurd (show Nat.ble 64 64 = false from h) (by decide)⟩
theorem ahS {g : Nat->Int} (hg : ∀ k,0<=g k/\g k < 256) (a : Nat) : ∀ w,0<=wP g a w/\wP g a w < 256 ^ w
 | 0 => ⟨Int.le_refl _,by show (0 : Int) < 256 ^ 0; decide⟩
 | w + 1 => by
  have ih := ahS hg a w
  have h := hg (a + w)
  have hp : (0 : Int) < 256 ^ w := Int.pow_pos (by omega)
  simp only [wP]
  have h1 : 0<=g (a + w) * 256 ^ w := Int.mul_nonneg h.1 (Int.le_of_lt hp)
  have h2 : g (a + w) * 256 ^ w<=255 * 256 ^ w := Int.mul_le_mul_of_nonneg_right (by omega) (Int.le_of_lt hp)
  rw [Int.pow_succ]
  omega
theorem or64 {a b : Int} {s : Nat} (ha : 0<=a) (ha2 : a < 256 ^ s) (hb : 0<=b) (hb2 : b < 256) (hs : s < 8) : IntKind.u64.wrap (((BitVec.ofInt 64 a ||| BitVec.ofInt 64 (IntKind.u64.wrap (b * 256 ^ s))).toNat : Nat) : Int) = a + b * 256 ^ s := by
 obtain ⟨x,rfl⟩ := Int.eq_ofNat_of_zero_le ha
 obtain ⟨y,rfl⟩ := Int.eq_ofNat_of_zero_le hb
 have hx : x < 2 ^ (8 * s) := by
  rw [Nat.pow_mul]
  have : ((256 : Nat) : Int) ^ s = ((256 ^ s : Nat) : Int) := (Int.natCast_pow 256 s).symm
  have h2 : (x : Int) < ((256 ^ s : Nat) : Int) := by rw [← this]; exact ha2
  exact Int.ofNat_lt.1 h2
 have hy : y < 256 := by omega
 have e1 : (y : Int) * 256 ^ s = ((y * 2 ^ (8 * s) : Nat) : Int) := by rw [Nat.pow_mul,show (2 : Nat) ^ 8 = 256 from rfl,Int.natCast_mul,Int.natCast_pow]; rfl
 have hp : 2 ^ (8 * s)<=2 ^ 56 := Nat.pow_le_pow_right (by decide) (by omega)
 have hlt : y * 2 ^ (8 * s) < 2 ^ 64 := by
  have : y * 2 ^ (8 * s)<=255 * 2 ^ 56 := Nat.mul_le_mul (by omega) hp
  omega
 have hor : x ||| y * 2 ^ (8 * s) = x + y * 2 ^ (8 * s) := by
  rw [Nat.or_comm,Nat.add_comm,← Nat.shiftLeft_eq,Nat.shiftLeft_add_eq_or_of_lt hx]
 have hx64 : x < 2 ^ 64 := by omega
 have hsum : x + y * 2 ^ (8 * s) < 2 ^ 64 := by
  have : y * 2 ^ (8 * s)<=255 * 2 ^ (8 * s) := Nat.mul_le_mul_right _ (by omega)
  omega
 have hw : ∀ n : Nat,n < 2 ^ 64->IntKind.u64.wrap (n : Int) = (n : Int) := fun n hn => by
  unfold IntKind.wrap
  simp only [IntKind.bits,IntKind.signed]
  have : (n : Int) % (2 ^ 64) = n := Int.emod_eq_of_lt (by omega) (by omega)
  simpa using this
 rw [e1,hw _ hlt,show BitVec.ofInt 64 ((x : Nat) : Int) = BitVec.ofNat 64 x from BitVec.ofInt_natCast ..,show BitVec.ofInt 64 ((y * 2 ^ (8 * s) : Nat) : Int) = BitVec.ofNat 64 (y * 2 ^ (8 * s)) from BitVec.ofInt_natCast ..,BitVec.toNat_or,BitVec.toNat_ofNat,BitVec.toNat_ofNat,Nat.mod_eq_of_lt hx64,Nat.mod_eq_of_lt hlt,hor,hw _ hsum]
 omega
theorem al2 {z : Int} (h : 0<=z/\z < 256) : IntKind.u64.wrap z = z := by
 unfold IntKind.wrap
 simp only [IntKind.bits,IntKind.signed]
 have : z % (2 ^ 64) = z := Int.emod_eq_of_lt (by omega) (by omega)
 simpa using this
theorem aeg (x : FB) (hx : x.b.ok/\x.at_ + x.w<=x.b.n/\1<=x.w/\x.w<=8) : apk x := by
 obtain ⟨⟨h1,h2,h3⟩,h4,h5,h6⟩ := hx
 unfold apk
 simp only [ahL,yQ]
 simp only [aY,aU,aT,ay,aH,bI,bn,aN,aJ,au,aW,aV,bJ,bC,bD,bF,bK,bf,bG,aZ,dU,aG,aK,ah,aj,aA,aC,aB,aF]
 refine bg (fun h => absurd (aQ h) (by omega)) fun _ => bg (fun h => absurd (aQ h) (by omega)) fun _ => ⟨by unfold I64; omega,bg (fun h => absurd (aQ h) (by omega)) fun _ => ⟨⟨0,by omega,rfl,rfl⟩,fun s hs => bg (fun h => ?_) fun h => ?_⟩⟩
 ·have hs' : s < x.w := by have := aQ h; omega
  refine ⟨by unfold I64; omega,⟨by omega,by omega⟩,by omega,by unfold I64; omega,by omega,by unfold I64; omega,s + 1,by omega,by omega,by omega,?_⟩
  have hb := ahS (g := fun k => x.b.g (x.b.q + k)) (fun k => h3 _) x.at_ s
  rw [show ((x.at_ : Int) + (s : Int)).toNat = x.at_ + s by omega,al2 (h3 _),WT (by omega),or64 hb.1 hb.2 (h3 _).1 (h3 _).2 (by omega)]
  rfl
 ·rw [show x.w = s by have := aS h; omega]
theorem aaP (a b : ByteArray) : (a.toList == b.toList) = true ↔ a = b := by
 rw [beq_iff_eq]
 exact ⟨fun h => by rw [toList_data,toList_data] at h; cases a; cases b; simp at h; simp [h],fun h => by rw [h]⟩
theorem aeh (b : dN) (hb : b.key.size < 1099511627776/\b.value.size < 1099511627776) : apj b := by
 unfold apj
 simp only [oK,Tn,apg,aph,apf,Tj,Tm,aaN]
 simp only [aY,aU,aT,ay,aH,bI,bn,aN,aJ,au,aW,aV,bJ,bC,bD,bF,bK,bf,bG,aZ,dU,aG,aK,ah,aj,aA,aC,aB,aF]
 have hF : ¬ b.may->b.VR = false := fun h => by
  cases hm : b.VR with
  | true => exact absurd (yP.1 hm) h
  | false => rfl
 have hT : b.may->b.VR = true := yP.2
 have hB : ∀ x : Bool,(x = true ↔ b.may)->b.VR = x := fun x h => by
  cases hx : x with
  | true => exact hT (h.1 hx)
  | false => exact hF fun hm => by rw [h.2 hm] at hx; cases hx
 have n1 : ((b.key.size : Int) + ((b.key.size : Int) + (b.value.size : Int) - (b.key.size : Int))) = ((b.key.size + b.value.size : Nat) : Int) := by omega
 have n2 : ((b.key.size : Int) + (b.value.size : Int) - (b.key.size : Int)) = (b.value.size : Int) := by omega
 have kz : b.key = ⟨#[]⟩->b.key.size = 0 := fun h => by rw [h]; rfl
 have vz : b.value = ⟨#[]⟩->b.value.size = 0 := fun h => by rw [h]; rfl
 obtain ⟨b1,b2⟩ := hb
 have ek := aaP b.key ⟨#[]⟩
 have ev := aaP b.value ⟨#[]⟩
 generalize hek : (b.key.toList == ByteArray.toList ⟨#[]⟩) = kk at ek ⊢
 generalize hev : (b.value.toList == ByteArray.toList ⟨#[]⟩) = vv at ev ⊢
 simp only [n1,n2,I64,beq_self_eq_true,aG,Bool.and_true]
 unfold dN.may dN.nums dN.num at hB hF hT
 clear hek hev
 generalize b.VR = m at hB hF hT ⊢
 by_cases s0 : spn b.cls = 0
 ·rw [show (spn b.cls == 0) = true from beq_iff_eq.2 s0]
  exact hF fun h => h.1 s0
 rw [show (spn b.cls == 0) = false from beq_eq_false_iff_ne.2 s0]
 refine ⟨by omega,?_⟩
 by_cases k0 : b.kind = 0
 ·simp only [k0,beq_self_eq_true,kP]
  exact hB _ (by grind)
 by_cases k1 : b.kind = 1
 ·simp only [k1,qm]
  simp only [k1] at hT hF
  clear hB ek ev kz vz
  grind (splits := 30)
 by_cases k2 : b.kind = 2
 ·by_cases hk : b.key = ⟨#[]⟩
  ·have k0' := kz hk
   have n3 : ((0 : Nat) : Int) + (((0 : Nat) : Int) + (b.value.size : Int)) = ((0 + b.value.size : Nat) : Int) := by omega
   have hkk := ek.2 hk
   simp only [k2,k0',hkk,hk,n3,qm] at hF hT ⊢
   clear hB ek ev kz vz
   grind (splits := 30)
  ·have hkk : kk = false := by
    cases h : kk with
    | false => rfl
    | true => exact absurd (ek.1 h) hk
   simp only [k2,hkk,qm] at hT hF ⊢
   clear hB ek ev kz vz
   grind
 by_cases k3 : b.kind = 3
 ·simp only [k3,qm]
  simp only [k3] at hT hF
  clear hB ek ev kz vz
  grind (splits := 30)
 ·rw [show (b.kind == 0) = false from beq_eq_false_iff_ne.2 k0,show (b.kind == 1) = false from beq_eq_false_iff_ne.2 k1,show (b.kind == 2) = false from beq_eq_false_iff_ne.2 k2,show (b.kind == 3) = false from beq_eq_false_iff_ne.2 k3]
  exact hF (by grind)
theorem iI {z : Int} (h : 0<=z) (h2 : z < 18446744073709551616) : IntKind.u64.wrap z = z := by
 unfold IntKind.wrap
 simp only [IntKind.bits,IntKind.signed]
 have : z % (2 ^ 64) = z := Int.emod_eq_of_lt h (by omega)
 simpa using this
theorem apl (b : dN) (q : Nat) : oI (oI (oI (oI (fun q => if q = 0 then 1 else if q = 1 then b.cls else if q = 2 then b.kind else if q = 3 then (b.key.size : Int) else 0) 4 2 b.value.size) 8 8 b.id) 16 8 b.ver) 24 8 b.epoch q = b.h32 q := by
 unfold oI dN.h32
 grind (splits := 30)
theorem X6 (x : zQ) (hx : x.ok) : ahO x := by
 obtain ⟨⟨d1,d2,d3⟩,dn,h1,h2,h3,h4,h5,h6,h7,h8,h9,h10,h11,h12⟩ := hx
 let g0 : Nat->Int := fun q => if q = 0 then 1 else if q = 1 then x.b.cls else if q = 2 then x.b.kind else if q = 3 then (x.b.key.size : Int) else 0
 have hg0 : ∀ k,0<=g0 k/\g0 k < 256 := fun k => by simp only [g0]; grind
 let g1 := oI g0 4 2 x.b.value.size
 have hg1 : ∀ k,0<=g1 k/\g1 k < 256 := zI hg0 _ _ _
 let g2 := oI g1 8 8 x.b.id
 have hg2 : ∀ k,0<=g2 k/\g2 k < 256 := zI hg1 _ _ _
 let g3 := oI g2 16 8 x.b.ver
 have hg3 : ∀ k,0<=g3 k/\g3 k < 256 := zI hg2 _ _ _
 let g4 := oI g3 24 8 x.b.epoch
 have hg4 : ∀ k,0<=g4 k/\g4 k < 256 := zI hg3 _ _ _
 have e4 : ∀ q,g4 q = x.b.h32 q := fun q => apl x.b q
 have hU1 := Z7 0 g4 32
 have hU := Z7 (nC 0 g4 32) (fun k => x.d.g (x.d.q + k)) x.d.n
 have w1 : IntKind.u64.wrap (x.b.value.size : Int) = x.b.value.size := iI (by omega) (by omega)
 have w2 : IntKind.u64.wrap (nC (nC 0 g4 32) (fun k => x.d.g (x.d.q + k)) x.d.n) = nC (nC 0 g4 32) (fun k => x.d.g (x.d.q + k)) x.d.n := iI hU.1 (by have := hU.2; omega)
 have ub : ∀ z : Int,0<=z->z < 256->IntKind.u8.wrap z = z := fun z a b => by rw [anz]; exact Int.emod_eq_of_lt a b
 have fin : ∀ q,q < 64->x.b.jC (fun k => x.d.g (x.d.q + k)) x.d.n q = if 36<=q then x.d.g (x.d.q + (q - 36)) else oI g4 32 4 (nC (nC 0 g4 32) (fun k => x.d.g (x.d.q + k)) x.d.n) q := fun q hq => by
  unfold dN.jC
  have ea : nC 0 g4 32 = nC 0 x.b.h32 32 := zH fun k _ => e4 k
  rw [ea]
  unfold oI
  by_cases q1 : q < 32
  ·rw [if_pos q1,if_neg (by omega),if_neg (by omega),e4]
  ·rw [if_neg q1]
   by_cases q2 : q < 36
   ·rw [if_pos q2,if_neg (by omega),if_pos (by omega)]
   ·rw [if_neg q2,if_pos (by omega)]
 unfold ahO
 simp only [aaO,aaN,Tj,aef,Bo,Tq,ahM,yQ]
 simp only [aY,aU,aT,ay,aH,bI,bn,aN,aJ,au,aW,aV,bJ,bC,bD,bF,bK,bf,bG,aZ,dU,aG,aK,ah,aj,aA,aC,aB,aF,w1,ub _ h3 h4,ub _ h5 h6,ub _ (show (0 : Int)<=x.b.key.size by omega) (show (x.b.key.size : Int) < 256 by omega)]
 refine ⟨by decide,by decide,by decide,by decide,by decide,by decide,by decide,by decide,by decide,
  ⟨g0,4,2,x.b.value.size⟩,⟨show 4 + 2<=64 by decide,show 1<=2 by decide,show 2<=8 by decide,show (0 : Int)<=x.b.value.size by omega,show (x.b.value.size : Int) < 256 ^ 2 by omega,hg0⟩,⟨rfl,rfl,rfl⟩,fun q _ => ?_,
  ⟨g1,8,8,x.b.id⟩,⟨show 8 + 8<=64 by decide,show 1<=8 by decide,show 8<=8 by decide,h7,h8,hg1⟩,⟨rfl,rfl,rfl⟩,fun q _ => rfl,
  ⟨g2,16,8,x.b.ver⟩,⟨show 16 + 8<=64 by decide,show 1<=8 by decide,show 8<=8 by decide,h9,h10,hg2⟩,⟨rfl,rfl,rfl⟩,fun q _ => rfl,
  ⟨g3,24,8,x.b.epoch⟩,⟨show 24 + 8<=64 by decide,show 1<=8 by decide,show 8<=8 by decide,h11,h12,hg3⟩,⟨rfl,rfl,rfl⟩,fun q _ => rfl,
  by decide,by decide,by decide,32,g4,rfl,by decide,fun k _ => rfl,hg4,⟨nC 0 g4 32,x.d⟩,⟨hU1,d1,d2,d3⟩,⟨rfl,rfl,rfl⟩,⟨rfl,fun q _ => rfl⟩,
  ⟨g4,32,4,nC (nC 0 g4 32) (fun k => x.d.g (x.d.q + k)) x.d.n⟩,⟨show 32 + 4<=64 by decide,show 1<=4 by decide,show 4<=8 by decide,hU.1,hU.2,hg4⟩,⟨rfl,rfl,w2.symm⟩,fun q _ => rfl,?_⟩
 ·simp only [Cs.eff,bV,dI,dJ,dY,← Bool.decide_and,g0]
  split
  ·grind
  ·grind
 ·simp only [qm]
  refine ⟨by decide,by decide,by decide,fun hb => ⟨d1,fun q hq => ?_⟩,fun hb => ⟨by omega,fun q hq => ?_⟩⟩
  ·rw [fin q hq]
   have hn : x.d.n = 28 := by have := Nat.le_of_ble_eq_true hb; omega
   simp only [Cs.eff,bV,dI,dJ,dY,← Bool.decide_and,hn]
   grind
  ·rw [fin q hq]
   simp only [Cs.eff,bV,dI,dJ,dY,← Bool.decide_and]
   grind
theorem anI : bU Tryz.prog 229 anH := dR dD mixed (.cons (bM kQ) (.cons (bM ag7) .nil)) noA 200 5 (fun _ => rfl) (fun _ => rfl) fun x hx => Eq.mp (al0 x) (aeh x (aY.1 hx))
theorem arw : bU Tryz.prog 228 ape := dR dD mixed .nil aru 200 5 (fun _ => rfl) (fun _ => rfl) fun x hx => Eq.mp (al1 x) (aeg x (aY.1 hx))
theorem apm : bU Tryz.prog 169 X3 := dR dD mixed (.cons (bM anA) .nil) noA 200 5 (fun _ => rfl) (fun _ => rfl) fun x hx => Eq.mp (ahR x) (X5 x (aY.1 hx))
theorem al3 : fA Tryz.prog arv := .cons Z8 (.cons (bM anx) (.cons (bM apm) .nil))
theorem apn : bU Tryz.prog 114 X4 := dR dD mixed al3 noA 200 5 (fun _ => rfl) (fun _ => rfl) fun x hx => Eq.mp (ahP x) (X6 x (aY.1 hx))
end Go.Proofs.YtenfleoejgjklaaGreat
end
section
namespace Go.Proofs.YtenfleoejgjklaaGreat
open Go SE
noncomputable def al4 : Ctr := { X := dN,args := fun b => [b.av],k := 0,os := fun _ => [],pre := fun b => Hd (b.may/\b.key.size < 1099511627776/\b.value.size < 1099511627776),outs := [
 { Y := Unit,post := fun b _ => Hd (b.cls = 0),ret := fun _ _ => .tup [.slE 0 0 1 64 64,i64 0],m := 1,os := fun b _ => [.cells 5 (rowB b.enc 64)] },
 { Y := Unit,post := fun b _ => Hd (b.cls ≠ 0),ret := fun b _ => .tup [.slW 0 0 1 (64 * b.dA),i64 0],m := 1,os := fun b _ => [.room 5 (rowB b.enc (64 * b.dA))] }] }
noncomputable def arx (x : dN) : FuncId->vK := fun f => bif Nat.beq f 180 then (fun b _ _ => bif Nat.beq b 0 then [
 { σ := Unit,fr := fun _ => [(31,i64 0),(4,.slE 1 28 1 (x.iM - 28) (x.iM - 28)),(5,.slE 2 0 1 64 64)],ob := fun _ => [],inv := fun _ => Hd True,meas := fun _ => x.dA + 1,test := fun fr _ => (match SE.look fr 5 with | .slE .. => true | _ => false) },
 { σ := Nat,fr := fun i => [(31,i64 i),(4,.slE 1 (28 + 63 * i) 1 (x.iM - 28 - 63 * i) (x.iM - 28 - 63 * i)),(5,.slW 3 0 1 (64 * (i + 1)))],ob := fun i => [(3,some (.room 5 (rowB x.enc (64 * (i + 1)))))],inv := fun i => Hd (1<=i/\i + 1<=x.dA),meas := fun i => x.dA - i,nx := 1,test := fun fr _ => (match SE.look fr 5 with | .slE .. => false | _ => true) }] else []) else fun _ _ _ => []
noncomputable def FC : Ctr := det Int (fun c => [i64 c]) 0 (fun _ => []) (fun c => Hd (0<=c/\c<=3)) (fun _ => .slE 0 0 1 64 64) 1 (fun c => [.cells 5 (rowB ((dN.mk c 0 0 0 0 ⟨#[]⟩ ⟨#[]⟩).jC (fun _ => 0) (cpc c).toNat) 64)])
structure Bq where
 b : Bys
 s : Nat
def Bq.at_ (x : Bq) (i : Nat) : Int := if i < 28 then x.b.g (x.b.q + (36 + i)) else x.b.g (x.b.q + (64 * ((i - 28) / 63 + 1) + 1 + (i - 28) % 63))
def Bq.str (x : Bq) : ByteArray := mkStr (28 + 63 * (x.s - 1)) (fun i => UInt8.ofNat (x.at_ i).toNat)
def X7 : Ctr := det Bq (fun x => [x.b.av 0]) 1 (fun x => [x.b.ro]) (fun x => Hd (x.b.ok/\x.b.n = 64 * x.s/\1<=x.s/\x.s<=8)) (fun x => .lit (.string x.str)) 1 (fun x => [x.b.ro])
def anJ (x : Bq) : FuncId->vK := fun f => bif Nat.beq f 179 then (fun b _ h => bif Nat.beq b 0 then [
 { σ := Unit,fr := fun _ => [(4,i64 64),(3,.slW 2 0 1 28)],ob := fun _ => [(2,some (.room 5 (rowB x.at_ 28)))],inv := fun _ => Hd True,meas := fun _ => x.s + 1,test := fun fr _ => (match SE.look fr 3 with | .slW i _ _ _ => Nat.beq i 2 | _ => false) },
 { σ := Nat,fr := fun i => [(4,i64 (64 + 64 * i : Nat)),(3,.slW 3 0 1 (28 + 63 * i))],ob := fun i => [(2,none),(3,some (.room 5 (rowB x.at_ (28 + 63 * i))))],inv := fun i => Hd (1<=i/\i + 1<=x.s),meas := fun i => x.s - i,nx := 1,test := fun fr _ => (match SE.look fr 3 with | .slW i _ _ _ => !Nat.beq i 2 | _ => false) }] else []) else fun _ _ _ => []
structure ahT where
 b : dN
 g : Nat->Int
noncomputable def apo : Ctr := det ahT (fun x => [.slW 0 0 1 (64 * x.b.dA)]) 1 (fun x => [.room 5 (rowB x.g (64 * x.b.dA))]) (fun x => Hd (x.b.may/\x.b.key.size < 1099511627776/\x.b.value.size < 1099511627776/\∀ k,k < 64 * x.b.dA->x.g k = x.b.enc k)) (fun x => .tup [x.b.av,boo true]) 1 (fun x => [.room 5 (rowB x.g (64 * x.b.dA))])
noncomputable def apq : WTbl := [(113,ctrT yw),(115,ctrT anC),(229,ctrT anH),(114,ctrT X4)]
noncomputable def arz : WTbl := [(113,ctrT yw),(228,ctrT ape),(179,ctrT X7),(180,ctrT al4)]
end Go.Proofs.YtenfleoejgjklaaGreat
end
section
namespace Go.Proofs.YtenfleoejgjklaaGreat
open Go SE
def JO (a : Nat) : Prop := (a : Int) = 8/\True
def Bv (a : Bys) (b : dN) : Prop := a.q = 0/\a.n = 64 * b.dA
def aaQ (a : FB) (b : dN) : Prop := Bv a.b b/\(a.at_ : Int) = 24/\JO a.w
def mP (a : Int) (b : FB) : Prop := a = wP (fun (k : Nat) => b.b.g (b.b.q + k)) b.at_ b.w
def uS (a : dN) : Prop := 0 + 64 * a.dA<=64 * a.dA
def uT (a : Bys) (b : ahT) : Prop := (a.N = 64 * b.b.dA/\∀ q : Nat,q < a.N->[Value.int .u8 (a.g q)] = [Value.int .u8 (b.g q)])/\True
def FD (a : ahT) (b : FB) (c : Bq) (d : FB) : Prop := mP a.b.epoch b/\a.b.key = ByteArray.extract c.str 0 (Int.toNat (a.g 3))/\a.b.value = ByteArray.extract c.str (Int.toNat (a.g 3)) (Int.toNat (a.g 3 + wP (fun (k : Nat) => d.b.g (d.b.q + k)) d.at_ d.w))/\True
def Tt (a : dN) (b : Nat) : Prop := isByte [Value.int .u8 (a.enc (0 + b))] = true
def aaR (a : dN) : Prop := ∀ k : Nat,k < 64 * a.dA->Tt a k
def FH (a : ahT) : Prop := ∀ k : Nat,k < 64 * a.b.dA->isByte [Value.int .u8 (a.g (0 + k))] = true
def Tv (a : ahT) : Prop := (64 * a.b.dA = 64 * a.b.dA/\∀ q : Nat,q < 64 * a.b.dA->[Value.int .u8 (a.g q)] = [Value.int .u8 (a.g q)])/\True
def aaS (a : dN) : Prop := a.kind = 0/\a.id = 0/\a.ver = 0/\a.epoch = 0/\a.key = ByteArray.mk #[]/\a.value = ByteArray.mk #[]/\True
def zS (a : ahT) : Prop := True/\((a.b.cls = 0/\aaS a.b)/\true = false/\True)/\Tv a
def yR (a : FB) : Prop := Hd (a.b.ok/\a.at_ + a.w<=a.b.n/\1<=a.w/\a.w<=8)
def aaT (a : dN) (b : Bq) (c : ahT) (d : FB) : Prop := a.key = ByteArray.extract b.str 0 (Int.toNat (c.g 3))/\a.value = ByteArray.extract b.str (Int.toNat (c.g 3)) (Int.toNat (c.g 3 + wP (fun (k : Nat) => d.b.g (d.b.q + k)) d.at_ d.w))/\True
def aaU (a : dN) : Prop := Hd (a.may/\a.key.size < 1099511627776/\a.value.size < 1099511627776)
def apr (a : ahT) (b : FB) (c : Bq) (d : FB) : Prop := True/\∃ x_6 : FB,yR x_6/\(Bv x_6.b a.b/\(x_6.at_ : Int) = 16/\JO x_6.w)/\uT x_6.b a/\∀ y_5 : Unit,True->True/\∃ x_7 : FB,yR x_7/\aaQ x_7 a.b/\uT x_7.b a/\∀ y_6 : Unit,True->True/\True/\∃ x_8 : dN,aaU x_8/\((x_8.cls = a.g 1/\x_8.kind = a.g 2/\mP x_8.id b/\mP x_8.ver x_6/\mP x_8.epoch x_7/\aaT x_8 c a d)/\True)/\True/\(∀ y_7 : Unit,Hd (x_8.cls = 0)->64<=64/\(∀ k : Nat,k < 64->Tt x_8 k)/\uS a.b/\FH a/\cP (Bool.not (BEq.beq (ByteArray.toList (@ByteArray.mk (@List.toArray UInt8 (List.map (fun (k : Nat) => UInt8.ofBitVec (@BitVec.ofNat 8 (Int.toNat (x_8.enc (0 + k))))) (@List.range 64))))) (ByteArray.toList (@ByteArray.mk (@List.toArray UInt8 (List.map (fun (k : Nat) => UInt8.ofBitVec (@BitVec.ofNat 8 (Int.toNat (a.g (0 + k))))) (@List.range (64 * a.b.dA)))))))) (∃ y_8 : Unit,zS a) (∃ y_8 : Unit,True/\((a.b.cls = a.g 1/\a.b.kind = a.g 2/\mP a.b.id b/\mP a.b.ver x_6/\FD a x_7 c d)/\true = true/\True)/\Tv a))/\∀ y_7 : Unit,Hd (x_8.cls ≠ (0 : Int))->uS x_8/\aaR x_8/\uS a.b/\FH a/\cP (Bool.not (BEq.beq (ByteArray.toList (@ByteArray.mk (@List.toArray UInt8 (List.map (fun (k : Nat) => UInt8.ofBitVec (@BitVec.ofNat 8 (Int.toNat (x_8.enc (0 + k))))) (@List.range (64 * x_8.dA)))))) (ByteArray.toList (@ByteArray.mk (@List.toArray UInt8 (List.map (fun (k : Nat) => UInt8.ofBitVec (@BitVec.ofNat 8 (Int.toNat (a.g (0 + k))))) (@List.range (64 * a.b.dA)))))))) (∃ y_8 : Unit,zS a) (∃ y_8 : Unit,True/\((a.b.cls = a.g 1/\a.b.kind = a.g 2/\mP a.b.id b/\mP a.b.ver x_6/\FD a x_7 c d)/\true = true/\True)/\Tv a)
def ahU (a : dN) : Prop := (a.cls = a.cls/\a.kind = a.kind/\a.id = a.id/\a.ver = a.ver/\a.epoch = a.epoch/\a.key = a.key/\a.value = a.value/\True)/\True
def ahV (a : zQ) : Prop := 64 = 64/\∀ q : Nat,q < 64->[Value.int .u8 (a.b.jC (fun (k : Nat) => a.d.g (a.d.q + k)) a.d.n q)] = [Value.int .u8 (a.b.jC (fun (k : Nat) => a.d.g (a.d.q + k)) a.d.n q)]
def aei (a : zQ) (b : Int) (c : dN) : Prop := ahV a/\(Int.toNat (cpc b) = Int.toNat (cpc b)/\∀ q : Nat,q < Int.toNat (cpc b)->Cs.eff (fun (p : Nat) => cond (Nat.ble 0 p && Nat.blt p (0 + ByteArray.size (c.key ++ c.value))) [Value.int .u8 (fG (c.key ++ c.value) (p - 0))] [Value.int .u8 0]) [] q = Cs.eff (fun (p : Nat) => cond (Nat.ble 0 p && Nat.blt p (0 + ByteArray.size (c.key ++ c.value))) [Value.int .u8 (fG (c.key ++ c.value) (p - 0))] [Value.int .u8 0]) [] q)/\ahU c
def aej (a : zQ) (b : Int) (c : dN) : Prop := ahV a/\(Int.toNat (cpc b) = Int.toNat (cpc b)/\∀ q : Nat,q < Int.toNat (cpc b)->Cs.eff (fun (p : Nat) => cond (Nat.ble 0 p && Nat.blt p (0 + Int.toNat (cpc b))) [Value.int .u8 (fG (c.key ++ c.value) (p - 0))] [Value.int .u8 0]) [] q = Cs.eff (fun (p : Nat) => cond (Nat.ble 0 p && Nat.blt p (0 + Int.toNat (cpc b))) [Value.int .u8 (fG (c.key ++ c.value) (p - 0))] [Value.int .u8 0]) [] q)/\ahU c
def ahW (a : dN) (b : Nat) (c : Nat) : Prop := (Nat.beq (List.length (Cs.eff (fun (p : Nat) => cond (Nat.ble 0 p && Nat.blt p (0 + ByteArray.size (a.key ++ a.value))) [Value.int .u8 (fG (a.key ++ a.value) (p - 0))] [Value.int .u8 0]) [] (28 + 63 * b + c))) 1 && List.all (Cs.eff (fun (p : Nat) => cond (Nat.ble 0 p && Nat.blt p (0 + ByteArray.size (a.key ++ a.value))) [Value.int .u8 (fG (a.key ++ a.value) (p - 0))] [Value.int .u8 0]) [] (28 + 63 * b + c)) Value.oneCell') = true
def ahX (a : dN) (b : Nat) : Prop := (Nat.beq (List.length (Cs.eff (fun (p : Nat) => cond (Nat.ble 0 p && Nat.blt p (0 + ByteArray.size (a.key ++ a.value))) [Value.int .u8 (fG (a.key ++ a.value) (p - 0))] [Value.int .u8 0]) [] (28 + b))) 1 && List.all (Cs.eff (fun (p : Nat) => cond (Nat.ble 0 p && Nat.blt p (0 + ByteArray.size (a.key ++ a.value))) [Value.int .u8 (fG (a.key ++ a.value) (p - 0))] [Value.int .u8 0]) [] (28 + b)) Value.oneCell') = true
def ahY (a : Int) (b : dN) (c : Nat) (d : Nat) : Prop := (Nat.beq (List.length (Cs.eff (fun (p : Nat) => cond (Nat.ble 0 p && Nat.blt p (0 + Int.toNat (cpc a))) [Value.int .u8 (fG (b.key ++ b.value) (p - 0))] [Value.int .u8 0]) [] (28 + 63 * c + d))) 1 && List.all (Cs.eff (fun (p : Nat) => cond (Nat.ble 0 p && Nat.blt p (0 + Int.toNat (cpc a))) [Value.int .u8 (fG (b.key ++ b.value) (p - 0))] [Value.int .u8 0]) [] (28 + 63 * c + d)) Value.oneCell') = true
def ahZ (a : Int) (b : dN) (c : Nat) : Prop := (Nat.beq (List.length (Cs.eff (fun (p : Nat) => cond (Nat.ble 0 p && Nat.blt p (0 + Int.toNat (cpc a))) [Value.int .u8 (fG (b.key ++ b.value) (p - 0))] [Value.int .u8 0]) [] (28 + c))) 1 && List.all (Cs.eff (fun (p : Nat) => cond (Nat.ble 0 p && Nat.blt p (0 + Int.toNat (cpc a))) [Value.int .u8 (fG (b.key ++ b.value) (p - 0))] [Value.int .u8 0]) [] (28 + c)) Value.oneCell') = true
def ah0 (a : dN) (b : zQ) : Prop := (∃ y_4 : Unit,Hd (a.cls = 0)/\((0 = 0/\64 = 64/\64 = 64)/\(0 : Int) = 0/\True)/\(64 = 64/\∀ q : Nat,q < 64->[Value.int .u8 (a.enc q)] = [Value.int .u8 (b.b.jC (fun (k : Nat) => b.d.g (b.d.q + k)) b.d.n q)])/\True) ∨ ∃ y_4 : Unit,Hd (a.cls ≠ (0 : Int))/\(False/\(0 : Int) = 0/\True)/\False/\True
def Tz : Prop := (0 : Int)<=64/\(0 : Int)<=0/\(0 : Int)<=281474976710592/\(0 : Int)<=4611686018427387839
def ah1 (a : dN) (b : Nat) : Prop := (∃ y_4 : Unit,Hd (a.cls = 0)/\(False/\(0 : Int) = 0/\True)/\False/\True) ∨ ∃ y_4 : Unit,Hd (a.cls ≠ (0 : Int))/\((0 = 0/\64 * a.dA = 64 * (b + 1))/\(0 : Int) = 0/\True)/\(64 * a.dA = 64 * (b + 1)/\∀ q : Nat,q < 64 * a.dA->[Value.int .u8 (a.enc q)] = [Value.int .u8 (a.enc q)])/\True
def TA (a : dN) (b : Nat) : Prop := a.iM - 28 - 63 * b<=a.iM - 28 - 63 * b
def aaV (a : dN) (b : dN) : Prop := a.cls = b.cls/\a.kind = b.kind/\a.id = b.id/\a.ver = b.ver/\a.epoch = b.epoch/\a.key = b.key/\a.value = b.value/\True
def FI (a : Nat) (b : Nat) : Prop := 64 * (a + 1) = 64 * (b + 1) + 64
def ah2 (a : Nat) (b : Nat) (c : dN) : Prop := (a : Int) = (b : Int) + 1/\(28 + 63 * a = 28 + 63 * b + (c.iM - 28 - 63 * b)/\c.iM - 28 - 63 * a = c.iM - 28 - 63 * b - (c.iM - 28 - 63 * b)/\c.iM - 28 - 63 * a = c.iM - 28 - 63 * b - (c.iM - 28 - 63 * b))/\(0 = 0/\FI a b)/\True
def TB (a : dN) (b : Nat) : Prop := TA a b/\TA a b
def rJ (a : Nat) (b : dN) : Prop := Hd (1<=a/\a + 1<=b.dA)
def JQ (a : Bys) : Prop := (rowB a.g a.N = rowB a.g a.N/\true = true)/\True
def ah3 (a : Nat) (b : Nat) (c : dN) : Prop := (a : Int) = (b : Int) + 1/\(28 + 63 * a = 28 + 63 * b + 63/\c.iM - 28 - 63 * a = c.iM - 28 - 63 * b - 63/\c.iM - 28 - 63 * a = c.iM - 28 - 63 * b - 63)/\(0 = 0/\FI a b)/\True
def ah4 (a : Nat) (b : dN) : Prop := (a : Int) = 1/\(28 + 63 * a = 28 + (b.iM - 28)/\b.iM - 28 - 63 * a = b.iM - 28 - (b.iM - 28)/\b.iM - 28 - 63 * a = b.iM - 28 - (b.iM - 28))/\(0 = 0/\64 * (a + 1) = 128)/\True
def rM (a : dN) : Prop := a.iM - 28<=a.iM - 28
def ah5 (a : Nat) (b : dN) : Prop := (a : Int) = 1/\(28 + 63 * a = 91/\b.iM - 28 - 63 * a = b.iM - 28 - 63/\b.iM - 28 - 63 * a = b.iM - 28 - 63)/\(0 = 0/\64 * (a + 1) = 128)/\True
def TF (a : Nat) : Prop := (2 * (64 * (a + 1) + 64) + 1000) * 1<=281474976710656
def FK : Prop := (0 : Int)<=0/\(0 : Int)<=63
def TG : Prop := (2 * (64 + 64) + 1000) * 1<=281474976710656
def ah6 (a : dN) (b : Int) : Prop := (0 : Int) = 0/\(28 = 28/\a.iM - 28 = Int.toNat (cpc b) - 28/\a.iM - 28 = Int.toNat (cpc b) - 28)/\(0 = 0/\64 = 64/\64 = 64)/\True
def ah7 (a : dN) (b : Nat) : Prop := (Nat.beq (List.length [Value.int .u8 (fG (a.key ++ a.value) b)]) 1 && List.all [Value.int .u8 (fG (a.key ++ a.value) b)] Value.oneCell') = true
def ah8 (a : Int) : Prop := 28<=Int.toNat (cpc a)/\Int.toNat (cpc a)<=Int.toNat (cpc a)/\Int.toNat (cpc a)<=Int.toNat (cpc a)
def TJ : Prop := 1<=64/\64<=64/\64<=64
def ah9 (a : Nat) (b : Nat) : Prop := 28 + 63 * a = 28 + 63 * b + (Int.toNat (((64 + 64 * b : Nat) : Int) + 64) - Int.toNat (((64 + 64 * b : Nat) : Int) + 1))
def aaW (a : Int) : Prop := 0<=cpc a/\cpc a<=cpc a/\1 * cpc a<=281474976710656/\cpc a < 4611686018427387904
def aps (x : dN) : Prop :=
 ∃ x_1 : dN,Hd (x_1.key.size < 1099511627776/\x_1.value.size < 1099511627776)/\(aaV x_1 x/\True)/\True/\∀ y : Unit,True->cP (Bool.not x_1.VR) ((∃ y_1 : Unit,Hd (x.cls = 0)/\(False/\(0 : Int) = 3/\True)/\False/\True) ∨ ∃ y_1 : Unit,Hd (x.cls ≠ (0 : Int))/\(False/\(0 : Int) = 3/\True)/\False/\True) (∃ x_2 : Int,True/\(x_2 = x.cls/\True)/\True/\∀ y_1 : Unit,True->aaW x_2/\((x.key.size + x.value.size : Nat) : Int)<=9223372036854775807/\0 + Int.toNat (cpc x_2)<=Int.toNat (cpc x_2)/\cP (Nat.ble (ByteArray.size (x.key ++ x.value)) (Int.toNat (cpc x_2))) ((∀ k : Nat,k < ByteArray.size (x.key ++ x.value)->ah7 x k)/\∃ x_3 : zQ,Hd x_3.ok/\(aaV x_3.b x/\(x_3.d.q = 0/\x_3.d.n = Int.toNat (cpc x_2))/\True)/\((x_3.d.N = Int.toNat (cpc x_2)/\∀ q : Nat,q < x_3.d.N->[Value.int .u8 (x_3.d.g q)] = Cs.eff (fun (p : Nat) => cond (Nat.ble 0 p && Nat.blt p (0 + ByteArray.size (x.key ++ x.value))) [Value.int .u8 (fG (x.key ++ x.value) (p - 0))] [Value.int .u8 0]) [] q)/\True)/\∀ y_2 : Unit,True->(0 : Int)<=28/\ah8 x_2/\∃ x_4 : Int,True/\(x_4 = x.cls/\True)/\True/\∀ y_3 : Unit,True->I64 (spn x_4 - 1)/\(∃ s : Unit,Hd True/\True/\ah6 x x_2/\aei x_3 x_2 x)/\(∀ s : Unit,Hd True->cP (decide (0 < spn x_4 - 1)) (Tz/\FK/\0 < 64/\(0 : Int)<=1/\TJ/\64<=64/\cP (Nat.ble (x.iM - 28) 63) (28 + (x.iM - 28)<=Int.toNat (cpc x_2)/\(∀ k : Nat,k < x.iM - 28->ahX x k)/\0<=((x.iM - 28 : Nat) : Int)/\(rM x/\rM x/\rM x)/\64<=64/\64<=64/\TG/\I64 (1 : Int)/\∃ s_1 : Nat,rJ s_1 x/\x.dA - s_1 < x.dA + 1/\ah4 s_1 x/\(64 * (s_1 + 1) = 128/\
 ∀ q : Nat,q < 64 * (s_1 + 1)->[Value.int .u8 (x.enc q)] = Cs.eff (fun (q_1 : Nat) => cond (Nat.blt q_1 64) [Value.int .u8 (x_3.b.jC (fun (k : Nat) => x_3.d.g (x_3.d.q + k)) x_3.d.n (0 + q_1))] (Cs.eff (fun (p : Nat) => cond (Nat.ble 1 p && Nat.blt p (1 + (x.iM - 28))) (Cs.eff (fun (p_1 : Nat) => cond (Nat.ble 0 p_1 && Nat.blt p_1 (0 + ByteArray.size (x.key ++ x.value))) [Value.int .u8 (fG (x.key ++ x.value) (p_1 - 0))] [Value.int .u8 0]) [] (28 + (p - 1))) (Cs.eff (fun (x_5 : Nat) => [Value.int .u8 0]) [(0,[Value.int .u8 2])] p)) [] (0 + (q_1 - 64)))) [] q)/\aei x_3 x_2 x) (91<=Int.toNat (cpc x_2)/\(∀ k : Nat,k < 63->ahX x k)/\0<=((63 : Nat) : Int)/\(63<=x.iM - 28/\rM x/\rM x)/\64<=64/\64<=64/\TG/\I64 (1 : Int)/\∃ s_1 : Nat,rJ s_1 x/\x.dA - s_1 < x.dA + 1/\ah5 s_1 x/\(64 * (s_1 + 1) = 128/\∀ q : Nat,q < 64 * (s_1 + 1)->[Value.int .u8 (x.enc q)] = Cs.eff (fun (q_1 : Nat) => cond (Nat.blt q_1 64) [Value.int .u8 (x_3.b.jC (fun (k : Nat) => x_3.d.g (x_3.d.q + k)) x_3.d.n (0 + q_1))] (Cs.eff (fun (p : Nat) => cond (Nat.ble 1 p && Nat.blt p 64) (Cs.eff (fun (p_1 : Nat) => cond (Nat.ble 0 p_1 && Nat.blt p_1 (0 + ByteArray.size (x.key ++ x.value))) [Value.int .u8 (fG (x.key ++ x.value) (p_1 - 0))] [Value.int .u8 0]) [] (28 + (p - 1))) (Cs.eff (fun (x_5 : Nat) => [Value.int .u8 0]) [(0,[Value.int .u8 2])] p)) [] (0 + (q_1 - 64)))) [] q)/\aei x_3 x_2 x)) (ah0 x x_3))/\(∀ s : Nat,rJ s x->cP (decide ((s : Int) < spn x_4 - 1)) (Tz/\FK/\0 < 64/\(0 : Int)<=1/\TJ/\64<=64/\cP (Nat.ble (x.iM - 28 - 63 * s) 63) (28 + 63 * s + (x.iM - 28 - 63 * s)<=Int.toNat (cpc x_2)/\(∀ k : Nat,k < x.iM - 28 - 63 * s->ahW x s k)/\0<=((x.iM - 28 - 63 * s : Nat) : Int)/\(TA x s/\
 TB x s)/\64 * (s + 1) = 64 * (s + 1)/\64<=64/\(∀ k : Nat,k < 64->(Nat.beq (List.length (Cs.eff (fun (p : Nat) => cond (Nat.ble 1 p && Nat.blt p (1 + (x.iM - 28 - 63 * s))) (Cs.eff (fun (p_1 : Nat) => cond (Nat.ble 0 p_1 && Nat.blt p_1 (0 + ByteArray.size (x.key ++ x.value))) [Value.int .u8 (fG (x.key ++ x.value) (p_1 - 0))] [Value.int .u8 0]) [] (28 + 63 * s + (p - 1))) (Cs.eff (fun (x_5 : Nat) => [Value.int .u8 0]) [(0,[Value.int .u8 2])] p)) [] (0 + k))) 1 && List.all (Cs.eff (fun (p : Nat) => cond (Nat.ble 1 p && Nat.blt p (1 + (x.iM - 28 - 63 * s))) (Cs.eff (fun (p_1 : Nat) => cond (Nat.ble 0 p_1 && Nat.blt p_1 (0 + ByteArray.size (x.key ++ x.value))) [Value.int .u8 (fG (x.key ++ x.value) (p_1 - 0))] [Value.int .u8 0]) [] (28 + 63 * s + (p - 1))) (Cs.eff (fun (x_5 : Nat) => [Value.int .u8 0]) [(0,[Value.int .u8 2])] p)) [] (0 + k)) Value.oneCell') = true)/\TF s/\I64 ((s : Int) + 1)/\∃ s_1 : Nat,rJ s_1 x/\x.dA - s_1 < x.dA - s/\ah2 s_1 s x/\(FI s_1 s/\∀ q : Nat,q < 64 * (s_1 + 1)->[Value.int .u8 (x.enc q)] = Cs.eff (fun (q_1 : Nat) => cond (Nat.blt q_1 (64 * (s + 1))) [Value.int .u8 (x.enc q_1)] (Cs.eff (fun (p : Nat) => cond (Nat.ble 1 p && Nat.blt p (1 + (x.iM - 28 - 63 * s))) (Cs.eff (fun (p_1 : Nat) => cond (Nat.ble 0 p_1 && Nat.blt p_1 (0 + ByteArray.size (x.key ++ x.value))) [Value.int .u8 (fG (x.key ++ x.value) (p_1 - 0))] [Value.int .u8 0]) [] (28 + 63 * s + (p - 1))) (Cs.eff (fun (x_5 : Nat) => [Value.int .u8 0]) [(0,[Value.int .u8 2])] p)) [] (0 + (q_1 - 64 * (s + 1))))) [] q)/\aei x_3 x_2 x) (28 + 63 * s + 63<=Int.toNat (cpc x_2)/\(∀ k : Nat,k < 63->ahW x s k)/\0<=((63 : Nat) : Int)/\(63<=x.iM - 28 - 63 * s/\TB x s)/\64 * (s + 1) = 64 * (s + 1)/\64<=64/\
 (∀ k : Nat,k < 64->(Nat.beq (List.length (Cs.eff (fun (p : Nat) => cond (Nat.ble 1 p && Nat.blt p 64) (Cs.eff (fun (p_1 : Nat) => cond (Nat.ble 0 p_1 && Nat.blt p_1 (0 + ByteArray.size (x.key ++ x.value))) [Value.int .u8 (fG (x.key ++ x.value) (p_1 - 0))] [Value.int .u8 0]) [] (28 + 63 * s + (p - 1))) (Cs.eff (fun (x_5 : Nat) => [Value.int .u8 0]) [(0,[Value.int .u8 2])] p)) [] (0 + k))) 1 && List.all (Cs.eff (fun (p : Nat) => cond (Nat.ble 1 p && Nat.blt p 64) (Cs.eff (fun (p_1 : Nat) => cond (Nat.ble 0 p_1 && Nat.blt p_1 (0 + ByteArray.size (x.key ++ x.value))) [Value.int .u8 (fG (x.key ++ x.value) (p_1 - 0))] [Value.int .u8 0]) [] (28 + 63 * s + (p - 1))) (Cs.eff (fun (x_5 : Nat) => [Value.int .u8 0]) [(0,[Value.int .u8 2])] p)) [] (0 + k)) Value.oneCell') = true)/\TF s/\I64 ((s : Int) + 1)/\∃ s_1 : Nat,rJ s_1 x/\x.dA - s_1 < x.dA - s/\ah3 s_1 s x/\(FI s_1 s/\∀ q : Nat,q < 64 * (s_1 + 1)->[Value.int .u8 (x.enc q)] = Cs.eff (fun (q_1 : Nat) => cond (Nat.blt q_1 (64 * (s + 1))) [Value.int .u8 (x.enc q_1)] (Cs.eff (fun (p : Nat) => cond (Nat.ble 1 p && Nat.blt p 64) (Cs.eff (fun (p_1 : Nat) => cond (Nat.ble 0 p_1 && Nat.blt p_1 (0 + ByteArray.size (x.key ++ x.value))) [Value.int .u8 (fG (x.key ++ x.value) (p_1 - 0))] [Value.int .u8 0]) [] (28 + 63 * s + (p - 1))) (Cs.eff (fun (x_5 : Nat) => [Value.int .u8 0]) [(0,[Value.int .u8 2])] p)) [] (0 + (q_1 - 64 * (s + 1))))) [] q)/\aei x_3 x_2 x)) (ah1 x s))/\True) ((∀ k : Nat,k < Int.toNat (cpc x_2)->ah7 x k)/\∃ x_3 : zQ,Hd x_3.ok/\(aaV x_3.b x/\(x_3.d.q = 0/\x_3.d.n = Int.toNat (cpc x_2))/\True)/\((x_3.d.N = Int.toNat (cpc x_2)/\
 ∀ q : Nat,q < x_3.d.N->[Value.int .u8 (x_3.d.g q)] = Cs.eff (fun (p : Nat) => cond (Nat.ble 0 p && Nat.blt p (0 + Int.toNat (cpc x_2))) [Value.int .u8 (fG (x.key ++ x.value) (p - 0))] [Value.int .u8 0]) [] q)/\True)/\∀ y_2 : Unit,True->(0 : Int)<=28/\ah8 x_2/\∃ x_4 : Int,True/\(x_4 = x.cls/\True)/\True/\∀ y_3 : Unit,True->I64 (spn x_4 - 1)/\(∃ s : Unit,Hd True/\True/\ah6 x x_2/\aej x_3 x_2 x)/\(∀ s : Unit,Hd True->cP (decide (0 < spn x_4 - 1)) (Tz/\FK/\0 < 64/\(0 : Int)<=1/\TJ/\64<=64/\cP (Nat.ble (x.iM - 28) 63) (28 + (x.iM - 28)<=Int.toNat (cpc x_2)/\(∀ k : Nat,k < x.iM - 28->ahZ x_2 x k)/\0<=((x.iM - 28 : Nat) : Int)/\(rM x/\rM x/\rM x)/\64<=64/\64<=64/\TG/\I64 (1 : Int)/\∃ s_1 : Nat,rJ s_1 x/\x.dA - s_1 < x.dA + 1/\ah4 s_1 x/\(64 * (s_1 + 1) = 128/\∀ q : Nat,q < 64 * (s_1 + 1)->[Value.int .u8 (x.enc q)] = Cs.eff (fun (q_1 : Nat) => cond (Nat.blt q_1 64) [Value.int .u8 (x_3.b.jC (fun (k : Nat) => x_3.d.g (x_3.d.q + k)) x_3.d.n (0 + q_1))] (Cs.eff (fun (p : Nat) => cond (Nat.ble 1 p && Nat.blt p (1 + (x.iM - 28))) (Cs.eff (fun (p_1 : Nat) => cond (Nat.ble 0 p_1 && Nat.blt p_1 (0 + Int.toNat (cpc x_2))) [Value.int .u8 (fG (x.key ++ x.value) (p_1 - 0))] [Value.int .u8 0]) [] (28 + (p - 1))) (Cs.eff (fun (x_5 : Nat) => [Value.int .u8 0]) [(0,[Value.int .u8 2])] p)) [] (0 + (q_1 - 64)))) [] q)/\aej x_3 x_2 x) (91<=Int.toNat (cpc x_2)/\(∀ k : Nat,k < 63->ahZ x_2 x k)/\0<=((63 : Nat) : Int)/\(63<=x.iM - 28/\rM x/\rM x)/\64<=64/\64<=64/\TG/\I64 (1 : Int)/\∃ s_1 : Nat,rJ s_1 x/\x.dA - s_1 < x.dA + 1/\ah5 s_1 x/\(64 * (s_1 + 1) = 128/\
 ∀ q : Nat,q < 64 * (s_1 + 1)->[Value.int .u8 (x.enc q)] = Cs.eff (fun (q_1 : Nat) => cond (Nat.blt q_1 64) [Value.int .u8 (x_3.b.jC (fun (k : Nat) => x_3.d.g (x_3.d.q + k)) x_3.d.n (0 + q_1))] (Cs.eff (fun (p : Nat) => cond (Nat.ble 1 p && Nat.blt p 64) (Cs.eff (fun (p_1 : Nat) => cond (Nat.ble 0 p_1 && Nat.blt p_1 (0 + Int.toNat (cpc x_2))) [Value.int .u8 (fG (x.key ++ x.value) (p_1 - 0))] [Value.int .u8 0]) [] (28 + (p - 1))) (Cs.eff (fun (x_5 : Nat) => [Value.int .u8 0]) [(0,[Value.int .u8 2])] p)) [] (0 + (q_1 - 64)))) [] q)/\aej x_3 x_2 x)) (ah0 x x_3))/\(∀ s : Nat,rJ s x->cP (decide ((s : Int) < spn x_4 - 1)) (Tz/\FK/\0 < 64/\(0 : Int)<=1/\TJ/\64<=64/\cP (Nat.ble (x.iM - 28 - 63 * s) 63) (28 + 63 * s + (x.iM - 28 - 63 * s)<=Int.toNat (cpc x_2)/\(∀ k : Nat,k < x.iM - 28 - 63 * s->ahY x_2 x s k)/\0<=((x.iM - 28 - 63 * s : Nat) : Int)/\(TA x s/\TB x s)/\64 * (s + 1) = 64 * (s + 1)/\64<=64/\(∀ k : Nat,k < 64->(Nat.beq (List.length (Cs.eff (fun (p : Nat) => cond (Nat.ble 1 p && Nat.blt p (1 + (x.iM - 28 - 63 * s))) (Cs.eff (fun (p_1 : Nat) => cond (Nat.ble 0 p_1 && Nat.blt p_1 (0 + Int.toNat (cpc x_2))) [Value.int .u8 (fG (x.key ++ x.value) (p_1 - 0))] [Value.int .u8 0]) [] (28 + 63 * s + (p - 1))) (Cs.eff (fun (x_5 : Nat) => [Value.int .u8 0]) [(0,[Value.int .u8 2])] p)) [] (0 + k))) 1 && List.all (Cs.eff (fun (p : Nat) => cond (Nat.ble 1 p && Nat.blt p (1 + (x.iM - 28 - 63 * s))) (Cs.eff (fun (p_1 : Nat) => cond (Nat.ble 0 p_1 && Nat.blt p_1 (0 + Int.toNat (cpc x_2))) [Value.int .u8 (fG (x.key ++ x.value) (p_1 - 0))] [Value.int .u8 0]) [] (28 + 63 * s + (p - 1))) (Cs.eff (fun (x_5 : Nat) => [Value.int .u8 0]) [(0,[Value.int .u8 2])] p)) [] (0 + k)) Value.oneCell') = true)/\
 TF s/\I64 ((s : Int) + 1)/\∃ s_1 : Nat,rJ s_1 x/\x.dA - s_1 < x.dA - s/\ah2 s_1 s x/\(FI s_1 s/\∀ q : Nat,q < 64 * (s_1 + 1)->[Value.int .u8 (x.enc q)] = Cs.eff (fun (q_1 : Nat) => cond (Nat.blt q_1 (64 * (s + 1))) [Value.int .u8 (x.enc q_1)] (Cs.eff (fun (p : Nat) => cond (Nat.ble 1 p && Nat.blt p (1 + (x.iM - 28 - 63 * s))) (Cs.eff (fun (p_1 : Nat) => cond (Nat.ble 0 p_1 && Nat.blt p_1 (0 + Int.toNat (cpc x_2))) [Value.int .u8 (fG (x.key ++ x.value) (p_1 - 0))] [Value.int .u8 0]) [] (28 + 63 * s + (p - 1))) (Cs.eff (fun (x_5 : Nat) => [Value.int .u8 0]) [(0,[Value.int .u8 2])] p)) [] (0 + (q_1 - 64 * (s + 1))))) [] q)/\aej x_3 x_2 x) (28 + 63 * s + 63<=Int.toNat (cpc x_2)/\(∀ k : Nat,k < 63->ahY x_2 x s k)/\0<=((63 : Nat) : Int)/\(63<=x.iM - 28 - 63 * s/\TB x s)/\64 * (s + 1) = 64 * (s + 1)/\64<=64/\(∀ k : Nat,k < 64->(Nat.beq (List.length (Cs.eff (fun (p : Nat) => cond (Nat.ble 1 p && Nat.blt p 64) (Cs.eff (fun (p_1 : Nat) => cond (Nat.ble 0 p_1 && Nat.blt p_1 (0 + Int.toNat (cpc x_2))) [Value.int .u8 (fG (x.key ++ x.value) (p_1 - 0))] [Value.int .u8 0]) [] (28 + 63 * s + (p - 1))) (Cs.eff (fun (x_5 : Nat) => [Value.int .u8 0]) [(0,[Value.int .u8 2])] p)) [] (0 + k))) 1 && List.all (Cs.eff (fun (p : Nat) => cond (Nat.ble 1 p && Nat.blt p 64) (Cs.eff (fun (p_1 : Nat) => cond (Nat.ble 0 p_1 && Nat.blt p_1 (0 + Int.toNat (cpc x_2))) [Value.int .u8 (fG (x.key ++ x.value) (p_1 - 0))] [Value.int .u8 0]) [] (28 + 63 * s + (p - 1))) (Cs.eff (fun (x_5 : Nat) => [Value.int .u8 0]) [(0,[Value.int .u8 2])] p)) [] (0 + k)) Value.oneCell') = true)/\TF s/\I64 ((s : Int) + 1)/\∃ s_1 : Nat,rJ s_1 x/\x.dA - s_1 < x.dA - s/\ah3 s_1 s x/\(FI s_1 s/\
 ∀ q : Nat,q < 64 * (s_1 + 1)->[Value.int .u8 (x.enc q)] = Cs.eff (fun (q_1 : Nat) => cond (Nat.blt q_1 (64 * (s + 1))) [Value.int .u8 (x.enc q_1)] (Cs.eff (fun (p : Nat) => cond (Nat.ble 1 p && Nat.blt p 64) (Cs.eff (fun (p_1 : Nat) => cond (Nat.ble 0 p_1 && Nat.blt p_1 (0 + Int.toNat (cpc x_2))) [Value.int .u8 (fG (x.key ++ x.value) (p_1 - 0))] [Value.int .u8 0]) [] (28 + 63 * s + (p - 1))) (Cs.eff (fun (x_5 : Nat) => [Value.int .u8 0]) [(0,[Value.int .u8 2])] p)) [] (0 + (q_1 - 64 * (s + 1))))) [] q)/\aej x_3 x_2 x)) (ah1 x s))/\True))
theorem al5 (x : dN) : aps x = wpF Tryz.prog apq tt (arx x) 200 5 180 (al4.args x) (hO al4.k (al4.os x)) (fun v h' => eH al4.k x v h' al4.outs) := by kernel_rfl
def X8 (x : Int) : Prop :=
 ∃ x_1 : Int,True/\(x_1 = x/\True)/\True/\∀ y : Unit,True->cP (BEq.beq (spn x_1) (0 : Int)) (∃ y_1 : Unit,True/\False/\False/\True) (∃ x_2 : Int,True/\(x_2 = x/\True)/\True/\∀ y_1 : Unit,True->aaW x_2/\∃ x_3 : zQ,Hd x_3.ok/\((x_3.b.cls = x/\aaS x_3.b)/\(x_3.d.q = 0/\x_3.d.n = Int.toNat (cpc x_2))/\True)/\((x_3.d.N = Int.toNat (cpc x_2)/\∀ q : Nat,q < x_3.d.N->[Value.int .u8 (x_3.d.g q)] = [Value.int .u8 0])/\True)/\∀ y_2 : Unit,True->∃ y_3 : Unit,True/\(0 = 0/\64 = 64/\64 = 64)/\(64 = 64/\∀ q : Nat,q < 64->[Value.int .u8 (dN.jC (dN.mk x (0 : Int) (0 : Int) (0 : Int) (0 : Int) (ByteArray.mk #[]) (ByteArray.mk #[])) (fun (x_4 : Nat) => (0 : Int)) (Int.toNat (cpc x)) q)] = [Value.int .u8 (x_3.b.jC (fun (k : Nat) => x_3.d.g (x_3.d.q + k)) x_3.d.n q)])/\True)
theorem aek (x : Int) : X8 x = wpF Tryz.prog apq tt (noA x) 200 5 63 (FC.args x) (hO FC.k (FC.os x)) (fun v h' => eH FC.k x v h' FC.outs) := by kernel_rfl
def aia (x : Bq) : Prop :=
 (0 : Int)<=64/\(0 : Int)<=36/\(36<=64/\64<=x.b.n/\x.b.n<=x.b.n)/\x.b.q + 36 + 28<=x.b.N/\(2 * (0 + 28) + 1000) * 1<=281474976710656/\(∃ s : Unit,Hd True/\True/\((64 : Int) = 64/\(0 = 0/\28 = 28)/\True)/\(28 = 28/\∀ q : Nat,q < 28->[Value.int .u8 (x.at_ q)] = [Value.int .u8 (x.b.g (x.b.q + 36 + (q - 0)))])/\True/\JQ x.b)/\(∀ s : Unit,Hd True->cP (decide (64 < (x.b.n : Int))) (I64 (65 : Int)/\I64 (128 : Int)/\(0 : Int)<=128/\(0 : Int)<=65/\(65<=128/\128<=x.b.n/\x.b.n<=x.b.n)/\28 = 28/\x.b.q + 65 + 63<=x.b.N/\(∀ k : Nat,k < 63->(Nat.beq (List.length [Value.int .u8 (x.b.g (x.b.q + 65 + k))]) 1 && List.all [Value.int .u8 (x.b.g (x.b.q + 65 + k))] Value.oneCell') = true)/\(2 * (28 + 63) + 1000) * 1<=281474976710656/\I64 (128 : Int)/\∃ s_1 : Nat,Hd (1<=s_1/\s_1 + 1<=x.s)/\x.s - s_1 < x.s + 1/\(((64 + 64 * s_1 : Nat) : Int) = 128/\(0 = 0/\28 + 63 * s_1 = 91)/\True)/\(28 + 63 * s_1 = 91/\∀ q : Nat,q < 28 + 63 * s_1->[Value.int .u8 (x.at_ q)] = Cs.eff (fun (q_1 : Nat) => cond (Nat.blt q_1 28) [Value.int .u8 (x.at_ q_1)] [Value.int .u8 (x.b.g (x.b.q + 65 + (q_1 - 28)))]) [] q)/\True/\JQ x.b) (28<=28/\(∀ k : Nat,k < 28->isByte [Value.int .u8 (x.at_ (0 + k))] = true)/\∃ y : Unit,True/\x.str = @ByteArray.mk (@List.toArray UInt8 (List.map (fun (k : Nat) => UInt8.ofBitVec (@BitVec.ofNat 8 (Int.toNat (x.at_ (0 + k))))) (@List.range 28)))/\JQ x.b))/\(∀ s : Nat,Hd (1<=s/\s + 1<=x.s)->cP (decide (((64 + 64 * s : Nat) : Int) < (x.b.n : Int))) (I64 (((64 + 64 * s : Nat) : Int) + 1)/\I64 (((64 + 64 * s : Nat) : Int) + 64)/\0<=((64 + 64 * s : Nat) : Int) + 64/\0<=((64 + 64 * s : Nat) : Int) + 1/\(Int.toNat (((64 + 64 * s : Nat) : Int) + 1)<=Int.toNat (((64 + 64 * s : Nat) : Int) + 64)/\
 Int.toNat (((64 + 64 * s : Nat) : Int) + 64)<=x.b.n/\x.b.n<=x.b.n)/\28 + 63 * s = 28 + 63 * s/\x.b.q + Int.toNat (((64 + 64 * s : Nat) : Int) + 1) + (Int.toNat (((64 + 64 * s : Nat) : Int) + 64) - Int.toNat (((64 + 64 * s : Nat) : Int) + 1))<=x.b.N/\(∀ k : Nat,k < Int.toNat (((64 + 64 * s : Nat) : Int) + 64) - Int.toNat (((64 + 64 * s : Nat) : Int) + 1)->(Nat.beq (List.length [Value.int .u8 (x.b.g (x.b.q + Int.toNat (((64 + 64 * s : Nat) : Int) + 1) + k))]) 1 && List.all [Value.int .u8 (x.b.g (x.b.q + Int.toNat (((64 + 64 * s : Nat) : Int) + 1) + k))] Value.oneCell') = true)/\(2 * (28 + 63 * s + (Int.toNat (((64 + 64 * s : Nat) : Int) + 64) - Int.toNat (((64 + 64 * s : Nat) : Int) + 1))) + 1000) * 1<=281474976710656/\I64 (((64 + 64 * s : Nat) : Int) + 64)/\∃ s_1 : Nat,Hd (1<=s_1/\s_1 + 1<=x.s)/\x.s - s_1 < x.s - s/\(((64 + 64 * s_1 : Nat) : Int) = ((64 + 64 * s : Nat) : Int) + 64/\(0 = 0/\ah9 s_1 s)/\True)/\(ah9 s_1 s/\∀ q : Nat,q < 28 + 63 * s_1->[Value.int .u8 (x.at_ q)] = Cs.eff (fun (q_1 : Nat) => cond (Nat.blt q_1 (28 + 63 * s)) [Value.int .u8 (x.at_ q_1)] [Value.int .u8 (x.b.g (x.b.q + Int.toNat (((64 + 64 * s : Nat) : Int) + 1) + (q_1 - (28 + 63 * s))))]) [] q)/\True/\JQ x.b) (0 + (28 + 63 * s)<=28 + 63 * s/\(∀ k : Nat,k < 28 + 63 * s->isByte [Value.int .u8 (x.at_ (0 + k))] = true)/\∃ y : Unit,True/\x.str = @ByteArray.mk (@List.toArray UInt8 (List.map (fun (k : Nat) => UInt8.ofBitVec (@BitVec.ofNat 8 (Int.toNat (x.at_ (0 + k))))) (@List.range (28 + 63 * s))))/\JQ x.b))/\True
theorem aib (x : Bq) : aia x = wpF Tryz.prog [] tt (anJ x) 200 5 179 (X7.args x) (hO X7.k (X7.os x)) (fun v h' => eH X7.k x v h' X7.outs) := by kernel_rfl
def apt (x : ahT) : Prop :=
 cP (decide (((64 * x.b.dA : Nat) : Int) < 64)) (∃ y : Unit,zS x) ((0 : Int)<=64/\(0<=64/\64<=64 * x.b.dA/\64 * x.b.dA<=64 * x.b.dA)/\FK/\0 < 64 * x.b.dA/\cP (bne (x.g 0) (1 : Int)) (∃ y : Unit,zS x) (((0 : Int)<=1/\(0 : Int)<=62)/\1 < 64 * x.b.dA/\I64 (x.g 1)/\∃ x_1 : Int,True/\(x_1 = x.g 1/\True)/\True/\∀ y : Unit,True->cP (BEq.beq (spn x_1) (0 : Int)) (∃ y_1 : Unit,zS x) (((0 : Int)<=2/\(0 : Int)<=61)/\2 < 64 * x.b.dA/\cP (decide (x.g 2 > (3 : Int))) (∃ y_1 : Unit,zS x) (((0 : Int)<=1/\(0 : Int)<=62)/\1 < 64 * x.b.dA/\I64 (x.g 1)/\((0 : Int)<=2/\(0 : Int)<=61)/\2 < 64 * x.b.dA/\I64 (x.g 2)/\∃ x_2 : Int,True/\(x_2 = x.g 1/\True)/\True/\∀ y_1 : Unit,True->I64 (spn x_2 * 64)/\cP (bne ((64 * x.b.dA : Nat) : Int) (spn x_2 * 64)) (∃ y_2 : Unit,zS x) (((0 : Int)<=3/\4<=((64 * x.b.dA : Nat) : Int))/\3 < 64 * x.b.dA/\I64 (x.g 3)/\∃ x_3 : FB,yR x_3/\(Bv x_3.b x.b/\(x_3.at_ : Int) = 4/\(x_3.w : Int) = 2/\True)/\uT x_3.b x/\∀ y_2 : Unit,True->((3 < 64 * x.b.dA/\AV.lit (Value.int .u8 (x.g 3)) = AV.lit (Value.int .u8 (x.g 3)))/\True)/\I64 (wP (fun (k : Nat) => x_3.b.g (x_3.b.q + k)) x_3.at_ x_3.w)/\∃ x_4 : Bq,Hd (x_4.b.ok/\x_4.b.n = 64 * x_4.s/\1<=x_4.s/\x_4.s<=8)/\(Bv x_4.b x.b/\True)/\uT x_4.b x/\∀ y_3 : Unit,True->I64 (x.g 3 + wP (fun (k : Nat) => x_3.b.g (x_3.b.q + k)) x_3.at_ x_3.w)/\cP (decide (x.g 3 + wP (fun (k : Nat) => x_3.b.g (x_3.b.q + k)) x_3.at_ x_3.w > (x_4.str.size : Int))) (∃ y_4 : Unit,zS x) (0<=x.g 3/\(0<=Int.toNat (x.g 3)/\Int.toNat (x.g 3)<=x_4.str.size/\x_4.str.size<=x_4.str.size)/\I64 (x.g 3 + wP (fun (k : Nat) => x_3.b.g (x_3.b.q + k)) x_3.at_ x_3.w)/\
 0<=x.g 3 + wP (fun (k : Nat) => x_3.b.g (x_3.b.q + k)) x_3.at_ x_3.w/\0<=x.g 3/\(Int.toNat (x.g 3)<=Int.toNat (x.g 3 + wP (fun (k : Nat) => x_3.b.g (x_3.b.q + k)) x_3.at_ x_3.w)/\Int.toNat (x.g 3 + wP (fun (k : Nat) => x_3.b.g (x_3.b.q + k)) x_3.at_ x_3.w)<=x_4.str.size/\x_4.str.size<=x_4.str.size)/\(∃ x_5 : FB,yR x_5/\(Bv x_5.b x.b/\(x_5.at_ : Int) = 8/\JO x_5.w)/\uT x_5.b x/\∀ y_4 : Unit,True->True/\(∃ x_6 : FB,yR x_6/\(Bv x_6.b x.b/\(x_6.at_ : Int) = 16/\JO x_6.w)/\uT x_6.b x/\∀ y_5 : Unit,True->True/\(∃ x_7 : FB,yR x_7/\aaQ x_7 x.b/\uT x_7.b x/\∀ y_6 : Unit,True->True/\True/\True/\∃ x_8 : dN,aaU x_8/\((x_8.cls = x.g 1/\x_8.kind = x.g 2/\mP x_8.id x_5/\mP x_8.ver x_6/\mP x_8.epoch x_7/\aaT x_8 x_4 x x_3)/\True)/\True/\(∀ y_7 : Unit,Hd (x_8.cls = 0)->64<=64/\(∀ k : Nat,k < 64->Tt x_8 k)/\uS x.b/\FH x/\cP (Bool.not (BEq.beq (ByteArray.toList (@ByteArray.mk (@List.toArray UInt8 (List.map (fun (k : Nat) => UInt8.ofBitVec (@BitVec.ofNat 8 (Int.toNat (x_8.enc (0 + k))))) (@List.range 64))))) (ByteArray.toList (@ByteArray.mk (@List.toArray UInt8 (List.map (fun (k : Nat) => UInt8.ofBitVec (@BitVec.ofNat 8 (Int.toNat (x.g (0 + k))))) (@List.range (64 * x.b.dA)))))))) (∃ y_8 : Unit,zS x) (∃ y_8 : Unit,True/\((x.b.cls = x.g 1/\x.b.kind = x.g 2/\mP x.b.id x_5/\mP x.b.ver x_6/\FD x x_7 x_4 x_3)/\true = true/\True)/\Tv x))/\∀ y_7 : Unit,Hd (x_8.cls ≠ (0 : Int))->uS x_8/\aaR x_8/\uS x.b/\FH x/\
 cP (Bool.not (BEq.beq (ByteArray.toList (@ByteArray.mk (@List.toArray UInt8 (List.map (fun (k : Nat) => UInt8.ofBitVec (@BitVec.ofNat 8 (Int.toNat (x_8.enc (0 + k))))) (@List.range (64 * x_8.dA)))))) (ByteArray.toList (@ByteArray.mk (@List.toArray UInt8 (List.map (fun (k : Nat) => UInt8.ofBitVec (@BitVec.ofNat 8 (Int.toNat (x.g (0 + k))))) (@List.range (64 * x.b.dA)))))))) (∃ y_8 : Unit,zS x) (∃ y_8 : Unit,True/\((x.b.cls = x.g 1/\x.b.kind = x.g 2/\mP x.b.id x_5/\mP x.b.ver x_6/\FD x x_7 x_4 x_3)/\true = true/\True)/\Tv x))/\True/\∃ x_7 : FB,yR x_7/\aaQ x_7 x.b/\uT x_7.b x/\∀ y_6 : Unit,True->True/\True/\∃ x_8 : dN,aaU x_8/\((x_8.cls = x.g 1/\x_8.kind = x.g 2/\mP x_8.id x_5/\mP x_8.ver x_6/\mP x_8.epoch x_7/\aaT x_8 x_4 x x_3)/\True)/\True/\(∀ y_7 : Unit,Hd (x_8.cls = 0)->64<=64/\(∀ k : Nat,k < 64->Tt x_8 k)/\uS x.b/\FH x/\cP (Bool.not (BEq.beq (ByteArray.toList (@ByteArray.mk (@List.toArray UInt8 (List.map (fun (k : Nat) => UInt8.ofBitVec (@BitVec.ofNat 8 (Int.toNat (x_8.enc (0 + k))))) (@List.range 64))))) (ByteArray.toList (@ByteArray.mk (@List.toArray UInt8 (List.map (fun (k : Nat) => UInt8.ofBitVec (@BitVec.ofNat 8 (Int.toNat (x.g (0 + k))))) (@List.range (64 * x.b.dA)))))))) (∃ y_8 : Unit,zS x) (∃ y_8 : Unit,True/\((x.b.cls = x.g 1/\x.b.kind = x.g 2/\mP x.b.id x_5/\mP x.b.ver x_6/\FD x x_7 x_4 x_3)/\true = true/\True)/\Tv x))/\∀ y_7 : Unit,Hd (x_8.cls ≠ (0 : Int))->uS x_8/\aaR x_8/\uS x.b/\FH x/\
 cP (Bool.not (BEq.beq (ByteArray.toList (@ByteArray.mk (@List.toArray UInt8 (List.map (fun (k : Nat) => UInt8.ofBitVec (@BitVec.ofNat 8 (Int.toNat (x_8.enc (0 + k))))) (@List.range (64 * x_8.dA)))))) (ByteArray.toList (@ByteArray.mk (@List.toArray UInt8 (List.map (fun (k : Nat) => UInt8.ofBitVec (@BitVec.ofNat 8 (Int.toNat (x.g (0 + k))))) (@List.range (64 * x.b.dA)))))))) (∃ y_8 : Unit,zS x) (∃ y_8 : Unit,True/\((x.b.cls = x.g 1/\x.b.kind = x.g 2/\mP x.b.id x_5/\mP x.b.ver x_6/\FD x x_7 x_4 x_3)/\true = true/\True)/\Tv x))/\apr x x_5 x_4 x_3)/\True/\∃ x_5 : FB,yR x_5/\(Bv x_5.b x.b/\(x_5.at_ : Int) = 8/\JO x_5.w)/\uT x_5.b x/\∀ y_4 : Unit,True->apr x x_5 x_4 x_3))))))
theorem al6 (x : ahT) : apt x = wpF Tryz.prog arz tt (noA x) 200 5 121 (apo.args x) (hO apo.k (apo.os x)) (fun v h' => eH apo.k x v h' apo.outs) := by kernel_rfl
end Go.Proofs.YtenfleoejgjklaaGreat
end
section
namespace Go.Proofs.YtenfleoejgjklaaGreat
open Go SE
set_option linter.unusedSimpArgs false
theorem uH {c : Int} (h : spn c ≠ 0) : 0<=c/\c<=3/\1<=spn c/\spn c<=8/\cpc c = 28 + 63 * (spn c - 1) := by
 unfold spn at *
 unfold cpc
 grind
theorem aic {n : Int} (h : spn (ned n) ≠ 0) : n<=cpc (ned n) := by
 unfold ned spn at *
 unfold cpc
 grind
theorem X9 {b : dN} (h : b.may) : ((b.key.size + b.value.size : Nat) : Int)<=cpc b.cls := by
 obtain ⟨hs,h⟩ := h
 have hc := uH hs
 rcases h with ⟨_,_,_,_,h1,h2⟩ | ⟨_,_,_,_,h,_⟩ | ⟨_,_,_,h,_⟩ | ⟨_,h,_⟩
 ·rw [h1,h2]; show ((0 : Nat) : Int)<=_; omega
 ·rw [← h]; exact aic (by rw [h]; exact hs)
 ·rw [← h]; exact aic (by rw [h]; exact hs)
 ·rw [h]; omega
theorem TK (x : Int) (hx : 0<=x/\x<=3) : X8 x := by
 have hs : spn x ≠ 0 := by have := XO hx; omega
 have hc := uH hs
 unfold X8
 simp only [aaW,aaS]
 simp only [aY,aU,aT,ay,aH,bI,bn,aN,aJ,au,aW,aV,bJ,bC,bD,bF,bK,bf,bG,aZ,dU,aG,aK,ah,aj,aA,aC,aB,aF]
 rw [show (spn x == 0) = false from beq_eq_false_iff_ne.2 hs,iR]
 refine ⟨by omega,⟨⟨x,0,0,0,0,⟨#[]⟩,⟨#[]⟩⟩,⟨fun _ => 0,0,(cpc x).toNat,(cpc x).toNat⟩⟩,?_,⟨⟨rfl,rfl,rfl,rfl,rfl,rfl,rfl⟩,rfl,rfl⟩,⟨rfl,fun q _ => rfl⟩,fun q _ => rfl⟩
 exact ⟨⟨show 0 + (cpc x).toNat<=(cpc x).toNat by omega,show (cpc x).toNat < 1099511627776 by omega,fun _ => ⟨show (0 : Int)<=0 by decide,show (0 : Int) < 256 by decide⟩⟩,show 28<=(cpc x).toNat by omega,show (0 : Nat) < 256 by decide,show (0 : Nat) < 65536 by decide,hx.1,show x < 256 by omega,show (0 : Int)<=0 by decide,show (0 : Int) < 256 by decide,show (0 : Int)<=0 by decide,show (0 : Int) < 18446744073709551616 by decide,show (0 : Int)<=0 by decide,show (0 : Int) < 18446744073709551616 by decide,show (0 : Int)<=0 by decide,show (0 : Int) < 18446744073709551616 by decide⟩
theorem yS {z : Int} (h : 0<=z/\z < 256) : isByte [Value.int .u8 z] = true := by
 unfold isByte
 simp only [decide_eq_true h.1,decide_eq_true h.2,Bool.and_self]
theorem aaX {x : Bq} (h : x.b.ok) (i : Nat) : 0<=x.at_ i/\x.at_ i < 256 := by
 unfold Bq.at_
 split <;> exact h.2.2 _
theorem aaY {x : Bq} {s q : Nat} (h1 : ¬ q < 28 + 63 * s) (h2 : q < 28 + 63 * (s + 1)) : x.at_ q = x.b.g (x.b.q + (64 * (s + 1) + 1) + (q - (28 + 63 * s))) := by
 unfold Bq.at_
 have e1 : (q - 28) / 63 = s := by omega
 rw [if_neg (by omega),e1]
 congr 1
 omega
theorem Ya (x : Bq) (hx : x.b.ok/\x.b.n = 64 * x.s/\1<=x.s/\x.s<=8) : aia x := by
 obtain ⟨ho,hn,h1,h2⟩ := hx
 obtain ⟨o1,o2,o3⟩ := id ho
 have t1 : ∀ s : Nat,(((64 + 64 * s : Nat) : Int) + 1).toNat = 64 * (s + 1) + 1 := fun s => by omega
 have t2 : ∀ s : Nat,(((64 + 64 * s : Nat) : Int) + 64).toNat = 64 * (s + 1) + 64 := fun s => by omega
 unfold aia
 simp only [JQ,ah9]
 simp only [aY,aU,aT,ay,aH,bI,bn,aN,aJ,au,aW,aV,bJ,bC,bD,bF,bK,bf,bG,aZ,dU,aG,aK,ah,aj,aA,aC,aB,aF,t1,t2]
 refine ⟨by decide,by decide,⟨by decide,by omega,by omega⟩,by omega,by decide,fun q hq => ?_,bg (fun h => ?_) fun h => ?_,fun s hs => bg (fun h => ?_) fun h => ?_⟩
 ·unfold Bq.at_
  rw [if_pos hq]; congr 1; omega
 ·have h := aQ h
  refine ⟨by unfold I64; omega,by unfold I64; omega,by decide,by decide,⟨by decide,by omega,by omega⟩,by omega,by decide,by unfold I64; omega,1,by omega,by omega,by omega,by omega,fun q hq => ?_⟩
  by_cases hq1 : q < 28
  ·rw [bQ.2 hq1]; rfl
  ·rw [bV,decide_eq_false hq1,aP]
   exact aaY (s := 0) (by omega) (by omega)
 ·have h := aS h
  have : x.s = 1 := by omega
  refine ⟨by decide,fun k _ => yS (aaX ho k),?_⟩
  unfold Bq.str; rw [this]; rfl
 ·have h := aQ h
  refine ⟨by unfold I64; omega,by unfold I64; omega,by omega,by omega,⟨by omega,by omega,by omega⟩,by omega,by omega,by unfold I64; omega,s + 1,by omega,by omega,by omega,by omega,fun q hq => ?_⟩
  by_cases hq1 : q < 28 + 63 * s
  ·rw [bQ.2 hq1]; rfl
  ·rw [bV,decide_eq_false hq1,aP]
   exact aaY hq1 (by omega)
 ·have h := aS h
  have : x.s = s + 1 := by omega
  refine ⟨by omega,fun k _ => yS (aaX ho k),?_⟩
  unfold Bq.str; rw [this]; rfl
theorem anK {s : ByteArray} {o k n B : Nat} (hk : k < 64) (hB : 64<=B) : (bif Nat.ble 1 k && Nat.blt k B then [Value.int .u8 (bif Nat.blt (o + (k - 1)) n then (fG s (o + (k - 1)) : Int) else 0)] else Cs.eff (fun _ => [Value.int .u8 0]) [(0,[Value.int .u8 2])] k) =
  [Value.int .u8 (if k = 0 then 2 else if o + (k - 1) < n then (fG s (o + (k - 1)) : Int) else 0)] := by
 rw [Fg]
 simp only [dI,bV,dY,← Bool.decide_and]
 by_cases h : k = 0
 ·subst h; simp
 ·rw [if_pos ⟨by omega,by omega⟩,if_neg h]
theorem NK (x : dN) (t r : Nat) (hr : r < 64) : x.enc (64 * (t + 1) + r) = if r = 0 then 2 else x.dat (28 + 63 * t + (r - 1)) := by
 unfold dN.enc
 rw [if_neg (by omega),show (64 * (t + 1) + r) % 64 = r by omega,show (64 * (t + 1) + r) / 64 = t + 1 by omega,Nat.add_sub_cancel,Nat.mul_comm t 63]
theorem NM (x : dN) {t q B o n : Nat} (h1 : ¬ q < 64 * (t + 1)) (h2 : q < 64 * (t + 1 + 1)) (hB : 64<=B) (ho : o = 28 + 63 * t) (hn : n = (x.key ++ x.value).size) : [Value.int .u8 (x.enc q)] = (bif Nat.ble 1 (q - 64 * (t + 1)) && Nat.blt (q - 64 * (t + 1)) B then [Value.int .u8 (bif Nat.blt (o + (q - 64 * (t + 1) - 1)) n then (fG (x.key ++ x.value) (o + (q - 64 * (t + 1) - 1)) : Int) else 0)] else Cs.eff (fun _ => [Value.int .u8 0]) [(0,[Value.int .u8 2])] (q - 64 * (t + 1))) := by
 rw [anK (by omega) hB,show q = 64 * (t + 1) + (q - 64 * (t + 1)) by omega,NK x t _ (by omega),Nat.add_sub_cancel_left,ho,hn]
 rfl
theorem aie {s : ByteArray} {o k n B : Nat} (hk : k < 64) (hB : 64<=B) : ((bif Nat.ble 1 k && Nat.blt k B then [Value.int .u8 (bif Nat.blt (o + (k - 1)) n then (fG s (o + (k - 1)) : Int) else 0)] else Cs.eff (fun _ => [Value.int .u8 0]) [(0,[Value.int .u8 2])] k).length.beq 1 && (bif Nat.ble 1 k && Nat.blt k B then [Value.int .u8 (bif Nat.blt (o + (k - 1)) n then (fG s (o + (k - 1)) : Int) else 0)] else Cs.eff (fun _ => [Value.int .u8 0]) [(0,[Value.int .u8 2])] k).all Value.oneCell') = true := by
 rw [anK hk hB]; rfl
theorem NP (x : dN) (k : Nat) : 0<=x.dat k/\x.dat k < 256 := by
 unfold dN.dat
 split
 ·unfold fG
  have := (((x.key ++ x.value).data.toList.getD k 0)).toNat_lt
  exact ⟨by omega,by omega⟩
 ·exact ⟨by decide,by decide⟩
theorem D6 {x : dN} (h : x.may) : x.key.size < 256/\x.value.size < 65536/\0<=x.kind/\x.kind < 256/\0<=x.id/\x.id < 18446744073709551616/\0<=x.ver/\x.ver < 18446744073709551616/\0<=x.epoch/\x.epoch < 18446744073709551616 := by
 have hC := X9 h
 have hc := uH h.1
 obtain ⟨hs,h⟩ := h
 unfold dN.nums dN.num at h
 have e0 : ByteArray.size ⟨#[]⟩ = 0 := rfl
 rcases h with ⟨h0,h1,h2,h3,h4,h5⟩ | ⟨h0,h1,h2,h3,h4,h5,h6,h7⟩ | ⟨h0,h1,h2,h3,h5,h6,h7⟩ | ⟨h0,h1,h2,h5,h6,h7⟩
 ·rw [h4,h5]; omega
 ·omega
 ·rw [h1]; omega
 ·omega
theorem ael (x : dN) (hx : x.may/\x.key.size < 1099511627776/\x.value.size < 1099511627776) : aps x := by
 obtain ⟨hm,hk,hv⟩ := hx
 have hM : x.VR = true := yP.2 hm
 have hc := uH hm.1
 have hC := X9 hm
 have hD := D6 hm
 have hsz : (x.key ++ x.value).size = x.key.size + x.value.size := ByteArray.size_append
 have hcap : (cpc x.cls).toNat = x.iM := rfl
 have hb : Nat.ble (x.key ++ x.value).size x.iM = true := by rw [Nat.ble_eq,hsz,← hcap]; omega
 have hN : x.iM = 28 + 63 * (x.dA - 1) := by unfold dN.iM dN.dA; omega
 have hS : (x.dA : Int) = spn x.cls := by unfold dN.dA; omega
 have h0 : x.cls = 0 ↔ x.dA = 1 := by
  have : x.cls = 0 ↔ spn x.cls = 1 := by unfold spn; grind
  rw [this]; omega
 have e1 : ∀ q,q < 64->x.enc q = x.jC x.dat x.iM q := fun q hq => if_pos hq
 have hN8 : x.dA<=8/\1<=x.dA := by omega
 unfold aps
 simp only [aaV,aaW,ah7,ah8,ah6,aei,Tz,FK,TJ,ahX,rM,TG,rJ,ah4,ah5,ah0,ahW,TA,TB,TF,ah2,FI,ah3,ah1,aej,ahZ,ahY,ahV,ahU]
 simp only [aY,aU,aT,ay,aH,bI,bn,aN,aJ,au,aW,aV,bJ,bC,bD,bF,bK,bf,bG,aZ,dU,aG,aK,ah,aj,aA,aC,aB,aF,hcap]
 refine ⟨x,⟨hk,hv⟩,⟨rfl,rfl,rfl,rfl,rfl,rfl,rfl⟩,?_⟩
 rw [hM,Bool.not_true,iR]
 refine ⟨by omega,by omega,by omega,?_⟩
 rw [hb,kP]
 refine ⟨⟨x,⟨x.dat,0,x.iM,x.iM⟩⟩,⟨⟨by show 0 + x.iM<=x.iM; omega,by show x.iM < 1099511627776; omega,NP x⟩,by show 28<=x.iM; omega,hD.1,hD.2.1,hc.1,by show x.cls < 256; omega,hD.2.2⟩,⟨⟨rfl,rfl,rfl,rfl,rfl,rfl,rfl⟩,rfl,rfl⟩,⟨rfl,fun q _ => ?_⟩,?_⟩
 ·simp only [bV,dY]; rfl
 ·simp only [ay]
  refine ⟨by decide,by omega,by unfold I64; omega,bg (fun h => ?_) fun h => ?_,fun s hs => bg (fun h => ?_) fun h => ?_⟩
  ·have h := aQ h
   refine ⟨by decide,by decide,by decide,by decide,by decide,by decide,bg (fun hb => ?_) fun hb => ?_⟩
   ·have hb := Nat.le_of_ble_eq_true hb
    refine ⟨by omega,by omega,by omega,by decide,by decide,by decide,by unfold I64; omega,1,by omega,by omega,by omega,by omega,fun q hq => ?_⟩
    by_cases hq1 : q < 64
    ·rw [bQ.2 hq1,aO,e1 q hq1]
    ·rw [bV,decide_eq_false hq1,aP]
     exact NM x (t := 0) (by omega) (by omega) (by omega) rfl rfl
   ·refine ⟨by omega,by omega,⟨by omega,by omega⟩,by decide,by decide,by decide,by unfold I64; omega,1,by omega,by omega,by omega,by omega,fun q hq => ?_⟩
    by_cases hq1 : q < 64
    ·rw [bQ.2 hq1,aO,e1 q hq1]
    ·rw [bV,decide_eq_false hq1,aP]
     exact NM x (t := 0) (by omega) (by omega) (by omega) rfl rfl
  ·have h := aS h
   exact .inl ⟨h0.2 (by omega),fun q hq => e1 q hq⟩
  ·have h := aQ h
   refine ⟨by decide,by decide,by decide,by decide,by decide,by decide,bg (fun hb => ?_) fun hb => ?_⟩
   ·have hb := Nat.le_of_ble_eq_true hb
    refine ⟨by omega,by omega,by omega,by decide,fun k hk => aie hk (by omega),by omega,by unfold I64; omega,s + 1,by omega,by omega,by omega,by omega,fun q hq => ?_⟩
    by_cases hq1 : q < 64 * (s + 1)
    ·rw [bQ.2 hq1,aO]
    ·rw [bV,decide_eq_false hq1,aP]
     exact NM x hq1 (by omega) (by omega) rfl rfl
   ·refine ⟨by omega,by omega,⟨by omega,by omega⟩,by decide,fun k hk => aie hk (by omega),by omega,by unfold I64; omega,s + 1,by omega,by omega,by omega,by omega,fun q hq => ?_⟩
    by_cases hq1 : q < 64 * (s + 1)
    ·rw [bQ.2 hq1,aO]
    ·rw [bV,decide_eq_false hq1,aP]
     exact NM x hq1 (by omega) (by omega) rfl rfl
  ·have h := aS h
   exact .inr ⟨fun e => by have := h0.1 e; omega,by omega⟩
theorem aaZ {g : Nat->Int} {a : Nat} {v : Int} (h0 : 0<=v) : ∀ w,(∀ i,i < w->g (a + i) = v / 256 ^ i % 256)->wP g a w = v % 256 ^ w
 | 0,_ => by show (0 : Int) = v % 256 ^ 0; rw [Int.pow_zero,Int.emod_one]
 | w + 1,h => by
  simp only [wP]
  rw [aaZ h0 w fun i hi => h i (by omega),h w (by omega),Int.pow_succ]
  have hp : (0 : Int) < 256 ^ w := Int.pow_pos (by omega)
  have h1 := Int.emod_add_mul_ediv v (256 ^ w)
  have h2 := Int.emod_add_mul_ediv (v / 256 ^ w) 256
  have h3 := Int.emod_add_mul_ediv v (256 ^ w * 256)
  have h4 : v / (256 ^ w * 256) = v / 256 ^ w / 256 := (Int.ediv_ediv_of_nonneg (Int.le_of_lt hp)).symm
  rw [h4] at h3
  generalize (256 : Int) ^ w = p at *
  have h5 : p * (v / p) = p * ((v / p) % 256) + p * (256 * (v / p / 256)) := by rw [← Int.mul_add,h2]
  have h6 : p * 256 * (v / p / 256) = p * (256 * (v / p / 256)) := Int.mul_assoc _ _ _
  have h7 : (v / p) % 256 * p = p * ((v / p) % 256) := Int.mul_comm _ _
  omega
theorem NQ {g : Nat->Int} {a w : Nat} {v : Int} (h0 : 0<=v) (h1 : v < 256 ^ w) (h : ∀ i,i < w->g (a + i) = v / 256 ^ i % 256) : wP g a w = v := by
 rw [aaZ h0 w h]; exact Int.emod_eq_of_lt h0 h1
theorem arA {x : dN} (h : x.may) (k : Nat) : 0<=x.h32 k/\x.h32 k < 256 := by
 have hD := D6 h
 have hc := uH h.1
 unfold dN.h32
 repeat' split
 all_goals first | exact lU _ _ | omega
theorem qy {x : dN} (h : x.may) (k : Nat) : 0<=x.enc k/\x.enc k < 256 := by
 unfold dN.enc
 split
 ·unfold dN.jC
  split
  ·exact arA h k
  ·split
   ·exact lU _ _
   ·exact NP x _
 ·split
  ·exact ⟨by decide,by decide⟩
  ·exact NP x _
theorem FM {x : dN} {k : Nat} (h : k < 32) : x.enc k = x.h32 k := by
 unfold dN.enc
 rw [if_pos (by omega)]
 unfold dN.jC
 rw [if_pos h]
theorem apu {x : dN} (h : x.may) : wP x.enc 4 2 = x.value.size/\wP x.enc 8 8 = x.id/\wP x.enc 16 8 = x.ver/\wP x.enc 24 8 = x.epoch := by
 have hD := D6 h
 refine ⟨NQ (by omega) (by omega) fun i hi => ?_,NQ (by omega) (by omega) fun i hi => ?_,NQ (by omega) (by omega) fun i hi => ?_,NQ (by omega) (by omega) fun i hi => ?_⟩
 all_goals
  rw [FM (by omega)]
  unfold dN.h32
  repeat rw [if_neg (by omega)]
  rw [if_pos (by omega)]
  congr 2
  congr 1
  omega
theorem aem (n : Nat) (f : Nat->UInt8) : (mkStr n f).size = n := by
 show (((List.range n).map f).toArray).size = n
 simp
theorem TL {n a b : Nat} {f : Nat->UInt8} {s : ByteArray} (h1 : b = a + s.size) (h2 : b<=n) (h : ∀ i (hi : i < s.size),f (a + i) = s.data[i]) : (mkStr n f).extract a b = s := by
 have e : ((mkStr n f).extract a b).data = s.data := by
  rw [ByteArray.data_extract]
  refine Array.ext ?_ fun i h3 h4 => ?_
  ·show ((List.map f (List.range n)).toArray.extract a b).size = s.size
   simp; omega
  ·show ((List.map f (List.range n)).toArray.extract a b)[i] = _
   rw [← h i h4]
   simp
 cases s; cases h' : (mkStr n f).extract a b; rw [h'] at e; cases e; rfl
theorem aen (x : dN) (i : Nat) (hi : i < (x.key ++ x.value).size) : UInt8.ofNat (x.dat i).toNat = (x.key ++ x.value).data[i] := by
 unfold dN.dat
 rw [if_pos hi]
 unfold fG
 rw [au,List.getD_eq_getElem?_getD,Array.getElem?_toList]
 have e : (x.key ++ x.value).data[i]? = some (x.key ++ x.value).data[i] := Array.getElem?_eq_getElem hi
 rw [e,Option.getD_some]
 exact UInt8.ofNat_toNat
theorem arB {x : dN} {s : Nat} (i : Nat) : (Bq.mk ⟨x.enc,0,64 * s,64 * s⟩ s).at_ i = x.dat i := by
 unfold Bq.at_
 simp only [ay]
 split
 ·rename_i h
  unfold dN.enc
  rw [if_pos (by omega)]
  unfold dN.jC
  rw [if_neg (by omega),if_neg (by omega)]
  congr 1; omega
 ·rename_i h
  rw [show 64 * ((i - 28) / 63 + 1) + 1 + (i - 28) % 63 = 64 * ((i - 28) / 63 + 1) + (1 + (i - 28) % 63) by omega,NK x _ _ (by omega),if_neg (by omega)]
  congr 1; omega
theorem aeo (x : ahT) (hx : x.b.may/\x.b.key.size < 1099511627776/\x.b.value.size < 1099511627776/\∀ k,k < 64 * x.b.dA->x.g k = x.b.enc k) : apt x := by
 obtain ⟨hm,hk,hv,hg⟩ := hx
 have hc := uH hm.1
 have hC := X9 hm
 have hD := D6 hm
 have hE := apu hm
 have hS : (x.b.dA : Int) = spn x.b.cls := by unfold dN.dA; omega
 have g0 : x.g 0 = 1 := by rw [hg 0 (by omega),FM (by omega)]; rfl
 have g1 : x.g 1 = x.b.cls := by rw [hg 1 (by omega),FM (by omega)]; rfl
 have g2 : x.g 2 = x.b.kind := by rw [hg 2 (by omega),FM (by omega)]; rfl
 have g3 : x.g 3 = x.b.key.size := by rw [hg 3 (by omega),FM (by omega)]; rfl
 have hB : Bys.ok ⟨x.b.enc,0,64 * x.b.dA,64 * x.b.dA⟩ := ⟨by simp,by show 64 * x.b.dA < _; omega,qy hm⟩
 have hkd : x.b.kind<=3 := by
  have := hm.2
  omega
 unfold apt
 simp only [zS,FK,yR,Bv,uT,JO,aaQ,aaU,mP,aaT,Tt,uS,FH,FD,Tv,aaR,apr,aaS]
 simp only [aY,aU,aT,ay,aH,bI,bn,aN,aJ,au,aW,aV,bJ,bC,bD,bF,bK,bf,bG,aZ,dU,aG,aK,ah,aj,aA,aC,aB,aF,g0,g1,g2,g3]
 refine bg (fun h => absurd (aQ h) (by omega)) fun _ => ⟨by decide,⟨by decide,by omega,by omega⟩,by decide,by omega,bg (fun h => absurd h (by decide)) fun _ => ⟨by decide,by omega,by unfold I64; omega,bg (fun h => absurd (beq_iff_eq.1 h) hm.1) fun _ => ⟨by decide,by omega,bg (fun h => absurd (aQ h) (by omega)) fun _ => ⟨by decide,by omega,by unfold I64; omega,by decide,by omega,by unfold I64; omega,by unfold I64; omega,bg (fun h => absurd (bne_iff_ne.1 h) (by omega)) fun _ => ⟨⟨by decide,by omega⟩,by omega,by unfold I64; omega,
  ⟨⟨x.b.enc,0,64 * x.b.dA,64 * x.b.dA⟩,4,2⟩,⟨hB,by show 4 + 2<=64 * x.b.dA; omega,by show 1<=2; decide,by show 2<=8; decide⟩,⟨⟨rfl,rfl⟩,rfl,rfl⟩,⟨rfl,fun q hq => (hg q hq).symm⟩,by omega,?_⟩⟩⟩⟩⟩
 simp only [ay,hE]
 refine ⟨by unfold I64; omega,⟨⟨x.b.enc,0,64 * x.b.dA,64 * x.b.dA⟩,x.b.dA⟩,⟨hB,rfl,by show 1<=x.b.dA; omega,by show x.b.dA<=8; omega⟩,⟨rfl,rfl⟩,⟨rfl,fun q hq => (hg q hq).symm⟩,?_⟩
 have hsz : (x.b.key ++ x.b.value).size = x.b.key.size + x.b.value.size := ByteArray.size_append
 have hstr : ∀ i (hi : i < (x.b.key ++ x.b.value).size),UInt8.ofNat ((Bq.mk ⟨x.b.enc,0,64 * x.b.dA,64 * x.b.dA⟩ x.b.dA).at_ i).toNat = (x.b.key ++ x.b.value).data[i] := fun i hi => by rw [arB]; exact aen x.b i hi
 have s1 : (Bq.mk ⟨x.b.enc,0,64 * x.b.dA,64 * x.b.dA⟩ x.b.dA).str.size = 28 + 63 * (x.b.dA - 1) := aem _ _
 have s2 : (Bq.mk ⟨x.b.enc,0,64 * x.b.dA,64 * x.b.dA⟩ x.b.dA).str.extract 0 x.b.key.size = x.b.key := TL (by omega) (by show x.b.key.size<=28 + 63 * (x.b.dA - 1); omega) fun i hi => by
  rw [hstr (0 + i) (by omega)]
  simp only [ay,ByteArray.data_append]
  exact Array.getElem_append_left hi
 have s3 : (Bq.mk ⟨x.b.enc,0,64 * x.b.dA,64 * x.b.dA⟩ x.b.dA).str.extract x.b.key.size ((x.b.key.size : Int) + (x.b.value.size : Int)).toNat = x.b.value := TL (by omega) (by show ((x.b.key.size : Int) + (x.b.value.size : Int)).toNat<=28 + 63 * (x.b.dA - 1); omega) fun i hi => by
  rw [hstr (x.b.key.size + i) (by omega)]
  simp only [ByteArray.data_append]
  have : x.b.key.data.size = x.b.key.size := rfl
  rw [Array.getElem_append_right (by omega)]
  congr 1
  omega
 rw [s2,s3,s1]
 have hget : ∀ a,a + 8<=64->(FB.mk ⟨x.b.enc,0,64 * x.b.dA,64 * x.b.dA⟩ a 8).b.ok/\a + 8<=64 * x.b.dA/\1<=8/\8<=8 := fun a ha => ⟨hB,by omega,by decide,by decide⟩
 refine ⟨by unfold I64; omega,bg (fun h => absurd (aQ h) (by omega)) fun _ => ⟨by omega,by omega,by unfold I64; omega,by omega,by omega,by omega,
  ⟨⟨x.b.enc,0,64 * x.b.dA,64 * x.b.dA⟩,8,8⟩,hget 8 (by decide),⟨⟨rfl,rfl⟩,rfl,rfl⟩,⟨rfl,fun q hq => (hg q hq).symm⟩,
  ⟨⟨x.b.enc,0,64 * x.b.dA,64 * x.b.dA⟩,16,8⟩,hget 16 (by decide),⟨⟨rfl,rfl⟩,rfl,rfl⟩,⟨rfl,fun q hq => (hg q hq).symm⟩,
  ⟨⟨x.b.enc,0,64 * x.b.dA,64 * x.b.dA⟩,24,8⟩,hget 24 (by decide),⟨⟨rfl,rfl⟩,rfl,rfl⟩,⟨rfl,fun q hq => (hg q hq).symm⟩,?_⟩⟩
 simp only [ay,hE]
 refine ⟨x.b,⟨hm,hk,hv⟩,⟨rfl,rfl,rfl,rfl,rfl,rfl,rfl⟩,?_⟩
 have hb : ∀ k,k < 64 * x.b.dA->isByte [Value.int .u8 (x.g k)] = true := fun k hk => by rw [hg k hk]; exact yS (qy hm k)
 have he : ∀ k,isByte [Value.int .u8 (x.b.enc k)] = true := fun k => yS (qy hm k)
 have hq : ∀ n,n = 64 * x.b.dA->(!(ByteArray.toList ⟨(List.map (fun k => (⟨BitVec.ofNat 8 (x.b.enc k).toNat⟩ : UInt8)) (List.range n)).toArray⟩ == ByteArray.toList ⟨(List.map (fun k => (⟨BitVec.ofNat 8 (x.g k).toNat⟩ : UInt8)) (List.range (64 * x.b.dA))).toArray⟩)) = false := fun n hn => by
  subst hn
  rw [Bool.not_eq_false',aaP]
  congr 2
  exact List.map_congr_left fun k hk => by rw [hg k (List.mem_range.1 hk)]
 have h1 : x.b.cls = 0->64 = 64 * x.b.dA := fun h => by
  have : spn x.b.cls = 1 := by rw [h]; rfl
  omega
 refine ⟨fun h => ⟨aX _,fun k _ => he k,aX _,hb,?_⟩,fun h => ⟨aX _,fun k _ => he k,aX _,hb,?_⟩⟩
 ·rw [hq 64 (h1 h),iR]
  exact ⟨trivial,trivial,trivial,trivial,trivial⟩
 ·rw [hq _ rfl,iR]
  exact ⟨trivial,trivial,trivial,trivial,trivial⟩
theorem aa0 : fA Tryz.prog apq := .cons (bM kQ) (.cons (bM anD) (.cons (bM anI) (.cons (bM apn) .nil)))
theorem aif : bU Tryz.prog 180 al4 := fZ dD mixed aa0 arx 200 5 (fun _ => rfl) (fun _ => ⟨fun _ => rfl,fun _ => rfl,trivial⟩) fun x hx => Eq.mp (al5 x) (ael x (aY.1 hx))
theorem al7 : bU Tryz.prog 63 FC := dR dD mixed aa0 noA 200 5 (fun _ => rfl) (fun _ => rfl) fun x hx => Eq.mp (aek x) (TK x (aY.1 hx))
theorem apv : bU Tryz.prog 179 X7 := dR dD mixed .nil anJ 200 5 (fun _ => rfl) (fun _ => rfl) fun x hx => Eq.mp (aib x) (Ya x (aY.1 hx))
theorem al8 : fA Tryz.prog arz := .cons (bM kQ) (.cons (bM arw) (.cons (bM apv) (.cons (bM aif) .nil)))
theorem arC : bU Tryz.prog 121 apo := dR dD mixed al8 noA 200 5 (fun _ => rfl) (fun _ => rfl) fun x hx => Eq.mp (al6 x) (aeo x (aY.1 hx))
end Go.Proofs.YtenfleoejgjklaaGreat
end
section
namespace Go.Proofs.YtenfleoejgjklaaGreat
open Go SE
def tabE : List bZ := .cells 172 (.av [.mp 1,.mp 2,.mp 3,.mp 4,.mp 5,.mp 6,.mp 7,.mp 8]) :: List.replicate 8 (.map [] 0)
def aii : jd := lV Unit (fun _ => [.ptr 0 0]) 1 (fun _ => [.m tabE]) (fun _ => Hd True) (fun _ => fJ) 1 (fun _ => [.m tabE])
end Go.Proofs.YtenfleoejgjklaaGreat
end
section
namespace Go.Proofs.YtenfleoejgjklaaGreat
open Go SE
def apw : Prop := True/\True/\True/\True/\True/\True/\True/\True/\True
def aij (x : Unit) : Prop :=
 ((0 : Int)<=0/\(0 : Int)<=7)/\I64 (1 : Int)/\((0 : Int)<=1/\(0 : Int)<=6)/\I64 (2 : Int)/\((0 : Int)<=2/\(0 : Int)<=5)/\I64 (3 : Int)/\((0 : Int)<=3/\(0 : Int)<=4)/\I64 (4 : Int)/\((0 : Int)<=4/\(0 : Int)<=3)/\I64 (5 : Int)/\((0 : Int)<=5/\(0 : Int)<=2)/\I64 (6 : Int)/\((0 : Int)<=6/\(0 : Int)<=1)/\I64 (7 : Int)/\((0 : Int)<=7/\(0 : Int)<=0)/\I64 (8 : Int)/\((0 : Int)<=0/\(0 : Int)<=255)/\I64 (0 : Int)/\I64 (0 : Int)/\I64 (0 : Int)/\I64 (1 : Int)/\∃ y : Unit,True/\Value.slice none 0 0 = Value.slice none 0 0/\apw/\apw
theorem aik (x : Unit) : aij x = wpF Tryz.prog qO tt (noA x) 200 5 68 (aii.args x) (hO 9 (dK 1 (aii.l x))) (fun v h' => cO 1 x v h' aii.outs) := by kernel_rfl
end Go.Proofs.YtenfleoejgjklaaGreat
end
section
namespace Go.Proofs.YtenfleoejgjklaaGreat
open Go SE
set_option linter.unusedSimpArgs false
theorem Yb (x : Unit) : aij x := by
 unfold aij
 simp only [apw]
 simp only [aY,aU,aT,ay,aH,bI,bn,aN,aJ,au,aW,aV,bJ,bC,bD,bF,bK,bf,bG,aZ,dU,aG,aK,ah,aj,aA,aC,aB,aF,I64]
 omega
theorem apx : bU Tryz.prog 68 aii.ctr := dH dD mixed eG 9 noA 200 5 (fun _ => ⟨rfl,rfl,rfl,rfl⟩) fun x _ => Eq.mp (aik x) (Yb x)
end Go.Proofs.YtenfleoejgjklaaGreat
end
section
namespace Go.Proofs.YtenfleoejgjklaaGreat
open Go
theorem disable (w : World) : (callFunc 268 #[]).run Tryz.prog w = .ok (.value (.tuple #[])) w := run_call_mark0 Tryz.func268 (by kernel_rfl) (by kernel_rfl) (by kernel_rfl) .disable (by kernel_rfl) w
theorem enable (w : World) : (callFunc 270 #[]).run Tryz.prog w = .ok (.value (.tuple #[])) w := run_call_mark0 Tryz.func270 (by kernel_rfl) (by kernel_rfl) (by kernel_rfl) .enable (by kernel_rfl) w
theorem acquire (a : Addr) (w : World) : (callFunc 271 #[.pointer (some a)]).run Tryz.prog w = .ok (.value (.tuple #[])) w := run_call_marked Tryz.func271 (by kernel_rfl) (by kernel_rfl) (by kernel_rfl) .acquire (by kernel_rfl) a w
theorem releaseMerge (a : Addr) (w : World) : (callFunc 273 #[.pointer (some a)]).run Tryz.prog w = .ok (.value (.tuple #[])) w := run_call_marked Tryz.func273 (by kernel_rfl) (by kernel_rfl) (by kernel_rfl) .releaseMerge (by kernel_rfl) a w
set_option maxRecDepth 100000 in
set_option maxHeartbeats 1600000 in
theorem ilock_free (a : Addr) (w : World) (hc : w.cell? a = some (.int .i32 0)) (hz : w.frozen? a = false) :
  Calls Tryz.prog 237 #[.pointer (some a)] w fun e w' => e = .returned (.tuple #[])/\w' = w.setCell a (.int .i32 1) := by
 have hd := disable
 have he := enable
 have ha := acquire
 have hcas := run_call_cas_hit (P := Tryz.prog) Tryz.func269 (by kernel_rfl) (by kernel_rfl) (by kernel_rfl) .i32 (by kernel_rfl) (y := 1) hc hz
 have hc' : (w.setCell a (.int .i32 1)).cell? a = some (.int .i32 1) := World.cell?_setCell_same w a _ hc
 have hcv := run_convert_to_unsafe (P := Tryz.prog) (src := 368) (dst := 372) Tryz.underlying368 Tryz.underlying372 (by kernel_rfl) hc'
 go_enter Tryz.func237,Tryz.ntmps237
 go_wp2
 all_goals first | exact ⟨rfl,rfl⟩ | (first | go_end0 | (simp only [Exit.inBlock,Exit.then]; refine bodyPost_ret (results_none rfl _ _ _) rfl ?_) | refine bodyPost_ret (results_none rfl _ _ _) rfl ?_)
 all_goals exact ⟨rfl,rfl⟩
set_option maxRecDepth 100000 in
set_option maxHeartbeats 1600000 in
theorem lock_free (a : Addr) (w : World) (hc : w.cell? a = some (.int .i32 0)) (hz : w.frozen? a = false) :
  Calls Tryz.prog 194 #[.pointer (some a)] w fun e w' => e = .returned (.tuple #[])/\w' = w.setCell a (.int .i32 1) := by
 go_enter Tryz.func194,Tryz.ntmps194
 go_wp2_with (go_at_call 237; refine (ilock_free a w hc hz).mono ?_; rintro e w' ⟨rfl,rfl⟩)
 all_goals first | exact ⟨rfl,rfl⟩ | (go_wp2; go_end0; exact ⟨rfl,rfl⟩) | (go_end0; exact ⟨rfl,rfl⟩)
set_option maxRecDepth 100000 in
set_option maxHeartbeats 1600000 in
theorem store_deferred (a : Addr) (x : Value) (u : FrameMode) (w : World) (hc : w.cell? a = some x) (hz : w.frozen? a = false) :
  CallsD Tryz.prog 196 #[.pointer (some a),.bool true] u w fun e u' w' => u' = u/\(e = .returned (.tuple #[])/\w' = w.drew.setCell a (.int .u32 1)) := by
 have hc' : w.drew.cell? a = some x := by go_simp
 have hz' : w.drew.frozen? a = false := by go_simp
 have hst := run_call_store (P := Tryz.prog) Tryz.func239 (by kernel_rfl) (by kernel_rfl) (by kernel_rfl) (by kernel_rfl) (k := .u32) (y := 1) hc' hz'
 go_enter_d Tryz.func196,Tryz.ntmps196
 go_wp2
 go_region_calls
 all_goals (go_end0; exact ⟨rfl,rfl⟩)
set_option maxRecDepth 100000 in
set_option maxHeartbeats 1600000 in
theorem iunlock (a : Addr) (w : World) (hc : w.cell? a = some (.int .i32 1)) (hz : w.frozen? a = false) :
  Calls Tryz.prog 238 #[.pointer (some a)] w fun e w' => e = .returned (.tuple #[])/\w' = w.setCell a (.int .i32 0) := by
 have hd := disable
 have he := enable
 have hr := releaseMerge
 have hadd := run_call_add (P := Tryz.prog) Tryz.func274 (by kernel_rfl) (by kernel_rfl) (by kernel_rfl) .i32 (by kernel_rfl) (y := -1) (s := 0) hc hz (by simp [go_sem]; rfl)
 have hcv := run_convert_to_unsafe (P := Tryz.prog) (src := 368) (dst := 372) Tryz.underlying368 Tryz.underlying372 (by kernel_rfl) hc
 go_enter Tryz.func238,Tryz.ntmps238
 go_wp2
 all_goals first | exact ⟨rfl,rfl⟩ | go_end0
 all_goals first | exact ⟨rfl,rfl⟩ | go_wp2
 all_goals first | exact ⟨rfl,rfl⟩ | go_end0
 all_goals first | exact ⟨rfl,rfl⟩
set_option maxRecDepth 100000 in
set_option maxHeartbeats 1600000 in
theorem unlock_deferred (a : Addr) (u : FrameMode) (w : World) (hc : w.cell? a = some (.int .i32 1)) (hz : w.frozen? a = false) :
  CallsD Tryz.prog 195 #[.pointer (some a)] u w fun e u' w' => u' = u/\(e = .returned (.tuple #[])/\w' = w.setCell a (.int .i32 0)) := by
 go_enter_d Tryz.func195,Tryz.ntmps195
 go_wp2_with (go_at_call 238; refine (iunlock a w hc hz).mono ?_; rintro e w' ⟨rfl,rfl⟩)
 all_goals first | exact ⟨rfl,rfl⟩ | (go_wp2; go_end0; exact ⟨rfl,rfl⟩) | (go_end0; exact ⟨rfl,rfl⟩)
set_option maxRecDepth 100000 in
set_option maxHeartbeats 1600000 in
theorem slow_any (b off : Nat) (g : FuncId) (fa ca : Array Value) (w : World) (R : World->Prop) (hc : SE.Dz Tryz.prog g)
  (h0 : w.cell? ⟨b,off,none⟩ = some (.int .u32 0)) (h1 : w.cell? ⟨b,off + 1,none⟩ = some (.int .i32 0)) (f0 : w.frozen? ⟨b,off,none⟩ = false) (f1 : w.frozen? ⟨b,off + 1,none⟩ = false)
  (hf : Calls Tryz.prog g (fa ++ ca) (w.setCell ⟨b,off + 1,none⟩ (.int .i32 1)) fun e w' => (∃ u,e = .returned u)/\w'.cell? ⟨b,off,none⟩ = some (.int .u32 0)/\w'.frozen? ⟨b,off,none⟩ = false /\
   w'.cell? ⟨b,off + 1,none⟩ = some (.int .i32 1)/\w'.frozen? ⟨b,off + 1,none⟩ = false/\R w') :
  Calls Tryz.prog 148 #[.pointer (some ⟨b,off,none⟩),.func (.func g) fa ca] w fun e w' => e = .returned (.tuple #[])/\∃ w2,R w2 /\
   w' = (w2.drew.setCell ⟨b,off,none⟩ (.int .u32 1)).setCell ⟨b,off + 1,none⟩ (.int .i32 0) := by
 have hl := run_call_load (P := Tryz.prog) Tryz.func193 (by kernel_rfl) (by kernel_rfl) (by kernel_rfl) .u32 (by kernel_rfl) (w := w.setCell ⟨b,off + 1,none⟩ (.int .i32 1)) (a := ⟨b,off,none⟩) (x := 0) ((World.cell?_setCell_other _ ⟨b,off + 1,none⟩ ⟨b,off,none⟩ _ (by simp)).trans h0)
 have hnot : ∀ (x : Bool) (w : World),(Op.unary .not (.bool x)).run Tryz.prog w = .ok (.bool (!x)) w := fun _ _ => rfl
 have hrun := SE.AU hc
 go_enter_defers Tryz.func148,Tryz.ntmps148
 go_wp2_with (go_at_call 194; refine (lock_free ⟨b,off + 1,none⟩ _ (by go_simp) (by go_simp)).mono ?_; rintro e w' ⟨rfl,rfl⟩)
 go_wp2
 refine hf.mono ?_
 rintro e w' ⟨⟨u,rfl⟩,c0,z0,c1,z1,hR⟩
 go_wp2
 refine leaves_cons (f := 196) (args := #[.pointer (some ⟨b,off,none⟩),.bool true]) (by simp) (by simp [go_sem]) ?_
 refine (store_deferred ⟨b,off,none⟩ (.int .u32 0) .returning _ c0 z0).mono ?_
 rintro e u' w'' ⟨rfl,rfl,rfl⟩
 refine leaves_cons (f := 195) (args := #[.pointer (some ⟨b,off + 1,none⟩)]) (by simp [settle]) (by simp [go_sem]) ?_
 refine (unlock_deferred ⟨b,off + 1,none⟩ _ _ ?_ ?_).mono ?_
 ·refine (World.cell?_setCell_other _ ⟨b,off,none⟩ ⟨b,off + 1,none⟩ _ (by simp)).trans ?_
  rw [World.cell?_drew]; exact c1
 ·simp [z1]
 rintro e u' w'' ⟨rfl,rfl,rfl⟩
 simp [Leaves,settle,results,Tryz.results148]
 exact ⟨w',hR,rfl⟩
end Go.Proofs.YtenfleoejgjklaaGreat
end
section
namespace Go.Proofs.YtenfleoejgjklaaGreat
open Go SE
def aer (k : IntKind) (z : Int) (x : Option AV) : Bool := match x with
 | some (.lit (.int k' z')) => decide (k' = k) && decide (z' = z)
 | _ => false
theorem al9 {k : IntKind} {z : Int} {x : Option AV} (h : aer k z x = true) : x = some (.lit (.int k z)) := by
 unfold aer at h
 split at h
 ·simp only [aI,decide_eq_true_eq] at h
  obtain ⟨rfl,rfl⟩ := h; rfl
 ·cases h
def NR (i o : Nat) (K : AV->Heap->Prop) (h2 : Heap) : Prop :=
 bif aer .u32 0 (cellAt h2 i o) && aer .i32 1 (cellAt h2 i (o + 1)) && (setCell h2 i (o + 1) (.lit (.int .i32 0))).isSome then (match setCell h2 i o (.lit (.int .u32 1)) with
  | some h3 => match setCell h3 i (o + 1) (.lit (.int .i32 0)) with
   | some h4 => K (.tup []) h4
   | none => False
  | none => False) else False
def apy (tbl : WTbl) : WTr := fun args h K => match args with
 | [.ptr i o,.fn (.func g) first cap] => bif aer .u32 0 (cellAt h i o) && aer .i32 0 (cellAt h i (o + 1)) && (setCell h i o (.lit (.int .u32 1))).isSome then (match setCell h i (o + 1) (.lit (.int .i32 1)) with
  | some h1 => wpF Tryz.prog tbl tt (fun _ _ _ _ => []) 200 5 g (first ++ cap) h1 (fun _ h2 => NR i o K h2)
  | none => False) else False
 | _ => False
theorem NS {h : Heap} {ρ : Ren} {T : Nat->Prop} {w : World} (hR : Rel h ρ T w) {i o : Nat} {b : SE.Loc} {k : IntKind} {z : Int} (hb : ρ i = some b) (hc : aer k z (cellAt h i o) = true) : w.cell? ⟨b.blk,b.base + o,none⟩ = some (.int k z) := by
 obtain ⟨b',hb',y,hy,hr⟩ := hR.cell (al9 hc)
 obtain rfl : b' = b := Option.some.inj (hb'.symm.trans hb)
 simp only [bP] at hr
 subst hr; exact hy
theorem TM {h h' : Heap} {i o : Nat} {k : IntKind} {z : Int} (hs : setCell h i o (.lit (.int k z)) = some h') : alx h i o k z (fun x => x = h') := by unfold alx; rw [hs]
theorem ama {tbl : WTbl} (ht : fA Tryz.prog tbl) (args : List AV) (h : Heap) (K : AV->Heap->Prop) (hq : apy tbl args h K) : Sp Tryz.prog 148 args h K := by
 unfold apy at hq
 split at hq
 ·rename_i i o g first cap
  cases hc : (aer .u32 0 (cellAt h i o) && aer .i32 0 (cellAt h i (o + 1)) && (setCell h i o (.lit (.int .u32 1))).isSome) <;> rw [hc] at hq
  ·exact hq.elim
  ·simp only [aO] at hq
   simp only [aI] at hc
   obtain ⟨⟨c0,c1⟩,c2⟩ := hc
   split at hq
   ·rename_i h1 hs1
    have hsp := AY dD mixed ht _ _ _ _ _ _ _ hq
    refine ⟨⟨_,Tryz.func148,by kernel_rfl,by kernel_rfl⟩,fun ρ T w vs hR hl => ?_⟩
    simp only [dZ] at hl
    obtain ⟨u0,_,hvs,hu0,u1,_,rfl,hu1,rfl⟩ := hl
    simp only [bP] at hu0 hu1
    obtain ⟨b,hb,rfl⟩ := hu0
    obtain ⟨fa,ca,rfl,hfa,hca⟩ := hu1
    have hvs' := vs2 hvs
    rw [hvs']
    have e1 : b.base + (o + 1) = b.base + o + 1 := by omega
    obtain ⟨h1',f1,R1,n1,K1,rfl⟩ := nV (P := Tryz.prog) hR (TM hs1) hb
    have f0 : w.frozen? ⟨b.blk,b.base + o,none⟩ = false := by
     obtain ⟨h5,hs5⟩ := Option.isSome_iff_exists.1 c2
     exact hR.agv hs5 hb
    have g0 := NS hR hb c0
    have g1 := NS hR hb c1
    rw [e1] at g1 f1
    refine (slow_any b.blk (b.base + o) g fa ca w (fun w2 => ∃ ρ2 h2,(∀ j,j < h.next->ρ2 j = ρ j)/\h.next<=h2.next/\Rel h2 ρ2 T w2/\Keeps T w w2/\NR i o K h2) hsp.1 g0 g1 f0 f1 ?_).mono ?_
    ·refine (hsp.2 ρ T _ (fa ++ ca) (by rw [← e1]; exact R1) (by rw [Array.toList_append]; exact hfa.append hca)).mono ?_
     rintro e w2 ⟨ρ2,v3,u,h2,q1,q2,q3,q4,rfl,q5,hq⟩
     have hi : i < h1'.next := by
      rcases Nat.lt_or_ge i h1'.next with hlt | hge
      ·exact hlt
      ·obtain ⟨_,_,_,_,r4,_⟩ := R1
       rw [r4 i hge] at hb; cases hb
     have hb2 : ρ2 i = some b := (q1 i hi).trans hb
     have hq0 := hq
     unfold NR at hq
     cases hc2 : (aer .u32 0 (cellAt h2 i o) && aer .i32 1 (cellAt h2 i (o + 1)) && (setCell h2 i (o + 1) (.lit (.int .i32 0))).isSome) <;> rw [hc2] at hq
     ·exact hq.elim
     ·simp only [aO] at hq
      simp only [aI] at hc2
      obtain ⟨⟨d0,d1⟩,d2⟩ := hc2
      split at hq
      ·rename_i h3 hs3
       obtain ⟨h5,hs5⟩ := Option.isSome_iff_exists.1 d2
       obtain ⟨_,z1,_⟩ := nV (P := Tryz.prog) q3 (TM hs5) hb2
       obtain ⟨_,z0,_⟩ := nV (P := Tryz.prog) q3 (TM hs3) hb2
       have m0 := NS q3 hb2 d0
       have m1 := NS q3 hb2 d1
       rw [e1] at m1 z1
       exact ⟨⟨u,rfl⟩,m0,z0,m1,z1,ρ2,h2,fun j hj => q1 j (by rw [n1]; exact hj),by rw [← n1]; exact q2,q3,(by rw [e1] at K1; exact K1.trans q5),hq0⟩
      ·exact hq.elim
    ·rintro e w' ⟨rfl,w2,⟨ρ2,h2,q1,q2,q3,q5,hq⟩,rfl⟩
     have hi : i < h.next := by
      rcases Nat.lt_or_ge i h.next with hlt | hge
      ·exact hlt
      ·obtain ⟨_,_,_,_,r4,_⟩ := hR
       rw [r4 i hge] at hb; cases hb
     have hb2 : ρ2 i = some b := (q1 i hi).trans hb
     unfold NR at hq
     cases hc2 : (aer .u32 0 (cellAt h2 i o) && aer .i32 1 (cellAt h2 i (o + 1)) && (setCell h2 i (o + 1) (.lit (.int .i32 0))).isSome) <;> rw [hc2] at hq
     ·exact hq.elim
     ·simp only [aO] at hq
      split at hq
      ·rename_i h3 hs3
       split at hq
       ·rename_i h4 hs4
        obtain ⟨h3',_,R3,n3,K3,rfl⟩ := nV (P := Tryz.prog) q3.drew (TM hs3) hb2
        obtain ⟨h4',_,R4,n4,K4,rfl⟩ := nV (P := Tryz.prog) R3 (TM hs4) hb2
        rw [e1] at R4 K4
        exact ⟨ρ2,_,_,_,q1,by omega,R4,by simp only [bP]; exact ⟨_,rfl,.nil⟩,rfl,((q5.trans (Keeps.drew T w2)).trans K3).trans K4,hq⟩
       ·exact hq.elim
      ·exact hq.elim
   ·exact hq.elim
 ·exact hq.elim
end Go.Proofs.YtenfleoejgjklaaGreat
end
section
namespace Go.Proofs.YtenfleoejgjklaaGreat
open Go SE
def aes (n : Nat) (k : Nat) : Int := if k = 0 then 4 else if k = 1 then 70 else if k = 2 then 85 else if k = 3 then 83 else if k = 4 then 69 else (n : Int) / 256 ^ (k - 5) % 256
noncomputable def mQ (n : Nat) (k : Nat) : Int := if k < 9 then aes n k else if k < 13 then nC 0 (aes n) 9 / 256 ^ (k - 9) % 256 else 0
noncomputable def FN : Ctr := det Nat (fun n => [i64 n]) 0 (fun _ => []) (fun n => Hd (10<=n/\n<=258)) (fun _ => .tup [.slE 0 0 1 64 64,i64 0]) 1 (fun n => [.cells 312 (rowB (mQ n) 64)])
def DevM.wide (d : DevM) (k : Int) : Prop := d.st + k < 1099511627776/\d.fl + k < 1099511627776/\d.fe + k < 1099511627776
noncomputable def FP : jd := { X := DevM,args := fun _ => [.ptr 0 0],k := 1,l := fun d => [.m d.os],pre := fun d => Hd (d.ok/\10<=d.n/\d.wide 10),outs := [
 { Y := DevM,post := fun d d' => Hd (d'.ok/\d'.n = d.n/\d'.st = d.st + 2/\d'.fl = d.fl + 2/\d'.fe = d.fe + 1),ret := fun _ _ => i64 0,m := 1,l := fun _ d' => [.m d'.os] }] }
noncomputable def arD : WTbl := [(149,ctrT FN),(150,ctrT A8),(62,ctrT Bd),(105,ctrT Ba),(106,ctrT Bc)]
end Go.Proofs.YtenfleoejgjklaaGreat
end
section
namespace Go.Proofs.YtenfleoejgjklaaGreat
open Go SE
def apz (a : uG) (b : Nat) : Prop := (Nat.beq (List.length [Value.int .u8 (a.res (0 + b))]) 1 && List.all [Value.int .u8 (a.res (0 + b))] Value.oneCell') = true
def amb (a : DevM) (b : DevM) : Prop := a.fe = b.fe/\a.ba = b.ba/\a.cu = b.cu/\True
def apA (a : DevM) (b : RH) : Prop := ((0 = 0/\a.n = b.d.n/\a.n = b.d.n)/\a.st = b.d.st/\a.fl = ite (b.k < b.d.n) (b.d.fl + 1) b.d.fl/\amb a b.d)/\(a.n * 193 = b.d.n * 193/\∀ q : Nat,q < a.n * 193->Cs.eff (gV a) [] q = Cs.eff (gV (b.d.flush b.k)) [] q)/\True
def amc (a : uG) : Prop := ∀ k : Nat,k < a.b.n->apz a k
def amd (a : uG) : Prop := ∀ k : Nat,k < 64->apz a k
def Io : Prop := 0<=64/\64<=64/\64<=64
def ail : Prop := (0 = 0/\64 = 64/\64 = 64)/\(0 : Int) = 0/\True
def ain (a : DevM) (b : nD) : Prop := a.n * 193 = b.d.n * 193/\∀ q : Nat,q < a.n * 193->Cs.eff (gV a) [] q = Cs.eff (gV (b.d.store b.k b.a b.b.n (fun (q_1 : Nat) => b.b.g (b.b.q + q_1)))) [] q
def aio (a : uG) (b : ∀ a : Nat,Int) (c : Nat) : Prop := (a.b.q = 0/\a.b.n = 64/\a.c = 64)/\(a.at_ : Int) = 9/\(a.w : Int) = 4/\a.v = IntKind.wrap .u64 (nC (0 : Int) b c)/\True
def aip (a : DevM) (b : DevM) : Prop := (0 = 0/\a.n = b.n/\a.n = b.n)/\a.st = b.st + 1/\a.fl = b.fl/\amb a b
def aiq : Prop := ∃ y : Unit,True/\(False/\(0 : Int) = 2/\True)/\False/\True
def Yc (x : Nat) : Prop :=
 cP (decide ((x : Int) < 10)) aiq (cP (decide ((x : Int) > (258 : Int))) aiq (∃ x_1 : uG,Hd x_1.ok/\((x_1.b.q = 0/\x_1.b.n = 9/\x_1.c = 9)/\(x_1.at_ : Int) = 5/\(x_1.w : Int) = 4/\x_1.v = IntKind.wrap .u64 (x : Int)/\True)/\((x_1.b.N = 9/\∀ q : Nat,q < x_1.b.N->[Value.int .u8 (x_1.b.g q)] = [List.getD [Value.int .u8 4,Value.int .u8 70,Value.int .u8 85,Value.int .u8 83,Value.int .u8 69,Value.int .u8 0,Value.int .u8 0,Value.int .u8 0,Value.int .u8 0] q (@Inhabited.default Value @instInhabitedValue)])/\True)/\∀ y : Unit,True->Io/\64<=64/\cP (Nat.ble x_1.b.n 64) (0 + x_1.b.n<=x_1.b.n/\amc x_1/\Io/\0 + x_1.b.n<=x_1.b.n/\∃ n : Nat,∃ g : ∀ a : Nat,Int,x_1.b.n = n/\n < 1099511627776/\(∀ k : Nat,k < n->[Value.int .u8 (x_1.res (0 + k))] = [Value.int .u8 (g k)])/\(∀ k : Nat,0<=g k/\g k < 256)/\True/\∃ x_2 : uG,Hd x_2.ok/\aio x_2 g n/\((x_2.b.N = 64/\∀ q : Nat,q < x_2.b.N->[Value.int .u8 (x_2.b.g q)] = Cs.eff (fun (p : Nat) => cond (Nat.ble 0 p && Nat.blt p (0 + x_1.b.n)) [Value.int .u8 (x_1.res (0 + (p - 0)))] [Value.int .u8 0]) [] q)/\True)/\∀ y_1 : Unit,True->True/\Io/\64<=64/\cP (Nat.ble x_2.b.n 64) (0 + x_2.b.n<=x_2.b.n/\amc x_2/\
 (∀ k : Nat,k < 64->(Nat.beq (List.length (Cs.eff (fun (p : Nat) => cond (Nat.ble 0 p && Nat.blt p (0 + x_2.b.n)) [Value.int .u8 (x_2.res (0 + (p - 0)))] (Cs.eff (fun (p_1 : Nat) => cond (Nat.ble 0 p_1 && Nat.blt p_1 (0 + x_1.b.n)) [Value.int .u8 (x_1.res (0 + (p_1 - 0)))] [Value.int .u8 0]) [] p)) [] k)) 1 && List.all (Cs.eff (fun (p : Nat) => cond (Nat.ble 0 p && Nat.blt p (0 + x_2.b.n)) [Value.int .u8 (x_2.res (0 + (p - 0)))] (Cs.eff (fun (p_1 : Nat) => cond (Nat.ble 0 p_1 && Nat.blt p_1 (0 + x_1.b.n)) [Value.int .u8 (x_1.res (0 + (p_1 - 0)))] [Value.int .u8 0]) [] p)) [] k) Value.oneCell') = true)/\(∀ k : Nat,k < 64->(Nat.beq (List.length (Cs.eff (Cs.eff (fun (p : Nat) => cond (Nat.ble 0 p && Nat.blt p (0 + x_2.b.n)) [Value.int .u8 (x_2.res (0 + (p - 0)))] (Cs.eff (fun (p_1 : Nat) => cond (Nat.ble 0 p_1 && Nat.blt p_1 (0 + x_1.b.n)) [Value.int .u8 (x_1.res (0 + (p_1 - 0)))] [Value.int .u8 0]) [] p)) []) [] k)) 1 && List.all (Cs.eff (Cs.eff (fun (p : Nat) => cond (Nat.ble 0 p && Nat.blt p (0 + x_2.b.n)) [Value.int .u8 (x_2.res (0 + (p - 0)))] (Cs.eff (fun (p_1 : Nat) => cond (Nat.ble 0 p_1 && Nat.blt p_1 (0 + x_1.b.n)) [Value.int .u8 (x_1.res (0 + (p_1 - 0)))] [Value.int .u8 0]) [] p)) []) [] k) Value.oneCell') = true)/\
 (∀ k : Nat,k < 64->(Nat.beq (List.length (Cs.eff (Cs.eff (Cs.eff (fun (p : Nat) => cond (Nat.ble 0 p && Nat.blt p (0 + x_2.b.n)) [Value.int .u8 (x_2.res (0 + (p - 0)))] (Cs.eff (fun (p_1 : Nat) => cond (Nat.ble 0 p_1 && Nat.blt p_1 (0 + x_1.b.n)) [Value.int .u8 (x_1.res (0 + (p_1 - 0)))] [Value.int .u8 0]) [] p)) []) []) [] k)) 1 && List.all (Cs.eff (Cs.eff (Cs.eff (fun (p : Nat) => cond (Nat.ble 0 p && Nat.blt p (0 + x_2.b.n)) [Value.int .u8 (x_2.res (0 + (p - 0)))] (Cs.eff (fun (p_1 : Nat) => cond (Nat.ble 0 p_1 && Nat.blt p_1 (0 + x_1.b.n)) [Value.int .u8 (x_1.res (0 + (p_1 - 0)))] [Value.int .u8 0]) [] p)) []) []) [] k) Value.oneCell') = true)/\Io/\∃ y_2 : Unit,True/\ail/\(64 = 64/\∀ q : Nat,q < 64->[Value.int .u8 (mQ x q)] = Cs.eff (Cs.eff (Cs.eff (Cs.eff (fun (p : Nat) => cond (Nat.ble 0 p && Nat.blt p (0 + x_2.b.n)) [Value.int .u8 (x_2.res (0 + (p - 0)))] (Cs.eff (fun (p_1 : Nat) => cond (Nat.ble 0 p_1 && Nat.blt p_1 (0 + x_1.b.n)) [Value.int .u8 (x_1.res (0 + (p_1 - 0)))] [Value.int .u8 0]) [] p)) []) []) []) [] q)/\True) (64<=x_2.b.n/\amd x_2/\(∀ k : Nat,k < 64->(Nat.beq (List.length (Cs.eff (fun (p : Nat) => cond (Nat.ble 0 p && Nat.blt p 64) [Value.int .u8 (x_2.res (0 + (p - 0)))] (Cs.eff (fun (p_1 : Nat) => cond (Nat.ble 0 p_1 && Nat.blt p_1 (0 + x_1.b.n)) [Value.int .u8 (x_1.res (0 + (p_1 - 0)))] [Value.int .u8 0]) [] p)) [] k)) 1 && List.all (Cs.eff (fun (p : Nat) => cond (Nat.ble 0 p && Nat.blt p 64) [Value.int .u8 (x_2.res (0 + (p - 0)))] (Cs.eff (fun (p_1 : Nat) => cond (Nat.ble 0 p_1 && Nat.blt p_1 (0 + x_1.b.n)) [Value.int .u8 (x_1.res (0 + (p_1 - 0)))] [Value.int .u8 0]) [] p)) [] k) Value.oneCell') = true)/\
 (∀ k : Nat,k < 64->(Nat.beq (List.length (Cs.eff (Cs.eff (fun (p : Nat) => cond (Nat.ble 0 p && Nat.blt p 64) [Value.int .u8 (x_2.res (0 + (p - 0)))] (Cs.eff (fun (p_1 : Nat) => cond (Nat.ble 0 p_1 && Nat.blt p_1 (0 + x_1.b.n)) [Value.int .u8 (x_1.res (0 + (p_1 - 0)))] [Value.int .u8 0]) [] p)) []) [] k)) 1 && List.all (Cs.eff (Cs.eff (fun (p : Nat) => cond (Nat.ble 0 p && Nat.blt p 64) [Value.int .u8 (x_2.res (0 + (p - 0)))] (Cs.eff (fun (p_1 : Nat) => cond (Nat.ble 0 p_1 && Nat.blt p_1 (0 + x_1.b.n)) [Value.int .u8 (x_1.res (0 + (p_1 - 0)))] [Value.int .u8 0]) [] p)) []) [] k) Value.oneCell') = true)/\(∀ k : Nat,k < 64->(Nat.beq (List.length (Cs.eff (Cs.eff (Cs.eff (fun (p : Nat) => cond (Nat.ble 0 p && Nat.blt p 64) [Value.int .u8 (x_2.res (0 + (p - 0)))] (Cs.eff (fun (p_1 : Nat) => cond (Nat.ble 0 p_1 && Nat.blt p_1 (0 + x_1.b.n)) [Value.int .u8 (x_1.res (0 + (p_1 - 0)))] [Value.int .u8 0]) [] p)) []) []) [] k)) 1 && List.all (Cs.eff (Cs.eff (Cs.eff (fun (p : Nat) => cond (Nat.ble 0 p && Nat.blt p 64) [Value.int .u8 (x_2.res (0 + (p - 0)))] (Cs.eff (fun (p_1 : Nat) => cond (Nat.ble 0 p_1 && Nat.blt p_1 (0 + x_1.b.n)) [Value.int .u8 (x_1.res (0 + (p_1 - 0)))] [Value.int .u8 0]) [] p)) []) []) [] k) Value.oneCell') = true)/\Io/\∃ y_2 : Unit,True/\ail/\(64 = 64/\∀ q : Nat,q < 64->[Value.int .u8 (mQ x q)] = Cs.eff (Cs.eff (Cs.eff (Cs.eff (fun (p : Nat) => cond (Nat.ble 0 p && Nat.blt p 64) [Value.int .u8 (x_2.res (0 + (p - 0)))] (Cs.eff (fun (p_1 : Nat) => cond (Nat.ble 0 p_1 && Nat.blt p_1 (0 + x_1.b.n)) [Value.int .u8 (x_1.res (0 + (p_1 - 0)))] [Value.int .u8 0]) [] p)) []) []) []) [] q)/\True)) (64<=x_1.b.n/\amd x_1/\Io/\0 + x_1.b.n<=x_1.b.n/\∃ n : Nat,∃ g : ∀ a : Nat,Int,x_1.b.n = n/\n < 1099511627776/\
 (∀ k : Nat,k < n->[Value.int .u8 (x_1.res (0 + k))] = [Value.int .u8 (g k)])/\(∀ k : Nat,0<=g k/\g k < 256)/\True/\∃ x_2 : uG,Hd x_2.ok/\aio x_2 g n/\((x_2.b.N = 64/\∀ q : Nat,q < x_2.b.N->[Value.int .u8 (x_2.b.g q)] = Cs.eff (fun (p : Nat) => cond (Nat.ble 0 p && Nat.blt p 64) [Value.int .u8 (x_1.res (0 + (p - 0)))] [Value.int .u8 0]) [] q)/\True)/\∀ y_1 : Unit,True->True/\Io/\64<=64/\cP (Nat.ble x_2.b.n 64) (0 + x_2.b.n<=x_2.b.n/\amc x_2/\(∀ k : Nat,k < 64->(Nat.beq (List.length (Cs.eff (fun (p : Nat) => cond (Nat.ble 0 p && Nat.blt p (0 + x_2.b.n)) [Value.int .u8 (x_2.res (0 + (p - 0)))] (Cs.eff (fun (p_1 : Nat) => cond (Nat.ble 0 p_1 && Nat.blt p_1 64) [Value.int .u8 (x_1.res (0 + (p_1 - 0)))] [Value.int .u8 0]) [] p)) [] k)) 1 && List.all (Cs.eff (fun (p : Nat) => cond (Nat.ble 0 p && Nat.blt p (0 + x_2.b.n)) [Value.int .u8 (x_2.res (0 + (p - 0)))] (Cs.eff (fun (p_1 : Nat) => cond (Nat.ble 0 p_1 && Nat.blt p_1 64) [Value.int .u8 (x_1.res (0 + (p_1 - 0)))] [Value.int .u8 0]) [] p)) [] k) Value.oneCell') = true)/\(∀ k : Nat,k < 64->(Nat.beq (List.length (Cs.eff (Cs.eff (fun (p : Nat) => cond (Nat.ble 0 p && Nat.blt p (0 + x_2.b.n)) [Value.int .u8 (x_2.res (0 + (p - 0)))] (Cs.eff (fun (p_1 : Nat) => cond (Nat.ble 0 p_1 && Nat.blt p_1 64) [Value.int .u8 (x_1.res (0 + (p_1 - 0)))] [Value.int .u8 0]) [] p)) []) [] k)) 1 && List.all (Cs.eff (Cs.eff (fun (p : Nat) => cond (Nat.ble 0 p && Nat.blt p (0 + x_2.b.n)) [Value.int .u8 (x_2.res (0 + (p - 0)))] (Cs.eff (fun (p_1 : Nat) => cond (Nat.ble 0 p_1 && Nat.blt p_1 64) [Value.int .u8 (x_1.res (0 + (p_1 - 0)))] [Value.int .u8 0]) [] p)) []) [] k) Value.oneCell') = true)/\
 (∀ k : Nat,k < 64->(Nat.beq (List.length (Cs.eff (Cs.eff (Cs.eff (fun (p : Nat) => cond (Nat.ble 0 p && Nat.blt p (0 + x_2.b.n)) [Value.int .u8 (x_2.res (0 + (p - 0)))] (Cs.eff (fun (p_1 : Nat) => cond (Nat.ble 0 p_1 && Nat.blt p_1 64) [Value.int .u8 (x_1.res (0 + (p_1 - 0)))] [Value.int .u8 0]) [] p)) []) []) [] k)) 1 && List.all (Cs.eff (Cs.eff (Cs.eff (fun (p : Nat) => cond (Nat.ble 0 p && Nat.blt p (0 + x_2.b.n)) [Value.int .u8 (x_2.res (0 + (p - 0)))] (Cs.eff (fun (p_1 : Nat) => cond (Nat.ble 0 p_1 && Nat.blt p_1 64) [Value.int .u8 (x_1.res (0 + (p_1 - 0)))] [Value.int .u8 0]) [] p)) []) []) [] k) Value.oneCell') = true)/\Io/\∃ y_2 : Unit,True/\ail/\(64 = 64/\∀ q : Nat,q < 64->[Value.int .u8 (mQ x q)] = Cs.eff (Cs.eff (Cs.eff (Cs.eff (fun (p : Nat) => cond (Nat.ble 0 p && Nat.blt p (0 + x_2.b.n)) [Value.int .u8 (x_2.res (0 + (p - 0)))] (Cs.eff (fun (p_1 : Nat) => cond (Nat.ble 0 p_1 && Nat.blt p_1 64) [Value.int .u8 (x_1.res (0 + (p_1 - 0)))] [Value.int .u8 0]) [] p)) []) []) []) [] q)/\True) (64<=x_2.b.n/\amd x_2/\(∀ k : Nat,k < 64->(Nat.beq (List.length (Cs.eff (fun (p : Nat) => cond (Nat.ble 0 p && Nat.blt p 64) [Value.int .u8 (x_2.res (0 + (p - 0)))] (Cs.eff (fun (p_1 : Nat) => cond (Nat.ble 0 p_1 && Nat.blt p_1 64) [Value.int .u8 (x_1.res (0 + (p_1 - 0)))] [Value.int .u8 0]) [] p)) [] k)) 1 && List.all (Cs.eff (fun (p : Nat) => cond (Nat.ble 0 p && Nat.blt p 64) [Value.int .u8 (x_2.res (0 + (p - 0)))] (Cs.eff (fun (p_1 : Nat) => cond (Nat.ble 0 p_1 && Nat.blt p_1 64) [Value.int .u8 (x_1.res (0 + (p_1 - 0)))] [Value.int .u8 0]) [] p)) [] k) Value.oneCell') = true)/\
 (∀ k : Nat,k < 64->(Nat.beq (List.length (Cs.eff (Cs.eff (fun (p : Nat) => cond (Nat.ble 0 p && Nat.blt p 64) [Value.int .u8 (x_2.res (0 + (p - 0)))] (Cs.eff (fun (p_1 : Nat) => cond (Nat.ble 0 p_1 && Nat.blt p_1 64) [Value.int .u8 (x_1.res (0 + (p_1 - 0)))] [Value.int .u8 0]) [] p)) []) [] k)) 1 && List.all (Cs.eff (Cs.eff (fun (p : Nat) => cond (Nat.ble 0 p && Nat.blt p 64) [Value.int .u8 (x_2.res (0 + (p - 0)))] (Cs.eff (fun (p_1 : Nat) => cond (Nat.ble 0 p_1 && Nat.blt p_1 64) [Value.int .u8 (x_1.res (0 + (p_1 - 0)))] [Value.int .u8 0]) [] p)) []) [] k) Value.oneCell') = true)/\(∀ k : Nat,k < 64->(Nat.beq (List.length (Cs.eff (Cs.eff (Cs.eff (fun (p : Nat) => cond (Nat.ble 0 p && Nat.blt p 64) [Value.int .u8 (x_2.res (0 + (p - 0)))] (Cs.eff (fun (p_1 : Nat) => cond (Nat.ble 0 p_1 && Nat.blt p_1 64) [Value.int .u8 (x_1.res (0 + (p_1 - 0)))] [Value.int .u8 0]) [] p)) []) []) [] k)) 1 && List.all (Cs.eff (Cs.eff (Cs.eff (fun (p : Nat) => cond (Nat.ble 0 p && Nat.blt p 64) [Value.int .u8 (x_2.res (0 + (p - 0)))] (Cs.eff (fun (p_1 : Nat) => cond (Nat.ble 0 p_1 && Nat.blt p_1 64) [Value.int .u8 (x_1.res (0 + (p_1 - 0)))] [Value.int .u8 0]) [] p)) []) []) [] k) Value.oneCell') = true)/\Io/\∃ y_2 : Unit,True/\ail/\(64 = 64/\∀ q : Nat,q < 64->[Value.int .u8 (mQ x q)] = Cs.eff (Cs.eff (Cs.eff (Cs.eff (fun (p : Nat) => cond (Nat.ble 0 p && Nat.blt p 64) [Value.int .u8 (x_2.res (0 + (p - 0)))] (Cs.eff (fun (p_1 : Nat) => cond (Nat.ble 0 p_1 && Nat.blt p_1 64) [Value.int .u8 (x_1.res (0 + (p_1 - 0)))] [Value.int .u8 0]) [] p)) []) []) []) [] q)/\True))))
theorem aeu (x : Nat) : Yc x = wpF Tryz.prog tblK tt (noA x) 200 5 149 (FN.args x) (hO FN.k (FN.os x)) (fun v h' => eH FN.k x v h' FN.outs) := by kernel_rfl
def NT (x : DevM) : Prop :=
 ∃ x_1 : Nat,Hd (10<=x_1/\x_1<=258)/\((x_1 : Int) = (x.n : Int)/\True)/\True/\∀ y : Unit,True->∃ x_2 : nD,Hd (x_2.d.ok/\x_2.k < x_2.d.n/\x_2.b.ok/\x_2.a + x_2.b.n<=64)/\(0 = 0/\(x_2.k : Int) = 0/\(x_2.a : Int) = 0/\(x_2.b.q = 0/\x_2.b.n = 64)/\True)/\(((0 = 0/\x_2.d.n = x.n/\x_2.d.n = x.n)/\x_2.d.st = x.st/\x_2.d.fl = x.fl/\amb x_2.d x)/\(x_2.d.n * 193 = x.n * 193/\∀ q : Nat,q < x_2.d.n * 193->Cs.eff (gV x_2.d) [] q = Cs.eff (gV x) [] q)/\(x_2.b.N = 64/\∀ q : Nat,q < x_2.b.N->[Value.int .u8 (x_2.b.g q)] = [Value.int .u8 (mQ x_1 q)])/\True)/\∀ y_1 : Unit,True->∃ x_3 : Int,Hd (0<=x_3/\x_3 < 18446744073709551616)/\(x_3 = 0/\True)/\True/\∀ y_2 : Unit,True->∃ x_4 : nD,Hd (x_4.d.ok/\x_4.k < x_4.d.n/\x_4.b.ok/\x_4.a + x_4.b.n<=64)/\(0 = 0/\(x_4.k : Int) = 1/\(x_4.a : Int) = 0/\(x_4.b.q = 0/\x_4.b.n = 64)/\True)/\(aip x_4.d x_2.d/\ain x_4.d x_2/\(x_4.b.N = 64/\∀ q : Nat,q < x_4.b.N->[Value.int .u8 (x_4.b.g q)] = [Value.int .u8 (iK x_3 q)])/\True)/\∀ y_3 : Unit,True->∃ x_5 : RH,Hd (x_5.d.ok/\x_5.k < 258)/\(0 = 0/\(x_5.k : Int) = 0/\True)/\(aip x_5.d x_4.d/\ain x_5.d x_4/\True)/\∀ y_4 : Unit,True->∃ x_6 : RH,Hd (x_6.d.ok/\x_6.k < 258)/\(0 = 0/\(x_6.k : Int) = 1/\True)/\apA x_6.d x_5/\∀ y_5 : Unit,True->∃ x_7 : DevM,Hd x_7.ok/\(0 = 0/\True)/\apA x_7 x_6/\∀ y_6 : Unit,True->∃ y_7 : DevM,Hd (y_7.ok/\y_7.n = x.n/\y_7.st = x.st + 2/\y_7.fl = x.fl + 2/\y_7.fe = x.fe + 1)/\(0 : Int) = 0/\((0 = 0/\y_7.n = x_7.n/\y_7.n = x_7.n)/\y_7.st = x_7.st/\y_7.fl = x_7.fl/\y_7.fe = x_7.fe + 1/\y_7.ba = x_7.ba/\y_7.cu = x_7.cu/\True)/\(y_7.n * 193 = x_7.n * 193/\∀ q : Nat,q < y_7.n * 193->Cs.eff (gV y_7) [] q = Cs.eff (gV x_7.fence) [] q)/\True
theorem Yd (x : DevM) : NT x = wpF Tryz.prog arD tt (noA x) 200 5 90 (FP.args x) (hO 2 (dK 1 (FP.l x))) (fun v h' => cO 1 x v h' FP.outs) := by kernel_rfl
end Go.Proofs.YtenfleoejgjklaaGreat
end
section
namespace Go.Proofs.YtenfleoejgjklaaGreat
open Go SE
set_option linter.unusedSimpArgs false
theorem TN (v : Nat) (hv : 10<=v/\v<=258) : Yc v := by
 have hw : IntKind.u64.wrap (v : Int) = v := iI (by omega) (by omega)
 let b0 : Bys := ⟨fun k => if k = 0 then 4 else if k = 1 then 70 else if k = 2 then 85 else if k = 3 then 83 else if k = 4 then 69 else 0,0,9,9⟩
 let x1 : uG := ⟨b0,5,4,v,9⟩
 have ok1 : x1.ok := ⟨⟨by simp [x1,b0],by simp [x1,b0],fun k => by simp only [x1,b0]; grind⟩,by simp [x1,b0],by simp [x1],by simp [x1],by show (0 : Int)<=v; omega,by show (v : Int) < 256 ^ 4; omega⟩
 have r1 : ∀ k,k < 9->x1.res k = aes v k := fun k hk => by
  simp only [uG.res,oI,aes,x1,b0]
  by_cases h : k < 5
  ·rw [if_neg (by omega),ay]; grind
  ·rw [if_pos (by omega)]; grind
 have u1 : ∀ k,0<=x1.res k/\x1.res k < 256 := zI (fun k => ok1.1.2.2 _) _ _ _
 let b1 : Bys := ⟨fun k => if k < 9 then x1.res k else 0,0,64,64⟩
 let x2 : uG := ⟨b1,9,4,nC 0 x1.res 9,64⟩
 have c1 : nC 0 x1.res 9 = nC 0 (aes v) 9 := zH r1
 have hU := Z7 0 x1.res 9
 have ok2 : x2.ok := ⟨⟨by simp [x2,b1],by simp [x2,b1],fun k => by
  show 0<=(if k < 9 then x1.res k else 0)/\(if k < 9 then x1.res k else 0) < 256
  split
  ·exact u1 k
  ·exact ⟨by omega,by omega⟩⟩,by simp [x2,b1],by simp [x2],by simp [x2],hU.1,hU.2⟩
 have w64 : IntKind.u64.wrap (nC 0 x1.res 9) = nC 0 x1.res 9 := iI hU.1 (by have := hU.2; omega)
 have nb : x1.b.n = 9 := rfl
 have nb2 : x2.b.n = 64 := rfl
 have ble9 : Nat.ble 9 64 = true := rfl
 have aoW : Nat.ble 64 64 = true := rfl
 unfold Yc
 simp only [aiq,Io,amc,aio,ail,amd,apz]
 simp only [aY,aU,aT,ay,aH,bI,bn,aN,aJ,au,aW,aV,bJ,bC,bD,bF,bK,bf,bG,aZ,dU,aG,aK,ah,aj,aA,aC,aB,aF,hw]
 refine bg (fun h => absurd (aQ h) (by omega)) fun _ => bg (fun h => absurd (aQ h) (by omega)) fun _ => ?_
 refine ⟨x1,ok1,⟨⟨rfl,rfl,rfl⟩,rfl,rfl,rfl⟩,⟨rfl,fun q hq => ?_⟩,by omega,by omega,?_⟩
 ·have hq : q < 9 := hq
  match q,hq with
  | 0,_ | 1,_ | 2,_ | 3,_ | 4,_ | 5,_ | 6,_ | 7,_ | 8,_ => rfl
 simp only [nb,ble9,cP,bJ,bC,bD,bF,bK,bf,bG,aZ,dU,aG,aK,ah,aj,aA,aC,aB,aF,aJ,aT]
 refine ⟨by omega,by omega,by omega,9,x1.res,rfl,by omega,fun _ _ => rfl,u1,x2,ok2,⟨⟨rfl,rfl,rfl⟩,rfl,rfl,w64.symm⟩,⟨rfl,fun q hq => ?_⟩,by omega,by omega,?_⟩
 ·show (if q < 9 then x1.res q else 0) = _
  rw [bV,dY]
 simp only [nb2,aoW,cP,bJ,bC,bD,bF,bK,bf,bG,aZ,dU,aG,aK,ah,aj,aA,aC,aB,aF,aJ,aT]
 refine ⟨by omega,by omega,fun q hq => ?_⟩
 simp [bQ.2 hq]
 show mQ v q = oI (fun k => if 0 + k < 9 then x1.res (0 + k) else 0) 9 4 (nC 0 x1.res 9) q
 simp only [mQ,oI,c1,ay]
 by_cases h : q < 9
 ·rw [if_pos h,if_neg (by omega),if_pos h,r1 q h]
 ·by_cases h2 : q < 13
  ·rw [if_neg h,if_pos h2,if_pos (by omega)]
  ·rw [if_neg h,if_neg h2,if_neg (by omega),if_neg h]
theorem TP {v : Nat} (hv : v<=258) (k : Nat) : 0<=mQ v k/\mQ v k < 256 := by
 unfold mQ aes
 repeat' split
 all_goals first | exact lU _ _ | omega
theorem DevM.zT {d : DevM} (h : d.ok) (k : Nat) (hf : d.fl + 1 < 1099511627776) : (d.flush k).ok := by
 obtain ⟨h1,h2,h3,h4,h5,h6⟩ := h
 refine ⟨h1,fun p => ?_,h3,?_,h5,h6⟩
 ·simp only [DevM.flush]; split <;> exact h2 _
 ·unfold small at *; simp only [DevM.flush]; split <;> omega
theorem DevM.JR {d : DevM} (h : d.ok) (hf : d.fe + 1 < 1099511627776) : d.fence.ok := by
 obtain ⟨h1,h2,h3,h4,h5,h6⟩ := h
 refine ⟨h1,fun p => ?_,h3,h4,?_,h6⟩
 ·simp only [DevM.fence,DevM.iP]; split <;> exact h2 _
 ·unfold small at *; simp only [DevM.fence,DevM.iP]; omega
theorem DevM.jf {d : DevM} (h : d.ok) (k a n : Nat) {g : Nat->Int} (hg : ∀ q,0<=g q/\g q < 256) (hf : d.st + 1 < 1099511627776) : (d.store k a n g).ok := by
 obtain ⟨h1,h2,h3,h4,h5,h6⟩ := h
 refine ⟨h1,fun p => ?_,?_,h4,h5,h6⟩
 ·simp only [DevM.store]
  split
  ·exact hg _
  ·exact h2 _
 ·unfold small at *; simp only [DevM.store]; omega
theorem NU (x : DevM) (hx : x.ok/\10<=x.n/\x.wide 10) : NT x := by
 obtain ⟨ho,hn,w1,w2,w3⟩ := hx
 have hn2 := ho.1
 let s1 := x.store 0 0 64 (mQ x.n)
 let s2 := s1.store 1 0 64 (iK 0)
 let f1 := s2.flush 0
 let f2 := f1.flush 1
 have o1 : s1.ok := DevM.jf ho _ _ _ (TP (by omega)) (by omega)
 have o2 : s2.ok := DevM.jf o1 _ _ _ (yu 0) (by show x.st + 1 + 1 < _; omega)
 have o3 : f1.ok := DevM.zT o2 0 (by show x.fl + 1 < _; omega)
 have e3 : f1.fl = x.fl + 1 := if_pos (by show 0 < x.n; omega)
 have o4 : f2.ok := DevM.zT o3 1 (by rw [e3]; omega)
 have e4 : f2.fl = x.fl + 2 := (if_pos (show 1 < x.n by omega)).trans (by rw [e3]; omega)
 have o5 : f2.fence.ok := DevM.JR o4 (by show x.fe + 1 < _; omega)
 have z1 : (x.store 0 0 64 fun q => mQ x.n (0 + q)) = s1 := by simp only [ay]; rfl
 have z2 : (s1.store 1 0 64 fun q => iK 0 (0 + q)) = s2 := by simp only [ay]; rfl
 unfold NT
 simp only [amb,aip,ain,apA]
 simp only [aY,aU,aT,ay,aH,bI,bn,aN,aJ,au,aW,aV,bJ,bC,bD,bF,bK,bf,bG,aZ,dU,aG,aK,ah,aj,aA,aC,aB,aF]
 refine ⟨x.n,⟨hn,hn2⟩,rfl,⟨x,0,0,⟨mQ x.n,0,64,64⟩⟩,⟨ho,by show 0 < x.n; omega,⟨by simp,by simp,TP hn2⟩,by simp⟩,⟨rfl,rfl,rfl,rfl⟩,⟨⟨rfl,rfl,rfl,rfl,rfl,rfl⟩,⟨rfl,fun q _ => rfl⟩,rfl,fun q _ => rfl⟩,
  0,⟨by decide,by decide⟩,rfl,⟨s1,1,0,⟨iK 0,0,64,64⟩⟩,⟨o1,by show 1 < x.n; omega,⟨by simp,by simp,yu 0⟩,by simp⟩,⟨rfl,rfl,rfl,rfl⟩,⟨⟨rfl,rfl,rfl,rfl,rfl,rfl⟩,⟨rfl,fun q _ => ?_⟩,rfl,fun q _ => rfl⟩,
  ⟨s2,0⟩,⟨o2,show 0 < 258 by decide⟩,rfl,⟨⟨rfl,rfl,rfl,rfl,rfl,rfl⟩,rfl,fun q _ => ?_⟩,⟨f1,1⟩,⟨o3,show 1 < 258 by decide⟩,rfl,⟨⟨rfl,rfl,rfl,rfl,rfl,rfl⟩,rfl,fun q _ => rfl⟩,f2,o4,⟨⟨rfl,rfl,rfl,rfl,rfl,rfl⟩,rfl,fun q _ => rfl⟩,f2.fence,⟨o5,rfl,by show x.st + 1 + 1 = x.st + 2; omega,e4,rfl⟩,⟨rfl,rfl,rfl,rfl,rfl,rfl⟩,rfl,fun q _ => rfl⟩
 ·show gV s1 q = gV (x.store 0 0 64 fun q => mQ x.n (0 + q)) q
  rw [z1]
 ·show gV s2 q = gV (s1.store 1 0 64 fun q => iK 0 (0 + q)) q
  rw [z2]
theorem ame : bU Tryz.prog 149 FN := dR dD mixed agO noA 200 5 (fun _ => rfl) (fun _ => rfl) fun x hx => Eq.mp (aeu x) (TN x (aY.1 hx))
theorem amf : fA Tryz.prog arD := .cons (bM ame) (.cons (bM Z9) (.cons (bM aak) (.cons (bM aai) (.cons (bM aaj) .nil))))
theorem air : bU Tryz.prog 90 FP.ctr := dH dD mixed amf 2 noA 200 5 (fun _ => ⟨rfl,rfl,rfl,rfl⟩) fun x hx => Eq.mp (Yd x) (NU x (aY.1 hx))
end Go.Proofs.YtenfleoejgjklaaGreat
end
section
namespace Go.Proofs.YtenfleoejgjklaaGreat
open Go SE
noncomputable def ais : jd := lV Nat (fun n => [i64 n]) 0 (fun _ => []) (fun n => Hd (1<=n/\n<=258)) (fun _ => .tup [.ptr 0 0,i64 0]) 1 (fun n => [.m (uQ n).os])
def ait : jd := lV Nat (fun t => [i64 t]) 0 (fun _ => []) (fun t => Hd (1<=t/\t<=4)) (fun _ => .tup [.ptr 0 0,i64 0]) 1 (fun t => [.m (alW t).os])
def aiu : jd := lV (Nat × Int) (fun p => [i64 p.1,u64 p.2]) 0 (fun _ => []) (fun p => Hd (1<=p.1/\p.1<=4/\0<=p.2/\p.2<=1152921504606846976)) (fun _ => .tup [.ptr 0 0,i64 0]) 1 (fun p => [.m ((aam p.1 p.2).os 0)])
noncomputable def aiv : jd := lV Nat (fun n => [i64 n]) 0 (fun _ => []) (fun n => Hd (1<=n/\n<=32)) (fun _ => .tup [.ptr 0 0,i64 0]) 1 (fun n => [.m (gJ n n).os])
def aiw : jd := lV Unit (fun _ => []) 0 (fun _ => []) (fun _ => Hd True) (fun _ => .ptr 0 0) 1 (fun _ => [.m tabE])
noncomputable def TQ : jd := lV DevM (fun _ => [.ptr 0 0]) 1 (fun d => [.m d.os]) (fun d => Hd d.ok) (fun d => i64 d.n) 1 (fun d => [.m d.os])
def aa1 : iD := ⟨true,0,fun _ => ⟨0,0,0,0,0⟩⟩
def amg : ZLn := ⟨0,0,0,0,fun _ => pX⟩
def aix : jd := lV Unit (fun _ => []) 0 (fun _ => []) (fun _ => Hd True) (fun _ => .ptr 0 0) 1 (fun _ => [.m aa1.os])
def aiy : jd := lV Unit (fun _ => []) 0 (fun _ => []) (fun _ => Hd True) (fun _ => .ptr 0 0) 1 (fun _ => [.m amg.os])
end Go.Proofs.YtenfleoejgjklaaGreat
end
section
namespace Go.Proofs.YtenfleoejgjklaaGreat
open Go SE
def CV : Prop := ∃ y : Unit,True/\(False/\(0 : Int) = 2/\True)/\False/\False/\True
def TR : Prop := 0 = 0/\(0 : Int) = 0/\True
def Ip (a : Nat) : Prop := 0 = 0/\a = a/\a = a
def apB : Prop := 258 = 258/\∀ q : Nat,q < 258->[Value.bool false] = [Value.bool false]
def apC : Prop := True/\True/\True/\True/\True/\True/\True/\True/\True
def Ye (x : Nat) : Prop :=
 cP (decide ((x : Int) < 1)) CV (cP (decide ((x : Int) > (258 : Int))) CV ((0<=(x : Int)/\(x : Int)<=(x : Int)/\193 * (x : Int)<=281474976710656/\(x : Int) < 4611686018427387904)/\∃ y : Unit,True/\TR/\(Ip x/\(0 : Int) = 0/\(0 : Int) = 0/\(0 : Int) = 0/\(0 : Int) = 0/\(0 : Int) = 0/\True)/\(x * 193 = x * 193/\∀ q : Nat,∀ j : Nat,q < x->j < 193->∃ v : Value,getElem? (List.replicate 192 (Value.int .u8 0) ++ [Value.bool false]) j = some v/\Cs.eff (gV (uQ x)) [] (q * 193 + j) = [v])/\True))
theorem aev (x : Nat) : Ye x = wpF Tryz.prog [] tt (noA x) 200 5 48 (ais.args x) (hO 0 (dK 0 (ais.l x))) (fun v h' => cO 0 x v h' ais.outs) := by kernel_rfl
def Yf (x : Nat) : Prop :=
 cP (decide ((x : Int) < 1)) CV (cP (decide ((x : Int) > (4 : Int))) CV ((0<=(x : Int)/\(x : Int)<=(x : Int)/\8 * (x : Int)<=281474976710656/\(x : Int) < 4611686018427387904)/\∃ y : Unit,True/\TR/\((1 : Int) = 1/\Ip x/\True)/\(x = x/\∀ q : Nat,q < x->[Value.int .u64 0] = [Value.int .u64 0])/\True))
theorem aew (x : Nat) : Yf x = wpF Tryz.prog qO tt (noA x) 200 5 79 (ait.args x) (hO 0 (dK 0 (ait.l x))) (fun v h' => cO 0 x v h' ait.outs) := by kernel_rfl
def Yg (x : Nat × Int) : Prop :=
 cP (decide ((x.1 : Int) < 1)) CV (cP (decide ((x.1 : Int) > (4 : Int))) CV (cP (decide (x.2 > (1152921504606846976 : Int))) (∃ y : Unit,True/\(False/\(0 : Int) = 10/\True)/\False/\False/\True) ((0<=(x.1 : Int)/\(x.1 : Int)<=(x.1 : Int)/\8 * (x.1 : Int)<=281474976710656/\(x.1 : Int) < 4611686018427387904)/\∃ y : Unit,True/\TR/\((x.2 + 1 = IntKind.wrap .u64 (x.2 + 1)/\x.2 = x.2/\(0 : Int) = 0/\(0 = 0/\x.1 = x.1/\x.1 = x.1)/\True)/\apB/\apB/\Value.nilFunc = Value.nilFunc/\True)/\(x.1 = x.1/\∀ q : Nat,q < x.1->[Value.int .i64 0] = [Value.int .i64 0])/\True)))
theorem aex (x : Nat × Int) : Yg x = wpF Tryz.prog qO tt (noA x) 200 5 81 (aiu.args x) (hO 0 (dK 0 (aiu.l x))) (fun v h' => cO 0 x v h' aiu.outs) := by kernel_rfl
def Yh (x : Nat) : Prop :=
 cP (decide ((x : Int) < 1)) CV (I64 (256 : Int)/\((8 : Int) = 0->False)/\I64 (32 : Int)/\cP (decide ((x : Int) > (32 : Int))) CV ((0<=(x : Int)/\(x : Int)<=(x : Int)/\24 * (x : Int)<=281474976710656/\(x : Int) < 4611686018427387904)/\(∃ s : Nat,s<=x/\True/\((s : Int) = 0/\True)/\(Ip x/\True)/\(x * 10 = x * 10/\∀ q : Nat,∀ j : Nat,q < x->j < 10->∃ v : Value,getElem? [Value.int .i64 0,Value.bool false,Value.bool false,Value.bool false,Value.bool false,Value.bool false,Value.bool false,Value.bool false,Value.bool false,Value.int .i64 0] j = some v/\Cs.eff (ig (gJ x s)) [] (q * 10 + j) = [v])/\True)/\(∀ s : Nat,s<=x->cP (decide ((s : Int) < (x : Int))) ((0<=(s : Int)/\(s : Int) < (x : Int))/\(0 + s) * 10 + 0 < x * 10/\I64 ((s : Int) + 1)/\∃ s_1 : Nat,s_1<=x/\x - s_1 < x - s/\((s_1 : Int) = (s : Int) + 1/\True)/\(Ip x/\True)/\(x * 10 = x * 10/\∀ q : Nat,q < x * 10->Cs.eff (ig (gJ x s_1)) [] q = Cs.eff (ig (gJ x s)) [((0 + s) * 10 + 0,[Value.int .i64 (-(1 : Int))])] q)/\True) (∃ y : Unit,True/\TR/\(Ip x/\True)/\(x * 10 = x * 10/\∀ q : Nat,q < x * 10->Cs.eff (ig (gJ x x)) [] q = Cs.eff (ig (gJ x s)) [] q)/\True))/\True))
theorem aey (x : Nat) : Yh x = wpF Tryz.prog [] tt (anE x) 200 5 82 (aiv.args x) (hO 0 (dK 0 (aiv.l x))) (fun v h' => cO 0 x v h' aiv.outs) := by kernel_rfl
def Yi (x : Unit) : Prop :=
 ((0 : Int)<=0/\(0 : Int)<=7)/\I64 (1 : Int)/\((0 : Int)<=1/\(0 : Int)<=6)/\I64 (2 : Int)/\((0 : Int)<=2/\(0 : Int)<=5)/\I64 (3 : Int)/\((0 : Int)<=3/\(0 : Int)<=4)/\I64 (4 : Int)/\((0 : Int)<=4/\(0 : Int)<=3)/\I64 (5 : Int)/\((0 : Int)<=5/\(0 : Int)<=2)/\I64 (6 : Int)/\((0 : Int)<=6/\(0 : Int)<=1)/\I64 (7 : Int)/\((0 : Int)<=7/\(0 : Int)<=0)/\I64 (8 : Int)/\∃ y : Unit,True/\0 = 0/\apC/\apC
theorem aez (x : Unit) : Yi x = wpF Tryz.prog qO tt (noA x) 200 5 85 (aiw.args x) (hO 0 (dK 0 (aiw.l x))) (fun v h' => cO 0 x v h' aiw.outs) := by kernel_rfl
def Yj (x : DevM) : Prop :=
 ∃ y : Unit,True/\(x.n : Int) = (x.n : Int)/\(Ip x.n/\x.st = x.st/\x.fl = x.fl/\x.fe = x.fe/\x.ba = x.ba/\x.cu = x.cu/\True)/\(x.n * 193 = x.n * 193/\∀ q : Nat,q < x.n * 193->Cs.eff (gV x) [] q = Cs.eff (gV x) [] q)/\True
theorem aeA (x : DevM) : Yj x = wpF Tryz.prog qO tt (noA x) 200 5 80 (TQ.args x) (hO 2 (dK 1 (TQ.l x))) (fun v h' => cO 1 x v h' TQ.outs) := by kernel_rfl
def aiz (x : Unit) : Prop :=
 ∃ y : Unit,True/\0 = 0/\(Value.slice none 0 0 = Value.slice none 0 0/\True)/\True
theorem aiA (x : Unit) : aiz x = wpF Tryz.prog [] tt (noA x) 200 5 84 (aix.args x) (hO 0 (dK 0 (aix.l x))) (fun v h' => cO 0 x v h' aix.outs) := by kernel_rfl
def aiB (x : Unit) : Prop :=
 ∃ y : Unit,True/\0 = 0/\(Value.slice none 0 0 = Value.slice none 0 0/\(0 : Int) = 0/\(0 : Int) = 0/\True)/\True
theorem aiC (x : Unit) : aiB x = wpF Tryz.prog [] tt (noA x) 200 5 87 (aiy.args x) (hO 0 (dK 0 (aiy.l x))) (fun v h' => cO 0 x v h' aiy.outs) := by kernel_rfl
end Go.Proofs.YtenfleoejgjklaaGreat
end
section
namespace Go.Proofs.YtenfleoejgjklaaGreat
open Go SE
set_option linter.unusedSimpArgs false
theorem TS (x : Nat) (hx : 1<=x/\x<=258) : Ye x := by
 have h := Xg x hx
 unfold agU at h
 simp only [aah,nK,kU] at h
 unfold Ye
 simp only [CV,TR,Ip]
 simp only [aY,aU,aT,ay,aH,bI,bn,aN,aJ,au,aW,aV,bJ,bC,bD,bF,bK,bf,bG,aZ,dU,aG,aK,ah,aj,aA,aC,aB,aF] at h ⊢
 exact h
theorem TU (x : Nat) (hx : 1<=x/\x<=4) : Yf x := by
 have h := XL x hx
 unfold ahy at h
 simp only [aaA,kW] at h
 unfold Yf
 simp only [CV,TR,Ip]
 simp only [aY,aU,aT,ay,aH,bI,bn,aN,aJ,au,aW,aV,bJ,bC,bD,bF,bK,bf,bG,aZ,dU,aG,aK,ah,aj,aA,aC,aB,aF] at h ⊢
 exact h
theorem TV (x : Nat × Int) (hx : 1<=x.1/\x.1<=4/\0<=x.2/\x.2<=1152921504606846976) : Yg x := by
 have h := Xn x hx
 unfold agY at h
 simp only [aar,JG,Bg] at h
 unfold Yg
 simp only [CV,TR,apB]
 simp only [aY,aU,aT,ay,aH,bI,bn,aN,aJ,au,aW,aV,bJ,bC,bD,bF,bK,bf,bG,aZ,dU,aG,aK,ah,aj,aA,aC,aB,aF] at h ⊢
 exact h
theorem TW (x : Nat) (hx : 1<=x/\x<=32) : Yh x := by
 have h := XB x hx
 unfold ahf at h
 simp only [aax,nN,yE] at h
 unfold Yh
 simp only [CV,Ip,TR]
 simp only [aY,aU,aT,ay,aH,bI,bn,aN,aJ,au,aW,aV,bJ,bC,bD,bF,bK,bf,bG,aZ,dU,aG,aK,ah,aj,aA,aC,aB,aF] at h ⊢
 exact h
theorem TY (x : Unit) : Yi x := by
 unfold Yi
 simp only [apC]
 simp only [aY,aU,aT,ay,aH,bI,bn,aN,aJ,au,aW,aV,bJ,bC,bD,bF,bK,bf,bG,aZ,dU,aG,aK,ah,aj,aA,aC,aB,aF,I64]
 omega
theorem Ua (x : DevM) (_ : x.ok) : Yj x := by
 unfold Yj
 simp only [Ip]
 simp only [aY,aU,aT,ay,aH,bI,bn,aN,aJ,au,aW,aV,bJ,bC,bD,bF,bK,bf,bG,aZ,dU,aG,aK,ah,aj,aA,aC,aB,aF]
theorem amh : bU Tryz.prog 48 ais.ctr := dH dD mixed .nil 0 noA 200 5 (fun _ => ⟨rfl,rfl,rfl,rfl⟩) fun x hx => Eq.mp (aev x) (TS x (aY.1 hx))
theorem ami : bU Tryz.prog 79 ait.ctr := dH dD mixed eG 0 noA 200 5 (fun _ => ⟨rfl,rfl,rfl,rfl⟩) fun x hx => Eq.mp (aew x) (TU x (aY.1 hx))
theorem amj : bU Tryz.prog 81 aiu.ctr := dH dD mixed eG 0 noA 200 5 (fun _ => ⟨rfl,rfl,rfl,rfl⟩) fun x hx => Eq.mp (aex x) (TV x (aY.1 hx))
theorem amk : bU Tryz.prog 82 aiv.ctr := dH dD mixed .nil 0 anE 200 5 (fun _ => ⟨rfl,rfl,rfl,rfl⟩) fun x hx => Eq.mp (aey x) (TW x (aY.1 hx))
theorem aml : bU Tryz.prog 85 aiw.ctr := dH dD mixed eG 0 noA 200 5 (fun _ => ⟨rfl,rfl,rfl,rfl⟩) fun x _ => Eq.mp (aez x) (TY x)
theorem amm : bU Tryz.prog 80 TQ.ctr := dH dD mixed eG 2 noA 200 5 (fun _ => ⟨rfl,rfl,rfl,rfl⟩) fun x hx => Eq.mp (aeA x) (Ua x (aY.1 hx))
theorem Yk (x : Unit) : aiz x := by
 unfold aiz
 simp only [aY,aU,aT,ay,aH,bI,bn,aN,aJ,au,aW,aV,bJ,bC,bD,bF,bK,bf,bG,aZ,dU,aG,aK,ah,aj,aA,aC,aB,aF]
theorem amn : bU Tryz.prog 84 aix.ctr := dH dD mixed .nil 0 noA 200 5 (fun _ => ⟨rfl,rfl,rfl,rfl⟩) fun x _ => Eq.mp (aiA x) (Yk x)
theorem Yl (x : Unit) : aiB x := by
 unfold aiB
 simp only [aY,aU,aT,ay,aH,bI,bn,aN,aJ,au,aW,aV,bJ,bC,bD,bF,bK,bf,bG,aZ,dU,aG,aK,ah,aj,aA,aC,aB,aF]
theorem amo : bU Tryz.prog 87 aiy.ctr := dH dD mixed .nil 0 noA 200 5 (fun _ => ⟨rfl,rfl,rfl,rfl⟩) fun x _ => Eq.mp (aiC x) (Yl x)
end Go.Proofs.YtenfleoejgjklaaGreat
end
section
namespace Go.Proofs.YtenfleoejgjklaaGreat
open Go SE
structure eY where
 kind : Int
 key : ByteArray
 value : ByteArray
 id : Int
 ver : Int
 epoch : Int
 group : Int
def eY.cs (e : eY) : List Value := [.int .i64 e.kind,.string e.key,.string e.value,.int .u64 e.id,.int .u64 e.ver,.int .u64 e.epoch,.int .i64 e.group]
structure ZArn where
 d : DevM
 p : dw
 r : ZRd
 c : ClkM
 b : iD
 l : ZLn
 id : Int
 ver : Int
 n : Nat
 e : Nat->eY
namespace ZArn
def str (a : ZArn) (ef : AV) : bZ := .cells 113 (.av [.ptr 1 0,.ptr 3 0,.ptr 4 0,.ptr 5 0,.ptr 6 0,.ptr 7 0,.ptr 8 0,.ptr 9 0,u64 a.id,u64 a.ver,ef])
noncomputable def parts (a : ZArn) : List bZ := [.cells 145 (.av [.ptr 2 0,u32 1,.lit (.int .i32 0),u32 0]),.abs (ownM a.d.os),.abs (ownM a.p.os),.abs (ownM a.r.os),.abs (ownM (a.c.os 0)),.abs (ownM a.b.os),.abs (ownM tabE),.cells 255 (.av [fJ,fJ,fJ,fJ]),.abs (ownM a.l.os)]
noncomputable def osN (a : ZArn) : List bZ := a.str fJ :: a.parts
noncomputable def osP (a : ZArn) : List bZ := a.str (.slW 10 0 7 a.n) :: (a.parts ++ [.room 95 (.row 7 a.n (fun i => (a.e i).cs) [])])
noncomputable def os (a : ZArn) : List bZ := bif Nat.beq a.n 0 then a.osN else a.osP
end ZArn
noncomputable def newArn (n t : Nat) (d : DevM) : ZArn := ⟨d,gJ ((n - 2) / 8) ((n - 2) / 8),alW t,aam t 0,aa1,amg,0,0,0,fun _ => ⟨0,⟨#[]⟩,⟨#[]⟩,0,0,0,0⟩⟩
structure ZNew where
 n : Nat
 t : Nat
noncomputable def aeB : jd := { X := ZNew,args := fun x => [i64 x.n,i64 x.t],k := 0,l := fun _ => [],pre := fun x => Hd (10<=x.n/\x.n<=258/\1<=x.t/\x.t<=4),outs := [
 { Y := DevM,post := fun x d => Hd (d.ok/\d.n = x.n/\d.st = 2/\d.fl = 2/\d.fe = 1),ret := fun _ _ => .tup [.ptr 0 0,i64 0],m := 1,l := fun x d => [.m (newArn x.n x.t d).osN] }] }
noncomputable def arE : WTbl := [(90,ctrT FP.ctr)]
noncomputable def arF : WTbl := qO ++ [(48,ctrT ais.ctr),(79,ctrT ait.ctr),(80,ctrT TQ.ctr),(81,ctrT aiu.ctr),(82,ctrT aiv.ctr),(85,ctrT aiw.ctr),(84,ctrT aix.ctr),(87,ctrT aiy.ctr),(148,apy arE)]
end Go.Proofs.YtenfleoejgjklaaGreat
end
section
namespace Go.Proofs.YtenfleoejgjklaaGreat
open Go SE
def aeC : Prop := Value.slice none 0 0 = Value.slice none 0 0
def apD (a : ZNew) (b : Nat) (c : Nat) (d : Prod Nat Int) : Prop := ownM (dw.os (gJ ((a.n - 2) / 8) ((a.n - 2) / 8))) = ownM (dw.os (gJ b b))/\ownM (ZRd.os (alW a.t)) = ownM (ZRd.os (alW c))/\ownM (ClkM.os (aam a.t (0 : Int)) 0) = ownM (ClkM.os (aam d.1 d.2) 0)/\ownM aa1.os = ownM aa1.os/\ownM tabE = ownM tabE/\(aeC/\aeC/\aeC/\aeC/\True)/\ownM amg.os = ownM amg.os/\True
def apE : Prop := 0 = 0/\0 = 0/\0 = 0/\0 = 0/\0 = 0/\0 = 0/\0 = 0/\0 = 0/\(0 : Int) = 0/\(0 : Int) = 0/\aeC/\True
def amq (a : DevM) (b : Nat) : Prop := Hd (a.ok/\a.n = b/\a.st = 2/\a.fl = 2/\a.fe = 1)
def aiD (x : ZNew) : Prop :=
 ∃ x_1 : Nat,Hd (1<=x_1/\x_1<=258)/\((x_1 : Int) = (x.n : Int)/\True)/\True/\∀ y : Unit,True->∃ x_2 : Nat,Hd (1<=x_2/\x_2<=4)/\((x_2 : Int) = (x.t : Int)/\True)/\True/\∀ y_1 : Unit,True->∃ x_3 : DevM,Hd x_3.ok/\(0 = 0/\True)/\(ownM x_3.os = ownM (DevM.os (uQ x_1))/\True)/\∀ y_2 : Unit,True->cP (decide ((x_3.n : Int) < 10)) (∃ y_3 : DevM,amq y_3 x.n/\(False/\(0 : Int) = 2/\True)/\False/\False/\False/\False/\False/\False/\False/\False/\False/\False/\True) (∃ x_4 : Prod Nat Int,Hd (1<=x_4.1/\x_4.1<=4/\0<=x_4.2/\x_4.2<=1152921504606846976)/\((x_4.1 : Int) = (x.t : Int)/\x_4.2 = 0/\True)/\True/\∀ y_3 : Unit,True->∃ x_5 : DevM,Hd x_5.ok/\(0 = 0/\True)/\(ownM x_5.os = ownM x_3.os/\True)/\∀ y_4 : Unit,True->cP (decide ((x_5.n : Int) < 10)) (∃ x_6 : Nat,Hd (1<=x_6/\x_6<=32)/\((x_6 : Int) = 0/\True)/\True/\∀ y_5 : Unit,True->∃ x_7 : Unit,Hd True/\True/\True/\∀ y_6 : Unit,True->∃ x_8 : Unit,Hd True/\True/\True/\∀ y_7 : Unit,True->∃ x_9 : Unit,Hd True/\True/\True/\∀ y_8 : Unit,True->∃ CW : DevM,Hd (CW.ok/\10<=CW.n/\CW.wide (10 : Int))/\(0 = 0/\True)/\(ownM CW.os = ownM x_5.os/\True)/\∀ y_9 : DevM,Hd (y_9.ok/\y_9.n = CW.n/\y_9.st = CW.st + 2/\y_9.fl = CW.fl + 2/\y_9.fe = CW.fe + 1)->∃ aqy : DevM,amq aqy x.n/\(0 = 0/\(0 : Int) = 0/\True)/\apE/\(0 = 0/\(1 : Int) = 1/\(0 : Int) = 0/\(0 : Int) = 0/\True)/\ownM aqy.os = ownM y_9.os/\apD x x_6 x_2 x_4) (I64 (Ed (x_5.n : Int) (258 : Int) - 2)/\((8 : Int) = 0->False)/\I64 (Int.tdiv (Ed (x_5.n : Int) (258 : Int) - 2) (8 : Int))/\∃ x_6 : Nat,Hd (1<=x_6/\x_6<=32)/\((x_6 : Int) = Int.tdiv (Ed (x_5.n : Int) (258 : Int) - 2) (8 : Int)/\True)/\True/\
 ∀ y_5 : Unit,True->∃ x_7 : Unit,Hd True/\True/\True/\∀ y_6 : Unit,True->∃ x_8 : Unit,Hd True/\True/\True/\∀ y_7 : Unit,True->∃ x_9 : Unit,Hd True/\True/\True/\∀ y_8 : Unit,True->∃ CW : DevM,Hd (CW.ok/\10<=CW.n/\CW.wide (10 : Int))/\(0 = 0/\True)/\(ownM CW.os = ownM x_5.os/\True)/\∀ y_9 : DevM,Hd (y_9.ok/\y_9.n = CW.n/\y_9.st = CW.st + 2/\y_9.fl = CW.fl + 2/\y_9.fe = CW.fe + 1)->∃ aqy : DevM,amq aqy x.n/\(0 = 0/\(0 : Int) = 0/\True)/\apE/\(0 = 0/\(1 : Int) = 1/\(0 : Int) = 0/\(0 : Int) = 0/\True)/\ownM aqy.os = ownM y_9.os/\apD x x_6 x_2 x_4))
theorem aiE (x : ZNew) : aiD x = wpF Tryz.prog arF tt (noA x) 200 5 13 (aeB.args x) (hO 0 (dK 0 (aeB.l x))) (fun v h' => cO 0 x v h' aeB.outs) := by kernel_rfl
end Go.Proofs.YtenfleoejgjklaaGreat
end
section
namespace Go.Proofs.YtenfleoejgjklaaGreat
open Go SE
set_option linter.unusedSimpArgs false
theorem Ym (n : Nat) (h : n<=258) : (uQ n).ok := ⟨h,fun _ => ⟨Int.le_refl 0,(by decide : (0 : Int) < 256)⟩,⟨Int.le_refl 0,(by decide : (0 : Int) < 1099511627776)⟩,⟨Int.le_refl 0,(by decide : (0 : Int) < 1099511627776)⟩,⟨Int.le_refl 0,(by decide : (0 : Int) < 1099511627776)⟩,
 ⟨Int.le_refl 0,(by decide : (0 : Int) < 1099511627776)⟩,⟨Int.le_refl 0,(by decide : (0 : Int) < 1099511627776)⟩⟩
theorem Yn (x : ZNew) (hx : 10<=x.n/\x.n<=258/\1<=x.t/\x.t<=4) : aiD x := by
 unfold aiD
 simp only [amq,apE,apD,aeC]
 simp only [aY,aU,aT,ay,aH,bI,bn,aN,aJ,au,aW,aV,bJ,bC,bD,bF,bK,bf,bG,aZ,dU,aG,aK,ah,aj,aA,aC,aB,aF]
 have h1 := Ym x.n hx.2.1
 have hm : Ed (x.n : Int) 258 = x.n := by unfold Ed; omega
 have hd : ((x.n : Int) - 2).tdiv 8 = (((x.n - 2) / 8 : Nat) : Int) := by
  rw [show (x.n : Int) - 2 = ((x.n - 2 : Nat) : Int) by omega]
  exact (Int.ofNat_tdiv (x.n - 2) 8).symm
 refine ⟨x.n,⟨by omega,by omega⟩,rfl,x.t,⟨by omega,by omega⟩,rfl,uQ x.n,h1,rfl,bg (fun h => absurd (aQ h) (by show ¬ ((x.n : Int) < 10); omega)) fun _ => ⟨(x.t,0),⟨by show 1<=x.t; omega,by show x.t<=4; omega,Int.le_refl 0,show (0 : Int)<=1152921504606846976 by decide⟩,⟨rfl,rfl⟩,uQ x.n,h1,rfl,bg (fun h => absurd (aQ h) (by show ¬ ((x.n : Int) < 10); omega)) fun _ => ?_⟩⟩
 show I64 (Ed (x.n : Int) 258 - 2)/\_
 rw [show Ed ((uQ x.n).n : Int) 258 = x.n from hm,hd]
 refine ⟨by show I64 (Ed (x.n : Int) 258 - 2); rw [hm]; unfold I64; omega,by omega,by unfold I64; omega,(x.n - 2) / 8,by omega,rfl,uQ x.n,⟨h1,by show 10<=x.n; omega,⟨show (0 : Int) + 10 < 1099511627776 by decide,show (0 : Int) + 10 < 1099511627776 by decide,show (0 : Int) + 10 < 1099511627776 by decide⟩⟩,rfl,fun y hy => ⟨y,⟨hy.1,hy.2.1,hy.2.2.1,hy.2.2.2.1,hy.2.2.2.2⟩,rfl,rfl,rfl,rfl⟩⟩
theorem amr : fA Tryz.prog arE := .cons (bM air) .nil
theorem ams : fA Tryz.prog arF := .append eG (.cons (bM amh) (.cons (bM ami) (.cons (bM amm) (.cons (bM amj) (.cons (bM amk) (.cons (bM aml) (.cons (bM amn) (.cons (bM amo) (.cons (fun _ _ _ hq => ama amr _ _ _ hq) .nil)))))))))
theorem aiF : bU Tryz.prog 13 aeB.ctr := dH dD mixed ams 0 noA 200 5 (fun _ => ⟨rfl,rfl,rfl,rfl⟩) fun x hx => Eq.mp (aiE x) (Yn x (aY.1 hx))
end Go.Proofs.YtenfleoejgjklaaGreat
end
section
namespace Go.Proofs.YtenfleoejgjklaaGreat
open Go SE
def aa2 (p r c b t l d : AV) : bZ := .ro (.av [d,p,r,c,b,t,.any,l,.any,.any,.any])
structure qN where
 b : iD
 l : ZLn
 k : Int
def qN.inL (x : qN) : Prop := ∃ i,i < x.l.n/\(x.l.get i).line = x.k
def qN.inB (x : qN) : Prop := ∃ i,i < x.b.n/\((x.b.e i).line = x.k ∨ (x.b.e i).anti = x.k)
noncomputable def qN.os (x : qN) : List bZ := [aa2 .any .any .any (.ptr 1 0) (.ptr 2 0) (.ptr 3 0) .any,.abs (ownM x.b.os),.abs (ownM tabE),.abs (ownM x.l.os)]
noncomputable def Yo : Ctr := { X := qN,args := fun x => [.ptr 0 0,i64 x.k],k := 4,os := qN.os,pre := fun x => Hd (x.b.ok/\x.l.ok/\x.l.n < 1099511627776),outs := [
 { Y := Unit,post := fun x _ => Hd (x.inL ∨ x.inB),ret := fun _ _ => boo true,m := 4,os := fun x _ => x.os },
 { Y := Unit,post := fun x _ => Hd (¬ x.inL/\¬ x.inB),ret := fun _ _ => boo false,m := 4,os := fun x _ => x.os }] }
def anL (x : qN) : FuncId->vK := fun f => bif Nat.beq f 247 then (fun b _ _ => bif Nat.beq b 0 then [
 { σ := Nat,fr := fun i => [(21,i64 i)],ob := fun _ => [],inv := fun i => Hd (i<=x.l.n/\∀ j,j < i->(x.l.get j).line ≠ x.k),meas := fun i => x.l.n - i }] else bif Nat.beq b 2 then [
 { σ := Nat,fr := fun i => [(36,i64 i)],ob := fun _ => [],inv := fun i => Hd (i<=x.b.n/\∀ j,j < i->(x.b.e j).line ≠ x.k/\(x.b.e j).anti ≠ x.k),meas := fun i => x.b.n - i }] else []) else fun _ _ _ => []
noncomputable def arG : WTbl := [(68,ctrT aii.ctr),(70,ctrT aaM.ctr),(278,ctrT ahI.ctr)]
end Go.Proofs.YtenfleoejgjklaaGreat
end
section
namespace Go.Proofs.YtenfleoejgjklaaGreat
open Go SE
def JU : Prop := ownM tabE = ownM tabE
def aiG : Prop := True/\True/\True/\0 = 0/\0 = 0/\True/\0 = 0/\True/\True/\True/\True
def aa3 (a : ZLn) (b : iD) : Prop := ownM a.os = ownM a.os/\JU/\ownM b.os = ownM b.os/\(True/\aiG)/\True
def aeD (a : ZLn) (b : iD) : Prop := (a.n = a.n/\∀ q : Nat,q < a.n->[Value.string (dL.key (a.get q)),Value.int .u64 (dL.id (a.get q)),Value.int .u64 (dL.ver (a.get q)),Value.int .i64 (dL.line (a.get q)),Value.int .i64 (dL.cls (a.get q))] = [Value.string (dL.key (a.get q)),Value.int .u64 (dL.id (a.get q)),Value.int .u64 (dL.ver (a.get q)),Value.int .i64 (dL.line (a.get q)),Value.int .i64 (dL.cls (a.get q))])/\aa3 a b
def aeE (a : ZLn) (b : iD) : Prop := (0 + a.n = 0 + a.n/\∀ q : Nat,q < 0 + a.n->[Value.string (dL.key (a.get (0 + (q - 0)))),Value.int .u64 (dL.id (a.get (0 + (q - 0)))),Value.int .u64 (dL.ver (a.get (0 + (q - 0)))),Value.int .i64 (dL.line (a.get (0 + (q - 0)))),Value.int .i64 (dL.cls (a.get (0 + (q - 0))))] = [Value.string (dL.key (a.get (0 + (q - 0)))),Value.int .u64 (dL.id (a.get (0 + (q - 0)))),Value.int .u64 (dL.ver (a.get (0 + (q - 0)))),Value.int .i64 (dL.line (a.get (0 + (q - 0)))),Value.int .i64 (dL.cls (a.get (0 + (q - 0))))])/\aeD a b
def aiH (a : qN) (b : iD) (c : ZLn) : Prop := (True/\aiG)/\ownM a.b.os = ownM b.os/\JU/\ownM a.l.os = ownM c.os/\True
def aeF (a : iD) : Prop := a.n = a.n/\∀ q : Nat,q < a.n->[Value.int .i64 (iy.line (a.e q)),Value.int .i64 (iy.cls (a.e q)),Value.int .u64 (iy.r (a.e q)),Value.int .u64 (iy.d (a.e q)),Value.int .i64 (iy.anti (a.e q))] = [Value.int .i64 (iy.line (a.e q)),Value.int .i64 (iy.cls (a.e q)),Value.int .u64 (iy.r (a.e q)),Value.int .u64 (iy.d (a.e q)),Value.int .i64 (iy.anti (a.e q))]
def nO (a : Nat) (b : qN) : Prop := Hd (a<=b.b.n/\∀ j : Nat,j < a->iy.line (b.b.e j) ≠ b.k/\iy.anti (b.b.e j) ≠ b.k)
def Ub (a : qN) (b : iD) (c : ZLn) : Prop := (∃ y_3 : Unit,Hd (a.inL ∨ a.inB)/\true = false/\aiH a b c) ∨ ∃ y_3 : Unit,Hd (Not a.inL/\Not a.inB)/\false = false/\aiH a b c
def FQ (a : qN) (b : iD) (c : ZLn) : Prop := (∃ y_3 : Unit,Hd (a.inL ∨ a.inB)/\true = true/\aiH a b c) ∨ ∃ y_3 : Unit,Hd (Not a.inL/\Not a.inB)/\false = true/\aiH a b c
def aa4 (a : qN) (b : iD) (c : ZLn) : Prop := (∀ s_1 : Nat,nO s_1 a->Ub a b c)/\True
def Bz (a : Nat) (b : qN) : Prop := Hd (a<=b.l.n/\∀ j : Nat,j < a->dL.line (b.l.get j) ≠ b.k)
def aiI (a : Nat) (b : ZLn) (c : iD) : Prop := True/\((a : Int) = 0/\True)/\aa3 b c
def aiJ (a : iD) (b : ZLn) : Prop := aeF a/\aa3 b a
def aiK (x : qN) : Prop :=
 ∃ x_1 : Unit,Hd True/\(0 = 0/\True)/\(JU/\True)/\∀ y : Unit,True->(AV.ptr 3 0 = AV.ptr 3 0/\True)/\∃ x_2 : ZLn,Hd x_2.ok/\(0 = 0/\True)/\(ownM x_2.os = ownM x.l.os/\True)/\(∀ y_1 : Unit,Hd (x_2.n = 0)->True/\True/\(∃ s : Nat,Bz s x/\aiI s x_2 x.b)/\(∀ s : Nat,Bz s x->∃ x_3 : iD,Hd x_3.ok/\(0 = 0/\True)/\(ownM x_3.os = ownM x.b.os/\True)/\(∀ y_2 : Unit,Hd (x_3.n = 0)->(∃ s_1 : Nat,nO s_1 x/\aiI s_1 x_2 x_3)/\aa4 x x_3 x_2)/\∀ y_2 : Unit,Hd True->(∃ s_1 : Nat,nO s_1 x/\True/\((s_1 : Int) = 0/\True)/\aiJ x_3 x_2)/\(∀ s_1 : Nat,nO s_1 x->cP (decide ((s_1 : Int) < (x_3.n : Int))) ((0<=(s_1 : Int)/\(s_1 : Int) < (x_3.n : Int))/\0 + s_1 < x_3.n/\cP (BEq.beq (iy.line (x_3.e (0 + s_1))) x.k) (FQ x x_3 x_2) (cP (BEq.beq (iy.anti (x_3.e (0 + s_1))) x.k) (FQ x x_3 x_2) (I64 ((s_1 : Int) + 1)/\∃ s_2 : Nat,nO s_2 x/\x.b.n - s_2 < x.b.n - s_1/\((s_2 : Int) = (s_1 : Int) + 1/\True)/\aiJ x_3 x_2))) (Ub x x_3 x_2))/\True)/\True)/\∀ y_1 : Unit,Hd (x_2.n ≠ 0)->True/\0 + x_2.n<=x_2.n/\cP (Nat.beq x_2.n 0) (True/\(∃ s : Nat,Bz s x/\True/\((s : Int) = 0/\True)/\aeD x_2 x.b)/\(∀ s : Nat,Bz s x->∃ x_3 : iD,Hd x_3.ok/\(0 = 0/\True)/\(ownM x_3.os = ownM x.b.os/\True)/\(∀ y_2 : Unit,Hd (x_3.n = 0)->(∃ s_1 : Nat,nO s_1 x/\True/\((s_1 : Int) = 0/\True)/\aeD x_2 x_3)/\aa4 x x_3 x_2)/\∀ y_2 : Unit,Hd True->(∃ s_1 : Nat,nO s_1 x/\True/\((s_1 : Int) = 0/\True)/\aeF x_3/\aeD x_2 x_3)/\(∀ s_1 : Nat,nO s_1 x->cP (decide ((s_1 : Int) < (x_3.n : Int))) ((0<=(s_1 : Int)/\(s_1 : Int) < (x_3.n : Int))/\0 + s_1 < x_3.n/\
 cP (BEq.beq (iy.line (x_3.e (0 + s_1))) x.k) (FQ x x_3 x_2) (cP (BEq.beq (iy.anti (x_3.e (0 + s_1))) x.k) (FQ x x_3 x_2) (I64 ((s_1 : Int) + 1)/\∃ s_2 : Nat,nO s_2 x/\x.b.n - s_2 < x.b.n - s_1/\((s_2 : Int) = (s_1 : Int) + 1/\True)/\aeF x_3/\aeD x_2 x_3))) (Ub x x_3 x_2))/\True)/\True) ((2 * (0 + x_2.n) + 1000) * 48<=281474976710656/\True/\(∃ s : Nat,Bz s x/\True/\((s : Int) = 0/\True)/\aeE x_2 x.b)/\(∀ s : Nat,Bz s x->cP (decide ((s : Int) < ((0 + x_2.n : Nat) : Int))) ((0<=(s : Int)/\(s : Int) < ((0 + x_2.n : Nat) : Int))/\0 + s < 0 + x_2.n/\cP (BEq.beq (dL.line (x_2.get (0 + (0 + s - 0)))) x.k) ((∃ y_2 : Unit,Hd (x.inL ∨ x.inB)/\true = true/\(True/\aiG)/\ownM x.b.os = ownM x.b.os/\JU/\ownM x.l.os = ownM x_2.os/\True) ∨ ∃ y_2 : Unit,Hd (Not x.inL/\Not x.inB)/\false = true/\(True/\aiG)/\ownM x.b.os = ownM x.b.os/\JU/\ownM x.l.os = ownM x_2.os/\True) (I64 ((s : Int) + 1)/\∃ s_1 : Nat,Bz s_1 x/\x.l.n - s_1 < x.l.n - s/\((s_1 : Int) = (s : Int) + 1/\True)/\aeE x_2 x.b)) (∃ x_3 : iD,Hd x_3.ok/\(0 = 0/\True)/\(ownM x_3.os = ownM x.b.os/\True)/\(∀ y_2 : Unit,Hd (x_3.n = 0)->(∃ s_1 : Nat,nO s_1 x/\True/\((s_1 : Int) = 0/\True)/\aeE x_2 x_3)/\aa4 x x_3 x_2)/\∀ y_2 : Unit,Hd True->(∃ s_1 : Nat,nO s_1 x/\True/\((s_1 : Int) = 0/\True)/\aeF x_3/\aeE x_2 x_3)/\(∀ s_1 : Nat,nO s_1 x->cP (decide ((s_1 : Int) < (x_3.n : Int))) ((0<=(s_1 : Int)/\(s_1 : Int) < (x_3.n : Int))/\0 + s_1 < x_3.n/\cP (BEq.beq (iy.line (x_3.e (0 + s_1))) x.k) (FQ x x_3 x_2) (cP (BEq.beq (iy.anti (x_3.e (0 + s_1))) x.k) (FQ x x_3 x_2) (I64 ((s_1 : Int) + 1)/\∃ s_2 : Nat,nO s_2 x/\x.b.n - s_2 < x.b.n - s_1/\((s_2 : Int) = (s_1 : Int) + 1/\
 True)/\aeF x_3/\aeE x_2 x_3))) (Ub x x_3 x_2))/\True))/\True)
theorem aiL (x : qN) : aiK x = wpF Tryz.prog arG tt (anL x) 200 5 247 (Yo.args x) (hO Yo.k (Yo.os x)) (fun v h' => eH Yo.k x v h' Yo.outs) := by kernel_rfl
end Go.Proofs.YtenfleoejgjklaaGreat
end
section
namespace Go.Proofs.YtenfleoejgjklaaGreat
open Go SE
set_option linter.unusedSimpArgs false
theorem Yp (x : qN) (hx : x.b.ok/\x.l.ok/\x.l.n < 1099511627776) : aiK x := by
 obtain ⟨hb,hl,hln⟩ := hx
 have hbn := hb.1
 unfold aiK
 simp only [JU,Bz,aiI,nO,aa4,aiJ,FQ,Ub,aeD,aeF,aeE,aiG,aa3,aiH]
 simp only [aY,aU,aT,ay,aH,bI,bn,aN,aJ,au,aW,aV,bJ,bC,bD,bF,bK,bf,bG,aZ,dU,aG,aK,ah,aj,aA,aC,aB,aF]
 refine ⟨x.l,hl,rfl,fun h0 => ⟨⟨0,⟨Nat.zero_le _,fun j hj => absurd hj (Nat.not_lt_zero j)⟩,rfl⟩,fun s hs => ?_⟩,fun h0 => ⟨aX _,bg (fun hz => ?_) fun _ => ⟨by omega,⟨0,⟨Nat.zero_le _,fun j hj => absurd hj (Nat.not_lt_zero j)⟩,rfl⟩,fun s hs => bg (fun h => ?_) fun h => ?_⟩⟩⟩
 ·have hL : ¬ x.inL := fun ⟨i,hi,_⟩ => by omega
  refine ⟨x.b,hb,rfl,fun h0 => ⟨⟨0,⟨Nat.zero_le _,fun j hj => absurd hj (Nat.not_lt_zero j)⟩,rfl⟩,fun s1 hs1 => Or.inr ⟨⟨hL,fun ⟨i,hi,_⟩ => by omega⟩,rfl,rfl⟩⟩,⟨0,⟨Nat.zero_le _,fun j hj => absurd hj (Nat.not_lt_zero j)⟩,rfl⟩,fun s1 hs1 => bg (fun h => ?_) fun h => ?_⟩
  ·have h' : s1 < x.b.n := by have := aQ h; omega
   refine ⟨⟨by omega,by omega⟩,h',bg (fun e => Or.inl ⟨Or.inr ⟨s1,h',Or.inl (beq_iff_eq.1 e)⟩,rfl,rfl⟩) fun e => bg (fun e2 => Or.inl ⟨Or.inr ⟨s1,h',Or.inr (beq_iff_eq.1 e2)⟩,rfl,rfl⟩) fun e2 => ⟨by unfold I64; omega,s1 + 1,⟨by omega,fun j hj => ?_⟩,by omega,by omega⟩⟩
   by_cases hjs : j = s1
   ·subst hjs; exact ⟨beq_eq_false_iff_ne.1 e,beq_eq_false_iff_ne.1 e2⟩
   ·exact hs1.2 j (by omega)
  ·have h' : ¬ s1 < x.b.n := by have := aS h; omega
   exact Or.inr ⟨⟨hL,fun ⟨i,hi,hh⟩ => hh.elim (hs1.2 i (by omega)).1 (hs1.2 i (by omega)).2⟩,rfl,rfl⟩
 ·exact absurd (ak hz) h0
 ·have h' : s < x.l.n := by have := aQ h; omega
  refine ⟨⟨by omega,by omega⟩,h',bg (fun e => Or.inl ⟨Or.inl ⟨s,h',beq_iff_eq.1 e⟩,rfl⟩) fun e => ⟨by unfold I64; omega,s + 1,⟨by omega,fun j hj => ?_⟩,by omega,by omega⟩⟩
  by_cases hjs : j = s
  ·subst hjs; exact beq_eq_false_iff_ne.1 e
  ·exact hs.2 j (by omega)
 ·have h' : ¬ s < x.l.n := by have := aS h; omega
  have hL : ¬ x.inL := fun ⟨i,hi,hh⟩ => hs.2 i (by omega) hh
  refine ⟨x.b,hb,rfl,fun h0 => ⟨⟨0,⟨Nat.zero_le _,fun j hj => absurd hj (Nat.not_lt_zero j)⟩,rfl⟩,fun s1 hs1 => Or.inr ⟨⟨hL,fun ⟨i,hi,_⟩ => by omega⟩,rfl,rfl⟩⟩,⟨0,⟨Nat.zero_le _,fun j hj => absurd hj (Nat.not_lt_zero j)⟩,rfl⟩,fun s1 hs1 => bg (fun h => ?_) fun h => ?_⟩
  ·have h' : s1 < x.b.n := by have := aQ h; omega
   refine ⟨⟨by omega,by omega⟩,h',bg (fun e => Or.inl ⟨Or.inr ⟨s1,h',Or.inl (beq_iff_eq.1 e)⟩,rfl,rfl⟩) fun e => bg (fun e2 => Or.inl ⟨Or.inr ⟨s1,h',Or.inr (beq_iff_eq.1 e2)⟩,rfl,rfl⟩) fun e2 => ⟨by unfold I64; omega,s1 + 1,⟨by omega,fun j hj => ?_⟩,by omega,by omega⟩⟩
   by_cases hjs : j = s1
   ·subst hjs; exact ⟨beq_eq_false_iff_ne.1 e,beq_eq_false_iff_ne.1 e2⟩
   ·exact hs1.2 j (by omega)
  ·have h' : ¬ s1 < x.b.n := by have := aS h; omega
   exact Or.inr ⟨⟨hL,fun ⟨i,hi,hh⟩ => hh.elim (hs1.2 i (by omega)).1 (hs1.2 i (by omega)).2⟩,rfl,rfl⟩
theorem amu : fA Tryz.prog arG := .cons (bM apx) (.cons (bM aee) (.cons (bM ahK) .nil))
theorem apF : bU Tryz.prog 247 Yo := fZ dD mixed amu anL 200 5 (fun _ => rfl) (fun _ => ⟨fun _ => rfl,fun _ => rfl,trivial⟩) fun x hx => Eq.mp (aiL x) (Yp x (aY.1 hx))
end Go.Proofs.YtenfleoejgjklaaGreat
end
section
namespace Go.Proofs.YtenfleoejgjklaaGreat
open Go SE
def ClkM.notes (c : ClkM) (t : Nat) (l : Int) : Nat->ClkM
 | 0 => c
 | i + 1 => (c.notes t l i).note t (l + i)
structure fV where
 a : ZArn
 t : Nat
 e : Int
 v : ByteArray
 key : ByteArray
 had : Bool
 old : dL
 k : Nat
 c : Int
namespace fV
def av (x : fV) (kind : Int) : AV := .agg [i64 kind,.lit (.string x.key),.lit (.string x.v),boo x.had,.lit (.string x.old.key),u64 x.old.id,u64 x.old.ver,i64 x.old.line,i64 x.old.cls,i64 x.k,i64 x.c]
def blk (x : fV) : dN := ⟨x.c,2,x.a.id + 1,x.a.ver + 1,x.e,⟨#[]⟩,x.v⟩
def eff (x : fV) : eY := ⟨3,⟨#[]⟩,x.v,x.a.id + 1,x.a.ver + 1,x.e,x.a.ver + 1⟩
noncomputable def enq (x : fV) : ZArn := { x.a with d := x.a.d.store x.k 0 64 x.blk.enc,c := x.a.c.notes x.t x.k x.blk.dA,l := x.a.l.push ⟨⟨#[]⟩,x.a.id + 1,x.a.ver + 1,x.k,x.c⟩,id := x.a.id + 1,ver := x.a.ver + 1,n := x.a.n + 1,e := fun i => if i = x.a.n then x.eff else x.a.e i }
def ok (x : fV) : Prop := x.a.d.ok/\x.a.c.ok/\x.a.l.ok/\x.t < x.a.c.t/\x.k < x.a.d.n/\x.blk.may/\x.v.size < 1099511627776/\0<=x.a.id/\0<=x.a.ver/\x.a.n < 1099511627776/\x.a.d.n<=258
end fV
def fV.okE (x : fV) : Prop := x.ok/\x.a.p.ok/\x.a.b.ok/\x.a.l.n < 1099511627776/\x.a.c.now = x.e/\x.a.ver < 1152921504606846976/\x.a.id < 1152921504606846976/\(¬ qN.inL ⟨x.a.b,x.a.l,x.k⟩)/\¬ qN.inB ⟨x.a.b,x.a.l,x.k⟩
def fV.inP (x : fV) (i j : Nat) : Prop := i < x.a.p.n/\0<=x.a.p.cls i/\j < dw.many (x.a.p.cls i)/\x.a.p.tk i j = true/\(x.k : Int) = 2 + i * 8 + j * spn (x.a.p.cls i)/\x.a.p.cls i = x.c
noncomputable def fV.lst (x : fV) (kind : Int) : bZ := .ro (.av [i64 kind,.lit (.string x.key),.lit (.string x.v),boo false,.lit (.string x.old.key),u64 x.old.id,u64 x.old.ver,i64 x.old.line,i64 x.old.cls,i64 x.k,i64 x.c])
noncomputable def yT (z : Bool) : jd := lV fV (fun x => [.ptr 0 0,i64 x.t,u64 x.e,.sl 1 0 1 1]) 2 (fun x => [.m (bif z then x.a.osN else x.a.osP),.o (x.lst 4)]) (fun x => Hd (x.okE/\(∃ i j,x.inP i j)/\(z = true->x.a.n = 0))) (fun _ => .tup [.slW 2 0 1 1,i64 0]) 3 (fun x => [.m x.enq.osP,.o (x.lst 4),.o (.room 4 (.row 1 1 (fun _ => [.bool false]) []))])
noncomputable def Yq : Ctr := det fV (fun x => [.ptr 0 0,.sl 5 0 1 1]) 6 (fun x => [aa2 (.ptr 1 0) .any .any (.ptr 2 0) (.ptr 3 0) (.ptr 4 0) .any,.abs (ownM x.a.p.os),.abs (ownM x.a.b.os),.abs (ownM tabE),.abs (ownM x.a.l.os),x.lst 4]) (fun x => Hd (x.okE/\∃ i j,x.inP i j)) (fun _ => boo true) 6 (fun x => [aa2 (.ptr 1 0) .any .any (.ptr 2 0) (.ptr 3 0) (.ptr 4 0) .any,.abs (ownM x.a.p.os),.abs (ownM x.a.b.os),.abs (ownM tabE),.abs (ownM x.a.l.os),x.lst 4])
noncomputable def apG : WTbl := [(246,ctrT ofP.ctr),(247,ctrT Yo)]
noncomputable def amv (x : fV) : FuncId->vK := fun f => bif Nat.beq f 210 then (fun b _ _ => bif Nat.beq b 0 then [
 { σ := Nat,fr := fun i => [(67,i64 i)],ob := fun i => [(6,some (.abs (ownM ((x.a.c.notes x.t x.k i).os 0))))],inv := fun i => Hd (i<=x.blk.dA),meas := fun i => x.blk.dA - i }] else []) else fun _ _ _ => []
end Go.Proofs.YtenfleoejgjklaaGreat
end
section
namespace Go.Proofs.YtenfleoejgjklaaGreat
open Go SE
def apH (a : fV) : Prop := ((4 : Int) = 4/\a.key = a.key/\a.v = a.v/\false = false/\a.old.key = a.old.key/\a.old.id = a.old.id/\a.old.ver = a.old.ver/\a.old.line = a.old.line/\a.old.cls = a.old.cls/\(a.k : Int) = (a.k : Int)/\a.c = a.c/\True)/\True
def apI : Prop := True/\True/\0 = 0/\0 = 0/\True/\0 = 0/\True/\True/\True/\True
def aiM : Prop := True/\0 = 0/\apI
def apJ (a : fV) (b : dw) (c : qN) : Prop := aiM/\ownM a.a.p.os = ownM b.os/\ownM a.a.b.os = ownM c.b.os/\ownM tabE = ownM tabE/\ownM a.a.l.os = ownM c.l.os/\apH a
def aiN (x : fV) : Prop :=
 ((0 : Int)<=0/\(0 : Int)<=0)/\∃ x_1 : gq,Hd x_1.ok/\(0 = 0/\x_1.line = (x.k : Int)/\True)/\(ownM x_1.p.os = ownM x.a.p.os/\True)/\∀ y : Unit,True->True/\cP (bne (x_1.p.cls x_1.i) x.c) (∃ y_1 : Unit,True/\true = false/\aiM/\ownM x.a.p.os = ownM x_1.p.os/\ownM x.a.b.os = ownM x.a.b.os/\ownM tabE = ownM tabE/\ownM x.a.l.os = ownM x.a.l.os/\apH x) (∃ x_2 : qN,Hd (x_2.b.ok/\x_2.l.ok/\x_2.l.n < 1099511627776)/\(0 = 0/\x_2.k = (x.k : Int)/\True)/\((True/\True/\apI)/\ownM x_2.b.os = ownM x.a.b.os/\ownM tabE = ownM tabE/\ownM x_2.l.os = ownM x.a.l.os/\True)/\(∀ y_1 : Unit,Hd (x_2.inL ∨ x_2.inB)->∃ y_2 : Unit,True/\true = false/\apJ x x_1.p x_2)/\∀ y_1 : Unit,Hd (Not x_2.inL/\Not x_2.inB)->I64 (1 : Int)/\∃ y_2 : Unit,True/\true = true/\apJ x x_1.p x_2)
theorem aiO (x : fV) : aiN x = wpF Tryz.prog apG tt (noA x) 200 6 207 (Yq.args x) (hO Yq.k (Yq.os x)) (fun v h' => eH Yq.k x v h' Yq.outs) := by kernel_rfl
end Go.Proofs.YtenfleoejgjklaaGreat
end
section
namespace Go.Proofs.YtenfleoejgjklaaGreat
open Go SE
set_option linter.unusedSimpArgs false
theorem Yr (x : fV) (hx : x.okE/\∃ i j,x.inP i j) : aiN x := by
 obtain ⟨⟨⟨_,_,hl,_⟩,hp,hb,hln,_,_,_,hL,hB⟩,i,j,h1,h2,h3,h4,h5,h6⟩ := hx
 unfold aiN
 simp only [aiM,apH,apI,apJ]
 simp only [aY,aU,aT,ay,aH,bI,bn,aN,aJ,au,aW,aV,bJ,bC,bD,bF,bK,bf,bG,aZ,dU,aG,aK,ah,aj,aA,aC,aB,aF]
 refine ⟨by decide,⟨x.a.p,i,j⟩,⟨hp,h1,h2,h3,h4⟩,h5.symm,rfl,?_⟩
 refine bg (fun h => absurd h6 (bne_iff_ne.1 h)) fun _ => ⟨⟨x.a.b,x.a.l,x.k⟩,⟨hb,hl,hln⟩,rfl,⟨rfl,rfl⟩,fun h => absurd h (not_or.2 ⟨hL,hB⟩),fun _ => ⟨by unfold I64; omega,rfl,rfl,rfl⟩⟩
theorem aa5 : fA Tryz.prog apG := .cons (bM of_ok) (.cons (bM apF) .nil)
theorem apK : bU Tryz.prog 207 Yq := dR dD mixed aa5 noA 200 6 (fun _ => rfl) (fun _ => rfl) fun x hx => Eq.mp (aiO x) (Yr x (aY.1 hx))
end Go.Proofs.YtenfleoejgjklaaGreat
end
section
namespace Go.Proofs.YtenfleoejgjklaaGreat
open Go SE
noncomputable def rO : Ctr := det fV (fun _ => [.sl 0 0 1 1]) 1 (fun x => [x.lst 4]) (fun _ => Hd True) (fun _ => boo true) 1 (fun x => [x.lst 4])
noncomputable def Yt : Ctr := det fV (fun x => [.ptr 0 0,.sl 1 0 1 1,u64 x.e]) 2 (fun x => [.ro (.av [.any,.any,.any,.any,.any,.any,.any,.any,u64 x.a.id,u64 x.a.ver,.any]),x.lst 4]) (fun x => Hd x.okE) (fun _ => i64 0) 2 (fun x => [.ro (.av [.any,.any,.any,.any,.any,.any,.any,.any,u64 x.a.id,u64 x.a.ver,.any]),x.lst 4])
noncomputable def apL : WTbl := qO ++ [(229,ctrT anH)]
end Go.Proofs.YtenfleoejgjklaaGreat
end
section
namespace Go.Proofs.YtenfleoejgjklaaGreat
open Go SE
def amw (a : fV) : Prop := ((4 : Int) = 4/\a.key = a.key/\a.v = a.v/\false = false/\a.old.key = a.old.key/\a.old.id = a.old.id/\a.old.ver = a.old.ver/\a.old.line = a.old.line/\a.old.cls = a.old.cls/\(a.k : Int) = (a.k : Int)/\a.c = a.c/\True)/\True
def aeG (a : fV) : Prop := (True/\True/\True/\True/\True/\True/\True/\True/\a.a.id = a.a.id/\a.a.ver = a.a.ver/\True/\True)/\amw a
def NV (x : fV) : Prop :=
 ((0 : Int)<=0/\(0 : Int)<=0)/\I64 (1 : Int)/\∃ y : Unit,True/\true = true/\amw x
theorem Yu (x : fV) : NV x = wpF Tryz.prog [] tt (noA x) 200 6 205 (rO.args x) (hO rO.k (rO.os x)) (fun v h' => eH rO.k x v h' rO.outs) := by kernel_rfl
def aiP (x : fV) : Prop :=
 True/\True/\((0 : Int)<=0/\(0 : Int)<=0)/\(AV.lit (Value.string x.v) = AV.lit (Value.string x.v)/\True)/\True/\∃ x_1 : dN,Hd (x_1.key.size < 1099511627776/\x_1.value.size < 1099511627776)/\((x_1.cls = x.c/\x_1.kind = 2/\x_1.id = 1/\x_1.ver = 1/\x_1.epoch = x.e/\x_1.key = ByteArray.mk #[]/\x_1.value = x.v/\True)/\True)/\True/\∀ y : Unit,True->cP (Bool.not x_1.VR) (∃ y_1 : Unit,True/\(0 : Int) = 3/\aeG x) (cP (bne x.c x.c) (∃ y_1 : Unit,True/\(0 : Int) = 3/\aeG x) (cP (decide (IntKind.wrap .u64 (x.a.ver + 1) > (2305843009213693952 : Int))) (I64 (1 : Int)/\∃ y_1 : Unit,True/\(0 : Int) = 10/\aeG x) (I64 (1 : Int)/\cP (decide (IntKind.wrap .u64 (x.a.id + 1) > (2305843009213693952 : Int))) (∃ y_1 : Unit,True/\(0 : Int) = 10/\aeG x) (∃ y_1 : Unit,True/\(0 : Int) = 0/\aeG x))))
theorem aiQ (x : fV) : aiP x = wpF Tryz.prog apL tt (noA x) 200 6 208 (Yt.args x) (hO Yt.k (Yt.os x)) (fun v h' => eH Yt.k x v h' Yt.outs) := by kernel_rfl
end Go.Proofs.YtenfleoejgjklaaGreat
end
section
namespace Go.Proofs.YtenfleoejgjklaaGreat
open Go SE
set_option linter.unusedSimpArgs false
theorem NW (x : fV) : NV x := by
 unfold NV
 simp only [amw]
 simp only [aY,aU,aT,ay,aH,bI,bn,aN,aJ,au,aW,aV,bJ,bC,bD,bF,bK,bf,bG,aZ,dU,aG,aK,ah,aj,aA,aC,aB,aF,I64]
 omega
theorem Yv (x : fV) (hx : x.okE) : aiP x := by
 obtain ⟨⟨_,_,_,_,_,hm,hv,hi,hw,_⟩,_,_,_,_,h1,h2,_⟩ := hx
 unfold aiP
 simp only [aeG,amw]
 simp only [aY,aU,aT,ay,aH,bI,bn,aN,aJ,au,aW,aV,bJ,bC,bD,bF,bK,bf,bG,aZ,dU,aG,aK,ah,aj,aA,aC,aB,aF]
 have hq : dN.may ⟨x.c,2,1,1,x.e,⟨#[]⟩,x.v⟩ := by
  obtain ⟨a,b⟩ := hm
  refine ⟨a,?_⟩
  simp only [fV.blk] at b
  rcases b with ⟨b,_⟩ | ⟨b,_⟩ | ⟨_,b1,b2,b3,_,_,b4⟩ | ⟨b,_⟩
  ·exact absurd b (by decide)
  ·exact absurd b (by decide)
  ·exact .inr (.inr (.inl ⟨rfl,rfl,b2,b3,⟨show (1 : Int)<=1 by decide,show (1 : Int)<=2305843009213693952 by decide⟩,⟨show (1 : Int)<=1 by decide,show (1 : Int)<=2305843009213693952 by decide⟩,b4⟩))
  ·exact absurd b (by decide)
 have w1 : IntKind.u64.wrap (x.a.ver + 1) = x.a.ver + 1 := iI (by omega) (by omega)
 have w2 : IntKind.u64.wrap (x.a.id + 1) = x.a.id + 1 := iI (by omega) (by omega)
 rw [w1,w2]
 refine ⟨by decide,⟨x.c,2,1,1,x.e,⟨#[]⟩,x.v⟩,⟨by show 0 < 1099511627776; decide,hv⟩,⟨rfl,rfl,rfl,rfl,rfl,rfl,rfl⟩,?_⟩
 rw [yP.2 hq,Bool.not_true,iR,bne_self_eq_false,iR]
 exact bg (fun h => absurd (aQ h) (by omega)) fun _ => ⟨by unfold I64; omega,bg (fun h => absurd (aQ h) (by omega)) fun _ => trivial⟩
theorem aa6 : fA Tryz.prog apL := .append eG (.cons (bM anI) .nil)
theorem apM : bU Tryz.prog 208 Yt := dR dD mixed aa6 noA 200 6 (fun _ => rfl) (fun _ => rfl) fun x hx => Eq.mp (aiQ x) (Yv x (aY.1 hx))
theorem Uc : bU Tryz.prog 205 rO := dR dD mixed .nil noA 200 6 (fun _ => rfl) (fun _ => rfl) fun x _ => Eq.mp (Yu x) (NW x)
end Go.Proofs.YtenfleoejgjklaaGreat
end
section
namespace Go.Proofs.YtenfleoejgjklaaGreat
open Go SE
theorem D7 {P : Program} {f : FuncId} {X : Type} {args : X->List AV} {pre : X->Prop} {ret : X->AV} (hC : bU P f (det X args 0 (fun _ => []) pre ret 0 (fun _ => []))) (x : X) (hp : pre x) (h : Heap) (ha : (args x).all kJ = true) (hr : kJ (ret x) = true) {K : AV->Heap->Prop} (hK : K (ret x) h) : Sp P f (args x) h K :=
 (ZW h (WW hC x hp) (fun _ _ hv => hv) ha hr).mono fun _ _ hh => by obtain ⟨rfl,rfl⟩ := hh; exact hK
def aiR : WTr := fun args h K => match args with
 | [.lit (.int .i64 c)] => K (i64 (spn c)) h
 | _ => False
theorem NY (args : List AV) (h : Heap) (K : AV->Heap->Prop) (hq : aiR args h K) : Sp Tryz.prog 113 args h K := by
 unfold aiR at hq
 split at hq
 ·exact D7 kQ _ trivial h rfl rfl hq
 ·exact hq.elim
namespace fV
def amx (x : fV) : dN := ⟨0,3,x.old.id,x.a.ver + 1,x.e,⟨#[]⟩,⟨#[]⟩⟩
def anM (x : fV) : eY := ⟨4,⟨#[]⟩,⟨#[]⟩,x.old.id,x.a.ver + 1,x.e,x.a.ver + 1⟩
def aqz (x : fV) : iy := ⟨x.old.line,x.old.cls,x.a.r.now,x.e,x.k⟩
noncomputable def deq (x : fV) : ZArn := { x.a with d := x.a.d.store x.k 0 64 x.amx.enc,c := x.a.c.notes x.t x.k 1,l := x.a.l.pop,ver := x.a.ver + 1,b := x.a.b.put x.aqz,n := x.a.n + 1,e := fun i => if i = x.a.n then x.anM else x.a.e i }
def okD (x : fV) : Prop := x.a.d.ok/\x.a.c.ok/\x.a.l.ok/\x.t < x.a.c.t/\x.k < x.a.d.n/\x.amx.may/\0<=x.a.ver/\x.a.n < 1099511627776/\x.a.d.n<=258/\x.a.p.ok/\x.a.b.ok/\x.a.r.ok/\x.a.l.n < 1099511627776/\x.a.l.n ≠ 0/\x.old = x.a.l.head/\x.a.c.now = x.e/\x.a.ver < 1152921504606846976/\x.c = 0/\x.aqz.may/\(¬ qN.inL ⟨x.a.b,x.a.l,x.k⟩)/\¬ qN.inB ⟨x.a.b,x.a.l,x.k⟩
noncomputable def akM (x : fV) : bZ := .ro (.av [i64 5,.lit (.string x.key),.lit (.string x.v),boo true,.lit (.string x.old.key),u64 x.old.id,u64 x.old.ver,i64 x.old.line,i64 x.old.cls,i64 x.k,i64 x.c])
end fV
noncomputable def nP : Ctr := det fV (fun _ => [.sl 0 0 1 1]) 1 (fun x => [x.akM]) (fun _ => Hd True) (fun _ => boo true) 1 (fun x => [x.akM])
noncomputable def FT : Ctr := det fV (fun x => [.ptr 0 0,.sl 1 0 1 1,u64 x.e]) 2 (fun x => [.ro (.av [.any,.any,.any,.any,.any,.any,.any,.any,u64 x.a.id,u64 x.a.ver,.any]),x.akM]) (fun x => Hd (x.okD/\0<=x.a.id/\x.a.id < 1152921504606846976)) (fun _ => i64 0) 2 (fun x => [.ro (.av [.any,.any,.any,.any,.any,.any,.any,.any,u64 x.a.id,u64 x.a.ver,.any]),x.akM])
noncomputable def FU : Ctr := det fV (fun x => [.ptr 0 0,.sl 5 0 1 1]) 6 (fun x => [aa2 (.ptr 1 0) .any .any (.ptr 2 0) (.ptr 3 0) (.ptr 4 0) .any,.abs (ownM x.a.p.os),.abs (ownM x.a.b.os),.abs (ownM tabE),.abs (ownM x.a.l.os),x.akM]) (fun x => Hd (x.okD/\∃ i j,x.inP i j)) (fun _ => boo true) 6 (fun x => [aa2 (.ptr 1 0) .any .any (.ptr 2 0) (.ptr 3 0) (.ptr 4 0) .any,.abs (ownM x.a.p.os),.abs (ownM x.a.b.os),.abs (ownM tabE),.abs (ownM x.a.l.os),x.akM])
noncomputable def arH : Ctr := det dN (fun b => [b.av]) 0 (fun _ => []) (fun b => Hd (b.may/\b.key.size < 1099511627776/\b.value.size < 1099511627776/\b.cls = 0)) (fun _ => .tup [.slE 0 0 1 64 64,i64 0]) 1 (fun b => [.cells 5 (rowB b.enc 64)])
theorem apN : bU Tryz.prog 180 arH := oJ fun b hb => by
 have hb := aY.1 hb
 refine ⟨al4,aif,rfl,b,aY.2 ⟨hb.1,hb.2.1,hb.2.2.1⟩,rfl,rfl,fun v h' hh => ?_⟩
 rcases qx hh with ⟨y,h0,h1,h2⟩ | ⟨y,h0,h1,h2⟩
 ·exact eP ⟨(),trivial,h1,h2⟩
 ·exact absurd hb.2.2.2 (aY.1 h0)
noncomputable def Ud : jd := lV fV (fun x => [.ptr 0 0,i64 x.t,u64 x.e,.sl 1 0 1 1]) 2 (fun x => [.m x.a.osP,.o x.akM]) (fun x => Hd (x.okD/\(∃ i j,x.inP i j)/\0<=x.a.id/\x.a.id < 1152921504606846976)) (fun _ => .tup [.slW 2 0 1 1,i64 0]) 3 (fun x => [.m x.deq.osP,.o x.akM,.o (.room 4 (.row 1 1 (fun _ => [.bool true]) []))])
noncomputable def arI : WTbl := qO ++ [(113,aiR),(180,ctrT arH),(62,ctrT EY.ctr),(64,ctrT (adY 0).ctr),(255,ctrT aaK.ctr),(154,ctrT rG.ctr),(66,ctrT ahH.ctr),(67,ctrT arl.ctr),(205,ctrT nP),(207,ctrT FU),(208,ctrT FT),(204,ctrT (Sv 0).ctr),(45,ctrT (Ns 0).ctr)]
end Go.Proofs.YtenfleoejgjklaaGreat
end
section
namespace Go.Proofs.YtenfleoejgjklaaGreat
open Go SE
def NZ (a : fV) : Prop := (5 : Int) = 5/\a.key = a.key/\a.v = a.v/\true = true/\a.old.key = a.old.key/\a.old.id = a.old.id/\a.old.ver = a.old.ver/\a.old.line = a.old.line/\a.old.cls = a.old.cls/\(a.k : Int) = (a.k : Int)/\a.c = a.c/\True
def aeH (a : fV) : Prop := (True/\True/\True/\True/\True/\True/\True/\True/\a.a.id = a.a.id/\a.a.ver = a.a.ver/\True/\True)/\NZ a/\True
def aa7 (a : fV) (b : fV) : Prop := ((5 : Int) = 5/\a.key = b.key/\a.v = b.v/\true = true/\a.old.key = b.old.key/\a.old.id = b.old.id/\a.old.ver = b.old.ver/\a.old.line = b.old.line/\a.old.cls = b.old.cls/\(a.k : Int) = (b.k : Int)/\a.c = b.c/\True)/\True
def aa8 : Prop := True/\True/\0 = 0/\0 = 0/\True/\0 = 0/\True/\True/\True/\True
def Ue : Prop := True/\0 = 0/\aa8
def yU : Prop := (0 : Int)<=0/\(0 : Int)<=0
def Uf : Prop := Value.slice none 0 0 = Value.slice none 0 0
def FV : Prop := ownM tabE = ownM tabE
def aiS (a : fV) (b : dw) (c : qN) : Prop := Ue/\ownM a.a.p.os = ownM b.os/\ownM a.a.b.os = ownM c.b.os/\FV/\ownM a.a.l.os = ownM c.l.os/\NZ a/\True
def FW (x : fV) : Prop :=
 yU/\I64 (1 : Int)/\∃ y : Unit,True/\true = true/\NZ x/\True
theorem Ug (x : fV) : FW x = wpF Tryz.prog [] tt (noA x) 200 6 205 (nP.args x) (hO nP.k (nP.os x)) (fun v h' => eH nP.k x v h' nP.outs) := by kernel_rfl
def Yw (x : fV) : Prop :=
 True/\True/\yU/\∃ x_1 : dN,Hd (x_1.key.size < 1099511627776/\x_1.value.size < 1099511627776)/\((x_1.cls = 0/\x_1.kind = 3/\x_1.id = 1/\x_1.ver = 1/\x_1.epoch = x.e/\x_1.key = ByteArray.mk #[]/\x_1.value = ByteArray.mk #[]/\True)/\True)/\True/\∀ y : Unit,True->cP (Bool.not x_1.VR) (∃ y_1 : Unit,True/\(0 : Int) = 3/\aeH x) (cP (bne (0 : Int) x.c) (∃ y_1 : Unit,True/\(0 : Int) = 3/\aeH x) (cP (decide (IntKind.wrap .u64 (x.a.ver + 1) > (2305843009213693952 : Int))) (I64 (1 : Int)/\∃ y_1 : Unit,True/\(0 : Int) = 10/\aeH x) (I64 (1 : Int)/\cP (decide (x.a.id > (2305843009213693952 : Int))) (∃ y_1 : Unit,True/\(0 : Int) = 10/\aeH x) (∃ y_1 : Unit,True/\(0 : Int) = 0/\aeH x))))
theorem aeI (x : fV) : Yw x = wpF Tryz.prog apL tt (noA x) 200 6 208 (FT.args x) (hO FT.k (FT.os x)) (fun v h' => eH FT.k x v h' FT.outs) := by kernel_rfl
def Yx (x : fV) : Prop :=
 yU/\∃ x_1 : gq,Hd x_1.ok/\(0 = 0/\x_1.line = (x.k : Int)/\True)/\(ownM x_1.p.os = ownM x.a.p.os/\True)/\∀ y : Unit,True->True/\cP (bne (x_1.p.cls x_1.i) x.c) (∃ y_1 : Unit,True/\true = false/\Ue/\ownM x.a.p.os = ownM x_1.p.os/\ownM x.a.b.os = ownM x.a.b.os/\FV/\ownM x.a.l.os = ownM x.a.l.os/\NZ x/\True) (∃ x_2 : qN,Hd (x_2.b.ok/\x_2.l.ok/\x_2.l.n < 1099511627776)/\(0 = 0/\x_2.k = (x.k : Int)/\True)/\((True/\True/\aa8)/\ownM x_2.b.os = ownM x.a.b.os/\FV/\ownM x_2.l.os = ownM x.a.l.os/\True)/\(∀ y_1 : Unit,Hd (x_2.inL ∨ x_2.inB)->∃ y_2 : Unit,True/\true = false/\aiS x x_1.p x_2)/\∀ y_1 : Unit,Hd (Not x_2.inL/\Not x_2.inB)->I64 (1 : Int)/\∃ y_2 : Unit,True/\true = true/\aiS x x_1.p x_2)
theorem aeJ (x : fV) : Yx x = wpF Tryz.prog apG tt (noA x) 200 6 207 (FU.args x) (hO FU.k (FU.os x)) (fun v h' => eH FU.k x v h' FU.outs) := by kernel_rfl
def aiT (x : fV) : Prop :=
 ∃ x_1 : ClkM,Hd x_1.ok/\(0 = 0/\True)/\(ownM (x_1.os 0) = ownM (x.a.c.os 0)/\True)/\∀ y : Unit,True->cP (decide ((x.t : Int) ≥ (x_1.t : Int))) (∃ y_1 : Unit,True/\False) (∃ x_2 : fV,Hd True/\((0 = 0/\1 = 1/\1 = 1)/\True)/\aa7 x_2 x/\∀ y_1 : Unit,True->∃ x_3 : ClkM,Hd x_3.ok/\(0 = 0/\True)/\(ownM (x_3.os 0) = ownM (x_1.os 0)/\True)/\∀ y_2 : Unit,True->cP (bne x_3.now x.e) (∃ y_3 : Unit,True/\False) (yU/\∃ x_4 : ZLn,Hd x_4.ok/\(0 = 0/\True)/\(ownM x_4.os = ownM x.a.l.os/\True)/\∀ y_3 : Unit,True->cP (decide (x_4.n ≠ 0)) (cP (Bool.not (BEq.beq (ByteArray.toList x_4.head.key) (ByteArray.toList x.old.key) && (BEq.beq x_4.head.id x.old.id && (BEq.beq x_4.head.ver x.old.ver && (BEq.beq x_4.head.line x.old.line && (BEq.beq x_4.head.cls x.old.cls && true)))))) (∃ y_4 : Unit,True/\False) (I64 (1 : Int)/\∃ x_5 : fV,Hd (x_5.okD/\∃ i : Nat,∃ j : Nat,x_5.inP i j)/\(0 = 0/\(0 = 0/\1 = 1/\1 = 1)/\True)/\(Ue/\ownM x_5.a.p.os = ownM x.a.p.os/\ownM x_5.a.b.os = ownM x.a.b.os/\FV/\ownM x_5.a.l.os = ownM x_4.os/\aa7 x_5 x)/\∀ y_4 : Unit,True->∃ x_6 : fV,Hd (x_6.okD/\0<=x_6.a.id/\x_6.a.id < 1152921504606846976)/\(0 = 0/\(0 = 0/\1 = 1/\1 = 1)/\x_6.e = x.e/\True)/\((True/\True/\True/\True/\True/\True/\True/\True/\x_6.a.id = x.a.id/\x_6.a.ver = x.a.ver/\True/\True)/\aa7 x_6 x)/\∀ y_5 : Unit,True->yU/\1002<=281474976710656/\∃ x_7 : dN,Hd (x_7.may/\x_7.key.size < 1099511627776/\x_7.value.size < 1099511627776/\x_7.cls = 0)/\((x_7.cls = 0/\x_7.kind = 3/\x_7.id = x.old.id/\x_7.ver = IntKind.wrap .u64 (x.a.ver + 1)/\x_7.epoch = x.e/\x_7.key = ByteArray.mk #[]/\x_7.value = ByteArray.mk #[]/\True)/\True)/\True/\∀ y_6 : Unit,True->(0 : Int)<=64/\(0<=64/\64<=64/\
 64<=64)/\(AV.lit (Value.int .i64 (x.k : Int)) = AV.lit (Value.int .i64 (x.k : Int))/\True)/\∃ x_8 : nD,Hd (x_8.d.ok/\x_8.k < x_8.d.n/\x_8.b.ok/\x_8.a + x_8.b.n<=64)/\(0 = 0/\(x_8.k : Int) = (x.k : Int)/\(x_8.a : Int) = 0/\(x_8.b.q = 0/\x_8.b.n = 64)/\True)/\(ownM x_8.d.os = ownM x.a.d.os/\(x_8.b.N = 64/\∀ q : Nat,q < x_8.b.N->[Value.int .u8 (x_8.b.g q)] = [Value.int .u8 (x_7.enc q)])/\True)/\∀ y_7 : Unit,True->True/\I64 ((x.k : Int) + 0)/\∃ x_9 : VP,Hd (x_9.c.ok/\x_9.t < x_9.c.t)/\(0 = 0/\(x_9.t : Int) = (x.t : Int)/\x_9.l = (x.k : Int) + 0/\True)/\(ownM (x_9.c.os 0) = ownM (x_3.os 0)/\True)/\∀ y_8 : Unit,True->True/\I64 (1 : Int)/\I64 (IntKind.wrap .u64 (x.a.ver + 1))/\(AV.lit (Value.int .i64 (x.k : Int)) = AV.lit (Value.int .i64 (x.k : Int))/\True)/\∃ CW : ZLn,Hd CW.ok/\(0 = 0/\True)/\(ownM CW.os = ownM x_5.a.l.os/\True)/\∀ y_9 : Unit,True->∃ x_11 : ZRd,Hd x_11.ok/\(0 = 0/\True)/\(ownM x_11.os = ownM x.a.r.os/\True)/\∀ aqy : Unit,True->(AV.lit (Value.int .i64 x.old.cls) = AV.lit (Value.int .i64 x.old.cls)/\AV.lit (Value.int .i64 x.old.line) = AV.lit (Value.int .i64 x.old.line)/\AV.ptr 7 0 = AV.ptr 7 0/\True)/\∃ akN : CG,Hd (akN.b.ok/\akN.x.may)/\(0 = 0/\(akN.x.line = x.old.line/\akN.x.cls = x.old.cls/\akN.x.r = x_11.now/\akN.x.d = x.e/\akN.x.anti = (x.k : Int)/\True)/\True)/\(ownM akN.b.os = ownM x_5.a.b.os/\True)/\∀ y_11 : Unit,True->True/\(AV.slW 11 0 7 x.a.n = AV.slW 11 0 7 x.a.n/\True)/\x.a.n = x.a.n/\
 List.all [List.take 7 [Value.int .i64 4,Value.string (ByteArray.mk #[]),Value.string (ByteArray.mk #[]),Value.int .u64 x.old.id,Value.int .u64 (IntKind.wrap .u64 (x.a.ver + 1)),Value.int .u64 x.e,Value.int .i64 (IntKind.wrap .u64 (x.a.ver + 1))]] (fun (l : List Value) => Nat.beq (List.length l) 7 && List.all l Value.oneCell') = true/\(2 * (x.a.n + 1) + 1000) * 72<=281474976710656/\True/\True/\I64 (1 : Int)/\∃ y_12 : Unit,True/\((0 = 0/\1 = 1)/\(0 : Int) = 0/\True)/\(0 = 0/\0 = 0/\0 = 0/\0 = 0/\0 = 0/\0 = 0/\0 = 0/\0 = 0/\x.a.id = x.a.id/\x.a.ver + 1 = IntKind.wrap .u64 (x.a.ver + 1)/\(0 = 0/\x.a.n + 1 = x.a.n + 1)/\True)/\NZ x/\(1 = 1/\∀ q : Nat,q < 1->[Value.bool true] = Cs.eff (fun (x_13 : Nat) => []) [(0,List.take 1 [Value.bool true])] q)/\(0 = 0/\(1 : Int) = 1/\(0 : Int) = 0/\(0 : Int) = 0/\True)/\ownM (DevM.os (x.a.d.store x.k 0 64 x.amx.enc)) = ownM (DevM.os (x_8.d.store x_8.k x_8.a x_8.b.n (fun (q : Nat) => x_8.b.g (x_8.b.q + q))))/\ownM x.a.p.os = ownM x_5.a.p.os/\ownM x.a.r.os = ownM x_11.os/\ownM (ClkM.os (x.a.c.notes x.t (x.k : Int) 1) 0) = ownM (ClkM.os (x_9.c.note x_9.t x_9.l) 0)/\ownM (iD.os (x.a.b.put x.aqz)) = ownM (iD.os (akN.b.put akN.x))/\FV/\(Uf/\Uf/\Uf/\Uf/\True)/\ownM x.a.l.pop.os = ownM CW.pop.os/\(x.a.n + 1 = x.a.n + List.length [List.take 7 [Value.int .i64 4,Value.string (ByteArray.mk #[]),Value.string (ByteArray.mk #[]),Value.int .u64 x.old.id,Value.int .u64 (IntKind.wrap .u64 (x.a.ver + 1)),Value.int .u64 x.e,Value.int .i64 (IntKind.wrap .u64 (x.a.ver + 1))]]/\
 ∀ q : Nat,q < x.a.n + 1->[Value.int .i64 (eY.kind (ite (q = x.a.n) x.anM (x.a.e q))),Value.string (eY.key (ite (q = x.a.n) x.anM (x.a.e q))),Value.string (eY.value (ite (q = x.a.n) x.anM (x.a.e q))),Value.int .u64 (eY.id (ite (q = x.a.n) x.anM (x.a.e q))),Value.int .u64 (eY.ver (ite (q = x.a.n) x.anM (x.a.e q))),Value.int .u64 (eY.epoch (ite (q = x.a.n) x.anM (x.a.e q))),Value.int .i64 (eY.group (ite (q = x.a.n) x.anM (x.a.e q)))] = Cs.eff (fun (i : Nat) => eY.cs (x.a.e i)) [(x.a.n,List.take 7 [Value.int .i64 4,Value.string (ByteArray.mk #[]),Value.string (ByteArray.mk #[]),Value.int .u64 x.old.id,Value.int .u64 (IntKind.wrap .u64 (x.a.ver + 1)),Value.int .u64 x.e,Value.int .i64 (IntKind.wrap .u64 (x.a.ver + 1))])] q)/\True)) (∃ y_4 : Unit,True/\False)))
theorem aiU (x : fV) : aiT x = wpF Tryz.prog arI tt (noA x) 200 6 162 (Ud.args x) (hO 12 (dK 2 (Ud.l x))) (fun v h' => cO 2 x v h' Ud.outs) := by kernel_rfl
end Go.Proofs.YtenfleoejgjklaaGreat
end
section
namespace Go.Proofs.YtenfleoejgjklaaGreat
open Go SE
noncomputable def apO : WTbl := qO ++ [(113,ctrT yw),(180,ctrT al4),(62,ctrT EY.ctr),(64,ctrT (adY 0).ctr),(254,ctrT Ti.ctr),(205,ctrT rO),(207,ctrT Yq),(208,ctrT Yt),(204,ctrT (Sv 0).ctr),(45,ctrT (Ns 0).ctr)]
end Go.Proofs.YtenfleoejgjklaaGreat
end
section
namespace Go.Proofs.YtenfleoejgjklaaGreat
open Go SE
def fD (a : fV) : Prop := (4 : Int) = 4/\a.key = a.key/\a.v = a.v/\false = false/\a.old.key = a.old.key/\a.old.id = a.old.id/\a.old.ver = a.old.ver/\a.old.line = a.old.line/\a.old.cls = a.old.cls/\(a.k : Int) = (a.k : Int)/\a.c = a.c/\True
def BA (a : Int) : Prop := IntKind.wrap .u64 (a + 1) = IntKind.wrap .u64 (a + 1)
def kM (a : fV) : Prop := a.c = a.c/\(2 : Int) = 2/\BA a.a.id/\BA a.a.ver/\a.e = a.e/\ByteArray.mk #[] = ByteArray.mk #[]/\a.v = a.v/\True
def JV (a : Int) : Prop := a + 1 = IntKind.wrap .u64 (a + 1)
def aa9 (a : fV) (b : ad6) : Prop := ownM (ZLn.os (a.a.l.push (dL.mk (ByteArray.mk #[]) (a.a.id + 1) (a.a.ver + 1) (a.k : Int) a.c))) = ownM (ZLn.os (b.l.push b.x))
def abb (a : dL) (b : fV) : Prop := 0 = 0/\(a.key = ByteArray.mk #[]/\a.id = IntKind.wrap .u64 (b.a.id + 1)/\a.ver = IntKind.wrap .u64 (b.a.ver + 1)/\a.line = (b.k : Int)/\a.cls = b.c/\True)/\True
def oL : Prop := ownM tabE = ownM tabE
def abd : Prop := 1 = 1/\∀ q : Nat,q < 1->[Value.bool false] = Cs.eff (fun (CW : Nat) => []) [(0,List.take 1 [Value.bool false])] q
def abe (a : fV) (b : Nat) : Prop := ownM (ClkM.os (a.a.c.notes a.t (a.k : Int) a.blk.dA) 0) = ownM (ClkM.os (a.a.c.notes a.t (a.k : Int) b) 0)
def JW : Prop := 0 = 0/\(1 : Int) = 1/\(0 : Int) = 0/\(0 : Int) = 0/\True
def abf (a : fV) (b : nD) : Prop := ownM (DevM.os (a.a.d.store a.k 0 64 a.blk.enc)) = ownM (DevM.os (b.d.store b.k b.a b.b.n (fun (q : Nat) => b.b.g (b.b.q + q))))
def FX : Prop := Value.slice none 0 0 = Value.slice none 0 0
def qA : Prop := FX/\FX/\FX/\FX/\True
def aiV (a : fV) (b : ZArn) (c : nD) (d : Nat) : Prop := I64 (IntKind.wrap .u64 (a.a.ver + 1))/\∃ x_9 : ad6,Hd x_9.l.ok/\abb x_9.x a/\(ownM x_9.l.os = ownM b.l.os/\True)/\∀ y_8 : Unit,True->True/\(AV.slW 11 0 7 a.a.n = AV.slW 11 0 7 a.a.n/\True)/\a.a.n = a.a.n/\List.all [List.take 7 [Value.int .i64 3,Value.string (ByteArray.mk #[]),Value.string a.v,Value.int .u64 (IntKind.wrap .u64 (a.a.id + 1)),Value.int .u64 (IntKind.wrap .u64 (a.a.ver + 1)),Value.int .u64 a.e,Value.int .i64 (IntKind.wrap .u64 (a.a.ver + 1))]] (fun (l : List Value) => Nat.beq (List.length l) 7 && List.all l Value.oneCell') = true/\(2 * (a.a.n + 1) + 1000) * 72<=281474976710656/\True/\True/\I64 (1 : Int)/\∃ y_9 : Unit,True/\((0 = 0/\1 = 1)/\(0 : Int) = 0/\True)/\(0 = 0/\0 = 0/\0 = 0/\0 = 0/\0 = 0/\0 = 0/\0 = 0/\0 = 0/\JV a.a.id/\JV a.a.ver/\(0 = 0/\a.a.n + 1 = a.a.n + 1)/\True)/\fD a/\abd/\JW/\abf a c/\ownM a.a.p.os = ownM b.p.os/\ownM a.a.r.os = ownM a.a.r.os/\abe a d/\ownM a.a.b.os = ownM b.b.os/\oL/\qA/\aa9 a x_9/\(a.a.n + 1 = a.a.n + List.length [List.take 7 [Value.int .i64 3,Value.string (ByteArray.mk #[]),Value.string a.v,Value.int .u64 (IntKind.wrap .u64 (a.a.id + 1)),Value.int .u64 (IntKind.wrap .u64 (a.a.ver + 1)),Value.int .u64 a.e,Value.int .i64 (IntKind.wrap .u64 (a.a.ver + 1))]]/\
 ∀ q : Nat,q < a.a.n + 1->[Value.int .i64 (eY.kind (ite (q = a.a.n) a.eff (a.a.e q))),Value.string (eY.key (ite (q = a.a.n) a.eff (a.a.e q))),Value.string (eY.value (ite (q = a.a.n) a.eff (a.a.e q))),Value.int .u64 (eY.id (ite (q = a.a.n) a.eff (a.a.e q))),Value.int .u64 (eY.ver (ite (q = a.a.n) a.eff (a.a.e q))),Value.int .u64 (eY.epoch (ite (q = a.a.n) a.eff (a.a.e q))),Value.int .i64 (eY.group (ite (q = a.a.n) a.eff (a.a.e q)))] = Cs.eff (fun (i : Nat) => eY.cs (a.a.e i)) [(a.a.n,List.take 7 [Value.int .i64 3,Value.string (ByteArray.mk #[]),Value.string a.v,Value.int .u64 (IntKind.wrap .u64 (a.a.id + 1)),Value.int .u64 (IntKind.wrap .u64 (a.a.ver + 1)),Value.int .u64 a.e,Value.int .i64 (IntKind.wrap .u64 (a.a.ver + 1))])] q)/\True
def aiW (a : fV) (b : ZArn) (c : nD) (d : Nat) : Prop := I64 (IntKind.wrap .u64 (a.a.ver + 1))/\∃ x_9 : ad6,Hd x_9.l.ok/\abb x_9.x a/\(ownM x_9.l.os = ownM b.l.os/\True)/\∀ y_8 : Unit,True->True/\(AV.lit (Value.slice none 0 0) = AV.lit (Value.slice none 0 0)/\True)/\(2 * (0 + 1) + 1000) * 72<=281474976710656/\True/\True/\I64 (1 : Int)/\∃ y_9 : Unit,True/\((0 = 0/\1 = 1)/\(0 : Int) = 0/\True)/\(0 = 0/\0 = 0/\0 = 0/\0 = 0/\0 = 0/\0 = 0/\0 = 0/\0 = 0/\JV a.a.id/\JV a.a.ver/\(0 = 0/\a.a.n + 1 = 1)/\True)/\fD a/\abd/\JW/\abf a c/\ownM a.a.p.os = ownM b.p.os/\ownM a.a.r.os = ownM a.a.r.os/\abe a d/\ownM a.a.b.os = ownM b.b.os/\oL/\qA/\aa9 a x_9/\(a.a.n + 1 = 0 + List.length [List.take 7 [Value.int .i64 3,Value.string (ByteArray.mk #[]),Value.string a.v,Value.int .u64 (IntKind.wrap .u64 (a.a.id + 1)),Value.int .u64 (IntKind.wrap .u64 (a.a.ver + 1)),Value.int .u64 a.e,Value.int .i64 (IntKind.wrap .u64 (a.a.ver + 1))]]/\∀ q : Nat,q < a.a.n + 1->[Value.int .i64 (eY.kind (ite (q = a.a.n) a.eff (a.a.e q))),Value.string (eY.key (ite (q = a.a.n) a.eff (a.a.e q))),Value.string (eY.value (ite (q = a.a.n) a.eff (a.a.e q))),Value.int .u64 (eY.id (ite (q = a.a.n) a.eff (a.a.e q))),Value.int .u64 (eY.ver (ite (q = a.a.n) a.eff (a.a.e q))),Value.int .u64 (eY.epoch (ite (q = a.a.n) a.eff (a.a.e q))),Value.int .i64 (eY.group (ite (q = a.a.n) a.eff (a.a.e q)))] = Cs.eff (fun (CW : Nat) => []) [(0,List.take 7 [Value.int .i64 3,Value.string (ByteArray.mk #[]),Value.string a.v,Value.int .u64 (IntKind.wrap .u64 (a.a.id + 1)),Value.int .u64 (IntKind.wrap .u64 (a.a.ver + 1)),Value.int .u64 a.e,Value.int .i64 (IntKind.wrap .u64 (a.a.ver + 1))])] q)/\True
def Uh (a : ZArn) : Prop := a.n = a.n/\∀ q : Nat,q < a.n->[Value.int .i64 (eY.kind (a.e q)),Value.string (eY.key (a.e q)),Value.string (eY.value (a.e q)),Value.int .u64 (eY.id (a.e q)),Value.int .u64 (eY.ver (a.e q)),Value.int .u64 (eY.epoch (a.e q)),Value.int .i64 (eY.group (a.e q))] = [Value.int .i64 (eY.kind (a.e q)),Value.string (eY.key (a.e q)),Value.string (eY.value (a.e q)),Value.int .u64 (eY.id (a.e q)),Value.int .u64 (eY.ver (a.e q)),Value.int .u64 (eY.epoch (a.e q)),Value.int .i64 (eY.group (a.e q))]
def abg (a : nD) : Prop := ownM (DevM.os (a.d.store a.k a.a a.b.n (fun (q : Nat) => a.b.g (a.b.q + q)))) = ownM (DevM.os (a.d.store a.k a.a a.b.n (fun (q : Nat) => a.b.g (a.b.q + q))))
def Ui (a : fV) (b : dw) (c : nD) : Prop := ownM a.a.r.os = ownM a.a.r.os/\ownM b.os = ownM b.os/\abg c/\JW/\fD a/\(0 = 0/\0 = 0/\0 = 0/\0 = 0/\0 = 0/\0 = 0/\0 = 0/\0 = 0/\BA a.a.id/\BA a.a.ver/\FX/\True)/\True
def Uj (a : fV) (b : dw) (c : nD) : Prop := ownM a.a.r.os = ownM a.a.r.os/\ownM b.os = ownM b.os/\abg c/\JW/\fD a/\(0 = 0/\0 = 0/\0 = 0/\0 = 0/\0 = 0/\0 = 0/\0 = 0/\0 = 0/\BA a.a.id/\BA a.a.ver/\(0 = 0/\a.a.n = a.a.n)/\True)/\True
def JX (a : fV) (b : fV) : Prop := ((4 : Int) = 4/\a.key = b.key/\a.v = b.v/\false = false/\a.old.key = b.old.key/\a.old.id = b.old.id/\a.old.ver = b.old.ver/\a.old.line = b.old.line/\a.old.cls = b.old.cls/\(a.k : Int) = (b.k : Int)/\a.c = b.c/\True)/\True
def uU (a : ClkM) : Prop := a.t = a.t/\∀ q : Nat,q < a.t->[Value.int .i64 (a.o q)] = [Value.int .i64 (a.o q)]
def JY : Prop := 1 = 1/\∀ q : Nat,q < 1->Cs.eff (fun (CW : Nat) => []) [(0,List.take 1 [Value.bool false])] q = Cs.eff (fun (CW : Nat) => []) [(0,List.take 1 [Value.bool false])] q
def JZ : Prop := 1 = 1/\∀ q : Nat,q < 1->Cs.eff (fun (x_9 : Nat) => []) [(0,List.take 1 [Value.bool false])] q = Cs.eff (fun (x_9 : Nat) => []) [(0,List.take 1 [Value.bool false])] q
def abh (a : dN) (b : Nat) : Prop := [Value.int .u8 (a.enc b)] = [Value.int .u8 (a.enc b)]
def J3 (a : dN) : Prop := 64 * a.dA = 64 * a.dA/\∀ q : Nat,q < 64 * a.dA->abh a q
def J4 (a : nD) (b : Nat) : Prop := 0 = 0/\(a.k : Int) = (b : Int)/\(a.a : Int) = 0/\(a.b.q = 0/\a.b.n = 64)/\True
def J5 (a : dN) : Prop := 64 = 64/\∀ q : Nat,q < 64->abh a q
def abj (a : fV) (b : fV) : Prop := (True/\0 = 0/\True/\True/\0 = 0/\0 = 0/\True/\0 = 0/\True/\True/\True/\True)/\ownM a.a.p.os = ownM b.a.p.os/\ownM a.a.b.os = ownM b.a.b.os/\oL/\ownM a.a.l.os = ownM b.a.l.os/\JX a b
def J6 (a : Nat) : Prop := AV.lit (Value.int .i64 (a : Int)) = AV.lit (Value.int .i64 (a : Int))/\True
def J7 (a : fV) (b : Nat) (c : VP) : Prop := ownM (ClkM.os (a.a.c.notes a.t (a.k : Int) b) 0) = ownM (ClkM.os (c.c.note c.t c.l) 0)
def J8 (a : Bys) (b : dN) : Prop := ∀ q : Nat,q < a.N->[Value.int .u8 (a.g q)] = [Value.int .u8 (b.enc q)]
def J9 (a : nD) : Prop := Hd (a.d.ok/\a.k < a.d.n/\a.b.ok/\a.a + a.b.n<=64)
def abk (a : dN) (b : fV) : Prop := (a.cls = b.c/\a.kind = 2/\a.id = IntKind.wrap .u64 (b.a.id + 1)/\a.ver = IntKind.wrap .u64 (b.a.ver + 1)/\a.epoch = b.e/\a.key = ByteArray.mk #[]/\a.value = b.v/\True)/\True
def Ko (a : VP) (b : fV) (c : Nat) : Prop := 0 = 0/\(a.t : Int) = (b.t : Int)/\a.l = (b.k : Int) + (c : Int)/\True
def Kq (a : ClkM) (b : fV) (c : Nat) : Prop := ownM (a.os 0) = ownM (ClkM.os (b.a.c.notes b.t (b.k : Int) c) 0)/\True
def uV (a : ZLn) : Prop := ownM a.os = ownM a.os
def Kr (a : fV) (b : Nat) (c : ClkM) : Prop := ownM (ClkM.os (a.a.c.notes a.t (a.k : Int) b) 0) = ownM (c.os 0)
def abl (a : fV) (b : fV) : Prop := (True/\True/\True/\True/\True/\True/\True/\True/\a.a.id = b.a.id/\a.a.ver = b.a.ver/\True/\True)/\JX a b
def uX (a : iD) : Prop := ownM a.os = ownM a.os
def BD : Prop := 0 = 0/\1 = 1/\1 = 1
def Kt : Prop := (0 : Int)<=0/\(0 : Int)<=0
def aiX (x : fV) : Prop :=
 ∃ x_1 : ClkM,Hd x_1.ok/\(0 = 0/\True)/\(ownM (x_1.os 0) = ownM (x.a.c.os 0)/\True)/\∀ y : Unit,True->cP (decide ((x.t : Int) ≥ (x_1.t : Int))) (∃ y_1 : Unit,True/\False) (∃ x_2 : fV,Hd True/\(BD/\True)/\JX x_2 x/\∀ y_1 : Unit,True->∃ x_3 : ClkM,Hd x_3.ok/\(0 = 0/\True)/\(ownM (x_3.os 0) = ownM (x_1.os 0)/\True)/\∀ y_2 : Unit,True->cP (bne x_3.now x.e) (∃ y_3 : Unit,True/\False) (Kt/\I64 (1 : Int)/\∃ x_4 : fV,Hd (x_4.okE/\∃ i : Nat,∃ j : Nat,x_4.inP i j)/\(0 = 0/\BD/\True)/\abj x_4 x/\∀ y_3 : Unit,True->∃ x_5 : fV,Hd x_5.okE/\(0 = 0/\BD/\x_5.e = x.e/\True)/\abl x_5 x/\∀ y_4 : Unit,True->Kt/\1002<=281474976710656/\(AV.lit (Value.string x.v) = AV.lit (Value.string x.v)/\True)/\True/\∃ x_6 : dN,Hd (x_6.may/\x_6.key.size < 1099511627776/\x_6.value.size < 1099511627776)/\abk x_6 x/\True/\(∀ y_5 : Unit,Hd (x_6.cls = 0)->(0 : Int)<=64/\(0<=64/\64<=64/\64<=64)/\J6 x.k/\∃ x_7 : nD,J9 x_7/\J4 x_7 x.k/\(ownM x_7.d.os = ownM x.a.d.os/\(x_7.b.N = 64/\J8 x_7.b x_6)/\True)/\∀ y_6 : Unit,True->True/\∃ x_8 : Int,True/\(x_8 = x.c/\True)/\True/\∀ y_7 : Unit,True->(∃ s : Nat,Hd (s<=x.blk.dA)/\True/\((s : Int) = 0/\True)/\J5 x_6/\kM x/\kM x/\kM x/\fD x/\fD x/\fD x/\JZ/\(false = false/\True)/\fD x/\fD x/\fD x/\fD x/\uU x_1/\uV x_4.a.l/\qA/\oL/\uX x_4.a.b/\Kr x s x_3/\Ui x x_4.a.p x_7)/\(∀ s : Nat,Hd (s<=x.blk.dA)->cP (decide ((s : Int) < spn x_8)) (I64 ((x.k : Int) + (s : Int))/\∃ x_9 : VP,Hd (x_9.c.ok/\x_9.t < x_9.c.t)/\Ko x_9 x s/\Kq x_9.c x s/\∀ y_8 : Unit,True->True/\I64 ((s : Int) + 1)/\∃ s_1 : Nat,Hd (s_1<=x.blk.dA)/\
 x.blk.dA - s_1 < x.blk.dA - s/\((s_1 : Int) = (s : Int) + 1/\True)/\J5 x_6/\kM x/\kM x/\kM x/\fD x/\fD x/\fD x/\JY/\(false = false/\True)/\fD x/\fD x/\fD x/\fD x/\uU x_1/\uV x_4.a.l/\qA/\oL/\uX x_4.a.b/\J7 x s_1 x_9/\Ui x x_4.a.p x_7) (aiW x x_4.a x_7 s))/\True)/\∀ y_5 : Unit,Hd (x_6.cls ≠ (0 : Int))->(0 : Int)<=64/\(0<=64/\64<=64 * x_6.dA/\64 * x_6.dA<=64 * x_6.dA)/\J6 x.k/\∃ x_7 : nD,J9 x_7/\J4 x_7 x.k/\(ownM x_7.d.os = ownM x.a.d.os/\(x_7.b.N = 64 * x_6.dA/\J8 x_7.b x_6)/\True)/\∀ y_6 : Unit,True->True/\∃ x_8 : Int,True/\(x_8 = x.c/\True)/\True/\∀ y_7 : Unit,True->(∃ s : Nat,Hd (s<=x.blk.dA)/\True/\((s : Int) = 0/\True)/\J3 x_6/\kM x/\kM x/\kM x/\fD x/\fD x/\fD x/\JZ/\(false = false/\True)/\fD x/\fD x/\fD x/\fD x/\uU x_1/\uV x_4.a.l/\qA/\oL/\uX x_4.a.b/\Kr x s x_3/\Ui x x_4.a.p x_7)/\(∀ s : Nat,Hd (s<=x.blk.dA)->cP (decide ((s : Int) < spn x_8)) (I64 ((x.k : Int) + (s : Int))/\∃ x_9 : VP,Hd (x_9.c.ok/\x_9.t < x_9.c.t)/\Ko x_9 x s/\Kq x_9.c x s/\∀ y_8 : Unit,True->True/\I64 ((s : Int) + 1)/\∃ s_1 : Nat,Hd (s_1<=x.blk.dA)/\x.blk.dA - s_1 < x.blk.dA - s/\((s_1 : Int) = (s : Int) + 1/\True)/\J3 x_6/\kM x/\kM x/\kM x/\fD x/\fD x/\fD x/\JY/\(false = false/\True)/\fD x/\fD x/\fD x/\fD x/\uU x_1/\uV x_4.a.l/\qA/\oL/\uX x_4.a.b/\J7 x s_1 x_9/\Ui x x_4.a.p x_7) (aiW x x_4.a x_7 s))/\True))
theorem aiY (x : fV) : aiX x = wpF Tryz.prog apO tt (amv x) 200 6 162 ((yT true).args x) (hO 11 (dK 2 ((yT true).l x))) (fun v h' => cO 2 x v h' (yT true).outs) := by kernel_rfl
def aiZ (x : fV) : Prop :=
 ∃ x_1 : ClkM,Hd x_1.ok/\(0 = 0/\True)/\(ownM (x_1.os 0) = ownM (x.a.c.os 0)/\True)/\∀ y : Unit,True->cP (decide ((x.t : Int) ≥ (x_1.t : Int))) (∃ y_1 : Unit,True/\False) (∃ x_2 : fV,Hd True/\(BD/\True)/\JX x_2 x/\∀ y_1 : Unit,True->∃ x_3 : ClkM,Hd x_3.ok/\(0 = 0/\True)/\(ownM (x_3.os 0) = ownM (x_1.os 0)/\True)/\∀ y_2 : Unit,True->cP (bne x_3.now x.e) (∃ y_3 : Unit,True/\False) (Kt/\I64 (1 : Int)/\∃ x_4 : fV,Hd (x_4.okE/\∃ i : Nat,∃ j : Nat,x_4.inP i j)/\(0 = 0/\BD/\True)/\abj x_4 x/\∀ y_3 : Unit,True->∃ x_5 : fV,Hd x_5.okE/\(0 = 0/\BD/\x_5.e = x.e/\True)/\abl x_5 x/\∀ y_4 : Unit,True->Kt/\1002<=281474976710656/\(AV.lit (Value.string x.v) = AV.lit (Value.string x.v)/\True)/\True/\∃ x_6 : dN,Hd (x_6.may/\x_6.key.size < 1099511627776/\x_6.value.size < 1099511627776)/\abk x_6 x/\True/\(∀ y_5 : Unit,Hd (x_6.cls = 0)->(0 : Int)<=64/\(0<=64/\64<=64/\64<=64)/\J6 x.k/\∃ x_7 : nD,J9 x_7/\J4 x_7 x.k/\(ownM x_7.d.os = ownM x.a.d.os/\(x_7.b.N = 64/\J8 x_7.b x_6)/\True)/\∀ y_6 : Unit,True->True/\∃ x_8 : Int,True/\(x_8 = x.c/\True)/\True/\∀ y_7 : Unit,True->(∃ s : Nat,Hd (s<=x.blk.dA)/\True/\((s : Int) = 0/\True)/\J5 x_6/\kM x/\kM x/\kM x/\fD x/\fD x/\fD x/\JZ/\(false = false/\True)/\fD x/\fD x/\fD x/\fD x/\uU x_1/\Uh x.a/\uV x_4.a.l/\qA/\oL/\uX x_4.a.b/\Kr x s x_3/\Uj x x_4.a.p x_7)/\(∀ s : Nat,Hd (s<=x.blk.dA)->cP (decide ((s : Int) < spn x_8)) (I64 ((x.k : Int) + (s : Int))/\∃ x_9 : VP,Hd (x_9.c.ok/\x_9.t < x_9.c.t)/\Ko x_9 x s/\Kq x_9.c x s/\∀ y_8 : Unit,True->True/\I64 ((s : Int) + 1)/\
 ∃ s_1 : Nat,Hd (s_1<=x.blk.dA)/\x.blk.dA - s_1 < x.blk.dA - s/\((s_1 : Int) = (s : Int) + 1/\True)/\J5 x_6/\kM x/\kM x/\kM x/\fD x/\fD x/\fD x/\JY/\(false = false/\True)/\fD x/\fD x/\fD x/\fD x/\uU x_1/\Uh x.a/\uV x_4.a.l/\qA/\oL/\uX x_4.a.b/\J7 x s_1 x_9/\Uj x x_4.a.p x_7) (aiV x x_4.a x_7 s))/\True)/\∀ y_5 : Unit,Hd (x_6.cls ≠ (0 : Int))->(0 : Int)<=64/\(0<=64/\64<=64 * x_6.dA/\64 * x_6.dA<=64 * x_6.dA)/\J6 x.k/\∃ x_7 : nD,J9 x_7/\J4 x_7 x.k/\(ownM x_7.d.os = ownM x.a.d.os/\(x_7.b.N = 64 * x_6.dA/\J8 x_7.b x_6)/\True)/\∀ y_6 : Unit,True->True/\∃ x_8 : Int,True/\(x_8 = x.c/\True)/\True/\∀ y_7 : Unit,True->(∃ s : Nat,Hd (s<=x.blk.dA)/\True/\((s : Int) = 0/\True)/\J3 x_6/\kM x/\kM x/\kM x/\fD x/\fD x/\fD x/\JZ/\(false = false/\True)/\fD x/\fD x/\fD x/\fD x/\uU x_1/\Uh x.a/\uV x_4.a.l/\qA/\oL/\uX x_4.a.b/\Kr x s x_3/\Uj x x_4.a.p x_7)/\(∀ s : Nat,Hd (s<=x.blk.dA)->cP (decide ((s : Int) < spn x_8)) (I64 ((x.k : Int) + (s : Int))/\∃ x_9 : VP,Hd (x_9.c.ok/\x_9.t < x_9.c.t)/\Ko x_9 x s/\Kq x_9.c x s/\∀ y_8 : Unit,True->True/\I64 ((s : Int) + 1)/\∃ s_1 : Nat,Hd (s_1<=x.blk.dA)/\x.blk.dA - s_1 < x.blk.dA - s/\((s_1 : Int) = (s : Int) + 1/\True)/\J3 x_6/\kM x/\kM x/\kM x/\fD x/\fD x/\fD x/\JY/\(false = false/\True)/\fD x/\fD x/\fD x/\fD x/\uU x_1/\Uh x.a/\uV x_4.a.l/\qA/\oL/\uX x_4.a.b/\J7 x s_1 x_9/\Uj x x_4.a.p x_7) (aiV x x_4.a x_7 s))/\True))
theorem ai0 (x : fV) : aiZ x = wpF Tryz.prog apO tt (amv x) 200 6 162 ((yT false).args x) (hO 12 (dK 2 ((yT false).l x))) (fun v h' => cO 2 x v h' (yT false).outs) := by kernel_rfl
end Go.Proofs.YtenfleoejgjklaaGreat
end
section
namespace Go.Proofs.YtenfleoejgjklaaGreat
open Go SE
set_option linter.unusedSimpArgs false
theorem nY (c : ClkM) (t : Nat) (l : Int) : ∀ i,(c.notes t l i).t = c.t
 | 0 => rfl
 | i + 1 => nY c t l i
theorem kN (c : ClkM) (t : Nat) (l : Int) : ∀ i,(c.notes t l i).now = c.now
 | 0 => rfl
 | i + 1 => kN c t l i
theorem FY (c : ClkM) (t : Nat) (l : Int) (hc : ∀ k,0<=c.o k) : ∀ i k,0<=(c.notes t l i).o k/\(c.notes t l i).o k<=c.o k + i
 | 0,k => ⟨hc k,by show c.o k<=c.o k + ((0 : Nat) : Int); omega⟩
 | i + 1,k => by
  have ih := FY c t l hc i k
  show 0<=(if k = t/\0<=l + i/\l + i < 258 then (c.notes t l i).o k + 1 else (c.notes t l i).o k)/\(if k = t/\0<=l + i/\l + i < 258 then (c.notes t l i).o k + 1 else (c.notes t l i).o k)<=_
  split <;> omega
theorem qc {c : ClkM} (h : c.ok) (hc : ∀ k,c.o k + 8 < 1099511627776) (t : Nat) (l : Int) {i : Nat} (hi : i<=8) : (c.notes t l i).ok := by
 have hd : ∀ i,(c.notes t l i).dur = c.dur/\(c.notes t l i).clos = c.clos := fun i => by
  induction i with
  | zero => exact ⟨rfl,rfl⟩
  | succ i ih => exact ih
 refine ⟨by rw [nY]; exact h.1,by rw [nY]; exact h.2.1,by rw [kN]; exact h.2.2.1,by rw [(hd i).1]; exact h.2.2.2.1,by rw [(hd i).2]; exact h.2.2.2.2.1,fun k => ?_⟩
 have h1 := FY c t l (fun k => (h.2.2.2.2.2 k).1) i k
 have h2 := hc k
 exact ⟨h1.1,by omega⟩
theorem jm (b : dN) : b.dA<=8/\(b.dA : Int) = spn b.cls := by
 have := dO b.cls
 unfold dN.dA
 omega
theorem dL.ext5 {a b : dL} (h1 : a.key = b.key) (h2 : a.id = b.id) (h3 : a.ver = b.ver) (h4 : a.line = b.line) (h5 : a.cls = b.cls) : a = b := by
 cases a; cases b; simp_all
theorem Uk (d : DevM) (k a n : Nat) (g : Nat->Int) : d.store k a n (fun q => g (0 + q)) = d.store k a n g := by
 simp only [ay]
theorem qg {b : dN} (h : b.may) : 1<=b.dA := by
 have := dO b.cls
 have h0 := h.1
 unfold dN.dA
 omega
theorem Yy (x : fV) (hx : x.okE/\(∃ i j,x.inP i j)/\(∀ k,x.a.c.o k + 8 < 1099511627776)/\x.a.n = 0) : aiX x := by
 obtain ⟨hE,hi,hc,hn⟩ := hx
 obtain ⟨⟨o1,o2,o3,o4,o5,o6,o7,o8,o9,o10,o11⟩,e1,e2,e3,e4,e5,e6,e7,e8⟩ := id hE
 have w1 : IntKind.u64.wrap (x.a.ver + 1) = x.a.ver + 1 := iI (by omega) (by omega)
 have w2 : IntKind.u64.wrap (x.a.id + 1) = x.a.id + 1 := iI (by omega) (by omega)
 have hs8 := jm x.blk
 have hsc : (x.blk.dA : Int) = spn x.c := hs8.2
 have st : ∀ N,(⟨x.a.d,x.k,0,⟨x.blk.enc,0,64,N⟩⟩ : nD).d.store x.k 0 64 (fun q => x.blk.enc (0 + q)) = x.a.d.store x.k 0 64 x.blk.enc := fun _ => Uk _ _ _ _ _
 unfold aiX
 simp only [BD,JX,Kt,abj,abl,abk,J6,J9,J4,J8,J5,kM,fD,JZ,uU,uV,qA,oL,uX,Kr,Ui,Ko,Kq,JY,J7,aiW,J3,abh,abb,JV,abd,JW,abf,abe,aa9,abg,BA,FX]
 simp only [aY,aU,aT,ay,aH,bI,bn,aN,aJ,au,aW,aV,bJ,bC,bD,bF,bK,bf,bG,aZ,dU,aG,aK,ah,aj,aA,aC,aB,aF]
 refine ⟨x.a.c,o2,rfl,bg (fun h => absurd (aQ h) (by omega)) fun _ => ⟨x,⟨rfl,rfl,rfl,rfl,rfl,rfl,rfl,rfl,rfl⟩,x.a.c,o2,rfl,bg (fun h => absurd e4 (bne_iff_ne.1 h)) fun _ => ⟨by decide,by unfold I64; omega,x,⟨hE,hi⟩,⟨rfl,rfl,rfl,rfl,rfl,rfl,rfl,rfl,rfl,rfl,rfl,rfl⟩,x,hE,rfl,⟨⟨rfl,rfl⟩,rfl,rfl,rfl,rfl,rfl,rfl,rfl,rfl,rfl⟩,by decide,by decide,x.blk,⟨o6,show 0 < 1099511627776 by decide,o7⟩,⟨rfl,rfl,w2.symm,w1.symm,rfl,rfl,rfl⟩,fun h0 => ?_,fun h0 => ?_⟩⟩⟩
 ·refine ⟨by decide,⟨by decide,by decide⟩,⟨x.a.d,x.k,0,⟨x.blk.enc,0,64,64⟩⟩,⟨o1,o5,⟨aX _,show 64 < 1099511627776 by decide,qy o6⟩,aX _⟩,⟨rfl,rfl,rfl,rfl⟩,⟨rfl,rfl,fun _ _ => rfl⟩,⟨0,Nat.zero_le _,rfl,rfl⟩,fun s hs => bg (fun h => ?_) fun h => ?_⟩
  ·have h := aQ h
   exact ⟨by unfold I64; omega,⟨x.a.c.notes x.t x.k s,x.t,x.k + s⟩,⟨qc o2 hc _ _ (by omega),by show x.t < (x.a.c.notes x.t x.k s).t; rw [nY]; exact o4⟩,⟨rfl,rfl⟩,rfl,by unfold I64; omega,s + 1,by omega,by omega,by omega,rfl⟩
  ·have h := aS h
   have hse : s = x.blk.dA := by omega
   subst hse
   rw [w1,w2]
   refine ⟨by unfold I64; omega,⟨x.a.l,⟨⟨#[]⟩,x.a.id + 1,x.a.ver + 1,x.k,x.c⟩⟩,o3,⟨rfl,rfl,rfl,rfl,rfl⟩,rfl,by decide,by unfold I64; omega,⟨rfl,rfl,by omega⟩,fun q hq => by obtain rfl : q = 0 := (by omega); rfl,(st _).symm ▸ rfl,rfl,rfl,rfl,rfl,by rw [hn]; rfl,fun q hq => by obtain rfl : q = 0 := (by omega); rw [hn]; rfl⟩
 ·refine ⟨by decide,⟨by decide,by have := qg o6; omega⟩,⟨x.a.d,x.k,0,⟨x.blk.enc,0,64,64 * x.blk.dA⟩⟩,⟨o1,o5,⟨by have := qg o6; show 0 + 64<=64 * x.blk.dA; omega,show 64 < 1099511627776 by decide,qy o6⟩,aX _⟩,⟨rfl,rfl,rfl,rfl⟩,⟨rfl,rfl,fun _ _ => rfl⟩,⟨0,Nat.zero_le _,rfl,rfl⟩,fun s hs => bg (fun h => ?_) fun h => ?_⟩
  ·have h := aQ h
   exact ⟨by unfold I64; omega,⟨x.a.c.notes x.t x.k s,x.t,x.k + s⟩,⟨qc o2 hc _ _ (by omega),by show x.t < (x.a.c.notes x.t x.k s).t; rw [nY]; exact o4⟩,⟨rfl,rfl⟩,rfl,by unfold I64; omega,s + 1,by omega,by omega,by omega,rfl⟩
  ·have h := aS h
   have hse : s = x.blk.dA := by omega
   subst hse
   rw [w1,w2]
   refine ⟨by unfold I64; omega,⟨x.a.l,⟨⟨#[]⟩,x.a.id + 1,x.a.ver + 1,x.k,x.c⟩⟩,o3,⟨rfl,rfl,rfl,rfl,rfl⟩,rfl,by decide,by unfold I64; omega,⟨rfl,rfl,by omega⟩,fun q hq => by obtain rfl : q = 0 := (by omega); rfl,(st _).symm ▸ rfl,rfl,rfl,rfl,rfl,by rw [hn]; rfl,fun q hq => by obtain rfl : q = 0 := (by omega); rw [hn]; rfl⟩
theorem Yz (x : fV) (hx : x.okE/\(∃ i j,x.inP i j)/\(∀ k,x.a.c.o k + 8 < 1099511627776)) : aiZ x := by
 obtain ⟨hE,hi,hc⟩ := hx
 obtain ⟨⟨o1,o2,o3,o4,o5,o6,o7,o8,o9,o10,o11⟩,e1,e2,e3,e4,e5,e6,e7,e8⟩ := id hE
 have w1 : IntKind.u64.wrap (x.a.ver + 1) = x.a.ver + 1 := iI (by omega) (by omega)
 have w2 : IntKind.u64.wrap (x.a.id + 1) = x.a.id + 1 := iI (by omega) (by omega)
 have hs8 := jm x.blk
 have hsc : (x.blk.dA : Int) = spn x.c := hs8.2
 have st : ∀ N,(⟨x.a.d,x.k,0,⟨x.blk.enc,0,64,N⟩⟩ : nD).d.store x.k 0 64 (fun q => x.blk.enc (0 + q)) = x.a.d.store x.k 0 64 x.blk.enc := fun _ => Uk _ _ _ _ _
 unfold aiZ
 simp only [BD,JX,Kt,abj,abl,abk,J6,J9,J4,J8,J5,kM,fD,JZ,uU,Uh,uV,qA,oL,uX,Kr,Uj,Ko,Kq,JY,J7,aiV,J3,abh,abb,JV,abd,JW,abf,abe,aa9,abg,BA,FX]
 simp only [aY,aU,aT,ay,aH,bI,bn,aN,aJ,au,aW,aV,bJ,bC,bD,bF,bK,bf,bG,aZ,dU,aG,aK,ah,aj,aA,aC,aB,aF]
 refine ⟨x.a.c,o2,rfl,bg (fun h => absurd (aQ h) (by omega)) fun _ => ⟨x,⟨rfl,rfl,rfl,rfl,rfl,rfl,rfl,rfl,rfl⟩,x.a.c,o2,rfl,bg (fun h => absurd e4 (bne_iff_ne.1 h)) fun _ => ⟨by decide,by unfold I64; omega,x,⟨hE,hi⟩,⟨rfl,rfl,rfl,rfl,rfl,rfl,rfl,rfl,rfl,rfl,rfl,rfl⟩,x,hE,rfl,⟨⟨rfl,rfl⟩,rfl,rfl,rfl,rfl,rfl,rfl,rfl,rfl,rfl⟩,by decide,by decide,x.blk,⟨o6,show 0 < 1099511627776 by decide,o7⟩,⟨rfl,rfl,w2.symm,w1.symm,rfl,rfl,rfl⟩,fun h0 => ?_,fun h0 => ?_⟩⟩⟩
 ·refine ⟨by decide,⟨by decide,by decide⟩,⟨x.a.d,x.k,0,⟨x.blk.enc,0,64,64⟩⟩,⟨o1,o5,⟨aX _,show 64 < 1099511627776 by decide,qy o6⟩,aX _⟩,⟨rfl,rfl,rfl,rfl⟩,⟨rfl,rfl,fun _ _ => rfl⟩,⟨0,Nat.zero_le _,rfl,rfl⟩,fun s hs => bg (fun h => ?_) fun h => ?_⟩
  ·have h := aQ h
   exact ⟨by unfold I64; omega,⟨x.a.c.notes x.t x.k s,x.t,x.k + s⟩,⟨qc o2 hc _ _ (by omega),by show x.t < (x.a.c.notes x.t x.k s).t; rw [nY]; exact o4⟩,⟨rfl,rfl⟩,rfl,by unfold I64; omega,s + 1,by omega,by omega,by omega,rfl⟩
  ·have h := aS h
   have hse : s = x.blk.dA := by omega
   subst hse
   rw [w1,w2]
   refine ⟨by unfold I64; omega,⟨x.a.l,⟨⟨#[]⟩,x.a.id + 1,x.a.ver + 1,x.k,x.c⟩⟩,o3,⟨rfl,rfl,rfl,rfl,rfl⟩,rfl,by rfl,by omega,by unfold I64; omega,⟨rfl,rfl⟩,fun q hq => by obtain rfl : q = 0 := (by omega); rfl,(st _).symm ▸ rfl,rfl,rfl,rfl,rfl,rfl,fun q _ => ?_⟩
   by_cases hq : q = x.a.n
   ·rw [hq,if_pos rfl]; show _ = bif Nat.beq x.a.n x.a.n then _ else _; rw [Nat.beq_refl]; rfl
   ·rw [if_neg hq]; show _ = bif Nat.beq q x.a.n then _ else _; rw [dJ,decide_eq_false hq]; rfl
 ·refine ⟨by decide,⟨by decide,by have := qg o6; omega⟩,⟨x.a.d,x.k,0,⟨x.blk.enc,0,64,64 * x.blk.dA⟩⟩,⟨o1,o5,⟨by have := qg o6; show 0 + 64<=64 * x.blk.dA; omega,show 64 < 1099511627776 by decide,qy o6⟩,aX _⟩,⟨rfl,rfl,rfl,rfl⟩,⟨rfl,rfl,fun _ _ => rfl⟩,⟨0,Nat.zero_le _,rfl,rfl⟩,fun s hs => bg (fun h => ?_) fun h => ?_⟩
  ·have h := aQ h
   exact ⟨by unfold I64; omega,⟨x.a.c.notes x.t x.k s,x.t,x.k + s⟩,⟨qc o2 hc _ _ (by omega),by show x.t < (x.a.c.notes x.t x.k s).t; rw [nY]; exact o4⟩,⟨rfl,rfl⟩,rfl,by unfold I64; omega,s + 1,by omega,by omega,by omega,rfl⟩
  ·have h := aS h
   have hse : s = x.blk.dA := by omega
   subst hse
   rw [w1,w2]
   refine ⟨by unfold I64; omega,⟨x.a.l,⟨⟨#[]⟩,x.a.id + 1,x.a.ver + 1,x.k,x.c⟩⟩,o3,⟨rfl,rfl,rfl,rfl,rfl⟩,rfl,by rfl,by omega,by unfold I64; omega,⟨rfl,rfl⟩,fun q hq => by obtain rfl : q = 0 := (by omega); rfl,(st _).symm ▸ rfl,rfl,rfl,rfl,rfl,rfl,fun q _ => ?_⟩
   by_cases hq : q = x.a.n
   ·rw [hq,if_pos rfl]; show _ = bif Nat.beq x.a.n x.a.n then _ else _; rw [Nat.beq_refl]; rfl
   ·rw [if_neg hq]; show _ = bif Nat.beq q x.a.n then _ else _; rw [dJ,decide_eq_false hq]; rfl
noncomputable def enqC (z : Bool) : jd := lV fV (yT z).args 2 (yT z).l (fun x => Hd (x.okE/\(∃ i j,x.inP i j)/\(∀ k,x.a.c.o k + 8 < 1099511627776)/\(z = true->x.a.n = 0))) (fun _ => .tup [.slW 2 0 1 1,i64 0]) 3 (fun x => [.m x.enq.osP,.o (x.lst 4),.o (.room 4 (.row 1 1 (fun _ => [.bool false]) []))])
theorem abm : fA Tryz.prog apO := .append eG (.cons (bM kQ) (.cons (bM aif) (.cons (bM EZ) (.cons (bM aaC) (.cons (bM X0) (.cons (bM Uc) (.cons (bM apK) (.cons (bM apM) (.cons (bM DU) (.cons (bM yG) .nil))))))))))
theorem apP : bU Tryz.prog 162 (enqC true).ctr := dH dD mixed abm 11 amv 200 6 (fun _ => ⟨rfl,rfl,rfl,rfl⟩) fun x hx => Eq.mp (aiY x) (Yy x (by have h := aY.1 hx; exact ⟨h.1,h.2.1,h.2.2.1,h.2.2.2 rfl⟩))
theorem apQ : bU Tryz.prog 162 (enqC false).ctr := dH dD mixed abm 12 amv 200 6 (fun _ => ⟨rfl,rfl,rfl,rfl⟩) fun x hx => Eq.mp (ai0 x) (Yz x (by have h := aY.1 hx; exact ⟨h.1,h.2.1,h.2.2.1⟩))
end Go.Proofs.YtenfleoejgjklaaGreat
end
section
namespace Go.Proofs.YtenfleoejgjklaaGreat
open Go SE
set_option linter.unusedSimpArgs false
theorem Iq (x : fV) : FW x := by
 unfold FW
 simp only [yU,NZ]
 simp only [aY,aU,aT,ay,aH,bI,bn,aN,aJ,au,aW,aV,bJ,bC,bD,bF,bK,bf,bG,aZ,dU,aG,aK,ah,aj,aA,aC,aB,aF,I64]
 omega
theorem Ul (x : fV) (hx : x.okD/\0<=x.a.id/\x.a.id < 1152921504606846976) : Yw x := by
 obtain ⟨⟨o1,o2,o3,o4,o5,o6,o7,o8,o9,o10,o11,o12,o13,o14,o15,o16,o17,o18,o19,o20,o21⟩,h1,h2⟩ := hx
 unfold Yw
 simp only [yU,aeH,NZ]
 simp only [aY,aU,aT,ay,aH,bI,bn,aN,aJ,au,aW,aV,bJ,bC,bD,bF,bK,bf,bG,aZ,dU,aG,aK,ah,aj,aA,aC,aB,aF]
 have w1 : IntKind.u64.wrap (x.a.ver + 1) = x.a.ver + 1 := iI (by omega) (by omega)
 have hq : dN.may ⟨0,3,1,1,x.e,⟨#[]⟩,⟨#[]⟩⟩ := by
  obtain ⟨a,b⟩ := o6
  refine ⟨a,?_⟩
  rcases b with ⟨b,_⟩ | ⟨b,_⟩ | ⟨b,_⟩ | ⟨_,b1,b2,_,_,b4⟩
  ·exact absurd (show (3 : Int) = 0 from b) (by decide)
  ·exact absurd (show (3 : Int) = 1 from b) (by decide)
  ·exact absurd (show (3 : Int) = 2 from b) (by decide)
  ·exact .inr (.inr (.inr ⟨rfl,b1,b2,⟨show (1 : Int)<=1 by decide,show (1 : Int)<=2305843009213693952 by decide⟩,⟨show (1 : Int)<=1 by decide,show (1 : Int)<=2305843009213693952 by decide⟩,b4⟩))
 rw [w1]
 refine ⟨by decide,⟨0,3,1,1,x.e,⟨#[]⟩,⟨#[]⟩⟩,⟨by show 0 < 1099511627776; decide,by show 0 < 1099511627776; decide⟩,⟨rfl,rfl,rfl,rfl,rfl,rfl,rfl⟩,?_⟩
 rw [yP.2 hq,Bool.not_true,iR,o18,bne_self_eq_false,iR]
 exact bg (fun h => absurd (aQ h) (by omega)) fun _ => ⟨by unfold I64; omega,bg (fun h => absurd (aQ h) (by omega)) fun _ => trivial⟩
theorem Um (x : fV) (hx : x.okD/\∃ i j,x.inP i j) : Yx x := by
 obtain ⟨⟨o1,o2,o3,o4,o5,o6,o7,o8,o9,o10,o11,o12,o13,o14,o15,o16,o17,o18,o19,o20,o21⟩,i,j,h1,h2,h3,h4,h5,h6⟩ := hx
 unfold Yx
 simp only [yU,Ue,FV,NZ,aa8,aiS]
 simp only [aY,aU,aT,ay,aH,bI,bn,aN,aJ,au,aW,aV,bJ,bC,bD,bF,bK,bf,bG,aZ,dU,aG,aK,ah,aj,aA,aC,aB,aF]
 refine ⟨by decide,⟨x.a.p,i,j⟩,⟨o10,h1,h2,h3,h4⟩,h5.symm,rfl,?_⟩
 refine bg (fun h => absurd h6 (bne_iff_ne.1 h)) fun _ => ⟨⟨x.a.b,x.a.l,x.k⟩,⟨o11,o3,o13⟩,rfl,⟨rfl,rfl⟩,fun h => absurd h (not_or.2 ⟨o20,o21⟩),fun _ => ⟨by unfold I64; omega,rfl,rfl,rfl⟩⟩
theorem YA (x : fV) (hx : x.okD/\(∃ i j,x.inP i j)/\0<=x.a.id/\x.a.id < 1152921504606846976) : aiT x := by
 obtain ⟨hD,hi,i1,i2⟩ := hx
 obtain ⟨o1,o2,o3,o4,o5,o6,o7,o8,o9,o10,o11,o12,o13,o14,o15,o16,o17,o18,o19,o20,o21⟩ := id hD
 have w1 : IntKind.u64.wrap (x.a.ver + 1) = x.a.ver + 1 := iI (by omega) (by omega)
 have st : ∀ N,(⟨x.a.d,x.k,0,⟨x.amx.enc,0,64,N⟩⟩ : nD).d.store x.k 0 64 (fun q => x.amx.enc (0 + q)) = x.a.d.store x.k 0 64 x.amx.enc := fun _ => Uk _ _ _ _ _
 unfold aiT
 simp only [aa7,yU,Ue,FV,NZ,Uf,aa8]
 simp only [aY,aU,aT,ay,aH,bI,bn,aN,aJ,au,aW,aV,bJ,bC,bD,bF,bK,bf,bG,aZ,dU,aG,aK,ah,aj,aA,aC,aB,aF]
 refine ⟨x.a.c,o2,rfl,bg (fun h => absurd (aQ h) (by omega)) fun _ => ⟨x,⟨rfl,rfl,rfl,rfl,rfl,rfl,rfl,rfl,rfl⟩,x.a.c,o2,rfl,bg (fun h => absurd o16 (bne_iff_ne.1 h)) fun _ => ⟨by decide,x.a.l,o3,rfl,bg (fun _ => ?_) fun h => absurd o14 (aS h)⟩⟩⟩
 rw [← o15]
 simp only [beq_self_eq_true,Bool.and_self,Bool.not_true,iR]
 refine ⟨by unfold I64; omega,x,⟨hD,hi⟩,⟨rfl,rfl,rfl,rfl,rfl,rfl,rfl,rfl,rfl,rfl,rfl,rfl⟩,x,⟨hD,i1,i2⟩,rfl,⟨⟨rfl,rfl⟩,rfl,rfl,rfl,rfl,rfl,rfl,rfl,rfl,rfl⟩,by decide,by decide,x.amx,⟨o6,show 0 < 1099511627776 by decide,show 0 < 1099511627776 by decide,rfl⟩,⟨rfl,rfl,rfl,w1.symm,rfl,rfl,rfl⟩,by decide,⟨by decide,by decide⟩,⟨x.a.d,x.k,0,⟨x.amx.enc,0,64,64⟩⟩,⟨o1,o5,⟨aX _,show 64 < 1099511627776 by decide,qy o6⟩,aX _⟩,⟨rfl,rfl,rfl,rfl⟩,⟨rfl,rfl,fun _ _ => rfl⟩,by unfold I64; omega,⟨x.a.c,x.t,x.k + 0⟩,⟨o2,o4⟩,⟨rfl,rfl⟩,rfl,by unfold I64; omega,?_⟩
 rw [w1]
 refine ⟨by unfold I64; omega,x.a.l,o3,rfl,x.a.r,o12,rfl,⟨x.a.b,x.aqz⟩,⟨o11,o19⟩,⟨rfl,rfl,rfl,rfl,rfl⟩,rfl,by rfl,by omega,by unfold I64; omega,rfl,fun q hq => by obtain rfl : q = 0 := (by omega); rfl,(st _).symm ▸ rfl,rfl,rfl,rfl,rfl,rfl,rfl,fun q _ => ?_⟩
 by_cases hq : q = x.a.n
 ·rw [hq,if_pos rfl]; show _ = bif Nat.beq x.a.n x.a.n then _ else _; rw [Nat.beq_refl]; rfl
 ·rw [if_neg hq]; show _ = bif Nat.beq q x.a.n then _ else _; rw [dJ,decide_eq_false hq]; rfl
theorem Ku : bU Tryz.prog 205 nP := dR dD mixed .nil noA 200 6 (fun _ => rfl) (fun _ => rfl) fun x _ => Eq.mp (Ug x) (Iq x)
theorem amy : bU Tryz.prog 208 FT := dR dD mixed aa6 noA 200 6 (fun _ => rfl) (fun _ => rfl) fun x hx => Eq.mp (aeI x) (Ul x (aY.1 hx))
theorem amA : bU Tryz.prog 207 FU := dR dD mixed aa5 noA 200 6 (fun _ => rfl) (fun _ => rfl) fun x hx => Eq.mp (aeJ x) (Um x (aY.1 hx))
theorem amB : fA Tryz.prog arI := .append eG (.cons NY (.cons (bM apN) (.cons (bM EZ) (.cons (bM aaC) (.cons (bM aec) (.cons (bM pY) (.cons (bM ahJ) (.cons (bM arp) (.cons (bM Ku) (.cons (bM amA) (.cons (bM amy) (.cons (bM DU) (.cons (bM yG) .nil)))))))))))))
theorem arJ : bU Tryz.prog 162 Ud.ctr := dH dD mixed amB 12 noA 200 6 (fun _ => ⟨rfl,rfl,rfl,rfl⟩) fun x hx => Eq.mp (aiU x) (YA x (aY.1 hx))
end Go.Proofs.YtenfleoejgjklaaGreat
end
section
namespace Go.Proofs.YtenfleoejgjklaaGreat
open Go SE
theorem zU {a : ZArn} (h : a.n = 0) : a.os = a.osN := by unfold ZArn.os; rw [h]; rfl
theorem qh {a : ZArn} (h : a.n ≠ 0) : a.os = a.osP := by unfold ZArn.os; rw [dJ,decide_eq_false h]; rfl
structure akO (X : Type) where
 Y : Type
 post : X->Y->Prop
 ret : X->Y->AV
 a : X->Y->ZArn
 m : Nat
 ex : X->Y->List bZ
structure wz where
 X : Type
 args : X->List AV
 a : X->ZArn
 k : Nat
 ex : X->List bZ
 pre : X->Prop
 outs : List (akO X)
noncomputable def akO.po {X : Type} (sh : ZArn->List bZ) (o : akO X) : agD X := { Y := o.Y,post := o.post,ret := o.ret,m := o.m,l := fun x y => .m (sh (o.a x y)) :: (o.ex x y).map PO.o }
noncomputable def wz.pc (C : wz) (sh : ZArn->List bZ) (p : C.X->Prop) : jd := { X := C.X,args := C.args,k := C.k,l := fun x => .m (sh (C.a x)) :: (C.ex x).map PO.o,pre := fun x => C.pre x/\p x,outs := C.outs.map (akO.po sh) }
noncomputable def wz.N (C : wz) : jd := C.pc ZArn.osN (fun x => (C.a x).n = 0)
noncomputable def wz.P (C : wz) : jd := C.pc ZArn.osP (fun x => (C.a x).n ≠ 0)
noncomputable def wz.M (C : wz) : jd := C.pc ZArn.os (fun _ => True)
theorem YB {X : Type} {x : X} {v : AV} {h' : Heap} {sh sh' : ZArn->List bZ} : ∀ {l : List (akO X)},(∀ o ∈ l,∀ y,o.post x y->sh (o.a x y) = sh' (o.a x y))->nU x v h' ((l.map (akO.po sh)).map agD.out)->nU x v h' ((l.map (akO.po sh')).map agD.out)
 | [],_,h => h
 | o :: l,hl,h => by
  simp only [List.map_cons] at h ⊢
  rw [jH] at h ⊢
  rcases h with ⟨y,h1,h2,h3⟩ | h
  ·refine .inl ⟨y,h1,h2,?_⟩
   rw [h3]
   have := hl o (by simp) y h1
   simp only [agD.out,akO.po,this]
  ·exact .inr (YB (fun p hp => hl p (List.mem_cons_of_mem _ hp)) h)
theorem glue {P : Program} {f : FuncId} {C : wz} (hn : ∀ x,C.pre x->∀ o ∈ C.outs,∀ y,o.post x y->(o.a x y).n = (C.a x).n) (hN : bU P f C.N.ctr) (hP : bU P f C.P.ctr) : bU P f C.M.ctr := oJ fun x hx => by
 by_cases hz : (C.a x).n = 0
 ·refine ⟨_,hN,rfl,x,⟨hx.1,hz⟩,rfl,?_,fun v h' hh => ?_⟩
  ·simp only [wz.N,wz.M,wz.pc,jd.ctr,zU hz]
  ·refine YB (sh := ZArn.osN) (sh' := ZArn.os) (fun o ho y hy => ?_) hh
   rw [zU]; rw [hn x hx.1 o ho y hy]; exact hz
 ·refine ⟨_,hP,rfl,x,⟨hx.1,hz⟩,rfl,?_,fun v h' hh => ?_⟩
  ·simp only [wz.P,wz.M,wz.pc,jd.ctr,qh hz]
  ·refine YB (sh := ZArn.osP) (sh' := ZArn.os) (fun o ho y hy => ?_) hh
   rw [qh]; rw [hn x hx.1 o ho y hy]; exact hz
theorem dG {P : Program} {T : WTr} {f : FuncId} (hT : ∀ args h K,T args h K->Sp P f args h K) {C : jd} (N : Nat)
  (hk : ∀ x,(C.l x).length = C.k/\(dK C.k (C.l x)).length = N/\(C.l x).all (PO.good C.k) = true/\gY C.k (C.args x) = true)
  (hq : ∀ x,C.pre x->T (C.args x) (hO N (dK C.k (C.l x))) (fun v h' => cO C.k x v h' C.outs)) : bU P f C.ctr := fun x hp => by
 obtain ⟨h1,h2,h3,h4⟩ := hk x
 refine ⟨by simp only [jd.ctr,List.length_map]; exact h1,?_⟩
 have hs := hT _ _ _ (hq x hp)
 rw [← h2,← h1] at hs
 refine ⟨hs.1,fun ρ T w vs hR hl => ?_⟩
 have hR0 : Rel (hOf ((C.l x).map PO.ab)) ρ T w := by rw [hOf,List.length_map,h1]; exact hR
 obtain ⟨ρ',r1,r2,r3⟩ := Rel.agA (by rw [h1]; exact h3) hR0
 refine (hs.2 ρ' T w vs r3 (dZ.mono r2 _ _ hl)).mono ?_
 rintro e w' ⟨ρ2,v,u,h',c1,c2,c3,c4,c5,c6,c7⟩
 obtain ⟨v0,h0,g1,g2⟩ := zG c7
 obtain ⟨ρ3,q1,q2,q3⟩ := g1.2 ρ2 T w' u c3 c4
 refine ⟨ρ3,v0,u,h0,fun j hj => ?_,?_,q2,q3,c5,c6,g2⟩
 ·have hj' : j < C.k := hj
  have hle : C.k<=(dK C.k (C.l x)).length := by unfold dK; rw [List.length_append,gX,h1]; omega
  rw [q1 j (by rw [h1]; exact hj'),c1 j (by show j < (dK _ _).length; rw [h1]; omega),r1 j (by rw [h1]; exact hj')]
 ·have := g1.1; rw [h1] at this; exact this
noncomputable def enqG : jd := lV fV (yT true).args 2 (fun x => [.m x.a.os,.o (x.lst 4)]) (fun x => Hd (x.okE/\(∃ i j,x.inP i j)/\∀ k,x.a.c.o k + 8 < 1099511627776)) (fun _ => .tup [.slW 2 0 1 1,i64 0]) 3 (fun x => [.m x.enq.os,.o (x.lst 4),.o (.room 4 (.row 1 1 (fun _ => [.bool false]) []))])
theorem apR : bU Tryz.prog 162 enqG.ctr := wu fun x hx => by
 obtain ⟨h1,h2,h3⟩ := aY.1 hx
 have e : x.enq.os = x.enq.osP := qh (Nat.succ_ne_zero _)
 by_cases hz : x.a.n = 0
 ·exact ⟨_,_,_,_,_,_,x,apP,aY.2 ⟨h1,h2,h3,fun _ => hz⟩,rfl,by rw [zU hz]; rfl,rfl,by rw [e]⟩
 ·exact ⟨_,_,_,_,_,_,x,apQ,aY.2 ⟨h1,h2,h3,fun h => nomatch h⟩,rfl,by rw [qh hz]; rfl,rfl,by rw [e]⟩
noncomputable def deqG : jd := lV fV Ud.args 2 (fun x => [.m x.a.os,.o x.akM]) (fun x => Hd (x.okD/\(∃ i j,x.inP i j)/\0<=x.a.id/\x.a.id < 1152921504606846976/\x.a.n ≠ 0)) (fun _ => .tup [.slW 2 0 1 1,i64 0]) 3 (fun x => [.m x.deq.os,.o x.akM,.o (.room 4 (.row 1 1 (fun _ => [.bool true]) []))])
theorem apS : bU Tryz.prog 162 deqG.ctr := wu fun x hx => by
 obtain ⟨h1,h2,h3,h4,h5⟩ := aY.1 hx
 exact ⟨_,_,_,_,_,_,x,arJ,aY.2 ⟨h1,h2,h3,h4⟩,rfl,by rw [qh h5],rfl,by rw [show x.deq.os = x.deq.osP from qh (Nat.succ_ne_zero _)]⟩
end Go.Proofs.YtenfleoejgjklaaGreat
end
section
namespace Go.Proofs.YtenfleoejgjklaaGreat
open Go SE
structure ZFr where
 key : ByteArray
 value : ByteArray
 epoch : Int
 had : Bool
 old : dL
 line : Int
 cls : Int
 piece : Int
 code : Int
 found : Bool
 ans : ByteArray
 aep : Int
namespace ZFr
def l (f : ZFr) (k ph : Int) (b : AV) : List AV := [i64 k,.lit (.string f.key),.lit (.string f.value),.lit (.string ⟨#[]⟩),fJ,i64 ph,u64 f.epoch,.lit (.string ⟨#[]⟩),boo false,i64 0,boo f.had,.lit (.string f.old.key),u64 f.old.id,u64 f.old.ver,i64 f.old.line,i64 f.old.cls,i64 f.line,i64 f.cls,i64 f.piece,b,i64 0,fJ,i64 f.code,boo f.found,.lit (.string f.ans),fJ,fJ,u64 f.aep]
def av (f : ZFr) (k ph : Int) (b : AV) : AV := .agg (f.l k ph b)
end ZFr
def Ir (g : Nat->Int) (n : Nat) : bZ := .room 5 (rowB g n)
structure apT where
 k : Int
 key : ByteArray
 value : ByteArray
 to : ByteArray
 ph : Int
 ep : Int
 pos : ByteArray
 past : Bool
 lev : Int
 had : Bool
 okey : ByteArray
 oid : Int
 over : Int
 apU : Int
 ocls : Int
 line : Int
 cls : Int
 piece : Int
 at_ : Int
 code : Int
 found : Bool
 ans : ByteArray
 aep : Int
def apT.l (x : apT) : List AV := [i64 x.k,.lit (.string x.key),.lit (.string x.value),.lit (.string x.to),fJ,i64 x.ph,u64 x.ep,.lit (.string x.pos),boo x.past,i64 x.lev,boo x.had,.lit (.string x.okey),u64 x.oid,u64 x.over,i64 x.apU,i64 x.ocls,i64 x.line,i64 x.cls,i64 x.piece,fJ,i64 x.at_,fJ,i64 x.code,boo x.found,.lit (.string x.ans),fJ,fJ,u64 x.aep]
noncomputable def zV : Ctr := det apT (fun x => [.agg x.l]) 0 (fun _ => []) (fun _ => True) (fun x => .agg x.l) 0 (fun _ => [])
inductive Tg where
 | i | u | s | b | n
def afe : Tg->AV->Bool
 | .i,.lit (.int .i64 _) => true
 | .u,.lit (.int .u64 _) => true
 | .s,.lit (.string _) => true
 | .b,.lit (.bool _) => true
 | .n,.lit (.slice none 0 0) => true
 | _,_ => false
def shp : List Tg->List AV->Bool
 | [],[] => true
 | t :: ts,v :: vs => afe t v && shp ts vs
 | _,_ => false
def tgs : List Tg := [.i,.s,.s,.s,.n,.i,.u,.s,.b,.i,.b,.s,.u,.u,.i,.i,.i,.i,.i,.n,.i,.n,.i,.b,.s,.n,.n,.u]
theorem eF {t : Tg} {ts : List Tg} {l : List AV} (h : shp (t :: ts) l = true) : ∃ v vs,l = v :: vs/\afe t v = true/\shp ts vs = true := by
 cases l with
 | nil => simp [shp] at h
 | cons v vs => simp only [shp,aI] at h; exact ⟨v,vs,rfl,h.1,h.2⟩
theorem apV {l : List AV} (h : shp [] l = true) : l = [] := by
 cases l with
 | nil => rfl
 | cons v vs => simp [shp] at h
theorem akP {v : AV} (h : afe .i v = true) : ∃ z,v = i64 z := by
 unfold afe at h; split at h <;> first | contradiction | exact ⟨_,rfl⟩
theorem tg_u {v : AV} (h : afe .u v = true) : ∃ z,v = u64 z := by
 unfold afe at h; split at h <;> first | contradiction | exact ⟨_,rfl⟩
theorem aqA {v : AV} (h : afe .s v = true) : ∃ z,v = .lit (.string z) := by
 unfold afe at h; split at h <;> first | contradiction | exact ⟨_,rfl⟩
theorem tg_b {v : AV} (h : afe .b v = true) : ∃ z,v = boo z := by
 unfold afe at h; split at h <;> first | contradiction | exact ⟨_,rfl⟩
theorem arK {v : AV} (h : afe .n v = true) : v = fJ := by
 unfold afe at h; split at h <;> first | contradiction | rfl
theorem shp_l {l : List AV} (h : shp tgs l = true) : ∃ x : apT,l = x.l := by
 obtain ⟨v0,r0,rfl,a0,h0⟩ := eF h
 obtain ⟨v1,r1,rfl,a1,h1⟩ := eF h0
 obtain ⟨v2,r2,rfl,a2,h2⟩ := eF h1
 obtain ⟨v3,r3,rfl,a3,h3⟩ := eF h2
 obtain ⟨v4,r4,rfl,a4,h4⟩ := eF h3
 obtain ⟨v5,r5,rfl,a5,h5⟩ := eF h4
 obtain ⟨v6,r6,rfl,a6,h6⟩ := eF h5
 obtain ⟨v7,r7,rfl,a7,h7⟩ := eF h6
 obtain ⟨v8,r8,rfl,a8,h8⟩ := eF h7
 obtain ⟨v9,r9,rfl,a9,h9⟩ := eF h8
 obtain ⟨v10,r10,rfl,a10,h10⟩ := eF h9
 obtain ⟨v11,r11,rfl,a11,h11⟩ := eF h10
 obtain ⟨v12,r12,rfl,a12,h12⟩ := eF h11
 obtain ⟨v13,r13,rfl,a13,h13⟩ := eF h12
 obtain ⟨v14,r14,rfl,a14,h14⟩ := eF h13
 obtain ⟨v15,r15,rfl,a15,h15⟩ := eF h14
 obtain ⟨v16,r16,rfl,a16,h16⟩ := eF h15
 obtain ⟨v17,r17,rfl,a17,h17⟩ := eF h16
 obtain ⟨v18,r18,rfl,a18,h18⟩ := eF h17
 obtain ⟨v19,r19,rfl,a19,h19⟩ := eF h18
 obtain ⟨v20,r20,rfl,a20,h20⟩ := eF h19
 obtain ⟨v21,r21,rfl,a21,h21⟩ := eF h20
 obtain ⟨v22,r22,rfl,a22,h22⟩ := eF h21
 obtain ⟨v23,r23,rfl,a23,h23⟩ := eF h22
 obtain ⟨v24,r24,rfl,a24,h24⟩ := eF h23
 obtain ⟨v25,r25,rfl,a25,h25⟩ := eF h24
 obtain ⟨v26,r26,rfl,a26,h26⟩ := eF h25
 obtain ⟨v27,r27,rfl,a27,h27⟩ := eF h26
 obtain rfl := apV h27
 obtain ⟨z0,rfl⟩ := akP a0
 obtain ⟨z1,rfl⟩ := aqA a1
 obtain ⟨z2,rfl⟩ := aqA a2
 obtain ⟨z3,rfl⟩ := aqA a3
 obtain rfl := arK a4
 obtain ⟨z5,rfl⟩ := akP a5
 obtain ⟨z6,rfl⟩ := tg_u a6
 obtain ⟨z7,rfl⟩ := aqA a7
 obtain ⟨z8,rfl⟩ := tg_b a8
 obtain ⟨z9,rfl⟩ := akP a9
 obtain ⟨z10,rfl⟩ := tg_b a10
 obtain ⟨z11,rfl⟩ := aqA a11
 obtain ⟨z12,rfl⟩ := tg_u a12
 obtain ⟨z13,rfl⟩ := tg_u a13
 obtain ⟨z14,rfl⟩ := akP a14
 obtain ⟨z15,rfl⟩ := akP a15
 obtain ⟨z16,rfl⟩ := akP a16
 obtain ⟨z17,rfl⟩ := akP a17
 obtain ⟨z18,rfl⟩ := akP a18
 obtain rfl := arK a19
 obtain ⟨z20,rfl⟩ := akP a20
 obtain rfl := arK a21
 obtain ⟨z22,rfl⟩ := akP a22
 obtain ⟨z23,rfl⟩ := tg_b a23
 obtain ⟨z24,rfl⟩ := aqA a24
 obtain rfl := arK a25
 obtain rfl := arK a26
 obtain ⟨z27,rfl⟩ := tg_u a27
 exact ⟨⟨z0,z1,z2,z3,z5,z6,z7,z8,z9,z10,z11,z12,z13,z14,z15,z16,z17,z18,z20,z22,z23,z24,z27⟩,rfl⟩
end Go.Proofs.YtenfleoejgjklaaGreat
end
section
namespace Go.Proofs.YtenfleoejgjklaaGreat
open Go SE
def aeK : Prop := Value.slice none 0 0 = Value.slice none 0 0
def FZ (x : apT) : Prop :=
 ∃ y : Unit,True/\(x.k = x.k/\x.key = x.key/\x.value = x.value/\x.to = x.to/\aeK/\x.ph = x.ph/\x.ep = x.ep/\x.pos = x.pos/\x.past = x.past/\x.lev = x.lev/\x.had = x.had/\x.okey = x.okey/\x.oid = x.oid/\x.over = x.over/\x.apU = x.apU/\x.ocls = x.ocls/\x.line = x.line/\x.cls = x.cls/\x.piece = x.piece/\aeK/\x.at_ = x.at_/\aeK/\x.code = x.code/\x.found = x.found/\x.ans = x.ans/\aeK/\aeK/\x.aep = x.aep/\True)/\True
theorem Un (x : apT) : FZ x = wpF Tryz.prog [] tt (noA x) 200 6 52 (zV.args x) (hO zV.k (zV.os x)) (fun v h' => eH zV.k x v h' zV.outs) := by kernel_rfl
end Go.Proofs.YtenfleoejgjklaaGreat
end
section
namespace Go.Proofs.YtenfleoejgjklaaGreat
open Go SE
set_option linter.unusedSimpArgs false
def emp : ByteArray := ⟨#[]⟩
theorem Iu (x : apT) : FZ x := by
 unfold FZ
 simp only [aeK]
 simp only [aY,aU,aT,ay,aH,bI,bn,aN,aJ,au,aW,aV,bJ,bC,bD,bF,bK,bf,bG,aZ,dU,aG,aK,ah,aj,aA,aC,aB,aF]
theorem aeL : bU Tryz.prog 52 zV := dR dD mixed .nil noA 200 6 (fun _ => rfl) (fun _ => rfl) fun x _ => Eq.mp (Un x) (Iu x)
def arL : FuncId->vK := fun _ _ _ _ => []
noncomputable def ai1 : WTr := fun args h K => match args with
 | [.agg l] => bif shp tgs l then K (.agg l) h else wpF Tryz.prog [] tt arL 200 6 52 args h K
 | _ => False
theorem ai2 (args : List AV) (h : Heap) (K : AV->Heap->Prop) (hq : ai1 args h K) : Sp Tryz.prog 52 args h K := by
 unfold ai1 at hq
 split at hq
 ·rename_i l
  cases hs : shp tgs l <;> rw [hs] at hq
  ·exact AY dD mixed .nil _ _ _ _ _ _ _ hq
  ·obtain ⟨x,rfl⟩ := shp_l hs
   refine (ZW h (WW aeL x trivial) (fun _ _ hv => hv) (by rfl) (by rfl)).mono ?_
   rintro v h' ⟨rfl,rfl⟩
   exact hq
 ·exact hq.elim
def apW : WTr := fun args h K => match args with
 | [.lit (.int .i64 c)] => K (i64 (ned c)) h
 | _ => False
theorem amC (args : List AV) (h : Heap) (K : AV->Heap->Prop) (hq : apW args h K) : Sp Tryz.prog 201 args h K := by
 unfold apW at hq
 split at hq
 ·exact D7 ag7 _ trivial h rfl rfl hq
 ·exact hq.elim
structure ZEn where
 r : ZRd
 c : ClkM
 t : Nat
 f : ZFr
def arnE : bZ := aa2 .any (.ptr 1 0) (.ptr 2 0) .any .any .any .any
noncomputable def qB (k : Int) : Ctr := { X := ZEn,args := fun x => [.ptr 0 0,i64 x.t,x.f.av k 0 fJ],k := 3,os := fun x => [arnE,.abs (ownM x.r.os),.abs (ownM (x.c.os 0))],pre := fun x => Hd (x.r.ok/\x.c.ok/\x.t < x.r.t/\x.r.has x.t = 0),outs := [
 { Y := Unit,post := fun x _ => Hd (k = 4/\400 < x.f.value.size),ret := fun x _ => { x.f with code := 5 }.av k 7 fJ,m := 3,os := fun x _ => [arnE,.abs (ownM x.r.os),.abs (ownM (x.c.os 0))] },
 { Y := Unit,post := fun x _ => Hd (k = 4->x.f.value.size<=400),ret := fun x _ => { x.f with epoch := x.c.now }.av k (if k = 4 then 3 else 1) fJ,m := 3,os := fun x _ => [arnE,.abs (ownM (x.r.put x.t x.r.now).os),.abs (ownM (x.c.os 0))] }] }
structure ZFi where
 l : ZLn
 t : Nat
 f : ZFr
def arnF : bZ := aa2 .any .any .any .any .any (.ptr 1 0) .any
noncomputable def YC : Ctr := { X := ZFi,args := fun x => [.ptr 0 0,i64 x.t,x.f.av 5 1 fJ],k := 2,os := fun x => [arnF,.abs (ownM x.l.os)],pre := fun x => Hd (x.l.ok/\x.f.line = -1),outs := [
 { Y := Unit,post := fun x _ => Hd (x.l.n = 0),ret := fun x _ => { x.f with had := false,old := pX }.av 5 6 fJ,m := 2,os := fun x _ => [arnF,.abs (ownM x.l.os)] },
 { Y := Unit,post := fun x _ => Hd (x.l.n ≠ 0),ret := fun x _ => { x.f with had := true,old := x.l.head,piece := 0 }.av 5 2 fJ,m := 2,os := fun x _ => [arnF,.abs (ownM x.l.os)] }] }
structure ZTk where
 p : dw
 t : Nat
 f : ZFr
def arnT : bZ := aa2 (.ptr 1 0) .any .any .any .any .any .any
def ZTk.c (x : ZTk) (k : Int) : Int := if k = 4 then ned x.f.value.size else 0
noncomputable def CX (k : Int) : Ctr := { X := ZTk,args := fun x => [.ptr 0 0,i64 x.t,x.f.av k 3 fJ],k := 2,os := fun x => [arnT,.abs (ownM x.p.os)],pre := fun x => Hd (x.p.ok/\x.f.value.size<=400),outs := [
 { Y := Unit,post := fun x _ => Hd (∀ i,i < x.p.n->x.p.cls i ≠ -1/\x.p.full (x.c k) i),ret := fun x _ => { x.f with cls := x.c k,ans := emp,code := 4 }.av k 6 fJ,m := 2,os := fun x _ => [arnT,.abs (ownM x.p.os)] },
 { Y := Nat × Nat,post := fun x y => Hd (x.p.takes (x.c k) y.1 y.2),ret := fun x y => { x.f with cls := x.c k,line := 2 + y.1 * 8 + y.2 * spn (x.c k),piece := 0 }.av k 4 fJ,m := 2,os := fun x y => [arnT,.abs (ownM (x.p.take (x.c k) y.1 y.2).os)] }] }
structure ZLv where
 r : ZRd
 t : Nat
 f : ZFr
def arnL : bZ := aa2 .any (.ptr 1 0) .any .any .any .any .any
noncomputable def qC (k : Int) : Ctr := det ZLv (fun x => [.ptr 0 0,i64 x.t,x.f.av k 6 fJ]) 2 (fun x => [arnL,.abs (ownM x.r.os)]) (fun x => Hd (x.r.ok/\x.t < x.r.t)) (fun x => x.f.av k 7 fJ) 2 (fun x => [arnL,.abs (ownM (x.r.put x.t 0).os)])
def abn : bZ := aa2 .any .any .any .any .any .any (.ptr 1 0)
def YD : bZ := .ro (.av [.ptr 2 0,.any,.any,.any])
structure ZWr where
 d : DevM
 t : Nat
 f : ZFr
 ln : Nat
 c : Int
 p : Nat
def ZWr.draft (x : ZWr) : dN := ⟨x.c,0,0,0,0,⟨#[]⟩,⟨#[]⟩⟩
def ZWr.blk (x : ZWr) : dN := ⟨x.c,2,0,0,0,⟨#[]⟩,x.f.value⟩
def ZWr.ok (x : ZWr) : Prop := x.d.ok/\0<=x.c/\x.c<=3/\x.ln + spn x.c<=x.d.n/\x.p < spn x.c/\x.f.value.size<=400/\small x.d.st/\x.d.st + 10 < 1099511627776
noncomputable def ZWr.d' (x : ZWr) : DevM := if x.p = 0 then x.d.store x.ln 0 64 (x.draft.jC (fun _ => 0) (cpc x.c).toNat) else x.d.store (x.ln + x.p) 0 64 (fun q => x.blk.enc (64 * x.p + q))
def ZWr.fr (x : ZWr) (p : Int) : ZFr := { x.f with line := x.ln,cls := x.c,piece := p }
noncomputable def kR (k : Int) : Ctr := { X := ZWr,args := fun x => [.ptr 0 0,i64 x.t,(x.fr 0).av k 4 fJ],k := 3,os := fun x => [abn,YD,.abs (ownM x.d.os)],pre := fun x => Hd (x.ok/\x.p = 0),outs := [
 { Y := Unit,post := fun x _ => Hd (1 ≠ spn x.c),ret := fun x _ => (x.fr 1).av k 4 fJ,m := 3,os := fun x _ => [abn,YD,.abs (ownM x.d'.os)] },
 { Y := Unit,post := fun x _ => Hd (1 = spn x.c),ret := fun x _ => (x.fr 0).av k 5 fJ,m := 3,os := fun x _ => [abn,YD,.abs (ownM x.d'.os)] }] }
noncomputable def zW : Ctr := { X := ZWr,args := fun x => [.ptr 0 0,i64 x.t,(x.fr x.p).av 4 4 fJ],k := 3,os := fun x => [abn,YD,.abs (ownM x.d.os)],pre := fun x => Hd (x.ok/\x.p ≠ 0),outs := [
 { Y := Unit,post := fun x _ => Hd (x.p + 1 ≠ spn x.c),ret := fun x _ => (x.fr (x.p + 1)).av 4 4 fJ,m := 3,os := fun x _ => [abn,YD,.abs (ownM x.d'.os)] },
 { Y := Unit,post := fun x _ => Hd (x.p + 1 = spn x.c),ret := fun x _ => (x.fr 0).av 4 5 fJ,m := 3,os := fun x _ => [abn,YD,.abs (ownM x.d'.os)] }] }
structure ZRe where
 d : DevM
 t : Nat
 f : ZFr
 b : dN
 ln : Nat
 p : Nat
def ZRe.ok (x : ZRe) : Prop := x.d.ok/\x.b.may/\x.b.kind = 2/\x.ln + spn x.b.cls<=x.d.n/\x.p < spn x.b.cls/\∀ q,q < 64 * x.b.dA->x.d.b ((x.ln + q / 64) * 193 + q % 64) = x.b.enc q
def ZRe.fr (x : ZRe) (p : Int) : ZFr := { x.f with had := true,old := ⟨⟨#[]⟩,x.b.id,x.b.ver,x.ln,x.b.cls⟩,piece := p }
def ZRe.fr2 (x : ZRe) (p : Int) : ZFr := { x.fr p with ans := x.b.value }
noncomputable def Kv : Ctr := { X := ZRe,args := fun x => [.ptr 0 0,i64 x.t,(x.fr 0).av 5 2 fJ],k := 3,os := fun x => [abn,YD,.abs (ownM x.d.os)],pre := fun x => Hd (x.ok/\x.p = 0),outs := [
 { Y := Unit,post := fun x _ => Hd (1 ≠ spn x.b.cls),ret := fun x _ => (x.fr 1).av 5 2 (.slW 3 0 1 64),m := 4,os := fun x _ => [abn,YD,.abs (ownM x.d.os),Ir x.b.enc 64] },
 { Y := Unit,post := fun x _ => Hd (1 = spn x.b.cls/\x.f.line < 0),ret := fun x _ => (x.fr2 1).av 5 3 fJ,m := 3,os := fun x _ => [abn,YD,.abs (ownM x.d.os)] },
 { Y := Unit,post := fun x _ => Hd (1 = spn x.b.cls/\0<=x.f.line),ret := fun x _ => (x.fr2 1).av 5 5 fJ,m := 3,os := fun x _ => [abn,YD,.abs (ownM x.d.os)] }] }
noncomputable def Kw : Ctr := { X := ZRe,args := fun x => [.ptr 0 0,i64 x.t,(x.fr x.p).av 5 2 (.slW 3 0 1 (64 * x.p))],k := 4,os := fun x => [abn,YD,.abs (ownM x.d.os),Ir x.b.enc (64 * x.p)],pre := fun x => Hd (x.ok/\x.p ≠ 0),outs := [
 { Y := Unit,post := fun x _ => Hd (x.p + 1 ≠ spn x.b.cls),ret := fun x _ => (x.fr (x.p + 1)).av 5 2 (.slW 4 0 1 (64 * (x.p + 1))),m := 5,os := fun x _ => [abn,YD,.abs (ownM x.d.os),Ir x.b.enc (64 * x.p),Ir x.b.enc (64 * (x.p + 1))] },
 { Y := Unit,post := fun x _ => Hd (x.p + 1 = spn x.b.cls/\x.f.line < 0),ret := fun x _ => (x.fr2 (x.p + 1)).av 5 3 fJ,m := 4,os := fun x _ => [abn,YD,.abs (ownM x.d.os),Ir x.b.enc (64 * x.p)] },
 { Y := Unit,post := fun x _ => Hd (x.p + 1 = spn x.b.cls/\0<=x.f.line),ret := fun x _ => (x.fr2 (x.p + 1)).av 5 5 fJ,m := 4,os := fun x _ => [abn,YD,.abs (ownM x.d.os),Ir x.b.enc (64 * x.p)] }] }
structure ZDe where
 cls : Int
 id : Int
 ver : Int
 epoch : Int
 value : ByteArray
 g : Nat->Int
def ZDe.b (x : ZDe) : dN := ⟨x.cls,2,x.id,x.ver,x.epoch,⟨#[]⟩,x.value⟩
noncomputable def arM : Ctr := det ZDe (fun x => [.slW 0 0 1 (64 * x.b.dA)]) 1 (fun x => [Ir x.g (64 * x.b.dA)]) (fun x => Hd (x.b.may/\x.b.value.size < 1099511627776/\∀ k,k < 64 * x.b.dA->x.g k = x.b.enc k)) (fun x => .tup [x.b.av,boo true]) 1 (fun x => [Ir x.g (64 * x.b.dA)])
theorem apX : bU Tryz.prog 121 arM := oJ fun x hx => by
 have hx := aY.1 hx
 refine ⟨apo,arC,rfl,⟨x.b,x.g⟩,aY.2 ⟨hx.1,show 0 < 1099511627776 by decide,hx.2.1,hx.2.2⟩,rfl,rfl,fun v h' hh => ?_⟩
 obtain ⟨u,e1,e2,e3⟩ := kC hh
 exact eP ⟨u,trivial,e2,e3⟩
noncomputable def yV : WTbl := [(52,ai1)]
noncomputable def apY : WTbl := yV ++ [(199,ctrT Sm.ctr),(45,ctrT (Ns 0).ctr)]
noncomputable def arN : WTbl := yV ++ [(154,ctrT rG.ctr)]
noncomputable def apZ : WTbl := yV ++ [(201,apW),(202,ctrT ahb.ctr)]
noncomputable def amD : WTbl := yV ++ [(113,aiR),(63,ctrT FC),(62,ctrT EY.ctr)]
noncomputable def ap0 : WTbl := yV ++ [(211,ctrT Sr.ctr)]
noncomputable def ap1 : WTbl := yV ++ [(113,aiR),(121,ctrT arM),(181,ctrT ahq.ctr)]
end Go.Proofs.YtenfleoejgjklaaGreat
end
