/-
  CONDITIONS, printed by a program of this work (vcgen.py) off the given translation; the kernel checks each against the denotation.
-/
import Derived.Test.YtpcgkfgppfjnlaaGreatDoorMb
import Derived.Test.YtpcgkfgppfjnlaaGreatDoorProg
namespace Go.Proofs.YtpcgkfgppfjnlaaGreatDoor.V
open Go
set_option linter.unusedVariables false
theorem mixed : Tryz.prog.follows .mixedOrders = true := by kernel_rfl
/-- sortition/limb.Add -/
def limb_Add (p0 : Nat → Int) (p1 : Nat → Int) (w : World) (Q : Value → World → Prop) : Prop :=
  al w (.cells ((cellsA .u64 p0 0 4) : List Value).toArray 86) fun b2 w1 =>
  al w1 (.cells ((cellsA .u64 p1 0 4) : List Value).toArray 86) fun b3 w_1 =>
  al w_1 (.cells ((cellsA .u64 (fun _ => 0) 0 4) : List Value).toArray 86) fun b4 w_2 =>
  ∃ (I : Int → Int → World → Prop) (μ : Int → Int → World → Nat), (I 0 0 w_2) ∧
  ∀ x5 : Int, ∀ x7 : Int, ∀ (w_3 : World) (K : Int → Int → World → Prop), I x5 x7 w_3 →
    (∀ x5' : Int, ∀ x7' : Int, ∀ w' : World, I x5' x7' w' → μ x5' x7' w' < μ x5 x7 w_3 → K x5' x7' w') →
  br (decide ((x7 : Int) < 4))
    (dr w_3 fun w_4 =>
    ((0 : Int) ≤ x7 ∧ x7 < ((4 : Nat) : Int)) ∧
    rd (.int .u64) w_4 (Addr.add (⟨b2, 0, none⟩ : Addr) ((x7 : Int).toNat * 1)) 0 fun x14 =>
    ((0 : Int) ≤ x7 ∧ x7 < ((4 : Nat) : Int)) ∧
    rd (.int .u64) w_4 (Addr.add (⟨b3, 0, none⟩ : Addr) ((x7 : Int).toNat * 1)) 0 fun x17 =>
    extP Tryz.prog 82 #[(.int .u64 x14), (.int .u64 x17), (.int .u64 x5)] w_4 fun v =>
    ∃ r19 : Int, ∃ r19_1 : Int, v = .tuple #[(.int .u64 r19), (.int .u64 r19_1)] ∧
    ((0 : Int) ≤ x7 ∧ x7 < ((4 : Nat) : Int)) ∧
    wr w_4 (Addr.add (⟨b4, 0, none⟩ : Addr) ((x7 : Int).toNat * 1)) [(.int .u64 r19)] fun w_5 =>
    K r19_1 (IntKind.wrap .i64 (x7 + 1)) w_5)
    (rd (.arr .u64 4) w_3 (⟨b4, 0, none⟩ : Addr) 0 fun x24 =>
    wr w_3 (⟨b4, 0, none⟩ : Addr) (cellsA .u64 x24 0 4) fun w_4 =>
    rd (.arr .u64 4) w_4 (⟨b4, 0, none⟩ : Addr) 0 fun r4 =>
    Q (.tuple #[(arrV .u64 4 r4), (.int .u64 x5)]) w_4)
set_option maxRecDepth 100000 in
theorem limb_Add_ok {p0 : Nat → Int} {p1 : Nat → Int} {w : World} {Q : Value → World → Prop} (h : limb_Add p0 p1 w Q) : callP Tryz.prog 59 #[(arrV .u64 4 p0), (arrV .u64 4 p1)] w Q := by
  have e : limb_Add p0 p1 w Q = denF Tryz.prog ⟨[(2, [(5, false, [(.int .u64)]), (7, false, [(.int .i64)])], [2, 3, 4])], [], []⟩ Tryz.f59 [(arrV .u64 4 p0), (arrV .u64 4 p1)] w Q := by kernel_rfl
  exact denF_sound mixed Tryz.func59 (Eq.mp e h)

/-- sortition/limb.Cmp -/
def limb_Cmp (p0 : Nat → Int) (p1 : Nat → Int) (w : World) (Q : Value → World → Prop) : Prop :=
  al w (.cells ((cellsA .u64 p0 0 4) : List Value).toArray 86) fun b2 w1 =>
  al w1 (.cells ((cellsA .u64 p1 0 4) : List Value).toArray 86) fun b3 w_1 =>
  ∃ (I : Int → Int → World → Prop) (μ : Int → Int → World → Nat), (I 0 0 w_1) ∧
  ∀ x5 : Int, ∀ x8 : Int, ∀ (w_2 : World) (K : Int → Int → World → Prop), I x5 x8 w_2 →
    (∀ x5' : Int, ∀ x8' : Int, ∀ w' : World, I x5' x8' w' → μ x5' x8' w' < μ x5 x8 w_2 → K x5' x8' w') →
  br (decide ((x8 : Int) < 4))
    (dr w_2 fun w_3 =>
    ((0 : Int) ≤ (IntKind.wrap .i64 (3 - x8)) ∧ (IntKind.wrap .i64 (3 - x8)) < ((4 : Nat) : Int)) ∧
    rd (.int .u64) w_3 (Addr.add (⟨b2, 0, none⟩ : Addr) (((IntKind.wrap .i64 (3 - x8)) : Int).toNat * 1)) 0 fun x16 =>
    ((0 : Int) ≤ (IntKind.wrap .i64 (3 - x8)) ∧ (IntKind.wrap .i64 (3 - x8)) < ((4 : Nat) : Int)) ∧
    rd (.int .u64) w_3 (Addr.add (⟨b3, 0, none⟩ : Addr) (((IntKind.wrap .i64 (3 - x8)) : Int).toNat * 1)) 0 fun x19 =>
    br (decide ((x16 : Int) < x19))
      (Q (.int .i64 (-1 : Int)) w_3)
      (dr w_3 fun w_4 =>
      ((0 : Int) ≤ (IntKind.wrap .i64 (3 - x8)) ∧ (IntKind.wrap .i64 (3 - x8)) < ((4 : Nat) : Int)) ∧
      rd (.int .u64) w_4 (Addr.add (⟨b2, 0, none⟩ : Addr) (((IntKind.wrap .i64 (3 - x8)) : Int).toNat * 1)) 0 fun x24 =>
      ((0 : Int) ≤ (IntKind.wrap .i64 (3 - x8)) ∧ (IntKind.wrap .i64 (3 - x8)) < ((4 : Nat) : Int)) ∧
      rd (.int .u64) w_4 (Addr.add (⟨b3, 0, none⟩ : Addr) (((IntKind.wrap .i64 (3 - x8)) : Int).toNat * 1)) 0 fun x27 =>
      br (decide ((x24 : Int) > x27))
        (Q (.int .i64 1) w_4)
        (K x5 (IntKind.wrap .i64 (x8 + 1)) w_4)))
    (Q (.int .i64 x5) w_2)
set_option maxRecDepth 100000 in
theorem limb_Cmp_ok {p0 : Nat → Int} {p1 : Nat → Int} {w : World} {Q : Value → World → Prop} (h : limb_Cmp p0 p1 w Q) : callP Tryz.prog 36 #[(arrV .u64 4 p0), (arrV .u64 4 p1)] w Q := by
  have e : limb_Cmp p0 p1 w Q = denF Tryz.prog ⟨[(3, [(5, false, [(.int .i64)]), (8, false, [(.int .i64)])], [2, 3])], [], []⟩ Tryz.f36 [(arrV .u64 4 p0), (arrV .u64 4 p1)] w Q := by kernel_rfl
  exact denF_sound mixed Tryz.func36 (Eq.mp e h)

/-- sortition/limb.Mul -/
def limb_Mul (p0 : Nat → Int) (p1 : Nat → Int) (w : World) (Q : Value → World → Prop) : Prop :=
  al w (.cells ((cellsA .u64 p0 0 4) : List Value).toArray 86) fun b2 w1 =>
  al w1 (.cells ((cellsA .u64 p1 0 4) : List Value).toArray 86) fun b3 w_1 =>
  al w_1 (.cells ((cellsA .u64 (fun _ => 0) 0 8) : List Value).toArray 133) fun b4 w_2 =>
  al w_2 (.cells ((cellsA .u64 (fun _ => 0) 0 8) : List Value).toArray 133) fun b5 w_3 =>
  rd (.arr .u64 4) w_3 (⟨b2, 0, none⟩ : Addr) 0 fun x14 =>
  ∃ (I : Int → World → Prop) (μ : Int → World → Nat), (I 0 w_3) ∧
  ∀ x15 : Int, ∀ (w_4 : World) (K : Int → World → Prop), I x15 w_4 →
    (∀ x15' : Int, ∀ w' : World, I x15' w' → μ x15' w' < μ x15 w_4 → K x15' w') →
  br (decide ((x15 : Int) < 4))
    (((0 : Int) ≤ x15 ∧ x15 < ((4 : Nat) : Int)) ∧
    ∃ x18 : Int, ((cellsA .u64 x14 0 4) : List Value)[(x15 : Int).toNat]? = some (.int .u64 x18) ∧ rd (.arr .u64 4) w_4 (⟨b3, 0, none⟩ : Addr) 0 fun x19 =>
    ∃ (I_1 : Int → Int → World → Prop) (μ_1 : Int → Int → World → Nat), (I_1 0 0 w_4) ∧
    ∀ x8 : Int, ∀ x20 : Int, ∀ (w_5 : World) (K_1 : Int → Int → World → Prop), I_1 x8 x20 w_5 →
      (∀ x8' : Int, ∀ x20' : Int, ∀ w' : World, I_1 x8' x20' w' → μ_1 x8' x20' w' < μ_1 x8 x20 w_5 → K_1 x8' x20' w') →
    br (decide ((x20 : Int) < 4))
      (((0 : Int) ≤ x20 ∧ x20 < ((4 : Nat) : Int)) ∧
      ∃ x23 : Int, ((cellsA .u64 x19 0 4) : List Value)[(x20 : Int).toNat]? = some (.int .u64 x23) ∧ callP Tryz.prog 106 #[(.int .u64 x18), (.int .u64 x23)] w_5 fun v w_6 =>
      ∃ r27 : Int, ∃ r27_1 : Int, v = .tuple #[(.int .u64 r27), (.int .u64 r27_1)] ∧
      ((0 : Int) ≤ (IntKind.wrap .i64 (x15 + x20)) ∧ (IntKind.wrap .i64 (x15 + x20)) < ((8 : Nat) : Int)) ∧
      rd (.int .u64) w_6 (Addr.add (⟨b5, 0, none⟩ : Addr) (((IntKind.wrap .i64 (x15 + x20)) : Int).toNat * 1)) 0 fun x36 =>
      extP Tryz.prog 82 #[(.int .u64 r27_1), (.int .u64 x36), (.int .u64 0)] w_6 fun v_1 =>
      ∃ r37 : Int, ∃ r37_1 : Int, v_1 = .tuple #[(.int .u64 r37), (.int .u64 r37_1)] ∧
      extP Tryz.prog 82 #[(.int .u64 r37), (.int .u64 x8), (.int .u64 0)] w_6 fun v_2 =>
      ∃ r46 : Int, ∃ r46_1 : Int, v_2 = .tuple #[(.int .u64 r46), (.int .u64 r46_1)] ∧
      ((0 : Int) ≤ (IntKind.wrap .i64 (x15 + x20)) ∧ (IntKind.wrap .i64 (x15 + x20)) < ((8 : Nat) : Int)) ∧
      wr w_6 (Addr.add (⟨b5, 0, none⟩ : Addr) (((IntKind.wrap .i64 (x15 + x20)) : Int).toNat * 1)) [(.int .u64 r46)] fun w_7 =>
      K_1 (IntKind.wrap .u64 ((IntKind.wrap .u64 (r27 + r37_1)) + r46_1)) (IntKind.wrap .i64 (x20 + 1)) w_7)
      (((0 : Int) ≤ (IntKind.wrap .i64 (x15 + 4)) ∧ (IntKind.wrap .i64 (x15 + 4)) < ((8 : Nat) : Int)) ∧
      wr w_5 (Addr.add (⟨b5, 0, none⟩ : Addr) (((IntKind.wrap .i64 (x15 + 4)) : Int).toNat * 1)) [(.int .u64 x8)] fun w_6 =>
      K (IntKind.wrap .i64 (x15 + 1)) w_6))
    (rd (.arr .u64 8) w_4 (⟨b5, 0, none⟩ : Addr) 0 fun x63 =>
    wr w_4 (⟨b4, 0, none⟩ : Addr) (cellsA .u64 x63 0 8) fun w_5 =>
    rd (.arr .u64 8) w_5 (⟨b4, 0, none⟩ : Addr) 0 fun r4 =>
    Q (arrV .u64 8 r4) w_5)
set_option maxRecDepth 100000 in
theorem limb_Mul_ok {p0 : Nat → Int} {p1 : Nat → Int} {w : World} {Q : Value → World → Prop} (h : limb_Mul p0 p1 w Q) : callP Tryz.prog 77 #[(arrV .u64 4 p0), (arrV .u64 4 p1)] w Q := by
  have e : limb_Mul p0 p1 w Q = denF Tryz.prog ⟨[(3, [(15, false, [(.int .i64)])], [3, 4, 5, 14]), (7, [(8, false, [(.int .u64)]), (20, false, [(.int .i64)])], [3, 4, 5, 6, 7, 14, 15, 19])], [], []⟩ Tryz.f77 [(arrV .u64 4 p0), (arrV .u64 4 p1)] w Q := by kernel_rfl
  exact denF_sound mixed Tryz.func77 (Eq.mp e h)

/-- sortition/limb.Of -/
def limb_Of (p0 : Sl) (w : World) (Q : Value → World → Prop) : Prop :=
  al w (.cells ((cellsA .u64 (fun _ => 0) 0 4) : List Value).toArray 86) fun b2 w1 =>
  al w1 (.cells ((cellsA .u64 (fun _ => 0) 0 4) : List Value).toArray 86) fun b4 w_1 =>
  br (decide ((((p0.len : Nat) : Int) : Int) > 32))
    (rd (.arr .u64 4) w_1 (⟨b4, 0, none⟩ : Addr) 0 fun x11 =>
    wr w_1 (⟨b2, 0, none⟩ : Addr) (cellsA .u64 x11 0 4) fun w_2 =>
    rd (.arr .u64 4) w_2 (⟨b2, 0, none⟩ : Addr) 0 fun r2 =>
    Q (.tuple #[(arrV .u64 4 r2), (.int .i64 2)]) w_2)
    (∃ (I : Int → World → Prop) (μ : Int → World → Nat), (I 0 w_1) ∧
    ∀ x14 : Int, ∀ (w_2 : World) (K : Int → World → Prop), I x14 w_2 →
      (∀ x14' : Int, ∀ w' : World, I x14' w' → μ x14' w' < μ x14 w_2 → K x14' w') →
    br (decide ((x14 : Int) < ((p0.len : Nat) : Int)))
      (((0 : Int) ≤ x14 ∧ x14 < ((p0.len : Nat) : Int)) ∧
      nn p0.p fun a17 =>
      rd (.int .u8) w_2 (Addr.add a17 ((x14 : Int).toNat * 1)) 0 fun x18 =>
      dr w_2 fun w_3 =>
      (8 : Int) ≠ 0 ∧
      ((0 : Int) ≤ (IntKind.wrap .i64 (Int.tdiv (IntKind.wrap .i64 ((IntKind.wrap .i64 (((p0.len : Nat) : Int) - 1)) - x14)) 8)) ∧ (IntKind.wrap .i64 (Int.tdiv (IntKind.wrap .i64 ((IntKind.wrap .i64 (((p0.len : Nat) : Int) - 1)) - x14)) 8)) < ((4 : Nat) : Int)) ∧
      rd (.int .u64) w_3 (Addr.add (⟨b4, 0, none⟩ : Addr) (((IntKind.wrap .i64 (Int.tdiv (IntKind.wrap .i64 ((IntKind.wrap .i64 (((p0.len : Nat) : Int) - 1)) - x14)) 8)) : Int).toNat * 1)) 0 fun x27 =>
      (8 : Int) ≠ 0 ∧
      (0 : Int) ≤ (IntKind.wrap .i64 (8 * (Int.tmod (IntKind.wrap .i64 ((IntKind.wrap .i64 (((p0.len : Nat) : Int) - 1)) - x14)) 8))) ∧
      ((0 : Int) ≤ (IntKind.wrap .i64 (Int.tdiv (IntKind.wrap .i64 ((IntKind.wrap .i64 (((p0.len : Nat) : Int) - 1)) - x14)) 8)) ∧ (IntKind.wrap .i64 (Int.tdiv (IntKind.wrap .i64 ((IntKind.wrap .i64 (((p0.len : Nat) : Int) - 1)) - x14)) 8)) < ((4 : Nat) : Int)) ∧
      wr w_3 (Addr.add (⟨b4, 0, none⟩ : Addr) (((IntKind.wrap .i64 (Int.tdiv (IntKind.wrap .i64 ((IntKind.wrap .i64 (((p0.len : Nat) : Int) - 1)) - x14)) 8)) : Int).toNat * 1)) [(.int .u64 (ior .u64 x27 (ishl .u64 (IntKind.wrap .u64 x18) (IntKind.wrap .i64 (8 * (Int.tmod (IntKind.wrap .i64 ((IntKind.wrap .i64 (((p0.len : Nat) : Int) - 1)) - x14)) 8))))))] fun w_4 =>
      K (IntKind.wrap .i64 (x14 + 1)) w_4)
      (rd (.arr .u64 4) w_2 (⟨b4, 0, none⟩ : Addr) 0 fun x37 =>
      wr w_2 (⟨b2, 0, none⟩ : Addr) (cellsA .u64 x37 0 4) fun w_3 =>
      rd (.arr .u64 4) w_3 (⟨b2, 0, none⟩ : Addr) 0 fun r2 =>
      Q (.tuple #[(arrV .u64 4 r2), (.int .i64 0)]) w_3))
set_option maxRecDepth 100000 in
theorem limb_Of_ok {p0 : Sl} {w : World} {Q : Value → World → Prop} (h : limb_Of p0 w Q) : callP Tryz.prog 61 #[(.slice p0.p p0.len p0.cap)] w Q := by
  have e : limb_Of p0 w Q = denF Tryz.prog ⟨[(5, [(14, false, [(.int .i64)])], [0, 2, 4, 12, 13])], [], []⟩ Tryz.f61 [(.slice p0.p p0.len p0.cap)] w Q := by kernel_rfl
  exact denF_sound mixed Tryz.func61 (Eq.mp e h)

/-- sortition/limb.Bytes -/
def limb_Bytes (p0 : Nat → Int) (w : World) (Q : Value → World → Prop) : Prop :=
  al w (.cells ((cellsA .u64 p0 0 4) : List Value).toArray 86) fun b1 w1 =>
  mkslP Tryz.prog 5 w1 32 32 fun s6 w_1 =>
  ∃ (I : Int → World → Prop) (μ : Int → World → Nat), (I 0 w_1) ∧
  ∀ x9 : Int, ∀ (w_2 : World) (K : Int → World → Prop), I x9 w_2 →
    (∀ x9' : Int, ∀ w' : World, I x9' w' → μ x9' w' < μ x9 w_2 → K x9' w') →
  br (decide ((x9 : Int) < ((s6.len : Nat) : Int)))
    ((8 : Int) ≠ 0 ∧
    ((0 : Int) ≤ (IntKind.wrap .i64 (Int.tdiv x9 8)) ∧ (IntKind.wrap .i64 (Int.tdiv x9 8)) < ((4 : Nat) : Int)) ∧
    rd (.int .u64) w_2 (Addr.add (⟨b1, 0, none⟩ : Addr) (((IntKind.wrap .i64 (Int.tdiv x9 8)) : Int).toNat * 1)) 0 fun x22 =>
    (8 : Int) ≠ 0 ∧
    (0 : Int) ≤ (IntKind.wrap .i64 (8 * (Int.tmod x9 8))) ∧
    ((0 : Int) ≤ (IntKind.wrap .i64 ((IntKind.wrap .i64 (((s6.len : Nat) : Int) - 1)) - x9)) ∧ (IntKind.wrap .i64 ((IntKind.wrap .i64 (((s6.len : Nat) : Int) - 1)) - x9)) < ((s6.len : Nat) : Int)) ∧
    nn s6.p fun a28 =>
    wr w_2 (Addr.add a28 (((IntKind.wrap .i64 ((IntKind.wrap .i64 (((s6.len : Nat) : Int) - 1)) - x9)) : Int).toNat * 1)) [(.int .u8 (IntKind.wrap .u8 (ishr .u64 x22 (IntKind.wrap .i64 (8 * (Int.tmod x9 8))))))] fun w_3 =>
    K (IntKind.wrap .i64 (x9 + 1)) w_3)
    (Q (.slice s6.p s6.len s6.cap) w_2)
set_option maxRecDepth 100000 in
theorem limb_Bytes_ok {p0 : Nat → Int} {w : World} {Q : Value → World → Prop} (h : limb_Bytes p0 w Q) : callP Tryz.prog 84 #[(arrV .u64 4 p0)] w Q := by
  have e : limb_Bytes p0 w Q = denF Tryz.prog ⟨[(3, [(9, false, [(.int .i64)])], [1, 3, 8])], [], []⟩ Tryz.f84 [(arrV .u64 4 p0)] w Q := by kernel_rfl
  exact denF_sound mixed Tryz.func84 (Eq.mp e h)

/-- sortition/portion.Total -/
def portion_Total (p0 : Sl) (w : World) (Q : Value → World → Prop) : Prop :=
  al w (.cells ((cellsA .u64 (fun _ => 0) 0 4) : List Value).toArray 86) fun b2 w1 =>
  al w1 (.cells ((cellsA .u64 (fun _ => 0) 0 4) : List Value).toArray 86) fun b3 w_1 =>
  ∃ (I : Int → World → Prop) (μ : Int → World → Nat), (I 0 w_1) ∧
  ∀ x8 : Int, ∀ (w_2 : World) (K : Int → World → Prop), I x8 w_2 →
    (∀ x8' : Int, ∀ w' : World, I x8' w' → μ x8' w' < μ x8 w_2 → K x8' w') →
  br (decide ((x8 : Int) < ((p0.len : Nat) : Int)))
    (((0 : Int) ≤ x8 ∧ x8 < ((p0.len : Nat) : Int)) ∧
    nn p0.p fun a10 =>
    rd (.int .u64) w_2 (Addr.add a10 ((x8 : Int).toNat * 1)) 0 fun x11 =>
    rd (.arr .u64 4) w_2 (⟨b3, 0, none⟩ : Addr) 0 fun x13 =>
    callP Tryz.prog 59 #[(arrV .u64 4 x13), (.agg #[(.int .u64 x11), (.int .u64 0), (.int .u64 0), (.int .u64 0)])] w_2 fun v w_3 =>
    ∃ r16 : Nat → Int, ∃ r16_1 : Int, v = .tuple #[(arrV .u64 4 r16), (.int .u64 r16_1)] ∧
    wr w_3 (⟨b3, 0, none⟩ : Addr) (cellsA .u64 r16 0 4) fun w_4 =>
    K (IntKind.wrap .i64 (x8 + 1)) w_4)
    (rd (.arr .u64 4) w_2 (⟨b3, 0, none⟩ : Addr) 0 fun x20 =>
    wr w_2 (⟨b2, 0, none⟩ : Addr) (cellsA .u64 x20 0 4) fun w_3 =>
    rd (.arr .u64 4) w_3 (⟨b2, 0, none⟩ : Addr) 0 fun r2 =>
    Q (arrV .u64 4 r2) w_3)
set_option maxRecDepth 100000 in
theorem portion_Total_ok {p0 : Sl} {w : World} {Q : Value → World → Prop} (h : portion_Total p0 w Q) : callP Tryz.prog 35 #[(.slice p0.p p0.len p0.cap)] w Q := by
  have e : portion_Total p0 w Q = denF Tryz.prog ⟨[(3, [(8, false, [(.int .i64)])], [2, 3, 6, 7])], [], []⟩ Tryz.f35 [(.slice p0.p p0.len p0.cap)] w Q := by kernel_rfl
  exact denF_sound mixed Tryz.func35 (Eq.mp e h)

/-- sortition/votes.More -/
def votes_More (p0 : Int) (p1 : Int) (w : World) (Q : Value → World → Prop) : Prop :=
  callP Tryz.prog 77 #[(.agg #[(.int .u64 p0), (.int .u64 0), (.int .u64 0), (.int .u64 0)]), (.agg #[(.int .u64 3), (.int .u64 0), (.int .u64 0), (.int .u64 0)])] w fun v w1 =>
  ∃ r9 : Nat → Int, v = (arrV .u64 8 r9) ∧
  al w1 (.cells ((cellsA .u64 (fun _ => 0) 0 8) : List Value).toArray 133) fun b5 w_1 =>
  wr w_1 (⟨b5, 0, none⟩ : Addr) (cellsA .u64 r9 0 8) fun w_2 =>
  ((0 : Int) ≤ 4 ∧ 4 ≤ ((8 : Nat) : Int)) ∧
  4 ≤ ((4 : Int).toNat) ∧
  nn (cutAt (some ⟨b5, 0, none⟩) 8 0 1) fun a =>
  rd (.arr .u64 4) w_2 a 0 fun x12 =>
  callP Tryz.prog 36 #[(arrV .u64 4 x12), (.agg #[(.int .u64 p1), (.int .u64 0), (.int .u64 0), (.int .u64 0)])] w_2 fun v_1 w_3 =>
  ∃ r15 : Int, v_1 = (.int .i64 r15) ∧
  Q (.bool (decide ((r15 : Int) > 0))) w_3
set_option maxRecDepth 100000 in
theorem votes_More_ok {p0 : Int} {p1 : Int} {w : World} {Q : Value → World → Prop} (h : votes_More p0 p1 w Q) : callP Tryz.prog 55 #[(.int .u64 p0), (.int .u64 p1)] w Q := by
  have e : votes_More p0 p1 w Q = denF Tryz.prog ⟨[], [], []⟩ Tryz.f55 [(.int .u64 p0), (.int .u64 p1)] w Q := by kernel_rfl
  exact denF_sound mixed Tryz.func55 (Eq.mp e h)

/-- sortition/digest.number -/
def digest_number (p0 : Int) (w : World) (Q : Value → World → Prop) : Prop :=
  callP Tryz.prog 84 #[(.agg #[(.int .u64 p0), (.int .u64 0), (.int .u64 0), (.int .u64 0)])] w fun v w1 =>
  ∃ r5 : Sl, v = (.slice r5.p r5.len r5.cap) ∧
  ((0 : Int) ≤ 24 ∧ 24 ≤ ((r5.len : Nat) : Int)) ∧
  Q (.slice (cutAt r5.p r5.cap ((24 : Int).toNat) 1) (r5.len - ((24 : Int).toNat)) (r5.cap - ((24 : Int).toNat))) w1
set_option maxRecDepth 100000 in
theorem digest_number_ok {p0 : Int} {w : World} {Q : Value → World → Prop} (h : digest_number p0 w Q) : callP Tryz.prog 69 #[(.int .u64 p0)] w Q := by
  have e : digest_number p0 w Q = denF Tryz.prog ⟨[], [], []⟩ Tryz.f69 [(.int .u64 p0)] w Q := by kernel_rfl
  exact denF_sound mixed Tryz.func69 (Eq.mp e h)

/-- sortition/sha.moved -/
def sha_moved (p0 : Int) (p1 : Int) (p2 : Int) (p3 : Int) (w : World) (Q : Value → World → Prop) : Prop :=
  dr w fun w1 =>
  (0 : Int) ≤ p3 ∧
  callP Tryz.prog 119 #[(.int .u32 p0), (.int .i64 (IntKind.wrap .i64 (0 - p1)))] w1 fun v w_1 =>
  ∃ r12 : Int, v = (.int .u32 r12) ∧
  callP Tryz.prog 119 #[(.int .u32 p0), (.int .i64 (IntKind.wrap .i64 (0 - p2)))] w_1 fun v_1 w_2 =>
  ∃ r16 : Int, v_1 = (.int .u32 r16) ∧
  Q (.int .u32 (ixor .u32 (ixor .u32 r12 r16) (ishr .u32 p0 p3))) w_2
set_option maxRecDepth 100000 in
theorem sha_moved_ok {p0 : Int} {p1 : Int} {p2 : Int} {p3 : Int} {w : World} {Q : Value → World → Prop} (h : sha_moved p0 p1 p2 p3 w Q) : callP Tryz.prog 108 #[(.int .u32 p0), (.int .i64 p1), (.int .i64 p2), (.int .i64 p3)] w Q := by
  have e : sha_moved p0 p1 p2 p3 w Q = denF Tryz.prog ⟨[], [], []⟩ Tryz.f108 [(.int .u32 p0), (.int .i64 p1), (.int .i64 p2), (.int .i64 p3)] w Q := by kernel_rfl
  exact denF_sound mixed Tryz.func108 (Eq.mp e h)

/-- sortition/sha.turned -/
def sha_turned (p0 : Int) (p1 : Int) (p2 : Int) (p3 : Int) (w : World) (Q : Value → World → Prop) : Prop :=
  callP Tryz.prog 119 #[(.int .u32 p0), (.int .i64 (IntKind.wrap .i64 (0 - p1)))] w fun v w1 =>
  ∃ r12 : Int, v = (.int .u32 r12) ∧
  callP Tryz.prog 119 #[(.int .u32 p0), (.int .i64 (IntKind.wrap .i64 (0 - p2)))] w1 fun v_1 w_1 =>
  ∃ r16 : Int, v_1 = (.int .u32 r16) ∧
  callP Tryz.prog 119 #[(.int .u32 p0), (.int .i64 (IntKind.wrap .i64 (0 - p3)))] w_1 fun v_2 w_2 =>
  ∃ r21 : Int, v_2 = (.int .u32 r21) ∧
  Q (.int .u32 (ixor .u32 (ixor .u32 r12 r16) r21)) w_2
set_option maxRecDepth 100000 in
theorem sha_turned_ok {p0 : Int} {p1 : Int} {p2 : Int} {p3 : Int} {w : World} {Q : Value → World → Prop} (h : sha_turned p0 p1 p2 p3 w Q) : callP Tryz.prog 109 #[(.int .u32 p0), (.int .i64 p1), (.int .i64 p2), (.int .i64 p3)] w Q := by
  have e : sha_turned p0 p1 p2 p3 w Q = denF Tryz.prog ⟨[], [], []⟩ Tryz.f109 [(.int .u32 p0), (.int .i64 p1), (.int .i64 p2), (.int .i64 p3)] w Q := by kernel_rfl
  exact denF_sound mixed Tryz.func109 (Eq.mp e h)

/-- (*sortition/sha.Hash).press -/
def sha_Hash_press (p0 : Option Addr) (w : World) (Q : Value → World → Prop) : Prop :=
  al w (.cells ((cellsA .u32 (fun _ => 0) 0 64) : List Value).toArray 163) fun b2 w1 =>
  ∃ (I : Int → World → Prop) (μ : Int → World → Nat), (I 0 w1) ∧
  ∀ x18 : Int, ∀ (w_1 : World) (K : Int → World → Prop), I x18 w_1 →
    (∀ x18' : Int, ∀ w' : World, I x18' w' → μ x18' w' < μ x18 w_1 → K x18' w') →
  br (decide ((x18 : Int) < 64))
    (br (decide ((x18 : Int) < 16))
      (dr w_1 fun w_2 =>
      nn p0 fun a27 =>
      ((0 : Int) ≤ (IntKind.wrap .i64 (4 * x18)) ∧ (IntKind.wrap .i64 (4 * x18)) < ((64 : Nat) : Int)) ∧
      rd (.int .u8) w_2 (Addr.add (Addr.add a27 8) (((IntKind.wrap .i64 (4 * x18)) : Int).toNat * 1)) 0 fun x30 =>
      (0 : Int) ≤ 24 ∧
      nn p0 fun a37 =>
      ((0 : Int) ≤ (IntKind.wrap .i64 ((IntKind.wrap .i64 (4 * x18)) + 1)) ∧ (IntKind.wrap .i64 ((IntKind.wrap .i64 (4 * x18)) + 1)) < ((64 : Nat) : Int)) ∧
      rd (.int .u8) w_2 (Addr.add (Addr.add a37 8) (((IntKind.wrap .i64 ((IntKind.wrap .i64 (4 * x18)) + 1)) : Int).toNat * 1)) 0 fun x40 =>
      (0 : Int) ≤ 16 ∧
      nn p0 fun a48 =>
      ((0 : Int) ≤ (IntKind.wrap .i64 ((IntKind.wrap .i64 (4 * x18)) + 2)) ∧ (IntKind.wrap .i64 ((IntKind.wrap .i64 (4 * x18)) + 2)) < ((64 : Nat) : Int)) ∧
      rd (.int .u8) w_2 (Addr.add (Addr.add a48 8) (((IntKind.wrap .i64 ((IntKind.wrap .i64 (4 * x18)) + 2)) : Int).toNat * 1)) 0 fun x51 =>
      (0 : Int) ≤ 8 ∧
      nn p0 fun a59 =>
      ((0 : Int) ≤ (IntKind.wrap .i64 ((IntKind.wrap .i64 (4 * x18)) + 3)) ∧ (IntKind.wrap .i64 ((IntKind.wrap .i64 (4 * x18)) + 3)) < ((64 : Nat) : Int)) ∧
      rd (.int .u8) w_2 (Addr.add (Addr.add a59 8) (((IntKind.wrap .i64 ((IntKind.wrap .i64 (4 * x18)) + 3)) : Int).toNat * 1)) 0 fun x62 =>
      ((0 : Int) ≤ x18 ∧ x18 < ((64 : Nat) : Int)) ∧
      wr w_2 (Addr.add (⟨b2, 0, none⟩ : Addr) ((x18 : Int).toNat * 1)) [(.int .u32 (ior .u32 (ior .u32 (ior .u32 (ishl .u32 (IntKind.wrap .u32 x30) 24) (ishl .u32 (IntKind.wrap .u32 x40) 16)) (ishl .u32 (IntKind.wrap .u32 x51) 8)) (IntKind.wrap .u32 x62)))] fun w_3 =>
      K (IntKind.wrap .i64 (x18 + 1)) w_3)
      (dr w_1 fun w_2 =>
      ((0 : Int) ≤ (IntKind.wrap .i64 (x18 - 16)) ∧ (IntKind.wrap .i64 (x18 - 16)) < ((64 : Nat) : Int)) ∧
      rd (.int .u32) w_2 (Addr.add (⟨b2, 0, none⟩ : Addr) (((IntKind.wrap .i64 (x18 - 16)) : Int).toNat * 1)) 0 fun x70 =>
      ((0 : Int) ≤ (IntKind.wrap .i64 (x18 - 7)) ∧ (IntKind.wrap .i64 (x18 - 7)) < ((64 : Nat) : Int)) ∧
      rd (.int .u32) w_2 (Addr.add (⟨b2, 0, none⟩ : Addr) (((IntKind.wrap .i64 (x18 - 7)) : Int).toNat * 1)) 0 fun x74 =>
      ((0 : Int) ≤ (IntKind.wrap .i64 (x18 - 15)) ∧ (IntKind.wrap .i64 (x18 - 15)) < ((64 : Nat) : Int)) ∧
      rd (.int .u32) w_2 (Addr.add (⟨b2, 0, none⟩ : Addr) (((IntKind.wrap .i64 (x18 - 15)) : Int).toNat * 1)) 0 fun x79 =>
      ((0 : Int) ≤ (IntKind.wrap .i64 (x18 - 2)) ∧ (IntKind.wrap .i64 (x18 - 2)) < ((64 : Nat) : Int)) ∧
      rd (.int .u32) w_2 (Addr.add (⟨b2, 0, none⟩ : Addr) (((IntKind.wrap .i64 (x18 - 2)) : Int).toNat * 1)) 0 fun x85 =>
      callP Tryz.prog 108 #[(.int .u32 x79), (.int .i64 7), (.int .i64 18), (.int .i64 3)] w_2 fun v w_3 =>
      ∃ r80 : Int, v = (.int .u32 r80) ∧
      atC w_3 (Addr.add (⟨b2, 0, none⟩ : Addr) (((IntKind.wrap .i64 (x18 - 2)) : Int).toNat * 1)) 0 [(.int .u32 x85)] ∧
      atC w_3 (Addr.add (⟨b2, 0, none⟩ : Addr) (((IntKind.wrap .i64 (x18 - 7)) : Int).toNat * 1)) 0 [(.int .u32 x74)] ∧
      atC w_3 (Addr.add (⟨b2, 0, none⟩ : Addr) (((IntKind.wrap .i64 (x18 - 16)) : Int).toNat * 1)) 0 [(.int .u32 x70)] ∧
      callP Tryz.prog 108 #[(.int .u32 x85), (.int .i64 17), (.int .i64 19), (.int .i64 10)] w_3 fun v_1 w_4 =>
      ∃ r86 : Int, v_1 = (.int .u32 r86) ∧
      atC w_4 (Addr.add (⟨b2, 0, none⟩ : Addr) (((IntKind.wrap .i64 (x18 - 7)) : Int).toNat * 1)) 0 [(.int .u32 x74)] ∧
      atC w_4 (Addr.add (⟨b2, 0, none⟩ : Addr) (((IntKind.wrap .i64 (x18 - 16)) : Int).toNat * 1)) 0 [(.int .u32 x70)] ∧
      ((0 : Int) ≤ x18 ∧ x18 < ((64 : Nat) : Int)) ∧
      wr w_4 (Addr.add (⟨b2, 0, none⟩ : Addr) ((x18 : Int).toNat * 1)) [(.int .u32 (IntKind.wrap .u32 ((IntKind.wrap .u32 ((IntKind.wrap .u32 (x70 + x74)) + r80)) + r86)))] fun w_5 =>
      K (IntKind.wrap .i64 (x18 + 1)) w_5))
    (callP Tryz.prog 86 #[(.pointer p0)] w_1 fun v w_2 =>
    ∃ r91 : Nat → Int, v = (arrV .u32 8 r91) ∧
    al w_2 (.cells ((cellsA .u32 (fun _ => 0) 0 8) : List Value).toArray 138) fun b4 w_3 =>
    wr w_3 (⟨b4, 0, none⟩ : Addr) (cellsA .u32 r91 0 8) fun w_4 =>
    dr w_4 fun w_5 =>
    ((0 : Int) ≤ 0 ∧ 0 < ((8 : Nat) : Int)) ∧
    rd (.int .u32) w_5 (Addr.add (⟨b4, 0, none⟩ : Addr) ((0 : Int).toNat * 1)) 0 fun x93 =>
    ((0 : Int) ≤ 1 ∧ 1 < ((8 : Nat) : Int)) ∧
    rd (.int .u32) w_5 (Addr.add (⟨b4, 0, none⟩ : Addr) ((1 : Int).toNat * 1)) 0 fun x95 =>
    ((0 : Int) ≤ 2 ∧ 2 < ((8 : Nat) : Int)) ∧
    rd (.int .u32) w_5 (Addr.add (⟨b4, 0, none⟩ : Addr) ((2 : Int).toNat * 1)) 0 fun x97 =>
    ((0 : Int) ≤ 3 ∧ 3 < ((8 : Nat) : Int)) ∧
    rd (.int .u32) w_5 (Addr.add (⟨b4, 0, none⟩ : Addr) ((3 : Int).toNat * 1)) 0 fun x99 =>
    ((0 : Int) ≤ 4 ∧ 4 < ((8 : Nat) : Int)) ∧
    rd (.int .u32) w_5 (Addr.add (⟨b4, 0, none⟩ : Addr) ((4 : Int).toNat * 1)) 0 fun x101 =>
    ((0 : Int) ≤ 5 ∧ 5 < ((8 : Nat) : Int)) ∧
    rd (.int .u32) w_5 (Addr.add (⟨b4, 0, none⟩ : Addr) ((5 : Int).toNat * 1)) 0 fun x103 =>
    ((0 : Int) ≤ 6 ∧ 6 < ((8 : Nat) : Int)) ∧
    rd (.int .u32) w_5 (Addr.add (⟨b4, 0, none⟩ : Addr) ((6 : Int).toNat * 1)) 0 fun x105 =>
    ((0 : Int) ≤ 7 ∧ 7 < ((8 : Nat) : Int)) ∧
    rd (.int .u32) w_5 (Addr.add (⟨b4, 0, none⟩ : Addr) ((7 : Int).toNat * 1)) 0 fun x107 =>
    ∃ (I_1 : Int → Int → Int → Int → Int → Int → Int → Int → Int → World → Prop) (μ_1 : Int → Int → Int → Int → Int → Int → Int → Int → Int → World → Nat), (I_1 x93 x95 x97 x99 x101 x103 x105 x107 0 w_5) ∧
    ∀ x5 : Int, ∀ x6 : Int, ∀ x7 : Int, ∀ x8 : Int, ∀ x9 : Int, ∀ x10 : Int, ∀ x11 : Int, ∀ x12 : Int, ∀ x108 : Int, ∀ (w_6 : World) (K_1 : Int → Int → Int → Int → Int → Int → Int → Int → Int → World → Prop), I_1 x5 x6 x7 x8 x9 x10 x11 x12 x108 w_6 →
      (∀ x5' : Int, ∀ x6' : Int, ∀ x7' : Int, ∀ x8' : Int, ∀ x9' : Int, ∀ x10' : Int, ∀ x11' : Int, ∀ x12' : Int, ∀ x108' : Int, ∀ w' : World, I_1 x5' x6' x7' x8' x9' x10' x11' x12' x108' w' → μ_1 x5' x6' x7' x8' x9' x10' x11' x12' x108' w' < μ_1 x5 x6 x7 x8 x9 x10 x11 x12 x108 w_6 → K_1 x5' x6' x7' x8' x9' x10' x11' x12' x108' w') →
    br (decide ((x108 : Int) < 64))
      (dr w_6 fun w_7 =>
      ((0 : Int) ≤ x108 ∧ x108 < ((64 : Nat) : Int)) ∧
      rd (.int .u32) w_7 (Addr.add (⟨2, 0, none⟩ : Addr) ((x108 : Int).toNat * 1)) 0 fun x125 =>
      ((0 : Int) ≤ x108 ∧ x108 < ((64 : Nat) : Int)) ∧
      rd (.int .u32) w_7 (Addr.add (⟨b2, 0, none⟩ : Addr) ((x108 : Int).toNat * 1)) 0 fun x129 =>
      callP Tryz.prog 109 #[(.int .u32 x9), (.int .i64 6), (.int .i64 11), (.int .i64 25)] w_7 fun v_1 w_8 =>
      ∃ r113 : Int, v_1 = (.int .u32 r113) ∧
      atC w_8 (Addr.add (⟨b2, 0, none⟩ : Addr) ((x108 : Int).toNat * 1)) 0 [(.int .u32 x129)] ∧
      atC w_8 (Addr.add (⟨2, 0, none⟩ : Addr) ((x108 : Int).toNat * 1)) 0 [(.int .u32 x125)] ∧
      callP Tryz.prog 109 #[(.int .u32 x5), (.int .i64 2), (.int .i64 13), (.int .i64 22)] w_8 fun v_2 w_9 =>
      ∃ r132 : Int, v_2 = (.int .u32 r132) ∧
      K_1 (IntKind.wrap .u32 ((IntKind.wrap .u32 ((IntKind.wrap .u32 ((IntKind.wrap .u32 ((IntKind.wrap .u32 (x12 + r113)) + (ixor .u32 x11 (iand .u32 x9 (ixor .u32 x10 x11))))) + x125)) + x129)) + (IntKind.wrap .u32 (r132 + (ior .u32 (iand .u32 x5 x6) (iand .u32 x7 (ior .u32 x5 x6))))))) x5 x6 x7 (IntKind.wrap .u32 (x8 + (IntKind.wrap .u32 ((IntKind.wrap .u32 ((IntKind.wrap .u32 ((IntKind.wrap .u32 (x12 + r113)) + (ixor .u32 x11 (iand .u32 x9 (ixor .u32 x10 x11))))) + x125)) + x129)))) x9 x10 x11 (IntKind.wrap .i64 (x108 + 1)) w_9)
      (∃ (I_2 : Int → World → Prop) (μ_2 : Int → World → Nat), (I_2 0 w_6) ∧
      ∀ x165 : Int, ∀ (w_7 : World) (K_2 : Int → World → Prop), I_2 x165 w_7 →
        (∀ x165' : Int, ∀ w' : World, I_2 x165' w' → μ_2 x165' w' < μ_2 x165 w_7 → K_2 x165' w') →
      br (decide ((x165 : Int) < 8))
        (((0 : Int) ≤ x165 ∧ x165 < ((8 : Nat) : Int)) ∧
        ∃ x168 : Int, ([(.int .u32 x5), (.int .u32 x6), (.int .u32 x7), (.int .u32 x8), (.int .u32 x9), (.int .u32 x10), (.int .u32 x11), (.int .u32 x12)] : List Value)[(x165 : Int).toNat]? = some (.int .u32 x168) ∧ dr w_7 fun w_8 =>
        ((0 : Int) ≤ x165 ∧ x165 < ((8 : Nat) : Int)) ∧
        rd (.int .u32) w_8 (Addr.add (⟨b4, 0, none⟩ : Addr) ((x165 : Int).toNat * 1)) 0 fun x173 =>
        ((0 : Int) ≤ x165 ∧ x165 < ((8 : Nat) : Int)) ∧
        rd (.int .u32) w_8 (Addr.add (⟨3, 0, none⟩ : Addr) ((x165 : Int).toNat * 1)) 0 fun x178 =>
        nn p0 fun a180 =>
        ((0 : Int) ≤ x165 ∧ x165 < ((8 : Nat) : Int)) ∧
        wr w_8 (Addr.add a180 ((x165 : Int).toNat * 1)) [(.int .u32 (ixor .u32 (IntKind.wrap .u32 (x173 + x168)) x178))] fun w_9 =>
        K_2 (IntKind.wrap .i64 (x165 + 1)) w_9)
        (Q (.tuple #[]) w_7)))
set_option maxRecDepth 100000 in
theorem sha_Hash_press_ok {p0 : Option Addr} {w : World} {Q : Value → World → Prop} (h : sha_Hash_press p0 w Q) : callP Tryz.prog 83 #[(.pointer p0)] w Q := by
  have e : sha_Hash_press p0 w Q = denF Tryz.prog ⟨[(2, [(18, false, [(.int .i64)])], [0, 2]), (11, [(5, false, [(.int .u32)]), (6, false, [(.int .u32)]), (7, false, [(.int .u32)]), (8, false, [(.int .u32)]), (9, false, [(.int .u32)]), (10, false, [(.int .u32)]), (11, false, [(.int .u32)]), (12, false, [(.int .u32)]), (108, false, [(.int .i64)])], [0, 2, 4]), (18, [(165, false, [(.int .i64)])], [0, 4, 164])], [], []⟩ Tryz.f83 [(.pointer p0)] w Q := by kernel_rfl
  exact denF_sound mixed Tryz.func83 (Eq.mp e h)

/-- (*sortition/sha.Hash).Write -/
def sha_Hash_Write (p0 : Option Addr) (p1 : Sl) (w : World) (Q : Value → World → Prop) : Prop :=
  ∃ (I : Sl → World → Prop) (μ : Sl → World → Nat), (I p1 w) ∧
  ∀ x1 : Sl, ∀ (w1 : World) (K : Sl → World → Prop), I x1 w1 →
    (∀ x1' : Sl, ∀ w' : World, I x1' w' → μ x1' w' < μ x1 w1 → K x1' w') →
  br (decide ((((x1.len : Nat) : Int) : Int) > 0))
    (nn p0 fun a10 =>
    rd (.int .u64) w1 (Addr.add a10 72) 0 fun x12 =>
    (64 : Int) ≠ 0 ∧
    nn p0 fun a16 =>
    ((0 : Int) ≤ (IntKind.wrap .i64 (Int.tmod x12 64)) ∧ (IntKind.wrap .i64 (Int.tmod x12 64)) ≤ ((64 : Nat) : Int)) ∧
    copyP Tryz.prog 5 w1 ⟨(cutAt (some (Addr.add a16 8)) 64 (((IntKind.wrap .i64 (Int.tmod x12 64)) : Int).toNat) 1), (64 - (((IntKind.wrap .i64 (Int.tmod x12 64)) : Int).toNat)), (64 - (((IntKind.wrap .i64 (Int.tmod x12 64)) : Int).toNat))⟩ (.slice x1.p x1.len x1.cap) fun n21 w_1 =>
    ((0 : Int) ≤ ((n21 : Nat) : Int) ∧ ((n21 : Nat) : Int) ≤ ((x1.len : Nat) : Int)) ∧
    nn p0 fun a26 =>
    rd (.int .u64) w_1 (Addr.add a26 72) 0 fun x28 =>
    nn p0 fun a32 =>
    wr w_1 (Addr.add a32 72) [(.int .u64 (IntKind.wrap .u64 (x28 + (IntKind.wrap .u64 ((n21 : Nat) : Int)))))] fun w_2 =>
    br (((IntKind.wrap .i64 ((IntKind.wrap .i64 (Int.tmod x12 64)) + ((n21 : Nat) : Int))) : Int) == 64)
      (callP Tryz.prog 83 #[(.pointer p0)] w_2 fun v w_3 =>
      v = .tuple #[] ∧
      K ⟨(cutAt x1.p x1.cap ((((n21 : Nat) : Int) : Int).toNat) 1), (x1.len - ((((n21 : Nat) : Int) : Int).toNat)), (x1.cap - ((((n21 : Nat) : Int) : Int).toNat))⟩ w_3)
      (K ⟨(cutAt x1.p x1.cap ((((n21 : Nat) : Int) : Int).toNat) 1), (x1.len - ((((n21 : Nat) : Int) : Int).toNat)), (x1.cap - ((((n21 : Nat) : Int) : Int).toNat))⟩ w_2))
    (Q (.tuple #[]) w1)
set_option maxRecDepth 100000 in
theorem sha_Hash_Write_ok {p0 : Option Addr} {p1 : Sl} {w : World} {Q : Value → World → Prop} (h : sha_Hash_Write p0 p1 w Q) : callP Tryz.prog 68 #[(.pointer p0), (.slice p1.p p1.len p1.cap)] w Q := by
  have e : sha_Hash_Write p0 p1 w Q = denF Tryz.prog ⟨[(0, [(1, false, [.slc])], [0])], [], []⟩ Tryz.f68 [(.pointer p0), (.slice p1.p p1.len p1.cap)] w Q := by kernel_rfl
  exact denF_sound mixed Tryz.func68 (Eq.mp e h)

/-- sortition/sha.New -/
def sha_New (w : World) (Q : Value → World → Prop) : Prop :=
  al w (.cells #[(.int .u32 0), (.int .u32 0), (.int .u32 0), (.int .u32 0), (.int .u32 0), (.int .u32 0), (.int .u32 0), (.int .u32 0), (.int .u8 0), (.int .u8 0), (.int .u8 0), (.int .u8 0), (.int .u8 0), (.int .u8 0), (.int .u8 0), (.int .u8 0), (.int .u8 0), (.int .u8 0), (.int .u8 0), (.int .u8 0), (.int .u8 0), (.int .u8 0), (.int .u8 0), (.int .u8 0), (.int .u8 0), (.int .u8 0), (.int .u8 0), (.int .u8 0), (.int .u8 0), (.int .u8 0), (.int .u8 0), (.int .u8 0), (.int .u8 0), (.int .u8 0), (.int .u8 0), (.int .u8 0), (.int .u8 0), (.int .u8 0), (.int .u8 0), (.int .u8 0), (.int .u8 0), (.int .u8 0), (.int .u8 0), (.int .u8 0), (.int .u8 0), (.int .u8 0), (.int .u8 0), (.int .u8 0), (.int .u8 0), (.int .u8 0), (.int .u8 0), (.int .u8 0), (.int .u8 0), (.int .u8 0), (.int .u8 0), (.int .u8 0), (.int .u8 0), (.int .u8 0), (.int .u8 0), (.int .u8 0), (.int .u8 0), (.int .u8 0), (.int .u8 0), (.int .u8 0), (.int .u8 0), (.int .u8 0), (.int .u8 0), (.int .u8 0), (.int .u8 0), (.int .u8 0), (.int .u8 0), (.int .u8 0), (.int .u64 0)] 144) fun b2 w1 =>
  Q (.pointer (some ⟨b2, 0, none⟩)) w1
set_option maxRecDepth 100000 in
theorem sha_New_ok {w : World} {Q : Value → World → Prop} (h : sha_New w Q) : callP Tryz.prog 67 #[] w Q := by
  have e : sha_New w Q = denF Tryz.prog ⟨[], [], []⟩ Tryz.f67 [] w Q := by kernel_rfl
  exact denF_sound mixed Tryz.func67 (Eq.mp e h)

/-- (*sortition/sha.Hash).Sum -/
def sha_Hash_Sum (p0 : Option Addr) (w : World) (Q : Value → World → Prop) : Prop :=
  al w (.cells ((cellsA .u8 (fun _ => 0) 0 32) : List Value).toArray 50) fun b2 w1 =>
  callP Tryz.prog 85 #[(.pointer p0)] w1 fun v w_1 =>
  ∃ r12 : Option Addr, v = (.pointer r12) ∧
  nn r12 fun a14 =>
  rd (.int .u64) w_1 (Addr.add a14 72) 0 fun x16 =>
  al w_1 (.cells #[(.int .u8 128)] 5) fun b19 w_2 =>
  callP Tryz.prog 68 #[(.pointer r12), (.slice (some ⟨b19, 0, none⟩) 1 1)] w_2 fun v_1 w_3 =>
  v_1 = .tuple #[] ∧
  ∃ (I : World → Prop) (μ : World → Nat), (I w_3) ∧
  ∀ (w_4 : World) (K : World → Prop), I w_4 →
    (∀ w' : World, I w' → μ w' < μ w_4 → K w') →
  nn r12 fun a22 =>
  rd (.int .u64) w_4 (Addr.add a22 72) 0 fun x24 =>
  (64 : Int) ≠ 0 ∧
  br (((Int.tmod x24 64) : Int) != 56)
    (al w_4 (.cells #[(.int .u8 0)] 5) fun b28 w_5 =>
    callP Tryz.prog 68 #[(.pointer r12), (.slice (some ⟨b28, 0, none⟩) 1 1)] w_5 fun v_2 w_6 =>
    v_2 = .tuple #[] ∧
    K w_6)
    (al w_4 (.cells ((cellsA .u8 (fun _ => 0) 0 8) : List Value).toArray 146) fun b5 w_5 =>
    ∃ (I_1 : Int → World → Prop) (μ_1 : Int → World → Nat), (I_1 0 w_5) ∧
    ∀ x30 : Int, ∀ (w_6 : World) (K_1 : Int → World → Prop), I_1 x30 w_6 →
      (∀ x30' : Int, ∀ w' : World, I_1 x30' w' → μ_1 x30' w' < μ_1 x30 w_6 → K_1 x30' w') →
    br (decide ((x30 : Int) < 8))
      ((0 : Int) ≤ (IntKind.wrap .i64 (56 - (IntKind.wrap .i64 (8 * x30)))) ∧
      ((0 : Int) ≤ x30 ∧ x30 < ((8 : Nat) : Int)) ∧
      wr w_6 (Addr.add (⟨b5, 0, none⟩ : Addr) ((x30 : Int).toNat * 1)) [(.int .u8 (IntKind.wrap .u8 (ishr .u64 (IntKind.wrap .u64 (x16 * 8)) (IntKind.wrap .i64 (56 - (IntKind.wrap .i64 (8 * x30)))))))] fun w_7 =>
      K_1 (IntKind.wrap .i64 (x30 + 1)) w_7)
      (callP Tryz.prog 68 #[(.pointer r12), (.slice (cutAt (some ⟨b5, 0, none⟩) 8 0 1) 8 8)] w_6 fun v_2 w_7 =>
      v_2 = .tuple #[] ∧
      al w_7 (.cells ((cellsA .u8 (fun _ => 0) 0 32) : List Value).toArray 50) fun b7 w_8 =>
      callP Tryz.prog 86 #[(.pointer r12)] w_8 fun v_3 w_9 =>
      ∃ r46 : Nat → Int, v_3 = (arrV .u32 8 r46) ∧
      ∃ (I_2 : Int → World → Prop) (μ_2 : Int → World → Nat), (I_2 0 w_9) ∧
      ∀ x47 : Int, ∀ (w_10 : World) (K_2 : Int → World → Prop), I_2 x47 w_10 →
        (∀ x47' : Int, ∀ w' : World, I_2 x47' w' → μ_2 x47' w' < μ_2 x47 w_10 → K_2 x47' w') →
      br (decide ((x47 : Int) < 8))
        (((0 : Int) ≤ x47 ∧ x47 < ((8 : Nat) : Int)) ∧
        ∃ x50 : Int, ((cellsA .u32 r46 0 8) : List Value)[(x47 : Int).toNat]? = some (.int .u32 x50) ∧ ∃ (I_3 : Int → World → Prop) (μ_3 : Int → World → Nat), (I_3 0 w_10) ∧
        ∀ x51 : Int, ∀ (w_11 : World) (K_3 : Int → World → Prop), I_3 x51 w_11 →
          (∀ x51' : Int, ∀ w' : World, I_3 x51' w' → μ_3 x51' w' < μ_3 x51 w_11 → K_3 x51' w') →
        br (decide ((x51 : Int) < 4))
          ((0 : Int) ≤ (IntKind.wrap .i64 (24 - (IntKind.wrap .i64 (8 * x51)))) ∧
          ((0 : Int) ≤ (IntKind.wrap .i64 ((IntKind.wrap .i64 (4 * x47)) + x51)) ∧ (IntKind.wrap .i64 ((IntKind.wrap .i64 (4 * x47)) + x51)) < ((32 : Nat) : Int)) ∧
          wr w_11 (Addr.add (⟨b7, 0, none⟩ : Addr) (((IntKind.wrap .i64 ((IntKind.wrap .i64 (4 * x47)) + x51)) : Int).toNat * 1)) [(.int .u8 (IntKind.wrap .u8 (ishr .u32 x50 (IntKind.wrap .i64 (24 - (IntKind.wrap .i64 (8 * x51)))))))] fun w_12 =>
          K_3 (IntKind.wrap .i64 (x51 + 1)) w_12)
          (K_2 (IntKind.wrap .i64 (x47 + 1)) w_11))
        (rd (.arr .u8 32) w_10 (⟨b7, 0, none⟩ : Addr) 0 fun x67 =>
        wr w_10 (⟨b2, 0, none⟩ : Addr) (cellsA .u8 x67 0 32) fun w_11 =>
        rd (.arr .u8 32) w_11 (⟨b2, 0, none⟩ : Addr) 0 fun r2 =>
        Q (arrV .u8 32 r2) w_11)))
set_option maxRecDepth 100000 in
theorem sha_Hash_Sum_ok {p0 : Option Addr} {w : World} {Q : Value → World → Prop} (h : sha_Hash_Sum p0 w Q) : callP Tryz.prog 70 #[(.pointer p0)] w Q := by
  have e : sha_Hash_Sum p0 w Q = denF Tryz.prog ⟨[(4, [], [2, 3, 4]), (8, [(30, false, [(.int .i64)])], [2, 3, 4, 5]), (15, [(47, false, [(.int .i64)])], [2, 7, 46]), (18, [(51, false, [(.int .i64)])], [2, 7, 8, 9, 46, 47])], [], []⟩ Tryz.f70 [(.pointer p0)] w Q := by kernel_rfl
  exact denF_sound mixed Tryz.func70 (Eq.mp e h)

/-- (*sortition/sha.Hash).Copy -/
def sha_Hash_Copy (p0 : Option Addr) (w : World) (Q : Value → World → Prop) : Prop :=
  nn p0 fun a5 =>
  rd (.arr .u32 8) w a5 0 fun x6 =>
  rd (.arr .u8 64) w a5 8 fun x6_1 =>
  rd (.int .u64) w a5 72 fun x6_2 =>
  al w (.cells #[(.int .u32 0), (.int .u32 0), (.int .u32 0), (.int .u32 0), (.int .u32 0), (.int .u32 0), (.int .u32 0), (.int .u32 0), (.int .u8 0), (.int .u8 0), (.int .u8 0), (.int .u8 0), (.int .u8 0), (.int .u8 0), (.int .u8 0), (.int .u8 0), (.int .u8 0), (.int .u8 0), (.int .u8 0), (.int .u8 0), (.int .u8 0), (.int .u8 0), (.int .u8 0), (.int .u8 0), (.int .u8 0), (.int .u8 0), (.int .u8 0), (.int .u8 0), (.int .u8 0), (.int .u8 0), (.int .u8 0), (.int .u8 0), (.int .u8 0), (.int .u8 0), (.int .u8 0), (.int .u8 0), (.int .u8 0), (.int .u8 0), (.int .u8 0), (.int .u8 0), (.int .u8 0), (.int .u8 0), (.int .u8 0), (.int .u8 0), (.int .u8 0), (.int .u8 0), (.int .u8 0), (.int .u8 0), (.int .u8 0), (.int .u8 0), (.int .u8 0), (.int .u8 0), (.int .u8 0), (.int .u8 0), (.int .u8 0), (.int .u8 0), (.int .u8 0), (.int .u8 0), (.int .u8 0), (.int .u8 0), (.int .u8 0), (.int .u8 0), (.int .u8 0), (.int .u8 0), (.int .u8 0), (.int .u8 0), (.int .u8 0), (.int .u8 0), (.int .u8 0), (.int .u8 0), (.int .u8 0), (.int .u8 0), (.int .u64 0)] 144) fun b3 w1 =>
  wr w1 (⟨b3, 0, none⟩ : Addr) (cellsA .u32 x6 0 8 ++ (cellsA .u8 x6_1 0 64 ++ ([(.int .u64 x6_2)]))) fun w_1 =>
  Q (.pointer (some ⟨b3, 0, none⟩)) w_1
set_option maxRecDepth 100000 in
theorem sha_Hash_Copy_ok {p0 : Option Addr} {w : World} {Q : Value → World → Prop} (h : sha_Hash_Copy p0 w Q) : callP Tryz.prog 85 #[(.pointer p0)] w Q := by
  have e : sha_Hash_Copy p0 w Q = denF Tryz.prog ⟨[], [], []⟩ Tryz.f85 [(.pointer p0)] w Q := by kernel_rfl
  exact denF_sound mixed Tryz.func85 (Eq.mp e h)

/-- (*sortition/sha.Hash).now -/
def sha_Hash_now (p0 : Option Addr) (w : World) (Q : Value → World → Prop) : Prop :=
  al w (.cells ((cellsA .u32 (fun _ => 0) 0 8) : List Value).toArray 138) fun b2 w1 =>
  nn p0 fun a6 =>
  rd (.arr .u32 8) w1 a6 0 fun x8 =>
  al w1 (.cells ((cellsA .u32 (fun _ => 0) 0 8) : List Value).toArray 138) fun b3 w_1 =>
  wr w_1 (⟨b3, 0, none⟩ : Addr) (cellsA .u32 x8 0 8) fun w_2 =>
  ∃ (I : Int → World → Prop) (μ : Int → World → Nat), (I 0 w_2) ∧
  ∀ x9 : Int, ∀ (w_3 : World) (K : Int → World → Prop), I x9 w_3 →
    (∀ x9' : Int, ∀ w' : World, I x9' w' → μ x9' w' < μ x9 w_3 → K x9' w') →
  br (decide ((x9 : Int) < 8))
    (dr w_3 fun w_4 =>
    ((0 : Int) ≤ x9 ∧ x9 < ((8 : Nat) : Int)) ∧
    rd (.int .u32) w_4 (Addr.add (⟨b3, 0, none⟩ : Addr) ((x9 : Int).toNat * 1)) 0 fun x14 =>
    ((0 : Int) ≤ x9 ∧ x9 < ((8 : Nat) : Int)) ∧
    rd (.int .u32) w_4 (Addr.add (⟨3, 0, none⟩ : Addr) ((x9 : Int).toNat * 1)) 0 fun x17 =>
    ((0 : Int) ≤ x9 ∧ x9 < ((8 : Nat) : Int)) ∧
    wr w_4 (Addr.add (⟨b3, 0, none⟩ : Addr) ((x9 : Int).toNat * 1)) [(.int .u32 (ixor .u32 x14 x17))] fun w_5 =>
    K (IntKind.wrap .i64 (x9 + 1)) w_5)
    (rd (.arr .u32 8) w_3 (⟨b3, 0, none⟩ : Addr) 0 fun x21 =>
    wr w_3 (⟨b2, 0, none⟩ : Addr) (cellsA .u32 x21 0 8) fun w_4 =>
    rd (.arr .u32 8) w_4 (⟨b2, 0, none⟩ : Addr) 0 fun r2 =>
    Q (arrV .u32 8 r2) w_4)
set_option maxRecDepth 100000 in
theorem sha_Hash_now_ok {p0 : Option Addr} {w : World} {Q : Value → World → Prop} (h : sha_Hash_now p0 w Q) : callP Tryz.prog 86 #[(.pointer p0)] w Q := by
  have e : sha_Hash_now p0 w Q = denF Tryz.prog ⟨[(3, [(9, false, [(.int .i64)])], [2, 3])], [], []⟩ Tryz.f86 [(.pointer p0)] w Q := by kernel_rfl
  exact denF_sound mixed Tryz.func86 (Eq.mp e h)

/-- sortition/digest.Tagged -/
def digest_Tagged (p0 : ByteArray) (p1 : Sl) (w : World) (Q : Value → World → Prop) : Prop :=
  al w (.cells ((cellsA .u8 (fun _ => 0) 0 32) : List Value).toArray 50) fun b4 w1 =>
  callP Tryz.prog 67 #[] w1 fun v w_1 =>
  ∃ r8 : Option Addr, v = (.pointer r8) ∧
  callP Tryz.prog 69 #[(.int .u64 (IntKind.wrap .u64 ((ByteArray.size p0 : Nat) : Int)))] w_1 fun v_1 w_2 =>
  ∃ r13 : Sl, v_1 = (.slice r13.p r13.len r13.cap) ∧
  callP Tryz.prog 68 #[(.pointer r8), (.slice r13.p r13.len r13.cap)] w_2 fun v_2 w_3 =>
  v_2 = .tuple #[] ∧
  s2bP 5 w_3 p0 fun s17 w_4 =>
  callP Tryz.prog 68 #[(.pointer r8), (.slice s17.p s17.len s17.cap)] w_4 fun v_3 w_5 =>
  v_3 = .tuple #[] ∧
  ∃ (I : Int → World → Prop) (μ : Int → World → Nat), (I 0 w_5) ∧
  ∀ x21 : Int, ∀ (w_6 : World) (K : Int → World → Prop), I x21 w_6 →
    (∀ x21' : Int, ∀ w' : World, I x21' w' → μ x21' w' < μ x21 w_6 → K x21' w') →
  br (decide ((x21 : Int) < ((p1.len : Nat) : Int)))
    (((0 : Int) ≤ x21 ∧ x21 < ((p1.len : Nat) : Int)) ∧
    nn p1.p fun a23 =>
    rd .slc w_6 (Addr.add a23 ((x21 : Int).toNat * 1)) 0 fun x24 =>
    callP Tryz.prog 69 #[(.int .u64 (IntKind.wrap .u64 ((x24.len : Nat) : Int)))] w_6 fun v_4 w_7 =>
    ∃ r29 : Sl, v_4 = (.slice r29.p r29.len r29.cap) ∧
    callP Tryz.prog 68 #[(.pointer r8), (.slice r29.p r29.len r29.cap)] w_7 fun v_5 w_8 =>
    v_5 = .tuple #[] ∧
    callP Tryz.prog 68 #[(.pointer r8), (.slice x24.p x24.len x24.cap)] w_8 fun v_6 w_9 =>
    v_6 = .tuple #[] ∧
    K (IntKind.wrap .i64 (x21 + 1)) w_9)
    (callP Tryz.prog 70 #[(.pointer r8)] w_6 fun v_4 w_7 =>
    ∃ r36 : Nat → Int, v_4 = (arrV .u8 32 r36) ∧
    wr w_7 (⟨b4, 0, none⟩ : Addr) (cellsA .u8 r36 0 32) fun w_8 =>
    rd (.arr .u8 32) w_8 (⟨b4, 0, none⟩ : Addr) 0 fun r4 =>
    Q (arrV .u8 32 r4) w_8)
set_option maxRecDepth 100000 in
theorem digest_Tagged_ok {p0 : ByteArray} {p1 : Sl} {w : World} {Q : Value → World → Prop} (h : digest_Tagged p0 p1 w Q) : callP Tryz.prog 44 #[(.string p0), (.slice p1.p p1.len p1.cap)] w Q := by
  have e : digest_Tagged p0 p1 w Q = denF Tryz.prog ⟨[(5, [(21, false, [(.int .i64)])], [4, 5, 19, 20])], [], []⟩ Tryz.f44 [(.string p0), (.slice p1.p p1.len p1.cap)] w Q := by kernel_rfl
  exact denF_sound mixed Tryz.func44 (Eq.mp e h)

/-- sortition/pool.Name -/
def pool_Name (p0 : Sl) (w : World) (Q : Value → World → Prop) : Prop :=
  al w (.cells ((cellsA .u8 (fun _ => 0) 0 32) : List Value).toArray 50) fun b2 w1 =>
  al w1 (.cells #[(.slice p0.p p0.len p0.cap)] 30) fun b4 w_1 =>
  callP Tryz.prog 44 #[(.string (ByteArray.mk #[98, 108, 111, 99, 107])), (.slice (some ⟨b4, 0, none⟩) 1 1)] w_1 fun v w_2 =>
  ∃ r5 : Nat → Int, v = (arrV .u8 32 r5) ∧
  wr w_2 (⟨b2, 0, none⟩ : Addr) (cellsA .u8 r5 0 32) fun w_3 =>
  rd (.arr .u8 32) w_3 (⟨b2, 0, none⟩ : Addr) 0 fun r2 =>
  Q (arrV .u8 32 r2) w_3
set_option maxRecDepth 100000 in
theorem pool_Name_ok {p0 : Sl} {w : World} {Q : Value → World → Prop} (h : pool_Name p0 w Q) : callP Tryz.prog 23 #[(.slice p0.p p0.len p0.cap)] w Q := by
  have e : pool_Name p0 w Q = denF Tryz.prog ⟨[], [], []⟩ Tryz.f23 [(.slice p0.p p0.len p0.cap)] w Q := by kernel_rfl
  exact denF_sound mixed Tryz.func23 (Eq.mp e h)

/-- math/bits.RotateLeft32 -/
def math_bits_RotateLeft32 (p0 : Int) (p1 : Int) (w : World) (Q : Value → World → Prop) : Prop :=
  (0 : Int) ≤ (iand .u64 (IntKind.wrap .u64 p1) 31) ∧
  (0 : Int) ≤ (IntKind.wrap .u64 (32 - (iand .u64 (IntKind.wrap .u64 p1) 31))) ∧
  Q (.int .u32 (ior .u32 (ishl .u32 p0 (iand .u64 (IntKind.wrap .u64 p1) 31)) (ishr .u32 p0 (IntKind.wrap .u64 (32 - (iand .u64 (IntKind.wrap .u64 p1) 31)))))) w
set_option maxRecDepth 100000 in
theorem math_bits_RotateLeft32_ok {p0 : Int} {p1 : Int} {w : World} {Q : Value → World → Prop} (h : math_bits_RotateLeft32 p0 p1 w Q) : callP Tryz.prog 119 #[(.int .u32 p0), (.int .i64 p1)] w Q := by
  have e : math_bits_RotateLeft32 p0 p1 w Q = denF Tryz.prog ⟨[], [], []⟩ Tryz.f119 [(.int .u32 p0), (.int .i64 p1)] w Q := by kernel_rfl
  exact denF_sound mixed Tryz.func119 (Eq.mp e h)

/-- math/bits.Mul64 -/
def math_bits_Mul64 (p0 : Int) (p1 : Int) (w : World) (Q : Value → World → Prop) : Prop :=
  (0 : Int) ≤ 32 ∧
  (0 : Int) ≤ 32 ∧
  (0 : Int) ≤ 32 ∧
  (0 : Int) ≤ 32 ∧
  (0 : Int) ≤ 32 ∧
  Q (.tuple #[(.int .u64 (IntKind.wrap .u64 ((IntKind.wrap .u64 ((IntKind.wrap .u64 ((ishr .u64 p0 32) * (ishr .u64 p1 32))) + (ishr .u64 (IntKind.wrap .u64 ((IntKind.wrap .u64 ((ishr .u64 p0 32) * (iand .u64 p1 4294967295))) + (ishr .u64 (IntKind.wrap .u64 ((iand .u64 p0 4294967295) * (iand .u64 p1 4294967295))) 32))) 32))) + (ishr .u64 (IntKind.wrap .u64 ((iand .u64 (IntKind.wrap .u64 ((IntKind.wrap .u64 ((ishr .u64 p0 32) * (iand .u64 p1 4294967295))) + (ishr .u64 (IntKind.wrap .u64 ((iand .u64 p0 4294967295) * (iand .u64 p1 4294967295))) 32))) 4294967295) + (IntKind.wrap .u64 ((iand .u64 p0 4294967295) * (ishr .u64 p1 32))))) 32)))), (.int .u64 (IntKind.wrap .u64 (p0 * p1)))]) w
set_option maxRecDepth 100000 in
theorem math_bits_Mul64_ok {p0 : Int} {p1 : Int} {w : World} {Q : Value → World → Prop} (h : math_bits_Mul64 p0 p1 w Q) : callP Tryz.prog 106 #[(.int .u64 p0), (.int .u64 p1)] w Q := by
  have e : math_bits_Mul64 p0 p1 w Q = denF Tryz.prog ⟨[], [], []⟩ Tryz.f106 [(.int .u64 p0), (.int .u64 p1)] w Q := by kernel_rfl
  exact denF_sound mixed Tryz.func106 (Eq.mp e h)

end Go.Proofs.YtpcgkfgppfjnlaaGreatDoor.V
