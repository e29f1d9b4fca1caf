/-
  CONDITIONS, printed by a program of this work (vcgen.py) off the given translation; the kernel checks each against the denotation. | LAYINGS of contracts of the library at this program, in plain words.
-/
import Derived.Test.YtpcgkfgppfjnlaaGreatDoorMb
import Derived.Test.YtpcgkfgppfjnlaaGreatDoorProg
import Derived.Test.YtpcgkfgppfjnlaaGreatDoorMc
import Derived.Shelf.SlSortCmp.NoneTotal
namespace Go.Proofs.YtpcgkfgppfjnlaaGreatDoor.V
open Go
set_option linter.unusedVariables false
/-- slices.insertionSortOrdered[uint64] -/
def slices_insertionSortOrdered_uint64 (p0 : Sl) (p1 : Int) (p2 : Int) (w : World) (Q : Value → World → Prop) : Prop :=
  ∃ (I : Int → World → Prop) (μ : Int → World → Nat), (I (IntKind.wrap .i64 (p1 + 1)) w) ∧
  ∀ x6 : Int, ∀ (w1 : World) (K : Int → World → Prop), I x6 w1 →
    (∀ x6' : Int, ∀ w' : World, I x6' w' → μ x6' w' < μ x6 w1 → K x6' w') →
  br (decide ((x6 : Int) < p2))
    (∃ (I_1 : Int → World → Prop) (μ_1 : Int → World → Nat), (I_1 x6 w1) ∧
    ∀ x7 : Int, ∀ (w_1 : World) (K_1 : Int → World → Prop), I_1 x7 w_1 →
      (∀ x7' : Int, ∀ w' : World, I_1 x7' w' → μ_1 x7' w' < μ_1 x7 w_1 → K_1 x7' w') →
    dr w_1 fun w_2 =>
    br (decide ((x7 : Int) > p1))
      (((0 : Int) ≤ x7 ∧ x7 < ((p0.len : Nat) : Int)) ∧
      nn p0.p fun a22 =>
      rd (.int .u64) w_2 (Addr.add a22 ((x7 : Int).toNat * 1)) 0 fun x23 =>
      ((0 : Int) ≤ (IntKind.wrap .i64 (x7 - 1)) ∧ (IntKind.wrap .i64 (x7 - 1)) < ((p0.len : Nat) : Int)) ∧
      nn p0.p fun a27 =>
      rd (.int .u64) w_2 (Addr.add a27 (((IntKind.wrap .i64 (x7 - 1)) : Int).toNat * 1)) 0 fun x28 =>
      callP Tryz.prog 93 #[(.int .u64 x23), (.int .u64 x28)] w_2 fun v w_3 =>
      ∃ r29 : Bool, v = (.bool r29) ∧
      br r29
        (dr w_3 fun w_4 =>
        ((0 : Int) ≤ (IntKind.wrap .i64 (x7 - 1)) ∧ (IntKind.wrap .i64 (x7 - 1)) < ((p0.len : Nat) : Int)) ∧
        nn p0.p fun a41 =>
        rd (.int .u64) w_4 (Addr.add a41 (((IntKind.wrap .i64 (x7 - 1)) : Int).toNat * 1)) 0 fun x42 =>
        ((0 : Int) ≤ x7 ∧ x7 < ((p0.len : Nat) : Int)) ∧
        nn p0.p fun a45 =>
        rd (.int .u64) w_4 (Addr.add a45 ((x7 : Int).toNat * 1)) 0 fun x46 =>
        ((0 : Int) ≤ x7 ∧ x7 < ((p0.len : Nat) : Int)) ∧
        nn p0.p fun a47 =>
        wr w_4 (Addr.add a47 ((x7 : Int).toNat * 1)) [(.int .u64 x42)] fun w_5 =>
        ((0 : Int) ≤ (IntKind.wrap .i64 (x7 - 1)) ∧ (IntKind.wrap .i64 (x7 - 1)) < ((p0.len : Nat) : Int)) ∧
        nn p0.p fun a48 =>
        wr w_5 (Addr.add a48 (((IntKind.wrap .i64 (x7 - 1)) : Int).toNat * 1)) [(.int .u64 x46)] fun w_6 =>
        K_1 (IntKind.wrap .i64 (x7 - 1)) w_6)
        (K (IntKind.wrap .i64 (x6 + 1)) w_3))
      (K (IntKind.wrap .i64 (x6 + 1)) w_2))
    (Q (.tuple #[]) w1)
set_option maxRecDepth 100000 in
theorem slices_insertionSortOrdered_uint64_ok {p0 : Sl} {p1 : Int} {p2 : Int} {w : World} {Q : Value → World → Prop} (h : slices_insertionSortOrdered_uint64 p0 p1 p2 w Q) : callP Tryz.prog 87 #[(.slice p0.p p0.len p0.cap), (.int .i64 p1), (.int .i64 p2)] w Q := by
  have e : slices_insertionSortOrdered_uint64 p0 p1 p2 w Q = denF Tryz.prog ⟨[(1, [(6, false, [(.int .i64)])], [0, 1, 2]), (4, [(7, false, [(.int .i64)])], [0, 1, 2, 6])], [], []⟩ Tryz.f87 [(.slice p0.p p0.len p0.cap), (.int .i64 p1), (.int .i64 p2)] w Q := by kernel_rfl
  exact denF_sound mixed Tryz.func87 (Eq.mp e h)

/-- slices.heapSortOrdered[uint64] -/
def slices_heapSortOrdered_uint64 (p0 : Sl) (p1 : Int) (p2 : Int) (w : World) (Q : Value → World → Prop) : Prop :=
  (2 : Int) ≠ 0 ∧
  ∃ (I : Int → World → Prop) (μ : Int → World → Nat), (I (IntKind.wrap .i64 (Int.tdiv (IntKind.wrap .i64 ((IntKind.wrap .i64 (p2 - p1)) - 1)) 2)) w) ∧
  ∀ x9 : Int, ∀ (w1 : World) (K : Int → World → Prop), I x9 w1 →
    (∀ x9' : Int, ∀ w' : World, I x9' w' → μ x9' w' < μ x9 w1 → K x9' w') →
  br (decide ((x9 : Int) ≥ 0))
    (callP Tryz.prog 110 #[(.slice p0.p p0.len p0.cap), (.int .i64 x9), (.int .i64 (IntKind.wrap .i64 (p2 - p1))), (.int .i64 p1)] w1 fun v w_1 =>
    v = .tuple #[] ∧
    K (IntKind.wrap .i64 (x9 - 1)) w_1)
    (∃ (I_1 : Int → World → Prop) (μ_1 : Int → World → Nat), (I_1 (IntKind.wrap .i64 ((IntKind.wrap .i64 (p2 - p1)) - 1)) w1) ∧
    ∀ x10 : Int, ∀ (w_1 : World) (K_1 : Int → World → Prop), I_1 x10 w_1 →
      (∀ x10' : Int, ∀ w' : World, I_1 x10' w' → μ_1 x10' w' < μ_1 x10 w_1 → K_1 x10' w') →
    br (decide ((x10 : Int) ≥ 0))
      (dr w_1 fun w_2 =>
      ((0 : Int) ≤ (IntKind.wrap .i64 (p1 + x10)) ∧ (IntKind.wrap .i64 (p1 + x10)) < ((p0.len : Nat) : Int)) ∧
      nn p0.p fun a43 =>
      rd (.int .u64) w_2 (Addr.add a43 (((IntKind.wrap .i64 (p1 + x10)) : Int).toNat * 1)) 0 fun x44 =>
      ((0 : Int) ≤ p1 ∧ p1 < ((p0.len : Nat) : Int)) ∧
      nn p0.p fun a47 =>
      rd (.int .u64) w_2 (Addr.add a47 ((p1 : Int).toNat * 1)) 0 fun x48 =>
      ((0 : Int) ≤ p1 ∧ p1 < ((p0.len : Nat) : Int)) ∧
      nn p0.p fun a49 =>
      wr w_2 (Addr.add a49 ((p1 : Int).toNat * 1)) [(.int .u64 x44)] fun w_3 =>
      ((0 : Int) ≤ (IntKind.wrap .i64 (p1 + x10)) ∧ (IntKind.wrap .i64 (p1 + x10)) < ((p0.len : Nat) : Int)) ∧
      nn p0.p fun a50 =>
      wr w_3 (Addr.add a50 (((IntKind.wrap .i64 (p1 + x10)) : Int).toNat * 1)) [(.int .u64 x48)] fun w_4 =>
      callP Tryz.prog 110 #[(.slice p0.p p0.len p0.cap), (.int .i64 0), (.int .i64 x10), (.int .i64 p1)] w_4 fun v w_5 =>
      v = .tuple #[] ∧
      K_1 (IntKind.wrap .i64 (x10 - 1)) w_5)
      (Q (.tuple #[]) w_1))
set_option maxRecDepth 100000 in
theorem slices_heapSortOrdered_uint64_ok {p0 : Sl} {p1 : Int} {p2 : Int} {w : World} {Q : Value → World → Prop} (h : slices_heapSortOrdered_uint64 p0 p1 p2 w Q) : callP Tryz.prog 88 #[(.slice p0.p p0.len p0.cap), (.int .i64 p1), (.int .i64 p2)] w Q := by
  have e : slices_heapSortOrdered_uint64 p0 p1 p2 w Q = denF Tryz.prog ⟨[(4, [(9, false, [(.int .i64)])], [0, 6, 7, 8]), (8, [(10, false, [(.int .i64)])], [0, 6, 7])], [], []⟩ Tryz.f88 [(.slice p0.p p0.len p0.cap), (.int .i64 p1), (.int .i64 p2)] w Q := by kernel_rfl
  exact denF_sound mixed Tryz.func88 (Eq.mp e h)

/-- slices.breakPatternsOrdered[uint64] -/
def slices_breakPatternsOrdered_uint64 (p0 : Sl) (p1 : Int) (p2 : Int) (w : World) (Q : Value → World → Prop) : Prop :=
  br (decide (((IntKind.wrap .i64 (p2 - p1)) : Int) ≥ 8))
    (al w (.cells #[(.int .u64 0)] 166) fun b7 w1 =>
    wr w1 (⟨b7, 0, none⟩ : Addr) [(.int .u64 (IntKind.wrap .u64 (IntKind.wrap .i64 (p2 - p1))))] fun w_1 =>
    callP Tryz.prog 111 #[(.int .i64 (IntKind.wrap .i64 (p2 - p1)))] w_1 fun v w_2 =>
    ∃ r19 : Int, v = (.int .u64 r19) ∧
    (4 : Int) ≠ 0 ∧
    ∃ (I : Int → World → Prop) (μ : Int → World → Nat), (I (IntKind.wrap .i64 ((IntKind.wrap .i64 (p1 + (IntKind.wrap .i64 ((IntKind.wrap .i64 (Int.tdiv (IntKind.wrap .i64 (p2 - p1)) 4)) * 2)))) - 1)) w_2) ∧
    ∀ x9 : Int, ∀ (w_3 : World) (K : Int → World → Prop), I x9 w_3 →
      (∀ x9' : Int, ∀ w' : World, I x9' w' → μ x9' w' < μ x9 w_3 → K x9' w') →
    (4 : Int) ≠ 0 ∧
    br (decide ((x9 : Int) ≤ (IntKind.wrap .i64 ((IntKind.wrap .i64 (p1 + (IntKind.wrap .i64 ((IntKind.wrap .i64 (Int.tdiv (IntKind.wrap .i64 (p2 - p1)) 4)) * 2)))) + 1))))
      (callP Tryz.prog 112 #[(.pointer (some ⟨b7, 0, none⟩))] w_3 fun v_1 w_4 =>
      ∃ r36 : Int, v_1 = (.int .u64 r36) ∧
      br (decide (((IntKind.wrap .i64 (iand .u64 r36 (IntKind.wrap .u64 (r19 - 1)))) : Int) ≥ (IntKind.wrap .i64 (p2 - p1))))
        (dr w_4 fun w_5 =>
        ((0 : Int) ≤ (IntKind.wrap .i64 (p1 + (IntKind.wrap .i64 ((IntKind.wrap .i64 (iand .u64 r36 (IntKind.wrap .u64 (r19 - 1)))) - (IntKind.wrap .i64 (p2 - p1)))))) ∧ (IntKind.wrap .i64 (p1 + (IntKind.wrap .i64 ((IntKind.wrap .i64 (iand .u64 r36 (IntKind.wrap .u64 (r19 - 1)))) - (IntKind.wrap .i64 (p2 - p1)))))) < ((p0.len : Nat) : Int)) ∧
        nn p0.p fun a57 =>
        rd (.int .u64) w_5 (Addr.add a57 (((IntKind.wrap .i64 (p1 + (IntKind.wrap .i64 ((IntKind.wrap .i64 (iand .u64 r36 (IntKind.wrap .u64 (r19 - 1)))) - (IntKind.wrap .i64 (p2 - p1)))))) : Int).toNat * 1)) 0 fun x58 =>
        ((0 : Int) ≤ x9 ∧ x9 < ((p0.len : Nat) : Int)) ∧
        nn p0.p fun a61 =>
        rd (.int .u64) w_5 (Addr.add a61 ((x9 : Int).toNat * 1)) 0 fun x62 =>
        ((0 : Int) ≤ x9 ∧ x9 < ((p0.len : Nat) : Int)) ∧
        nn p0.p fun a63 =>
        wr w_5 (Addr.add a63 ((x9 : Int).toNat * 1)) [(.int .u64 x58)] fun w_6 =>
        ((0 : Int) ≤ (IntKind.wrap .i64 (p1 + (IntKind.wrap .i64 ((IntKind.wrap .i64 (iand .u64 r36 (IntKind.wrap .u64 (r19 - 1)))) - (IntKind.wrap .i64 (p2 - p1)))))) ∧ (IntKind.wrap .i64 (p1 + (IntKind.wrap .i64 ((IntKind.wrap .i64 (iand .u64 r36 (IntKind.wrap .u64 (r19 - 1)))) - (IntKind.wrap .i64 (p2 - p1)))))) < ((p0.len : Nat) : Int)) ∧
        nn p0.p fun a64 =>
        wr w_6 (Addr.add a64 (((IntKind.wrap .i64 (p1 + (IntKind.wrap .i64 ((IntKind.wrap .i64 (iand .u64 r36 (IntKind.wrap .u64 (r19 - 1)))) - (IntKind.wrap .i64 (p2 - p1)))))) : Int).toNat * 1)) [(.int .u64 x62)] fun w_7 =>
        K (IntKind.wrap .i64 (x9 + 1)) w_7)
        (dr w_4 fun w_5 =>
        ((0 : Int) ≤ (IntKind.wrap .i64 (p1 + (IntKind.wrap .i64 (iand .u64 r36 (IntKind.wrap .u64 (r19 - 1)))))) ∧ (IntKind.wrap .i64 (p1 + (IntKind.wrap .i64 (iand .u64 r36 (IntKind.wrap .u64 (r19 - 1)))))) < ((p0.len : Nat) : Int)) ∧
        nn p0.p fun a57 =>
        rd (.int .u64) w_5 (Addr.add a57 (((IntKind.wrap .i64 (p1 + (IntKind.wrap .i64 (iand .u64 r36 (IntKind.wrap .u64 (r19 - 1)))))) : Int).toNat * 1)) 0 fun x58 =>
        ((0 : Int) ≤ x9 ∧ x9 < ((p0.len : Nat) : Int)) ∧
        nn p0.p fun a61 =>
        rd (.int .u64) w_5 (Addr.add a61 ((x9 : Int).toNat * 1)) 0 fun x62 =>
        ((0 : Int) ≤ x9 ∧ x9 < ((p0.len : Nat) : Int)) ∧
        nn p0.p fun a63 =>
        wr w_5 (Addr.add a63 ((x9 : Int).toNat * 1)) [(.int .u64 x58)] fun w_6 =>
        ((0 : Int) ≤ (IntKind.wrap .i64 (p1 + (IntKind.wrap .i64 (iand .u64 r36 (IntKind.wrap .u64 (r19 - 1)))))) ∧ (IntKind.wrap .i64 (p1 + (IntKind.wrap .i64 (iand .u64 r36 (IntKind.wrap .u64 (r19 - 1)))))) < ((p0.len : Nat) : Int)) ∧
        nn p0.p fun a64 =>
        wr w_6 (Addr.add a64 (((IntKind.wrap .i64 (p1 + (IntKind.wrap .i64 (iand .u64 r36 (IntKind.wrap .u64 (r19 - 1)))))) : Int).toNat * 1)) [(.int .u64 x62)] fun w_7 =>
        K (IntKind.wrap .i64 (x9 + 1)) w_7))
      (Q (.tuple #[]) w_3))
    (Q (.tuple #[]) w)
set_option maxRecDepth 100000 in
theorem slices_breakPatternsOrdered_uint64_ok {p0 : Sl} {p1 : Int} {p2 : Int} {w : World} {Q : Value → World → Prop} (h : slices_breakPatternsOrdered_uint64 p0 p1 p2 w Q) : callP Tryz.prog 89 #[(.slice p0.p p0.len p0.cap), (.int .i64 p1), (.int .i64 p2)] w Q := by
  have e : slices_breakPatternsOrdered_uint64 p0 p1 p2 w Q = denF Tryz.prog ⟨[(5, [(9, false, [(.int .i64)])], [0, 1, 6, 7, 8])], [], []⟩ Tryz.f89 [(.slice p0.p p0.len p0.cap), (.int .i64 p1), (.int .i64 p2)] w Q := by kernel_rfl
  exact denF_sound mixed Tryz.func89 (Eq.mp e h)

/-- slices.choosePivotOrdered[uint64] -/
def slices_choosePivotOrdered_uint64 (p0 : Sl) (p1 : Int) (p2 : Int) (w : World) (Q : Value → World → Prop) : Prop :=
  al w (.cells #[(.int .i64 0)] 3) fun b9 w1 =>
  (4 : Int) ≠ 0 ∧
  (4 : Int) ≠ 0 ∧
  (4 : Int) ≠ 0 ∧
  br (decide (((IntKind.wrap .i64 (p2 - p1)) : Int) ≥ 8))
    (br (decide (((IntKind.wrap .i64 (p2 - p1)) : Int) ≥ 50))
      (callP Tryz.prog 113 #[(.slice p0.p p0.len p0.cap), (.int .i64 (IntKind.wrap .i64 (p1 + (IntKind.wrap .i64 ((IntKind.wrap .i64 (Int.tdiv (IntKind.wrap .i64 (p2 - p1)) 4)) * 1))))), (.pointer (some ⟨b9, 0, none⟩))] w1 fun v w_1 =>
      ∃ r37 : Int, v = (.int .i64 r37) ∧
      callP Tryz.prog 113 #[(.slice p0.p p0.len p0.cap), (.int .i64 (IntKind.wrap .i64 (p1 + (IntKind.wrap .i64 ((IntKind.wrap .i64 (Int.tdiv (IntKind.wrap .i64 (p2 - p1)) 4)) * 2))))), (.pointer (some ⟨b9, 0, none⟩))] w_1 fun v_1 w_2 =>
      ∃ r40 : Int, v_1 = (.int .i64 r40) ∧
      callP Tryz.prog 113 #[(.slice p0.p p0.len p0.cap), (.int .i64 (IntKind.wrap .i64 (p1 + (IntKind.wrap .i64 ((IntKind.wrap .i64 (Int.tdiv (IntKind.wrap .i64 (p2 - p1)) 4)) * 3))))), (.pointer (some ⟨b9, 0, none⟩))] w_2 fun v_2 w_3 =>
      ∃ r43 : Int, v_2 = (.int .i64 r43) ∧
      callP Tryz.prog 114 #[(.slice p0.p p0.len p0.cap), (.int .i64 r37), (.int .i64 r40), (.int .i64 r43), (.pointer (some ⟨b9, 0, none⟩))] w_3 fun v_3 w_4 =>
      ∃ r48 : Int, v_3 = (.int .i64 r48) ∧
      rd (.int .i64) w_4 (⟨b9, 0, none⟩ : Addr) 0 fun x49 =>
      br ((x49 : Int) == 0)
        (Q (.tuple #[(.int .i64 r48), (.int .i64 1)]) w_4)
        (br ((x49 : Int) == 12)
          (Q (.tuple #[(.int .i64 r48), (.int .i64 2)]) w_4)
          (Q (.tuple #[(.int .i64 r48), (.int .i64 0)]) w_4)))
      (callP Tryz.prog 114 #[(.slice p0.p p0.len p0.cap), (.int .i64 (IntKind.wrap .i64 (p1 + (IntKind.wrap .i64 ((IntKind.wrap .i64 (Int.tdiv (IntKind.wrap .i64 (p2 - p1)) 4)) * 1))))), (.int .i64 (IntKind.wrap .i64 (p1 + (IntKind.wrap .i64 ((IntKind.wrap .i64 (Int.tdiv (IntKind.wrap .i64 (p2 - p1)) 4)) * 2))))), (.int .i64 (IntKind.wrap .i64 (p1 + (IntKind.wrap .i64 ((IntKind.wrap .i64 (Int.tdiv (IntKind.wrap .i64 (p2 - p1)) 4)) * 3))))), (.pointer (some ⟨b9, 0, none⟩))] w1 fun v w_1 =>
      ∃ r48 : Int, v = (.int .i64 r48) ∧
      rd (.int .i64) w_1 (⟨b9, 0, none⟩ : Addr) 0 fun x49 =>
      br ((x49 : Int) == 0)
        (Q (.tuple #[(.int .i64 r48), (.int .i64 1)]) w_1)
        (br ((x49 : Int) == 12)
          (Q (.tuple #[(.int .i64 r48), (.int .i64 2)]) w_1)
          (Q (.tuple #[(.int .i64 r48), (.int .i64 0)]) w_1))))
    (rd (.int .i64) w1 (⟨b9, 0, none⟩ : Addr) 0 fun x49 =>
    br ((x49 : Int) == 0)
      (Q (.tuple #[(.int .i64 (IntKind.wrap .i64 (p1 + (IntKind.wrap .i64 ((IntKind.wrap .i64 (Int.tdiv (IntKind.wrap .i64 (p2 - p1)) 4)) * 2))))), (.int .i64 1)]) w1)
      (br ((x49 : Int) == 12)
        (Q (.tuple #[(.int .i64 (IntKind.wrap .i64 (p1 + (IntKind.wrap .i64 ((IntKind.wrap .i64 (Int.tdiv (IntKind.wrap .i64 (p2 - p1)) 4)) * 2))))), (.int .i64 2)]) w1)
        (Q (.tuple #[(.int .i64 (IntKind.wrap .i64 (p1 + (IntKind.wrap .i64 ((IntKind.wrap .i64 (Int.tdiv (IntKind.wrap .i64 (p2 - p1)) 4)) * 2))))), (.int .i64 0)]) w1)))
set_option maxRecDepth 100000 in
theorem slices_choosePivotOrdered_uint64_ok {p0 : Sl} {p1 : Int} {p2 : Int} {w : World} {Q : Value → World → Prop} (h : slices_choosePivotOrdered_uint64 p0 p1 p2 w Q) : callP Tryz.prog 90 #[(.slice p0.p p0.len p0.cap), (.int .i64 p1), (.int .i64 p2)] w Q := by
  have e : slices_choosePivotOrdered_uint64 p0 p1 p2 w Q = denF Tryz.prog ⟨[], [], []⟩ Tryz.f90 [(.slice p0.p p0.len p0.cap), (.int .i64 p1), (.int .i64 p2)] w Q := by kernel_rfl
  exact denF_sound mixed Tryz.func90 (Eq.mp e h)

/-- slices.reverseRangeOrdered[uint64] -/
def slices_reverseRangeOrdered_uint64 (p0 : Sl) (p1 : Int) (p2 : Int) (w : World) (Q : Value → World → Prop) : Prop :=
  ∃ (I : Int → Int → World → Prop) (μ : Int → Int → World → Nat), (I p1 (IntKind.wrap .i64 (p2 - 1)) w) ∧
  ∀ x6 : Int, ∀ x7 : Int, ∀ (w1 : World) (K : Int → Int → World → Prop), I x6 x7 w1 →
    (∀ x6' : Int, ∀ x7' : Int, ∀ w' : World, I x6' x7' w' → μ x6' x7' w' < μ x6 x7 w1 → K x6' x7' w') →
  br (decide ((x6 : Int) < x7))
    (dr w1 fun w_1 =>
    ((0 : Int) ≤ x7 ∧ x7 < ((p0.len : Nat) : Int)) ∧
    nn p0.p fun a20 =>
    rd (.int .u64) w_1 (Addr.add a20 ((x7 : Int).toNat * 1)) 0 fun x21 =>
    ((0 : Int) ≤ x6 ∧ x6 < ((p0.len : Nat) : Int)) ∧
    nn p0.p fun a24 =>
    rd (.int .u64) w_1 (Addr.add a24 ((x6 : Int).toNat * 1)) 0 fun x25 =>
    ((0 : Int) ≤ x6 ∧ x6 < ((p0.len : Nat) : Int)) ∧
    nn p0.p fun a26 =>
    wr w_1 (Addr.add a26 ((x6 : Int).toNat * 1)) [(.int .u64 x21)] fun w_2 =>
    ((0 : Int) ≤ x7 ∧ x7 < ((p0.len : Nat) : Int)) ∧
    nn p0.p fun a27 =>
    wr w_2 (Addr.add a27 ((x7 : Int).toNat * 1)) [(.int .u64 x25)] fun w_3 =>
    K (IntKind.wrap .i64 (x6 + 1)) (IntKind.wrap .i64 (x7 - 1)) w_3)
    (Q (.tuple #[]) w1)
set_option maxRecDepth 100000 in
theorem slices_reverseRangeOrdered_uint64_ok {p0 : Sl} {p1 : Int} {p2 : Int} {w : World} {Q : Value → World → Prop} (h : slices_reverseRangeOrdered_uint64 p0 p1 p2 w Q) : callP Tryz.prog 91 #[(.slice p0.p p0.len p0.cap), (.int .i64 p1), (.int .i64 p2)] w Q := by
  have e : slices_reverseRangeOrdered_uint64 p0 p1 p2 w Q = denF Tryz.prog ⟨[(2, [(6, false, [(.int .i64)]), (7, false, [(.int .i64)])], [0])], [], []⟩ Tryz.f91 [(.slice p0.p p0.len p0.cap), (.int .i64 p1), (.int .i64 p2)] w Q := by kernel_rfl
  exact denF_sound mixed Tryz.func91 (Eq.mp e h)

/-- slices.partialInsertionSortOrdered[uint64] -/
def slices_partialInsertionSortOrdered_uint64 (p0 : Sl) (p1 : Int) (p2 : Int) (w : World) (Q : Value → World → Prop) : Prop :=
  ∃ (I : Int → Int → World → Prop) (μ : Int → Int → World → Nat), (I (IntKind.wrap .i64 (p1 + 1)) 0 w) ∧
  ∀ x7 : Int, ∀ x8 : Int, ∀ (w1 : World) (K : Int → Int → World → Prop), I x7 x8 w1 →
    (∀ x7' : Int, ∀ x8' : Int, ∀ w' : World, I x7' x8' w' → μ x7' x8' w' < μ x7 x8 w1 → K x7' x8' w') →
  br (decide ((x8 : Int) < 5))
    (∃ J : Int → World → Prop, (∃ (I_1 : Int → World → Prop) (μ_1 : Int → World → Nat), (I_1 x7 w1) ∧
    ∀ x7_1 : Int, ∀ (w_1 : World) (K_1 : Int → World → Prop), I_1 x7_1 w_1 →
      (∀ x7' : Int, ∀ w' : World, I_1 x7' w' → μ_1 x7' w' < μ_1 x7_1 w_1 → K_1 x7' w') →
    dr w_1 fun w_2 =>
    br (decide ((x7_1 : Int) < p2))
      (((0 : Int) ≤ x7_1 ∧ x7_1 < ((p0.len : Nat) : Int)) ∧
      nn p0.p fun a23 =>
      rd (.int .u64) w_2 (Addr.add a23 ((x7_1 : Int).toNat * 1)) 0 fun x24 =>
      ((0 : Int) ≤ (IntKind.wrap .i64 (x7_1 - 1)) ∧ (IntKind.wrap .i64 (x7_1 - 1)) < ((p0.len : Nat) : Int)) ∧
      nn p0.p fun a28 =>
      rd (.int .u64) w_2 (Addr.add a28 (((IntKind.wrap .i64 (x7_1 - 1)) : Int).toNat * 1)) 0 fun x29 =>
      callP Tryz.prog 93 #[(.int .u64 x24), (.int .u64 x29)] w_2 fun v w_3 =>
      ∃ r30 : Bool, v = (.bool r30) ∧
      br (!r30)
        (K_1 (IntKind.wrap .i64 (x7_1 + 1)) w_3)
        (J x7_1 w_3))
      (J x7_1 w_2)) ∧
    ∀ x7_1 : Int, ∀ w_1 : World, J x7_1 w_1 →
    br ((x7_1 : Int) == p2)
      (Q (.bool true) w_1)
      (br (decide (((IntKind.wrap .i64 (p2 - p1)) : Int) < 50))
        (Q (.bool false) w_1)
        (dr w_1 fun w_2 =>
        ((0 : Int) ≤ (IntKind.wrap .i64 (x7_1 - 1)) ∧ (IntKind.wrap .i64 (x7_1 - 1)) < ((p0.len : Nat) : Int)) ∧
        nn p0.p fun a50 =>
        rd (.int .u64) w_2 (Addr.add a50 (((IntKind.wrap .i64 (x7_1 - 1)) : Int).toNat * 1)) 0 fun x51 =>
        ((0 : Int) ≤ x7_1 ∧ x7_1 < ((p0.len : Nat) : Int)) ∧
        nn p0.p fun a54 =>
        rd (.int .u64) w_2 (Addr.add a54 ((x7_1 : Int).toNat * 1)) 0 fun x55 =>
        ((0 : Int) ≤ x7_1 ∧ x7_1 < ((p0.len : Nat) : Int)) ∧
        nn p0.p fun a56 =>
        wr w_2 (Addr.add a56 ((x7_1 : Int).toNat * 1)) [(.int .u64 x51)] fun w_3 =>
        ((0 : Int) ≤ (IntKind.wrap .i64 (x7_1 - 1)) ∧ (IntKind.wrap .i64 (x7_1 - 1)) < ((p0.len : Nat) : Int)) ∧
        nn p0.p fun a57 =>
        wr w_3 (Addr.add a57 (((IntKind.wrap .i64 (x7_1 - 1)) : Int).toNat * 1)) [(.int .u64 x55)] fun w_4 =>
        ∃ J_1 : World → Prop, (br (decide (((IntKind.wrap .i64 (x7_1 - p1)) : Int) ≥ 2))
          (∃ (I_1 : Int → World → Prop) (μ_1 : Int → World → Nat), (I_1 (IntKind.wrap .i64 (x7_1 - 1)) w_4) ∧
          ∀ x9 : Int, ∀ (w_5 : World) (K_1 : Int → World → Prop), I_1 x9 w_5 →
            (∀ x9' : Int, ∀ w' : World, I_1 x9' w' → μ_1 x9' w' < μ_1 x9 w_5 → K_1 x9' w') →
          br (decide ((x9 : Int) ≥ 1))
            (dr w_5 fun w_6 =>
            ((0 : Int) ≤ x9 ∧ x9 < ((p0.len : Nat) : Int)) ∧
            nn p0.p fun a70 =>
            rd (.int .u64) w_6 (Addr.add a70 ((x9 : Int).toNat * 1)) 0 fun x71 =>
            ((0 : Int) ≤ (IntKind.wrap .i64 (x9 - 1)) ∧ (IntKind.wrap .i64 (x9 - 1)) < ((p0.len : Nat) : Int)) ∧
            nn p0.p fun a75 =>
            rd (.int .u64) w_6 (Addr.add a75 (((IntKind.wrap .i64 (x9 - 1)) : Int).toNat * 1)) 0 fun x76 =>
            callP Tryz.prog 93 #[(.int .u64 x71), (.int .u64 x76)] w_6 fun v w_7 =>
            ∃ r77 : Bool, v = (.bool r77) ∧
            br (!r77)
              (J_1 w_7)
              (dr w_7 fun w_8 =>
              ((0 : Int) ≤ (IntKind.wrap .i64 (x9 - 1)) ∧ (IntKind.wrap .i64 (x9 - 1)) < ((p0.len : Nat) : Int)) ∧
              nn p0.p fun a87 =>
              rd (.int .u64) w_8 (Addr.add a87 (((IntKind.wrap .i64 (x9 - 1)) : Int).toNat * 1)) 0 fun x88 =>
              ((0 : Int) ≤ x9 ∧ x9 < ((p0.len : Nat) : Int)) ∧
              nn p0.p fun a91 =>
              rd (.int .u64) w_8 (Addr.add a91 ((x9 : Int).toNat * 1)) 0 fun x92 =>
              ((0 : Int) ≤ x9 ∧ x9 < ((p0.len : Nat) : Int)) ∧
              nn p0.p fun a93 =>
              wr w_8 (Addr.add a93 ((x9 : Int).toNat * 1)) [(.int .u64 x88)] fun w_9 =>
              ((0 : Int) ≤ (IntKind.wrap .i64 (x9 - 1)) ∧ (IntKind.wrap .i64 (x9 - 1)) < ((p0.len : Nat) : Int)) ∧
              nn p0.p fun a94 =>
              wr w_9 (Addr.add a94 (((IntKind.wrap .i64 (x9 - 1)) : Int).toNat * 1)) [(.int .u64 x92)] fun w_10 =>
              K_1 (IntKind.wrap .i64 (x9 - 1)) w_10))
            (J_1 w_5))
          (J_1 w_4)) ∧
        ∀ w_5 : World, J_1 w_5 →
        br (decide (((IntKind.wrap .i64 (p2 - x7_1)) : Int) ≥ 2))
          (∃ (I_1 : Int → World → Prop) (μ_1 : Int → World → Nat), (I_1 (IntKind.wrap .i64 (x7_1 + 1)) w_5) ∧
          ∀ x10 : Int, ∀ (w_6 : World) (K_1 : Int → World → Prop), I_1 x10 w_6 →
            (∀ x10' : Int, ∀ w' : World, I_1 x10' w' → μ_1 x10' w' < μ_1 x10 w_6 → K_1 x10' w') →
          br (decide ((x10 : Int) < p2))
            (dr w_6 fun w_7 =>
            ((0 : Int) ≤ x10 ∧ x10 < ((p0.len : Nat) : Int)) ∧
            nn p0.p fun a108 =>
            rd (.int .u64) w_7 (Addr.add a108 ((x10 : Int).toNat * 1)) 0 fun x109 =>
            ((0 : Int) ≤ (IntKind.wrap .i64 (x10 - 1)) ∧ (IntKind.wrap .i64 (x10 - 1)) < ((p0.len : Nat) : Int)) ∧
            nn p0.p fun a113 =>
            rd (.int .u64) w_7 (Addr.add a113 (((IntKind.wrap .i64 (x10 - 1)) : Int).toNat * 1)) 0 fun x114 =>
            callP Tryz.prog 93 #[(.int .u64 x109), (.int .u64 x114)] w_7 fun v w_8 =>
            ∃ r115 : Bool, v = (.bool r115) ∧
            br (!r115)
              (K x7_1 (IntKind.wrap .i64 (x8 + 1)) w_8)
              (dr w_8 fun w_9 =>
              ((0 : Int) ≤ (IntKind.wrap .i64 (x10 - 1)) ∧ (IntKind.wrap .i64 (x10 - 1)) < ((p0.len : Nat) : Int)) ∧
              nn p0.p fun a125 =>
              rd (.int .u64) w_9 (Addr.add a125 (((IntKind.wrap .i64 (x10 - 1)) : Int).toNat * 1)) 0 fun x126 =>
              ((0 : Int) ≤ x10 ∧ x10 < ((p0.len : Nat) : Int)) ∧
              nn p0.p fun a129 =>
              rd (.int .u64) w_9 (Addr.add a129 ((x10 : Int).toNat * 1)) 0 fun x130 =>
              ((0 : Int) ≤ x10 ∧ x10 < ((p0.len : Nat) : Int)) ∧
              nn p0.p fun a131 =>
              wr w_9 (Addr.add a131 ((x10 : Int).toNat * 1)) [(.int .u64 x126)] fun w_10 =>
              ((0 : Int) ≤ (IntKind.wrap .i64 (x10 - 1)) ∧ (IntKind.wrap .i64 (x10 - 1)) < ((p0.len : Nat) : Int)) ∧
              nn p0.p fun a132 =>
              wr w_10 (Addr.add a132 (((IntKind.wrap .i64 (x10 - 1)) : Int).toNat * 1)) [(.int .u64 x130)] fun w_11 =>
              K_1 (IntKind.wrap .i64 (x10 + 1)) w_11))
            (K x7_1 (IntKind.wrap .i64 (x8 + 1)) w_6))
          (K x7_1 (IntKind.wrap .i64 (x8 + 1)) w_5))))
    (Q (.bool false) w1)
set_option maxRecDepth 100000 in
theorem slices_partialInsertionSortOrdered_uint64_ok {p0 : Sl} {p1 : Int} {p2 : Int} {w : World} {Q : Value → World → Prop} (h : slices_partialInsertionSortOrdered_uint64 p0 p1 p2 w Q) : callP Tryz.prog 92 #[(.slice p0.p p0.len p0.cap), (.int .i64 p1), (.int .i64 p2)] w Q := by
  have e : slices_partialInsertionSortOrdered_uint64 p0 p1 p2 w Q = denF Tryz.prog ⟨[(3, [(7, false, [(.int .i64)]), (8, false, [(.int .i64)])], [0, 1, 2]), (5, [(7, false, [(.int .i64)])], [0, 1, 2, 8]), (14, [(9, false, [(.int .i64)])], [0, 1, 2, 7, 8]), (20, [(10, false, [(.int .i64)])], [0, 1, 2, 7, 8])], [(7, [(7, false, [(.int .i64)])], [0, 1, 2, 8]), (18, [], [0, 1, 2, 7, 8])], []⟩ Tryz.f92 [(.slice p0.p p0.len p0.cap), (.int .i64 p1), (.int .i64 p2)] w Q := by kernel_rfl
  exact denF_sound mixed Tryz.func92 (Eq.mp e h)

/-- cmp.Less[uint64] -/
def cmp_Less_uint64 (p0 : Int) (p1 : Int) (w : World) (Q : Value → World → Prop) : Prop :=
  callP Tryz.prog 115 #[(.int .u64 p0)] w fun v w1 =>
  ∃ r6 : Bool, v = (.bool r6) ∧
  br r6
    (callP Tryz.prog 115 #[(.int .u64 p1)] w1 fun v_1 w_1 =>
    ∃ r9 : Bool, v_1 = (.bool r9) ∧
    br (!r9)
      (Q (.bool true) w_1)
      (Q (.bool (decide ((p0 : Int) < p1))) w_1))
    (Q (.bool (decide ((p0 : Int) < p1))) w1)
set_option maxRecDepth 100000 in
theorem cmp_Less_uint64_ok {p0 : Int} {p1 : Int} {w : World} {Q : Value → World → Prop} (h : cmp_Less_uint64 p0 p1 w Q) : callP Tryz.prog 93 #[(.int .u64 p0), (.int .u64 p1)] w Q := by
  have e : cmp_Less_uint64 p0 p1 w Q = denF Tryz.prog ⟨[], [], []⟩ Tryz.f93 [(.int .u64 p0), (.int .u64 p1)] w Q := by kernel_rfl
  exact denF_sound mixed Tryz.func93 (Eq.mp e h)

/-- cmp.isNaN[uint64] -/
def cmp_isNaN_uint64 (p0 : Int) (w : World) (Q : Value → World → Prop) : Prop :=
  Q (.bool ((p0 : Int) != p0)) w
set_option maxRecDepth 100000 in
theorem cmp_isNaN_uint64_ok {p0 : Int} {w : World} {Q : Value → World → Prop} (h : cmp_isNaN_uint64 p0 w Q) : callP Tryz.prog 115 #[(.int .u64 p0)] w Q := by
  have e : cmp_isNaN_uint64 p0 w Q = denF Tryz.prog ⟨[], [], []⟩ Tryz.f115 [(.int .u64 p0)] w Q := by kernel_rfl
  exact denF_sound mixed Tryz.func115 (Eq.mp e h)

/-- slices.partitionEqualOrdered[uint64] -/
def slices_partitionEqualOrdered_uint64 (p0 : Sl) (p1 : Int) (p2 : Int) (p3 : Int) (w : World) (Q : Value → World → Prop) : Prop :=
  dr w fun w1 =>
  ((0 : Int) ≤ p3 ∧ p3 < ((p0.len : Nat) : Int)) ∧
  nn p0.p fun a17 =>
  rd (.int .u64) w1 (Addr.add a17 ((p3 : Int).toNat * 1)) 0 fun x18 =>
  ((0 : Int) ≤ p1 ∧ p1 < ((p0.len : Nat) : Int)) ∧
  nn p0.p fun a21 =>
  rd (.int .u64) w1 (Addr.add a21 ((p1 : Int).toNat * 1)) 0 fun x22 =>
  ((0 : Int) ≤ p1 ∧ p1 < ((p0.len : Nat) : Int)) ∧
  nn p0.p fun a23 =>
  wr w1 (Addr.add a23 ((p1 : Int).toNat * 1)) [(.int .u64 x18)] fun w_1 =>
  ((0 : Int) ≤ p3 ∧ p3 < ((p0.len : Nat) : Int)) ∧
  nn p0.p fun a24 =>
  wr w_1 (Addr.add a24 ((p3 : Int).toNat * 1)) [(.int .u64 x22)] fun w_2 =>
  ∃ (I : Int → Int → World → Prop) (μ : Int → Int → World → Nat), (I (IntKind.wrap .i64 (p1 + 1)) (IntKind.wrap .i64 (p2 - 1)) w_2) ∧
  ∀ x9 : Int, ∀ x10 : Int, ∀ (w_3 : World) (K : Int → Int → World → Prop), I x9 x10 w_3 →
    (∀ x9' : Int, ∀ x10' : Int, ∀ w' : World, I x9' x10' w' → μ x9' x10' w' < μ x9 x10 w_3 → K x9' x10' w') →
  ∃ J : Int → World → Prop, (∃ (I_1 : Int → World → Prop) (μ_1 : Int → World → Nat), (I_1 x9 w_3) ∧
  ∀ x9_1 : Int, ∀ (w_4 : World) (K_1 : Int → World → Prop), I_1 x9_1 w_4 →
    (∀ x9' : Int, ∀ w' : World, I_1 x9' w' → μ_1 x9' w' < μ_1 x9_1 w_4 → K_1 x9' w') →
  dr w_4 fun w_5 =>
  br (decide ((x9_1 : Int) ≤ x10))
    (((0 : Int) ≤ p1 ∧ p1 < ((p0.len : Nat) : Int)) ∧
    nn p0.p fun a35 =>
    rd (.int .u64) w_5 (Addr.add a35 ((p1 : Int).toNat * 1)) 0 fun x36 =>
    ((0 : Int) ≤ x9_1 ∧ x9_1 < ((p0.len : Nat) : Int)) ∧
    nn p0.p fun a39 =>
    rd (.int .u64) w_5 (Addr.add a39 ((x9_1 : Int).toNat * 1)) 0 fun x40 =>
    callP Tryz.prog 93 #[(.int .u64 x36), (.int .u64 x40)] w_5 fun v w_6 =>
    ∃ r41 : Bool, v = (.bool r41) ∧
    br (!r41)
      (K_1 (IntKind.wrap .i64 (x9_1 + 1)) w_6)
      (J x9_1 w_6))
    (J x9_1 w_5)) ∧
  ∀ x9_1 : Int, ∀ w_4 : World, J x9_1 w_4 →
  ∃ J_1 : Int → World → Prop, (∃ (I_1 : Int → World → Prop) (μ_1 : Int → World → Nat), (I_1 x10 w_4) ∧
  ∀ x10_1 : Int, ∀ (w_5 : World) (K_1 : Int → World → Prop), I_1 x10_1 w_5 →
    (∀ x10' : Int, ∀ w' : World, I_1 x10' w' → μ_1 x10' w' < μ_1 x10_1 w_5 → K_1 x10' w') →
  dr w_5 fun w_6 =>
  br (decide ((x9_1 : Int) ≤ x10_1))
    (((0 : Int) ≤ p1 ∧ p1 < ((p0.len : Nat) : Int)) ∧
    nn p0.p fun a52 =>
    rd (.int .u64) w_6 (Addr.add a52 ((p1 : Int).toNat * 1)) 0 fun x53 =>
    ((0 : Int) ≤ x10_1 ∧ x10_1 < ((p0.len : Nat) : Int)) ∧
    nn p0.p fun a56 =>
    rd (.int .u64) w_6 (Addr.add a56 ((x10_1 : Int).toNat * 1)) 0 fun x57 =>
    callP Tryz.prog 93 #[(.int .u64 x53), (.int .u64 x57)] w_6 fun v w_7 =>
    ∃ r58 : Bool, v = (.bool r58) ∧
    br r58
      (K_1 (IntKind.wrap .i64 (x10_1 - 1)) w_7)
      (J_1 x10_1 w_7))
    (J_1 x10_1 w_6)) ∧
  ∀ x10_1 : Int, ∀ w_5 : World, J_1 x10_1 w_5 →
  br (decide ((x9_1 : Int) > x10_1))
    (Q (.int .i64 x9_1) w_5)
    (dr w_5 fun w_6 =>
    ((0 : Int) ≤ x10_1 ∧ x10_1 < ((p0.len : Nat) : Int)) ∧
    nn p0.p fun a71 =>
    rd (.int .u64) w_6 (Addr.add a71 ((x10_1 : Int).toNat * 1)) 0 fun x72 =>
    ((0 : Int) ≤ x9_1 ∧ x9_1 < ((p0.len : Nat) : Int)) ∧
    nn p0.p fun a75 =>
    rd (.int .u64) w_6 (Addr.add a75 ((x9_1 : Int).toNat * 1)) 0 fun x76 =>
    ((0 : Int) ≤ x9_1 ∧ x9_1 < ((p0.len : Nat) : Int)) ∧
    nn p0.p fun a77 =>
    wr w_6 (Addr.add a77 ((x9_1 : Int).toNat * 1)) [(.int .u64 x72)] fun w_7 =>
    ((0 : Int) ≤ x10_1 ∧ x10_1 < ((p0.len : Nat) : Int)) ∧
    nn p0.p fun a78 =>
    wr w_7 (Addr.add a78 ((x10_1 : Int).toNat * 1)) [(.int .u64 x76)] fun w_8 =>
    K (IntKind.wrap .i64 (x9_1 + 1)) (IntKind.wrap .i64 (x10_1 - 1)) w_8)
set_option maxRecDepth 100000 in
theorem slices_partitionEqualOrdered_uint64_ok {p0 : Sl} {p1 : Int} {p2 : Int} {p3 : Int} {w : World} {Q : Value → World → Prop} (h : slices_partitionEqualOrdered_uint64 p0 p1 p2 p3 w Q) : callP Tryz.prog 94 #[(.slice p0.p p0.len p0.cap), (.int .i64 p1), (.int .i64 p2), (.int .i64 p3)] w Q := by
  have e : slices_partitionEqualOrdered_uint64 p0 p1 p2 p3 w Q = denF Tryz.prog ⟨[(3, [(9, false, [(.int .i64)])], [0, 1, 10]), (5, [(10, false, [(.int .i64)])], [0, 1, 9]), (10003, [(9, false, [(.int .i64)]), (10, false, [(.int .i64)])], [0, 1])], [(5, [(9, false, [(.int .i64)])], [0, 1, 10]), (7, [(10, false, [(.int .i64)])], [0, 1, 9])], []⟩ Tryz.f94 [(.slice p0.p p0.len p0.cap), (.int .i64 p1), (.int .i64 p2), (.int .i64 p3)] w Q := by kernel_rfl
  exact denF_sound mixed Tryz.func94 (Eq.mp e h)

/-- slices.partitionOrdered[uint64] -/
def slices_partitionOrdered_uint64 (p0 : Sl) (p1 : Int) (p2 : Int) (p3 : Int) (w : World) (Q : Value → World → Prop) : Prop :=
  dr w fun w1 =>
  ((0 : Int) ≤ p3 ∧ p3 < ((p0.len : Nat) : Int)) ∧
  nn p0.p fun a18 =>
  rd (.int .u64) w1 (Addr.add a18 ((p3 : Int).toNat * 1)) 0 fun x19 =>
  ((0 : Int) ≤ p1 ∧ p1 < ((p0.len : Nat) : Int)) ∧
  nn p0.p fun a22 =>
  rd (.int .u64) w1 (Addr.add a22 ((p1 : Int).toNat * 1)) 0 fun x23 =>
  ((0 : Int) ≤ p1 ∧ p1 < ((p0.len : Nat) : Int)) ∧
  nn p0.p fun a24 =>
  wr w1 (Addr.add a24 ((p1 : Int).toNat * 1)) [(.int .u64 x19)] fun w_1 =>
  ((0 : Int) ≤ p3 ∧ p3 < ((p0.len : Nat) : Int)) ∧
  nn p0.p fun a25 =>
  wr w_1 (Addr.add a25 ((p3 : Int).toNat * 1)) [(.int .u64 x23)] fun w_2 =>
  ∃ J : Int → World → Prop, (∃ (I : Int → World → Prop) (μ : Int → World → Nat), (I (IntKind.wrap .i64 (p1 + 1)) w_2) ∧
  ∀ x10 : Int, ∀ (w_3 : World) (K : Int → World → Prop), I x10 w_3 →
    (∀ x10' : Int, ∀ w' : World, I x10' w' → μ x10' w' < μ x10 w_3 → K x10' w') →
  dr w_3 fun w_4 =>
  br (decide ((x10 : Int) ≤ (IntKind.wrap .i64 (p2 - 1))))
    (((0 : Int) ≤ x10 ∧ x10 < ((p0.len : Nat) : Int)) ∧
    nn p0.p fun a36 =>
    rd (.int .u64) w_4 (Addr.add a36 ((x10 : Int).toNat * 1)) 0 fun x37 =>
    ((0 : Int) ≤ p1 ∧ p1 < ((p0.len : Nat) : Int)) ∧
    nn p0.p fun a40 =>
    rd (.int .u64) w_4 (Addr.add a40 ((p1 : Int).toNat * 1)) 0 fun x41 =>
    callP Tryz.prog 93 #[(.int .u64 x37), (.int .u64 x41)] w_4 fun v w_5 =>
    ∃ r42 : Bool, v = (.bool r42) ∧
    br r42
      (K (IntKind.wrap .i64 (x10 + 1)) w_5)
      (J x10 w_5))
    (J x10 w_4)) ∧
  ∀ x10 : Int, ∀ w_3 : World, J x10 w_3 →
  ∃ J_1 : Int → World → Prop, (∃ (I : Int → World → Prop) (μ : Int → World → Nat), (I (IntKind.wrap .i64 (p2 - 1)) w_3) ∧
  ∀ x11 : Int, ∀ (w_4 : World) (K : Int → World → Prop), I x11 w_4 →
    (∀ x11' : Int, ∀ w' : World, I x11' w' → μ x11' w' < μ x11 w_4 → K x11' w') →
  dr w_4 fun w_5 =>
  br (decide ((x10 : Int) ≤ x11))
    (((0 : Int) ≤ x11 ∧ x11 < ((p0.len : Nat) : Int)) ∧
    nn p0.p fun a52 =>
    rd (.int .u64) w_5 (Addr.add a52 ((x11 : Int).toNat * 1)) 0 fun x53 =>
    ((0 : Int) ≤ p1 ∧ p1 < ((p0.len : Nat) : Int)) ∧
    nn p0.p fun a56 =>
    rd (.int .u64) w_5 (Addr.add a56 ((p1 : Int).toNat * 1)) 0 fun x57 =>
    callP Tryz.prog 93 #[(.int .u64 x53), (.int .u64 x57)] w_5 fun v w_6 =>
    ∃ r58 : Bool, v = (.bool r58) ∧
    br (!r58)
      (K (IntKind.wrap .i64 (x11 - 1)) w_6)
      (J_1 x11 w_6))
    (J_1 x11 w_5)) ∧
  ∀ x11 : Int, ∀ w_4 : World, J_1 x11 w_4 →
  br (decide ((x10 : Int) > x11))
    (dr w_4 fun w_5 =>
    ((0 : Int) ≤ p1 ∧ p1 < ((p0.len : Nat) : Int)) ∧
    nn p0.p fun a72 =>
    rd (.int .u64) w_5 (Addr.add a72 ((p1 : Int).toNat * 1)) 0 fun x73 =>
    ((0 : Int) ≤ x11 ∧ x11 < ((p0.len : Nat) : Int)) ∧
    nn p0.p fun a76 =>
    rd (.int .u64) w_5 (Addr.add a76 ((x11 : Int).toNat * 1)) 0 fun x77 =>
    ((0 : Int) ≤ x11 ∧ x11 < ((p0.len : Nat) : Int)) ∧
    nn p0.p fun a78 =>
    wr w_5 (Addr.add a78 ((x11 : Int).toNat * 1)) [(.int .u64 x73)] fun w_6 =>
    ((0 : Int) ≤ p1 ∧ p1 < ((p0.len : Nat) : Int)) ∧
    nn p0.p fun a79 =>
    wr w_6 (Addr.add a79 ((p1 : Int).toNat * 1)) [(.int .u64 x77)] fun w_7 =>
    Q (.tuple #[(.int .i64 x11), (.bool true)]) w_7)
    (dr w_4 fun w_5 =>
    ((0 : Int) ≤ x11 ∧ x11 < ((p0.len : Nat) : Int)) ∧
    nn p0.p fun a87 =>
    rd (.int .u64) w_5 (Addr.add a87 ((x11 : Int).toNat * 1)) 0 fun x88 =>
    ((0 : Int) ≤ x10 ∧ x10 < ((p0.len : Nat) : Int)) ∧
    nn p0.p fun a91 =>
    rd (.int .u64) w_5 (Addr.add a91 ((x10 : Int).toNat * 1)) 0 fun x92 =>
    ((0 : Int) ≤ x10 ∧ x10 < ((p0.len : Nat) : Int)) ∧
    nn p0.p fun a93 =>
    wr w_5 (Addr.add a93 ((x10 : Int).toNat * 1)) [(.int .u64 x88)] fun w_6 =>
    ((0 : Int) ≤ x11 ∧ x11 < ((p0.len : Nat) : Int)) ∧
    nn p0.p fun a94 =>
    wr w_6 (Addr.add a94 ((x11 : Int).toNat * 1)) [(.int .u64 x92)] fun w_7 =>
    ∃ (I : Int → Int → World → Prop) (μ : Int → Int → World → Nat), (I (IntKind.wrap .i64 (x10 + 1)) (IntKind.wrap .i64 (x11 - 1)) w_7) ∧
    ∀ x10_1 : Int, ∀ x11_1 : Int, ∀ (w_8 : World) (K : Int → Int → World → Prop), I x10_1 x11_1 w_8 →
      (∀ x10' : Int, ∀ x11' : Int, ∀ w' : World, I x10' x11' w' → μ x10' x11' w' < μ x10_1 x11_1 w_8 → K x10' x11' w') →
    ∃ J_2 : Int → World → Prop, (∃ (I_1 : Int → World → Prop) (μ_1 : Int → World → Nat), (I_1 x10_1 w_8) ∧
    ∀ x10_2 : Int, ∀ (w_9 : World) (K_1 : Int → World → Prop), I_1 x10_2 w_9 →
      (∀ x10' : Int, ∀ w' : World, I_1 x10' w' → μ_1 x10' w' < μ_1 x10_2 w_9 → K_1 x10' w') →
    dr w_9 fun w_10 =>
    br (decide ((x10_2 : Int) ≤ x11_1))
      (((0 : Int) ≤ x10_2 ∧ x10_2 < ((p0.len : Nat) : Int)) ∧
      nn p0.p fun a105 =>
      rd (.int .u64) w_10 (Addr.add a105 ((x10_2 : Int).toNat * 1)) 0 fun x106 =>
      ((0 : Int) ≤ p1 ∧ p1 < ((p0.len : Nat) : Int)) ∧
      nn p0.p fun a109 =>
      rd (.int .u64) w_10 (Addr.add a109 ((p1 : Int).toNat * 1)) 0 fun x110 =>
      callP Tryz.prog 93 #[(.int .u64 x106), (.int .u64 x110)] w_10 fun v w_11 =>
      ∃ r111 : Bool, v = (.bool r111) ∧
      br r111
        (K_1 (IntKind.wrap .i64 (x10_2 + 1)) w_11)
        (J_2 x10_2 w_11))
      (J_2 x10_2 w_10)) ∧
    ∀ x10_2 : Int, ∀ w_9 : World, J_2 x10_2 w_9 →
    ∃ J_3 : Int → World → Prop, (∃ (I_1 : Int → World → Prop) (μ_1 : Int → World → Nat), (I_1 x11_1 w_9) ∧
    ∀ x11_2 : Int, ∀ (w_10 : World) (K_1 : Int → World → Prop), I_1 x11_2 w_10 →
      (∀ x11' : Int, ∀ w' : World, I_1 x11' w' → μ_1 x11' w' < μ_1 x11_2 w_10 → K_1 x11' w') →
    dr w_10 fun w_11 =>
    br (decide ((x10_2 : Int) ≤ x11_2))
      (((0 : Int) ≤ x11_2 ∧ x11_2 < ((p0.len : Nat) : Int)) ∧
      nn p0.p fun a121 =>
      rd (.int .u64) w_11 (Addr.add a121 ((x11_2 : Int).toNat * 1)) 0 fun x122 =>
      ((0 : Int) ≤ p1 ∧ p1 < ((p0.len : Nat) : Int)) ∧
      nn p0.p fun a125 =>
      rd (.int .u64) w_11 (Addr.add a125 ((p1 : Int).toNat * 1)) 0 fun x126 =>
      callP Tryz.prog 93 #[(.int .u64 x122), (.int .u64 x126)] w_11 fun v w_12 =>
      ∃ r127 : Bool, v = (.bool r127) ∧
      br (!r127)
        (K_1 (IntKind.wrap .i64 (x11_2 - 1)) w_12)
        (J_3 x11_2 w_12))
      (J_3 x11_2 w_11)) ∧
    ∀ x11_2 : Int, ∀ w_10 : World, J_3 x11_2 w_10 →
    br (decide ((x10_2 : Int) > x11_2))
      (dr w_10 fun w_11 =>
      ((0 : Int) ≤ p1 ∧ p1 < ((p0.len : Nat) : Int)) ∧
      nn p0.p fun a159 =>
      rd (.int .u64) w_11 (Addr.add a159 ((p1 : Int).toNat * 1)) 0 fun x160 =>
      ((0 : Int) ≤ x11_2 ∧ x11_2 < ((p0.len : Nat) : Int)) ∧
      nn p0.p fun a163 =>
      rd (.int .u64) w_11 (Addr.add a163 ((x11_2 : Int).toNat * 1)) 0 fun x164 =>
      ((0 : Int) ≤ x11_2 ∧ x11_2 < ((p0.len : Nat) : Int)) ∧
      nn p0.p fun a165 =>
      wr w_11 (Addr.add a165 ((x11_2 : Int).toNat * 1)) [(.int .u64 x160)] fun w_12 =>
      ((0 : Int) ≤ p1 ∧ p1 < ((p0.len : Nat) : Int)) ∧
      nn p0.p fun a166 =>
      wr w_12 (Addr.add a166 ((p1 : Int).toNat * 1)) [(.int .u64 x164)] fun w_13 =>
      Q (.tuple #[(.int .i64 x11_2), (.bool false)]) w_13)
      (dr w_10 fun w_11 =>
      ((0 : Int) ≤ x11_2 ∧ x11_2 < ((p0.len : Nat) : Int)) ∧
      nn p0.p fun a141 =>
      rd (.int .u64) w_11 (Addr.add a141 ((x11_2 : Int).toNat * 1)) 0 fun x142 =>
      ((0 : Int) ≤ x10_2 ∧ x10_2 < ((p0.len : Nat) : Int)) ∧
      nn p0.p fun a145 =>
      rd (.int .u64) w_11 (Addr.add a145 ((x10_2 : Int).toNat * 1)) 0 fun x146 =>
      ((0 : Int) ≤ x10_2 ∧ x10_2 < ((p0.len : Nat) : Int)) ∧
      nn p0.p fun a147 =>
      wr w_11 (Addr.add a147 ((x10_2 : Int).toNat * 1)) [(.int .u64 x142)] fun w_12 =>
      ((0 : Int) ≤ x11_2 ∧ x11_2 < ((p0.len : Nat) : Int)) ∧
      nn p0.p fun a148 =>
      wr w_12 (Addr.add a148 ((x11_2 : Int).toNat * 1)) [(.int .u64 x146)] fun w_13 =>
      K (IntKind.wrap .i64 (x10_2 + 1)) (IntKind.wrap .i64 (x11_2 - 1)) w_13))
set_option maxRecDepth 100000 in
theorem slices_partitionOrdered_uint64_ok {p0 : Sl} {p1 : Int} {p2 : Int} {p3 : Int} {w : World} {Q : Value → World → Prop} (h : slices_partitionOrdered_uint64 p0 p1 p2 p3 w Q) : callP Tryz.prog 95 #[(.slice p0.p p0.len p0.cap), (.int .i64 p1), (.int .i64 p2), (.int .i64 p3)] w Q := by
  have e : slices_partitionOrdered_uint64 p0 p1 p2 p3 w Q = denF Tryz.prog ⟨[(3, [(10, false, [(.int .i64)])], [0, 1, 11]), (5, [(11, false, [(.int .i64)])], [0, 1, 10]), (13, [(10, false, [(.int .i64)])], [0, 1, 11]), (15, [(11, false, [(.int .i64)])], [0, 1, 10]), (10013, [(10, false, [(.int .i64)]), (11, false, [(.int .i64)])], [0, 1])], [(5, [(10, false, [(.int .i64)])], [0, 1, 11]), (7, [(11, false, [(.int .i64)])], [0, 1, 10]), (15, [(10, false, [(.int .i64)])], [0, 1, 11]), (17, [(11, false, [(.int .i64)])], [0, 1, 10])], []⟩ Tryz.f95 [(.slice p0.p p0.len p0.cap), (.int .i64 p1), (.int .i64 p2), (.int .i64 p3)] w Q := by kernel_rfl
  exact denF_sound mixed Tryz.func95 (Eq.mp e h)

/-- slices.siftDownOrdered[uint64] -/
def slices_siftDownOrdered_uint64 (p0 : Sl) (p1 : Int) (p2 : Int) (p3 : Int) (w : World) (Q : Value → World → Prop) : Prop :=
  ∃ (I : Int → World → Prop) (μ : Int → World → Nat), (I p1 w) ∧
  ∀ x8 : Int, ∀ (w1 : World) (K : Int → World → Prop), I x8 w1 →
    (∀ x8' : Int, ∀ w' : World, I x8' w' → μ x8' w' < μ x8 w1 → K x8' w') →
  br (decide (((IntKind.wrap .i64 ((IntKind.wrap .i64 (2 * x8)) + 1)) : Int) ≥ p2))
    (Q (.tuple #[]) w1)
    (∃ J : Int → World → Prop, (dr w1 fun w_1 =>
    br (decide (((IntKind.wrap .i64 ((IntKind.wrap .i64 ((IntKind.wrap .i64 (2 * x8)) + 1)) + 1)) : Int) < p2))
      (((0 : Int) ≤ (IntKind.wrap .i64 (p3 + (IntKind.wrap .i64 ((IntKind.wrap .i64 (2 * x8)) + 1)))) ∧ (IntKind.wrap .i64 (p3 + (IntKind.wrap .i64 ((IntKind.wrap .i64 (2 * x8)) + 1)))) < ((p0.len : Nat) : Int)) ∧
      nn p0.p fun a26 =>
      rd (.int .u64) w_1 (Addr.add a26 (((IntKind.wrap .i64 (p3 + (IntKind.wrap .i64 ((IntKind.wrap .i64 (2 * x8)) + 1)))) : Int).toNat * 1)) 0 fun x27 =>
      ((0 : Int) ≤ (IntKind.wrap .i64 ((IntKind.wrap .i64 (p3 + (IntKind.wrap .i64 ((IntKind.wrap .i64 (2 * x8)) + 1)))) + 1)) ∧ (IntKind.wrap .i64 ((IntKind.wrap .i64 (p3 + (IntKind.wrap .i64 ((IntKind.wrap .i64 (2 * x8)) + 1)))) + 1)) < ((p0.len : Nat) : Int)) ∧
      nn p0.p fun a33 =>
      rd (.int .u64) w_1 (Addr.add a33 (((IntKind.wrap .i64 ((IntKind.wrap .i64 (p3 + (IntKind.wrap .i64 ((IntKind.wrap .i64 (2 * x8)) + 1)))) + 1)) : Int).toNat * 1)) 0 fun x34 =>
      callP Tryz.prog 93 #[(.int .u64 x27), (.int .u64 x34)] w_1 fun v w_2 =>
      ∃ r35 : Bool, v = (.bool r35) ∧
      br r35
        (J (IntKind.wrap .i64 ((IntKind.wrap .i64 ((IntKind.wrap .i64 (2 * x8)) + 1)) + 1)) w_2)
        (J (IntKind.wrap .i64 ((IntKind.wrap .i64 (2 * x8)) + 1)) w_2))
      (J (IntKind.wrap .i64 ((IntKind.wrap .i64 (2 * x8)) + 1)) w_1)) ∧
    ∀ x9 : Int, ∀ w_1 : World, J x9 w_1 →
    dr w_1 fun w_2 =>
    ((0 : Int) ≤ (IntKind.wrap .i64 (p3 + x8)) ∧ (IntKind.wrap .i64 (p3 + x8)) < ((p0.len : Nat) : Int)) ∧
    nn p0.p fun a43 =>
    rd (.int .u64) w_2 (Addr.add a43 (((IntKind.wrap .i64 (p3 + x8)) : Int).toNat * 1)) 0 fun x44 =>
    ((0 : Int) ≤ (IntKind.wrap .i64 (p3 + x9)) ∧ (IntKind.wrap .i64 (p3 + x9)) < ((p0.len : Nat) : Int)) ∧
    nn p0.p fun a49 =>
    rd (.int .u64) w_2 (Addr.add a49 (((IntKind.wrap .i64 (p3 + x9)) : Int).toNat * 1)) 0 fun x50 =>
    callP Tryz.prog 93 #[(.int .u64 x44), (.int .u64 x50)] w_2 fun v w_3 =>
    ∃ r51 : Bool, v = (.bool r51) ∧
    br (!r51)
      (Q (.tuple #[]) w_3)
      (dr w_3 fun w_4 =>
      ((0 : Int) ≤ (IntKind.wrap .i64 (p3 + x9)) ∧ (IntKind.wrap .i64 (p3 + x9)) < ((p0.len : Nat) : Int)) ∧
      nn p0.p fun a65 =>
      rd (.int .u64) w_4 (Addr.add a65 (((IntKind.wrap .i64 (p3 + x9)) : Int).toNat * 1)) 0 fun x66 =>
      ((0 : Int) ≤ (IntKind.wrap .i64 (p3 + x8)) ∧ (IntKind.wrap .i64 (p3 + x8)) < ((p0.len : Nat) : Int)) ∧
      nn p0.p fun a71 =>
      rd (.int .u64) w_4 (Addr.add a71 (((IntKind.wrap .i64 (p3 + x8)) : Int).toNat * 1)) 0 fun x72 =>
      ((0 : Int) ≤ (IntKind.wrap .i64 (p3 + x8)) ∧ (IntKind.wrap .i64 (p3 + x8)) < ((p0.len : Nat) : Int)) ∧
      nn p0.p fun a73 =>
      wr w_4 (Addr.add a73 (((IntKind.wrap .i64 (p3 + x8)) : Int).toNat * 1)) [(.int .u64 x66)] fun w_5 =>
      ((0 : Int) ≤ (IntKind.wrap .i64 (p3 + x9)) ∧ (IntKind.wrap .i64 (p3 + x9)) < ((p0.len : Nat) : Int)) ∧
      nn p0.p fun a74 =>
      wr w_5 (Addr.add a74 (((IntKind.wrap .i64 (p3 + x9)) : Int).toNat * 1)) [(.int .u64 x72)] fun w_6 =>
      K x9 w_6))
set_option maxRecDepth 100000 in
theorem slices_siftDownOrdered_uint64_ok {p0 : Sl} {p1 : Int} {p2 : Int} {p3 : Int} {w : World} {Q : Value → World → Prop} (h : slices_siftDownOrdered_uint64 p0 p1 p2 p3 w Q) : callP Tryz.prog 110 #[(.slice p0.p p0.len p0.cap), (.int .i64 p1), (.int .i64 p2), (.int .i64 p3)] w Q := by
  have e : slices_siftDownOrdered_uint64 p0 p1 p2 p3 w Q = denF Tryz.prog ⟨[(1, [(8, false, [(.int .i64)])], [0, 2, 3])], [(5, [(9, false, [(.int .i64)])], [0, 2, 3, 8])], []⟩ Tryz.f110 [(.slice p0.p p0.len p0.cap), (.int .i64 p1), (.int .i64 p2), (.int .i64 p3)] w Q := by kernel_rfl
  exact denF_sound mixed Tryz.func110 (Eq.mp e h)

/-- slices.nextPowerOfTwo -/
def slices_nextPowerOfTwo (p0 : Int) (w : World) (Q : Value → World → Prop) : Prop :=
  callP Tryz.prog 74 #[(.int .u64 (IntKind.wrap .u64 p0))] w fun v w1 =>
  ∃ r5 : Int, v = (.int .i64 r5) ∧
  (0 : Int) ≤ r5 ∧
  Q (.int .u64 (ishl .u64 1 r5)) w1
set_option maxRecDepth 100000 in
theorem slices_nextPowerOfTwo_ok {p0 : Int} {w : World} {Q : Value → World → Prop} (h : slices_nextPowerOfTwo p0 w Q) : callP Tryz.prog 111 #[(.int .i64 p0)] w Q := by
  have e : slices_nextPowerOfTwo p0 w Q = denF Tryz.prog ⟨[], [], []⟩ Tryz.f111 [(.int .i64 p0)] w Q := by kernel_rfl
  exact denF_sound mixed Tryz.func111 (Eq.mp e h)

/-- (*slices.xorshift).Next -/
def slices_xorshift_Next (p0 : Option Addr) (w : World) (Q : Value → World → Prop) : Prop :=
  dr w fun w1 =>
  nn p0 fun a4 =>
  rd (.int .u64) w1 a4 0 fun x5 =>
  nn p0 fun a7 =>
  rd (.int .u64) w1 a7 0 fun x8 =>
  (0 : Int) ≤ 13 ∧
  nn p0 fun a11 =>
  wr w1 a11 [(.int .u64 (ixor .u64 x5 (ishl .u64 x8 13)))] fun w_1 =>
  dr w_1 fun w_2 =>
  nn p0 fun a13 =>
  rd (.int .u64) w_2 a13 0 fun x14 =>
  nn p0 fun a16 =>
  rd (.int .u64) w_2 a16 0 fun x17 =>
  (0 : Int) ≤ 7 ∧
  nn p0 fun a20 =>
  wr w_2 a20 [(.int .u64 (ixor .u64 x14 (ishr .u64 x17 7)))] fun w_3 =>
  dr w_3 fun w_4 =>
  nn p0 fun a22 =>
  rd (.int .u64) w_4 a22 0 fun x23 =>
  nn p0 fun a25 =>
  rd (.int .u64) w_4 a25 0 fun x26 =>
  (0 : Int) ≤ 17 ∧
  nn p0 fun a29 =>
  wr w_4 a29 [(.int .u64 (ixor .u64 x23 (ishl .u64 x26 17)))] fun w_5 =>
  nn p0 fun a31 =>
  rd (.int .u64) w_5 a31 0 fun x32 =>
  Q (.int .u64 x32) w_5
set_option maxRecDepth 100000 in
theorem slices_xorshift_Next_ok {p0 : Option Addr} {w : World} {Q : Value → World → Prop} (h : slices_xorshift_Next p0 w Q) : callP Tryz.prog 112 #[(.pointer p0)] w Q := by
  have e : slices_xorshift_Next p0 w Q = denF Tryz.prog ⟨[], [], []⟩ Tryz.f112 [(.pointer p0)] w Q := by kernel_rfl
  exact denF_sound mixed Tryz.func112 (Eq.mp e h)

/-- slices.medianAdjacentOrdered[uint64] -/
def slices_medianAdjacentOrdered_uint64 (p0 : Sl) (p1 : Int) (p2 : Option Addr) (w : World) (Q : Value → World → Prop) : Prop :=
  callP Tryz.prog 114 #[(.slice p0.p p0.len p0.cap), (.int .i64 (IntKind.wrap .i64 (p1 - 1))), (.int .i64 p1), (.int .i64 (IntKind.wrap .i64 (p1 + 1))), (.pointer p2)] w fun v w1 =>
  ∃ r14 : Int, v = (.int .i64 r14) ∧
  Q (.int .i64 r14) w1
set_option maxRecDepth 100000 in
theorem slices_medianAdjacentOrdered_uint64_ok {p0 : Sl} {p1 : Int} {p2 : Option Addr} {w : World} {Q : Value → World → Prop} (h : slices_medianAdjacentOrdered_uint64 p0 p1 p2 w Q) : callP Tryz.prog 113 #[(.slice p0.p p0.len p0.cap), (.int .i64 p1), (.pointer p2)] w Q := by
  have e : slices_medianAdjacentOrdered_uint64 p0 p1 p2 w Q = denF Tryz.prog ⟨[], [], []⟩ Tryz.f113 [(.slice p0.p p0.len p0.cap), (.int .i64 p1), (.pointer p2)] w Q := by kernel_rfl
  exact denF_sound mixed Tryz.func113 (Eq.mp e h)

/-- slices.medianOrdered[uint64] -/
def slices_medianOrdered_uint64 (p0 : Sl) (p1 : Int) (p2 : Int) (p3 : Int) (p4 : Option Addr) (w : World) (Q : Value → World → Prop) : Prop :=
  callP Tryz.prog 120 #[(.slice p0.p p0.len p0.cap), (.int .i64 p1), (.int .i64 p2), (.pointer p4)] w fun v w1 =>
  ∃ r16 : Int, ∃ r16_1 : Int, v = .tuple #[(.int .i64 r16), (.int .i64 r16_1)] ∧
  callP Tryz.prog 120 #[(.slice p0.p p0.len p0.cap), (.int .i64 r16_1), (.int .i64 p3), (.pointer p4)] w1 fun v_1 w_1 =>
  ∃ r24 : Int, ∃ r24_1 : Int, v_1 = .tuple #[(.int .i64 r24), (.int .i64 r24_1)] ∧
  callP Tryz.prog 120 #[(.slice p0.p p0.len p0.cap), (.int .i64 r16), (.int .i64 r24), (.pointer p4)] w_1 fun v_2 w_2 =>
  ∃ r32 : Int, ∃ r32_1 : Int, v_2 = .tuple #[(.int .i64 r32), (.int .i64 r32_1)] ∧
  Q (.int .i64 r32_1) w_2
set_option maxRecDepth 100000 in
theorem slices_medianOrdered_uint64_ok {p0 : Sl} {p1 : Int} {p2 : Int} {p3 : Int} {p4 : Option Addr} {w : World} {Q : Value → World → Prop} (h : slices_medianOrdered_uint64 p0 p1 p2 p3 p4 w Q) : callP Tryz.prog 114 #[(.slice p0.p p0.len p0.cap), (.int .i64 p1), (.int .i64 p2), (.int .i64 p3), (.pointer p4)] w Q := by
  have e : slices_medianOrdered_uint64 p0 p1 p2 p3 p4 w Q = denF Tryz.prog ⟨[], [], []⟩ Tryz.f114 [(.slice p0.p p0.len p0.cap), (.int .i64 p1), (.int .i64 p2), (.int .i64 p3), (.pointer p4)] w Q := by kernel_rfl
  exact denF_sound mixed Tryz.func114 (Eq.mp e h)

/-- slices.order2Ordered[uint64] -/
def slices_order2Ordered_uint64 (p0 : Sl) (p1 : Int) (p2 : Int) (p3 : Option Addr) (w : World) (Q : Value → World → Prop) : Prop :=
  dr w fun w1 =>
  ((0 : Int) ≤ p2 ∧ p2 < ((p0.len : Nat) : Int)) ∧
  nn p0.p fun a12 =>
  rd (.int .u64) w1 (Addr.add a12 ((p2 : Int).toNat * 1)) 0 fun x13 =>
  ((0 : Int) ≤ p1 ∧ p1 < ((p0.len : Nat) : Int)) ∧
  nn p0.p fun a16 =>
  rd (.int .u64) w1 (Addr.add a16 ((p1 : Int).toNat * 1)) 0 fun x17 =>
  callP Tryz.prog 93 #[(.int .u64 x13), (.int .u64 x17)] w1 fun v w_1 =>
  ∃ r18 : Bool, v = (.bool r18) ∧
  br r18
    (nn p3 fun a20 =>
    rd (.int .i64) w_1 a20 0 fun x21 =>
    nn p3 fun a23 =>
    wr w_1 a23 [(.int .i64 (IntKind.wrap .i64 (x21 + 1)))] fun w_2 =>
    Q (.tuple #[(.int .i64 p2), (.int .i64 p1)]) w_2)
    (Q (.tuple #[(.int .i64 p1), (.int .i64 p2)]) w_1)
set_option maxRecDepth 100000 in
theorem slices_order2Ordered_uint64_ok {p0 : Sl} {p1 : Int} {p2 : Int} {p3 : Option Addr} {w : World} {Q : Value → World → Prop} (h : slices_order2Ordered_uint64 p0 p1 p2 p3 w Q) : callP Tryz.prog 120 #[(.slice p0.p p0.len p0.cap), (.int .i64 p1), (.int .i64 p2), (.pointer p3)] w Q := by
  have e : slices_order2Ordered_uint64 p0 p1 p2 p3 w Q = denF Tryz.prog ⟨[], [], []⟩ Tryz.f120 [(.slice p0.p p0.len p0.cap), (.int .i64 p1), (.int .i64 p2), (.pointer p3)] w Q := by kernel_rfl
  exact denF_sound mixed Tryz.func120 (Eq.mp e h)

/-- slices.pdqsortOrdered[uint64] -/
def slices_pdqsortOrdered_uint64 (p0 : Sl) (p1 : Int) (p2 : Int) (p3 : Int) (w : World) (Q : Value → World → Prop) : Prop :=
  ∃ (I : Int → Int → Int → Bool → Bool → World → Prop) (μ : Int → Int → Int → Bool → Bool → World → Nat), (I p1 p2 p3 true true w) ∧
  ∀ x1 : Int, ∀ x2 : Int, ∀ x3 : Int, ∀ x8 : Bool, ∀ x9 : Bool, ∀ (w1 : World) (K : Int → Int → Int → Bool → Bool → World → Prop), I x1 x2 x3 x8 x9 w1 →
    (∀ x1' : Int, ∀ x2' : Int, ∀ x3' : Int, ∀ x8' : Bool, ∀ x9' : Bool, ∀ w' : World, I x1' x2' x3' x8' x9' w' → μ x1' x2' x3' x8' x9' w' < μ x1 x2 x3 x8 x9 w1 → K x1' x2' x3' x8' x9' w') →
  br (decide (((IntKind.wrap .i64 (x2 - x1)) : Int) ≤ 12))
    (callP Tryz.prog 87 #[(.slice p0.p p0.len p0.cap), (.int .i64 x1), (.int .i64 x2)] w1 fun v w_1 =>
    v = .tuple #[] ∧
    Q (.tuple #[]) w_1)
    (br ((x3 : Int) == 0)
      (callP Tryz.prog 88 #[(.slice p0.p p0.len p0.cap), (.int .i64 x1), (.int .i64 x2)] w1 fun v w_1 =>
      v = .tuple #[] ∧
      Q (.tuple #[]) w_1)
      (∃ J : Int → World → Prop, (br (!x8)
        (callP Tryz.prog 89 #[(.slice p0.p p0.len p0.cap), (.int .i64 x1), (.int .i64 x2)] w1 fun v w_1 =>
        v = .tuple #[] ∧
        J (IntKind.wrap .i64 (x3 - 1)) w_1)
        (J x3 w1)) ∧
      ∀ x3_1 : Int, ∀ w_1 : World, J x3_1 w_1 →
      callP Tryz.prog 90 #[(.slice p0.p p0.len p0.cap), (.int .i64 x1), (.int .i64 x2)] w_1 fun v w_2 =>
      ∃ r46 : Int, ∃ r46_1 : Int, v = .tuple #[(.int .i64 r46), (.int .i64 r46_1)] ∧
      ∃ J_1 : Int → Int → World → Prop, (br ((r46_1 : Int) == 2)
        (callP Tryz.prog 91 #[(.slice p0.p p0.len p0.cap), (.int .i64 x1), (.int .i64 x2)] w_2 fun v_1 w_3 =>
        v_1 = .tuple #[] ∧
        J_1 (IntKind.wrap .i64 ((IntKind.wrap .i64 (x2 - 1)) - (IntKind.wrap .i64 (r46 - x1)))) 1 w_3)
        (J_1 r46 r46_1 w_2)) ∧
      ∀ x11 : Int, ∀ x12 : Int, ∀ w_3 : World, J_1 x11 x12 w_3 →
      ∃ J_2 : World → Prop, (br x8
        (br x9
          (br ((x12 : Int) == 1)
            (callP Tryz.prog 92 #[(.slice p0.p p0.len p0.cap), (.int .i64 x1), (.int .i64 x2)] w_3 fun v_1 w_4 =>
            ∃ r72 : Bool, v_1 = (.bool r72) ∧
            br r72
              (Q (.tuple #[]) w_4)
              (J_2 w_4))
            (J_2 w_3))
          (J_2 w_3))
        (J_2 w_3)) ∧
      ∀ w_4 : World, J_2 w_4 →
      ∃ J_3 : Int → World → Prop, (dr w_4 fun w_5 =>
      br (decide ((x1 : Int) > 0))
        (((0 : Int) ≤ (IntKind.wrap .i64 (x1 - 1)) ∧ (IntKind.wrap .i64 (x1 - 1)) < ((p0.len : Nat) : Int)) ∧
        nn p0.p fun a79 =>
        rd (.int .u64) w_5 (Addr.add a79 (((IntKind.wrap .i64 (x1 - 1)) : Int).toNat * 1)) 0 fun x80 =>
        ((0 : Int) ≤ x11 ∧ x11 < ((p0.len : Nat) : Int)) ∧
        nn p0.p fun a83 =>
        rd (.int .u64) w_5 (Addr.add a83 ((x11 : Int).toNat * 1)) 0 fun x84 =>
        callP Tryz.prog 93 #[(.int .u64 x80), (.int .u64 x84)] w_5 fun v_1 w_6 =>
        ∃ r85 : Bool, v_1 = (.bool r85) ∧
        br (!r85)
          (callP Tryz.prog 94 #[(.slice p0.p p0.len p0.cap), (.int .i64 x1), (.int .i64 x2), (.int .i64 x11)] w_6 fun v_2 w_7 =>
          ∃ r92 : Int, v_2 = (.int .i64 r92) ∧
          K r92 x2 x3_1 x8 x9 w_7)
          (J_3 x1 w_6))
        (J_3 x1 w_5)) ∧
      ∀ x1_1 : Int, ∀ w_5 : World, J_3 x1_1 w_5 →
      callP Tryz.prog 95 #[(.slice p0.p p0.len p0.cap), (.int .i64 x1_1), (.int .i64 x2), (.int .i64 x11)] w_5 fun v_1 w_6 =>
      ∃ r99 : Int, ∃ r99_1 : Bool, v_1 = .tuple #[(.int .i64 r99), (.bool r99_1)] ∧
      (8 : Int) ≠ 0 ∧
      br (decide (((IntKind.wrap .i64 (r99 - x1_1)) : Int) < (IntKind.wrap .i64 (x2 - r99))))
        (callP Tryz.prog 73 #[(.slice p0.p p0.len p0.cap), (.int .i64 x1_1), (.int .i64 r99), (.int .i64 x3_1)] w_6 fun v_2 w_7 =>
        v_2 = .tuple #[] ∧
        K (IntKind.wrap .i64 (r99 + 1)) x2 x3_1 (decide (((IntKind.wrap .i64 (r99 - x1_1)) : Int) ≥ (IntKind.wrap .i64 (Int.tdiv (IntKind.wrap .i64 (x2 - x1)) 8)))) r99_1 w_7)
        (callP Tryz.prog 73 #[(.slice p0.p p0.len p0.cap), (.int .i64 (IntKind.wrap .i64 (r99 + 1))), (.int .i64 x2), (.int .i64 x3_1)] w_6 fun v_2 w_7 =>
        v_2 = .tuple #[] ∧
        K x1_1 r99 x3_1 (decide (((IntKind.wrap .i64 (x2 - r99)) : Int) ≥ (IntKind.wrap .i64 (Int.tdiv (IntKind.wrap .i64 (x2 - x1)) 8)))) r99_1 w_7)))
set_option maxRecDepth 100000 in
theorem slices_pdqsortOrdered_uint64_ok {p0 : Sl} {p1 : Int} {p2 : Int} {p3 : Int} {w : World} {Q : Value → World → Prop} (h : slices_pdqsortOrdered_uint64 p0 p1 p2 p3 w Q) : callP Tryz.prog 73 #[(.slice p0.p p0.len p0.cap), (.int .i64 p1), (.int .i64 p2), (.int .i64 p3)] w Q := by
  have e : slices_pdqsortOrdered_uint64 p0 p1 p2 p3 w Q = denF Tryz.prog ⟨[(2, [(1, false, [(.int .i64)]), (2, false, [(.int .i64)]), (3, false, [(.int .i64)]), (8, false, [.bool]), (9, false, [.bool])], [0])], [(10, [(3, false, [(.int .i64)])], [0, 1, 2, 8, 9, 10]), (15, [(11, false, [(.int .i64)]), (12, false, [(.int .i64)])], [0, 1, 2, 3, 8, 9, 10]), (17, [], [0, 1, 2, 3, 8, 9, 10, 11]), (20, [(1, false, [(.int .i64)])], [0, 2, 3, 10, 11])], []⟩ Tryz.f73 [(.slice p0.p p0.len p0.cap), (.int .i64 p1), (.int .i64 p2), (.int .i64 p3)] w Q := by kernel_rfl
  exact denF_sound mixed Tryz.func73 (Eq.mp e h)

end Go.Proofs.YtpcgkfgppfjnlaaGreatDoor.V
namespace Go.Proofs.YtpcgkfgppfjnlaaGreatDoor.V
open Go Go.Shelf
set_option maxRecDepth 100000
def sortDg_ren : Go.Shelf.Ren := ⟨fun | 6 => 52 | 15 => 74 | 14 => 76 | 28 => 96 | 29 => 97 | 20 => 98 | 21 => 99 | 22 => 100 | 23 => 101 | 24 => 102 | 25 => 103 | 26 => 104 | 27 => 105 | 46 => 116 | 47 => 111 | 48 => 112 | 49 => 117 | 50 => 118 | 57 => 121 | n => n, fun | 22 => 76 | 24 => 50 | 25 => 82 | 3 => 3 | 39 => 129 | 0 => 0 | 53 => 137 | 55 => 24 | 4 => 4 | 46 => 150 | 45 => 149 | 50 => 154 | 5 => 5 | 9 => 9 | 66 => 166 | 70 => 170 | 76 => 174 | 77 => 175 | n => n, fun | n => n⟩
theorem sortDg : Go.Proofs.SlLaysF0.n6 Tryz.prog sortDg_ren := {
  mixed := by kernel_rfl,
  f6 := ⟨Tryz.f52.name, by decide, Tryz.func52.trans (congrArg some (by kernel_rfl))⟩,
  f14 := ⟨Tryz.f76.name, by decide, Tryz.func76.trans (congrArg some (by kernel_rfl))⟩,
  f15 := Tryz.func74.trans (congrArg some (by kernel_rfl)),
  f20 := ⟨Tryz.f98.name, by decide, Tryz.func98.trans (congrArg some (by kernel_rfl))⟩,
  f21 := ⟨Tryz.f99.name, by decide, Tryz.func99.trans (congrArg some (by kernel_rfl))⟩,
  f22 := ⟨Tryz.f100.name, by decide, Tryz.func100.trans (congrArg some (by kernel_rfl))⟩,
  f23 := ⟨Tryz.f101.name, by decide, Tryz.func101.trans (congrArg some (by kernel_rfl))⟩,
  f24 := ⟨Tryz.f102.name, by decide, Tryz.func102.trans (congrArg some (by kernel_rfl))⟩,
  f25 := ⟨Tryz.f103.name, by decide, Tryz.func103.trans (congrArg some (by kernel_rfl))⟩,
  f26 := ⟨Tryz.f104.name, by decide, Tryz.func104.trans (congrArg some (by kernel_rfl))⟩,
  f27 := ⟨Tryz.f105.name, by decide, Tryz.func105.trans (congrArg some (by kernel_rfl))⟩,
  f28 := Tryz.func96.trans (congrArg some (by kernel_rfl)),
  f29 := Tryz.func97.trans (congrArg some (by kernel_rfl)),
  f46 := ⟨Tryz.f116.name, by decide, Tryz.func116.trans (congrArg some (by kernel_rfl))⟩,
  f47 := Tryz.func111.trans (congrArg some (by kernel_rfl)),
  f48 := Tryz.func112.trans (congrArg some (by kernel_rfl)),
  f49 := ⟨Tryz.f117.name, by decide, Tryz.func117.trans (congrArg some (by kernel_rfl))⟩,
  f50 := ⟨Tryz.f118.name, by decide, Tryz.func118.trans (congrArg some (by kernel_rfl))⟩,
  f57 := ⟨Tryz.f121.name, by decide, Tryz.func121.trans (congrArg some (by kernel_rfl))⟩,
  t0 := Tryz.underlying0,
  a0 := Tryz.isAgg0,
  z0 := Tryz.sizeOf0,
  v0 := Tryz.zeroValue0,
  t3 := Tryz.underlying3,
  a3 := Tryz.isAgg3,
  z3 := Tryz.sizeOf3,
  v3 := Tryz.zeroValue3,
  t4 := Tryz.underlying4,
  a4 := Tryz.isAgg4,
  z4 := Tryz.sizeOf4,
  v4 := Tryz.zeroValue4,
  t5 := Tryz.underlying5,
  a5 := Tryz.isAgg5,
  z5 := Tryz.sizeOf5,
  v5 := Tryz.zeroValue5,
  t9 := Tryz.underlying9,
  a9 := Tryz.isAgg9,
  z9 := Tryz.sizeOf9,
  v9 := Tryz.zeroValue9,
  t22 := Tryz.underlying76,
  a22 := Tryz.isAgg76,
  z22 := Tryz.sizeOf76,
  v22 := Tryz.zeroValue76,
  t25 := Tryz.underlying82,
  a25 := Tryz.isAgg82,
  z25 := Tryz.sizeOf82,
  v25 := Tryz.zeroValue82,
  t39 := Tryz.underlying129,
  a39 := Tryz.isAgg129,
  z39 := Tryz.sizeOf129,
  v39 := Tryz.zeroValue129,
  t45 := Tryz.underlying149,
  a45 := Tryz.isAgg149,
  z45 := Tryz.sizeOf149,
  v45 := Tryz.zeroValue149,
  t46 := Tryz.underlying150,
  a46 := Tryz.isAgg150,
  z46 := Tryz.sizeOf150,
  v46 := Tryz.zeroValue150,
  t50 := Tryz.underlying154,
  a50 := Tryz.isAgg154,
  z50 := Tryz.sizeOf154,
  v50 := Tryz.zeroValue154,
  t53 := Tryz.underlying137,
  a53 := Tryz.isAgg137,
  z53 := Tryz.sizeOf137,
  v53 := Tryz.zeroValue137,
  t55 := Tryz.underlying24,
  a55 := Tryz.isAgg24,
  z55 := Tryz.sizeOf24,
  v55 := Tryz.zeroValue24,
  t66 := Tryz.underlying166,
  a66 := Tryz.isAgg166,
  z66 := Tryz.sizeOf166,
  v66 := Tryz.zeroValue166,
  t70 := Tryz.underlying170,
  a70 := Tryz.isAgg170,
  z70 := Tryz.sizeOf170,
  v70 := Tryz.zeroValue170,
  t76 := Tryz.underlying174,
  a76 := Tryz.isAgg174,
  z76 := Tryz.sizeOf174,
  v76 := Tryz.zeroValue174,
  t77 := Tryz.underlying175,
  a77 := Tryz.isAgg175,
  z77 := Tryz.sizeOf175,
  v77 := Tryz.zeroValue175 }
end Go.Proofs.YtpcgkfgppfjnlaaGreatDoor.V
