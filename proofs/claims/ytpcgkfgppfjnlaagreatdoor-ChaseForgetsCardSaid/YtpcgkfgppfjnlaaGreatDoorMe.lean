/-
  CONDITIONS, printed by a program of this work (vcgen.py) off the given translation; the kernel checks each against the denotation.
-/
import Derived.Test.YtpcgkfgppfjnlaaGreatDoorMb
import Derived.Test.YtpcgkfgppfjnlaaGreatDoorProg
import Derived.Test.YtpcgkfgppfjnlaaGreatDoorMc
namespace Go.Proofs.YtpcgkfgppfjnlaaGreatDoor.V
open Go
set_option linter.unusedVariables false
/-- sortition/sortitionref01.Same -/
def sortitionref01_Same (p0 : Sl) (p1 : Sl) (w : World) (Q : Value → World → Prop) : Prop :=
  br ((((p0.len : Nat) : Int) : Int) != ((p1.len : Nat) : Int))
    (Q (.bool false) w)
    (∃ (I : Int → World → Prop) (μ : Int → World → Nat), (I 0 w) ∧
    ∀ x5 : Int, ∀ (w1 : World) (K : Int → World → Prop), I x5 w1 →
      (∀ x5' : Int, ∀ w' : World, I x5' w' → μ x5' w' < μ x5 w1 → K x5' w') →
    br (decide ((x5 : Int) < ((p0.len : Nat) : Int)))
      (dr w1 fun w_1 =>
      ((0 : Int) ≤ x5 ∧ x5 < ((p0.len : Nat) : Int)) ∧
      nn p0.p fun a19 =>
      rd (.int .u8) w_1 (Addr.add a19 ((x5 : Int).toNat * 1)) 0 fun x20 =>
      ((0 : Int) ≤ x5 ∧ x5 < ((p1.len : Nat) : Int)) ∧
      nn p1.p fun a23 =>
      rd (.int .u8) w_1 (Addr.add a23 ((x5 : Int).toNat * 1)) 0 fun x24 =>
      br ((x20 : Int) != x24)
        (Q (.bool false) w_1)
        (K (IntKind.wrap .i64 (x5 + 1)) w_1))
      (Q (.bool true) w1))
set_option maxRecDepth 100000 in
theorem sortitionref01_Same_ok {p0 : Sl} {p1 : Sl} {w : World} {Q : Value → World → Prop} (h : sortitionref01_Same p0 p1 w Q) : callP Tryz.prog 13 #[(.slice p0.p p0.len p0.cap), (.slice p1.p p1.len p1.cap)] w Q := by
  have e : sortitionref01_Same p0 p1 w Q = denF Tryz.prog ⟨[(4, [(5, false, [(.int .i64)])], [0, 1])], [], []⟩ Tryz.f13 [(.slice p0.p p0.len p0.cap), (.slice p1.p p1.len p1.cap)] w Q := by kernel_rfl
  exact denF_sound mixed Tryz.func13 (Eq.mp e h)

/-- sortition/sortitionref11.Lists -/
def sortitionref11_Lists (p0 : Sl) (p1 : Sl) (w : World) (Q : Value → World → Prop) : Prop :=
  br ((((p0.len : Nat) : Int) : Int) != ((p1.len : Nat) : Int))
    (Q (.bool false) w)
    (∃ (I : Int → World → Prop) (μ : Int → World → Nat), (I 0 w) ∧
    ∀ x5 : Int, ∀ (w1 : World) (K : Int → World → Prop), I x5 w1 →
      (∀ x5' : Int, ∀ w' : World, I x5' w' → μ x5' w' < μ x5 w1 → K x5' w') →
    br (decide ((x5 : Int) < ((p0.len : Nat) : Int)))
      (dr w1 fun w_1 =>
      ((0 : Int) ≤ x5 ∧ x5 < ((p0.len : Nat) : Int)) ∧
      nn p0.p fun a19 =>
      rd .slc w_1 (Addr.add a19 ((x5 : Int).toNat * 1)) 0 fun x20 =>
      ((0 : Int) ≤ x5 ∧ x5 < ((p1.len : Nat) : Int)) ∧
      nn p1.p fun a23 =>
      rd .slc w_1 (Addr.add a23 ((x5 : Int).toNat * 1)) 0 fun x24 =>
      callP Tryz.prog 13 #[(.slice x20.p x20.len x20.cap), (.slice x24.p x24.len x24.cap)] w_1 fun v w_2 =>
      ∃ r25 : Bool, v = (.bool r25) ∧
      br (!r25)
        (Q (.bool false) w_2)
        (K (IntKind.wrap .i64 (x5 + 1)) w_2))
      (Q (.bool true) w1))
set_option maxRecDepth 100000 in
theorem sortitionref11_Lists_ok {p0 : Sl} {p1 : Sl} {w : World} {Q : Value → World → Prop} (h : sortitionref11_Lists p0 p1 w Q) : callP Tryz.prog 19 #[(.slice p0.p p0.len p0.cap), (.slice p1.p p1.len p1.cap)] w Q := by
  have e : sortitionref11_Lists p0 p1 w Q = denF Tryz.prog ⟨[(4, [(5, false, [(.int .i64)])], [0, 1])], [], []⟩ Tryz.f19 [(.slice p0.p p0.len p0.cap), (.slice p1.p p1.len p1.cap)] w Q := by kernel_rfl
  exact denF_sound mixed Tryz.func19 (Eq.mp e h)

/-- sortition/sortitionref12.Sum -/
def sortitionref12_Sum (p0 : Sl) (w : World) (Q : Value → World → Prop) : Prop :=
  ∃ (I : Int → Int → World → Prop) (μ : Int → Int → World → Nat), (I 0 0 w) ∧
  ∀ x3 : Int, ∀ x4 : Int, ∀ (w1 : World) (K : Int → Int → World → Prop), I x3 x4 w1 →
    (∀ x3' : Int, ∀ x4' : Int, ∀ w' : World, I x3' x4' w' → μ x3' x4' w' < μ x3 x4 w1 → K x3' x4' w') →
  br (decide ((x4 : Int) < ((p0.len : Nat) : Int)))
    (((0 : Int) ≤ x4 ∧ x4 < ((p0.len : Nat) : Int)) ∧
    nn p0.p fun a14 =>
    rd (.int .u64) w1 (Addr.add a14 ((x4 : Int).toNat * 1)) 0 fun x15 =>
    K (IntKind.wrap .u64 (x3 + x15)) (IntKind.wrap .i64 (x4 + 1)) w1)
    (Q (.int .u64 x3) w1)
set_option maxRecDepth 100000 in
theorem sortitionref12_Sum_ok {p0 : Sl} {w : World} {Q : Value → World → Prop} (h : sortitionref12_Sum p0 w Q) : callP Tryz.prog 16 #[(.slice p0.p p0.len p0.cap)] w Q := by
  have e : sortitionref12_Sum p0 w Q = denF Tryz.prog ⟨[(3, [(3, false, [(.int .u64)]), (4, false, [(.int .i64)])], [0])], [], []⟩ Tryz.f16 [(.slice p0.p p0.len p0.cap)] w Q := by kernel_rfl
  exact denF_sound mixed Tryz.func16 (Eq.mp e h)

/-- sortition/sortitionref17.Pack -/
def sortitionref17_Pack (p0 : Int) (p1 : Sl) (w : World) (Q : Value → World → Prop) : Prop :=
  br (decide ((((p1.len : Nat) : Int) : Int) > 10))
    (Q (.tuple #[(.slice none 0 0), (.int .i64 2)]) w)
    (∃ (I : Int → World → Prop) (μ : Int → World → Nat), (I 0 w) ∧
    ∀ x6 : Int, ∀ (w1 : World) (K : Int → World → Prop), I x6 w1 →
      (∀ x6' : Int, ∀ w' : World, I x6' w' → μ x6' w' < μ x6 w1 → K x6' w') →
    br (decide ((x6 : Int) < ((p1.len : Nat) : Int)))
      (((0 : Int) ≤ x6 ∧ x6 < ((p1.len : Nat) : Int)) ∧
      nn p1.p fun a21 =>
      rd .slc w1 (Addr.add a21 ((x6 : Int).toNat * 1)) 0 fun x22 =>
      br (decide ((((x22.len : Nat) : Int) : Int) < 1))
        (Q (.tuple #[(.slice none 0 0), (.int .i64 2)]) w1)
        (((0 : Int) ≤ x6 ∧ x6 < ((p1.len : Nat) : Int)) ∧
        nn p1.p fun a28 =>
        rd .slc w1 (Addr.add a28 ((x6 : Int).toNat * 1)) 0 fun x29 =>
        br (decide ((((x29.len : Nat) : Int) : Int) > 1000))
          (Q (.tuple #[(.slice none 0 0), (.int .i64 2)]) w1)
          (K (IntKind.wrap .i64 (x6 + 1)) w1)))
      (callP Tryz.prog 45 #[(.slice p1.p p1.len p1.cap)] w1 fun v w_1 =>
      ∃ r34 : Bool, v = (.bool r34) ∧
      br r34
        (Q (.tuple #[(.slice none 0 0), (.int .i64 13)]) w_1)
        (callP Tryz.prog 46 #[(.int .u64 p0)] w_1 fun v_1 w_2 =>
        ∃ r37 : Sl, v_1 = (.slice r37.p r37.len r37.cap) ∧
        callP Tryz.prog 46 #[(.int .u64 (IntKind.wrap .u64 ((p1.len : Nat) : Int)))] w_2 fun v_2 w_3 =>
        ∃ r41 : Sl, v_2 = (.slice r41.p r41.len r41.cap) ∧
        appP Tryz.prog 5 w_3 ⟨r37.p, r37.len, r37.cap⟩ (.slice r41.p r41.len r41.cap) fun s42 w_4 =>
        ∃ (I_1 : Sl → Int → World → Prop) (μ_1 : Sl → Int → World → Nat), (I_1 s42 0 w_4) ∧
        ∀ x8 : Sl, ∀ x9 : Int, ∀ (w_5 : World) (K_1 : Sl → Int → World → Prop), I_1 x8 x9 w_5 →
          (∀ x8' : Sl, ∀ x9' : Int, ∀ w' : World, I_1 x8' x9' w' → μ_1 x8' x9' w' < μ_1 x8 x9 w_5 → K_1 x8' x9' w') →
        br (decide ((x9 : Int) < ((p1.len : Nat) : Int)))
          (((0 : Int) ≤ x9 ∧ x9 < ((p1.len : Nat) : Int)) ∧
          nn p1.p fun a52 =>
          rd .slc w_5 (Addr.add a52 ((x9 : Int).toNat * 1)) 0 fun x53 =>
          callP Tryz.prog 47 #[(.slice x53.p x53.len x53.cap)] w_5 fun v_3 w_6 =>
          ∃ r54 : Sl, v_3 = (.slice r54.p r54.len r54.cap) ∧
          appP Tryz.prog 5 w_6 ⟨x8.p, x8.len, x8.cap⟩ (.slice r54.p r54.len r54.cap) fun s55 w_7 =>
          K_1 s55 (IntKind.wrap .i64 (x9 + 1)) w_7)
          (Q (.tuple #[(.slice x8.p x8.len x8.cap), (.int .i64 0)]) w_5))))
set_option maxRecDepth 100000 in
theorem sortitionref17_Pack_ok {p0 : Int} {p1 : Sl} {w : World} {Q : Value → World → Prop} (h : sortitionref17_Pack p0 p1 w Q) : callP Tryz.prog 26 #[(.int .u64 p0), (.slice p1.p p1.len p1.cap)] w Q := by
  have e : sortitionref17_Pack p0 p1 w Q = denF Tryz.prog ⟨[(4, [(6, false, [(.int .i64)])], [0, 1]), (13, [(8, false, [.slc]), (9, false, [(.int .i64)])], [1])], [], []⟩ Tryz.f26 [(.int .u64 p0), (.slice p1.p p1.len p1.cap)] w Q := by kernel_rfl
  exact denF_sound mixed Tryz.func26 (Eq.mp e h)

/-- sortition/sortitionref17.Name -/
def sortitionref17_Name (p0 : Sl) (w : World) (Q : Value → World → Prop) : Prop :=
  al w (.cells ((cellsA .u8 (fun _ => 0) 0 32) : List Value).toArray 50) fun b2 w1 =>
  al w1 (.cells #[(.slice p0.p p0.len p0.cap)] 30) fun b4 w_1 =>
  callP Tryz.prog 34 #[(.string (ByteArray.mk #[98, 108, 111, 99, 107])), (.slice (some ⟨b4, 0, none⟩) 1 1)] w_1 fun v w_2 =>
  ∃ r5 : Nat → Int, v = (arrV .u8 32 r5) ∧
  wr w_2 (⟨b2, 0, none⟩ : Addr) (cellsA .u8 r5 0 32) fun w_3 =>
  rd (.arr .u8 32) w_3 (⟨b2, 0, none⟩ : Addr) 0 fun r2 =>
  Q (arrV .u8 32 r2) w_3
set_option maxRecDepth 100000 in
theorem sortitionref17_Name_ok {p0 : Sl} {w : World} {Q : Value → World → Prop} (h : sortitionref17_Name p0 w Q) : callP Tryz.prog 17 #[(.slice p0.p p0.len p0.cap)] w Q := by
  have e : sortitionref17_Name p0 w Q = denF Tryz.prog ⟨[], [], []⟩ Tryz.f17 [(.slice p0.p p0.len p0.cap)] w Q := by kernel_rfl
  exact denF_sound mixed Tryz.func17 (Eq.mp e h)

/-- sortition/sortitionref17.twice -/
def sortitionref17_twice (p0 : Sl) (w : World) (Q : Value → World → Prop) : Prop :=
  ∃ (I : Int → World → Prop) (μ : Int → World → Nat), (I 0 w) ∧
  ∀ x3 : Int, ∀ (w1 : World) (K : Int → World → Prop), I x3 w1 →
    (∀ x3' : Int, ∀ w' : World, I x3' w' → μ x3' w' < μ x3 w1 → K x3' w') →
  br (decide ((x3 : Int) < ((p0.len : Nat) : Int)))
    (dr w1 fun w_1 =>
    ((0 : Int) ≤ x3 ∧ x3 ≤ ((p0.cap : Nat) : Int)) ∧
    ((0 : Int) ≤ x3 ∧ x3 < ((p0.len : Nat) : Int)) ∧
    nn p0.p fun a16 =>
    rd .slc w_1 (Addr.add a16 ((x3 : Int).toNat * 1)) 0 fun x17 =>
    callP Tryz.prog 71 #[(.slice (cutAt p0.p p0.cap 0 1) ((x3 : Int).toNat) p0.cap), (.slice x17.p x17.len x17.cap)] w_1 fun v w_2 =>
    ∃ r18 : Bool, v = (.bool r18) ∧
    br r18
      (Q (.bool true) w_2)
      (K (IntKind.wrap .i64 (x3 + 1)) w_2))
    (Q (.bool false) w1)
set_option maxRecDepth 100000 in
theorem sortitionref17_twice_ok {p0 : Sl} {w : World} {Q : Value → World → Prop} (h : sortitionref17_twice p0 w Q) : callP Tryz.prog 45 #[(.slice p0.p p0.len p0.cap)] w Q := by
  have e : sortitionref17_twice p0 w Q = denF Tryz.prog ⟨[(2, [(3, false, [(.int .i64)])], [0])], [], []⟩ Tryz.f45 [(.slice p0.p p0.len p0.cap)] w Q := by kernel_rfl
  exact denF_sound mixed Tryz.func45 (Eq.mp e h)

/-- sortition/sortitionref17.In -/
def sortitionref17_In (p0 : Sl) (p1 : Sl) (w : World) (Q : Value → World → Prop) : Prop :=
  ∃ (I : Int → World → Prop) (μ : Int → World → Nat), (I 0 w) ∧
  ∀ x5 : Int, ∀ (w1 : World) (K : Int → World → Prop), I x5 w1 →
    (∀ x5' : Int, ∀ w' : World, I x5' w' → μ x5' w' < μ x5 w1 → K x5' w') →
  br (decide ((x5 : Int) < ((p0.len : Nat) : Int)))
    (((0 : Int) ≤ x5 ∧ x5 < ((p0.len : Nat) : Int)) ∧
    nn p0.p fun a14 =>
    rd .slc w1 (Addr.add a14 ((x5 : Int).toNat * 1)) 0 fun x15 =>
    callP Tryz.prog 13 #[(.slice x15.p x15.len x15.cap), (.slice p1.p p1.len p1.cap)] w1 fun v w_1 =>
    ∃ r17 : Bool, v = (.bool r17) ∧
    br r17
      (Q (.bool true) w_1)
      (K (IntKind.wrap .i64 (x5 + 1)) w_1))
    (Q (.bool false) w1)
set_option maxRecDepth 100000 in
theorem sortitionref17_In_ok {p0 : Sl} {p1 : Sl} {w : World} {Q : Value → World → Prop} (h : sortitionref17_In p0 p1 w Q) : callP Tryz.prog 71 #[(.slice p0.p p0.len p0.cap), (.slice p1.p p1.len p1.cap)] w Q := by
  have e : sortitionref17_In p0 p1 w Q = denF Tryz.prog ⟨[(2, [(5, false, [(.int .i64)])], [0, 1])], [], []⟩ Tryz.f71 [(.slice p0.p p0.len p0.cap), (.slice p1.p p1.len p1.cap)] w Q := by kernel_rfl
  exact denF_sound mixed Tryz.func71 (Eq.mp e h)

/-- sortition/sortitionref08.Small -/
def sortitionref08_Small (p0 : Int) (w : World) (Q : Value → World → Prop) : Prop :=
  ∃ (I : Int → Sl → World → Prop) (μ : Int → Sl → World → Nat), (I p0 ⟨none, 0, 0⟩ w) ∧
  ∀ x0 : Int, ∀ x3 : Sl, ∀ (w1 : World) (K : Int → Sl → World → Prop), I x0 x3 w1 →
    (∀ x0' : Int, ∀ x3' : Sl, ∀ w' : World, I x0' x3' w' → μ x0' x3' w' < μ x0 x3 w1 → K x0' x3' w') →
  br (decide ((x0 : Int) > 0))
    ((256 : Int) ≠ 0 ∧
    al w1 (.cells #[(.int .u8 (IntKind.wrap .u8 (Int.tmod x0 256)))] 5) fun b9 w_1 =>
    appP Tryz.prog 5 w_1 ⟨(some ⟨b9, 0, none⟩), 1, 1⟩ (.slice x3.p x3.len x3.cap) fun s11 w_2 =>
    (256 : Int) ≠ 0 ∧
    K (IntKind.wrap .u64 (Int.tdiv x0 256)) s11 w_2)
    (al w1 (.cells #[(.int .u8 (IntKind.wrap .u8 ((x3.len : Nat) : Int)))] 5) fun b17 w_1 =>
    appP Tryz.prog 5 w_1 ⟨(some ⟨b17, 0, none⟩), 1, 1⟩ (.slice x3.p x3.len x3.cap) fun s19 w_2 =>
    Q (.slice s19.p s19.len s19.cap) w_2)
set_option maxRecDepth 100000 in
theorem sortitionref08_Small_ok {p0 : Int} {w : World} {Q : Value → World → Prop} (h : sortitionref08_Small p0 w Q) : callP Tryz.prog 46 #[(.int .u64 p0)] w Q := by
  have e : sortitionref08_Small p0 w Q = denF Tryz.prog ⟨[(2, [(0, false, [(.int .u64)]), (3, false, [.slc])], [])], [], []⟩ Tryz.f46 [(.int .u64 p0)] w Q := by kernel_rfl
  exact denF_sound mixed Tryz.func46 (Eq.mp e h)

/-- sortition/sortitionref08.Bytes -/
def sortitionref08_Bytes (p0 : Sl) (w : World) (Q : Value → World → Prop) : Prop :=
  callP Tryz.prog 46 #[(.int .u64 (IntKind.wrap .u64 ((p0.len : Nat) : Int)))] w fun v w1 =>
  ∃ r6 : Sl, v = (.slice r6.p r6.len r6.cap) ∧
  appP Tryz.prog 5 w1 ⟨r6.p, r6.len, r6.cap⟩ (.slice p0.p p0.len p0.cap) fun s8 w_1 =>
  Q (.slice s8.p s8.len s8.cap) w_1
set_option maxRecDepth 100000 in
theorem sortitionref08_Bytes_ok {p0 : Sl} {w : World} {Q : Value → World → Prop} (h : sortitionref08_Bytes p0 w Q) : callP Tryz.prog 47 #[(.slice p0.p p0.len p0.cap)] w Q := by
  have e : sortitionref08_Bytes p0 w Q = denF Tryz.prog ⟨[], [], []⟩ Tryz.f47 [(.slice p0.p p0.len p0.cap)] w Q := by kernel_rfl
  exact denF_sound mixed Tryz.func47 (Eq.mp e h)

/-- sortition/sortitionref07.Tagged -/
def sortitionref07_Tagged (p0 : ByteArray) (p1 : Sl) (w : World) (Q : Value → World → Prop) : Prop :=
  al w (.cells ((cellsA .u8 (fun _ => 0) 0 32) : List Value).toArray 50) fun b4 w1 =>
  callP Tryz.prog 58 #[(.string p0), (.slice p1.p p1.len p1.cap)] w1 fun v w_1 =>
  ∃ r7 : Sl, v = (.slice r7.p r7.len r7.cap) ∧
  callP Tryz.prog 57 #[(.slice r7.p r7.len r7.cap)] w_1 fun v_1 w_2 =>
  ∃ r8 : Nat → Int, v_1 = (arrV .u8 32 r8) ∧
  wr w_2 (⟨b4, 0, none⟩ : Addr) (cellsA .u8 r8 0 32) fun w_3 =>
  rd (.arr .u8 32) w_3 (⟨b4, 0, none⟩ : Addr) 0 fun r4 =>
  Q (arrV .u8 32 r4) w_3
set_option maxRecDepth 100000 in
theorem sortitionref07_Tagged_ok {p0 : ByteArray} {p1 : Sl} {w : World} {Q : Value → World → Prop} (h : sortitionref07_Tagged p0 p1 w Q) : callP Tryz.prog 34 #[(.string p0), (.slice p1.p p1.len p1.cap)] w Q := by
  have e : sortitionref07_Tagged p0 p1 w Q = denF Tryz.prog ⟨[], [], []⟩ Tryz.f34 [(.string p0), (.slice p1.p p1.len p1.cap)] w Q := by kernel_rfl
  exact denF_sound mixed Tryz.func34 (Eq.mp e h)

/-- sortition/sortitionref07.Input -/
def sortitionref07_Input (p0 : ByteArray) (p1 : Sl) (w : World) (Q : Value → World → Prop) : Prop :=
  callP Tryz.prog 81 #[(.int .u64 (IntKind.wrap .u64 ((ByteArray.size p0 : Nat) : Int)))] w fun v w1 =>
  ∃ r10 : Sl, v = (.slice r10.p r10.len r10.cap) ∧
  appP Tryz.prog 5 w1 ⟨r10.p, r10.len, r10.cap⟩ (.string p0) fun s12 w_1 =>
  ∃ (I : Sl → Int → World → Prop) (μ : Sl → Int → World → Nat), (I s12 0 w_1) ∧
  ∀ x5 : Sl, ∀ x6 : Int, ∀ (w_2 : World) (K : Sl → Int → World → Prop), I x5 x6 w_2 →
    (∀ x5' : Sl, ∀ x6' : Int, ∀ w' : World, I x5' x6' w' → μ x5' x6' w' < μ x5 x6 w_2 → K x5' x6' w') →
  br (decide ((x6 : Int) < ((p1.len : Nat) : Int)))
    (((0 : Int) ≤ x6 ∧ x6 < ((p1.len : Nat) : Int)) ∧
    nn p1.p fun a22 =>
    rd .slc w_2 (Addr.add a22 ((x6 : Int).toNat * 1)) 0 fun x23 =>
    callP Tryz.prog 81 #[(.int .u64 (IntKind.wrap .u64 ((x23.len : Nat) : Int)))] w_2 fun v_1 w_3 =>
    ∃ r26 : Sl, v_1 = (.slice r26.p r26.len r26.cap) ∧
    appP Tryz.prog 5 w_3 ⟨x5.p, x5.len, x5.cap⟩ (.slice r26.p r26.len r26.cap) fun s27 w_4 =>
    ((0 : Int) ≤ x6 ∧ x6 < ((p1.len : Nat) : Int)) ∧
    nn p1.p fun a31 =>
    rd .slc w_4 (Addr.add a31 ((x6 : Int).toNat * 1)) 0 fun x32 =>
    appP Tryz.prog 5 w_4 ⟨s27.p, s27.len, s27.cap⟩ (.slice x32.p x32.len x32.cap) fun s33 w_5 =>
    K s33 (IntKind.wrap .i64 (x6 + 1)) w_5)
    (Q (.slice x5.p x5.len x5.cap) w_2)
set_option maxRecDepth 100000 in
theorem sortitionref07_Input_ok {p0 : ByteArray} {p1 : Sl} {w : World} {Q : Value → World → Prop} (h : sortitionref07_Input p0 p1 w Q) : callP Tryz.prog 58 #[(.string p0), (.slice p1.p p1.len p1.cap)] w Q := by
  have e : sortitionref07_Input p0 p1 w Q = denF Tryz.prog ⟨[(3, [(5, false, [.slc]), (6, false, [(.int .i64)])], [1])], [], []⟩ Tryz.f58 [(.string p0), (.slice p1.p p1.len p1.cap)] w Q := by kernel_rfl
  exact denF_sound mixed Tryz.func58 (Eq.mp e h)

/-- sortition/sortitionref07.Eight -/
def sortitionref07_Eight (p0 : Int) (w : World) (Q : Value → World → Prop) : Prop :=
  ∃ (I : Sl → Int → World → Prop) (μ : Sl → Int → World → Nat), (I ⟨none, 0, 0⟩ 0 w) ∧
  ∀ x3 : Sl, ∀ x4 : Int, ∀ (w1 : World) (K : Sl → Int → World → Prop), I x3 x4 w1 →
    (∀ x3' : Sl, ∀ x4' : Int, ∀ w' : World, I x3' x4' w' → μ x3' x4' w' < μ x3 x4 w1 → K x3' x4' w') →
  br (decide ((x4 : Int) < 8))
    ((0 : Int) ≤ (IntKind.wrap .i64 (56 - (IntKind.wrap .i64 (8 * x4)))) ∧
    al w1 (.cells #[(.int .u8 (IntKind.wrap .u8 (ishr .u64 p0 (IntKind.wrap .i64 (56 - (IntKind.wrap .i64 (8 * x4)))))))] 5) fun b16 w_1 =>
    appP Tryz.prog 5 w_1 ⟨x3.p, x3.len, x3.cap⟩ (.slice (some ⟨b16, 0, none⟩) 1 1) fun s17 w_2 =>
    K s17 (IntKind.wrap .i64 (x4 + 1)) w_2)
    (Q (.slice x3.p x3.len x3.cap) w1)
set_option maxRecDepth 100000 in
theorem sortitionref07_Eight_ok {p0 : Int} {w : World} {Q : Value → World → Prop} (h : sortitionref07_Eight p0 w Q) : callP Tryz.prog 81 #[(.int .u64 p0)] w Q := by
  have e : sortitionref07_Eight p0 w Q = denF Tryz.prog ⟨[(3, [(3, false, [.slc]), (4, false, [(.int .i64)])], [0])], [], []⟩ Tryz.f81 [(.int .u64 p0)] w Q := by kernel_rfl
  exact denF_sound mixed Tryz.func81 (Eq.mp e h)

/-- sortition/sortitionref06.Of -/
def sortitionref06_Of (p0 : Sl) (w : World) (Q : Value → World → Prop) : Prop :=
  al w (.cells ((cellsA .u8 (fun _ => 0) 0 32) : List Value).toArray 50) fun b2 w1 =>
  al w1 (.cells #[] 5) fun b10 w_1 =>
  appP Tryz.prog 5 w_1 ⟨(some ⟨b10, 0, none⟩), 0, 0⟩ (.slice p0.p p0.len p0.cap) fun s12 w_2 =>
  al w_2 (.cells #[(.int .u8 128)] 5) fun b13 w_3 =>
  appP Tryz.prog 5 w_3 ⟨s12.p, s12.len, s12.cap⟩ (.slice (some ⟨b13, 0, none⟩) 1 1) fun s14 w_4 =>
  ∃ (I : Sl → World → Prop) (μ : Sl → World → Nat), (I s14 w_4) ∧
  ∀ x3 : Sl, ∀ (w_5 : World) (K : Sl → World → Prop), I x3 w_5 →
    (∀ x3' : Sl, ∀ w' : World, I x3' w' → μ x3' w' < μ x3 w_5 → K x3' w') →
  (64 : Int) ≠ 0 ∧
  br (((Int.tmod ((x3.len : Nat) : Int) 64) : Int) != 56)
    (al w_5 (.cells #[(.int .u8 0)] 5) fun b20 w_6 =>
    appP Tryz.prog 5 w_6 ⟨x3.p, x3.len, x3.cap⟩ (.slice (some ⟨b20, 0, none⟩) 1 1) fun s21 w_7 =>
    K s21 w_7)
    (∃ (I_1 : Sl → Int → World → Prop) (μ_1 : Sl → Int → World → Nat), (I_1 x3 0 w_5) ∧
    ∀ x3_1 : Sl, ∀ x5 : Int, ∀ (w_6 : World) (K_1 : Sl → Int → World → Prop), I_1 x3_1 x5 w_6 →
      (∀ x3' : Sl, ∀ x5' : Int, ∀ w' : World, I_1 x3' x5' w' → μ_1 x3' x5' w' < μ_1 x3_1 x5 w_6 → K_1 x3' x5' w') →
    br (decide ((x5 : Int) < 8))
      ((0 : Int) ≤ (IntKind.wrap .i64 (56 - (IntKind.wrap .i64 (8 * x5)))) ∧
      al w_6 (.cells #[(.int .u8 (IntKind.wrap .u8 (ishr .u64 (IntKind.wrap .u64 ((IntKind.wrap .u64 ((p0.len : Nat) : Int)) * 8)) (IntKind.wrap .i64 (56 - (IntKind.wrap .i64 (8 * x5)))))))] 5) fun b37 w_7 =>
      appP Tryz.prog 5 w_7 ⟨x3_1.p, x3_1.len, x3_1.cap⟩ (.slice (some ⟨b37, 0, none⟩) 1 1) fun s38 w_8 =>
      K_1 s38 (IntKind.wrap .i64 (x5 + 1)) w_8)
      (al w_6 (.cells ((cellsA .u32 (fun _ => 0) 0 8) : List Value).toArray 138) fun b6 w_7 =>
      wr w_7 (⟨b6, 0, none⟩ : Addr) [(.int .u32 1779033703), (.int .u32 3144134277), (.int .u32 1013904242), (.int .u32 2773480762), (.int .u32 1359893119), (.int .u32 2600822924), (.int .u32 528734635), (.int .u32 1541459225)] fun w_8 =>
      ∃ (I_2 : Int → World → Prop) (μ_2 : Int → World → Nat), (I_2 0 w_8) ∧
      ∀ x7 : Int, ∀ (w_9 : World) (K_2 : Int → World → Prop), I_2 x7 w_9 →
        (∀ x7' : Int, ∀ w' : World, I_2 x7' w' → μ_2 x7' w' < μ_2 x7 w_9 → K_2 x7' w') →
      br (decide ((x7 : Int) < ((x3_1.len : Nat) : Int)))
        (dr w_9 fun w_10 =>
        rd (.arr .u32 8) w_10 (⟨b6, 0, none⟩ : Addr) 0 fun x46 =>
        ((0 : Int) ≤ (IntKind.wrap .i64 (x7 + 64)) ∧ (IntKind.wrap .i64 (x7 + 64)) ≤ ((x3_1.cap : Nat) : Int)) ∧
        ((0 : Int) ≤ x7 ∧ x7 ≤ (((((IntKind.wrap .i64 (x7 + 64)) : Int).toNat) : Nat) : Int)) ∧
        callP Tryz.prog 80 #[(arrV .u32 8 x46), (.slice (cutAt x3_1.p x3_1.cap ((x7 : Int).toNat) 1) ((((IntKind.wrap .i64 (x7 + 64)) : Int).toNat) - ((x7 : Int).toNat)) (x3_1.cap - ((x7 : Int).toNat)))] w_10 fun v w_11 =>
        ∃ r52 : Nat → Int, v = (arrV .u32 8 r52) ∧
        wr w_11 (⟨b6, 0, none⟩ : Addr) (cellsA .u32 r52 0 8) fun w_12 =>
        K_2 (IntKind.wrap .i64 (x7 + 64)) w_12)
        (al w_9 (.cells ((cellsA .u8 (fun _ => 0) 0 32) : List Value).toArray 50) fun b8 w_10 =>
        wr w_10 (⟨b8, 0, none⟩ : Addr) (cellsA .u8 (fun _ => 0) 0 32) fun w_11 =>
        ∃ (I_3 : Int → World → Prop) (μ_3 : Int → World → Nat), (I_3 0 w_11) ∧
        ∀ x9 : Int, ∀ (w_12 : World) (K_3 : Int → World → Prop), I_3 x9 w_12 →
          (∀ x9' : Int, ∀ w' : World, I_3 x9' w' → μ_3 x9' w' < μ_3 x9 w_12 → K_3 x9' w') →
        br (decide ((x9 : Int) < 32))
          ((4 : Int) ≠ 0 ∧
          ((0 : Int) ≤ (IntKind.wrap .i64 (Int.tdiv x9 4)) ∧ (IntKind.wrap .i64 (Int.tdiv x9 4)) < ((8 : Nat) : Int)) ∧
          rd (.int .u32) w_12 (Addr.add (⟨b6, 0, none⟩ : Addr) (((IntKind.wrap .i64 (Int.tdiv x9 4)) : Int).toNat * 1)) 0 fun x62 =>
          (4 : Int) ≠ 0 ∧
          (0 : Int) ≤ (IntKind.wrap .i64 (24 - (IntKind.wrap .i64 (8 * (Int.tmod x9 4))))) ∧
          ((0 : Int) ≤ x9 ∧ x9 < ((32 : Nat) : Int)) ∧
          wr w_12 (Addr.add (⟨b8, 0, none⟩ : Addr) ((x9 : Int).toNat * 1)) [(.int .u8 (IntKind.wrap .u8 (ishr .u32 x62 (IntKind.wrap .i64 (24 - (IntKind.wrap .i64 (8 * (Int.tmod x9 4))))))))] fun w_13 =>
          K_3 (IntKind.wrap .i64 (x9 + 1)) w_13)
          (rd (.arr .u8 32) w_12 (⟨b8, 0, none⟩ : Addr) 0 fun x70 =>
          wr w_12 (⟨b2, 0, none⟩ : Addr) (cellsA .u8 x70 0 32) fun w_13 =>
          rd (.arr .u8 32) w_13 (⟨b2, 0, none⟩ : Addr) 0 fun r2 =>
          Q (arrV .u8 32 r2) w_13))))
set_option maxRecDepth 100000 in
theorem sortitionref06_Of_ok {p0 : Sl} {w : World} {Q : Value → World → Prop} (h : sortitionref06_Of p0 w Q) : callP Tryz.prog 57 #[(.slice p0.p p0.len p0.cap)] w Q := by
  have e : sortitionref06_Of p0 w Q = denF Tryz.prog ⟨[(2, [(3, false, [.slc])], [0, 2]), (6, [(3, false, [.slc]), (5, false, [(.int .i64)])], [2, 4]), (11, [(7, false, [(.int .i64)])], [2, 3, 6]), (16, [(9, false, [(.int .i64)])], [2, 6, 8])], [], []⟩ Tryz.f57 [(.slice p0.p p0.len p0.cap)] w Q := by kernel_rfl
  exact denF_sound mixed Tryz.func57 (Eq.mp e h)

/-- sortition/sortitionref06.step -/
def sortitionref06_step (p0 : Nat → Int) (p1 : Sl) (w : World) (Q : Value → World → Prop) : Prop :=
  al w (.cells ((cellsA .u32 p0 0 8) : List Value).toArray 138) fun b2 w1 =>
  al w1 (.cells ((cellsA .u32 (fun _ => 0) 0 8) : List Value).toArray 138) fun b4 w_1 =>
  al w_1 (.cells ((cellsA .u32 (fun _ => 0) 0 64) : List Value).toArray 163) fun b5 w_2 =>
  wr w_2 (⟨b5, 0, none⟩ : Addr) [(.int .u32 1116352408), (.int .u32 1899447441), (.int .u32 3049323471), (.int .u32 3921009573), (.int .u32 961987163), (.int .u32 1508970993), (.int .u32 2453635748), (.int .u32 2870763221), (.int .u32 3624381080), (.int .u32 310598401), (.int .u32 607225278), (.int .u32 1426881987), (.int .u32 1925078388), (.int .u32 2162078206), (.int .u32 2614888103), (.int .u32 3248222580), (.int .u32 3835390401), (.int .u32 4022224774), (.int .u32 264347078), (.int .u32 604807628), (.int .u32 770255983), (.int .u32 1249150122), (.int .u32 1555081692), (.int .u32 1996064986), (.int .u32 2554220882), (.int .u32 2821834349), (.int .u32 2952996808), (.int .u32 3210313671), (.int .u32 3336571891), (.int .u32 3584528711), (.int .u32 113926993), (.int .u32 338241895), (.int .u32 666307205), (.int .u32 773529912), (.int .u32 1294757372), (.int .u32 1396182291), (.int .u32 1695183700), (.int .u32 1986661051), (.int .u32 2177026350), (.int .u32 2456956037), (.int .u32 2730485921), (.int .u32 2820302411), (.int .u32 3259730800), (.int .u32 3345764771), (.int .u32 3516065817), (.int .u32 3600352804), (.int .u32 4094571909), (.int .u32 275423344), (.int .u32 430227734), (.int .u32 506948616), (.int .u32 659060556), (.int .u32 883997877), (.int .u32 958139571), (.int .u32 1322822218), (.int .u32 1537002063), (.int .u32 1747873779), (.int .u32 1955562222), (.int .u32 2024104815), (.int .u32 2227730452), (.int .u32 2361852424), (.int .u32 2428436474), (.int .u32 2756734187), (.int .u32 3204031479), (.int .u32 3329325298)] fun w_3 =>
  al w_3 (.cells ((cellsA .u32 (fun _ => 0) 0 64) : List Value).toArray 163) fun b6 w_4 =>
  ∃ (I : Int → World → Prop) (μ : Int → World → Nat), (I 0 w_4) ∧
  ∀ x7 : Int, ∀ (w_5 : World) (K : Int → World → Prop), I x7 w_5 →
    (∀ x7' : Int, ∀ w' : World, I x7' w' → μ x7' w' < μ x7 w_5 → K x7' w') →
  br (decide ((x7 : Int) < 16))
    (dr w_5 fun w_6 =>
    ((0 : Int) ≤ (IntKind.wrap .i64 (4 * x7)) ∧ (IntKind.wrap .i64 (4 * x7)) < ((p1.len : Nat) : Int)) ∧
    nn p1.p fun a29 =>
    rd (.int .u8) w_6 (Addr.add a29 (((IntKind.wrap .i64 (4 * x7)) : Int).toNat * 1)) 0 fun x30 =>
    ((0 : Int) ≤ (IntKind.wrap .i64 ((IntKind.wrap .i64 (4 * x7)) + 1)) ∧ (IntKind.wrap .i64 ((IntKind.wrap .i64 (4 * x7)) + 1)) < ((p1.len : Nat) : Int)) ∧
    nn p1.p fun a37 =>
    rd (.int .u8) w_6 (Addr.add a37 (((IntKind.wrap .i64 ((IntKind.wrap .i64 (4 * x7)) + 1)) : Int).toNat * 1)) 0 fun x38 =>
    ((0 : Int) ≤ (IntKind.wrap .i64 ((IntKind.wrap .i64 (4 * x7)) + 2)) ∧ (IntKind.wrap .i64 ((IntKind.wrap .i64 (4 * x7)) + 2)) < ((p1.len : Nat) : Int)) ∧
    nn p1.p fun a46 =>
    rd (.int .u8) w_6 (Addr.add a46 (((IntKind.wrap .i64 ((IntKind.wrap .i64 (4 * x7)) + 2)) : Int).toNat * 1)) 0 fun x47 =>
    ((0 : Int) ≤ (IntKind.wrap .i64 ((IntKind.wrap .i64 (4 * x7)) + 3)) ∧ (IntKind.wrap .i64 ((IntKind.wrap .i64 (4 * x7)) + 3)) < ((p1.len : Nat) : Int)) ∧
    nn p1.p fun a55 =>
    rd (.int .u8) w_6 (Addr.add a55 (((IntKind.wrap .i64 ((IntKind.wrap .i64 (4 * x7)) + 3)) : Int).toNat * 1)) 0 fun x56 =>
    ((0 : Int) ≤ x7 ∧ x7 < ((64 : Nat) : Int)) ∧
    wr w_6 (Addr.add (⟨b6, 0, none⟩ : Addr) ((x7 : Int).toNat * 1)) [(.int .u32 (IntKind.wrap .u32 ((IntKind.wrap .u32 ((IntKind.wrap .u32 ((IntKind.wrap .u32 ((IntKind.wrap .u32 x30) * 16777216)) + (IntKind.wrap .u32 ((IntKind.wrap .u32 x38) * 65536)))) + (IntKind.wrap .u32 ((IntKind.wrap .u32 x47) * 256)))) + (IntKind.wrap .u32 x56))))] fun w_7 =>
    K (IntKind.wrap .i64 (x7 + 1)) w_7)
    (∃ (I_1 : Int → World → Prop) (μ_1 : Int → World → Nat), (I_1 16 w_5) ∧
    ∀ x8 : Int, ∀ (w_6 : World) (K_1 : Int → World → Prop), I_1 x8 w_6 →
      (∀ x8' : Int, ∀ w' : World, I_1 x8' w' → μ_1 x8' w' < μ_1 x8 w_6 → K_1 x8' w') →
    br (decide ((x8 : Int) < 64))
      (((0 : Int) ≤ (IntKind.wrap .i64 (x8 - 15)) ∧ (IntKind.wrap .i64 (x8 - 15)) < ((64 : Nat) : Int)) ∧
      rd (.int .u32) w_6 (Addr.add (⟨b6, 0, none⟩ : Addr) (((IntKind.wrap .i64 (x8 - 15)) : Int).toNat * 1)) 0 fun x67 =>
      ((0 : Int) ≤ (IntKind.wrap .i64 (x8 - 2)) ∧ (IntKind.wrap .i64 (x8 - 2)) < ((64 : Nat) : Int)) ∧
      rd (.int .u32) w_6 (Addr.add (⟨b6, 0, none⟩ : Addr) (((IntKind.wrap .i64 (x8 - 2)) : Int).toNat * 1)) 0 fun x71 =>
      dr w_6 fun w_7 =>
      ((0 : Int) ≤ (IntKind.wrap .i64 (x8 - 16)) ∧ (IntKind.wrap .i64 (x8 - 16)) < ((64 : Nat) : Int)) ∧
      rd (.int .u32) w_7 (Addr.add (⟨b6, 0, none⟩ : Addr) (((IntKind.wrap .i64 (x8 - 16)) : Int).toNat * 1)) 0 fun x76 =>
      (8 : Int) ≠ 0 ∧
      ((0 : Int) ≤ (IntKind.wrap .i64 (x8 - 7)) ∧ (IntKind.wrap .i64 (x8 - 7)) < ((64 : Nat) : Int)) ∧
      rd (.int .u32) w_7 (Addr.add (⟨b6, 0, none⟩ : Addr) (((IntKind.wrap .i64 (x8 - 7)) : Int).toNat * 1)) 0 fun x89 =>
      (1024 : Int) ≠ 0 ∧
      callP Tryz.prog 107 #[(.int .u32 x67), (.int .i64 7)] w_7 fun v w_8 =>
      ∃ r78 : Int, v = (.int .u32 r78) ∧
      atC w_8 (Addr.add (⟨b6, 0, none⟩ : Addr) (((IntKind.wrap .i64 (x8 - 7)) : Int).toNat * 1)) 0 [(.int .u32 x89)] ∧
      atC w_8 (Addr.add (⟨b6, 0, none⟩ : Addr) (((IntKind.wrap .i64 (x8 - 16)) : Int).toNat * 1)) 0 [(.int .u32 x76)] ∧
      callP Tryz.prog 107 #[(.int .u32 x67), (.int .i64 18)] w_8 fun v_1 w_9 =>
      ∃ r80 : Int, v_1 = (.int .u32 r80) ∧
      atC w_9 (Addr.add (⟨b6, 0, none⟩ : Addr) (((IntKind.wrap .i64 (x8 - 7)) : Int).toNat * 1)) 0 [(.int .u32 x89)] ∧
      atC w_9 (Addr.add (⟨b6, 0, none⟩ : Addr) (((IntKind.wrap .i64 (x8 - 16)) : Int).toNat * 1)) 0 [(.int .u32 x76)] ∧
      callP Tryz.prog 107 #[(.int .u32 x71), (.int .i64 17)] w_9 fun v_2 w_10 =>
      ∃ r92 : Int, v_2 = (.int .u32 r92) ∧
      atC w_10 (Addr.add (⟨b6, 0, none⟩ : Addr) (((IntKind.wrap .i64 (x8 - 7)) : Int).toNat * 1)) 0 [(.int .u32 x89)] ∧
      atC w_10 (Addr.add (⟨b6, 0, none⟩ : Addr) (((IntKind.wrap .i64 (x8 - 16)) : Int).toNat * 1)) 0 [(.int .u32 x76)] ∧
      callP Tryz.prog 107 #[(.int .u32 x71), (.int .i64 19)] w_10 fun v_3 w_11 =>
      ∃ r94 : Int, v_3 = (.int .u32 r94) ∧
      atC w_11 (Addr.add (⟨b6, 0, none⟩ : Addr) (((IntKind.wrap .i64 (x8 - 7)) : Int).toNat * 1)) 0 [(.int .u32 x89)] ∧
      atC w_11 (Addr.add (⟨b6, 0, none⟩ : Addr) (((IntKind.wrap .i64 (x8 - 16)) : Int).toNat * 1)) 0 [(.int .u32 x76)] ∧
      ((0 : Int) ≤ x8 ∧ x8 < ((64 : Nat) : Int)) ∧
      wr w_11 (Addr.add (⟨b6, 0, none⟩ : Addr) ((x8 : Int).toNat * 1)) [(.int .u32 (IntKind.wrap .u32 ((IntKind.wrap .u32 ((IntKind.wrap .u32 (x76 + (ixor .u32 (ixor .u32 r78 r80) (IntKind.wrap .u32 (Int.tdiv x67 8))))) + x89)) + (ixor .u32 (ixor .u32 r92 r94) (IntKind.wrap .u32 (Int.tdiv x71 1024))))))] fun w_12 =>
      K_1 (IntKind.wrap .i64 (x8 + 1)) w_12)
      (rd (.arr .u32 8) w_6 (⟨b2, 0, none⟩ : Addr) 0 fun x101 =>
      al w_6 (.cells ((cellsA .u32 (fun _ => 0) 0 8) : List Value).toArray 138) fun b11 w_7 =>
      wr w_7 (⟨b11, 0, none⟩ : Addr) (cellsA .u32 x101 0 8) fun w_8 =>
      ∃ (I_2 : Int → World → Prop) (μ_2 : Int → World → Nat), (I_2 0 w_8) ∧
      ∀ x12 : Int, ∀ (w_9 : World) (K_2 : Int → World → Prop), I_2 x12 w_9 →
        (∀ x12' : Int, ∀ w' : World, I_2 x12' w' → μ_2 x12' w' < μ_2 x12 w_9 → K_2 x12' w') →
      br (decide ((x12 : Int) < 64))
        (((0 : Int) ≤ 4 ∧ 4 < ((8 : Nat) : Int)) ∧
        rd (.int .u32) w_9 (Addr.add (⟨b11, 0, none⟩ : Addr) ((4 : Int).toNat * 1)) 0 fun x107 =>
        ((0 : Int) ≤ 0 ∧ 0 < ((8 : Nat) : Int)) ∧
        rd (.int .u32) w_9 (Addr.add (⟨b11, 0, none⟩ : Addr) ((0 : Int).toNat * 1)) 0 fun x109 =>
        ((0 : Int) ≤ 5 ∧ 5 < ((8 : Nat) : Int)) ∧
        rd (.int .u32) w_9 (Addr.add (⟨b11, 0, none⟩ : Addr) ((5 : Int).toNat * 1)) 0 fun x112 =>
        ((0 : Int) ≤ 6 ∧ 6 < ((8 : Nat) : Int)) ∧
        rd (.int .u32) w_9 (Addr.add (⟨b11, 0, none⟩ : Addr) ((6 : Int).toNat * 1)) 0 fun x117 =>
        ((0 : Int) ≤ 1 ∧ 1 < ((8 : Nat) : Int)) ∧
        rd (.int .u32) w_9 (Addr.add (⟨b11, 0, none⟩ : Addr) ((1 : Int).toNat * 1)) 0 fun x122 =>
        ((0 : Int) ≤ 2 ∧ 2 < ((8 : Nat) : Int)) ∧
        rd (.int .u32) w_9 (Addr.add (⟨b11, 0, none⟩ : Addr) ((2 : Int).toNat * 1)) 0 fun x126 =>
        ((0 : Int) ≤ 1 ∧ 1 < ((8 : Nat) : Int)) ∧
        rd (.int .u32) w_9 (Addr.add (⟨b11, 0, none⟩ : Addr) ((1 : Int).toNat * 1)) 0 fun x130 =>
        ((0 : Int) ≤ 2 ∧ 2 < ((8 : Nat) : Int)) ∧
        rd (.int .u32) w_9 (Addr.add (⟨b11, 0, none⟩ : Addr) ((2 : Int).toNat * 1)) 0 fun x132 =>
        dr w_9 fun w_10 =>
        ((0 : Int) ≤ 7 ∧ 7 < ((8 : Nat) : Int)) ∧
        rd (.int .u32) w_10 (Addr.add (⟨b11, 0, none⟩ : Addr) ((7 : Int).toNat * 1)) 0 fun x136 =>
        ((0 : Int) ≤ x12 ∧ x12 < ((64 : Nat) : Int)) ∧
        rd (.int .u32) w_10 (Addr.add (⟨b5, 0, none⟩ : Addr) ((x12 : Int).toNat * 1)) 0 fun x150 =>
        ((0 : Int) ≤ x12 ∧ x12 < ((64 : Nat) : Int)) ∧
        rd (.int .u32) w_10 (Addr.add (⟨b6, 0, none⟩ : Addr) ((x12 : Int).toNat * 1)) 0 fun x154 =>
        callP Tryz.prog 107 #[(.int .u32 x107), (.int .i64 6)] w_10 fun v w_11 =>
        ∃ r138 : Int, v = (.int .u32 r138) ∧
        atC w_11 (Addr.add (⟨b6, 0, none⟩ : Addr) ((x12 : Int).toNat * 1)) 0 [(.int .u32 x154)] ∧
        atC w_11 (Addr.add (⟨b5, 0, none⟩ : Addr) ((x12 : Int).toNat * 1)) 0 [(.int .u32 x150)] ∧
        atC w_11 (Addr.add (⟨b11, 0, none⟩ : Addr) ((7 : Int).toNat * 1)) 0 [(.int .u32 x136)] ∧
        callP Tryz.prog 107 #[(.int .u32 x107), (.int .i64 11)] w_11 fun v_1 w_12 =>
        ∃ r140 : Int, v_1 = (.int .u32 r140) ∧
        atC w_12 (Addr.add (⟨b6, 0, none⟩ : Addr) ((x12 : Int).toNat * 1)) 0 [(.int .u32 x154)] ∧
        atC w_12 (Addr.add (⟨b5, 0, none⟩ : Addr) ((x12 : Int).toNat * 1)) 0 [(.int .u32 x150)] ∧
        atC w_12 (Addr.add (⟨b11, 0, none⟩ : Addr) ((7 : Int).toNat * 1)) 0 [(.int .u32 x136)] ∧
        callP Tryz.prog 107 #[(.int .u32 x107), (.int .i64 25)] w_12 fun v_2 w_13 =>
        ∃ r143 : Int, v_2 = (.int .u32 r143) ∧
        atC w_13 (Addr.add (⟨b6, 0, none⟩ : Addr) ((x12 : Int).toNat * 1)) 0 [(.int .u32 x154)] ∧
        atC w_13 (Addr.add (⟨b5, 0, none⟩ : Addr) ((x12 : Int).toNat * 1)) 0 [(.int .u32 x150)] ∧
        atC w_13 (Addr.add (⟨b11, 0, none⟩ : Addr) ((7 : Int).toNat * 1)) 0 [(.int .u32 x136)] ∧
        callP Tryz.prog 107 #[(.int .u32 x109), (.int .i64 2)] w_13 fun v_3 w_14 =>
        ∃ r157 : Int, v_3 = (.int .u32 r157) ∧
        callP Tryz.prog 107 #[(.int .u32 x109), (.int .i64 13)] w_14 fun v_4 w_15 =>
        ∃ r159 : Int, v_4 = (.int .u32 r159) ∧
        callP Tryz.prog 107 #[(.int .u32 x109), (.int .i64 22)] w_15 fun v_5 w_16 =>
        ∃ r162 : Int, v_5 = (.int .u32 r162) ∧
        ((0 : Int) ≤ 0 ∧ 0 < ((8 : Nat) : Int)) ∧
        rd (.int .u32) w_16 (Addr.add (⟨b11, 0, none⟩ : Addr) ((0 : Int).toNat * 1)) 0 fun x170 =>
        ((0 : Int) ≤ 1 ∧ 1 < ((8 : Nat) : Int)) ∧
        rd (.int .u32) w_16 (Addr.add (⟨b11, 0, none⟩ : Addr) ((1 : Int).toNat * 1)) 0 fun x172 =>
        ((0 : Int) ≤ 2 ∧ 2 < ((8 : Nat) : Int)) ∧
        rd (.int .u32) w_16 (Addr.add (⟨b11, 0, none⟩ : Addr) ((2 : Int).toNat * 1)) 0 fun x174 =>
        ((0 : Int) ≤ 3 ∧ 3 < ((8 : Nat) : Int)) ∧
        rd (.int .u32) w_16 (Addr.add (⟨b11, 0, none⟩ : Addr) ((3 : Int).toNat * 1)) 0 fun x176 =>
        ((0 : Int) ≤ 4 ∧ 4 < ((8 : Nat) : Int)) ∧
        rd (.int .u32) w_16 (Addr.add (⟨b11, 0, none⟩ : Addr) ((4 : Int).toNat * 1)) 0 fun x180 =>
        ((0 : Int) ≤ 5 ∧ 5 < ((8 : Nat) : Int)) ∧
        rd (.int .u32) w_16 (Addr.add (⟨b11, 0, none⟩ : Addr) ((5 : Int).toNat * 1)) 0 fun x182 =>
        ((0 : Int) ≤ 6 ∧ 6 < ((8 : Nat) : Int)) ∧
        rd (.int .u32) w_16 (Addr.add (⟨b11, 0, none⟩ : Addr) ((6 : Int).toNat * 1)) 0 fun x184 =>
        wr w_16 (⟨b11, 0, none⟩ : Addr) [(.int .u32 (IntKind.wrap .u32 ((IntKind.wrap .u32 ((IntKind.wrap .u32 ((IntKind.wrap .u32 ((IntKind.wrap .u32 (x136 + (ixor .u32 (ixor .u32 r138 r140) r143))) + (ior .u32 (iand .u32 x107 x112) (iand .u32 (IntKind.wrap .u32 (4294967295 - x107)) x117)))) + x150)) + x154)) + (IntKind.wrap .u32 ((ixor .u32 (ixor .u32 r157 r159) r162) + (ior .u32 (ior .u32 (iand .u32 x109 x122) (iand .u32 x109 x126)) (iand .u32 x130 x132))))))), (.int .u32 x170), (.int .u32 x172), (.int .u32 x174), (.int .u32 (IntKind.wrap .u32 (x176 + (IntKind.wrap .u32 ((IntKind.wrap .u32 ((IntKind.wrap .u32 ((IntKind.wrap .u32 (x136 + (ixor .u32 (ixor .u32 r138 r140) r143))) + (ior .u32 (iand .u32 x107 x112) (iand .u32 (IntKind.wrap .u32 (4294967295 - x107)) x117)))) + x150)) + x154))))), (.int .u32 x180), (.int .u32 x182), (.int .u32 x184)] fun w_17 =>
        K_2 (IntKind.wrap .i64 (x12 + 1)) w_17)
        (∃ (I_3 : Int → World → Prop) (μ_3 : Int → World → Nat), (I_3 0 w_9) ∧
        ∀ x19 : Int, ∀ (w_10 : World) (K_3 : Int → World → Prop), I_3 x19 w_10 →
          (∀ x19' : Int, ∀ w' : World, I_3 x19' w' → μ_3 x19' w' < μ_3 x19 w_10 → K_3 x19' w') →
        br (decide ((x19 : Int) < 8))
          (dr w_10 fun w_11 =>
          ((0 : Int) ≤ x19 ∧ x19 < ((8 : Nat) : Int)) ∧
          rd (.int .u32) w_11 (Addr.add (⟨b11, 0, none⟩ : Addr) ((x19 : Int).toNat * 1)) 0 fun x193 =>
          ((0 : Int) ≤ x19 ∧ x19 < ((8 : Nat) : Int)) ∧
          rd (.int .u32) w_11 (Addr.add (⟨b2, 0, none⟩ : Addr) ((x19 : Int).toNat * 1)) 0 fun x196 =>
          ((0 : Int) ≤ x19 ∧ x19 < ((8 : Nat) : Int)) ∧
          wr w_11 (Addr.add (⟨b11, 0, none⟩ : Addr) ((x19 : Int).toNat * 1)) [(.int .u32 (IntKind.wrap .u32 (x193 + x196)))] fun w_12 =>
          K_3 (IntKind.wrap .i64 (x19 + 1)) w_12)
          (rd (.arr .u32 8) w_10 (⟨b11, 0, none⟩ : Addr) 0 fun x199 =>
          wr w_10 (⟨b4, 0, none⟩ : Addr) (cellsA .u32 x199 0 8) fun w_11 =>
          rd (.arr .u32 8) w_11 (⟨b4, 0, none⟩ : Addr) 0 fun r4 =>
          Q (arrV .u32 8 r4) w_11))))
set_option maxRecDepth 100000 in
theorem sortitionref06_step_ok {p0 : Nat → Int} {p1 : Sl} {w : World} {Q : Value → World → Prop} (h : sortitionref06_step p0 p1 w Q) : callP Tryz.prog 80 #[(arrV .u32 8 p0), (.slice p1.p p1.len p1.cap)] w Q := by
  have e : sortitionref06_step p0 p1 w Q = denF Tryz.prog ⟨[(4, [(7, false, [(.int .i64)])], [1, 2, 4, 5, 6]), (8, [(8, false, [(.int .i64)])], [2, 4, 5, 6]), (15, [(12, false, [(.int .i64)])], [2, 4, 5, 6, 11]), (25, [(19, false, [(.int .i64)])], [2, 4, 11])], [], []⟩ Tryz.f80 [(arrV .u32 8 p0), (.slice p1.p p1.len p1.cap)] w Q := by kernel_rfl
  exact denF_sound mixed Tryz.func80 (Eq.mp e h)

/-- sortition/sortitionref06.right -/
def sortitionref06_right (p0 : Int) (p1 : Int) (w : World) (Q : Value → World → Prop) : Prop :=
  dr w fun w1 =>
  (0 : Int) ≤ p1 ∧
  (0 : Int) ≤ (IntKind.wrap .i64 (32 - p1)) ∧
  Q (.int .u32 (IntKind.wrap .u32 ((ishr .u32 p0 p1) + (ishl .u32 p0 (IntKind.wrap .i64 (32 - p1)))))) w1
set_option maxRecDepth 100000 in
theorem sortitionref06_right_ok {p0 : Int} {p1 : Int} {w : World} {Q : Value → World → Prop} (h : sortitionref06_right p0 p1 w Q) : callP Tryz.prog 107 #[(.int .u32 p0), (.int .i64 p1)] w Q := by
  have e : sortitionref06_right p0 p1 w Q = denF Tryz.prog ⟨[], [], []⟩ Tryz.f107 [(.int .u32 p0), (.int .i64 p1)] w Q := by kernel_rfl
  exact denF_sound mixed Tryz.func107 (Eq.mp e h)

/-- sortition/sortitionref19.Answer -/
def sortitionref19_Answer (p0 : Sl) (p1 : Int) (p2 : Int) (w : World) (Q : Value → World → Prop) : Prop :=
  ∃ (I : Sl → Int → World → Prop) (μ : Sl → Int → World → Nat), (I ⟨none, 0, 0⟩ 0 w) ∧
  ∀ x7 : Sl, ∀ x8 : Int, ∀ (w1 : World) (K : Sl → Int → World → Prop), I x7 x8 w1 →
    (∀ x7' : Sl, ∀ x8' : Int, ∀ w' : World, I x7' x8' w' → μ x7' x8' w' < μ x7 x8 w1 → K x7' x8' w') →
  br (decide ((x8 : Int) < ((p0.len : Nat) : Int)))
    (br (decide (((IntKind.wrap .u64 x8) : Int) ≥ p2))
      (br (decide ((((x7.len : Nat) : Int) : Int) < 4))
        (((0 : Int) ≤ x8 ∧ x8 < ((p0.len : Nat) : Int)) ∧
        nn p0.p fun a30 =>
        rd .slc w1 (Addr.add a30 ((x8 : Int).toNat * 1)) 0 fun x31 =>
        al w1 (.cells #[(.int .u64 (IntKind.wrap .u64 x8)), (.int .i64 p1), (.slice x31.p x31.len x31.cap)] 45) fun b33 w_1 =>
        appP Tryz.prog 45 w_1 ⟨x7.p, x7.len, x7.cap⟩ (.slice (some ⟨b33, 0, none⟩) 1 1) fun s34 w_2 =>
        K s34 (IntKind.wrap .i64 (x8 + 1)) w_2)
        (K x7 (IntKind.wrap .i64 (x8 + 1)) w1))
      (K x7 (IntKind.wrap .i64 (x8 + 1)) w1))
    (Q (.slice x7.p x7.len x7.cap) w1)
set_option maxRecDepth 100000 in
theorem sortitionref19_Answer_ok {p0 : Sl} {p1 : Int} {p2 : Int} {w : World} {Q : Value → World → Prop} (h : sortitionref19_Answer p0 p1 p2 w Q) : callP Tryz.prog 15 #[(.slice p0.p p0.len p0.cap), (.int .i64 p1), (.int .u64 p2)] w Q := by
  have e : sortitionref19_Answer p0 p1 p2 w Q = denF Tryz.prog ⟨[(3, [(7, false, [.slc]), (8, false, [(.int .i64)])], [0, 1, 2])], [], []⟩ Tryz.f15 [(.slice p0.p p0.len p0.cap), (.int .i64 p1), (.int .u64 p2)] w Q := by kernel_rfl
  exact denF_sound mixed Tryz.func15 (Eq.mp e h)

/-- sortition/sortitionlaw19.block -/
def sortitionlaw19_block (p0 : Int) (p1 : Sl) (w : World) (Q : Value → World → Prop) : Prop :=
  br (decide ((((p1.len : Nat) : Int) : Int) > 0))
    (al w (.cells #[(.slice p1.p p1.len p1.cap)] 30) fun b12 w1 =>
    callP Tryz.prog 26 #[(.int .u64 p0), (.slice (some ⟨b12, 0, none⟩) 1 1)] w1 fun v w_1 =>
    ∃ r16 : Sl, ∃ r16_1 : Int, v = .tuple #[(.slice r16.p r16.len r16.cap), (.int .i64 r16_1)] ∧
    Q (.slice r16.p r16.len r16.cap) w_1)
    (callP Tryz.prog 26 #[(.int .u64 p0), (.slice none 0 0)] w fun v w1 =>
    ∃ r16 : Sl, ∃ r16_1 : Int, v = .tuple #[(.slice r16.p r16.len r16.cap), (.int .i64 r16_1)] ∧
    Q (.slice r16.p r16.len r16.cap) w1)
set_option maxRecDepth 100000 in
theorem sortitionlaw19_block_ok {p0 : Int} {p1 : Sl} {w : World} {Q : Value → World → Prop} (h : sortitionlaw19_block p0 p1 w Q) : callP Tryz.prog 9 #[(.int .u64 p0), (.slice p1.p p1.len p1.cap)] w Q := by
  have e : sortitionlaw19_block p0 p1 w Q = denF Tryz.prog ⟨[], [], []⟩ Tryz.f9 [(.int .u64 p0), (.slice p1.p p1.len p1.cap)] w Q := by kernel_rfl
  exact denF_sound mixed Tryz.func9 (Eq.mp e h)

/-- sortition/sortitionlaw19.awake -/
def sortitionlaw19_awake (w : World) (Q : Value → World → Prop) : Prop :=
  al w (.cells #[(.int .u64 1), (.int .u64 1), (.int .u64 1), (.int .u64 1)] 24) fun b15 w1 =>
  callP Tryz.prog 7 #[(.slice (some ⟨b15, 0, none⟩) 4 4)] w1 fun v w_1 =>
  ∃ r16 : Option Addr, ∃ r16_1 : Int, v = .tuple #[(.pointer r16), (.int .i64 r16_1)] ∧
  br (Option.isNone r16)
    (Q (.bool false) w_1)
    (br ((r16_1 : Int) != 0)
      (Q (.bool false) w_1)
      (callP Tryz.prog 9 #[(.int .u64 0), (.slice none 0 0)] w_1 fun v_1 w_2 =>
      ∃ r25 : Sl, v_1 = (.slice r25.p r25.len r25.cap) ∧
      callP Tryz.prog 8 #[(.pointer r16), (.agg #[(.int .u64 0), (.int .i64 0), (.slice r25.p r25.len r25.cap)])] w_2 fun v_2 w_3 =>
      ∃ r29 : Int, v_2 = (.int .i64 r29) ∧
      callP Tryz.prog 11 #[(.pointer r16), (.int .u64 0)] w_3 fun v_3 w_4 =>
      ∃ r32 : Sl, ∃ r32_1 : Bool, v_3 = .tuple #[(.slice r32.p r32.len r32.cap), (.bool r32_1)] ∧
      callP Tryz.prog 8 #[(.pointer r16), (.agg #[(.int .u64 0), (.int .i64 1), (.slice r25.p r25.len r25.cap)])] w_4 fun v_4 w_5 =>
      ∃ r38 : Int, v_4 = (.int .i64 r38) ∧
      callP Tryz.prog 11 #[(.pointer r16), (.int .u64 0)] w_5 fun v_5 w_6 =>
      ∃ r41 : Sl, ∃ r41_1 : Bool, v_5 = .tuple #[(.slice r41.p r41.len r41.cap), (.bool r41_1)] ∧
      al w_6 (.cells #[(.int .u8 1)] 5) fun b45 w_7 =>
      callP Tryz.prog 9 #[(.int .u64 0), (.slice (some ⟨b45, 0, none⟩) 1 1)] w_7 fun v_6 w_8 =>
      ∃ r46 : Sl, v_6 = (.slice r46.p r46.len r46.cap) ∧
      callP Tryz.prog 8 #[(.pointer r16), (.agg #[(.int .u64 0), (.int .i64 0), (.slice r46.p r46.len r46.cap)])] w_8 fun v_7 w_9 =>
      ∃ r48 : Int, v_7 = (.int .i64 r48) ∧
      callP Tryz.prog 18 #[(.pointer r16), (.int .u64 0)] w_9 fun v_8 w_10 =>
      ∃ r50 : Sl, v_8 = (.slice r50.p r50.len r50.cap) ∧
      callP Tryz.prog 12 #[(.pointer r16), (.int .u64 1)] w_10 fun v_9 w_11 =>
      ∃ r52 : Int, v_9 = (.int .i64 r52) ∧
      callP Tryz.prog 10 #[(.pointer r16)] w_11 fun v_10 w_12 =>
      ∃ r54 : Sl, v_10 = (.slice r54.p r54.len r54.cap) ∧
      br ((r29 : Int) == 0)
        (br (!r32_1)
          (br ((r38 : Int) == 0)
            (br r41_1
              (callP Tryz.prog 13 #[(.slice r41.p r41.len r41.cap), (.slice r25.p r25.len r25.cap)] w_12 fun v_11 w_13 =>
              ∃ r71 : Bool, v_11 = (.bool r71) ∧
              br r71
                (br ((r48 : Int) == 52)
                  (al w_13 (.cells #[(.slice r25.p r25.len r25.cap)] 30) fun b80 w_14 =>
                  callP Tryz.prog 19 #[(.slice r50.p r50.len r50.cap), (.slice (some ⟨b80, 0, none⟩) 1 1)] w_14 fun v_12 w_15 =>
                  ∃ r81 : Bool, v_12 = (.bool r81) ∧
                  br r81
                    (br ((r52 : Int) == 1)
                      (Q (.bool ((((r54.len : Nat) : Int) : Int) == 0)) w_15)
                      (Q (.bool false) w_15))
                    (Q (.bool false) w_15))
                  (Q (.bool false) w_13))
                (Q (.bool false) w_13))
              (Q (.bool false) w_12))
            (Q (.bool false) w_12))
          (Q (.bool false) w_12))
        (Q (.bool false) w_12)))
set_option maxRecDepth 100000 in
theorem sortitionlaw19_awake_ok {w : World} {Q : Value → World → Prop} (h : sortitionlaw19_awake w Q) : callP Tryz.prog 6 #[] w Q := by
  have e : sortitionlaw19_awake w Q = denF Tryz.prog ⟨[], [], []⟩ Tryz.f6 [] w Q := by kernel_rfl
  exact denF_sound mixed Tryz.func6 (Eq.mp e h)

/-- sortition/sortitionlaw19.ChaseAnswers -/
def sortitionlaw19_ChaseAnswers (p0 : Sl) (p1 : Int) (p2 : Int) (w : World) (Q : Value → World → Prop) : Prop :=
  callP Tryz.prog 6 #[] w fun v w1 =>
  ∃ r11 : Bool, v = (.bool r11) ∧
  br (decide ((((p0.len : Nat) : Int) : Int) > 30))
    (Q (.bool r11) w1)
    (callP Tryz.prog 14 #[(.slice p0.p p0.len p0.cap), (.int .i64 p1), (.int .u64 p2)] w1 fun v_1 w_1 =>
    ∃ r19 : Sl, v_1 = (.slice r19.p r19.len r19.cap) ∧
    callP Tryz.prog 15 #[(.slice p0.p p0.len p0.cap), (.int .i64 p1), (.int .u64 p2)] w_1 fun v_2 w_2 =>
    ∃ r23 : Sl, v_2 = (.slice r23.p r23.len r23.cap) ∧
    br ((((r19.len : Nat) : Int) : Int) != ((r23.len : Nat) : Int))
      (Q (.bool false) w_2)
      (∃ (I : Int → World → Prop) (μ : Int → World → Nat), (I 0 w_2) ∧
      ∀ x10 : Int, ∀ (w_3 : World) (K : Int → World → Prop), I x10 w_3 →
        (∀ x10' : Int, ∀ w' : World, I x10' w' → μ x10' w' < μ x10 w_3 → K x10' w') →
      br (decide ((x10 : Int) < ((r19.len : Nat) : Int)))
        (dr w_3 fun w_4 =>
        ((0 : Int) ≤ x10 ∧ x10 < ((r19.len : Nat) : Int)) ∧
        nn r19.p fun a37 =>
        rd (.int .u64) w_4 (Addr.add a37 ((x10 : Int).toNat * 3)) 0 fun x39 =>
        ((0 : Int) ≤ x10 ∧ x10 < ((r23.len : Nat) : Int)) ∧
        nn r23.p fun a42 =>
        rd (.int .u64) w_4 (Addr.add a42 ((x10 : Int).toNat * 3)) 0 fun x44 =>
        br ((x39 : Int) != x44)
          (Q (.bool false) w_4)
          (((0 : Int) ≤ x10 ∧ x10 < ((r19.len : Nat) : Int)) ∧
          nn r19.p fun a49 =>
          rd (.int .i64) w_4 (Addr.add (Addr.add a49 ((x10 : Int).toNat * 3)) 1) 0 fun x51 =>
          ((0 : Int) ≤ x10 ∧ x10 < ((r23.len : Nat) : Int)) ∧
          nn r23.p fun a54 =>
          rd (.int .i64) w_4 (Addr.add (Addr.add a54 ((x10 : Int).toNat * 3)) 1) 0 fun x56 =>
          br ((x51 : Int) != x56)
            (Q (.bool false) w_4)
            (((0 : Int) ≤ x10 ∧ x10 < ((r19.len : Nat) : Int)) ∧
            nn r19.p fun a62 =>
            rd .slc w_4 (Addr.add (Addr.add a62 ((x10 : Int).toNat * 3)) 2) 0 fun x64 =>
            ((0 : Int) ≤ x10 ∧ x10 < ((r23.len : Nat) : Int)) ∧
            nn r23.p fun a67 =>
            rd .slc w_4 (Addr.add (Addr.add a67 ((x10 : Int).toNat * 3)) 2) 0 fun x69 =>
            callP Tryz.prog 13 #[(.slice x64.p x64.len x64.cap), (.slice x69.p x69.len x69.cap)] w_4 fun v_3 w_5 =>
            ∃ r70 : Bool, v_3 = (.bool r70) ∧
            br (!r70)
              (Q (.bool false) w_5)
              (K (IntKind.wrap .i64 (x10 + 1)) w_5))))
        (Q (.bool r11) w_3)))
set_option maxRecDepth 100000 in
theorem sortitionlaw19_ChaseAnswers_ok {p0 : Sl} {p1 : Int} {p2 : Int} {w : World} {Q : Value → World → Prop} (h : sortitionlaw19_ChaseAnswers p0 p1 p2 w Q) : callP Tryz.prog 4 #[(.slice p0.p p0.len p0.cap), (.int .i64 p1), (.int .u64 p2)] w Q := by
  have e : sortitionlaw19_ChaseAnswers p0 p1 p2 w Q = denF Tryz.prog ⟨[(9, [(10, false, [(.int .i64)])], [7, 8, 9])], [], []⟩ Tryz.f4 [(.slice p0.p p0.len p0.cap), (.int .i64 p1), (.int .u64 p2)] w Q := by kernel_rfl
  exact denF_sound mixed Tryz.func4 (Eq.mp e h)

/-- sortition/sortitionlaw19.ChaseForgets -/
def sortitionlaw19_ChaseForgets (p0 : Sl) (p1 : Sl) (p2 : Int) (w : World) (Q : Value → World → Prop) : Prop :=
  callP Tryz.prog 6 #[] w fun v w1 =>
  ∃ r21 : Bool, v = (.bool r21) ∧
  callP Tryz.prog 7 #[(.slice p0.p p0.len p0.cap)] w1 fun v_1 w_1 =>
  ∃ r24 : Option Addr, ∃ r24_1 : Int, v_1 = .tuple #[(.pointer r24), (.int .i64 r24_1)] ∧
  br (Option.isNone r24)
    (Q (.bool r21) w_1)
    (br (decide ((((p1.len : Nat) : Int) : Int) > 50))
      (Q (.bool r21) w_1)
      (∃ (I : Int → World → Prop) (μ : Int → World → Nat), (I 0 w_1) ∧
      ∀ x10 : Int, ∀ (w_2 : World) (K : Int → World → Prop), I x10 w_2 →
        (∀ x10' : Int, ∀ w' : World, I x10' w' → μ x10' w' < μ x10 w_2 → K x10' w') →
      br (decide ((x10 : Int) < ((p1.len : Nat) : Int)))
        (((0 : Int) ≤ x10 ∧ x10 < ((p1.len : Nat) : Int)) ∧
        nn p1.p fun a43 =>
        rd .slc w_2 (Addr.add (Addr.add a43 ((x10 : Int).toNat * 3)) 2) 0 fun x45 =>
        br (decide ((((x45.len : Nat) : Int) : Int) > 200))
          (Q (.bool r21) w_2)
          (dr w_2 fun w_3 =>
          ((0 : Int) ≤ x10 ∧ x10 < ((p1.len : Nat) : Int)) ∧
          nn p1.p fun a52 =>
          rd (.int .u64) w_3 (Addr.add a52 ((x10 : Int).toNat * 3)) 0 fun x54 =>
          ((0 : Int) ≤ x10 ∧ x10 < ((p1.len : Nat) : Int)) ∧
          nn p1.p fun a57 =>
          rd (.int .i64) w_3 (Addr.add (Addr.add a57 ((x10 : Int).toNat * 3)) 1) 0 fun x59 =>
          ((0 : Int) ≤ x10 ∧ x10 < ((p1.len : Nat) : Int)) ∧
          nn p1.p fun a62 =>
          rd (.int .u64) w_3 (Addr.add a62 ((x10 : Int).toNat * 3)) 0 fun x64 =>
          ((0 : Int) ≤ x10 ∧ x10 < ((p1.len : Nat) : Int)) ∧
          nn p1.p fun a67 =>
          rd .slc w_3 (Addr.add (Addr.add a67 ((x10 : Int).toNat * 3)) 2) 0 fun x69 =>
          callP Tryz.prog 9 #[(.int .u64 x64), (.slice x69.p x69.len x69.cap)] w_3 fun v_2 w_4 =>
          ∃ r70 : Sl, v_2 = (.slice r70.p r70.len r70.cap) ∧
          atC w_4 (Addr.add (Addr.add a57 ((x10 : Int).toNat * 3)) 1) 0 [(.int .i64 x59)] ∧
          atC w_4 (Addr.add a52 ((x10 : Int).toNat * 3)) 0 [(.int .u64 x54)] ∧
          callP Tryz.prog 8 #[(.pointer r24), (.agg #[(.int .u64 x54), (.int .i64 x59), (.slice r70.p r70.len r70.cap)])] w_4 fun v_3 w_5 =>
          ∃ r72 : Int, v_3 = (.int .i64 r72) ∧
          K (IntKind.wrap .i64 (x10 + 1)) w_5))
        (callP Tryz.prog 10 #[(.pointer r24)] w_2 fun v_2 w_3 =>
        ∃ r74 : Sl, v_2 = (.slice r74.p r74.len r74.cap) ∧
        ∃ (I_1 : Sl → Int → World → Prop) (μ_1 : Sl → Int → World → Nat), (I_1 ⟨none, 0, 0⟩ 0 w_3) ∧
        ∀ x12 : Sl, ∀ x13 : Int, ∀ (w_4 : World) (K_1 : Sl → Int → World → Prop), I_1 x12 x13 w_4 →
          (∀ x12' : Sl, ∀ x13' : Int, ∀ w' : World, I_1 x12' x13' w' → μ_1 x12' x13' w' < μ_1 x12 x13 w_4 → K_1 x12' x13' w') →
        br (decide ((x13 : Int) < ((r74.len : Nat) : Int)))
          (((0 : Int) ≤ x13 ∧ x13 < ((r74.len : Nat) : Int)) ∧
          nn r74.p fun a85 =>
          rd (.int .u64) w_4 (Addr.add a85 ((x13 : Int).toNat * 1)) 0 fun x86 =>
          callP Tryz.prog 11 #[(.pointer r24), (.int .u64 x86)] w_4 fun v_3 w_5 =>
          ∃ r87 : Sl, ∃ r87_1 : Bool, v_3 = .tuple #[(.slice r87.p r87.len r87.cap), (.bool r87_1)] ∧
          al w_5 (.cells #[(.slice r87.p r87.len r87.cap)] 30) fun b92 w_6 =>
          appP Tryz.prog 30 w_6 ⟨x12.p, x12.len, x12.cap⟩ (.slice (some ⟨b92, 0, none⟩) 1 1) fun s93 w_7 =>
          K_1 s93 (IntKind.wrap .i64 (x13 + 1)) w_7)
          (callP Tryz.prog 12 #[(.pointer r24), (.int .u64 p2)] w_4 fun v_3 w_5 =>
          ∃ r96 : Int, v_3 = (.int .i64 r96) ∧
          callP Tryz.prog 10 #[(.pointer r24)] w_5 fun v_4 w_6 =>
          ∃ r98 : Sl, v_4 = (.slice r98.p r98.len r98.cap) ∧
          br (((IntKind.wrap .i64 (((r98.len : Nat) : Int) + r96)) : Int) != ((r74.len : Nat) : Int))
            (Q (.bool false) w_6)
            (∃ (I_2 : Int → World → Prop) (μ_2 : Int → World → Nat), (I_2 0 w_6) ∧
            ∀ x18 : Int, ∀ (w_7 : World) (K_2 : Int → World → Prop), I_2 x18 w_7 →
              (∀ x18' : Int, ∀ w' : World, I_2 x18' w' → μ_2 x18' w' < μ_2 x18 w_7 → K_2 x18' w') →
            br (decide ((x18 : Int) < ((r74.len : Nat) : Int)))
              (((0 : Int) ≤ x18 ∧ x18 < ((r74.len : Nat) : Int)) ∧
              nn r74.p fun a116 =>
              rd (.int .u64) w_7 (Addr.add a116 ((x18 : Int).toNat * 1)) 0 fun x117 =>
              callP Tryz.prog 11 #[(.pointer r24), (.int .u64 x117)] w_7 fun v_5 w_8 =>
              ∃ r118 : Sl, ∃ r118_1 : Bool, v_5 = .tuple #[(.slice r118.p r118.len r118.cap), (.bool r118_1)] ∧
              ((0 : Int) ≤ x18 ∧ x18 < ((r74.len : Nat) : Int)) ∧
              nn r74.p fun a123 =>
              rd (.int .u64) w_8 (Addr.add a123 ((x18 : Int).toNat * 1)) 0 fun x124 =>
              br (decide ((x124 : Int) < p2))
                (br r118_1
                  (Q (.bool false) w_8)
                  (br (decide ((((r118.len : Nat) : Int) : Int) > 0))
                    (Q (.bool false) w_8)
                    (((0 : Int) ≤ x18 ∧ x18 < ((r74.len : Nat) : Int)) ∧
                    nn r74.p fun a138 =>
                    rd (.int .u64) w_8 (Addr.add a138 ((x18 : Int).toNat * 1)) 0 fun x139 =>
                    br (decide ((x139 : Int) ≥ p2))
                      (((0 : Int) ≤ x18 ∧ x18 < ((x12.len : Nat) : Int)) ∧
                      nn x12.p fun a146 =>
                      rd .slc w_8 (Addr.add a146 ((x18 : Int).toNat * 1)) 0 fun x147 =>
                      callP Tryz.prog 13 #[(.slice r118.p r118.len r118.cap), (.slice x147.p x147.len x147.cap)] w_8 fun v_6 w_9 =>
                      ∃ r148 : Bool, v_6 = (.bool r148) ∧
                      br (!r148)
                        (Q (.bool false) w_9)
                        (K_2 (IntKind.wrap .i64 (x18 + 1)) w_9))
                      (K_2 (IntKind.wrap .i64 (x18 + 1)) w_8))))
                (((0 : Int) ≤ x18 ∧ x18 < ((r74.len : Nat) : Int)) ∧
                nn r74.p fun a138 =>
                rd (.int .u64) w_8 (Addr.add a138 ((x18 : Int).toNat * 1)) 0 fun x139 =>
                br (decide ((x139 : Int) ≥ p2))
                  (((0 : Int) ≤ x18 ∧ x18 < ((x12.len : Nat) : Int)) ∧
                  nn x12.p fun a146 =>
                  rd .slc w_8 (Addr.add a146 ((x18 : Int).toNat * 1)) 0 fun x147 =>
                  callP Tryz.prog 13 #[(.slice r118.p r118.len r118.cap), (.slice x147.p x147.len x147.cap)] w_8 fun v_6 w_9 =>
                  ∃ r148 : Bool, v_6 = (.bool r148) ∧
                  br (!r148)
                    (Q (.bool false) w_9)
                    (K_2 (IntKind.wrap .i64 (x18 + 1)) w_9))
                  (K_2 (IntKind.wrap .i64 (x18 + 1)) w_8)))
              (Q (.bool r21) w_7))))))
set_option maxRecDepth 100000 in
theorem sortitionlaw19_ChaseForgets_ok {p0 : Sl} {p1 : Sl} {p2 : Int} {w : World} {Q : Value → World → Prop} (h : sortitionlaw19_ChaseForgets p0 p1 p2 w Q) : callP Tryz.prog 3 #[(.slice p0.p p0.len p0.cap), (.slice p1.p p1.len p1.cap), (.int .u64 p2)] w Q := by
  have e : sortitionlaw19_ChaseForgets p0 p1 p2 w Q = denF Tryz.prog ⟨[(6, [(10, false, [(.int .i64)])], [1, 2, 7, 8]), (14, [(12, false, [.slc]), (13, false, [(.int .i64)])], [2, 7, 8, 11]), (23, [(18, false, [(.int .i64)])], [2, 7, 8, 11, 12])], [], []⟩ Tryz.f3 [(.slice p0.p p0.len p0.cap), (.slice p1.p p1.len p1.cap), (.int .u64 p2)] w Q := by kernel_rfl
  exact denF_sound mixed Tryz.func3 (Eq.mp e h)

/-- sortition/sortitionlaw19.ChaseTrue -/
def sortitionlaw19_ChaseTrue (p0 : Sl) (p1 : Sl) (p2 : Sl) (p3 : Sl) (w : World) (Q : Value → World → Prop) : Prop :=
  callP Tryz.prog 6 #[] w fun v w1 =>
  ∃ r24 : Bool, v = (.bool r24) ∧
  br (decide ((((p0.len : Nat) : Int) : Int) > 10))
    (Q (.bool r24) w1)
    (br ((((p1.len : Nat) : Int) : Int) != ((p0.len : Nat) : Int))
      (Q (.bool r24) w1)
      (br (decide ((((p2.len : Nat) : Int) : Int) > 8))
        (Q (.bool r24) w1)
        (br (decide ((((p3.len : Nat) : Int) : Int) > 50))
          (Q (.bool r24) w1)
          (∃ (I : Int → Int → World → Prop) (μ : Int → Int → World → Nat), (I 0 0 w1) ∧
          ∀ x10 : Int, ∀ x11 : Int, ∀ (w_1 : World) (K : Int → Int → World → Prop), I x10 x11 w_1 →
            (∀ x10' : Int, ∀ x11' : Int, ∀ w' : World, I x10' x11' w' → μ x10' x11' w' < μ x10 x11 w_1 → K x10' x11' w') →
          br (decide ((x11 : Int) < ((p0.len : Nat) : Int)))
            (((0 : Int) ≤ x11 ∧ x11 < ((p0.len : Nat) : Int)) ∧
            nn p0.p fun a54 =>
            rd (.int .u64) w_1 (Addr.add a54 ((x11 : Int).toNat * 1)) 0 fun x55 =>
            br (decide ((x55 : Int) ≥ 72057594037927936))
              (Q (.bool r24) w_1)
              (((0 : Int) ≤ x11 ∧ x11 < ((p1.len : Nat) : Int)) ∧
              nn p1.p fun a60 =>
              rd .bool w_1 (Addr.add a60 ((x11 : Int).toNat * 1)) 0 fun x61 =>
              br x61
                (((0 : Int) ≤ x11 ∧ x11 < ((p0.len : Nat) : Int)) ∧
                nn p0.p fun a65 =>
                rd (.int .u64) w_1 (Addr.add a65 ((x11 : Int).toNat * 1)) 0 fun x66 =>
                K (IntKind.wrap .u64 (x10 + x66)) (IntKind.wrap .i64 (x11 + 1)) w_1)
                (K x10 (IntKind.wrap .i64 (x11 + 1)) w_1)))
            (callP Tryz.prog 7 #[(.slice p0.p p0.len p0.cap)] w_1 fun v_1 w_2 =>
            ∃ r70 : Option Addr, ∃ r70_1 : Int, v_1 = .tuple #[(.pointer r70), (.int .i64 r70_1)] ∧
            br (Option.isNone r70)
              (Q (.bool r24) w_2)
              (callP Tryz.prog 16 #[(.slice p0.p p0.len p0.cap)] w_2 fun v_2 w_3 =>
              ∃ r79 : Int, v_2 = (.int .u64 r79) ∧
              br (decide (((IntKind.wrap .u64 (3 * x10)) : Int) ≥ r79))
                (Q (.bool r24) w_3)
                (∃ (I_1 : Sl → Int → World → Prop) (μ_1 : Sl → Int → World → Nat), (I_1 ⟨none, 0, 0⟩ 0 w_3) ∧
                ∀ x14 : Sl, ∀ x15 : Int, ∀ (w_4 : World) (K_1 : Sl → Int → World → Prop), I_1 x14 x15 w_4 →
                  (∀ x14' : Sl, ∀ x15' : Int, ∀ w' : World, I_1 x14' x15' w' → μ_1 x14' x15' w' < μ_1 x14 x15 w_4 → K_1 x14' x15' w') →
                br (decide ((x15 : Int) < ((p2.len : Nat) : Int)))
                  (((0 : Int) ≤ x15 ∧ x15 < ((p2.len : Nat) : Int)) ∧
                  nn p2.p fun a91 =>
                  rd .slc w_4 (Addr.add a91 ((x15 : Int).toNat * 1)) 0 fun x92 =>
                  br (decide ((((x92.len : Nat) : Int) : Int) > 200))
                    (Q (.bool r24) w_4)
                    (((0 : Int) ≤ x15 ∧ x15 < ((p2.len : Nat) : Int)) ∧
                    nn p2.p fun a101 =>
                    rd .slc w_4 (Addr.add a101 ((x15 : Int).toNat * 1)) 0 fun x102 =>
                    callP Tryz.prog 9 #[(.int .u64 (IntKind.wrap .u64 x15)), (.slice x102.p x102.len x102.cap)] w_4 fun v_3 w_5 =>
                    ∃ r103 : Sl, v_3 = (.slice r103.p r103.len r103.cap) ∧
                    al w_5 (.cells #[(.slice r103.p r103.len r103.cap)] 30) fun b104 w_6 =>
                    appP Tryz.prog 30 w_6 ⟨x14.p, x14.len, x14.cap⟩ (.slice (some ⟨b104, 0, none⟩) 1 1) fun s105 w_7 =>
                    K_1 s105 (IntKind.wrap .i64 (x15 + 1)) w_7))
                  (∃ (I_2 : Int → World → Prop) (μ_2 : Int → World → Nat), (I_2 0 w_4) ∧
                  ∀ x16 : Int, ∀ (w_5 : World) (K_2 : Int → World → Prop), I_2 x16 w_5 →
                    (∀ x16' : Int, ∀ w' : World, I_2 x16' w' → μ_2 x16' w' < μ_2 x16 w_5 → K_2 x16' w') →
                  br (decide ((x16 : Int) < ((p3.len : Nat) : Int)))
                    (((0 : Int) ≤ x16 ∧ x16 < ((p3.len : Nat) : Int)) ∧
                    nn p3.p fun a114 =>
                    rd (.int .u64) w_5 (Addr.add a114 ((x16 : Int).toNat * 3)) 0 fun x115 =>
                    rd (.int .i64) w_5 (Addr.add a114 ((x16 : Int).toNat * 3)) 1 fun x115_1 =>
                    rd .slc w_5 (Addr.add a114 ((x16 : Int).toNat * 3)) 2 fun x115_2 =>
                    al w_5 (.cells #[(.int .u64 0), (.int .i64 0), (.slice none 0 0)] 32) fun b17 w_6 =>
                    wr w_6 (⟨b17, 0, none⟩ : Addr) [(.int .u64 x115), (.int .i64 x115_1), (.slice x115_2.p x115_2.len x115_2.cap)] fun w_7 =>
                    rd (.int .i64) w_7 (⟨b17, 1, none⟩ : Addr) 0 fun x117 =>
                    br (decide ((x117 : Int) < 0))
                      (K_2 (IntKind.wrap .i64 (x16 + 1)) w_7)
                      (rd (.int .i64) w_7 (⟨b17, 1, none⟩ : Addr) 0 fun x121 =>
                      br (decide ((x121 : Int) ≥ ((p1.len : Nat) : Int)))
                        (K_2 (IntKind.wrap .i64 (x16 + 1)) w_7)
                        (rd .slc w_7 (⟨b17, 2, none⟩ : Addr) 0 fun x128 =>
                        br (decide ((((x128.len : Nat) : Int) : Int) > 200))
                          (K_2 (IntKind.wrap .i64 (x16 + 1)) w_7)
                          (rd (.int .i64) w_7 (⟨b17, 1, none⟩ : Addr) 0 fun x134 =>
                          ((0 : Int) ≤ x134 ∧ x134 < ((p1.len : Nat) : Int)) ∧
                          nn p1.p fun a135 =>
                          rd .bool w_7 (Addr.add a135 ((x134 : Int).toNat * 1)) 0 fun x136 =>
                          br x136
                            (dr w_7 fun w_8 =>
                            rd (.int .u64) w_8 (⟨b17, 0, none⟩ : Addr) 0 fun x139 =>
                            rd (.int .i64) w_8 (⟨b17, 1, none⟩ : Addr) 0 fun x141 =>
                            rd (.int .u64) w_8 (⟨b17, 0, none⟩ : Addr) 0 fun x143 =>
                            rd .slc w_8 (⟨b17, 2, none⟩ : Addr) 0 fun x145 =>
                            callP Tryz.prog 9 #[(.int .u64 x143), (.slice x145.p x145.len x145.cap)] w_8 fun v_3 w_9 =>
                            ∃ r146 : Sl, v_3 = (.slice r146.p r146.len r146.cap) ∧
                            atC w_9 (⟨b17, 1, none⟩ : Addr) 0 [(.int .i64 x141)] ∧
                            atC w_9 (⟨b17, 0, none⟩ : Addr) 0 [(.int .u64 x139)] ∧
                            callP Tryz.prog 8 #[(.pointer r70), (.agg #[(.int .u64 x139), (.int .i64 x141), (.slice r146.p r146.len r146.cap)])] w_9 fun v_4 w_10 =>
                            ∃ r148 : Int, v_4 = (.int .i64 r148) ∧
                            K_2 (IntKind.wrap .i64 (x16 + 1)) w_10)
                            (rd (.int .i64) w_7 (⟨b17, 1, none⟩ : Addr) 0 fun x151 =>
                            rd (.int .u64) w_7 (⟨b17, 0, none⟩ : Addr) 0 fun x153 =>
                            callP Tryz.prog 14 #[(.slice x14.p x14.len x14.cap), (.int .i64 x151), (.int .u64 x153)] w_7 fun v_3 w_8 =>
                            ∃ r154 : Sl, v_3 = (.slice r154.p r154.len r154.cap) ∧
                            ∃ (I_3 : Int → World → Prop) (μ_3 : Int → World → Nat), (I_3 0 w_8) ∧
                            ∀ x19 : Int, ∀ (w_9 : World) (K_3 : Int → World → Prop), I_3 x19 w_9 →
                              (∀ x19' : Int, ∀ w' : World, I_3 x19' w' → μ_3 x19' w' < μ_3 x19 w_9 → K_3 x19' w') →
                            br (decide ((x19 : Int) < ((r154.len : Nat) : Int)))
                              (((0 : Int) ≤ x19 ∧ x19 < ((r154.len : Nat) : Int)) ∧
                              nn r154.p fun a164 =>
                              rd (.int .u64) w_9 (Addr.add a164 ((x19 : Int).toNat * 3)) 0 fun x165 =>
                              rd (.int .i64) w_9 (Addr.add a164 ((x19 : Int).toNat * 3)) 1 fun x165_1 =>
                              rd .slc w_9 (Addr.add a164 ((x19 : Int).toNat * 3)) 2 fun x165_2 =>
                              callP Tryz.prog 8 #[(.pointer r70), (.agg #[(.int .u64 x165), (.int .i64 x165_1), (.slice x165_2.p x165_2.len x165_2.cap)])] w_9 fun v_4 w_10 =>
                              ∃ r166 : Int, v_4 = (.int .i64 r166) ∧
                              K_3 (IntKind.wrap .i64 (x19 + 1)) w_10)
                              (K_2 (IntKind.wrap .i64 (x16 + 1)) w_9))))))
                    (callP Tryz.prog 10 #[(.pointer r70)] w_5 fun v_3 w_6 =>
                    ∃ r168 : Sl, v_3 = (.slice r168.p r168.len r168.cap) ∧
                    ∃ (I_3 : Int → World → Prop) (μ_3 : Int → World → Nat), (I_3 0 w_6) ∧
                    ∀ x21 : Int, ∀ (w_7 : World) (K_3 : Int → World → Prop), I_3 x21 w_7 →
                      (∀ x21' : Int, ∀ w' : World, I_3 x21' w' → μ_3 x21' w' < μ_3 x21 w_7 → K_3 x21' w') →
                    br (decide ((x21 : Int) < ((r168.len : Nat) : Int)))
                      (((0 : Int) ≤ x21 ∧ x21 < ((r168.len : Nat) : Int)) ∧
                      nn r168.p fun a179 =>
                      rd (.int .u64) w_7 (Addr.add a179 ((x21 : Int).toNat * 1)) 0 fun x180 =>
                      callP Tryz.prog 11 #[(.pointer r70), (.int .u64 x180)] w_7 fun v_4 w_8 =>
                      ∃ r181 : Sl, ∃ r181_1 : Bool, v_4 = .tuple #[(.slice r181.p r181.len r181.cap), (.bool r181_1)] ∧
                      dr w_8 fun w_9 =>
                      br r181_1
                        (((0 : Int) ≤ x21 ∧ x21 < ((r168.len : Nat) : Int)) ∧
                        nn r168.p fun a188 =>
                        rd (.int .u64) w_9 (Addr.add a188 ((x21 : Int).toNat * 1)) 0 fun x189 =>
                        br (decide ((x189 : Int) ≥ (IntKind.wrap .u64 ((x14.len : Nat) : Int))))
                          (Q (.bool false) w_9)
                          (((0 : Int) ≤ x21 ∧ x21 < ((r168.len : Nat) : Int)) ∧
                          nn r168.p fun a200 =>
                          rd (.int .u64) w_9 (Addr.add a200 ((x21 : Int).toNat * 1)) 0 fun x201 =>
                          ((0 : Int) ≤ x201 ∧ x201 < ((x14.len : Nat) : Int)) ∧
                          nn x14.p fun a202 =>
                          rd .slc w_9 (Addr.add a202 ((x201 : Int).toNat * 1)) 0 fun x203 =>
                          callP Tryz.prog 17 #[(.slice r181.p r181.len r181.cap)] w_9 fun v_5 w_10 =>
                          ∃ r196 : Nat → Int, v_5 = (arrV .u8 32 r196) ∧
                          atC w_10 (Addr.add a202 ((x201 : Int).toNat * 1)) 0 [(.slice x203.p x203.len x203.cap)] ∧
                          atC w_10 (Addr.add a200 ((x21 : Int).toNat * 1)) 0 [(.int .u64 x201)] ∧
                          callP Tryz.prog 17 #[(.slice x203.p x203.len x203.cap)] w_10 fun v_6 w_11 =>
                          ∃ r204 : Nat → Int, v_6 = (arrV .u8 32 r204) ∧
                          br (!(eqInts (cellsA .u8 r196 0 32) (cellsA .u8 r204 0 32)))
                            (Q (.bool false) w_11)
                            (K_3 (IntKind.wrap .i64 (x21 + 1)) w_11)))
                        (K_3 (IntKind.wrap .i64 (x21 + 1)) w_9))
                      (Q (.bool r24) w_7))))))))))
set_option maxRecDepth 100000 in
theorem sortitionlaw19_ChaseTrue_ok {p0 : Sl} {p1 : Sl} {p2 : Sl} {p3 : Sl} {w : World} {Q : Value → World → Prop} (h : sortitionlaw19_ChaseTrue p0 p1 p2 p3 w Q) : callP Tryz.prog 5 #[(.slice p0.p p0.len p0.cap), (.slice p1.p p1.len p1.cap), (.slice p2.p p2.len p2.cap), (.slice p3.p p3.len p3.cap)] w Q := by
  have e : sortitionlaw19_ChaseTrue p0 p1 p2 p3 w Q = denF Tryz.prog ⟨[(6, [(10, false, [(.int .u64)]), (11, false, [(.int .i64)])], [0, 1, 2, 3, 9]), (17, [(14, false, [.slc]), (15, false, [(.int .i64)])], [1, 2, 3, 9, 12]), (23, [(16, false, [(.int .i64)])], [1, 3, 9, 12, 14]), (31, [(19, false, [(.int .i64)])], [1, 3, 9, 12, 14, 16, 18]), (36, [(21, false, [(.int .i64)])], [9, 12, 14, 20])], [], []⟩ Tryz.f5 [(.slice p0.p p0.len p0.cap), (.slice p1.p p1.len p1.cap), (.slice p2.p p2.len p2.cap), (.slice p3.p p3.len p3.cap)] w Q := by kernel_rfl
  exact denF_sound mixed Tryz.func5 (Eq.mp e h)

end Go.Proofs.YtpcgkfgppfjnlaaGreatDoor.V
