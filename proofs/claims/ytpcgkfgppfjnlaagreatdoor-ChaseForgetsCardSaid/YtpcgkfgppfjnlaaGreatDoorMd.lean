/-
  CONDITIONS, printed by a program of this work (vcgen.py) off the given translation; the kernel checks each against the denotation. | CONDITIONS, printed by a program of this work (vcgen.py) off the given translation; the kernel checks each against the denotation.
-/
import Derived.Test.YtpcgkfgppfjnlaaGreatDoorMb
import Derived.Test.YtpcgkfgppfjnlaaGreatDoorProg
import Derived.Test.YtpcgkfgppfjnlaaGreatDoorMc
namespace Go.Proofs.YtpcgkfgppfjnlaaGreatDoor.V
open Go
set_option linter.unusedVariables false
/-- sortition/codec.New -/
def codec_New (p0 : Sl) (w : World) (Q : Value → World → Prop) : Prop :=
  al w (.cells #[(.slice p0.p p0.len p0.cap), (.int .i64 0)] 115) fun b5 w1 =>
  Q (.pointer (some ⟨b5, 0, none⟩)) w1
set_option maxRecDepth 100000 in
theorem codec_New_ok {p0 : Sl} {w : World} {Q : Value → World → Prop} (h : codec_New p0 w Q) : callP Tryz.prog 37 #[(.slice p0.p p0.len p0.cap)] w Q := by
  have e : codec_New p0 w Q = denF Tryz.prog ⟨[], [], []⟩ Tryz.f37 [(.slice p0.p p0.len p0.cap)] w Q := by kernel_rfl
  exact denF_sound mixed Tryz.func37 (Eq.mp e h)

/-- (*sortition/codec.Reader).take -/
def codec_Reader_take (p0 : Option Addr) (p1 : Int) (w : World) (Q : Value → World → Prop) : Prop :=
  nn p0 fun a8 =>
  rd .slc w a8 0 fun x10 =>
  br (decide ((p1 : Int) > (IntKind.wrap .u64 ((x10.len : Nat) : Int))))
    (callP Tryz.prog 62 #[(.pointer p0), (.int .i64 3)] w fun v w1 =>
    v = .tuple #[] ∧
    nn p0 fun a17 =>
    rd (.int .i64) w1 (Addr.add a17 1) 0 fun x19 =>
    br ((x19 : Int) != 0)
      (Q (.slice none 0 0) w1)
      (nn p0 fun a22 =>
      rd .slc w1 a22 0 fun x24 =>
      ((0 : Int) ≤ p1 ∧ p1 ≤ ((x24.cap : Nat) : Int)) ∧
      nn p0 fun a29 =>
      rd .slc w1 a29 0 fun x31 =>
      ((0 : Int) ≤ p1 ∧ p1 ≤ ((x31.len : Nat) : Int)) ∧
      nn p0 fun a34 =>
      wr w1 a34 [(.slice (cutAt x31.p x31.cap ((p1 : Int).toNat) 1) (x31.len - ((p1 : Int).toNat)) (x31.cap - ((p1 : Int).toNat)))] fun w_1 =>
      Q (.slice (cutAt x24.p x24.cap 0 1) ((p1 : Int).toNat) x24.cap) w_1))
    (nn p0 fun a17 =>
    rd (.int .i64) w (Addr.add a17 1) 0 fun x19 =>
    br ((x19 : Int) != 0)
      (Q (.slice none 0 0) w)
      (nn p0 fun a22 =>
      rd .slc w a22 0 fun x24 =>
      ((0 : Int) ≤ p1 ∧ p1 ≤ ((x24.cap : Nat) : Int)) ∧
      nn p0 fun a29 =>
      rd .slc w a29 0 fun x31 =>
      ((0 : Int) ≤ p1 ∧ p1 ≤ ((x31.len : Nat) : Int)) ∧
      nn p0 fun a34 =>
      wr w a34 [(.slice (cutAt x31.p x31.cap ((p1 : Int).toNat) 1) (x31.len - ((p1 : Int).toNat)) (x31.cap - ((p1 : Int).toNat)))] fun w1 =>
      Q (.slice (cutAt x24.p x24.cap 0 1) ((p1 : Int).toNat) x24.cap) w1))
set_option maxRecDepth 100000 in
theorem codec_Reader_take_ok {p0 : Option Addr} {p1 : Int} {w : World} {Q : Value → World → Prop} (h : codec_Reader_take p0 p1 w Q) : callP Tryz.prog 60 #[(.pointer p0), (.int .u64 p1)] w Q := by
  have e : codec_Reader_take p0 p1 w Q = denF Tryz.prog ⟨[], [], []⟩ Tryz.f60 [(.pointer p0), (.int .u64 p1)] w Q := by kernel_rfl
  exact denF_sound mixed Tryz.func60 (Eq.mp e h)

/-- (*sortition/codec.Reader).wrong -/
def codec_Reader_wrong (p0 : Option Addr) (p1 : Int) (w : World) (Q : Value → World → Prop) : Prop :=
  nn p0 fun a5 =>
  rd (.int .i64) w (Addr.add a5 1) 0 fun x7 =>
  br ((x7 : Int) == 0)
    (nn p0 fun a12 =>
    wr w a12 [(.slice none 0 0)] fun w1 =>
    nn p0 fun a14 =>
    wr w1 (Addr.add a14 1) [(.int .i64 p1)] fun w_1 =>
    Q (.tuple #[]) w_1)
    (Q (.tuple #[]) w)
set_option maxRecDepth 100000 in
theorem codec_Reader_wrong_ok {p0 : Option Addr} {p1 : Int} {w : World} {Q : Value → World → Prop} (h : codec_Reader_wrong p0 p1 w Q) : callP Tryz.prog 62 #[(.pointer p0), (.int .i64 p1)] w Q := by
  have e : codec_Reader_wrong p0 p1 w Q = denF Tryz.prog ⟨[], [], []⟩ Tryz.f62 [(.pointer p0), (.int .i64 p1)] w Q := by kernel_rfl
  exact denF_sound mixed Tryz.func62 (Eq.mp e h)

/-- (*sortition/codec.Reader).Small -/
def codec_Reader_Small (p0 : Option Addr) (p1 : Int) (w : World) (Q : Value → World → Prop) : Prop :=
  callP Tryz.prog 60 #[(.pointer p0), (.int .u64 1)] w fun v w1 =>
  ∃ r10 : Sl, v = (.slice r10.p r10.len r10.cap) ∧
  br ((((r10.len : Nat) : Int) : Int) == 0)
    (Q (.int .u64 0) w1)
    (((0 : Int) ≤ 0 ∧ 0 < ((r10.len : Nat) : Int)) ∧
    nn r10.p fun a15 =>
    rd (.int .u8) w1 (Addr.add a15 ((0 : Int).toNat * 1)) 0 fun x16 =>
    br (decide ((x16 : Int) ≤ 8))
      (((0 : Int) ≤ 0 ∧ 0 < ((r10.len : Nat) : Int)) ∧
      nn r10.p fun a20 =>
      rd (.int .u8) w1 (Addr.add a20 ((0 : Int).toNat * 1)) 0 fun x21 =>
      callP Tryz.prog 60 #[(.pointer p0), (.int .u64 (IntKind.wrap .u64 x21))] w1 fun v_1 w_1 =>
      ∃ r23 : Sl, v_1 = (.slice r23.p r23.len r23.cap) ∧
      callP Tryz.prog 61 #[(.slice r23.p r23.len r23.cap)] w_1 fun v_2 w_2 =>
      ∃ r26 : Nat → Int, ∃ r26_1 : Int, v_2 = .tuple #[(arrV .u64 4 r26), (.int .i64 r26_1)] ∧
      al w_2 (.cells ((cellsA .u64 (fun _ => 0) 0 4) : List Value).toArray 86) fun b7 w_3 =>
      wr w_3 (⟨b7, 0, none⟩ : Addr) (cellsA .u64 r26 0 4) fun w_4 =>
      nn p0 fun a31 =>
      rd (.int .i64) w_4 (Addr.add a31 1) 0 fun x33 =>
      br ((x33 : Int) != 0)
        (nn p0 fun a61 =>
        rd (.int .i64) w_4 (Addr.add a61 1) 0 fun x63 =>
        br ((x63 : Int) != 0)
          (Q (.int .u64 0) w_4)
          (((0 : Int) ≤ 0 ∧ 0 < ((4 : Nat) : Int)) ∧
          rd (.int .u64) w_4 (Addr.add (⟨b7, 0, none⟩ : Addr) ((0 : Int).toNat * 1)) 0 fun x66 =>
          Q (.int .u64 x66) w_4))
        (((0 : Int) ≤ 0 ∧ 0 < ((r10.len : Nat) : Int)) ∧
        nn r10.p fun a37 =>
        rd (.int .u8) w_4 (Addr.add a37 ((0 : Int).toNat * 1)) 0 fun x38 =>
        br (decide ((x38 : Int) > 8))
          (callP Tryz.prog 62 #[(.pointer p0), (.int .i64 31)] w_4 fun v_3 w_5 =>
          v_3 = .tuple #[] ∧
          nn p0 fun a61 =>
          rd (.int .i64) w_5 (Addr.add a61 1) 0 fun x63 =>
          br ((x63 : Int) != 0)
            (Q (.int .u64 0) w_5)
            (((0 : Int) ≤ 0 ∧ 0 < ((4 : Nat) : Int)) ∧
            rd (.int .u64) w_5 (Addr.add (⟨b7, 0, none⟩ : Addr) ((0 : Int).toNat * 1)) 0 fun x66 =>
            Q (.int .u64 x66) w_5))
          (((0 : Int) ≤ 0 ∧ 0 < ((r10.len : Nat) : Int)) ∧
          nn r10.p fun a42 =>
          rd (.int .u8) w_4 (Addr.add a42 ((0 : Int).toNat * 1)) 0 fun x43 =>
          br (decide ((x43 : Int) > 0))
            (((0 : Int) ≤ 0 ∧ 0 < ((r23.len : Nat) : Int)) ∧
            nn r23.p fun a47 =>
            rd (.int .u8) w_4 (Addr.add a47 ((0 : Int).toNat * 1)) 0 fun x48 =>
            br ((x48 : Int) == 0)
              (callP Tryz.prog 62 #[(.pointer p0), (.int .i64 31)] w_4 fun v_3 w_5 =>
              v_3 = .tuple #[] ∧
              nn p0 fun a61 =>
              rd (.int .i64) w_5 (Addr.add a61 1) 0 fun x63 =>
              br ((x63 : Int) != 0)
                (Q (.int .u64 0) w_5)
                (((0 : Int) ≤ 0 ∧ 0 < ((4 : Nat) : Int)) ∧
                rd (.int .u64) w_5 (Addr.add (⟨b7, 0, none⟩ : Addr) ((0 : Int).toNat * 1)) 0 fun x66 =>
                Q (.int .u64 x66) w_5))
              (((0 : Int) ≤ 0 ∧ 0 < ((4 : Nat) : Int)) ∧
              rd (.int .u64) w_4 (Addr.add (⟨b7, 0, none⟩ : Addr) ((0 : Int).toNat * 1)) 0 fun x53 =>
              br (decide ((x53 : Int) > p1))
                (callP Tryz.prog 62 #[(.pointer p0), (.int .i64 2)] w_4 fun v_3 w_5 =>
                v_3 = .tuple #[] ∧
                nn p0 fun a61 =>
                rd (.int .i64) w_5 (Addr.add a61 1) 0 fun x63 =>
                br ((x63 : Int) != 0)
                  (Q (.int .u64 0) w_5)
                  (((0 : Int) ≤ 0 ∧ 0 < ((4 : Nat) : Int)) ∧
                  rd (.int .u64) w_5 (Addr.add (⟨b7, 0, none⟩ : Addr) ((0 : Int).toNat * 1)) 0 fun x66 =>
                  Q (.int .u64 x66) w_5))
                (nn p0 fun a61 =>
                rd (.int .i64) w_4 (Addr.add a61 1) 0 fun x63 =>
                br ((x63 : Int) != 0)
                  (Q (.int .u64 0) w_4)
                  (((0 : Int) ≤ 0 ∧ 0 < ((4 : Nat) : Int)) ∧
                  rd (.int .u64) w_4 (Addr.add (⟨b7, 0, none⟩ : Addr) ((0 : Int).toNat * 1)) 0 fun x66 =>
                  Q (.int .u64 x66) w_4))))
            (((0 : Int) ≤ 0 ∧ 0 < ((4 : Nat) : Int)) ∧
            rd (.int .u64) w_4 (Addr.add (⟨b7, 0, none⟩ : Addr) ((0 : Int).toNat * 1)) 0 fun x53 =>
            br (decide ((x53 : Int) > p1))
              (callP Tryz.prog 62 #[(.pointer p0), (.int .i64 2)] w_4 fun v_3 w_5 =>
              v_3 = .tuple #[] ∧
              nn p0 fun a61 =>
              rd (.int .i64) w_5 (Addr.add a61 1) 0 fun x63 =>
              br ((x63 : Int) != 0)
                (Q (.int .u64 0) w_5)
                (((0 : Int) ≤ 0 ∧ 0 < ((4 : Nat) : Int)) ∧
                rd (.int .u64) w_5 (Addr.add (⟨b7, 0, none⟩ : Addr) ((0 : Int).toNat * 1)) 0 fun x66 =>
                Q (.int .u64 x66) w_5))
              (nn p0 fun a61 =>
              rd (.int .i64) w_4 (Addr.add a61 1) 0 fun x63 =>
              br ((x63 : Int) != 0)
                (Q (.int .u64 0) w_4)
                (((0 : Int) ≤ 0 ∧ 0 < ((4 : Nat) : Int)) ∧
                rd (.int .u64) w_4 (Addr.add (⟨b7, 0, none⟩ : Addr) ((0 : Int).toNat * 1)) 0 fun x66 =>
                Q (.int .u64 x66) w_4))))))
      (callP Tryz.prog 61 #[(.slice none 0 0)] w1 fun v_1 w_1 =>
      ∃ r26 : Nat → Int, ∃ r26_1 : Int, v_1 = .tuple #[(arrV .u64 4 r26), (.int .i64 r26_1)] ∧
      al w_1 (.cells ((cellsA .u64 (fun _ => 0) 0 4) : List Value).toArray 86) fun b7 w_2 =>
      wr w_2 (⟨b7, 0, none⟩ : Addr) (cellsA .u64 r26 0 4) fun w_3 =>
      nn p0 fun a31 =>
      rd (.int .i64) w_3 (Addr.add a31 1) 0 fun x33 =>
      br ((x33 : Int) != 0)
        (nn p0 fun a61 =>
        rd (.int .i64) w_3 (Addr.add a61 1) 0 fun x63 =>
        br ((x63 : Int) != 0)
          (Q (.int .u64 0) w_3)
          (((0 : Int) ≤ 0 ∧ 0 < ((4 : Nat) : Int)) ∧
          rd (.int .u64) w_3 (Addr.add (⟨b7, 0, none⟩ : Addr) ((0 : Int).toNat * 1)) 0 fun x66 =>
          Q (.int .u64 x66) w_3))
        (((0 : Int) ≤ 0 ∧ 0 < ((r10.len : Nat) : Int)) ∧
        nn r10.p fun a37 =>
        rd (.int .u8) w_3 (Addr.add a37 ((0 : Int).toNat * 1)) 0 fun x38 =>
        br (decide ((x38 : Int) > 8))
          (callP Tryz.prog 62 #[(.pointer p0), (.int .i64 31)] w_3 fun v_2 w_4 =>
          v_2 = .tuple #[] ∧
          nn p0 fun a61 =>
          rd (.int .i64) w_4 (Addr.add a61 1) 0 fun x63 =>
          br ((x63 : Int) != 0)
            (Q (.int .u64 0) w_4)
            (((0 : Int) ≤ 0 ∧ 0 < ((4 : Nat) : Int)) ∧
            rd (.int .u64) w_4 (Addr.add (⟨b7, 0, none⟩ : Addr) ((0 : Int).toNat * 1)) 0 fun x66 =>
            Q (.int .u64 x66) w_4))
          (((0 : Int) ≤ 0 ∧ 0 < ((r10.len : Nat) : Int)) ∧
          nn r10.p fun a42 =>
          rd (.int .u8) w_3 (Addr.add a42 ((0 : Int).toNat * 1)) 0 fun x43 =>
          br (decide ((x43 : Int) > 0))
            (((0 : Int) ≤ 0 ∧ 0 < ((0 : Nat) : Int)) ∧
            False)
            (((0 : Int) ≤ 0 ∧ 0 < ((4 : Nat) : Int)) ∧
            rd (.int .u64) w_3 (Addr.add (⟨b7, 0, none⟩ : Addr) ((0 : Int).toNat * 1)) 0 fun x53 =>
            br (decide ((x53 : Int) > p1))
              (callP Tryz.prog 62 #[(.pointer p0), (.int .i64 2)] w_3 fun v_2 w_4 =>
              v_2 = .tuple #[] ∧
              nn p0 fun a61 =>
              rd (.int .i64) w_4 (Addr.add a61 1) 0 fun x63 =>
              br ((x63 : Int) != 0)
                (Q (.int .u64 0) w_4)
                (((0 : Int) ≤ 0 ∧ 0 < ((4 : Nat) : Int)) ∧
                rd (.int .u64) w_4 (Addr.add (⟨b7, 0, none⟩ : Addr) ((0 : Int).toNat * 1)) 0 fun x66 =>
                Q (.int .u64 x66) w_4))
              (nn p0 fun a61 =>
              rd (.int .i64) w_3 (Addr.add a61 1) 0 fun x63 =>
              br ((x63 : Int) != 0)
                (Q (.int .u64 0) w_3)
                (((0 : Int) ≤ 0 ∧ 0 < ((4 : Nat) : Int)) ∧
                rd (.int .u64) w_3 (Addr.add (⟨b7, 0, none⟩ : Addr) ((0 : Int).toNat * 1)) 0 fun x66 =>
                Q (.int .u64 x66) w_3)))))))
set_option maxRecDepth 100000 in
theorem codec_Reader_Small_ok {p0 : Option Addr} {p1 : Int} {w : World} {Q : Value → World → Prop} (h : codec_Reader_Small p0 p1 w Q) : callP Tryz.prog 38 #[(.pointer p0), (.int .u64 p1)] w Q := by
  have e : codec_Reader_Small p0 p1 w Q = denF Tryz.prog ⟨[], [], []⟩ Tryz.f38 [(.pointer p0), (.int .u64 p1)] w Q := by kernel_rfl
  exact denF_sound mixed Tryz.func38 (Eq.mp e h)

/-- (*sortition/codec.Reader).Bytes -/
def codec_Reader_Bytes (p0 : Option Addr) (p1 : Int) (w : World) (Q : Value → World → Prop) : Prop :=
  callP Tryz.prog 63 #[(.pointer p0), (.int .i64 p1)] w fun v w1 =>
  ∃ r8 : Int, v = (.int .u64 r8) ∧
  callP Tryz.prog 60 #[(.pointer p0), (.int .u64 r8)] w1 fun v_1 w_1 =>
  ∃ r9 : Sl, v_1 = (.slice r9.p r9.len r9.cap) ∧
  callP Tryz.prog 25 #[(.slice r9.p r9.len r9.cap)] w_1 fun v_2 w_2 =>
  ∃ r10 : Sl, v_2 = (.slice r10.p r10.len r10.cap) ∧
  Q (.slice r10.p r10.len r10.cap) w_2
set_option maxRecDepth 100000 in
theorem codec_Reader_Bytes_ok {p0 : Option Addr} {p1 : Int} {w : World} {Q : Value → World → Prop} (h : codec_Reader_Bytes p0 p1 w Q) : callP Tryz.prog 39 #[(.pointer p0), (.int .i64 p1)] w Q := by
  have e : codec_Reader_Bytes p0 p1 w Q = denF Tryz.prog ⟨[], [], []⟩ Tryz.f39 [(.pointer p0), (.int .i64 p1)] w Q := by kernel_rfl
  exact denF_sound mixed Tryz.func39 (Eq.mp e h)

/-- (*sortition/codec.Reader).End -/
def codec_Reader_End (p0 : Option Addr) (w : World) (Q : Value → World → Prop) : Prop :=
  nn p0 fun a4 =>
  rd (.int .i64) w (Addr.add a4 1) 0 fun x6 =>
  br ((x6 : Int) == 0)
    (nn p0 fun a10 =>
    rd .slc w a10 0 fun x12 =>
    br (decide ((((x12.len : Nat) : Int) : Int) > 0))
      (Q (.int .i64 30) w)
      (nn p0 fun a17 =>
      rd (.int .i64) w (Addr.add a17 1) 0 fun x19 =>
      Q (.int .i64 x19) w))
    (nn p0 fun a17 =>
    rd (.int .i64) w (Addr.add a17 1) 0 fun x19 =>
    Q (.int .i64 x19) w)
set_option maxRecDepth 100000 in
theorem codec_Reader_End_ok {p0 : Option Addr} {w : World} {Q : Value → World → Prop} (h : codec_Reader_End p0 w Q) : callP Tryz.prog 40 #[(.pointer p0)] w Q := by
  have e : codec_Reader_End p0 w Q = denF Tryz.prog ⟨[], [], []⟩ Tryz.f40 [(.pointer p0)] w Q := by kernel_rfl
  exact denF_sound mixed Tryz.func40 (Eq.mp e h)

/-- (*sortition/codec.Reader).count -/
def codec_Reader_count (p0 : Option Addr) (p1 : Int) (w : World) (Q : Value → World → Prop) : Prop :=
  br (decide ((p1 : Int) < 0))
    (callP Tryz.prog 62 #[(.pointer p0), (.int .i64 2)] w fun v w1 =>
    v = .tuple #[] ∧
    callP Tryz.prog 38 #[(.pointer p0), (.int .u64 (IntKind.wrap .u64 p1))] w1 fun v_1 w_1 =>
    ∃ r12 : Int, v_1 = (.int .u64 r12) ∧
    Q (.int .u64 r12) w_1)
    (callP Tryz.prog 38 #[(.pointer p0), (.int .u64 (IntKind.wrap .u64 p1))] w fun v w1 =>
    ∃ r12 : Int, v = (.int .u64 r12) ∧
    Q (.int .u64 r12) w1)
set_option maxRecDepth 100000 in
theorem codec_Reader_count_ok {p0 : Option Addr} {p1 : Int} {w : World} {Q : Value → World → Prop} (h : codec_Reader_count p0 p1 w Q) : callP Tryz.prog 63 #[(.pointer p0), (.int .i64 p1)] w Q := by
  have e : codec_Reader_count p0 p1 w Q = denF Tryz.prog ⟨[], [], []⟩ Tryz.f63 [(.pointer p0), (.int .i64 p1)] w Q := by kernel_rfl
  exact denF_sound mixed Tryz.func63 (Eq.mp e h)

/-- sortition/pool.twice -/
def pool_twice (p0 : Sl) (w : World) (Q : Value → World → Prop) : Prop :=
  ∃ (I : Int → World → Prop) (μ : Int → World → Nat), (I 0 w) ∧
  ∀ x7 : Int, ∀ (w1 : World) (K : Int → World → Prop), I x7 w1 →
    (∀ x7' : Int, ∀ w' : World, I x7' w' → μ x7' w' < μ x7 w1 → K x7' w') →
  br (decide ((x7 : Int) < ((p0.len : Nat) : Int)))
    (((0 : Int) ≤ x7 ∧ x7 < ((p0.len : Nat) : Int)) ∧
    nn p0.p fun a10 =>
    rd .slc w1 (Addr.add a10 ((x7 : Int).toNat * 1)) 0 fun x11 =>
    dr w1 fun w_1 =>
    ((0 : Int) ≤ x7 ∧ x7 ≤ ((p0.cap : Nat) : Int)) ∧
    callP Tryz.prog 43 #[(.slice x11.p x11.len x11.cap)] w_1 fun v w_2 =>
    ∃ r16 : Cl, v = (.func (.func r16.f) r16.first r16.cap) ∧
    callP Tryz.prog 42 #[(.slice (cutAt p0.p p0.cap 0 1) ((x7 : Int).toNat) p0.cap), (.func (.func r16.f) r16.first r16.cap)] w_2 fun v_1 w_3 =>
    ∃ r17 : Bool, v_1 = (.bool r17) ∧
    br r17
      (Q (.bool true) w_3)
      (K (IntKind.wrap .i64 (x7 + 1)) w_3))
    (Q (.bool false) w1)
set_option maxRecDepth 100000 in
theorem pool_twice_ok {p0 : Sl} {w : World} {Q : Value → World → Prop} (h : pool_twice p0 w Q) : callP Tryz.prog 41 #[(.slice p0.p p0.len p0.cap)] w Q := by
  have e : pool_twice p0 w Q = denF Tryz.prog ⟨[(2, [(7, false, [(.int .i64)])], [0, 5, 6])], [], []⟩ Tryz.f41 [(.slice p0.p p0.len p0.cap)] w Q := by kernel_rfl
  exact denF_sound mixed Tryz.func41 (Eq.mp e h)

/-- sortition/pool.is -/
def pool_is (p0 : Sl) (w : World) (Q : Value → World → Prop) : Prop :=
  al w (.cells #[(.slice p0.p p0.len p0.cap)] 30) fun b1 w1 =>
  Q (.func (.func 65) #[] #[(.pointer (some ⟨b1, 0, none⟩))]) w1
set_option maxRecDepth 100000 in
theorem pool_is_ok {p0 : Sl} {w : World} {Q : Value → World → Prop} (h : pool_is p0 w Q) : callP Tryz.prog 43 #[(.slice p0.p p0.len p0.cap)] w Q := by
  have e : pool_is p0 w Q = denF Tryz.prog ⟨[], [], []⟩ Tryz.f43 [(.slice p0.p p0.len p0.cap)] w Q := by kernel_rfl
  exact denF_sound mixed Tryz.func43 (Eq.mp e h)

/-- sortition/pool.is$1 -/
def pool_is_c1 (p0 : Sl) (c0 : Addr) (w : World) (Q : Value → World → Prop) : Prop :=
  rd .slc w c0 0 fun x4 =>
  callP Tryz.prog 66 #[(.slice x4.p x4.len x4.cap), (.slice p0.p p0.len p0.cap)] w fun v w1 =>
  ∃ r6 : Bool, v = (.bool r6) ∧
  Q (.bool r6) w1
set_option maxRecDepth 100000 in
theorem pool_is_c1_ok {p0 : Sl} {c0 : Addr} {w : World} {Q : Value → World → Prop} (h : pool_is_c1 p0 c0 w Q) : callP Tryz.prog 65 #[(.slice p0.p p0.len p0.cap), (.pointer (some c0))] w Q := by
  have e : pool_is_c1 p0 c0 w Q = denF Tryz.prog ⟨[], [], []⟩ Tryz.f65 [(.slice p0.p p0.len p0.cap), (.pointer (some c0))] w Q := by kernel_rfl
  exact denF_sound mixed Tryz.func65 (Eq.mp e h)

/-- sortition/pool.Unpack -/
def pool_Unpack (p0 : Sl) (w : World) (Q : Value → World → Prop) : Prop :=
  callP Tryz.prog 37 #[(.slice p0.p p0.len p0.cap)] w fun v w1 =>
  ∃ r7 : Option Addr, v = (.pointer r7) ∧
  callP Tryz.prog 38 #[(.pointer r7), (.int .u64 18446744073709551615)] w1 fun v_1 w_1 =>
  ∃ r9 : Int, v_1 = (.int .u64 r9) ∧
  callP Tryz.prog 38 #[(.pointer r7), (.int .u64 10)] w_1 fun v_2 w_2 =>
  ∃ r11 : Int, v_2 = (.int .u64 r11) ∧
  ∃ (I : Sl → Int → World → Prop) (μ : Sl → Int → World → Nat), (I ⟨none, 0, 0⟩ 0 w_2) ∧
  ∀ x3 : Sl, ∀ x12 : Int, ∀ (w_3 : World) (K : Sl → Int → World → Prop), I x3 x12 w_3 →
    (∀ x3' : Sl, ∀ x12' : Int, ∀ w' : World, I x3' x12' w' → μ x3' x12' w' < μ x3 x12 w_3 → K x3' x12' w') →
  br (decide ((x12 : Int) < r11))
    (callP Tryz.prog 39 #[(.pointer r7), (.int .i64 1000)] w_3 fun v_3 w_4 =>
    ∃ r16 : Sl, v_3 = (.slice r16.p r16.len r16.cap) ∧
    al w_4 (.cells #[(.slice r16.p r16.len r16.cap)] 30) fun b17 w_5 =>
    appP Tryz.prog 30 w_5 ⟨x3.p, x3.len, x3.cap⟩ (.slice (some ⟨b17, 0, none⟩) 1 1) fun s18 w_6 =>
    K s18 (IntKind.wrap .u64 (x12 + 1)) w_6)
    (callP Tryz.prog 40 #[(.pointer r7)] w_3 fun v_3 w_4 =>
    ∃ r21 : Int, v_3 = (.int .i64 r21) ∧
    br ((r21 : Int) == 0)
      (callP Tryz.prog 41 #[(.slice x3.p x3.len x3.cap)] w_4 fun v_4 w_5 =>
      ∃ r26 : Bool, v_4 = (.bool r26) ∧
      br r26
        (br ((31 : Int) != 0)
          (Q (.tuple #[(.int .u64 0), (.slice none 0 0), (.int .i64 31)]) w_5)
          (Q (.tuple #[(.int .u64 r9), (.slice x3.p x3.len x3.cap), (.int .i64 0)]) w_5))
        (callP Tryz.prog 43 #[(.slice none 0 0)] w_5 fun v_5 w_6 =>
        ∃ r29 : Cl, v_5 = (.func (.func r29.f) r29.first r29.cap) ∧
        callP Tryz.prog 42 #[(.slice x3.p x3.len x3.cap), (.func (.func r29.f) r29.first r29.cap)] w_6 fun v_6 w_7 =>
        ∃ r30 : Bool, v_6 = (.bool r30) ∧
        br r30
          (br ((31 : Int) != 0)
            (Q (.tuple #[(.int .u64 0), (.slice none 0 0), (.int .i64 31)]) w_7)
            (Q (.tuple #[(.int .u64 r9), (.slice x3.p x3.len x3.cap), (.int .i64 0)]) w_7))
          (br ((r21 : Int) != 0)
            (Q (.tuple #[(.int .u64 0), (.slice none 0 0), (.int .i64 r21)]) w_7)
            (Q (.tuple #[(.int .u64 r9), (.slice x3.p x3.len x3.cap), (.int .i64 0)]) w_7))))
      (br ((r21 : Int) != 0)
        (Q (.tuple #[(.int .u64 0), (.slice none 0 0), (.int .i64 r21)]) w_4)
        (Q (.tuple #[(.int .u64 r9), (.slice x3.p x3.len x3.cap), (.int .i64 0)]) w_4)))
set_option maxRecDepth 100000 in
theorem pool_Unpack_ok {p0 : Sl} {w : World} {Q : Value → World → Prop} (h : pool_Unpack p0 w Q) : callP Tryz.prog 22 #[(.slice p0.p p0.len p0.cap)] w Q := by
  have e : pool_Unpack p0 w Q = denF Tryz.prog ⟨[(4, [(3, false, [.slc]), (12, false, [(.int .u64)])], [2, 5, 11])], [], []⟩ Tryz.f22 [(.slice p0.p p0.len p0.cap)] w Q := by kernel_rfl
  exact denF_sound mixed Tryz.func22 (Eq.mp e h)

/-- slices.ContainsFunc[[][]byte,[]byte] -/
def slices_ContainsFunc_byte_byte (p0 : Sl) (p1 : Cl) (w : World) (Q : Value → World → Prop) : Prop :=
  callP Tryz.prog 64 #[(.slice p0.p p0.len p0.cap), (.func (.func p1.f) p1.first p1.cap)] w fun v w1 =>
  ∃ r7 : Int, v = (.int .i64 r7) ∧
  Q (.bool (decide ((r7 : Int) ≥ 0))) w1
set_option maxRecDepth 100000 in
theorem slices_ContainsFunc_byte_byte_ok {p0 : Sl} {p1 : Cl} {w : World} {Q : Value → World → Prop} (h : slices_ContainsFunc_byte_byte p0 p1 w Q) : callP Tryz.prog 42 #[(.slice p0.p p0.len p0.cap), (.func (.func p1.f) p1.first p1.cap)] w Q := by
  have e : slices_ContainsFunc_byte_byte p0 p1 w Q = denF Tryz.prog ⟨[], [], []⟩ Tryz.f42 [(.slice p0.p p0.len p0.cap), (.func (.func p1.f) p1.first p1.cap)] w Q := by kernel_rfl
  exact denF_sound mixed Tryz.func42 (Eq.mp e h)

/-- slices.IndexFunc[[][]byte,[]byte] -/
def slices_IndexFunc_byte_byte (p0 : Sl) (p1 : Cl) (w : World) (Q : Value → World → Prop) : Prop :=
  ∃ (I : Int → World → Prop) (μ : Int → World → Nat), (I 0 w) ∧
  ∀ x8 : Int, ∀ (w1 : World) (K : Int → World → Prop), I x8 w1 →
    (∀ x8' : Int, ∀ w' : World, I x8' w' → μ x8' w' < μ x8 w1 → K x8' w') →
  br (decide ((x8 : Int) < ((p0.len : Nat) : Int)))
    (((0 : Int) ≤ x8 ∧ x8 < ((p0.len : Nat) : Int)) ∧
    nn p0.p fun a14 =>
    rd .slc w1 (Addr.add a14 ((x8 : Int).toNat * 1)) 0 fun x15 =>
    callD Tryz.prog p1.f (p1.first ++ #[(.slice x15.p x15.len x15.cap)] ++ p1.cap) w1 fun v w_1 =>
    ∃ r16 : Bool, v = (.bool r16) ∧
    br r16
      (Q (.int .i64 x8) w_1)
      (K (IntKind.wrap .i64 (x8 + 1)) w_1))
    (Q (.int .i64 (-1 : Int)) w1)
set_option maxRecDepth 100000 in
theorem slices_IndexFunc_byte_byte_ok {p0 : Sl} {p1 : Cl} {w : World} {Q : Value → World → Prop} (h : slices_IndexFunc_byte_byte p0 p1 w Q) : callP Tryz.prog 64 #[(.slice p0.p p0.len p0.cap), (.func (.func p1.f) p1.first p1.cap)] w Q := by
  have e : slices_IndexFunc_byte_byte p0 p1 w Q = denF Tryz.prog ⟨[(2, [(8, false, [(.int .i64)])], [0, 1, 7])], [], []⟩ Tryz.f64 [(.slice p0.p p0.len p0.cap), (.func (.func p1.f) p1.first p1.cap)] w Q := by kernel_rfl
  exact denF_sound mixed Tryz.func64 (Eq.mp e h)

/-- bytes.Equal -/
def bytes_Equal (p0 : Sl) (p1 : Sl) (w : World) (Q : Value → World → Prop) : Prop :=
  ∃ s6 : ByteArray, strIs w ⟨p0.p, p0.len, p0.cap⟩ s6 ∧
  ∃ s8 : ByteArray, strIs w ⟨p1.p, p1.len, p1.cap⟩ s8 ∧
  Q (.bool (s6 == s8)) w
set_option maxRecDepth 100000 in
theorem bytes_Equal_ok {p0 : Sl} {p1 : Sl} {w : World} {Q : Value → World → Prop} (h : bytes_Equal p0 p1 w Q) : callP Tryz.prog 66 #[(.slice p0.p p0.len p0.cap), (.slice p1.p p1.len p1.cap)] w Q := by
  have e : bytes_Equal p0 p1 w Q = denF Tryz.prog ⟨[], [], []⟩ Tryz.f66 [(.slice p0.p p0.len p0.cap), (.slice p1.p p1.len p1.cap)] w Q := by kernel_rfl
  exact denF_sound mixed Tryz.func66 (Eq.mp e h)

/-- slices.Clone[[]byte,byte] -/
def slices_Clone_byte_byte (p0 : Sl) (w : World) (Q : Value → World → Prop) : Prop :=
  br (Option.isNone p0.p)
    (Q (.slice none 0 0) w)
    (al w (.cells #[] 5) fun b5 w1 =>
    appP Tryz.prog 5 w1 ⟨(some ⟨b5, 0, none⟩), 0, 0⟩ (.slice p0.p p0.len p0.cap) fun s7 w_1 =>
    Q (.slice s7.p s7.len s7.cap) w_1)
set_option maxRecDepth 100000 in
theorem slices_Clone_byte_byte_ok {p0 : Sl} {w : World} {Q : Value → World → Prop} (h : slices_Clone_byte_byte p0 w Q) : callP Tryz.prog 25 #[(.slice p0.p p0.len p0.cap)] w Q := by
  have e : slices_Clone_byte_byte p0 w Q = denF Tryz.prog ⟨[], [], []⟩ Tryz.f25 [(.slice p0.p p0.len p0.cap)] w Q := by kernel_rfl
  exact denF_sound mixed Tryz.func25 (Eq.mp e h)

/-- slices.Clone[[]uint64,uint64] -/
def slices_Clone_uint64_uint64 (p0 : Sl) (w : World) (Q : Value → World → Prop) : Prop :=
  br (Option.isNone p0.p)
    (Q (.slice none 0 0) w)
    (al w (.cells #[] 24) fun b5 w1 =>
    appP Tryz.prog 24 w1 ⟨(some ⟨b5, 0, none⟩), 0, 0⟩ (.slice p0.p p0.len p0.cap) fun s7 w_1 =>
    Q (.slice s7.p s7.len s7.cap) w_1)
set_option maxRecDepth 100000 in
theorem slices_Clone_uint64_uint64_ok {p0 : Sl} {w : World} {Q : Value → World → Prop} (h : slices_Clone_uint64_uint64 p0 w Q) : callP Tryz.prog 21 #[(.slice p0.p p0.len p0.cap)] w Q := by
  have e : slices_Clone_uint64_uint64 p0 w Q = denF Tryz.prog ⟨[], [], []⟩ Tryz.f21 [(.slice p0.p p0.len p0.cap)] w Q := by kernel_rfl
  exact denF_sound mixed Tryz.func21 (Eq.mp e h)

end Go.Proofs.YtpcgkfgppfjnlaaGreatDoor.V
namespace Go.Proofs.YtpcgkfgppfjnlaaGreatDoor.V
open Go
set_option linter.unusedVariables false
/-- sortition/votes.New -/
def votes_New (p0 : Sl) (w : World) (Q : Value → World → Prop) : Prop :=
  callP Tryz.prog 35 #[(.slice p0.p p0.len p0.cap)] w fun v w1 =>
  ∃ r6 : Nat → Int, v = (arrV .u64 4 r6) ∧
  al w1 (.cells ((cellsA .u64 (fun _ => 0) 0 4) : List Value).toArray 86) fun b4 w_1 =>
  wr w_1 (⟨b4, 0, none⟩ : Addr) (cellsA .u64 r6 0 4) fun w_2 =>
  br (decide ((((p0.len : Nat) : Int) : Int) < 1))
    (Q (.tuple #[(.pointer none), (.int .i64 2)]) w_2)
    (br (decide ((((p0.len : Nat) : Int) : Int) > 40))
      (Q (.tuple #[(.pointer none), (.int .i64 2)]) w_2)
      (rd (.arr .u64 4) w_2 (⟨b4, 0, none⟩ : Addr) 0 fun x17 =>
      rd (.arr .u64 4) w_2 (⟨0, 0, none⟩ : Addr) 0 fun x18 =>
      callP Tryz.prog 36 #[(arrV .u64 4 x17), (arrV .u64 4 x18)] w_2 fun v_1 w_3 =>
      ∃ r19 : Int, v_1 = (.int .i64 r19) ∧
      br (decide ((r19 : Int) ≥ 0))
        (Q (.tuple #[(.pointer none), (.int .i64 10)]) w_3)
        (dr w_3 fun w_4 =>
        ((0 : Int) ≤ 0 ∧ 0 < ((4 : Nat) : Int)) ∧
        rd (.int .u64) w_4 (Addr.add (⟨b4, 0, none⟩ : Addr) ((0 : Int).toNat * 1)) 0 fun x24 =>
        (callP Tryz.prog 21 #[(.slice p0.p p0.len p0.cap)] w_4 fun v_2 w_5 =>
        ∃ r22 : Sl, v_2 = (.slice r22.p r22.len r22.cap) ∧
        atC w_5 (Addr.add (⟨b4, 0, none⟩ : Addr) ((0 : Int).toNat * 1)) 0 [(.int .u64 x24)] ∧
        (al w_5 (.map #[] 0) fun b25 w_6 =>
        atC w_6 (Addr.add (⟨b4, 0, none⟩ : Addr) ((0 : Int).toNat * 1)) 0 [(.int .u64 x24)] ∧
        al w_6 (.map #[] 0) fun b26 w_7 =>
        atC w_7 (Addr.add (⟨b4, 0, none⟩ : Addr) ((0 : Int).toNat * 1)) 0 [(.int .u64 x24)] ∧
        al w_7 (.cells #[(.slice r22.p r22.len r22.cap), (.int .u64 x24), (.map (some b25)), (.map (some b26))] 92) fun b28 w_8 =>
        Q (.tuple #[(.pointer (some ⟨b28, 0, none⟩)), (.int .i64 0)]) w_8) ∧
        (al w_5 (.map #[] 0) fun b26 w_6 =>
        atC w_6 (Addr.add (⟨b4, 0, none⟩ : Addr) ((0 : Int).toNat * 1)) 0 [(.int .u64 x24)] ∧
        al w_6 (.map #[] 0) fun b25 w_7 =>
        atC w_7 (Addr.add (⟨b4, 0, none⟩ : Addr) ((0 : Int).toNat * 1)) 0 [(.int .u64 x24)] ∧
        al w_7 (.cells #[(.slice r22.p r22.len r22.cap), (.int .u64 x24), (.map (some b25)), (.map (some b26))] 92) fun b28 w_8 =>
        Q (.tuple #[(.pointer (some ⟨b28, 0, none⟩)), (.int .i64 0)]) w_8)) ∧
        (al w_4 (.map #[] 0) fun b25 w_5 =>
        atC w_5 (Addr.add (⟨b4, 0, none⟩ : Addr) ((0 : Int).toNat * 1)) 0 [(.int .u64 x24)] ∧
        (callP Tryz.prog 21 #[(.slice p0.p p0.len p0.cap)] w_5 fun v_2 w_6 =>
        ∃ r22 : Sl, v_2 = (.slice r22.p r22.len r22.cap) ∧
        atC w_6 (Addr.add (⟨b4, 0, none⟩ : Addr) ((0 : Int).toNat * 1)) 0 [(.int .u64 x24)] ∧
        al w_6 (.map #[] 0) fun b26 w_7 =>
        atC w_7 (Addr.add (⟨b4, 0, none⟩ : Addr) ((0 : Int).toNat * 1)) 0 [(.int .u64 x24)] ∧
        al w_7 (.cells #[(.slice r22.p r22.len r22.cap), (.int .u64 x24), (.map (some b25)), (.map (some b26))] 92) fun b28 w_8 =>
        Q (.tuple #[(.pointer (some ⟨b28, 0, none⟩)), (.int .i64 0)]) w_8) ∧
        (al w_5 (.map #[] 0) fun b26 w_6 =>
        atC w_6 (Addr.add (⟨b4, 0, none⟩ : Addr) ((0 : Int).toNat * 1)) 0 [(.int .u64 x24)] ∧
        callP Tryz.prog 21 #[(.slice p0.p p0.len p0.cap)] w_6 fun v_2 w_7 =>
        ∃ r22 : Sl, v_2 = (.slice r22.p r22.len r22.cap) ∧
        atC w_7 (Addr.add (⟨b4, 0, none⟩ : Addr) ((0 : Int).toNat * 1)) 0 [(.int .u64 x24)] ∧
        al w_7 (.cells #[(.slice r22.p r22.len r22.cap), (.int .u64 x24), (.map (some b25)), (.map (some b26))] 92) fun b28 w_8 =>
        Q (.tuple #[(.pointer (some ⟨b28, 0, none⟩)), (.int .i64 0)]) w_8)) ∧
        (al w_4 (.map #[] 0) fun b26 w_5 =>
        atC w_5 (Addr.add (⟨b4, 0, none⟩ : Addr) ((0 : Int).toNat * 1)) 0 [(.int .u64 x24)] ∧
        (callP Tryz.prog 21 #[(.slice p0.p p0.len p0.cap)] w_5 fun v_2 w_6 =>
        ∃ r22 : Sl, v_2 = (.slice r22.p r22.len r22.cap) ∧
        atC w_6 (Addr.add (⟨b4, 0, none⟩ : Addr) ((0 : Int).toNat * 1)) 0 [(.int .u64 x24)] ∧
        al w_6 (.map #[] 0) fun b25 w_7 =>
        atC w_7 (Addr.add (⟨b4, 0, none⟩ : Addr) ((0 : Int).toNat * 1)) 0 [(.int .u64 x24)] ∧
        al w_7 (.cells #[(.slice r22.p r22.len r22.cap), (.int .u64 x24), (.map (some b25)), (.map (some b26))] 92) fun b28 w_8 =>
        Q (.tuple #[(.pointer (some ⟨b28, 0, none⟩)), (.int .i64 0)]) w_8) ∧
        (al w_5 (.map #[] 0) fun b25 w_6 =>
        atC w_6 (Addr.add (⟨b4, 0, none⟩ : Addr) ((0 : Int).toNat * 1)) 0 [(.int .u64 x24)] ∧
        callP Tryz.prog 21 #[(.slice p0.p p0.len p0.cap)] w_6 fun v_2 w_7 =>
        ∃ r22 : Sl, v_2 = (.slice r22.p r22.len r22.cap) ∧
        atC w_7 (Addr.add (⟨b4, 0, none⟩ : Addr) ((0 : Int).toNat * 1)) 0 [(.int .u64 x24)] ∧
        al w_7 (.cells #[(.slice r22.p r22.len r22.cap), (.int .u64 x24), (.map (some b25)), (.map (some b26))] 92) fun b28 w_8 =>
        Q (.tuple #[(.pointer (some ⟨b28, 0, none⟩)), (.int .i64 0)]) w_8)))))
set_option maxRecDepth 100000 in
theorem votes_New_ok {p0 : Sl} {w : World} {Q : Value → World → Prop} (h : votes_New p0 w Q) : callP Tryz.prog 20 #[(.slice p0.p p0.len p0.cap)] w Q := by
  have e : votes_New p0 w Q = denF Tryz.prog ⟨[], [], []⟩ Tryz.f20 [(.slice p0.p p0.len p0.cap)] w Q := by kernel_rfl
  exact denF_sound mixed Tryz.func20 (Eq.mp e h)

/-- (*sortition/votes.Tally).Vote -/
def votes_Tally_Vote (p0 : Option Addr) (p1 : Int) (p2 : Nat → Int) (w : World) (Q : Value → World → Prop) : Prop :=
  al w (.cells ((cellsA .u8 p2 0 32) : List Value).toArray 50) fun b5 w1 =>
  br (decide ((p1 : Int) < 0))
    (Q (.int .i64 1) w1)
    (nn p0 fun a14 =>
    rd .slc w1 a14 0 fun x16 =>
    br (decide ((p1 : Int) ≥ ((x16.len : Nat) : Int)))
      (Q (.int .i64 1) w1)
      (nn p0 fun a22 =>
      rd .map w1 (Addr.add a22 2) 0 fun x24 =>
      ∃ x26 : Nat → Int, ∃ ok26 : Bool, mgetIs Tryz.prog 3 50 w1 x24 (.int .i64 p1) (arrV .u8 32 x26) ok26 ∧
      al w1 (.cells ((cellsA .u8 (fun _ => 0) 0 32) : List Value).toArray 50) fun b7 w_1 =>
      wr w_1 (⟨b7, 0, none⟩ : Addr) (cellsA .u8 x26 0 32) fun w_2 =>
      nn p0 fun a31 =>
      rd .slc w_2 a31 0 fun x33 =>
      ((0 : Int) ≤ p1 ∧ p1 < ((x33.len : Nat) : Int)) ∧
      nn x33.p fun a35 =>
      rd (.int .u64) w_2 (Addr.add a35 ((p1 : Int).toNat * 1)) 0 fun x36 =>
      br ((x36 : Int) == 0)
        (Q (.int .i64 51) w_2)
        (br ok26
          (rd (.arr .u8 32) w_2 (⟨b7, 0, none⟩ : Addr) 0 fun x41 =>
          rd (.arr .u8 32) w_2 (⟨b5, 0, none⟩ : Addr) 0 fun x42 =>
          br (eqInts (cellsA .u8 x41 0 32) (cellsA .u8 x42 0 32))
            (Q (.int .i64 13) w_2)
            (br ok26
              (nn p0 fun a48 =>
              rd .map w_2 (Addr.add a48 3) 0 fun x50 =>
              msetP Tryz.prog 3 w_2 x50 (.int .i64 p1) (.bool true) fun w_3 =>
              Q (.int .i64 52) w_3)
              (dr w_2 fun w_3 =>
              nn p0 fun a53 =>
              rd .map w_3 (Addr.add a53 2) 0 fun x55 =>
              rd (.arr .u8 32) w_3 (⟨b5, 0, none⟩ : Addr) 0 fun x57 =>
              msetP Tryz.prog 3 w_3 x55 (.int .i64 p1) (arrV .u8 32 x57) fun w_4 =>
              Q (.int .i64 0) w_4)))
          (br ok26
            (nn p0 fun a48 =>
            rd .map w_2 (Addr.add a48 3) 0 fun x50 =>
            msetP Tryz.prog 3 w_2 x50 (.int .i64 p1) (.bool true) fun w_3 =>
            Q (.int .i64 52) w_3)
            (dr w_2 fun w_3 =>
            nn p0 fun a53 =>
            rd .map w_3 (Addr.add a53 2) 0 fun x55 =>
            rd (.arr .u8 32) w_3 (⟨b5, 0, none⟩ : Addr) 0 fun x57 =>
            msetP Tryz.prog 3 w_3 x55 (.int .i64 p1) (arrV .u8 32 x57) fun w_4 =>
            Q (.int .i64 0) w_4)))))
set_option maxRecDepth 100000 in
theorem votes_Tally_Vote_ok {p0 : Option Addr} {p1 : Int} {p2 : Nat → Int} {w : World} {Q : Value → World → Prop} (h : votes_Tally_Vote p0 p1 p2 w Q) : callP Tryz.prog 24 #[(.pointer p0), (.int .i64 p1), (arrV .u8 32 p2)] w Q := by
  have e : votes_Tally_Vote p0 p1 p2 w Q = denF Tryz.prog ⟨[], [], []⟩ Tryz.f24 [(.pointer p0), (.int .i64 p1), (arrV .u8 32 p2)] w Q := by kernel_rfl
  exact denF_sound mixed Tryz.func24 (Eq.mp e h)

/-- (*sortition/votes.Tally).For -/
def votes_Tally_For (p0 : Option Addr) (p1 : Nat → Int) (w : World) (Q : Value → World → Prop) : Prop :=
  al w (.cells #[(.pointer p0)] 55) fun b2 w1 =>
  al w1 (.cells ((cellsA .u8 p1 0 32) : List Value).toArray 50) fun b3 w_1 =>
  rd .ptr w_1 (⟨b2, 0, none⟩ : Addr) 0 fun x5 =>
  nn x5 fun a6 =>
  rd .map w_1 (Addr.add a6 2) 0 fun x8 =>
  callP Tryz.prog 78 #[(.map x8), (.func (.func 79) #[] #[(.pointer (some ⟨b3, 0, none⟩)), (.pointer (some ⟨b2, 0, none⟩))])] w_1 fun v w_2 =>
  ∃ r10 : Int, v = (.int .u64 r10) ∧
  Q (.int .u64 r10) w_2
set_option maxRecDepth 100000 in
theorem votes_Tally_For_ok {p0 : Option Addr} {p1 : Nat → Int} {w : World} {Q : Value → World → Prop} (h : votes_Tally_For p0 p1 w Q) : callP Tryz.prog 56 #[(.pointer p0), (arrV .u8 32 p1)] w Q := by
  have e : votes_Tally_For p0 p1 w Q = denF Tryz.prog ⟨[], [], []⟩ Tryz.f56 [(.pointer p0), (arrV .u8 32 p1)] w Q := by kernel_rfl
  exact denF_sound mixed Tryz.func56 (Eq.mp e h)

/-- (*sortition/votes.Tally).For$1 -/
def votes_Tally_For_c1 (p0 : Int) (p1 : Nat → Int) (c0 : Addr) (c1 : Addr) (w : World) (Q : Value → World → Prop) : Prop :=
  al w (.cells ((cellsA .u8 p1 0 32) : List Value).toArray 50) fun b5 w1 =>
  rd (.arr .u8 32) w1 (⟨b5, 0, none⟩ : Addr) 0 fun x7 =>
  rd (.arr .u8 32) w1 c0 0 fun x8 =>
  br (!(eqInts (cellsA .u8 x7 0 32) (cellsA .u8 x8 0 32)))
    (Q (.int .u64 0) w1)
    (rd .ptr w1 c1 0 fun x10 =>
    nn x10 fun a11 =>
    rd .slc w1 a11 0 fun x13 =>
    ((0 : Int) ≤ p0 ∧ p0 < ((x13.len : Nat) : Int)) ∧
    nn x13.p fun a15 =>
    rd (.int .u64) w1 (Addr.add a15 ((p0 : Int).toNat * 1)) 0 fun x16 =>
    Q (.int .u64 x16) w1)
set_option maxRecDepth 100000 in
theorem votes_Tally_For_c1_ok {p0 : Int} {p1 : Nat → Int} {c0 : Addr} {c1 : Addr} {w : World} {Q : Value → World → Prop} (h : votes_Tally_For_c1 p0 p1 c0 c1 w Q) : callP Tryz.prog 79 #[(.int .i64 p0), (arrV .u8 32 p1), (.pointer (some c0)), (.pointer (some c1))] w Q := by
  have e : votes_Tally_For_c1 p0 p1 c0 c1 w Q = denF Tryz.prog ⟨[], [], []⟩ Tryz.f79 [(.int .i64 p0), (arrV .u8 32 p1), (.pointer (some c0)), (.pointer (some c1))] w Q := by kernel_rfl
  exact denF_sound mixed Tryz.func79 (Eq.mp e h)

/-- (*sortition/votes.Tally).Third -/
def votes_Tally_Third (p0 : Option Addr) (p1 : Nat → Int) (w : World) (Q : Value → World → Prop) : Prop :=
  al w (.cells ((cellsA .u8 p1 0 32) : List Value).toArray 50) fun b3 w1 =>
  dr w1 fun w_1 =>
  rd (.arr .u8 32) w_1 (⟨b3, 0, none⟩ : Addr) 0 fun x6 =>
  nn p0 fun a9 =>
  rd (.int .u64) w_1 (Addr.add a9 1) 0 fun x11 =>
  callP Tryz.prog 56 #[(.pointer p0), (arrV .u8 32 x6)] w_1 fun v w_2 =>
  ∃ r7 : Int, v = (.int .u64 r7) ∧
  atC w_2 (Addr.add a9 1) 0 [(.int .u64 x11)] ∧
  callP Tryz.prog 55 #[(.int .u64 r7), (.int .u64 x11)] w_2 fun v_1 w_3 =>
  ∃ r12 : Bool, v_1 = (.bool r12) ∧
  Q (.bool r12) w_3
set_option maxRecDepth 100000 in
theorem votes_Tally_Third_ok {p0 : Option Addr} {p1 : Nat → Int} {w : World} {Q : Value → World → Prop} (h : votes_Tally_Third p0 p1 w Q) : callP Tryz.prog 33 #[(.pointer p0), (arrV .u8 32 p1)] w Q := by
  have e : votes_Tally_Third p0 p1 w Q = denF Tryz.prog ⟨[], [], []⟩ Tryz.f33 [(.pointer p0), (arrV .u8 32 p1)] w Q := by kernel_rfl
  exact denF_sound mixed Tryz.func33 (Eq.mp e h)

/-- sortition/votes.gather[int,sortition/api.Digest] -/
def votes_gather_int_api_Digest (p0 : Option Nat) (p1 : Cl) (w : World) (Q : Value → World → Prop) : Prop :=
  ∃ it : Obj, iterOf w p0 it ∧
  al w it fun b9 w1 =>
  ∃ (I : Int → World → Prop) (μ : Int → World → Nat), (I 0 w1) ∧
  ∀ x5 : Int, ∀ (w_1 : World) (K : Int → World → Prop), I x5 w_1 →
    (∀ x5' : Int, ∀ w' : World, I x5' w' → μ x5' w' < μ x5 w_1 → K x5' w') →
  mnextP w_1 (some ⟨b9, 0, none⟩)
    (fun w_2 =>
    Q (.int .u64 x5) w_2)
    (fun k10 e10 w_2 =>
    ∃ x12 : Int, ∃ x12_1 : Nat → Int, entryIs w_2 (some ⟨b9, 0, none⟩) (.int .i64 x12) (arrV .u8 32 x12_1) ∧
    al w_2 (.cells ((cellsA .u8 (fun _ => 0) 0 32) : List Value).toArray 50) fun b7 w_3 =>
    wr w_3 (⟨b7, 0, none⟩ : Addr) (cellsA .u8 x12_1 0 32) fun w_4 =>
    rd (.arr .u8 32) w_4 (⟨b7, 0, none⟩ : Addr) 0 fun x18 =>
    callD Tryz.prog p1.f (p1.first ++ #[(.int .i64 x12), (arrV .u8 32 x18)] ++ p1.cap) w_4 fun v w_5 =>
    ∃ r19 : Int, v = (.int .u64 r19) ∧
    K (IntKind.wrap .u64 (x5 + r19)) w_5)
set_option maxRecDepth 100000 in
theorem votes_gather_int_api_Digest_ok {p0 : Option Nat} {p1 : Cl} {w : World} {Q : Value → World → Prop} (h : votes_gather_int_api_Digest p0 p1 w Q) : callP Tryz.prog 78 #[(.map p0), (.func (.func p1.f) p1.first p1.cap)] w Q := by
  have e : votes_gather_int_api_Digest p0 p1 w Q = denF Tryz.prog ⟨[(3, [(5, false, [(.int .u64)])], [1, 9])], [], []⟩ Tryz.f78 [(.map p0), (.func (.func p1.f) p1.first p1.cap)] w Q := by kernel_rfl
  exact denF_sound mixed Tryz.func78 (Eq.mp e h)

/-- sortition/chase.New -/
def chase_New (p0 : Sl) (w : World) (Q : Value → World → Prop) : Prop :=
  callP Tryz.prog 20 #[(.slice p0.p p0.len p0.cap)] w fun v w1 =>
  ∃ r8 : Option Addr, ∃ r8_1 : Int, v = .tuple #[(.pointer r8), (.int .i64 r8_1)] ∧
  br ((r8_1 : Int) != 0)
    (Q (.tuple #[(.pointer none), (.int .i64 r8_1)]) w1)
    (callP Tryz.prog 21 #[(.slice p0.p p0.len p0.cap)] w1 fun v_1 w_1 =>
    ∃ r15 : Sl, v_1 = (.slice r15.p r15.len r15.cap) ∧
    al w_1 (.map #[] 0) fun b16 w_2 =>
    al w_2 (.cells #[(.slice r15.p r15.len r15.cap), (.map (some b16))] 61) fun b18 w_3 =>
    Q (.tuple #[(.pointer (some ⟨b18, 0, none⟩)), (.int .i64 0)]) w_3)
set_option maxRecDepth 100000 in
theorem chase_New_ok {p0 : Sl} {w : World} {Q : Value → World → Prop} (h : chase_New p0 w Q) : callP Tryz.prog 7 #[(.slice p0.p p0.len p0.cap)] w Q := by
  have e : chase_New p0 w Q = denF Tryz.prog ⟨[], [], []⟩ Tryz.f7 [(.slice p0.p p0.len p0.cap)] w Q := by kernel_rfl
  exact denF_sound mixed Tryz.func7 (Eq.mp e h)

/-- (*sortition/chase.Chase).Hear -/
def chase_Chase_Hear (p0 : Option Addr) (p1 : Int) (p1_1 : Int) (p1_2 : Sl) (w : World) (Q : Value → World → Prop) : Prop :=
  al w (.cells #[(.int .u64 p1), (.int .i64 p1_1), (.slice p1_2.p p1_2.len p1_2.cap)] 32) fun b3 w1 =>
  rd .slc w1 (⟨b3, 2, none⟩ : Addr) 0 fun x16 =>
  callP Tryz.prog 22 #[(.slice x16.p x16.len x16.cap)] w1 fun v w_1 =>
  ∃ r17 : Int, ∃ r17_1 : Sl, ∃ r17_2 : Int, v = .tuple #[(.int .u64 r17), (.slice r17_1.p r17_1.len r17_1.cap), (.int .i64 r17_2)] ∧
  br ((r17_2 : Int) != 0)
    (Q (.int .i64 31) w_1)
    (rd (.int .u64) w_1 (⟨b3, 0, none⟩ : Addr) 0 fun x26 =>
    br ((r17 : Int) != x26)
      (Q (.int .i64 31) w_1)
      (nn p0 fun a31 =>
      rd .map w_1 (Addr.add a31 1) 0 fun x33 =>
      ∃ x35 : Option Addr, ∃ x35_1 : Option Nat, ∃ ok35 : Bool, mgetIs Tryz.prog 24 66 w_1 x33 (.int .u64 r17) (.agg #[(.pointer x35), (.map x35_1)]) ok35 ∧
      al w_1 (.cells #[(.pointer none), (.map none)] 66) fun b8 w_2 =>
      wr w_2 (⟨b8, 0, none⟩ : Addr) [(.pointer x35), (.map x35_1)] fun w_3 =>
      br (!ok35)
        (nn p0 fun a41 =>
        rd .map w_3 (Addr.add a41 1) 0 fun x43 =>
        ∃ n44 : Nat, mlenIs w_3 x43 n44 ∧
        br (decide (((n44 : Int) : Int) ≥ 20))
          (Q (.int .i64 52) w_3)
          (nn p0 fun a48 =>
          rd .slc w_3 a48 0 fun x50 =>
          callP Tryz.prog 20 #[(.slice x50.p x50.len x50.cap)] w_3 fun v_1 w_4 =>
          ∃ r51 : Option Addr, ∃ r51_1 : Int, v_1 = .tuple #[(.pointer r51), (.int .i64 r51_1)] ∧
          wr w_4 (⟨b8, 0, none⟩ : Addr) [(.pointer r51)] fun w_5 =>
          al w_5 (.map #[] 0) fun b55 w_6 =>
          wr w_6 (⟨b8, 1, none⟩ : Addr) [(.map (some b55))] fun w_7 =>
          rd .slc w_7 (⟨b3, 2, none⟩ : Addr) 0 fun x58 =>
          callP Tryz.prog 23 #[(.slice x58.p x58.len x58.cap)] w_7 fun v_2 w_8 =>
          ∃ r59 : Nat → Int, v_2 = (arrV .u8 32 r59) ∧
          al w_8 (.cells ((cellsA .u8 (fun _ => 0) 0 32) : List Value).toArray 50) fun b10 w_9 =>
          wr w_9 (⟨b10, 0, none⟩ : Addr) (cellsA .u8 r59 0 32) fun w_10 =>
          rd .ptr w_10 (⟨b8, 0, none⟩ : Addr) 0 fun x61 =>
          rd (.int .i64) w_10 (⟨b3, 1, none⟩ : Addr) 0 fun x63 =>
          rd (.arr .u8 32) w_10 (⟨b10, 0, none⟩ : Addr) 0 fun x64 =>
          callP Tryz.prog 24 #[(.pointer x61), (.int .i64 x63), (arrV .u8 32 x64)] w_10 fun v_3 w_11 =>
          ∃ r65 : Int, v_3 = (.int .i64 r65) ∧
          br ((r65 : Int) != 0)
            (Q (.int .i64 r65) w_11)
            (rd .map w_11 (⟨b8, 1, none⟩ : Addr) 0 fun x71 =>
            rd (.arr .u8 32) w_11 (⟨b10, 0, none⟩ : Addr) 0 fun x72 =>
            ∃ x73 : Sl, ∃ ok73 : Bool, mgetIs Tryz.prog 50 30 w_11 x71 (arrV .u8 32 x72) (.slice x73.p x73.len x73.cap) ok73 ∧
            br (!ok73)
              (dr w_11 fun w_12 =>
              rd .map w_12 (⟨b8, 1, none⟩ : Addr) 0 fun x79 =>
              rd (.arr .u8 32) w_12 (⟨b10, 0, none⟩ : Addr) 0 fun x80 =>
              rd .slc w_12 (⟨b3, 2, none⟩ : Addr) 0 fun x82 =>
              callP Tryz.prog 25 #[(.slice x82.p x82.len x82.cap)] w_12 fun v_4 w_13 =>
              ∃ r83 : Sl, v_4 = (.slice r83.p r83.len r83.cap) ∧
              atC w_13 (⟨b10, 0, none⟩ : Addr) 0 (cellsA .u8 x80 0 32) ∧
              atC w_13 (⟨b8, 1, none⟩ : Addr) 0 [(.map x79)] ∧
              msetP Tryz.prog 50 w_13 x79 (arrV .u8 32 x80) (.slice r83.p r83.len r83.cap) fun w_14 =>
              dr w_14 fun w_15 =>
              nn p0 fun a85 =>
              rd .map w_15 (Addr.add a85 1) 0 fun x87 =>
              rd .ptr w_15 (⟨b8, 0, none⟩ : Addr) 0 fun x89 =>
              rd .map w_15 (⟨b8, 0, none⟩ : Addr) 1 fun x89_1 =>
              msetP Tryz.prog 24 w_15 x87 (.int .u64 r17) (.agg #[(.pointer x89), (.map x89_1)]) fun w_16 =>
              Q (.int .i64 0) w_16)
              (dr w_11 fun w_12 =>
              nn p0 fun a85 =>
              rd .map w_12 (Addr.add a85 1) 0 fun x87 =>
              rd .ptr w_12 (⟨b8, 0, none⟩ : Addr) 0 fun x89 =>
              rd .map w_12 (⟨b8, 0, none⟩ : Addr) 1 fun x89_1 =>
              msetP Tryz.prog 24 w_12 x87 (.int .u64 r17) (.agg #[(.pointer x89), (.map x89_1)]) fun w_13 =>
              Q (.int .i64 0) w_13))))
        (rd .slc w_3 (⟨b3, 2, none⟩ : Addr) 0 fun x58 =>
        callP Tryz.prog 23 #[(.slice x58.p x58.len x58.cap)] w_3 fun v_1 w_4 =>
        ∃ r59 : Nat → Int, v_1 = (arrV .u8 32 r59) ∧
        al w_4 (.cells ((cellsA .u8 (fun _ => 0) 0 32) : List Value).toArray 50) fun b10 w_5 =>
        wr w_5 (⟨b10, 0, none⟩ : Addr) (cellsA .u8 r59 0 32) fun w_6 =>
        rd .ptr w_6 (⟨b8, 0, none⟩ : Addr) 0 fun x61 =>
        rd (.int .i64) w_6 (⟨b3, 1, none⟩ : Addr) 0 fun x63 =>
        rd (.arr .u8 32) w_6 (⟨b10, 0, none⟩ : Addr) 0 fun x64 =>
        callP Tryz.prog 24 #[(.pointer x61), (.int .i64 x63), (arrV .u8 32 x64)] w_6 fun v_2 w_7 =>
        ∃ r65 : Int, v_2 = (.int .i64 r65) ∧
        br ((r65 : Int) != 0)
          (Q (.int .i64 r65) w_7)
          (rd .map w_7 (⟨b8, 1, none⟩ : Addr) 0 fun x71 =>
          rd (.arr .u8 32) w_7 (⟨b10, 0, none⟩ : Addr) 0 fun x72 =>
          ∃ x73 : Sl, ∃ ok73 : Bool, mgetIs Tryz.prog 50 30 w_7 x71 (arrV .u8 32 x72) (.slice x73.p x73.len x73.cap) ok73 ∧
          br (!ok73)
            (dr w_7 fun w_8 =>
            rd .map w_8 (⟨b8, 1, none⟩ : Addr) 0 fun x79 =>
            rd (.arr .u8 32) w_8 (⟨b10, 0, none⟩ : Addr) 0 fun x80 =>
            rd .slc w_8 (⟨b3, 2, none⟩ : Addr) 0 fun x82 =>
            callP Tryz.prog 25 #[(.slice x82.p x82.len x82.cap)] w_8 fun v_3 w_9 =>
            ∃ r83 : Sl, v_3 = (.slice r83.p r83.len r83.cap) ∧
            atC w_9 (⟨b10, 0, none⟩ : Addr) 0 (cellsA .u8 x80 0 32) ∧
            atC w_9 (⟨b8, 1, none⟩ : Addr) 0 [(.map x79)] ∧
            msetP Tryz.prog 50 w_9 x79 (arrV .u8 32 x80) (.slice r83.p r83.len r83.cap) fun w_10 =>
            dr w_10 fun w_11 =>
            nn p0 fun a85 =>
            rd .map w_11 (Addr.add a85 1) 0 fun x87 =>
            rd .ptr w_11 (⟨b8, 0, none⟩ : Addr) 0 fun x89 =>
            rd .map w_11 (⟨b8, 0, none⟩ : Addr) 1 fun x89_1 =>
            msetP Tryz.prog 24 w_11 x87 (.int .u64 r17) (.agg #[(.pointer x89), (.map x89_1)]) fun w_12 =>
            Q (.int .i64 0) w_12)
            (dr w_7 fun w_8 =>
            nn p0 fun a85 =>
            rd .map w_8 (Addr.add a85 1) 0 fun x87 =>
            rd .ptr w_8 (⟨b8, 0, none⟩ : Addr) 0 fun x89 =>
            rd .map w_8 (⟨b8, 0, none⟩ : Addr) 1 fun x89_1 =>
            msetP Tryz.prog 24 w_8 x87 (.int .u64 r17) (.agg #[(.pointer x89), (.map x89_1)]) fun w_9 =>
            Q (.int .i64 0) w_9)))))
set_option maxRecDepth 100000 in
theorem chase_Chase_Hear_ok {p0 : Option Addr} {p1 : Int} {p1_1 : Int} {p1_2 : Sl} {w : World} {Q : Value → World → Prop} (h : chase_Chase_Hear p0 p1 p1_1 p1_2 w Q) : callP Tryz.prog 8 #[(.pointer p0), (.agg #[(.int .u64 p1), (.int .i64 p1_1), (.slice p1_2.p p1_2.len p1_2.cap)])] w Q := by
  have e : chase_Chase_Hear p0 p1 p1_1 p1_2 w Q = denF Tryz.prog ⟨[], [], []⟩ Tryz.f8 [(.pointer p0), (.agg #[(.int .u64 p1), (.int .i64 p1_1), (.slice p1_2.p p1_2.len p1_2.cap)])] w Q := by kernel_rfl
  exact denF_sound mixed Tryz.func8 (Eq.mp e h)

/-- (*sortition/chase.Chase).Believed -/
def chase_Chase_Believed (p0 : Option Addr) (p1 : Int) (w : World) (Q : Value → World → Prop) : Prop :=
  nn p0 fun a13 =>
  rd .map w (Addr.add a13 1) 0 fun x15 =>
  ∃ x17 : Option Addr, ∃ x17_1 : Option Nat, ∃ ok17 : Bool, mgetIs Tryz.prog 24 66 w x15 (.int .u64 p1) (.agg #[(.pointer x17), (.map x17_1)]) ok17 ∧
  al w (.cells #[(.pointer none), (.map none)] 66) fun b6 w1 =>
  wr w1 (⟨b6, 0, none⟩ : Addr) [(.pointer x17), (.map x17_1)] fun w_1 =>
  br (!ok17)
    (Q (.tuple #[(.slice none 0 0), (.bool false)]) w_1)
    (rd .map w_1 (⟨b6, 1, none⟩ : Addr) 0 fun x23 =>
    callP Tryz.prog 30 #[(.map x23)] w_1 fun v w_2 =>
    ∃ r24 : Cl, v = (.func (.func r24.f) r24.first r24.cap) ∧
    callP Tryz.prog 29 #[(.func (.func r24.f) r24.first r24.cap), (.func (.func 31) #[] #[])] w_2 fun v_1 w_3 =>
    ∃ r25 : Sl, v_1 = (.slice r25.p r25.len r25.cap) ∧
    ∃ (I : Int → World → Prop) (μ : Int → World → Nat), (I 0 w_3) ∧
    ∀ x28 : Int, ∀ (w_4 : World) (K : Int → World → Prop), I x28 w_4 →
      (∀ x28' : Int, ∀ w' : World, I x28' w' → μ x28' w' < μ x28 w_4 → K x28' w') →
    br (decide ((x28 : Int) < ((r25.len : Nat) : Int)))
      (((0 : Int) ≤ x28 ∧ x28 < ((r25.len : Nat) : Int)) ∧
      nn r25.p fun a30 =>
      rd (.arr .u8 32) w_4 (Addr.add a30 ((x28 : Int).toNat * 32)) 0 fun x31 =>
      al w_4 (.cells ((cellsA .u8 (fun _ => 0) 0 32) : List Value).toArray 50) fun b10 w_5 =>
      wr w_5 (⟨b10, 0, none⟩ : Addr) (cellsA .u8 x31 0 32) fun w_6 =>
      rd .ptr w_6 (⟨b6, 0, none⟩ : Addr) 0 fun x33 =>
      rd (.arr .u8 32) w_6 (⟨b10, 0, none⟩ : Addr) 0 fun x34 =>
      callP Tryz.prog 33 #[(.pointer x33), (arrV .u8 32 x34)] w_6 fun v_2 w_7 =>
      ∃ r35 : Bool, v_2 = (.bool r35) ∧
      br r35
        (rd .map w_7 (⟨b6, 1, none⟩ : Addr) 0 fun x37 =>
        rd (.arr .u8 32) w_7 (⟨b10, 0, none⟩ : Addr) 0 fun x38 =>
        ∃ x39 : Sl, ∃ ok39 : Bool, mgetIs Tryz.prog 50 30 w_7 x37 (arrV .u8 32 x38) (.slice x39.p x39.len x39.cap) ok39 ∧
        callP Tryz.prog 25 #[(.slice x39.p x39.len x39.cap)] w_7 fun v_3 w_8 =>
        ∃ r40 : Sl, v_3 = (.slice r40.p r40.len r40.cap) ∧
        Q (.tuple #[(.slice r40.p r40.len r40.cap), (.bool true)]) w_8)
        (K (IntKind.wrap .i64 (x28 + 1)) w_7))
      (Q (.tuple #[(.slice none 0 0), (.bool false)]) w_4))
set_option maxRecDepth 100000 in
theorem chase_Chase_Believed_ok {p0 : Option Addr} {p1 : Int} {w : World} {Q : Value → World → Prop} (h : chase_Chase_Believed p0 p1 w Q) : callP Tryz.prog 11 #[(.pointer p0), (.int .u64 p1)] w Q := by
  have e : chase_Chase_Believed p0 p1 w Q = denF Tryz.prog ⟨[(6, [(28, false, [(.int .i64)])], [6, 26, 27])], [], []⟩ Tryz.f11 [(.pointer p0), (.int .u64 p1)] w Q := by kernel_rfl
  exact denF_sound mixed Tryz.func11 (Eq.mp e h)

/-- (*sortition/chase.Chase).Believed$1 -/
def chase_Chase_Believed_c1 (p0 : Nat → Int) (p1 : Nat → Int) (w : World) (Q : Value → World → Prop) : Prop :=
  al w (.cells ((cellsA .u8 p0 0 32) : List Value).toArray 50) fun b2 w1 =>
  al w1 (.cells ((cellsA .u8 p1 0 32) : List Value).toArray 50) fun b3 w_1 =>
  dr w_1 fun w_2 =>
  callP Tryz.prog 32 #[(.slice (cutAt (some ⟨b2, 0, none⟩) 32 0 1) 32 32), (.slice (cutAt (some ⟨b3, 0, none⟩) 32 0 1) 32 32)] w_2 fun v w_3 =>
  ∃ r7 : Int, v = (.int .i64 r7) ∧
  Q (.int .i64 r7) w_3
set_option maxRecDepth 100000 in
theorem chase_Chase_Believed_c1_ok {p0 : Nat → Int} {p1 : Nat → Int} {w : World} {Q : Value → World → Prop} (h : chase_Chase_Believed_c1 p0 p1 w Q) : callP Tryz.prog 31 #[(arrV .u8 32 p0), (arrV .u8 32 p1)] w Q := by
  have e : chase_Chase_Believed_c1 p0 p1 w Q = denF Tryz.prog ⟨[], [], []⟩ Tryz.f31 [(arrV .u8 32 p0), (arrV .u8 32 p1)] w Q := by kernel_rfl
  exact denF_sound mixed Tryz.func31 (Eq.mp e h)

/-- (*sortition/chase.Chase).Run -/
def chase_Chase_Run (p0 : Option Addr) (p1 : Int) (w : World) (Q : Value → World → Prop) : Prop :=
  ∃ (I : Int → Sl → World → Prop) (μ : Int → Sl → World → Nat), (I p1 ⟨none, 0, 0⟩ w) ∧
  ∀ x1 : Int, ∀ x5 : Sl, ∀ (w1 : World) (K : Int → Sl → World → Prop), I x1 x5 w1 →
    (∀ x1' : Int, ∀ x5' : Sl, ∀ w' : World, I x1' x5' w' → μ x1' x5' w' < μ x1 x5 w1 → K x1' x5' w') →
  callP Tryz.prog 11 #[(.pointer p0), (.int .u64 x1)] w1 fun v w_1 =>
  ∃ r11 : Sl, ∃ r11_1 : Bool, v = .tuple #[(.slice r11.p r11.len r11.cap), (.bool r11_1)] ∧
  br (!r11_1)
    (Q (.slice x5.p x5.len x5.cap) w_1)
    (al w_1 (.cells #[(.slice r11.p r11.len r11.cap)] 30) fun b19 w_2 =>
    appP Tryz.prog 30 w_2 ⟨x5.p, x5.len, x5.cap⟩ (.slice (some ⟨b19, 0, none⟩) 1 1) fun s20 w_3 =>
    K (IntKind.wrap .u64 (x1 + 1)) s20 w_3)
set_option maxRecDepth 100000 in
theorem chase_Chase_Run_ok {p0 : Option Addr} {p1 : Int} {w : World} {Q : Value → World → Prop} (h : chase_Chase_Run p0 p1 w Q) : callP Tryz.prog 18 #[(.pointer p0), (.int .u64 p1)] w Q := by
  have e : chase_Chase_Run p0 p1 w Q = denF Tryz.prog ⟨[(2, [(1, false, [(.int .u64)]), (5, false, [.slc])], [0])], [], []⟩ Tryz.f18 [(.pointer p0), (.int .u64 p1)] w Q := by kernel_rfl
  exact denF_sound mixed Tryz.func18 (Eq.mp e h)

/-- (*sortition/chase.Chase).Forget -/
def chase_Chase_Forget (p0 : Option Addr) (p1 : Int) (w : World) (Q : Value → World → Prop) : Prop :=
  nn p0 fun a8 =>
  rd .map w (Addr.add a8 1) 0 fun x10 =>
  ∃ n11 : Nat, mlenIs w x10 n11 ∧
  nn p0 fun a13 =>
  rd .map w (Addr.add a13 1) 0 fun x15 =>
  ∃ it : Obj, iterOf w x15 it ∧
  al w it fun b16 w1 =>
  ∃ (I : World → Prop) (μ : World → Nat), (I w1) ∧
  ∀ (w_1 : World) (K : World → Prop), I w_1 →
    (∀ w' : World, I w' → μ w' < μ w_1 → K w') →
  mnextP w_1 (some ⟨b16, 0, none⟩)
    (fun w_2 =>
    nn p0 fun a31 =>
    rd .map w_2 (Addr.add a31 1) 0 fun x33 =>
    ∃ n34 : Nat, mlenIs w_2 x33 n34 ∧
    Q (.int .i64 (IntKind.wrap .i64 ((n11 : Int) - (n34 : Int)))) w_2)
    (fun k17 e17 w_2 =>
    ∃ x19 : Int, ∃ v19 : Value, entryIs w_2 (some ⟨b16, 0, none⟩) (.int .u64 x19) v19 ∧
    br (decide ((x19 : Int) < p1))
      (nn p0 fun a25 =>
      rd .map w_2 (Addr.add a25 1) 0 fun x27 =>
      mdelP Tryz.prog 24 w_2 x27 (.int .u64 x19) fun w_3 =>
      K w_3)
      (K w_2))
set_option maxRecDepth 100000 in
theorem chase_Chase_Forget_ok {p0 : Option Addr} {p1 : Int} {w : World} {Q : Value → World → Prop} (h : chase_Chase_Forget p0 p1 w Q) : callP Tryz.prog 12 #[(.pointer p0), (.int .u64 p1)] w Q := by
  have e : chase_Chase_Forget p0 p1 w Q = denF Tryz.prog ⟨[(3, [], [0, 1, 5, 16])], [], []⟩ Tryz.f12 [(.pointer p0), (.int .u64 p1)] w Q := by kernel_rfl
  exact denF_sound mixed Tryz.func12 (Eq.mp e h)

/-- (*sortition/chase.Chase).Heights -/
def chase_Chase_Heights (p0 : Option Addr) (w : World) (Q : Value → World → Prop) : Prop :=
  nn p0 fun a4 =>
  rd .map w (Addr.add a4 1) 0 fun x6 =>
  callP Tryz.prog 28 #[(.map x6)] w fun v w1 =>
  ∃ r7 : Cl, v = (.func (.func r7.f) r7.first r7.cap) ∧
  callP Tryz.prog 27 #[(.func (.func r7.f) r7.first r7.cap)] w1 fun v_1 w_1 =>
  ∃ r8 : Sl, v_1 = (.slice r8.p r8.len r8.cap) ∧
  Q (.slice r8.p r8.len r8.cap) w_1
set_option maxRecDepth 100000 in
theorem chase_Chase_Heights_ok {p0 : Option Addr} {w : World} {Q : Value → World → Prop} (h : chase_Chase_Heights p0 w Q) : callP Tryz.prog 10 #[(.pointer p0)] w Q := by
  have e : chase_Chase_Heights p0 w Q = denF Tryz.prog ⟨[], [], []⟩ Tryz.f10 [(.pointer p0)] w Q := by kernel_rfl
  exact denF_sound mixed Tryz.func10 (Eq.mp e h)

/-- sortition/chase.Answer -/
def chase_Answer (p0 : Sl) (p1 : Int) (p2 : Int) (w : World) (Q : Value → World → Prop) : Prop :=
  ∃ (I : Sl → Int → World → Prop) (μ : Sl → Int → World → Nat), (I ⟨none, 0, 0⟩ p2 w) ∧
  ∀ x7 : Sl, ∀ x8 : Int, ∀ (w1 : World) (K : Sl → Int → World → Prop), I x7 x8 w1 →
    (∀ x7' : Sl, ∀ x8' : Int, ∀ w' : World, I x7' x8' w' → μ x7' x8' w' < μ x7 x8 w1 → K x7' x8' w') →
  br (decide ((x8 : Int) < (IntKind.wrap .u64 ((p0.len : Nat) : Int))))
    (br (decide ((((x7.len : Nat) : Int) : Int) < 4))
      (((0 : Int) ≤ x8 ∧ x8 < ((p0.len : Nat) : Int)) ∧
      nn p0.p fun a27 =>
      rd .slc w1 (Addr.add a27 ((x8 : Int).toNat * 1)) 0 fun x28 =>
      callP Tryz.prog 25 #[(.slice x28.p x28.len x28.cap)] w1 fun v w_1 =>
      ∃ r29 : Sl, v = (.slice r29.p r29.len r29.cap) ∧
      al w_1 (.cells #[(.int .u64 x8), (.int .i64 p1), (.slice r29.p r29.len r29.cap)] 32) fun b31 w_2 =>
      appP Tryz.prog 32 w_2 ⟨x7.p, x7.len, x7.cap⟩ (.slice (some ⟨b31, 0, none⟩) 1 1) fun s32 w_3 =>
      K s32 (IntKind.wrap .u64 (x8 + 1)) w_3)
      (Q (.slice x7.p x7.len x7.cap) w1))
    (Q (.slice x7.p x7.len x7.cap) w1)
set_option maxRecDepth 100000 in
theorem chase_Answer_ok {p0 : Sl} {p1 : Int} {p2 : Int} {w : World} {Q : Value → World → Prop} (h : chase_Answer p0 p1 p2 w Q) : callP Tryz.prog 14 #[(.slice p0.p p0.len p0.cap), (.int .i64 p1), (.int .u64 p2)] w Q := by
  have e : chase_Answer p0 p1 p2 w Q = denF Tryz.prog ⟨[(3, [(7, false, [.slc]), (8, false, [(.int .u64)])], [0, 1])], [], []⟩ Tryz.f14 [(.slice p0.p p0.len p0.cap), (.int .i64 p1), (.int .u64 p2)] w Q := by kernel_rfl
  exact denF_sound mixed Tryz.func14 (Eq.mp e h)

/-- bytes.Compare -/
def bytes_Compare (p0 : Sl) (p1 : Sl) (w : World) (Q : Value → World → Prop) : Prop :=
  extP Tryz.prog 54 #[(.slice p0.p p0.len p0.cap), (.slice p1.p p1.len p1.cap)] w fun v =>
  ∃ r7 : Int, v = (.int .i64 r7) ∧
  Q (.int .i64 r7) w
set_option maxRecDepth 100000 in
theorem bytes_Compare_ok {p0 : Sl} {p1 : Sl} {w : World} {Q : Value → World → Prop} (h : bytes_Compare p0 p1 w Q) : callP Tryz.prog 32 #[(.slice p0.p p0.len p0.cap), (.slice p1.p p1.len p1.cap)] w Q := by
  have e : bytes_Compare p0 p1 w Q = denF Tryz.prog ⟨[], [], []⟩ Tryz.f32 [(.slice p0.p p0.len p0.cap), (.slice p1.p p1.len p1.cap)] w Q := by kernel_rfl
  exact denF_sound mixed Tryz.func32 (Eq.mp e h)

/-- slices.Sorted[uint64] -/
def slices_Sorted_uint64 (p0 : Cl) (w : World) (Q : Value → World → Prop) : Prop :=
  callP Tryz.prog 48 #[(.func (.func p0.f) p0.first p0.cap)] w fun v w1 =>
  ∃ r5 : Sl, v = (.slice r5.p r5.len r5.cap) ∧
  callP Tryz.prog 49 #[(.slice r5.p r5.len r5.cap)] w1 fun v_1 w_1 =>
  v_1 = .tuple #[] ∧
  Q (.slice r5.p r5.len r5.cap) w_1
set_option maxRecDepth 100000 in
theorem slices_Sorted_uint64_ok {p0 : Cl} {w : World} {Q : Value → World → Prop} (h : slices_Sorted_uint64 p0 w Q) : callP Tryz.prog 27 #[(.func (.func p0.f) p0.first p0.cap)] w Q := by
  have e : slices_Sorted_uint64 p0 w Q = denF Tryz.prog ⟨[], [], []⟩ Tryz.f27 [(.func (.func p0.f) p0.first p0.cap)] w Q := by kernel_rfl
  exact denF_sound mixed Tryz.func27 (Eq.mp e h)

/-- slices.Sort[[]uint64,uint64] -/
def slices_Sort_uint64_uint64 (p0 : Sl) (w : World) (Q : Value → World → Prop) : Prop :=
  callP Tryz.prog 74 #[(.int .u64 (IntKind.wrap .u64 ((p0.len : Nat) : Int)))] w fun v w1 =>
  ∃ r9 : Int, v = (.int .i64 r9) ∧
  callP Tryz.prog 73 #[(.slice p0.p p0.len p0.cap), (.int .i64 0), (.int .i64 ((p0.len : Nat) : Int)), (.int .i64 r9)] w1 fun v_1 w_1 =>
  v_1 = .tuple #[] ∧
  Q (.tuple #[]) w_1
set_option maxRecDepth 100000 in
theorem slices_Sort_uint64_uint64_ok {p0 : Sl} {w : World} {Q : Value → World → Prop} (h : slices_Sort_uint64_uint64 p0 w Q) : callP Tryz.prog 49 #[(.slice p0.p p0.len p0.cap)] w Q := by
  have e : slices_Sort_uint64_uint64 p0 w Q = denF Tryz.prog ⟨[], [], []⟩ Tryz.f49 [(.slice p0.p p0.len p0.cap)] w Q := by kernel_rfl
  exact denF_sound mixed Tryz.func49 (Eq.mp e h)

/-- slices.Collect[uint64] -/
def slices_Collect_uint64 (p0 : Cl) (w : World) (Q : Value → World → Prop) : Prop :=
  callP Tryz.prog 72 #[(.slice none 0 0), (.func (.func p0.f) p0.first p0.cap)] w fun v w1 =>
  ∃ r4 : Sl, v = (.slice r4.p r4.len r4.cap) ∧
  Q (.slice r4.p r4.len r4.cap) w1
set_option maxRecDepth 100000 in
theorem slices_Collect_uint64_ok {p0 : Cl} {w : World} {Q : Value → World → Prop} (h : slices_Collect_uint64 p0 w Q) : callP Tryz.prog 48 #[(.func (.func p0.f) p0.first p0.cap)] w Q := by
  have e : slices_Collect_uint64 p0 w Q = denF Tryz.prog ⟨[], [], []⟩ Tryz.f48 [(.func (.func p0.f) p0.first p0.cap)] w Q := by kernel_rfl
  exact denF_sound mixed Tryz.func48 (Eq.mp e h)

/-- slices.SortedFunc[sortition/api.Digest] -/
def slices_SortedFunc_api_Digest (p0 : Cl) (p1 : Cl) (w : World) (Q : Value → World → Prop) : Prop :=
  callP Tryz.prog 51 #[(.func (.func p0.f) p0.first p0.cap)] w fun v w1 =>
  ∃ r7 : Sl, v = (.slice r7.p r7.len r7.cap) ∧
  callP Tryz.prog 52 #[(.slice r7.p r7.len r7.cap), (.func (.func p1.f) p1.first p1.cap)] w1 fun v_1 w_1 =>
  v_1 = .tuple #[] ∧
  Q (.slice r7.p r7.len r7.cap) w_1
set_option maxRecDepth 100000 in
theorem slices_SortedFunc_api_Digest_ok {p0 : Cl} {p1 : Cl} {w : World} {Q : Value → World → Prop} (h : slices_SortedFunc_api_Digest p0 p1 w Q) : callP Tryz.prog 29 #[(.func (.func p0.f) p0.first p0.cap), (.func (.func p1.f) p1.first p1.cap)] w Q := by
  have e : slices_SortedFunc_api_Digest p0 p1 w Q = denF Tryz.prog ⟨[], [], []⟩ Tryz.f29 [(.func (.func p0.f) p0.first p0.cap), (.func (.func p1.f) p1.first p1.cap)] w Q := by kernel_rfl
  exact denF_sound mixed Tryz.func29 (Eq.mp e h)

/-- slices.AppendSeq[[]uint64,uint64] -/
def slices_AppendSeq_uint64_uint64 (p0 : Sl) (p1 : Cl) (w : World) (Q : Value → World → Prop) : Prop :=
  al w (.cells #[(.slice p0.p p0.len p0.cap)] 22) fun b2 w1 =>
  (∃ fn, Tryz.prog.funcs[p1.f]? = some fn ∧ fn.body.isSome = true ∧ (fn.name == "runtime.NumGoroutine") = false) ∧
  ∀ (R : Loop) (w_1 : World), w_1.os = w1.os → w_1.tape = w1.tape → w_1.output = w1.output → w_1.heap.size = w1.heap.size + 2 → (∀ i, i < w1.heap.size → w_1.heap[i]? = w1.heap[i]?) →
  w_1.heap[w1.heap.size]? = some (.deferred (some [])) → lpEnd R (w1.heap.size + 1) none w_1 →
  (∀ x7 : Int, ∀ (W : World) (Ky : Value → World → Prop), lpEnd R (w1.heap.size + 1) none W →
    (lpBegin R (w1.heap.size + 1) W fun Wb =>
    rd .slc Wb (⟨b2, 0, none⟩ : Addr) 0 fun x8 =>
    al Wb (.cells #[(.int .u64 x7)] 24) fun b10 w_2 =>
    appP Tryz.prog 24 w_2 ⟨x8.p, x8.len, x8.cap⟩ (.slice (some ⟨b10, 0, none⟩) 1 1) fun s11 w_3 =>
    wr w_3 (⟨b2, 0, none⟩ : Addr) [(.slice s11.p s11.len s11.cap)] fun w_4 =>
    lpClose R (w1.heap.size + 1) none w_4 fun Wc =>
    Ky (.bool true) Wc) →
  yldP Tryz.prog (w1.heap.size + 1) #[(.int .u64 x7)] W Ky) →
  callP Tryz.prog p1.f (p1.first ++ #[.func (.yield (w1.heap.size + 1)) #[] #[]] ++ p1.cap) w_1 fun v w_2 =>
  lpEnd R (w1.heap.size + 1) none w_2 ∧ ∀ w_3, Sole (w1.heap.size + 1) w_2 w_3 →
  rd .slc w_3 (⟨b2, 0, none⟩ : Addr) 0 fun x12 =>
  w_3.heap[w1.heap.size]? = some (.deferred (some [])) ∧ ∀ w_4, Sole w1.heap.size w_3 w_4 →
  Q (.slice x12.p x12.len x12.cap) w_4
set_option maxRecDepth 100000 in
theorem slices_AppendSeq_uint64_uint64_ok {p0 : Sl} {p1 : Cl} {w : World} {Q : Value → World → Prop} (h : slices_AppendSeq_uint64_uint64 p0 p1 w Q) : callP Tryz.prog 72 #[(.slice p0.p p0.len p0.cap), (.func (.func p1.f) p1.first p1.cap)] w Q := by
  have e : slices_AppendSeq_uint64_uint64 p0 p1 w Q = denF Tryz.prog ⟨[], [], [(3, [(7, false, [(.int .u64)])], [])]⟩ Tryz.f72 [(.slice p0.p p0.len p0.cap), (.func (.func p1.f) p1.first p1.cap)] w Q := by kernel_rfl
  exact denF_sound mixed Tryz.func72 (Eq.mp e h)

/-- slices.AppendSeq[[]sortition/api.Digest,sortition/api.Digest] -/
def slices_AppendSeq_api_Digest_api_Digest (p0 : Sl) (p1 : Cl) (w : World) (Q : Value → World → Prop) : Prop :=
  al w (.cells #[(.slice p0.p p0.len p0.cap)] 76) fun b2 w1 =>
  (∃ fn, Tryz.prog.funcs[p1.f]? = some fn ∧ fn.body.isSome = true ∧ (fn.name == "runtime.NumGoroutine") = false) ∧
  ∀ (R : Loop) (w_1 : World), w_1.os = w1.os → w_1.tape = w1.tape → w_1.output = w1.output → w_1.heap.size = w1.heap.size + 2 → (∀ i, i < w1.heap.size → w_1.heap[i]? = w1.heap[i]?) →
  w_1.heap[w1.heap.size]? = some (.deferred (some [])) → lpEnd R (w1.heap.size + 1) none w_1 →
  (∀ x7 : Nat → Int, ∀ (W : World) (Ky : Value → World → Prop), lpEnd R (w1.heap.size + 1) none W →
    (al W (.cells ((cellsA .u8 (fun _ => 0) 0 32) : List Value).toArray 50) fun b5 w_2 =>
    wr w_2 (⟨b5, 0, none⟩ : Addr) (cellsA .u8 x7 0 32) fun w_3 =>
    lpBegin R (w1.heap.size + 1) w_3 fun Wb =>
    rd .slc Wb (⟨b2, 0, none⟩ : Addr) 0 fun x8 =>
    rd (.arr .u8 32) Wb (⟨b5, 0, none⟩ : Addr) 0 fun x9 =>
    al Wb (.cells ((cellsA .u8 x9 0 32) : List Value).toArray 50) fun b10 w_4 =>
    appP Tryz.prog 50 w_4 ⟨x8.p, x8.len, x8.cap⟩ (.slice (some ⟨b10, 0, none⟩) 1 1) fun s11 w_5 =>
    wr w_5 (⟨b2, 0, none⟩ : Addr) [(.slice s11.p s11.len s11.cap)] fun w_6 =>
    lpClose R (w1.heap.size + 1) none w_6 fun Wc =>
    Ky (.bool true) Wc) →
  yldP Tryz.prog (w1.heap.size + 1) #[(arrV .u8 32 x7)] W Ky) →
  callP Tryz.prog p1.f (p1.first ++ #[.func (.yield (w1.heap.size + 1)) #[] #[]] ++ p1.cap) w_1 fun v w_2 =>
  lpEnd R (w1.heap.size + 1) none w_2 ∧ ∀ w_3, Sole (w1.heap.size + 1) w_2 w_3 →
  rd .slc w_3 (⟨b2, 0, none⟩ : Addr) 0 fun x12 =>
  w_3.heap[w1.heap.size]? = some (.deferred (some [])) ∧ ∀ w_4, Sole w1.heap.size w_3 w_4 →
  Q (.slice x12.p x12.len x12.cap) w_4
set_option maxRecDepth 100000 in
theorem slices_AppendSeq_api_Digest_api_Digest_ok {p0 : Sl} {p1 : Cl} {w : World} {Q : Value → World → Prop} (h : slices_AppendSeq_api_Digest_api_Digest p0 p1 w Q) : callP Tryz.prog 75 #[(.slice p0.p p0.len p0.cap), (.func (.func p1.f) p1.first p1.cap)] w Q := by
  have e : slices_AppendSeq_api_Digest_api_Digest p0 p1 w Q = denF Tryz.prog ⟨[], [], [(3, [(7, true, [(.arr .u8 32)])], [])]⟩ Tryz.f75 [(.slice p0.p p0.len p0.cap), (.func (.func p1.f) p1.first p1.cap)] w Q := by kernel_rfl
  exact denF_sound mixed Tryz.func75 (Eq.mp e h)

/-- slices.SortFunc[[]sortition/api.Digest,sortition/api.Digest] -/
def slices_SortFunc_api_Digest_api_Digest (p0 : Sl) (p1 : Cl) (w : World) (Q : Value → World → Prop) : Prop :=
  callP Tryz.prog 74 #[(.int .u64 (IntKind.wrap .u64 ((p0.len : Nat) : Int)))] w fun v w1 =>
  ∃ r11 : Int, v = (.int .i64 r11) ∧
  callP Tryz.prog 76 #[(.slice p0.p p0.len p0.cap), (.int .i64 0), (.int .i64 ((p0.len : Nat) : Int)), (.int .i64 r11), (.func (.func p1.f) p1.first p1.cap)] w1 fun v_1 w_1 =>
  v_1 = .tuple #[] ∧
  Q (.tuple #[]) w_1
set_option maxRecDepth 100000 in
theorem slices_SortFunc_api_Digest_api_Digest_ok {p0 : Sl} {p1 : Cl} {w : World} {Q : Value → World → Prop} (h : slices_SortFunc_api_Digest_api_Digest p0 p1 w Q) : callP Tryz.prog 52 #[(.slice p0.p p0.len p0.cap), (.func (.func p1.f) p1.first p1.cap)] w Q := by
  have e : slices_SortFunc_api_Digest_api_Digest p0 p1 w Q = denF Tryz.prog ⟨[], [], []⟩ Tryz.f52 [(.slice p0.p p0.len p0.cap), (.func (.func p1.f) p1.first p1.cap)] w Q := by kernel_rfl
  exact denF_sound mixed Tryz.func52 (Eq.mp e h)

/-- slices.Collect[sortition/api.Digest] -/
def slices_Collect_api_Digest (p0 : Cl) (w : World) (Q : Value → World → Prop) : Prop :=
  callP Tryz.prog 75 #[(.slice none 0 0), (.func (.func p0.f) p0.first p0.cap)] w fun v w1 =>
  ∃ r4 : Sl, v = (.slice r4.p r4.len r4.cap) ∧
  Q (.slice r4.p r4.len r4.cap) w1
set_option maxRecDepth 100000 in
theorem slices_Collect_api_Digest_ok {p0 : Cl} {w : World} {Q : Value → World → Prop} (h : slices_Collect_api_Digest p0 w Q) : callP Tryz.prog 51 #[(.func (.func p0.f) p0.first p0.cap)] w Q := by
  have e : slices_Collect_api_Digest p0 w Q = denF Tryz.prog ⟨[], [], []⟩ Tryz.f51 [(.func (.func p0.f) p0.first p0.cap)] w Q := by kernel_rfl
  exact denF_sound mixed Tryz.func51 (Eq.mp e h)

/-- maps.Keys[map[uint64]sortition/chase.claims,uint64,sortition/chase.claims] -/
def maps_Keys_map_uint64_chase_claims_uint64_chase_claims (p0 : Option Nat) (w : World) (Q : Value → World → Prop) : Prop :=
  al w (.cells #[(.map p0)] 59) fun b1 w1 =>
  Q (.func (.func 50) #[] #[(.pointer (some ⟨b1, 0, none⟩))]) w1
set_option maxRecDepth 100000 in
theorem maps_Keys_map_uint64_chase_claims_uint64_chase_claims_ok {p0 : Option Nat} {w : World} {Q : Value → World → Prop} (h : maps_Keys_map_uint64_chase_claims_uint64_chase_claims p0 w Q) : callP Tryz.prog 28 #[(.map p0)] w Q := by
  have e : maps_Keys_map_uint64_chase_claims_uint64_chase_claims p0 w Q = denF Tryz.prog ⟨[], [], []⟩ Tryz.f28 [(.map p0)] w Q := by kernel_rfl
  exact denF_sound mixed Tryz.func28 (Eq.mp e h)

/-- maps.Keys[map[sortition/api.Digest][]byte,sortition/api.Digest,[]byte] -/
def maps_Keys_map_api_Digest_byte_api_Digest_byte (p0 : Option Nat) (w : World) (Q : Value → World → Prop) : Prop :=
  al w (.cells #[(.map p0)] 64) fun b1 w1 =>
  Q (.func (.func 53) #[] #[(.pointer (some ⟨b1, 0, none⟩))]) w1
set_option maxRecDepth 100000 in
theorem maps_Keys_map_api_Digest_byte_api_Digest_byte_ok {p0 : Option Nat} {w : World} {Q : Value → World → Prop} (h : maps_Keys_map_api_Digest_byte_api_Digest_byte p0 w Q) : callP Tryz.prog 30 #[(.map p0)] w Q := by
  have e : maps_Keys_map_api_Digest_byte_api_Digest_byte p0 w Q = denF Tryz.prog ⟨[], [], []⟩ Tryz.f30 [(.map p0)] w Q := by kernel_rfl
  exact denF_sound mixed Tryz.func30 (Eq.mp e h)

/-- maps.Keys[map[uint64]sortition/chase.claims,uint64,sortition/chase.claims]$1 -/
def maps_Keys_map_uint64_chase_claims_uint64_chase_claims_c1 (l0 : Nat) (c0 : Addr) (w : World) (Q : Value → World → Prop) : Prop :=
  rd .map w c0 0 fun x4 =>
  ∃ it : Obj, iterOf w x4 it ∧
  al w it fun b5 w1 =>
  ∃ (I : World → Prop) (μ : World → Nat), (I w1) ∧
  ∀ (w_1 : World) (K : World → Prop), I w_1 →
    (∀ w' : World, I w' → μ w' < μ w_1 → K w') →
  mnextP w_1 (some ⟨b5, 0, none⟩)
    (fun w_2 =>
    Q (.tuple #[]) w_2)
    (fun k6 e6 w_2 =>
    ∃ x8 : Int, ∃ v8 : Value, entryIs w_2 (some ⟨b5, 0, none⟩) (.int .u64 x8) v8 ∧
    yldP Tryz.prog l0 #[(.int .u64 x8)] w_2 fun v w_3 =>
    ∃ r12 : Bool, v = (.bool r12) ∧
    br (!r12)
      (Q (.tuple #[]) w_3)
      (K w_3))
set_option maxRecDepth 100000 in
theorem maps_Keys_map_uint64_chase_claims_uint64_chase_claims_c1_ok {l0 : Nat} {c0 : Addr} {w : World} {Q : Value → World → Prop} (h : maps_Keys_map_uint64_chase_claims_uint64_chase_claims_c1 l0 c0 w Q) : callP Tryz.prog 50 #[(.func (.yield l0) #[] #[]), (.pointer (some c0))] w Q := by
  have e : maps_Keys_map_uint64_chase_claims_uint64_chase_claims_c1 l0 c0 w Q = denF Tryz.prog ⟨[(1, [], [0, 5])], [], []⟩ Tryz.f50 [(.func (.yield l0) #[] #[]), (.pointer (some c0))] w Q := by kernel_rfl
  exact denF_sound mixed Tryz.func50 (Eq.mp e h)

/-- maps.Keys[map[sortition/api.Digest][]byte,sortition/api.Digest,[]byte]$1 -/
def maps_Keys_map_api_Digest_byte_api_Digest_byte_c1 (l0 : Nat) (c0 : Addr) (w : World) (Q : Value → World → Prop) : Prop :=
  rd .map w c0 0 fun x4 =>
  ∃ it : Obj, iterOf w x4 it ∧
  al w it fun b5 w1 =>
  ∃ (I : World → Prop) (μ : World → Nat), (I w1) ∧
  ∀ (w_1 : World) (K : World → Prop), I w_1 →
    (∀ w' : World, I w' → μ w' < μ w_1 → K w') →
  mnextP w_1 (some ⟨b5, 0, none⟩)
    (fun w_2 =>
    Q (.tuple #[]) w_2)
    (fun k6 e6 w_2 =>
    ∃ x8 : Nat → Int, ∃ v8 : Value, entryIs w_2 (some ⟨b5, 0, none⟩) (arrV .u8 32 x8) v8 ∧
    al w_2 (.cells ((cellsA .u8 (fun _ => 0) 0 32) : List Value).toArray 50) fun b3 w_3 =>
    wr w_3 (⟨b3, 0, none⟩ : Addr) (cellsA .u8 x8 0 32) fun w_4 =>
    rd (.arr .u8 32) w_4 (⟨b3, 0, none⟩ : Addr) 0 fun x11 =>
    yldP Tryz.prog l0 #[(arrV .u8 32 x11)] w_4 fun v w_5 =>
    ∃ r12 : Bool, v = (.bool r12) ∧
    br (!r12)
      (Q (.tuple #[]) w_5)
      (K w_5))
set_option maxRecDepth 100000 in
theorem maps_Keys_map_api_Digest_byte_api_Digest_byte_c1_ok {l0 : Nat} {c0 : Addr} {w : World} {Q : Value → World → Prop} (h : maps_Keys_map_api_Digest_byte_api_Digest_byte_c1 l0 c0 w Q) : callP Tryz.prog 53 #[(.func (.yield l0) #[] #[]), (.pointer (some c0))] w Q := by
  have e : maps_Keys_map_api_Digest_byte_api_Digest_byte_c1 l0 c0 w Q = denF Tryz.prog ⟨[(1, [], [0, 5])], [], []⟩ Tryz.f53 [(.func (.yield l0) #[] #[]), (.pointer (some c0))] w Q := by kernel_rfl
  exact denF_sound mixed Tryz.func53 (Eq.mp e h)

/-- math/bits.Len -/
def math_bits_Len (p0 : Int) (w : World) (Q : Value → World → Prop) : Prop :=
  callP Tryz.prog 97 #[(.int .u64 p0)] w fun v w1 =>
  ∃ r7 : Int, v = (.int .i64 r7) ∧
  Q (.int .i64 r7) w1
set_option maxRecDepth 100000 in
theorem math_bits_Len_ok {p0 : Int} {w : World} {Q : Value → World → Prop} (h : math_bits_Len p0 w Q) : callP Tryz.prog 74 #[(.int .u64 p0)] w Q := by
  have e : math_bits_Len p0 w Q = denF Tryz.prog ⟨[], [], []⟩ Tryz.f74 [(.int .u64 p0)] w Q := by kernel_rfl
  exact denF_sound mixed Tryz.func74 (Eq.mp e h)

/-- math/bits.Len32 -/
def math_bits_Len32 (p0 : Int) (w : World) (Q : Value → World → Prop) : Prop :=
  br (decide ((p0 : Int) ≥ 65536))
    ((0 : Int) ≤ 16 ∧
    br (decide (((ishr .u32 p0 16) : Int) ≥ 256))
      ((0 : Int) ≤ 8 ∧
      (0 : Int) ≤ (IntKind.wrap .u8 (ishr .u32 (ishr .u32 p0 16) 8)) ∧
      ∃ b16 : UInt8, ((ByteArray.mk #[0, 1, 2, 2, 3, 3, 3, 3, 4, 4, 4, 4, 4, 4, 4, 4, 5, 5, 5, 5, 5, 5, 5, 5, 5, 5, 5, 5, 5, 5, 5, 5, 6, 6, 6, 6, 6, 6, 6, 6, 6, 6, 6, 6, 6, 6, 6, 6, 6, 6, 6, 6, 6, 6, 6, 6, 6, 6, 6, 6, 6, 6, 6, 6, 7, 7, 7, 7, 7, 7, 7, 7, 7, 7, 7, 7, 7, 7, 7, 7, 7, 7, 7, 7, 7, 7, 7, 7, 7, 7, 7, 7, 7, 7, 7, 7, 7, 7, 7, 7, 7, 7, 7, 7, 7, 7, 7, 7, 7, 7, 7, 7, 7, 7, 7, 7, 7, 7, 7, 7, 7, 7, 7, 7, 7, 7, 7, 7, 8, 8, 8, 8, 8, 8, 8, 8, 8, 8, 8, 8, 8, 8, 8, 8, 8, 8, 8, 8, 8, 8, 8, 8, 8, 8, 8, 8, 8, 8, 8, 8, 8, 8, 8, 8, 8, 8, 8, 8, 8, 8, 8, 8, 8, 8, 8, 8, 8, 8, 8, 8, 8, 8, 8, 8, 8, 8, 8, 8, 8, 8, 8, 8, 8, 8, 8, 8, 8, 8, 8, 8, 8, 8, 8, 8, 8, 8, 8, 8, 8, 8, 8, 8, 8, 8, 8, 8, 8, 8, 8, 8, 8, 8, 8, 8, 8, 8, 8, 8, 8, 8, 8, 8, 8, 8, 8, 8, 8, 8, 8, 8, 8, 8, 8, 8, 8, 8, 8, 8, 8, 8, 8, 8, 8, 8, 8, 8]) : ByteArray)[((IntKind.wrap .u8 (ishr .u32 (ishr .u32 p0 16) 8)) : Int).toNat]? = some b16 ∧ Q (.int .i64 (IntKind.wrap .i64 ((IntKind.wrap .i64 (16 + 8)) + (IntKind.wrap .i64 (b16.toNat : Int))))) w)
      ((0 : Int) ≤ (IntKind.wrap .u8 (ishr .u32 p0 16)) ∧
      ∃ b16 : UInt8, ((ByteArray.mk #[0, 1, 2, 2, 3, 3, 3, 3, 4, 4, 4, 4, 4, 4, 4, 4, 5, 5, 5, 5, 5, 5, 5, 5, 5, 5, 5, 5, 5, 5, 5, 5, 6, 6, 6, 6, 6, 6, 6, 6, 6, 6, 6, 6, 6, 6, 6, 6, 6, 6, 6, 6, 6, 6, 6, 6, 6, 6, 6, 6, 6, 6, 6, 6, 7, 7, 7, 7, 7, 7, 7, 7, 7, 7, 7, 7, 7, 7, 7, 7, 7, 7, 7, 7, 7, 7, 7, 7, 7, 7, 7, 7, 7, 7, 7, 7, 7, 7, 7, 7, 7, 7, 7, 7, 7, 7, 7, 7, 7, 7, 7, 7, 7, 7, 7, 7, 7, 7, 7, 7, 7, 7, 7, 7, 7, 7, 7, 7, 8, 8, 8, 8, 8, 8, 8, 8, 8, 8, 8, 8, 8, 8, 8, 8, 8, 8, 8, 8, 8, 8, 8, 8, 8, 8, 8, 8, 8, 8, 8, 8, 8, 8, 8, 8, 8, 8, 8, 8, 8, 8, 8, 8, 8, 8, 8, 8, 8, 8, 8, 8, 8, 8, 8, 8, 8, 8, 8, 8, 8, 8, 8, 8, 8, 8, 8, 8, 8, 8, 8, 8, 8, 8, 8, 8, 8, 8, 8, 8, 8, 8, 8, 8, 8, 8, 8, 8, 8, 8, 8, 8, 8, 8, 8, 8, 8, 8, 8, 8, 8, 8, 8, 8, 8, 8, 8, 8, 8, 8, 8, 8, 8, 8, 8, 8, 8, 8, 8, 8, 8, 8, 8, 8, 8, 8, 8, 8]) : ByteArray)[((IntKind.wrap .u8 (ishr .u32 p0 16)) : Int).toNat]? = some b16 ∧ Q (.int .i64 (IntKind.wrap .i64 (16 + (IntKind.wrap .i64 (b16.toNat : Int))))) w))
    (br (decide ((p0 : Int) ≥ 256))
      ((0 : Int) ≤ 8 ∧
      (0 : Int) ≤ (IntKind.wrap .u8 (ishr .u32 p0 8)) ∧
      ∃ b16 : UInt8, ((ByteArray.mk #[0, 1, 2, 2, 3, 3, 3, 3, 4, 4, 4, 4, 4, 4, 4, 4, 5, 5, 5, 5, 5, 5, 5, 5, 5, 5, 5, 5, 5, 5, 5, 5, 6, 6, 6, 6, 6, 6, 6, 6, 6, 6, 6, 6, 6, 6, 6, 6, 6, 6, 6, 6, 6, 6, 6, 6, 6, 6, 6, 6, 6, 6, 6, 6, 7, 7, 7, 7, 7, 7, 7, 7, 7, 7, 7, 7, 7, 7, 7, 7, 7, 7, 7, 7, 7, 7, 7, 7, 7, 7, 7, 7, 7, 7, 7, 7, 7, 7, 7, 7, 7, 7, 7, 7, 7, 7, 7, 7, 7, 7, 7, 7, 7, 7, 7, 7, 7, 7, 7, 7, 7, 7, 7, 7, 7, 7, 7, 7, 8, 8, 8, 8, 8, 8, 8, 8, 8, 8, 8, 8, 8, 8, 8, 8, 8, 8, 8, 8, 8, 8, 8, 8, 8, 8, 8, 8, 8, 8, 8, 8, 8, 8, 8, 8, 8, 8, 8, 8, 8, 8, 8, 8, 8, 8, 8, 8, 8, 8, 8, 8, 8, 8, 8, 8, 8, 8, 8, 8, 8, 8, 8, 8, 8, 8, 8, 8, 8, 8, 8, 8, 8, 8, 8, 8, 8, 8, 8, 8, 8, 8, 8, 8, 8, 8, 8, 8, 8, 8, 8, 8, 8, 8, 8, 8, 8, 8, 8, 8, 8, 8, 8, 8, 8, 8, 8, 8, 8, 8, 8, 8, 8, 8, 8, 8, 8, 8, 8, 8, 8, 8, 8, 8, 8, 8, 8, 8]) : ByteArray)[((IntKind.wrap .u8 (ishr .u32 p0 8)) : Int).toNat]? = some b16 ∧ Q (.int .i64 (IntKind.wrap .i64 ((IntKind.wrap .i64 (0 + 8)) + (IntKind.wrap .i64 (b16.toNat : Int))))) w)
      ((0 : Int) ≤ (IntKind.wrap .u8 p0) ∧
      ∃ b16 : UInt8, ((ByteArray.mk #[0, 1, 2, 2, 3, 3, 3, 3, 4, 4, 4, 4, 4, 4, 4, 4, 5, 5, 5, 5, 5, 5, 5, 5, 5, 5, 5, 5, 5, 5, 5, 5, 6, 6, 6, 6, 6, 6, 6, 6, 6, 6, 6, 6, 6, 6, 6, 6, 6, 6, 6, 6, 6, 6, 6, 6, 6, 6, 6, 6, 6, 6, 6, 6, 7, 7, 7, 7, 7, 7, 7, 7, 7, 7, 7, 7, 7, 7, 7, 7, 7, 7, 7, 7, 7, 7, 7, 7, 7, 7, 7, 7, 7, 7, 7, 7, 7, 7, 7, 7, 7, 7, 7, 7, 7, 7, 7, 7, 7, 7, 7, 7, 7, 7, 7, 7, 7, 7, 7, 7, 7, 7, 7, 7, 7, 7, 7, 7, 8, 8, 8, 8, 8, 8, 8, 8, 8, 8, 8, 8, 8, 8, 8, 8, 8, 8, 8, 8, 8, 8, 8, 8, 8, 8, 8, 8, 8, 8, 8, 8, 8, 8, 8, 8, 8, 8, 8, 8, 8, 8, 8, 8, 8, 8, 8, 8, 8, 8, 8, 8, 8, 8, 8, 8, 8, 8, 8, 8, 8, 8, 8, 8, 8, 8, 8, 8, 8, 8, 8, 8, 8, 8, 8, 8, 8, 8, 8, 8, 8, 8, 8, 8, 8, 8, 8, 8, 8, 8, 8, 8, 8, 8, 8, 8, 8, 8, 8, 8, 8, 8, 8, 8, 8, 8, 8, 8, 8, 8, 8, 8, 8, 8, 8, 8, 8, 8, 8, 8, 8, 8, 8, 8, 8, 8, 8, 8]) : ByteArray)[((IntKind.wrap .u8 p0) : Int).toNat]? = some b16 ∧ Q (.int .i64 (IntKind.wrap .i64 (0 + (IntKind.wrap .i64 (b16.toNat : Int))))) w))
set_option maxRecDepth 100000 in
theorem math_bits_Len32_ok {p0 : Int} {w : World} {Q : Value → World → Prop} (h : math_bits_Len32 p0 w Q) : callP Tryz.prog 96 #[(.int .u32 p0)] w Q := by
  have e : math_bits_Len32 p0 w Q = denF Tryz.prog ⟨[], [], []⟩ Tryz.f96 [(.int .u32 p0)] w Q := by kernel_rfl
  exact denF_sound mixed Tryz.func96 (Eq.mp e h)

/-- math/bits.Len64 -/
def math_bits_Len64 (p0 : Int) (w : World) (Q : Value → World → Prop) : Prop :=
  br (decide ((p0 : Int) ≥ 4294967296))
    ((0 : Int) ≤ 32 ∧
    br (decide (((ishr .u64 p0 32) : Int) ≥ 65536))
      ((0 : Int) ≤ 16 ∧
      br (decide (((ishr .u64 (ishr .u64 p0 32) 16) : Int) ≥ 256))
        ((0 : Int) ≤ 8 ∧
        (0 : Int) ≤ (IntKind.wrap .u8 (ishr .u64 (ishr .u64 (ishr .u64 p0 32) 16) 8)) ∧
        ∃ b22 : UInt8, ((ByteArray.mk #[0, 1, 2, 2, 3, 3, 3, 3, 4, 4, 4, 4, 4, 4, 4, 4, 5, 5, 5, 5, 5, 5, 5, 5, 5, 5, 5, 5, 5, 5, 5, 5, 6, 6, 6, 6, 6, 6, 6, 6, 6, 6, 6, 6, 6, 6, 6, 6, 6, 6, 6, 6, 6, 6, 6, 6, 6, 6, 6, 6, 6, 6, 6, 6, 7, 7, 7, 7, 7, 7, 7, 7, 7, 7, 7, 7, 7, 7, 7, 7, 7, 7, 7, 7, 7, 7, 7, 7, 7, 7, 7, 7, 7, 7, 7, 7, 7, 7, 7, 7, 7, 7, 7, 7, 7, 7, 7, 7, 7, 7, 7, 7, 7, 7, 7, 7, 7, 7, 7, 7, 7, 7, 7, 7, 7, 7, 7, 7, 8, 8, 8, 8, 8, 8, 8, 8, 8, 8, 8, 8, 8, 8, 8, 8, 8, 8, 8, 8, 8, 8, 8, 8, 8, 8, 8, 8, 8, 8, 8, 8, 8, 8, 8, 8, 8, 8, 8, 8, 8, 8, 8, 8, 8, 8, 8, 8, 8, 8, 8, 8, 8, 8, 8, 8, 8, 8, 8, 8, 8, 8, 8, 8, 8, 8, 8, 8, 8, 8, 8, 8, 8, 8, 8, 8, 8, 8, 8, 8, 8, 8, 8, 8, 8, 8, 8, 8, 8, 8, 8, 8, 8, 8, 8, 8, 8, 8, 8, 8, 8, 8, 8, 8, 8, 8, 8, 8, 8, 8, 8, 8, 8, 8, 8, 8, 8, 8, 8, 8, 8, 8, 8, 8, 8, 8, 8, 8]) : ByteArray)[((IntKind.wrap .u8 (ishr .u64 (ishr .u64 (ishr .u64 p0 32) 16) 8)) : Int).toNat]? = some b22 ∧ Q (.int .i64 (IntKind.wrap .i64 ((IntKind.wrap .i64 ((IntKind.wrap .i64 (32 + 16)) + 8)) + (IntKind.wrap .i64 (b22.toNat : Int))))) w)
        ((0 : Int) ≤ (IntKind.wrap .u8 (ishr .u64 (ishr .u64 p0 32) 16)) ∧
        ∃ b22 : UInt8, ((ByteArray.mk #[0, 1, 2, 2, 3, 3, 3, 3, 4, 4, 4, 4, 4, 4, 4, 4, 5, 5, 5, 5, 5, 5, 5, 5, 5, 5, 5, 5, 5, 5, 5, 5, 6, 6, 6, 6, 6, 6, 6, 6, 6, 6, 6, 6, 6, 6, 6, 6, 6, 6, 6, 6, 6, 6, 6, 6, 6, 6, 6, 6, 6, 6, 6, 6, 7, 7, 7, 7, 7, 7, 7, 7, 7, 7, 7, 7, 7, 7, 7, 7, 7, 7, 7, 7, 7, 7, 7, 7, 7, 7, 7, 7, 7, 7, 7, 7, 7, 7, 7, 7, 7, 7, 7, 7, 7, 7, 7, 7, 7, 7, 7, 7, 7, 7, 7, 7, 7, 7, 7, 7, 7, 7, 7, 7, 7, 7, 7, 7, 8, 8, 8, 8, 8, 8, 8, 8, 8, 8, 8, 8, 8, 8, 8, 8, 8, 8, 8, 8, 8, 8, 8, 8, 8, 8, 8, 8, 8, 8, 8, 8, 8, 8, 8, 8, 8, 8, 8, 8, 8, 8, 8, 8, 8, 8, 8, 8, 8, 8, 8, 8, 8, 8, 8, 8, 8, 8, 8, 8, 8, 8, 8, 8, 8, 8, 8, 8, 8, 8, 8, 8, 8, 8, 8, 8, 8, 8, 8, 8, 8, 8, 8, 8, 8, 8, 8, 8, 8, 8, 8, 8, 8, 8, 8, 8, 8, 8, 8, 8, 8, 8, 8, 8, 8, 8, 8, 8, 8, 8, 8, 8, 8, 8, 8, 8, 8, 8, 8, 8, 8, 8, 8, 8, 8, 8, 8, 8]) : ByteArray)[((IntKind.wrap .u8 (ishr .u64 (ishr .u64 p0 32) 16)) : Int).toNat]? = some b22 ∧ Q (.int .i64 (IntKind.wrap .i64 ((IntKind.wrap .i64 (32 + 16)) + (IntKind.wrap .i64 (b22.toNat : Int))))) w))
      (br (decide (((ishr .u64 p0 32) : Int) ≥ 256))
        ((0 : Int) ≤ 8 ∧
        (0 : Int) ≤ (IntKind.wrap .u8 (ishr .u64 (ishr .u64 p0 32) 8)) ∧
        ∃ b22 : UInt8, ((ByteArray.mk #[0, 1, 2, 2, 3, 3, 3, 3, 4, 4, 4, 4, 4, 4, 4, 4, 5, 5, 5, 5, 5, 5, 5, 5, 5, 5, 5, 5, 5, 5, 5, 5, 6, 6, 6, 6, 6, 6, 6, 6, 6, 6, 6, 6, 6, 6, 6, 6, 6, 6, 6, 6, 6, 6, 6, 6, 6, 6, 6, 6, 6, 6, 6, 6, 7, 7, 7, 7, 7, 7, 7, 7, 7, 7, 7, 7, 7, 7, 7, 7, 7, 7, 7, 7, 7, 7, 7, 7, 7, 7, 7, 7, 7, 7, 7, 7, 7, 7, 7, 7, 7, 7, 7, 7, 7, 7, 7, 7, 7, 7, 7, 7, 7, 7, 7, 7, 7, 7, 7, 7, 7, 7, 7, 7, 7, 7, 7, 7, 8, 8, 8, 8, 8, 8, 8, 8, 8, 8, 8, 8, 8, 8, 8, 8, 8, 8, 8, 8, 8, 8, 8, 8, 8, 8, 8, 8, 8, 8, 8, 8, 8, 8, 8, 8, 8, 8, 8, 8, 8, 8, 8, 8, 8, 8, 8, 8, 8, 8, 8, 8, 8, 8, 8, 8, 8, 8, 8, 8, 8, 8, 8, 8, 8, 8, 8, 8, 8, 8, 8, 8, 8, 8, 8, 8, 8, 8, 8, 8, 8, 8, 8, 8, 8, 8, 8, 8, 8, 8, 8, 8, 8, 8, 8, 8, 8, 8, 8, 8, 8, 8, 8, 8, 8, 8, 8, 8, 8, 8, 8, 8, 8, 8, 8, 8, 8, 8, 8, 8, 8, 8, 8, 8, 8, 8, 8, 8]) : ByteArray)[((IntKind.wrap .u8 (ishr .u64 (ishr .u64 p0 32) 8)) : Int).toNat]? = some b22 ∧ Q (.int .i64 (IntKind.wrap .i64 ((IntKind.wrap .i64 (32 + 8)) + (IntKind.wrap .i64 (b22.toNat : Int))))) w)
        ((0 : Int) ≤ (IntKind.wrap .u8 (ishr .u64 p0 32)) ∧
        ∃ b22 : UInt8, ((ByteArray.mk #[0, 1, 2, 2, 3, 3, 3, 3, 4, 4, 4, 4, 4, 4, 4, 4, 5, 5, 5, 5, 5, 5, 5, 5, 5, 5, 5, 5, 5, 5, 5, 5, 6, 6, 6, 6, 6, 6, 6, 6, 6, 6, 6, 6, 6, 6, 6, 6, 6, 6, 6, 6, 6, 6, 6, 6, 6, 6, 6, 6, 6, 6, 6, 6, 7, 7, 7, 7, 7, 7, 7, 7, 7, 7, 7, 7, 7, 7, 7, 7, 7, 7, 7, 7, 7, 7, 7, 7, 7, 7, 7, 7, 7, 7, 7, 7, 7, 7, 7, 7, 7, 7, 7, 7, 7, 7, 7, 7, 7, 7, 7, 7, 7, 7, 7, 7, 7, 7, 7, 7, 7, 7, 7, 7, 7, 7, 7, 7, 8, 8, 8, 8, 8, 8, 8, 8, 8, 8, 8, 8, 8, 8, 8, 8, 8, 8, 8, 8, 8, 8, 8, 8, 8, 8, 8, 8, 8, 8, 8, 8, 8, 8, 8, 8, 8, 8, 8, 8, 8, 8, 8, 8, 8, 8, 8, 8, 8, 8, 8, 8, 8, 8, 8, 8, 8, 8, 8, 8, 8, 8, 8, 8, 8, 8, 8, 8, 8, 8, 8, 8, 8, 8, 8, 8, 8, 8, 8, 8, 8, 8, 8, 8, 8, 8, 8, 8, 8, 8, 8, 8, 8, 8, 8, 8, 8, 8, 8, 8, 8, 8, 8, 8, 8, 8, 8, 8, 8, 8, 8, 8, 8, 8, 8, 8, 8, 8, 8, 8, 8, 8, 8, 8, 8, 8, 8, 8]) : ByteArray)[((IntKind.wrap .u8 (ishr .u64 p0 32)) : Int).toNat]? = some b22 ∧ Q (.int .i64 (IntKind.wrap .i64 (32 + (IntKind.wrap .i64 (b22.toNat : Int))))) w)))
    (br (decide ((p0 : Int) ≥ 65536))
      ((0 : Int) ≤ 16 ∧
      br (decide (((ishr .u64 p0 16) : Int) ≥ 256))
        ((0 : Int) ≤ 8 ∧
        (0 : Int) ≤ (IntKind.wrap .u8 (ishr .u64 (ishr .u64 p0 16) 8)) ∧
        ∃ b22 : UInt8, ((ByteArray.mk #[0, 1, 2, 2, 3, 3, 3, 3, 4, 4, 4, 4, 4, 4, 4, 4, 5, 5, 5, 5, 5, 5, 5, 5, 5, 5, 5, 5, 5, 5, 5, 5, 6, 6, 6, 6, 6, 6, 6, 6, 6, 6, 6, 6, 6, 6, 6, 6, 6, 6, 6, 6, 6, 6, 6, 6, 6, 6, 6, 6, 6, 6, 6, 6, 7, 7, 7, 7, 7, 7, 7, 7, 7, 7, 7, 7, 7, 7, 7, 7, 7, 7, 7, 7, 7, 7, 7, 7, 7, 7, 7, 7, 7, 7, 7, 7, 7, 7, 7, 7, 7, 7, 7, 7, 7, 7, 7, 7, 7, 7, 7, 7, 7, 7, 7, 7, 7, 7, 7, 7, 7, 7, 7, 7, 7, 7, 7, 7, 8, 8, 8, 8, 8, 8, 8, 8, 8, 8, 8, 8, 8, 8, 8, 8, 8, 8, 8, 8, 8, 8, 8, 8, 8, 8, 8, 8, 8, 8, 8, 8, 8, 8, 8, 8, 8, 8, 8, 8, 8, 8, 8, 8, 8, 8, 8, 8, 8, 8, 8, 8, 8, 8, 8, 8, 8, 8, 8, 8, 8, 8, 8, 8, 8, 8, 8, 8, 8, 8, 8, 8, 8, 8, 8, 8, 8, 8, 8, 8, 8, 8, 8, 8, 8, 8, 8, 8, 8, 8, 8, 8, 8, 8, 8, 8, 8, 8, 8, 8, 8, 8, 8, 8, 8, 8, 8, 8, 8, 8, 8, 8, 8, 8, 8, 8, 8, 8, 8, 8, 8, 8, 8, 8, 8, 8, 8, 8]) : ByteArray)[((IntKind.wrap .u8 (ishr .u64 (ishr .u64 p0 16) 8)) : Int).toNat]? = some b22 ∧ Q (.int .i64 (IntKind.wrap .i64 ((IntKind.wrap .i64 ((IntKind.wrap .i64 (0 + 16)) + 8)) + (IntKind.wrap .i64 (b22.toNat : Int))))) w)
        ((0 : Int) ≤ (IntKind.wrap .u8 (ishr .u64 p0 16)) ∧
        ∃ b22 : UInt8, ((ByteArray.mk #[0, 1, 2, 2, 3, 3, 3, 3, 4, 4, 4, 4, 4, 4, 4, 4, 5, 5, 5, 5, 5, 5, 5, 5, 5, 5, 5, 5, 5, 5, 5, 5, 6, 6, 6, 6, 6, 6, 6, 6, 6, 6, 6, 6, 6, 6, 6, 6, 6, 6, 6, 6, 6, 6, 6, 6, 6, 6, 6, 6, 6, 6, 6, 6, 7, 7, 7, 7, 7, 7, 7, 7, 7, 7, 7, 7, 7, 7, 7, 7, 7, 7, 7, 7, 7, 7, 7, 7, 7, 7, 7, 7, 7, 7, 7, 7, 7, 7, 7, 7, 7, 7, 7, 7, 7, 7, 7, 7, 7, 7, 7, 7, 7, 7, 7, 7, 7, 7, 7, 7, 7, 7, 7, 7, 7, 7, 7, 7, 8, 8, 8, 8, 8, 8, 8, 8, 8, 8, 8, 8, 8, 8, 8, 8, 8, 8, 8, 8, 8, 8, 8, 8, 8, 8, 8, 8, 8, 8, 8, 8, 8, 8, 8, 8, 8, 8, 8, 8, 8, 8, 8, 8, 8, 8, 8, 8, 8, 8, 8, 8, 8, 8, 8, 8, 8, 8, 8, 8, 8, 8, 8, 8, 8, 8, 8, 8, 8, 8, 8, 8, 8, 8, 8, 8, 8, 8, 8, 8, 8, 8, 8, 8, 8, 8, 8, 8, 8, 8, 8, 8, 8, 8, 8, 8, 8, 8, 8, 8, 8, 8, 8, 8, 8, 8, 8, 8, 8, 8, 8, 8, 8, 8, 8, 8, 8, 8, 8, 8, 8, 8, 8, 8, 8, 8, 8, 8]) : ByteArray)[((IntKind.wrap .u8 (ishr .u64 p0 16)) : Int).toNat]? = some b22 ∧ Q (.int .i64 (IntKind.wrap .i64 ((IntKind.wrap .i64 (0 + 16)) + (IntKind.wrap .i64 (b22.toNat : Int))))) w))
      (br (decide ((p0 : Int) ≥ 256))
        ((0 : Int) ≤ 8 ∧
        (0 : Int) ≤ (IntKind.wrap .u8 (ishr .u64 p0 8)) ∧
        ∃ b22 : UInt8, ((ByteArray.mk #[0, 1, 2, 2, 3, 3, 3, 3, 4, 4, 4, 4, 4, 4, 4, 4, 5, 5, 5, 5, 5, 5, 5, 5, 5, 5, 5, 5, 5, 5, 5, 5, 6, 6, 6, 6, 6, 6, 6, 6, 6, 6, 6, 6, 6, 6, 6, 6, 6, 6, 6, 6, 6, 6, 6, 6, 6, 6, 6, 6, 6, 6, 6, 6, 7, 7, 7, 7, 7, 7, 7, 7, 7, 7, 7, 7, 7, 7, 7, 7, 7, 7, 7, 7, 7, 7, 7, 7, 7, 7, 7, 7, 7, 7, 7, 7, 7, 7, 7, 7, 7, 7, 7, 7, 7, 7, 7, 7, 7, 7, 7, 7, 7, 7, 7, 7, 7, 7, 7, 7, 7, 7, 7, 7, 7, 7, 7, 7, 8, 8, 8, 8, 8, 8, 8, 8, 8, 8, 8, 8, 8, 8, 8, 8, 8, 8, 8, 8, 8, 8, 8, 8, 8, 8, 8, 8, 8, 8, 8, 8, 8, 8, 8, 8, 8, 8, 8, 8, 8, 8, 8, 8, 8, 8, 8, 8, 8, 8, 8, 8, 8, 8, 8, 8, 8, 8, 8, 8, 8, 8, 8, 8, 8, 8, 8, 8, 8, 8, 8, 8, 8, 8, 8, 8, 8, 8, 8, 8, 8, 8, 8, 8, 8, 8, 8, 8, 8, 8, 8, 8, 8, 8, 8, 8, 8, 8, 8, 8, 8, 8, 8, 8, 8, 8, 8, 8, 8, 8, 8, 8, 8, 8, 8, 8, 8, 8, 8, 8, 8, 8, 8, 8, 8, 8, 8, 8]) : ByteArray)[((IntKind.wrap .u8 (ishr .u64 p0 8)) : Int).toNat]? = some b22 ∧ Q (.int .i64 (IntKind.wrap .i64 ((IntKind.wrap .i64 (0 + 8)) + (IntKind.wrap .i64 (b22.toNat : Int))))) w)
        ((0 : Int) ≤ (IntKind.wrap .u8 p0) ∧
        ∃ b22 : UInt8, ((ByteArray.mk #[0, 1, 2, 2, 3, 3, 3, 3, 4, 4, 4, 4, 4, 4, 4, 4, 5, 5, 5, 5, 5, 5, 5, 5, 5, 5, 5, 5, 5, 5, 5, 5, 6, 6, 6, 6, 6, 6, 6, 6, 6, 6, 6, 6, 6, 6, 6, 6, 6, 6, 6, 6, 6, 6, 6, 6, 6, 6, 6, 6, 6, 6, 6, 6, 7, 7, 7, 7, 7, 7, 7, 7, 7, 7, 7, 7, 7, 7, 7, 7, 7, 7, 7, 7, 7, 7, 7, 7, 7, 7, 7, 7, 7, 7, 7, 7, 7, 7, 7, 7, 7, 7, 7, 7, 7, 7, 7, 7, 7, 7, 7, 7, 7, 7, 7, 7, 7, 7, 7, 7, 7, 7, 7, 7, 7, 7, 7, 7, 8, 8, 8, 8, 8, 8, 8, 8, 8, 8, 8, 8, 8, 8, 8, 8, 8, 8, 8, 8, 8, 8, 8, 8, 8, 8, 8, 8, 8, 8, 8, 8, 8, 8, 8, 8, 8, 8, 8, 8, 8, 8, 8, 8, 8, 8, 8, 8, 8, 8, 8, 8, 8, 8, 8, 8, 8, 8, 8, 8, 8, 8, 8, 8, 8, 8, 8, 8, 8, 8, 8, 8, 8, 8, 8, 8, 8, 8, 8, 8, 8, 8, 8, 8, 8, 8, 8, 8, 8, 8, 8, 8, 8, 8, 8, 8, 8, 8, 8, 8, 8, 8, 8, 8, 8, 8, 8, 8, 8, 8, 8, 8, 8, 8, 8, 8, 8, 8, 8, 8, 8, 8, 8, 8, 8, 8, 8, 8]) : ByteArray)[((IntKind.wrap .u8 p0) : Int).toNat]? = some b22 ∧ Q (.int .i64 (IntKind.wrap .i64 (0 + (IntKind.wrap .i64 (b22.toNat : Int))))) w)))
set_option maxRecDepth 100000 in
theorem math_bits_Len64_ok {p0 : Int} {w : World} {Q : Value → World → Prop} (h : math_bits_Len64 p0 w Q) : callP Tryz.prog 97 #[(.int .u64 p0)] w Q := by
  have e : math_bits_Len64 p0 w Q = denF Tryz.prog ⟨[], [], []⟩ Tryz.f97 [(.int .u64 p0)] w Q := by kernel_rfl
  exact denF_sound mixed Tryz.func97 (Eq.mp e h)

end Go.Proofs.YtpcgkfgppfjnlaaGreatDoor.V
