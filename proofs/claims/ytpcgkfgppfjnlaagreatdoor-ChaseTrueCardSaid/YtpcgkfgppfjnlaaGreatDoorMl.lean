/-
  CONTRACTS: the reference's sha: right, step. | CONTRACTS: the reference's sha whole; its digests; a block's name. | THE PLAIN LAW OF ChaseTrue: if those who lie have less than a third, what is believed is the log's. | CONTRACTS: the reference's name of a block; cells of slices. | THE LAW ChaseTrue: nothing is believed but what somebody claims who does not lie, if those who lie have less than a third.
-/
import Derived.Test.YtpcgkfgppfjnlaaGreatDoorMk
namespace Go.Proofs.YtpcgkfgppfjnlaaGreatDoor.V
open Go Go.RowKit
variable {w w0 : World}

theorem wr_eq {p : Addr} {l l' : List Value} {K : World → Prop} (h : l = l') (hK : V.wr w p l' K) : V.wr w p l K := h ▸ hK
theorem right_spec (x : UInt32) {n : Nat} (h : 0 < n) (h2 : n < 32) : callP Tryz.prog 107 #[.int .u32 (u x), .int .i64 (n : Int)] w fun v w' => v = .int .u32 (u (rr x n)) ∧ Fr F0 w w' := by
  refine sortitionref06_right_ok ?_
  unfold sortitionref06_right
  have fd := (Fr.refl (S := F0) w).drw (w.drawn + 1)
  unfold dr
  refine ⟨by omega, by rw [w_i64 (by omega) (by omega)]; omega, ?_, fd⟩
  rw [w_i64 (by omega) (by omega), show (32 : Int) - n = ((32 - n : Nat) : Int) by omega, u_sr x n (by omega), u_sl x (32 - n) (by omega), rr_sum x h h2]
theorem rword4 (a b c d : UInt8) : IntKind.wrap .u32 ((IntKind.wrap .u32 ((IntKind.wrap .u32 ((IntKind.wrap .u32 ((IntKind.wrap .u32 (a.toNat : Int)) * 16777216)) + (IntKind.wrap .u32 ((IntKind.wrap .u32 (b.toNat : Int)) * 65536)))) +
    (IntKind.wrap .u32 ((IntKind.wrap .u32 (c.toNat : Int)) * 256)))) + (IntKind.wrap .u32 (d.toNat : Int))) = u (UInt32.ofNat (bval [a, b, c, d])) := by
  have h1 := u8_lt a
  have h2 := u8_lt b
  have h3 := u8_lt c
  have h4 := u8_lt d
  show _ = ((UInt32.ofNat (bval [a, b, c, d])).toNat : Int)
  rw [UInt32.toNat_ofNat_of_lt' (by simp only [bval, List.foldl]; show _ < 4294967296; omega)]
  simp only [bval, List.foldl, w_u32]
  omega
theorem u_div (x : UInt32) (n : Nat) (hn : n ≤ 32) {m : Int} (hm : m = ((2 ^ n : Nat) : Int)) : IntKind.wrap .u32 (Int.tdiv (u x) m) = u (sr x n) := by
  subst hm
  rw [← u_sr x n hn, ishr_pos n (by show (0 : Int) ≤ (x.toNat : Int); omega) (by exact hn)]
  have e : Int.tdiv (u x) ((2 ^ n : Nat) : Int) = u x / 2 ^ n := by
    rw [Int.tdiv_eq_ediv_of_nonneg (by show (0 : Int) ≤ (x.toNat : Int); omega)]
    simp
  rw [e]
  have h1 := u_lt x
  have h0 : (0 : Int) ≤ u x := by show (0 : Int) ≤ (x.toNat : Int); omega
  have h2 : u x / 2 ^ n ≤ u x := Int.ediv_le_self _ h0
  have h3 : 0 ≤ u x / 2 ^ n := Int.ediv_nonneg h0 (by exact_mod_cast Nat.zero_le _)
  rw [w_u32]; omega
abbrev stA (s : St) : Nat → Int := fun i => u (s.get i)
abbrev cuA : Nat → Int := fun i => u (cubes.getD i 0)

set_option maxRecDepth 8000 in
set_option maxHeartbeats 1000000 in
theorem step_spec {s : St} {p : Sl} {l : List UInt8} (hb : By w p l) (hl : l.length = 64) :
    callP Tryz.prog 80 #[arrV .u32 8 (stA s), p.v] w fun v w' => v = arrV .u32 8 (stA (compress s l)) ∧ Fr F0 w w' := by
  suffices H : ∀ Q : Value → World → Prop, (∀ w', Fr F0 w w' → Q (arrV .u32 8 (stA (compress s l))) w') → callP Tryz.prog 80 #[arrV .u32 8 (stA s), p.v] w Q from H _ fun w' f => ⟨rfl, f⟩
  intro Q hQ
  have hpl := hb.len
  refine sortitionref06_step_ok ?_
  unfold sortitionref06_step
  refine (Lo.start (S := F0) w).al fun b2 w1 _ m => m.al fun b4 w2 _ m => m.al fun b5 w3 _ m => ?_
  refine wr_eq (l' := cellsA .u32 cuA 0 64) (by kernel_rfl) ?_
  refine m.wrA 0 rfl fun w4 m => m.al fun b6 w5 _ m => ?_
  refine ⟨fun x7 w' => ∃ (d : Nat → Int) (i : Nat), Lo F0 w w' [(b6, .cs (cellsA .u32 d 0 64)), (b5, .cs (cellsA .u32 cuA 0 64)), (b4, .cs (cellsA .u32 (fun _ => 0) 0 8)), (b2, .cs (cellsA .u32 (stA s) 0 8))] ∧ x7 = i ∧ i ≤ 16 ∧ (∀ j, j < i → d j = u ((sched l i).getD j 0)),
    fun x7 _ => (16 - x7).toNat, ⟨_, 0, m, rfl, by omega, fun _ h => by omega⟩, ?_⟩
  rintro x7 w6 K ⟨d, i, m, rfl, h2, h3⟩ hK
  refine br_lt (fun h => ?_) fun h => ?_
  · refine m.dr fun w' m => ?_
    have hby : By w' p l := hb.fr0 m.fr
    simp (disch := omega) only [w_i64]
    refine ⟨by omega, hby.rd (by omega) (by omega) fun a ha => ⟨by omega, hby.rd (by omega) (by omega) fun b hb' => ⟨by omega, hby.rd (by omega) (by omega) fun c hc => ⟨by omega, hby.rd (by omega) (by omega) fun e he => ⟨by omega, ?_⟩⟩⟩⟩⟩
    rw [rword4]
    simp only [add_lit, Nat.mul_one, Nat.zero_add, Int.toNat_natCast]
    refine m.wra 0 rfl (by omega) fun w' m => hK _ _ ⟨_, i + 1, m, by omega, by omega, fun j hj => ?_⟩ (by dsimp only; omega)
    rcases Nat.lt_or_ge j i with q | q
    · rw [upd_ne _ _ _ _ (by omega), h3 j q, sched_get l (n := i) (m := i + 1) q (by omega)]
    · obtain rfl : j = i := by omega
      rw [show (4 * (j : Int)).toNat = 4 * j by omega] at ha
      rw [show (4 * (j : Int) + 1).toNat = 4 * j + 1 by omega] at hb'
      rw [show (4 * (j : Int) + 2).toNat = 4 * j + 2 by omega] at hc
      rw [show (4 * (j : Int) + 3).toNat = 4 * j + 3 by omega] at he
      rw [upd_at, sched_last, if_pos (by omega), word_eq ha hb' hc he]
  obtain rfl : i = 16 := by omega
  refine ⟨fun x8 w' => ∃ (d : Nat → Int) (i : Nat), Lo F0 w w' [(b6, .cs (cellsA .u32 d 0 64)), (b5, .cs (cellsA .u32 cuA 0 64)), (b4, .cs (cellsA .u32 (fun _ => 0) 0 8)), (b2, .cs (cellsA .u32 (stA s) 0 8))] ∧ x8 = i ∧ 16 ≤ i ∧ i ≤ 64 ∧ (∀ j, j < i → d j = u ((sched l i).getD j 0)),
    fun x8 _ => (64 - x8).toNat, ⟨d, 16, m, rfl, by omega, by omega, h3⟩, ?_⟩
  clear m h3
  rintro x8 w7 K1 ⟨d, i, m, rfl, h16, h2, h3⟩ hK1
  refine br_lt (fun h => ?_) fun h => ?_
  · have t0 : ((i : Int) - 16).toNat = i - 16 := by omega
    have t1 : ((i : Int) - 7).toNat = i - 7 := by omega
    have t2 : ((i : Int) - 15).toNat = i - 15 := by omega
    have t3 : ((i : Int) - 2).toNat = i - 2 := by omega
    simp (disch := omega) only [w_i64, add_lit, Nat.mul_one, Nat.zero_add, Int.toNat_natCast, t0, t1, t2, t3]
    have g0 := h3 (i - 16) (by omega)
    have g1 := h3 (i - 7) (by omega)
    have g2 := h3 (i - 15) (by omega)
    have g3 := h3 (i - 2) (by omega)
    have a0 : (cellsA .u32 d 0 64)[i - 16]? = some (.int .u32 (u ((sched l i).getD (i - 16) 0))) := by rw [cellsA_at (by omega), g0]
    have a1 : (cellsA .u32 d 0 64)[i - 7]? = some (.int .u32 (u ((sched l i).getD (i - 7) 0))) := by rw [cellsA_at (by omega), g1]
    refine ⟨by omega, m.rda 0 rfl (by omega) ⟨by omega, m.rda 0 rfl (by omega) (m.dr fun w' m => ⟨by omega, m.rda 0 rfl (by omega) ⟨by decide, by omega, m.rda 0 rfl (by omega) ⟨by decide, ?_⟩⟩⟩)⟩⟩
    rw [g0, g1, g2, g3]
    refine callP_of (right_spec _ (n := 7) (by decide) (by decide)) ?_
    rintro v w8 ⟨rfl, f1⟩
    have m := m.keep f1
    refine ⟨_, rfl, atC_own (m.at 0 rfl) a1, atC_own (m.at 0 rfl) a0, ?_⟩
    refine callP_of (right_spec _ (n := 18) (by decide) (by decide)) ?_
    rintro v w9 ⟨rfl, f2⟩
    have m := m.keep f2
    refine ⟨_, rfl, atC_own (m.at 0 rfl) a1, atC_own (m.at 0 rfl) a0, ?_⟩
    refine callP_of (right_spec _ (n := 17) (by decide) (by decide)) ?_
    rintro v w10 ⟨rfl, f3⟩
    have m := m.keep f3
    refine ⟨_, rfl, atC_own (m.at 0 rfl) a1, atC_own (m.at 0 rfl) a0, ?_⟩
    refine callP_of (right_spec _ (n := 19) (by decide) (by decide)) ?_
    rintro v w11 ⟨rfl, f4⟩
    have m := m.keep f4
    refine ⟨_, rfl, atC_own (m.at 0 rfl) a1, atC_own (m.at 0 rfl) a0, by omega, ?_⟩
    rw [u_div _ 3 (by decide) (m := 8) rfl, u_div _ 10 (by decide) (m := 1024) rfl]
    simp only [u_add, u_xor]
    refine m.wra 0 rfl (by omega) fun w' m => hK1 _ _ ⟨_, i + 1, m, by omega, by omega, by omega, fun j hj => ?_⟩ (by dsimp only; omega)
    rcases Nat.lt_or_ge j i with q | q
    · rw [upd_ne _ _ _ _ (by omega), h3 j q, sched_get l (n := i) (m := i + 1) q (by omega)]
    · obtain rfl : j = i := by omega
      rw [upd_at, next_eq (by omega)]
      congr 1
      show _ + (rr _ 7 ^^^ rr _ 18 ^^^ sr _ 3) + _ + (rr _ 17 ^^^ rr _ 19 ^^^ sr _ 10) = _ + _ + sm0 _ + sm1 _
      unfold sm0 sm1
      ac_rfl
  obtain rfl : i = 64 := by omega
  refine m.rdA 3 rfl (m.al fun b11 w8 _ m => m.wrA 0 rfl fun w9 m => ?_)
  refine ⟨fun x12 w' => ∃ (i : Nat), Lo F0 w w' [(b11, .cs (cellsA .u32 (stA (rounds s (sched l 64) i)) 0 8)), (b6, .cs (cellsA .u32 d 0 64)), (b5, .cs (cellsA .u32 cuA 0 64)), (b4, .cs (cellsA .u32 (fun _ => 0) 0 8)), (b2, .cs (cellsA .u32 (stA s) 0 8))] ∧ x12 = i ∧ i ≤ 64,
    fun x12 _ => (64 - x12).toNat, ⟨0, m, rfl, by omega⟩, ?_⟩
  clear m
  rintro x12 w10 K2 ⟨i, m, rfl, i2⟩ hK2
  refine br_lt (fun h => ?_) fun h => ?_
  · generalize ht : rounds s (sched l 64) i = t at *
    simp only [add_lit, Nat.mul_one, Nat.zero_add, Int.toNat_natCast, show (0 : Int).toNat = 0 from rfl, show (1 : Int).toNat = 1 from rfl, show (2 : Int).toNat = 2 from rfl, show (3 : Int).toNat = 3 from rfl, show (4 : Int).toNat = 4 from rfl, show (5 : Int).toNat = 5 from rfl, show (6 : Int).toNat = 6 from rfl, show (7 : Int).toNat = 7 from rfl]
    refine ⟨by decide, m.rda 0 rfl (by decide) ⟨by decide, m.rda 0 rfl (by decide) ⟨by decide, m.rda 0 rfl (by decide) ⟨by decide, m.rda 0 rfl (by decide) ⟨by decide, m.rda 0 rfl (by decide) ⟨by decide, m.rda 0 rfl (by decide)
      ⟨by decide, m.rda 0 rfl (by decide) ⟨by decide, m.rda 0 rfl (by decide) ?_⟩⟩⟩⟩⟩⟩⟩⟩
    refine m.dr fun w' m => ⟨by decide, m.rda 0 rfl (by decide) ⟨by omega, m.rda 2 rfl (by omega) ⟨by omega, m.rda 1 rfl (by omega) ?_⟩⟩⟩
    rw [h3 i (by omega)]
    have a7 : (cellsA .u32 (stA t) 0 8)[7]? = some (.int .u32 (stA t 7)) := cellsA_at (by decide)
    have ak : (cellsA .u32 cuA 0 64)[i]? = some (.int .u32 (cuA i)) := cellsA_at (by omega)
    have aw : (cellsA .u32 d 0 64)[i]? = some (.int .u32 (u ((sched l 64).getD i 0))) := by rw [cellsA_at (by omega), h3 i (by omega)]
    refine callP_of (right_spec (t.get 4) (n := 6) (by decide) (by decide)) ?_
    rintro v w11 ⟨rfl, f1⟩
    have m := m.keep f1
    refine ⟨_, rfl, atC_own (m.at 1 rfl) aw, atC_own (m.at 2 rfl) ak, atC_own (m.at 0 rfl) a7, ?_⟩
    refine callP_of (right_spec (t.get 4) (n := 11) (by decide) (by decide)) ?_
    rintro v w12 ⟨rfl, f2⟩
    have m := m.keep f2
    refine ⟨_, rfl, atC_own (m.at 1 rfl) aw, atC_own (m.at 2 rfl) ak, atC_own (m.at 0 rfl) a7, ?_⟩
    refine callP_of (right_spec (t.get 4) (n := 25) (by decide) (by decide)) ?_
    rintro v w13 ⟨rfl, f3⟩
    have m := m.keep f3
    refine ⟨_, rfl, atC_own (m.at 1 rfl) aw, atC_own (m.at 2 rfl) ak, atC_own (m.at 0 rfl) a7, ?_⟩
    refine callP_of (right_spec (t.get 0) (n := 2) (by decide) (by decide)) ?_
    rintro v w14 ⟨rfl, f4⟩
    have m := m.keep f4
    refine ⟨_, rfl, ?_⟩
    refine callP_of (right_spec (t.get 0) (n := 13) (by decide) (by decide)) ?_
    rintro v w15 ⟨rfl, f5⟩
    have m := m.keep f5
    refine ⟨_, rfl, ?_⟩
    refine callP_of (right_spec (t.get 0) (n := 22) (by decide) (by decide)) ?_
    rintro v w16 ⟨rfl, f6⟩
    have m := m.keep f6
    refine ⟨_, rfl, by decide, m.rda 0 rfl (by decide) ⟨by decide, m.rda 0 rfl (by decide) ⟨by decide, m.rda 0 rfl (by decide) ⟨by decide, m.rda 0 rfl (by decide) ⟨by decide, m.rda 0 rfl (by decide) ⟨by decide, m.rda 0 rfl (by decide) ⟨by decide, m.rda 0 rfl (by decide) ?_⟩⟩⟩⟩⟩⟩⟩
    simp only [stA, cuA, u_add, u_xor, u_and, u_or, u_not, ch2, maj2]
    refine wr_eq (l' := cellsA .u32 (stA (rounds s (sched l 64) (i + 1))) 0 8) ?_ (m.wrA 0 rfl fun w' m => ?_)
    · rw [rounds, ht]; rfl
    · rw [w_i64 (by omega) (by omega)]
      exact hK2 _ _ ⟨i + 1, m, by omega, by omega⟩ (by dsimp only; omega)
  obtain rfl : i = 64 := by omega
  generalize ht : rounds s (sched l 64) 64 = t at *
  refine ⟨fun x19 w' => ∃ (d' : Nat → Int) (i : Nat), Lo F0 w w' [(b11, .cs (cellsA .u32 d' 0 8)), (b6, .cs (cellsA .u32 d 0 64)), (b5, .cs (cellsA .u32 cuA 0 64)), (b4, .cs (cellsA .u32 (fun _ => 0) 0 8)), (b2, .cs (cellsA .u32 (stA s) 0 8))] ∧ x19 = i ∧ i ≤ 8 ∧
      (∀ j, j < i → d' j = u ((plus s t).get j)) ∧ ∀ j, i ≤ j → d' j = u (t.get j), fun x19 _ => (8 - x19).toNat, ⟨stA t, 0, m, rfl, by omega, fun _ h => by omega, fun _ _ => rfl⟩, ?_⟩
  clear m
  rintro x19 w11 K3 ⟨d', i, m, rfl, i2, i3, i4⟩ hK3
  refine br_lt (fun h => ?_) fun h => ?_
  · simp only [add_lit, Nat.mul_one, Nat.zero_add, Int.toNat_natCast]
    refine m.dr fun w' m => ⟨by omega, m.rda 0 rfl (by omega) ⟨by omega, m.rda 4 rfl (by omega) ⟨by omega, m.wra 0 rfl (by omega) fun w' m => ?_⟩⟩⟩
    rw [w_i64 (by omega) (by omega)]
    refine hK3 _ _ ⟨_, i + 1, m, by omega, by omega, fun j hj => ?_, fun j hj => ?_⟩ (by dsimp only; omega)
    · rcases Nat.lt_or_ge j i with q | q
      · rw [upd_ne _ _ _ _ (by omega)]; exact i3 j q
      · obtain rfl : j = i := by omega
        have hi : j < 8 := by omega
        rw [upd_at, i4 j (Nat.le_refl _), u_add]
        congr 1
        rw [UInt32.add_comm]
        match j, hi with
        | 0, _ => rfl | 1, _ => rfl | 2, _ => rfl | 3, _ => rfl | 4, _ => rfl | 5, _ => rfl | 6, _ => rfl | 7, _ => rfl
    · rw [upd_ne _ _ _ _ (by omega)]; exact i4 j (by omega)
  · refine m.rdA 0 rfl (m.wrA 3 rfl fun w' m => m.rdA 3 rfl ?_)
    have e : arrV .u32 8 d' = arrV .u32 8 (stA (compress s l)) := arrV_ext fun j hj => by
      rw [i3 j (by omega), compress, ht]
    rw [e]
    exact hQ _ m.fr
end Go.Proofs.YtpcgkfgppfjnlaaGreatDoor.V
namespace Go.Proofs.YtpcgkfgppfjnlaaGreatDoor.V
open Go Go.RowKit
variable {w w0 : World}

set_option maxRecDepth 8000 in
/-- one byte more -/
theorem GY.put {s : Sl} {l : List UInt8} {x : UInt8} {v : Value} {K : Sl → World → Prop} (h : GY w0 w s l) (hn : l.length < 1099511627776) (hv : v = .int .u8 (x.toNat : Int)) (hK : ∀ s' w', GY w0 w' s' (l ++ [x]) → K s' w') :
    al w (.cells #[v] 5) fun b w2 => appP Tryz.prog 5 w2 s (.slice (some ⟨b, 0, none⟩) 1 1) K := by
  subst hv
  refine al_cells (cs := bv [x]) fun b w2 hb f _ o => ?_
  exact GY.app (t := ⟨some ⟨b, 0, none⟩, 1, 1⟩) (h.keep f) o.by (by rw [List.length_singleton]; omega) fun s' w' g _ _ => hK s' w' g
set_option maxRecDepth 8000 in
/-- a string more -/
theorem GY.str {s : Sl} {l : List UInt8} {t : ByteArray} {K : Sl → World → Prop} (h : GY w0 w s l) (hn : l.length + t.size ≤ 1099511627776) (hK : ∀ s' w', GY w0 w' s' (l ++ t.data.toList) → K s' w') :
    appP Tryz.prog 5 w s (.string t) K := by
  have h1 := h.len
  obtain ⟨cs, m, g⟩ := h.ex
  refine Lo.app (L := []) (M := []) (s := s) (cs := cs) (us := bv t.data.toList) (by simpa using m) g sizeT_u8 bytes_u8 zeroT_u8 rfl (by decide) (by decide) ⟨Nat.le_refl _, ?_⟩ (by rw [bv_len]; simp only [lenV]; simp) (bv_scal _) (by simp only [lenV]; omega) (by decide) ?_
  · have e : t.extract 0 (lenV (.string t)) = t := by
      apply ByteArray.ext
      simp [lenV]
    rw [e]; rfl
  · intro s' cs' w5 m5 g5 hl5 f5 hin5
    exact hK s' w5 ⟨cs', by simpa using m5, by rw [bv_app]; exact g5⟩
theorem eight_byte {N i : Nat} (hi : i < 8) : IntKind.wrap .u8 (ishr .u64 (N : Int) (56 - 8 * (i : Int))) = ((UInt8.ofNat (N / 256 ^ (7 - i))).toNat : Int) := by
  have e : (56 : Int) - 8 * (i : Int) = ((8 * (7 - i) : Nat) : Int) := by omega
  rw [e, ishr_pos (8 * (7 - i)) (by omega) (by show 8 * (7 - i) ≤ 64; omega), ← u8_wrap]
  congr 1
  rw [show (256 : Nat) = 2 ^ 8 from rfl, ← Nat.pow_mul]
  simp
theorem be8_take {N i : Nat} (hi : i < 8) : (be 8 N).take (i + 1) = (be 8 N).take i ++ [UInt8.ofNat (N / 256 ^ (7 - i))] := take_snoc (be_get hi)

set_option maxRecDepth 8000 in
theorem Eight_spec {n : Nat} : callP Tryz.prog 81 #[.int .u64 (n : Int)] w fun v w' => ∃ s : Sl, v = s.v ∧ GY w w' s (be 8 n) := by
  suffices H : ∀ Q : Value → World → Prop, (∀ s w', GY w w' s (be 8 n) → Q s.v w') → callP Tryz.prog 81 #[.int .u64 (n : Int)] w Q from H _ fun s w' h => ⟨s, rfl, h⟩
  intro Q hQ
  refine sortitionref07_Eight_ok ?_
  unfold sortitionref07_Eight
  refine ⟨fun s x w' => ∃ i : Nat, x = i ∧ i ≤ 8 ∧ GY w w' s ((be 8 n).take i), fun _ x _ => (8 - x).toNat, ⟨0, rfl, by omega, by simpa using GY.nil (f := .refl w)⟩, ?_⟩
  rintro s x w1 K ⟨i, rfl, hi, g⟩ hK
  refine br_lt (fun hlt => ?_) fun _ => ?_
  · simp (disch := omega) only [w_i64]
    refine ⟨by omega, g.put (by rw [List.length_take, be_len]; omega) (x := UInt8.ofNat (n / 256 ^ (7 - i))) (by rw [eight_byte (by omega)]) fun s' w' g' => ?_⟩
    exact hK _ _ _ ⟨i + 1, by omega, by omega, by rw [be8_take (by omega)]; exact g'⟩ (by dsimp only; omega)
  · obtain rfl : i = 8 := by omega
    rw [List.take_of_length_le (by rw [be_len]; omega)] at g
    exact hQ _ _ g

set_option maxRecDepth 8000 in
theorem Input_spec {t : ByteArray} {s : Sl} {M : List (Sl × List UInt8)} (hm : Bs w s M) (ht : t.size < 1000000) (hM : M.length < 1000) (hl : ∀ p ∈ M, p.2.length < 1000000) :
    callP Tryz.prog 58 #[.string t, s.v] w fun v w' => ∃ r : Sl, v = r.v ∧ GY w w' r (tagIn t.data.toList (M.map (·.2))) := by
  suffices H : ∀ Q : Value → World → Prop, (∀ r w', GY w w' r (tagIn t.data.toList (M.map (·.2))) → Q r.v w') → callP Tryz.prog 58 #[.string t, s.v] w Q from H _ fun s w' h => ⟨s, rfl, h⟩
  intro Q hQ
  have e1 := hm.len
  have htl : t.data.toList.length = t.size := by simp
  have hlen : ∀ i, i ≤ M.length → (tagIn t.data.toList ((M.map (·.2)).take i)).length ≤ 1000008 + i * 1000008 := by
    intro i
    induction i with
    | zero => intro _; simp only [tagIn, List.take_zero, List.map_nil, List.flatten_nil, List.append_nil, List.length_append, be_len]; omega
    | succ i ih =>
      intro hi
      have hx : (M.map (·.2))[i]? = some (M[i]'(by omega)).2 := by rw [List.getElem?_map, List.getElem?_eq_getElem (by omega)]; rfl
      have := hl _ (List.getElem_mem (show i < M.length by omega))
      rw [take_snoc hx, tagIn_snoc, List.length_append, List.length_append, be_len]
      have := ih (by omega)
      omega
  refine sortitionref07_Input_ok ?_
  unfold sortitionref07_Input
  rw [show IntKind.wrap .u64 ((t.size : Nat) : Int) = ((t.size : Nat) : Int) by rw [w_u64]; omega]
  refine callP_of Eight_spec ?_
  rintro v w1 ⟨r, rfl, g⟩
  refine ⟨r, rfl, ?_⟩
  refine GY.str g (by rw [be_len]; omega) fun s2 w2 g2 => ?_
  refine ⟨fun r x w' => ∃ i : Nat, x = i ∧ i ≤ M.length ∧ GY w w' r (tagIn t.data.toList ((M.map (·.2)).take i)), fun _ x _ => (M.length - x).toNat, ⟨0, rfl, by omega, by simpa [tagIn] using g2⟩, ?_⟩
  rintro s3 x w3 K ⟨i, rfl, hi, g3⟩ hK
  refine br_lt (fun hlt => ?_) fun _ => ?_
  · have f3 := g3.fr
    refine ⟨⟨by omega, by omega⟩, (hm.fr0 f3).rd (by omega) (by omega) fun y l hy hby => ?_⟩
    have hly := hl _ (List.mem_of_getElem? hy)
    simp only at hly
    have hyl := By.len hby
    rw [Int.toNat_natCast] at hy
    rw [show IntKind.wrap .u64 ((y.len : Nat) : Int) = ((l.length : Nat) : Int) by rw [hyl, w_u64]; omega]
    refine callP_of Eight_spec ?_
    rintro v w4 ⟨r4, rfl, g4⟩
    have hln := hlen i (by omega)
    refine ⟨r4, rfl, GY.app (t := r4) (g3.keep g4.fr) g4.by (by rw [be_len]; omega) fun s5 w5 g5 _ _ => ?_⟩
    refine ⟨⟨by omega, by omega⟩, (hm.fr0 g5.fr).rd (by omega) (by omega) fun y' l' hy' hby' => ?_⟩
    rw [Int.toNat_natCast, hy] at hy'
    obtain ⟨rfl, rfl⟩ : y = y' ∧ l = l' := by simpa using hy'
    refine GY.app (t := y) g5 hby' (by rw [List.length_append, be_len]; omega) fun s6 w6 g6 _ _ => ?_
    rw [w_i64 (by omega) (by omega)]
    have hx : (M.map (·.2))[i]? = some l := by rw [List.getElem?_map, hy]; rfl
    exact hK _ _ _ ⟨i + 1, by omega, by omega, by rw [take_snoc hx, tagIn_snoc]; exact g6⟩ (by dsimp only; omega)
  · obtain rfl : i = M.length := by omega
    rw [List.take_of_length_le (by simp)] at g3
    exact hQ _ _ g3

/-- what is padded, up to some zeros -/
theorem pad_eq (l : List UInt8) : pad l = (l ++ [128] ++ List.replicate ((119 - l.length % 64) % 64) 0) ++ be 8 (8 * l.length) := by simp [pad]

set_option maxRecDepth 8000 in
set_option maxHeartbeats 1000000 in
theorem Of_spec {s : Sl} {l : List UInt8} (hb : By w s l) (hl : l.length < 1000000000) :
    callP Tryz.prog 57 #[s.v] w fun v w' => v = arrV .u8 32 (dg (shaOf l)) ∧ Fr F0 w w' := by
  suffices H : ∀ Q : Value → World → Prop, (∀ w', Fr F0 w w' → Q (arrV .u8 32 (dg (shaOf l))) w') → callP Tryz.prog 57 #[s.v] w Q from H _ fun w' f => ⟨rfl, f⟩
  intro Q hQ
  have hsl := hb.len
  refine sortitionref06_Of_ok ?_
  unfold sortitionref06_Of
  refine al_cells fun b2 w1 hb2 f1 _ o2 => ?_
  refine al_cells (cs := bv []) fun b10 w2 hb10 f2 _ o10 => ?_
  have g2 : GY w1 w2 ⟨some ⟨b10, 0, none⟩, 0, 0⟩ [] := GY.new (l := []) f2 (by omega) o10
  have hb' : By w2 s l := (hb.fr0 f1).fr0 f2
  refine GY.app (t := s) g2 hb' (by simp; omega) fun s3 w3 g3 _ _ => ?_
  refine g3.put (x := 128) (by simp; omega) rfl fun s4 w4 g4 => ?_
  rw [List.nil_append] at g4
  refine ⟨fun x w' => ∃ k : Nat, k ≤ (119 - l.length % 64) % 64 ∧ GY w1 w' x (l ++ [128] ++ List.replicate k 0), fun x _ => 1 + (119 - l.length % 64) % 64 + l.length - x.len, ⟨0, by omega, by simpa using g4⟩, ?_⟩
  rintro s5 w5 K ⟨k, hk, g5⟩ hK
  have h5 : s5.len = l.length + 1 + k := by have := g5.len; simp at this; omega
  refine ⟨by decide, ?_⟩
  rw [Int.tmod_eq_emod_of_nonneg (by omega)]
  refine br_ne (fun hne => ?_) fun heq => ?_
  · have hk2 : k < (119 - l.length % 64) % 64 := by omega
    refine g5.put (x := 0) (by simp; omega) rfl fun s6 w6 g6 => ?_
    have h6 : s6.len = l.length + 1 + k + 1 := by have := g6.len; simp at this; omega
    refine hK _ _ ⟨k + 1, hk2, ?_⟩ (by dsimp only; omega)
    rw [List.replicate_succ', ← List.append_assoc]
    exact g6
  have hk2 : k = (119 - l.length % 64) % 64 := by omega
  have hpre : ∀ i, (l ++ [128] ++ List.replicate k 0 ++ (be 8 (8 * l.length)).take i).length ≤ l.length + 100 := by
    intro i; simp only [List.length_append, List.length_singleton, List.length_replicate, List.length_take, be_len]; omega
  refine ⟨fun s x w' => ∃ i : Nat, x = i ∧ i ≤ 8 ∧ GY w1 w' s (l ++ [128] ++ List.replicate k 0 ++ (be 8 (8 * l.length)).take i), fun _ x _ => (8 - x).toNat, ⟨0, rfl, by omega, by simpa using g5⟩, ?_⟩
  clear g2 g3 g4 g5 hb'
  rintro s6 x w6 K1 ⟨i, rfl, hi, g6⟩ hK1
  refine br_lt (fun hlt => ?_) fun _ => ?_
  · simp (disch := omega) only [w_i64]
    rw [show IntKind.wrap .u64 ((IntKind.wrap .u64 ((s.len : Nat) : Int)) * 8) = ((8 * l.length : Nat) : Int) by rw [w_u64, w_u64]; omega]
    refine ⟨by omega, g6.put (by have := hpre i; omega) (x := UInt8.ofNat (8 * l.length / 256 ^ (7 - i))) (by rw [eight_byte (by omega)]) fun s' w' g' => ?_⟩
    exact hK1 _ _ _ ⟨i + 1, by omega, by omega, by rw [be8_take (by omega), ← List.append_assoc]; exact g'⟩ (by dsimp only; omega)
  obtain rfl : i = 8 := by omega
  rw [List.take_of_length_le (by rw [be_len]; omega), hk2, ← pad_eq] at g6
  have hp := pad_len l
  have hpl : (pad l).length ≤ l.length + 100 := by rw [pad_eq, ← hk2]; have := hpre 8; rwa [List.take_of_length_le (by rw [be_len]; omega)] at this
  generalize hP : pad l = P at *
  have y6 := g6.by
  have f6 := g6.fr
  have h6 := g6.len
  have fresh6 := g6.fresh
  have m : Lo (· = b2) w6 w6 [(b2, .cs (cellsA .u8 (fun _ => 0) 0 32))] := .start1 rfl (o2.fr f6 id)
  have hout : ¬ s6.in (· = b2) := fresh6.out fun c e => by subst e; have := o2.lt; exact this
  refine m.al fun b6 w7 _ m => ?_
  refine wr_eq (l' := cellsA .u32 (stA (hst P 0)) 0 8) rfl (m.wrA 0 rfl fun w8 m => ?_)
  refine ⟨fun x w' => ∃ i : Nat, x = ((64 * i : Nat) : Int) ∧ 64 * i ≤ P.length ∧ Lo (· = b2) w6 w' [(b6, .cs (cellsA .u32 (stA (hst P i)) 0 8)), (b2, .cs (cellsA .u8 (fun _ => 0) 0 32))], fun x _ => (P.length - x).toNat, ⟨0, rfl, by omega, m⟩, ?_⟩
  clear m
  rintro x w9 K2 ⟨i, rfl, hi64, m⟩ hK2
  refine br_lt (fun hlt => ?_) fun hge => ?_
  · refine m.dr fun w10 m => m.rdA 0 rfl ?_
    have y10 : By w10 s6 P := y6.fr m.fr hout
    have hcap := y10.2.1
    rw [w_i64 (by omega) (by omega), show (((64 * i : Nat) : Int) + 64).toNat = 64 * i + 64 by omega, Int.toNat_natCast]
    refine ⟨⟨by omega, by omega⟩, ⟨by omega, by omega⟩, ?_⟩
    have yc := y10.cut (i := 64 * i) (e := 64 * i + 64) (by omega) (by omega)
    refine callP_of (step_spec (s := hst P i) (p := ⟨cutAt s6.p s6.cap (64 * i) 1, 64 * i + 64 - 64 * i, s6.cap - 64 * i⟩) yc (by rw [List.length_take, List.length_drop]; omega)) ?_
    rintro v w11 ⟨rfl, f11⟩
    refine ⟨_, rfl, (m.keep f11).wrA 0 rfl fun w12 m => ?_⟩
    refine hK2 _ _ ⟨i + 1, by omega, by omega, ?_⟩ (by dsimp only; omega)
    rw [hst]
    rw [show 64 * i + 64 - 64 * i = 64 by omega] at m
    exact m
  have hi : i = P.length / 64 := by omega
  subst hi
  have hsh : shaOf l = outB (hst P (P.length / 64)) := by unfold shaOf; rw [hP]
  generalize hst P (P.length / 64) = t at *
  refine m.al fun b8 w10 _ m => m.wrA 0 rfl fun w11 m => ?_
  refine ⟨fun x w' => ∃ (d : Nat → Int) (i : Nat), x = i ∧ i ≤ 32 ∧ (∀ j, j < i → d j = dg (outB t) j) ∧ Lo (· = b2) w6 w' [(b8, .cs (cellsA .u8 d 0 32)), (b6, .cs (cellsA .u32 (stA t) 0 8)), (b2, .cs (cellsA .u8 (fun _ => 0) 0 32))], fun x _ => (32 - x).toNat, ⟨_, 0, rfl, by omega, fun _ h => by omega, m⟩, ?_⟩
  clear m
  rintro x w12 K3 ⟨d, i, rfl, hi, hd, m⟩ hK3
  refine br_lt (fun hlt => ?_) fun hge => ?_
  · rw [Int.tdiv_eq_ediv_of_nonneg (by omega), Int.tmod_eq_emod_of_nonneg (by omega)]
    have q1 : ((i : Int) / 4) = ((i / 4 : Nat) : Int) := by omega
    have q2 : ((i : Int) % 4) = ((i % 4 : Nat) : Int) := by omega
    rw [q1, q2]
    simp (disch := omega) only [w_i64, add_lit, Nat.mul_one, Nat.zero_add, Int.toNat_natCast]
    refine ⟨by decide, ⟨by omega, by omega⟩, m.rda 1 rfl (by omega) ⟨by decide, by omega, ⟨by omega, by omega⟩, m.wra 0 rfl (by omega) fun w' m => ?_⟩⟩
    refine hK3 _ _ ⟨_, i + 1, by omega, by omega, fun j hj => ?_, m⟩ (by dsimp only; omega)
    rcases Nat.lt_or_ge j i with q | q
    · rw [upd_ne _ _ _ _ (by omega)]; exact hd j q
    · obtain rfl : j = i := by omega
      have hx : (outB t)[j]? = some (UInt8.ofNat ((t.get (j / 4)).toNat / 256 ^ (3 - j % 4))) := by
        have := outB_get t (i := j / 4) (k := j % 4) (by omega) (Nat.mod_lt _ (by decide))
        rwa [show 4 * (j / 4) + j % 4 = j by omega] at this
      rw [upd_at, dg, List.getD_eq_getElem?_getD, hx]
      have e : (24 : Int) - 8 * ((j % 4 : Nat) : Int) = ((8 * (3 - j % 4) : Nat) : Int) := by omega
      rw [e, show stA t (j / 4) = (((t.get (j / 4)).toNat : Nat) : Int) from rfl, ishr_pos (8 * (3 - j % 4)) (by omega) (by show 8 * (3 - j % 4) ≤ 32; omega)]
      show _ = ((UInt8.ofNat _).toNat : Int)
      rw [← u8_wrap]
      congr 1
      rw [show (256 : Nat) = 2 ^ 8 from rfl, ← Nat.pow_mul]
      simp
  · refine m.rdA 0 rfl (m.wrA 2 rfl fun w' m => m.rdA 2 rfl ?_)
    have e : arrV .u8 32 d = arrV .u8 32 (dg (shaOf l)) := arrV_ext fun j hj => by rw [hd j (by omega), hsh]
    rw [e]
    refine hQ _ ((f1.trans0 f6).trans m.fr fun c hc e => ?_)
    omega
end Go.Proofs.YtpcgkfgppfjnlaaGreatDoor.V
namespace Go.Proofs.YtpcgkfgppfjnlaaGreatDoor.V
open Go Go.RowKit

theorem sum_sub {f : Nat → Nat} : ∀ {K L : List Nat}, K.Nodup → (∀ k ∈ K, k ∈ L) → (K.map f).sum ≤ (L.map f).sum
  | [], _, _, _ => by simp
  | k :: K, L, hn, hs => by
    have h1 := List.nodup_cons.mp hn
    have hk : k ∈ L := hs k (by simp)
    have hp := List.perm_cons_erase hk
    have ih := sum_sub (f := f) (K := K) (L := L.erase k) h1.2 fun x hx => by
      have hne : x ≠ k := fun e => h1.1 (e ▸ hx)
      exact (List.mem_erase_of_ne hne).mpr (hs x (by simp [hx]))
    have hs2 : (L.map f).sum = ((k :: L.erase k).map f).sum := (hp.map f).sum_nat
    rw [hs2]
    simp only [List.map_cons, List.sum_cons]
    omega
theorem mput_mem {κ ν : Type} [DecidableEq κ] {l : List (κ × ν)} {k : κ} {v : ν} {p : κ × ν} (h : p ∈ mput l k v) : p = (k, v) ∨ p ∈ l := by
  unfold mput at h
  split at h
  · obtain ⟨q, hq, rfl⟩ := List.mem_map.mp h
    split
    · exact .inl rfl
    · exact .inr hq
  · rcases List.mem_append.mp h with h | h
    · exact .inr h
    · exact .inl (by simpa using h)
theorem mput_nodup {κ ν : Type} [DecidableEq κ] {l : List (κ × ν)} {k : κ} {v : ν} (h : (l.map (·.1)).Nodup) : ((mput l k v).map (·.1)).Nodup := by
  unfold mput
  split
  · have : (l.map fun p => if p.1 = k then (k, v) else p).map (·.1) = l.map (·.1) := by
      rw [List.map_map]
      refine List.map_congr_left fun p _ => ?_
      simp only [Function.comp]
      split
      · rename_i e; exact e.symm
      · rfl
    rw [this]; exact h
  · rename_i hk
    rw [List.map_append, List.nodup_append]
    refine ⟨h, by simp, ?_⟩
    intro a ha b hb e
    simp at hb
    subst hb
    subst e
    exact hk ha

/-- who lies -/
def liar (lies : List Bool) (who : Int) : Prop := lies.getD who.toNat false = true
/-- the stake of those who lie, of the first n -/
def badSum (st : List Nat) (lies : List Bool) (n : Nat) : Nat := ((List.range n).map fun i => if lies.getD i false = true then st.getD i 0 else 0).sum
/-- what stays true of a chase -/
structure Ok1 (st : List Nat) (lies : List Bool) (L : List (List UInt8)) (a : Ab) : Prop where
  nd : (a.vs.map (·.1)).Nodup
  rng : ∀ p ∈ a.vs, 0 ≤ p.1 ∧ p.1 < st.length
  hon : ∀ p ∈ a.vs, ¬ liar lies p.1 → a.h < L.length ∧ p.2 = nameD (L.getD a.h [])
  bl : ∀ q ∈ a.bl, nameD q.2 = q.1 ∧ q.2.length ≤ 2000
def OkA (st : List Nat) (lies : List Bool) (L : List (List UInt8)) (A : List Ab) : Prop := ∀ a ∈ A, Ok1 st lies L a
theorem voteRes_rng {st : List Nat} {vs : List (Int × Dg)} {who : Int} {d : Dg} (h : ¬ voteRes st vs who d ≠ 0) : 0 ≤ who ∧ who < st.length := by
  unfold voteRes at h
  by_cases hc : who < 0 ∨ who ≥ st.length
  · rw [if_pos hc] at h
    exact absurd (by decide) h
  · omega
theorem blA_ok {bl : List (Dg × List UInt8)} {l : List UInt8} (h : ∀ q ∈ bl, nameD q.2 = q.1 ∧ q.2.length ≤ 2000) (hl : l.length ≤ 2000) : ∀ q ∈ blA bl (nameD l) l, nameD q.2 = q.1 ∧ q.2.length ≤ 2000 := by
  intro q hq
  unfold blA at hq
  split at hq
  · exact h q hq
  · rcases mput_mem hq with rfl | hq
    · exact ⟨rfl, hl⟩
    · exact h q hq
theorem OkA.hear {st : List Nat} {lies : List Bool} {L : List (List UInt8)} {A : List Ab} (h : OkA st lies L A) {x : Nat} {who : Int} {l : List UInt8} (hl : l.length ≤ 2000) (hw : ¬ liar lies who → x < L.length ∧ l = L.getD x []) :
    OkA st lies L (V.hear st A x who l).2 := by
  unfold V.hear
  split
  · exact h
  · split
    · split
      · exact h
      · split
        · exact h
        · rename_i hv
          have hr := voteRes_rng hv
          intro a ha
          rcases List.mem_append.mp ha with ha | ha
          · exact h a ha
          · simp at ha
            subst ha
            refine ⟨mput_nodup (l := []) List.nodup_nil, fun p hp => ?_, fun p hp hn => ?_, blA_ok (bl := []) (fun _ h => by cases h) hl⟩
            · have hp : p ∈ mput [] who (nameD l) := hp
              rcases mput_mem hp with rfl | hp
              · exact hr
              · simp at hp
            · have hp : p ∈ mput [] who (nameD l) := hp
              rcases mput_mem hp with rfl | hp
              · obtain ⟨h1, h2⟩ := hw hn
                exact ⟨h1, by rw [h2]⟩
              · simp at hp
    · split
      · exact h
      · rename_i hv
        have hr := voteRes_rng hv
        intro a ha
        obtain ⟨b, hb, rfl⟩ := List.mem_map.mp ha
        split
        · rename_i hbh
          have hbo := h b hb
          subst hbh
          refine ⟨mput_nodup hbo.nd, fun p hp => ?_, fun p hp hn => ?_, blA_ok hbo.bl hl⟩
          · have hp : p ∈ mput b.vs who (nameD l) := hp
            rcases mput_mem hp with rfl | hp
            · exact hr
            · exact hbo.rng p hp
          · have hp : p ∈ mput b.vs who (nameD l) := hp
            rcases mput_mem hp with rfl | hp
            · obtain ⟨h1, h2⟩ := hw hn
              exact ⟨h1, by rw [h2]⟩
            · exact hbo.hon p hp hn
        · exact h b hb
theorem sum_le {α : Type} {f g : α → Nat} : ∀ {l : List α}, (∀ p ∈ l, f p ≤ g p) → (l.map f).sum ≤ (l.map g).sum
  | [], _ => by simp
  | p :: l, h => by
    have := sum_le (f := f) (g := g) (l := l) fun q hq => h q (by simp [hq])
    have := h p (by simp)
    simp only [List.map_cons, List.sum_cons]
    omega
theorem Ok1.voted {st : List Nat} {lies : List Bool} {L : List (List UInt8)} {a : Ab} (h : Ok1 st lies L a) {d : Dg} (hd : ∀ p ∈ a.vs, p.2 = d → liar lies p.1) : votedFor st a.vs d ≤ badSum st lies st.length := by
  unfold votedFor badSum msum
  refine Nat.le_trans (sum_le (g := fun p => (fun i => if lies.getD i false = true then st.getD i 0 else 0) p.1.toNat) fun p hp => ?_) ?_
  · by_cases e : p.2 = d
    · rw [if_pos e]
      have hl : lies.getD p.1.toNat false = true := hd p hp e
      simp only
      rw [if_pos hl]
      exact Nat.le_refl _
    · rw [if_neg e]; exact Nat.zero_le _
  · have e : a.vs.map (fun p => (fun i => if lies.getD i false = true then st.getD i 0 else 0) p.1.toNat) = (a.vs.map fun p => p.1.toNat).map fun i => if lies.getD i false = true then st.getD i 0 else 0 := by
      rw [List.map_map]; rfl
    rw [e]
    refine sum_sub ?_ fun k hk => ?_
    · have hn := h.nd
      have e2 : a.vs.map (fun p => p.1.toNat) = (a.vs.map (·.1)).map Int.toNat := by rw [List.map_map]; rfl
      rw [e2, List.nodup_iff_pairwise_ne, List.pairwise_map]
      rw [List.nodup_iff_pairwise_ne] at hn
      refine List.Pairwise.imp_of_mem (fun {x y} hx hy hxy e => hxy ?_) hn
      obtain ⟨p, hp, rfl⟩ := List.mem_map.mp hx
      obtain ⟨q, hq, rfl⟩ := List.mem_map.mp hy
      have h1 := (h.rng p hp).1
      have h2 := (h.rng q hq).1
      omega
    · obtain ⟨p, hp, rfl⟩ := List.mem_map.mp hk
      have := h.rng p hp
      exact List.mem_range.mpr (by omega)
theorem mlook_mem {κ ν : Type} [DecidableEq κ] {l : List (κ × ν)} {k : κ} {v : ν} (h : mlook l k = some v) : (k, v) ∈ l := by
  unfold mlook at h
  obtain ⟨p, hp, rfl⟩ := Option.map_eq_some_iff.mp h
  have h1 := List.mem_of_find?_eq_some hp
  have h2 := List.find?_some hp
  simp at h2
  rw [h2]; exact h1
theorem OkA.believed {st : List Nat} {lies : List Bool} {L : List (List UInt8)} {A : List Ab} (h : OkA st lies L A) (hb : 3 * badSum st lies st.length < st.sum) {x : Nat} {l : List UInt8} (he : V.believed st A x = some l) :
    x < L.length ∧ nameD l = nameD (L.getD x []) ∧ l.length ≤ 2000 := by
  unfold V.believed at he
  cases hf : A.find? fun a => decide (x = a.h) with
  | none => rw [hf] at he; simp at he
  | some a =>
    rw [hf] at he
    simp only at he
    obtain ⟨d, hd, hm⟩ := Option.bind_eq_some_iff.mp he
    have ha := h a (List.mem_of_find?_eq_some hf)
    have hx : x = a.h := by simpa using List.find?_some hf
    have ht : third st a.vs d = true := List.find?_some hd
    have ht : st.sum < 3 * (votedFor st a.vs d % 18446744073709551616) := by simpa [third] using ht
    have hmod := Nat.mod_le (votedFor st a.vs d) 18446744073709551616
    have hq := ha.bl _ (mlook_mem hm)
    by_cases hall : ∀ p ∈ a.vs, p.2 = d → liar lies p.1
    · have := ha.voted hall
      omega
    · obtain ⟨p, hp⟩ := Classical.not_forall.mp hall
      obtain ⟨hp1, hp2⟩ := Classical.not_imp.mp hp
      obtain ⟨hp2, hp3⟩ := Classical.not_imp.mp hp2
      obtain ⟨h1, h2⟩ := ha.hon p hp1 hp3
      subst hx
      refine ⟨h1, ?_, hq.2⟩
      rw [← h2, hp2]
      exact hq.1
end Go.Proofs.YtpcgkfgppfjnlaaGreatDoor.V
namespace Go.Proofs.YtpcgkfgppfjnlaaGreatDoor.V
open Go Go.RowKit
variable {w w0 : World}

theorem rTagged_spec {t : ByteArray} {s : Sl} {M : List (Sl × List UInt8)} (hm : Bs w s M) (ht : t.size < 1000000) (hM : M.length < 100) (hl : ∀ p ∈ M, p.2.length < 1000000) :
    callP Tryz.prog 34 #[.string t, s.v] w fun v w' => v = arrV .u8 32 (dg (shaOf (tagIn t.data.toList (M.map (·.2))))) ∧ Fr F0 w w' := by
  refine sortitionref07_Tagged_ok ?_
  unfold sortitionref07_Tagged
  refine (Lo.start (S := F0) w).al fun b4 w1 _ m => ?_
  refine callP_of (Input_spec (s := s) (hm.fr0 m.fr) ht (by omega) hl) ?_
  rintro v w2 ⟨r, rfl, g⟩
  refine ⟨r, rfl, ?_⟩
  have m := m.keep g.fr
  have hlen : (tagIn t.data.toList (M.map (·.2))).length < 1000000000 := by
    have htl : t.data.toList.length = t.size := by simp
    have key : ∀ N : List (Sl × List UInt8), (∀ p ∈ N, p.2.length < 1000000) → ((N.map (·.2)).map fun b => be 8 b.length ++ b).flatten.length ≤ N.length * 1000008 := by
      intro N hN
      induction N with
      | nil => simp
      | cons p N ih =>
        have h1 := hN p (by simp)
        have h2 := ih fun q hq => hN q (by simp [hq])
        simp only [List.map_cons, List.flatten_cons, List.length_append, be_len, List.length_cons]
        omega
    have := key M hl
    simp only [tagIn, List.length_append, be_len]
    omega
  refine callP_of (Of_spec (s := r) g.by hlen) ?_
  rintro v w3 ⟨rfl, f3⟩
  exact ⟨_, rfl, (m.keep f3).wrA 0 rfl fun w4 m => m.rdA 0 rfl ⟨rfl, m.fr⟩⟩
theorem rName_spec {s : Sl} {l : List UInt8} (hb : By w s l) (hl : l.length < 1000000) :
    callP Tryz.prog 17 #[s.v] w fun v w' => v = arrV .u8 32 (dg (nameD l).1) ∧ Fr F0 w w' := by
  refine sortitionref17_Name_ok ?_
  unfold sortitionref17_Name
  refine (Lo.start (S := F0) w).al fun b2 w1 _ m => ?_
  refine m.al (cs := [.slice s.p s.len s.cap]) fun b4 w2 _ m => ?_
  have hm : Bs w2 ⟨some ⟨b4, 0, none⟩, 1, 1⟩ [(s, l)] := bs_one (m.at 0 rfl) (hb.fr0 m.fr)
  refine callP_of (rTagged_spec (s := ⟨some ⟨b4, 0, none⟩, 1, 1⟩) hm (by decide) (by simp) (by simpa using hl)) ?_
  rintro v w3 ⟨rfl, f3⟩
  exact ⟨_, rfl, (m.keep f3).wrA 1 rfl fun w4 m => m.rdA 1 rfl ⟨rfl, m.fr⟩⟩

/-- one cell of a slice of one-cell elements, by its address -/
theorem SlC.at1 {s : Sl} {vs : List Value} (h : SlC w s 1 vs) {i : Nat} {v : Value} (hv : vs[i]? = some v) : ∃ a, s.p = some a ∧ atC w (a.add (i * 1)) 0 [v] := by
  have hi : i < vs.length := by
    rcases Nat.lt_or_ge i vs.length with q | q
    · exact q
    · rw [List.getElem?_eq_none q] at hv; simp at hv
  obtain ⟨p, n, c⟩ := s
  obtain ⟨h1, h2, h3⟩ := h
  simp only [Nat.mul_one] at h1 h2
  cases p with
  | none => simp only at h3; omega
  | some a =>
    obtain ⟨h4, _, h5⟩ := h3 (show c ≠ 0 by omega)
    refine ⟨a, rfl, ?_⟩
    rw [Nat.mul_one, atC.shift h4, Nat.add_zero]
    have := h5.part (us := [v]) (j := i) h4 fun j hj => by
      simp at hj
      subst hj
      simpa using hv.symm
    simpa using this
theorem Bs.at1 {s : Sl} {M : List (Sl × List UInt8)} (h : Bs w s M) {i : Nat} {p : Sl × List UInt8} (hp : M[i]? = some p) : ∃ a, s.p = some a ∧ atC w (a.add (i * 1)) 0 [.slice p.1.p p.1.len p.1.cap] ∧ By w p.1 p.2 := by
  obtain ⟨a, h1, h2⟩ := h.1.at1 (i := i) (v := .slice p.1.p p.1.len p.1.cap) (by rw [List.getElem?_map, hp]; rfl)
  exact ⟨a, h1, h2, h.2 p (List.mem_of_getElem? hp)⟩
theorem atC_one {a : Addr} {v : Value} (o : Nat) (h : atC w (a.add o) 0 [v]) : atC w a o [v] := ⟨h.1, trivial⟩
theorem badSum_succ (st : List Nat) (lies : List Bool) (n : Nat) : badSum st lies (n + 1) = badSum st lies n + if lies.getD n false = true then st.getD n 0 else 0 := by
  unfold badSum
  rw [List.range_succ, List.map_append, List.sum_append]
  simp
end Go.Proofs.YtpcgkfgppfjnlaaGreatDoor.V
namespace Go.Proofs.YtpcgkfgppfjnlaaGreatDoor.V
open Go Go.RowKit
variable {w w0 w1 : World}

/-- the log of blocks -/
def logB (T : List (List UInt8)) : List (List UInt8) := (List.range T.length).map fun i => blockB i (T.getD i [])
theorem logB_len (T : List (List UInt8)) : (logB T).length = T.length := by simp [logB]
theorem logB_small (T : List (List UInt8)) : ∀ l ∈ logB T, l.length ≤ 2000 := by
  intro l hl
  obtain ⟨i, _, rfl⟩ := List.mem_map.mp hl
  exact blockB_len _ _

set_option maxRecDepth 8000 in
set_option maxHeartbeats 2000000 in
theorem ChaseTrue_spec {s0 s1 s2 s3 : Sl} {st : List Nat} {lies : List Bool} {T : List (Sl × List UInt8)} {M : List Cm} (g : Gb w) (h0 : Wd w s0 st) (h64 : W64 st) (h1 : SlC w s1 1 (blv lies)) (h2 : Bs w s2 T) (h3 : Cs w s3 M)
    (hM : ∀ p ∈ M, p.1 < 18446744073709551616 ∧ -9223372036854775808 ≤ p.2.1 ∧ p.2.1 < 9223372036854775808) :
    callP Tryz.prog 5 #[s0.v, s1.v, s2.v, s3.v] w fun v w' => v = .bool true ∧ Fr F0 w w' := by
  suffices H : ∀ Q : Value → World → Prop, (∀ w', Fr F0 w w' → Q (.bool true) w') → callP Tryz.prog 5 #[s0.v, s1.v, s2.v, s3.v] w Q from H _ fun w' f => ⟨rfl, f⟩
  intro Q hQ
  have l0 := h0.len
  have l1 : s1.len = lies.length := by have := h1.1; simp [blv] at this; omega
  have l2 := h2.len
  have l3 := h3.len
  refine sortitionlaw19_ChaseTrue_ok ?_
  unfold sortitionlaw19_ChaseTrue
  refine callP_of (awake_spec g) ?_
  rintro v w1 ⟨rfl, f1⟩
  have g1 := g.fr0 f1
  refine ⟨_, rfl, br_gt (fun _ => hQ _ f1) fun hst => br_ne (fun _ => hQ _ f1) fun hll => br_gt (fun _ => hQ _ f1) fun hT => br_gt (fun _ => hQ _ f1) fun h50 => ?_⟩
  have h01 := h0.fr0 f1
  have h11 := h1.fr0 f1
  refine ⟨fun b x w' => ∃ i : Nat, x = i ∧ i ≤ st.length ∧ b = (badSum st lies i : Int) ∧ badSum st lies i ≤ i * 72057594037927936 ∧ (∀ j, j < i → st.getD j 0 < 72057594037927936) ∧ w1 = w', fun _ x _ => (st.length - x).toNat,
    ⟨0, rfl, by omega, by simp [badSum], by simp [badSum], fun j h => by omega, rfl⟩, ?_⟩
  rintro b x w2 K ⟨i, rfl, hi, rfl, hbi, hsm, rfl⟩ hK
  refine br_lt (fun hlt => ?_) fun hge => ?_
  · refine ⟨⟨by omega, hlt⟩, Wd.rd h01 (by omega) hlt fun n hn => ?_⟩
    rw [Int.toNat_natCast] at hn
    have hgn : st.getD i 0 = n := by rw [List.getD_eq_getElem?_getD, hn]; rfl
    refine br_ge (fun _ => hQ _ f1) fun hn56 => ⟨⟨by omega, by omega⟩, ?_⟩
    have hli : i < lies.length := by omega
    have hbl : (blv lies)[(i : Int).toNat]? = some (.bool (lies.getD i false)) := by
      rw [Int.toNat_natCast, blv, List.getElem?_map, List.getD_eq_getElem?_getD, List.getElem?_eq_getElem hli]; rfl
    refine h11.rd (by omega) (by omega) (k := .bool) (x := lies.getD i false) rfl hbl ?_
    have hb1 := badSum_succ st lies i
    rw [hgn] at hb1
    have hsm' : ∀ j, j < i + 1 → st.getD j 0 < 72057594037927936 := fun j hj => by
      rcases Nat.lt_or_ge j i with q | q
      · exact hsm j q
      · obtain rfl : j = i := by omega
        rw [hgn]; omega
    cases hlie : lies.getD i false with
    | true =>
      rw [hlie, if_pos rfl] at hb1
      refine br_true rfl ⟨⟨by omega, hlt⟩, Wd.rd h01 (by omega) hlt fun n' hn' => ?_⟩
      rw [Int.toNat_natCast, hn] at hn'
      obtain rfl : n = n' := by simpa using hn'
      rw [w_i64 (by omega) (by omega), show IntKind.wrap .u64 ((badSum st lies i : Int) + (n : Int)) = (badSum st lies (i + 1) : Int) by rw [w_u64, hb1]; omega]
      exact hK _ _ _ ⟨i + 1, by omega, by omega, rfl, by omega, hsm', rfl⟩ (by dsimp only; omega)
    | false =>
      rw [hlie, if_neg (by simp)] at hb1
      refine br_false rfl ?_
      rw [w_i64 (by omega) (by omega), show ((badSum st lies i : Nat) : Int) = (badSum st lies (i + 1) : Int) by rw [hb1]; omega]
      exact hK _ _ _ ⟨i + 1, by omega, by omega, rfl, by omega, hsm', rfl⟩ (by dsimp only; omega)
  obtain rfl : i = st.length := by omega
  clear hK
  refine callP_of (Ch.new (s := s0) g1 h01 h64 (by omega)) ?_
  rintro v w2 ⟨f2, ⟨_, rfl⟩ | ⟨_, C, rfl, c2⟩⟩
  · exact ⟨none, _, rfl, br_true rfl (hQ _ (f1.trans0 f2))⟩
  refine ⟨some ⟨C.c, 0, none⟩, 0, rfl, br_false rfl ?_⟩
  refine callP_of (rSum_spec (s := s0) (h01.fr0 f2) (by omega)) ?_
  rintro v w3 ⟨rfl, rfl⟩
  have hsum : ∀ i, i ≤ st.length → (st.take i).sum ≤ i * 72057594037927936 := by
    intro i
    induction i with
    | zero => simp
    | succ i ih =>
      intro hi
      have h1 := ih (by omega)
      have h2 := hsm i (by omega)
      have hx : st[i]? = some (st.getD i 0) := by rw [List.getD_eq_getElem?_getD, List.getElem?_eq_getElem (by omega)]; rfl
      rw [take_snoc hx, List.sum_append]
      simp only [List.sum_cons, List.sum_nil]
      omega
  have hs64 := hsum st.length (Nat.le_refl _)
  rw [List.take_length] at hs64
  rw [show st.sum % 18446744073709551616 = st.sum by omega, show IntKind.wrap .u64 (3 * (badSum st lies st.length : Int)) = ((3 * badSum st lies st.length : Nat) : Int) by rw [w_u64]; omega]
  refine ⟨_, rfl, br_ge (fun _ => hQ _ (f1.trans0 f2)) fun hbad => ?_⟩
  have hbad : 3 * badSum st lies st.length < st.sum := by omega
  -- the log
  generalize hTT : T.map (·.2) = TT
  have hTl : TT.length = T.length := by rw [← hTT]; simp
  refine ⟨fun u x w' => ∃ (i : Nat) (cs : List Value) (N : List (Sl × List UInt8)), x = i ∧ i ≤ T.length ∧ GB w3 w' u cs N ∧ Ch w1 w' C st [] ∧ N.map (·.2) = (logB TT).take i, fun _ x _ => (T.length - x).toNat,
    ⟨0, [], [], rfl, by omega, .nil w3, c2, by simp⟩, ?_⟩
  rintro u x w4 K ⟨i, cs, N, rfl, hi, gb, c4, hN⟩ hK
  have f4 := f1.trans0 c4.fr
  have hNl : N.length = i := by have := congrArg List.length hN; rw [List.length_take, logB_len] at this; simp at this; omega
  refine br_lt (fun hlt => ?_) fun hge => ?_
  · refine ⟨⟨by omega, hlt⟩, (h2.fr0 f4).rd (by omega) hlt fun x l hx hbx => br_gt (fun _ => hQ _ f4) fun h200 => ⟨⟨by omega, hlt⟩, (h2.fr0 f4).rd (by omega) hlt fun x' l' hx' hbx' => ?_⟩⟩
    obtain ⟨rfl, rfl⟩ : x = x' ∧ l = l' := by rw [hx] at hx'; simpa using hx'
    rw [Int.toNat_natCast] at hx
    have hxl := By.len hbx
    have hxT : TT.getD i [] = l := by rw [← hTT, List.getD_eq_getElem?_getD, List.getElem?_map, hx]; rfl
    rw [show IntKind.wrap .u64 (i : Int) = (i : Int) by rw [w_u64]; omega]
    refine callP_of (block_spec (s := x) (h := i) hbx (by omega) (by omega)) ?_
    rintro v w5 ⟨t, rfl, y5⟩
    refine ⟨t, rfl, ?_⟩
    refine GB.push (gb.keep y5.fr) y5.by (fun c hc hu => ?_) (by omega) fun u' cs' w6 gb6 _ _ => ?_
    · have h1 := y5.fresh.ge hc
      have h2 := (gb.lt hu).2
      omega
    · rw [w_i64 (by omega) (by omega)]
      refine hK _ _ _ ⟨i + 1, cs', _, by omega, by omega, gb6, c2.keep gb6.lo.fr, ?_⟩ (by dsimp only; omega)
      have hx2 : (logB TT)[i]? = some (blockB i l) := by rw [logB, List.getElem?_map, List.getElem?_range (by omega), Option.map_some, hxT]
      rw [List.map_append, hN, take_snoc hx2]
      rfl
  obtain rfl : i = T.length := by omega
  rw [List.take_of_length_le (by rw [logB_len]; omega)] at hN
  clear hK
  generalize hL : logB TT = L at *
  have hLl : L.length = T.length := by rw [← hL, logB_len, hTl]
  have hLs : ∀ l ∈ L, l.length ≤ 2000 := by rw [← hL]; exact logB_small TT
  have hu := gb.bs
  have hul := gb.len
  -- the claims
  refine ⟨fun x w' => ∃ (i : Nat) (A : List Ab), x = i ∧ i ≤ M.length ∧ Ch w1 w' C st A ∧ Kp w4 w' ∧ Few (4 * i) A ∧ OkA st lies L A, fun x _ => (M.length - x).toNat, ⟨0, [], rfl, by omega, c4, Kp.of0 (.refl _), Few.nil _, fun a ha => by cases ha⟩, ?_⟩
  rintro x w5 K ⟨i, A, rfl, hi, c5, k5, n5, ok5⟩ hK
  have f5 := f1.trans0 c5.fr
  refine br_lt (fun hlt => ?_) fun hge => ?_
  · have hp := List.getElem?_eq_getElem (show i < M.length by omega)
    generalize M[i] = p at hp
    obtain ⟨b1, b2, b3⟩ := hM p (List.mem_of_getElem? hp)
    obtain ⟨a, ha, t1, t2, t3, t4⟩ := (h3.fr0 f5).at hp
    have hlen := By.len t4
    rw [ha]
    simp only [nn_some, Int.toNat_natCast]
    refine ⟨⟨by omega, hlt⟩, rd_of (k := .int .u64) (p.1 : Int) t1 (rd_of (k := .int .i64) p.2.1 (atC_one 1 t2) (rd_of (k := .slc) p.2.2.1 (atC_one 2 t3) ?_))⟩
    refine (Lo.start (S := F0) w5).al fun b17 w6 _ m6 => m6.wr 0 (o := 0) rfl (by simp) (by intro v hv; simp at hv; rcases hv with rfl | rfl | rfl <;> rfl) fun w7 m7 => ?_
    have m7 : Lo F0 w5 w7 [(b17, .cs [.int .u64 (p.1 : Int), .int .i64 p.2.1, .slice p.2.2.1.p p.2.2.1.len p.2.2.1.cap])] := m7
    have c7 := c5.keep m7.fr
    have k7 := k5.trans (Kp.of0 m7.fr)
    have f7 := f1.trans0 c7.fr
    have hskip : K (IntKind.wrap .i64 ((i : Int) + 1)) w7 := by
      rw [w_i64 (by omega) (by omega)]
      exact hK _ _ ⟨i + 1, A, by omega, by omega, c7, k7, n5.mono (by omega), ok5⟩ (by dsimp only; omega)
    refine m7.rd1 0 (o := 1) rfl rfl (br_lt (fun _ => hskip) fun hw0 => ?_)
    refine m7.rd1 0 (o := 1) rfl rfl (br_ge (fun _ => hskip) fun hw1 => ?_)
    refine Own.rds (m7.at 0 rfl) (o := 2) (s := p.2.2.1) rfl (br_gt (fun _ => hskip) fun h200 => ?_)
    have hwb : 0 ≤ p.2.1 ∧ p.2.1 < ((s1.len : Nat) : Int) := ⟨Int.not_lt.mp hw0, Int.not_le.mp hw1⟩
    refine m7.rd1 0 (o := 1) (x := p.2.1) rfl rfl ⟨hwb, ?_⟩
    have hwl : p.2.1.toNat < lies.length := by omega
    have hbl : (blv lies)[p.2.1.toNat]? = some (.bool (lies.getD p.2.1.toNat false)) := by
      rw [blv, List.getElem?_map, List.getD_eq_getElem?_getD, List.getElem?_eq_getElem hwl]; rfl
    refine (h1.fr0 f7).rd (by omega) (by omega) (k := .bool) (x := lies.getD p.2.1.toNat false) rfl hbl ?_
    have t7 : By w7 p.2.2.1 p.2.2.2 := t4.fr0 m7.fr
    cases hlie : lies.getD p.2.1.toNat false with
    | true =>
      refine br_true rfl (m7.dr fun w8 m8 => ?_)
      have t8 : By w8 p.2.2.1 p.2.2.2 := t4.fr0 m8.fr
      refine m8.rd1 0 (o := 0) rfl rfl (m8.rd1 0 (o := 1) rfl rfl (m8.rd1 0 (o := 0) rfl rfl (Own.rds (m8.at 0 rfl) (o := 2) (s := p.2.2.1) rfl ?_)))
      refine callP_of (block_spec (s := p.2.2.1) (h := p.1) t8 b1 (by omega)) ?_
      rintro v w9 ⟨t, rfl, y9⟩
      have m9 := m8.keep y9.fr
      refine ⟨t, rfl, atC_own (m9.at 0 rfl) rfl, atC_own (m9.at 0 rfl) rfl, ?_⟩
      have hbs := blockB_len p.1 p.2.2.2
      refine callP_of ((c5.keep m9.fr).hear g1 (h := p.1) (who := p.2.1) (x := t) y9.by (by omega) ⟨by omega, by omega⟩) ?_
      rintro v w10 ⟨rfl, c10, k10⟩
      refine ⟨_, rfl, ?_⟩
      rw [w_i64 (by omega) (by omega)]
      refine hK _ _ ⟨i + 1, _, by omega, by omega, c10, (k5.trans (Kp.of0 m9.fr)).trans k10, (n5.hear st _ _ _).mono (by omega), ok5.hear hbs fun hn => absurd hlie hn⟩ (by dsimp only; omega)
    | false =>
      refine br_false rfl ?_
      refine m7.rd1 0 (o := 1) rfl rfl (m7.rd1 0 (o := 0) rfl rfl ?_)
      have hu7 := k7.bs hu
      refine callP_of (Answer_spec (s := u) (who := p.2.1) (f := p.1) hu7 (by omega) fun q hq => ?_) ?_
      · have : q.2 ∈ N.map (·.2) := List.mem_map.mpr ⟨q, hq, rfl⟩
        rw [hN] at this
        have := hLs _ this
        omega
      rintro v w8 ⟨r, O, rfl, g8, e8, _⟩
      rw [hN] at e8
      refine ⟨r, rfl, ?_⟩
      have c8 := c7.keep g8.fr
      have k8 := k7.trans (Kp.of0 g8.fr)
      have o8 := g8.cs
      have lr := o8.len
      have lO : O.length ≤ 4 := by have := congrArg List.length e8; rw [List.length_map, answer_len] at this; omega
      refine ⟨fun y w' => ∃ (j : Nat) (A' : List Ab), y = j ∧ j ≤ O.length ∧ Ch w1 w' C st A' ∧ Kp w8 w' ∧ Few (4 * i + j) A' ∧ OkA st lies L A', fun y _ => (O.length - y).toNat, ⟨0, A, rfl, by omega, c8, Kp.of0 (.refl _), n5.mono (by omega), ok5⟩, ?_⟩
      rintro y w9 K' ⟨j, A', rfl, hj, c9, k9, n9, ok9⟩ hK'
      refine br_lt (fun hlt' => ?_) fun _ => ?_
      · have hq := List.getElem?_eq_getElem (show j < O.length by omega)
        generalize O[j] = q at hq
        obtain ⟨a', ha', u1, u2, u3, u4⟩ := (k9.cs o8).at hq
        rw [ha']
        simp only [nn_some, Int.toNat_natCast]
        refine ⟨⟨by omega, hlt'⟩, rd_of (k := .int .u64) (q.1 : Int) u1 (rd_of (k := .int .i64) q.2.1 (atC_one 1 u2) (rd_of (k := .slc) q.2.2.1 (atC_one 2 u3) ?_))⟩
        have hqa : q.t ∈ answer L p.2.1 p.1 := by rw [← e8]; exact List.mem_map_of_mem (List.mem_of_getElem? hq)
        obtain ⟨z, hz, he⟩ := List.mem_map.mp hqa
        have hz : z < L.length := List.mem_range.mp (List.mem_of_mem_drop (List.mem_of_mem_take hz))
        have ez : z = q.1 := congrArg (·.1) he
        have ew : p.2.1 = q.2.1 := congrArg (·.2.1) he
        have el : L.getD z [] = q.2.2.2 := congrArg (·.2.2) he
        subst ez
        have hql : q.2.2.2.length ≤ 2000 := by
          rw [← el, List.getD_eq_getElem?_getD, List.getElem?_eq_getElem hz]
          exact hLs _ (List.getElem_mem hz)
        refine callP_of (c9.hear g1 (h := q.1) (who := q.2.1) (x := q.2.2.1) u4 (by omega) ⟨by omega, by omega⟩) ?_
        rintro v w10 ⟨rfl, c10, k10⟩
        refine ⟨_, rfl, ?_⟩
        rw [w_i64 (by omega) (by omega)]
        exact hK' _ _ ⟨j + 1, _, by omega, by omega, c10, k9.trans k10, n9.hear st _ _ _, ok9.hear hql fun _ => ⟨hz, el.symm⟩⟩ (by dsimp only; omega)
      · rw [w_i64 (by omega) (by omega)]
        exact hK _ _ ⟨i + 1, A', by omega, by omega, c9, k8.trans k9, n9.mono (by omega), ok9⟩ (by dsimp only; omega)
  -- what is believed
  have n5 : Few 1000 A := n5.mono (by omega)
  refine callP_of c5.heights ?_
  rintro v w6 ⟨c6, f6, s, d, rfl, hsl, hd, hs, hsf⟩
  refine ⟨s, rfl, ?_⟩
  have hA := c6.n
  have hu6 := (k5.trans (Kp.of0 f6)).bs hu
  have hdn : ∀ i : Nat, i < s.len → d i = ((d i).toNat : Int) := fun i hi2 => by
    have := hd i (by omega); omega
  refine ⟨fun x w' => ∃ i : Nat, x = i ∧ i ≤ s.len ∧ Ch w1 w' C st A ∧ Fr F0 w6 w', fun x _ => (s.len - x).toNat, ⟨0, rfl, by omega, c6, .refl _⟩, ?_⟩
  rintro x w7 K3 ⟨y, rfl, hy, c7, f7⟩ hK3
  refine br_lt (fun hlt => ?_) fun _ => hQ _ (f1.trans0 c7.fr)
  have hys : y < s.len := by omega
  have hdy := hdn y hys
  have hnext : ∀ w', Ch w1 w' C st A → Fr F0 w7 w' → K3 (IntKind.wrap .i64 ((y : Int) + 1)) w' := fun w' c f => by
    rw [w_i64 (by omega) (by omega)]
    exact hK3 _ _ ⟨y + 1, by omega, by omega, c, f7.trans0 f⟩ (by dsimp only; omega)
  have hvy : (cellsA .u64 d 0 A.length)[y]? = some (.int .u64 (d y)) := cellsA_at (by omega)
  obtain ⟨a, ha, r1⟩ := (hs.fr0 f7).at1 hvy
  rw [ha]
  simp only [nn_some, Int.toNat_natCast]
  refine ⟨⟨by omega, hlt⟩, rd_of (k := .int .u64) (d y) r1 ?_⟩
  rw [hdy]
  refine callP_of (c7.bel n5 (by decide)) ?_
  rintro v w8 ⟨c8, f8, r, rfl, hr, _, _⟩
  refine ⟨r, _, rfl, ?_⟩
  have fd := (Fr.refl (S := F0) w8).drw (w8.drawn + 1)
  unfold dr
  generalize drw w8 (w8.drawn + 1) = w9 at *
  have f89 := f8.trans0 fd
  have c9 := c8.keep fd
  cases he : believed st A (d y).toNat with
  | none =>
    exact br_false rfl (hnext _ c9 f89)
  | some l =>
    obtain ⟨e1, e2, e3⟩ := ok5.believed hbad he
    rw [he] at hr
    have hr : By w9 r l := hr.fr0 fd
    refine br_true rfl ⟨⟨by omega, hlt⟩, rd_of (k := .int .u64) (d y) (r1.fr0 f89) ?_⟩
    rw [show IntKind.wrap .u64 ((u.len : Nat) : Int) = ((u.len : Nat) : Int) by rw [w_u64]; omega]
    have hdu : 0 ≤ d y ∧ d y < ((u.len : Nat) : Int) := by omega
    refine br_ge (fun hge => absurd hge (by omega)) fun _ => ⟨⟨by omega, hlt⟩, rd_of (k := .int .u64) (d y) (r1.fr0 f89) ⟨hdu, ?_⟩⟩
    have hq := List.getElem?_eq_getElem (show (d y).toNat < N.length by omega)
    generalize N[(d y).toNat] = q at hq
    obtain ⟨a', ha', v1, v2⟩ := (hu6.fr0 (f7.trans0 f89)).at1 hq
    rw [ha']
    simp only [nn_some]
    have hqL : L.getD (d y).toNat [] = q.2 := by rw [← hN, List.getD_eq_getElem?_getD, List.getElem?_map, hq]; rfl
    have hql : q.2.length ≤ 2000 := by
      rw [← hqL, List.getD_eq_getElem?_getD, List.getElem?_eq_getElem e1]
      exact hLs _ (List.getElem_mem e1)
    refine rd_of (k := .slc) q.1 v1 ?_
    refine callP_of (rName_spec (s := r) hr (by omega)) ?_
    rintro v w10 ⟨rfl, f10⟩
    refine ⟨_, rfl, v1.fr0 f10, (r1.fr0 f89).fr0 f10, ?_⟩
    refine callP_of (rName_spec (s := q.1) (v2.fr0 f10) (by omega)) ?_
    rintro v w11 ⟨rfl, f11⟩
    refine ⟨_, rfl, ?_⟩
    rw [eqInts_dg, ← hqL, ← e2]
    exact br_not (br_true (by simp) (hnext _ ((c9.keep f10).keep f11) ((f89.trans0 f10).trans0 f11)))
end Go.Proofs.YtpcgkfgppfjnlaaGreatDoor.V
