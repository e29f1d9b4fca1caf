/-
  CONTRACTS: slices of byte slices that grow; chase.Run. | CONTRACTS of the statements' own functions: Same, Lists, Sum, In, twice, Small, Bytes, Pack, block. | CONTRACTS of the statements' own functions: bytes that grow; Small, Bytes, Pack, block. | CONTRACTS: chase.Answer, and the document's. | A CHASE UNDER WAY: what its calls do, bundled. | CONTRACTS: the chapter's examples: awake. | THE LAW ChaseAnswers: what any log's claims are. | ARGUMENTS READ: what a datum of bytes, numbers, claims says of the memory; what the bound says of their sizes; what the law's end wants. | THE VARIABLES THAT THE ROWS LIST: what they hold; a world for the witness.
-/
import Derived.Test.YtpcgkfgppfjnlaaGreatDoorMi
import Derived.Test.YtpcgkfgppfjnlaaGreatDoorMe
import Derived.Test.YtpcgkfgppfjnlaaGreatDoorRows
import Derived.OpenShut
import Derived.Carry
import Derived.ChangeSame
import Derived.Deep.Slices
import Derived.Test.YtpcgkfgppfjnlaaGreatDoorCards
import Derived.Test.YtpcgkfgppfjnlaaGreatDoorTie
import Derived.Deep.DeepHandedRow
import Derived.Lib.LaidTab
namespace Go.Proofs.YtpcgkfgppfjnlaaGreatDoor.V
open Go Go.RowKit
variable {S : Nat → Prop} {w0 w : World} {Q : Value → World → Prop}

theorem sizeT_sl : sizeT Tryz.prog 30 = some 1 := by kernel_rfl
theorem bytes_sl : (Tryz.prog.info? 30).map (·.bytes) = some 24 := by kernel_rfl
theorem src_sl {b : Nat} {v : Value} (h : Own w b [v]) : srcIs w 1 (.slice (some ⟨b, 0, none⟩) 1 1) (lenV (.slice (some ⟨b, 0, none⟩) 1 1)) [v] :=
  ⟨Nat.le_refl _, rfl, Own.at h (by intro i hi; simp)⟩
/-- a slice of byte slices that grows -/
structure GB (w0 w : World) (s : Sl) (cs : List Value) (M : List (Sl × List UInt8)) : Prop where
  lo : Lo F0 w0 w (gl s cs)
  g : Gs s 1 cs (M.map slv)
  byt : ∀ p ∈ M, By w p.1 p.2
  ap : ∀ p ∈ M, ∀ c, p.1.in (· = c) → ¬ s.in (· = c)
theorem GB.nil (w : World) : GB w w ⟨none, 0, 0⟩ [] [] := ⟨.start w, Gs.nil 1, by simp, by simp⟩
theorem GB.start {f : Fr F0 w0 w} : GB w0 w ⟨none, 0, 0⟩ [] [] := ⟨(Lo.start w0).keep f, Gs.nil 1, by simp, by simp⟩
theorem GB.len {s : Sl} {cs : List Value} {M : List (Sl × List UInt8)} (h : GB w0 w s cs M) : s.len = M.length := by have := h.g.len; simp at this; omega
theorem GB.bs {s : Sl} {cs : List Value} {M : List (Sl × List UInt8)} (h : GB w0 w s cs M) : Bs w s M :=
  ⟨h.g.slc (L := []) (M := []) (by simpa using h.lo), h.byt⟩
theorem GB.keep {s : Sl} {cs : List Value} {M : List (Sl × List UInt8)} {w' : World} (h : GB w0 w s cs M) (f : Fr F0 w w') : GB w0 w' s cs M :=
  ⟨h.lo.keep f, h.g, fun p hp => (h.byt p hp).fr0 f, h.ap⟩
theorem GB.lt {s : Sl} {cs : List Value} {M : List (Sl × List UInt8)} (h : GB w0 w s cs M) {c : Nat} (hc : s.in (· = c)) : w0.heap.size ≤ c ∧ c < w.heap.size := by
  have hm := at_gl (cs := cs) hc
  exact ⟨(h.lo.new _ hm).resolve_left id, h.lo.lt hm⟩
/-- others' blocks turn -/
theorem GB.keepS {S : Nat → Prop} {s : Sl} {cs : List Value} {M : List (Sl × List UInt8)} {w' : World} (h : GB w0 w s cs M) (f : Fr S w w') (h0 : ∀ b, S b → w0.heap.size ≤ b) (h1 : ¬ s.in S) (h2 : ∀ p ∈ M, ¬ p.1.in S) : GB w0 w' s cs M := by
  refine ⟨h.lo.keepS f (fun p hp hs => h1 ?_) (fun b hb hs => absurd (h0 b hs) (by omega)), h.g, fun p hp => (h.byt p hp).fr f (h2 p hp), h.ap⟩
  exact Sl.in_of (gl_at hp) hs
set_option maxRecDepth 4000 in
theorem GB.push {s t : Sl} {cs : List Value} {M : List (Sl × List UInt8)} {l : List UInt8} {K : Sl → World → Prop} (h : GB w0 w s cs M) (hb : By w t l) (ht : ∀ c, t.in (· = c) → ¬ s.in (· = c)) (hn : M.length < 1099511627775)
    (hK : ∀ s' cs' w', GB w0 w' s' cs' (M ++ [(t, l)]) → Fr (fun c => s.in (· = c)) w w' → (∀ c, s'.in (· = c) → s.in (· = c) ∨ w.heap.size ≤ c) → K s' w') :
    al w (.cells #[t.v] 30) fun b w2 => appP Tryz.prog 30 w2 s (.slice (some ⟨b, 0, none⟩) 1 1) K := by
  refine h.lo.alf (cs := [t.v]) fun b w2 hb2 m2 f2 => ?_
  have hl := h.len
  refine Lo.app (L := [(b, .cs [t.v])]) (M := []) (s := s) (cs := cs) (us := [t.v]) (by rw [List.append_nil]; exact m2) h.g sizeT_sl bytes_sl zeroT_sl rfl (by decide) (by decide) (src_sl (m2.at 0 rfl)) rfl (by simp [scal]) (by simp only [lenV]; omega) (by decide) ?_
  intro s' cs' w5 m5 g5 hl5 f5 hin5
  rw [List.append_nil] at m5
  have hsz := f2.size
  have out : ∀ (x : Sl) (k : List UInt8), By w x k → (∀ c, x.in (· = c) → ¬ s.in (· = c)) → ¬ x.in (fun c => s.in (· = c)) := by
    intro x k hx hd hin
    obtain ⟨c, h1, h2⟩ := Sl.in_elim hin
    exact hd c h2 h1
  have f05 : Fr (fun c => s.in (· = c)) w w5 := (f2.mono fun _ _ x => x.elim).trans f5 fun _ _ e => e
  refine hK s' cs' w5 ⟨m5.tail, by rw [List.map_append]; exact g5, fun p hp => ?_, fun p hp c hc hs' => ?_⟩ f05 fun c hc => (hin5 c hc).imp id fun h => by omega
  · rcases List.mem_append.mp hp with hp | hp
    · exact (h.byt p hp).fr f05 (out _ _ (h.byt p hp) (h.ap p hp))
    · simp at hp; subst hp
      exact hb.fr f05 (out _ _ hb ht)
  · have key : ∀ (x : Sl) (k : List UInt8), By w x k → (∀ c, x.in (· = c) → ¬ s.in (· = c)) → x.in (· = c) → False := by
      intro x k hx hd hxc
      rcases hin5 c hs' with h1 | h1
      · exact hd c hxc h1
      · have := SlC.old hx |>.lt hxc
        omega
    rcases List.mem_append.mp hp with hp | hp
    · exact key _ _ (h.byt p hp) (h.ap p hp) hc
    · simp at hp; subst hp
      exact key _ _ hb ht hc

/-- believed, one height after the other -/
def runG (st : List Nat) (A : List Ab) : Nat → Nat → List (List UInt8)
  | 0, _ => []
  | n + 1, h => match believed st A h with
    | none => []
    | some l => l :: runG st A n ((h + 1) % 18446744073709551616)
theorem sub_len {α : Type} [DecidableEq α] : ∀ {l m : List α}, l.Nodup → (∀ x ∈ l, x ∈ m) → l.length ≤ m.length
  | [], _, _, _ => by simp
  | a :: t, m, hn, h => by
    rw [List.nodup_cons] at hn
    have ha : a ∈ m := h a (by simp)
    have ih := sub_len (l := t) (m := m.erase a) hn.2 fun x hx => by
      have hne : x ≠ a := by rintro rfl; exact hn.1 hx
      rw [List.mem_erase_of_ne hne]
      exact h x (by simp [hx])
    rw [List.length_erase_of_mem ha] at ih
    have := List.length_pos_of_mem ha
    rw [List.length_cons]; omega
theorem believed_mem {st : List Nat} {A : List Ab} {h : Nat} {l : List UInt8} (hb : believed st A h = some l) : h ∈ A.map (·.h) := by
  unfold believed at hb
  split at hb
  · cases hb
  · rename_i a ha
    have := List.find?_some ha
    simp only [decide_eq_true_eq] at this
    exact List.mem_map.mpr ⟨a, List.mem_of_find?_eq_some ha, this.symm⟩
theorem runG_one {st : List Nat} {A : List Ab} {n h : Nat} : runG st A (n + 1) h = match believed st A h with
    | none => []
    | some l => l :: runG st A n ((h + 1) % 18446744073709551616) := rfl

set_option maxRecDepth 4000 in
theorem Run_spec {C : Ck} {st : List Nat} {hs : List Hr} {h : Nat} (hC : ChaseIs w C st hs) (hb : ∀ H ∈ hs, H.bl.length < 549755813888) (hh : h < 18446744073709551616) :
    callP Tryz.prog 18 #[.pointer (some ⟨C.c, 0, none⟩), .int .u64 (h : Int)] w fun v w' => ∃ s cs M, v = Sl.v s ∧ GB w w' s cs M ∧ M.map (·.2) = runG st (hs.map Hr.ab) 21 h := by
  suffices H : ∀ Q : Value → World → Prop, (∀ w' s cs M, GB w w' s cs M → M.map (·.2) = runG st (hs.map Hr.ab) 21 h → Q s.v w') →
      callP Tryz.prog 18 #[.pointer (some ⟨C.c, 0, none⟩), .int .u64 (h : Int)] w Q from H _ fun w' s cs M a b => ⟨s, cs, M, rfl, a, b⟩
  intro Q hQ
  refine chase_Chase_Run_ok ?_
  unfold chase_Chase_Run
  have hkeys := hC.keys
  have hn := hC.n
  refine ⟨fun x s w' => ∃ cs M, GB w w' s cs M ∧ x = ((h + M.length) % 18446744073709551616 : Nat) ∧ M.length ≤ 20 ∧ (∀ k, k < M.length → (believed st (hs.map Hr.ab) ((h + k) % 18446744073709551616)).isSome = true) ∧
      runG st (hs.map Hr.ab) 21 h = M.map (·.2) ++ runG st (hs.map Hr.ab) (21 - M.length) ((h + M.length) % 18446744073709551616), fun _ s _ => 21 - s.len, ⟨[], [], GB.nil w, ?_, by simp, by simp, ?_⟩, ?_⟩
  · simp only [List.length_nil, Nat.add_zero]; omega
  · simp only [List.length_nil, Nat.add_zero, List.map_nil, List.nil_append]
    rw [Nat.mod_eq_of_lt hh]
  rintro x s w1 K ⟨cs, M, g, rfl, hM, hbel, hrun⟩ hK
  have f1 := g.lo.fr
  have hlen := g.len
  refine callP_of (Believed_spec (h := (h + M.length) % 18446744073709551616) (hC.fr0 f1) hb) ?_
  rintro v w2 ⟨f2, ⟨hno, rfl⟩ | ⟨t, l, hyes, rfl, hby, hfr, hll⟩⟩
  · refine ⟨⟨none, 0, 0⟩, false, rfl, br_true rfl ?_⟩
    refine hQ w2 s cs M (g.keep f2) ?_
    rw [hrun, show 21 - M.length = (20 - M.length) + 1 by omega, runG_one, hno]
    simp
  · refine ⟨t, true, rfl, br_false rfl ?_⟩
    have hlt : M.length < 20 := by
      refine Nat.lt_of_not_le fun hle => ?_
      have hsub : ∀ y ∈ (List.range (M.length + 1)).map (fun k => (h + k) % 18446744073709551616), y ∈ (hs.map Hr.ab).map (·.h) := by
        intro y hy
        obtain ⟨k, hk, rfl⟩ := List.mem_map.mp hy
        have hk := List.mem_range.mp hk
        rcases Nat.lt_or_ge k M.length with h1 | h1
        · obtain ⟨l', hl'⟩ := Option.isSome_iff_exists.mp (hbel k h1)
          exact believed_mem hl'
        · have : k = M.length := by omega
          subst this
          exact believed_mem hyes
      have hnd : ((List.range (M.length + 1)).map fun k => (h + k) % 18446744073709551616).Nodup := by
        rw [List.nodup_iff_pairwise_ne, List.pairwise_map]
        refine List.Pairwise.imp_of_mem ?_ List.pairwise_lt_range
        intro a b ha hb hab e
        have := List.mem_range.mp ha
        have := List.mem_range.mp hb
        omega
      have := sub_len hnd hsub
      simp only [List.length_map, List.length_range] at this
      omega
    have g2 := g.keep f2
    refine g2.push (t := t) (l := l) hby (fun c hc hs' => ?_) (by omega) fun s' cs' w3 g3 f3 hin => ?_
    · have h1 := hfr.ge hc
      have h2 := (g.lt hs').2
      omega
    · refine hK _ _ _ ⟨cs', M ++ [(t, l)], g3, ?_, by simp; omega, ?_, ?_⟩ ?_
      · rw [w_u64, List.length_append, List.length_singleton]; omega
      · intro k hk
        rw [List.length_append, List.length_singleton] at hk
        rcases Nat.lt_or_ge k M.length with h1 | h1
        · exact hbel k h1
        · have : k = M.length := by omega
          subst this
          rw [hyes]; rfl
      · rw [hrun, show 21 - M.length = (20 - M.length) + 1 by omega, runG_one, hyes]
        simp only [List.map_append, List.map_cons, List.map_nil, List.append_assoc, List.cons_append, List.nil_append, List.length_append, List.length_singleton]
        congr 3
        · omega
        · omega
      · have hl3 := g3.len
        rw [List.length_append, List.length_singleton] at hl3
        dsimp only
        omega
end Go.Proofs.YtpcgkfgppfjnlaaGreatDoor.V
namespace Go.Proofs.YtpcgkfgppfjnlaaGreatDoor.V
open Go Go.RowKit
variable {S : Nat → Prop} {w0 w : World} {Q : Value → World → Prop}

theorem take_snoc {α : Type} {l : List α} {i : Nat} {x : α} (h : l[i]? = some x) : l.take (i + 1) = l.take i ++ [x] := by
  rw [List.take_add_one, h]; rfl
theorem Same_spec {s t : Sl} {l k : List UInt8} (h : By w s l) (h2 : By w t k) (hn : l.length < 4611686018427387904) :
    callP Tryz.prog 13 #[s.v, t.v] w fun v w' => v = .bool (decide (l = k)) ∧ Fr F0 w w' := by
  suffices H : ∀ Q : Value → World → Prop, (∀ w', Fr F0 w w' → Q (.bool (decide (l = k))) w') → callP Tryz.prog 13 #[s.v, t.v] w Q from H _ fun w' f => ⟨rfl, f⟩
  intro Q hQ
  have e1 := h.len
  have e2 := h2.len
  refine sortitionref01_Same_ok ?_
  unfold sortitionref01_Same
  refine br_ne (fun hne => ?_) fun heq => ?_
  · have : l ≠ k := by rintro rfl; omega
    rw [decide_eq_false this] at hQ
    exact hQ w (.refl w)
  · refine ⟨fun i w' => Fr F0 w w' ∧ 0 ≤ i ∧ i ≤ s.len ∧ l.take i.toNat = k.take i.toNat, fun i _ => (s.len - i).toNat, ⟨.refl w, by omega, by omega, by simp⟩, ?_⟩
    rintro i w1 K ⟨f1, hi1, hi2, heq2⟩ hK
    refine br_lt (fun hlt => ?_) fun hge => ?_
    · have fd := (Fr.refl (S := F0) w1).drw (w1.drawn + 1)
      unfold dr
      generalize drw w1 (w1.drawn + 1) = w2 at *
      have f2 := f1.trans0 fd
      refine ⟨⟨hi1, hlt⟩, By.rd (h.fr0 f2) hi1 hlt fun x hx => ⟨⟨hi1, by omega⟩, By.rd (h2.fr0 f2) hi1 (by omega) fun y hy => ?_⟩⟩
      refine br_ne (fun hne => ?_) fun hxy => ?_
      · have : l ≠ k := by
          rintro rfl
          rw [hx] at hy
          exact hne (by rw [Option.some.inj hy])
        rw [decide_eq_false this] at hQ
        exact hQ _ f2
      · rw [w_i64 (by omega) (by omega)]
        have hxy : x = y := UInt8.toNat_inj.mp (by omega)
        refine hK _ _ ⟨f2, by omega, by omega, ?_⟩ (by dsimp only; omega)
        rw [show (i + 1).toNat = i.toNat + 1 by omega, take_snoc hx, take_snoc hy, heq2, hxy]
    · have : l = k := by
        rw [List.take_of_length_le (by omega), List.take_of_length_le (by omega)] at heq2
        exact heq2
      rw [decide_eq_true this] at hQ
      exact hQ _ f1

theorem Lists_spec {s t : Sl} {M N : List (Sl × List UInt8)} (h : Bs w s M) (h2 : Bs w t N) (hn : M.length < 4611686018427387904) (hs : ∀ p ∈ M, p.2.length < 4611686018427387904) :
    callP Tryz.prog 19 #[s.v, t.v] w fun v w' => v = .bool (decide (M.map (·.2) = N.map (·.2))) ∧ Fr F0 w w' := by
  suffices H : ∀ Q : Value → World → Prop, (∀ w', Fr F0 w w' → Q (.bool (decide (M.map (·.2) = N.map (·.2)))) w') → callP Tryz.prog 19 #[s.v, t.v] w Q from H _ fun w' f => ⟨rfl, f⟩
  intro Q hQ
  have e1 := h.len
  have e2 := h2.len
  refine sortitionref11_Lists_ok ?_
  unfold sortitionref11_Lists
  refine br_ne (fun hne => ?_) fun heq => ?_
  · have : M.map (·.2) ≠ N.map (·.2) := by
      intro e
      have := congrArg List.length e
      simp only [List.length_map] at this
      omega
    rw [decide_eq_false this] at hQ
    exact hQ w (.refl w)
  · refine ⟨fun i w' => Fr F0 w w' ∧ 0 ≤ i ∧ i ≤ s.len ∧ (M.map (·.2)).take i.toNat = (N.map (·.2)).take i.toNat, fun i _ => (s.len - i).toNat, ⟨.refl w, by omega, by omega, by simp⟩, ?_⟩
    rintro i w1 K ⟨f1, hi1, hi2, heq2⟩ hK
    refine br_lt (fun hlt => ?_) fun hge => ?_
    · have fd := (Fr.refl (S := F0) w1).drw (w1.drawn + 1)
      unfold dr
      generalize drw w1 (w1.drawn + 1) = w2 at *
      have f2 := f1.trans0 fd
      refine ⟨⟨hi1, hlt⟩, (h.fr0 f2).rd hi1 hlt fun x l hx hbx => ⟨⟨hi1, by omega⟩, (h2.fr0 f2).rd hi1 (by omega) fun y k hy hby => ?_⟩⟩
      refine callP_of (Same_spec (s := x) (t := y) hbx hby (hs _ (List.mem_of_getElem? hx))) ?_
      rintro v w3 ⟨rfl, f3⟩
      have f03 := f2.trans0 f3
      refine ⟨_, rfl, br_not (br_dec (fun hlk => ?_) fun hlk => ?_)⟩
      · rw [w_i64 (by omega) (by omega)]
        refine hK _ _ ⟨f03, by omega, by omega, ?_⟩ (by dsimp only; omega)
        have hx' : (M.map (·.2))[i.toNat]? = some l := by rw [List.getElem?_map, hx]; rfl
        have hy' : (N.map (·.2))[i.toNat]? = some k := by rw [List.getElem?_map, hy]; rfl
        rw [show (i + 1).toNat = i.toNat + 1 by omega, take_snoc hx', take_snoc hy', heq2, hlk]
      · have : M.map (·.2) ≠ N.map (·.2) := by
          intro e
          have h1 : (M.map (·.2))[i.toNat]? = some l := by rw [List.getElem?_map, hx]; rfl
          have h2 : (N.map (·.2))[i.toNat]? = some k := by rw [List.getElem?_map, hy]; rfl
          rw [e, h2] at h1
          exact hlk (Option.some.inj h1).symm
        rw [decide_eq_false this] at hQ
        exact hQ _ f03
    · have : M.map (·.2) = N.map (·.2) := by
        rw [List.take_of_length_le (by simp; omega), List.take_of_length_le (by simp; omega)] at heq2
        exact heq2
      rw [decide_eq_true this] at hQ
      exact hQ _ f1

theorem rSum_spec {s : Sl} {l : List Nat} (h : Wd w s l) (hn : l.length < 4611686018427387904) :
    callP Tryz.prog 16 #[s.v] w fun v w' => v = .int .u64 ((l.sum % 18446744073709551616 : Nat) : Int) ∧ w' = w := by
  have e1 := h.len
  refine sortitionref12_Sum_ok ?_
  unfold sortitionref12_Sum
  refine ⟨fun x i w' => w' = w ∧ 0 ≤ i ∧ i ≤ s.len ∧ x = (((l.take i.toNat).sum % 18446744073709551616 : Nat) : Int), fun _ i _ => (s.len - i).toNat, ⟨rfl, by omega, by omega, by simp⟩, ?_⟩
  rintro x i w1 K ⟨rfl, hi1, hi2, rfl⟩ hK
  refine br_lt (fun hlt => ?_) fun hge => ?_
  · refine ⟨⟨hi1, hlt⟩, h.rd hi1 hlt fun n hn' => ?_⟩
    rw [w_i64 (by omega) (by omega)]
    refine hK _ _ _ ⟨rfl, by omega, by omega, ?_⟩ (by dsimp only; omega)
    rw [show (i + 1).toNat = i.toNat + 1 by omega, take_snoc hn', List.sum_append, w_u64]
    simp only [List.sum_cons, List.sum_nil]
    omega
  · rw [List.take_of_length_le (by omega)]
    exact ⟨rfl, rfl⟩

theorem In_spec {s t : Sl} {M : List (Sl × List UInt8)} {k : List UInt8} (h : Bs w s M) (h2 : By w t k) (hn : M.length < 4611686018427387904) (hs : ∀ p ∈ M, p.2.length < 4611686018427387904) :
    callP Tryz.prog 71 #[s.v, t.v] w fun v w' => v = .bool (decide (k ∈ M.map (·.2))) ∧ Fr F0 w w' := by
  suffices H : ∀ Q : Value → World → Prop, (∀ w', Fr F0 w w' → Q (.bool (decide (k ∈ M.map (·.2)))) w') → callP Tryz.prog 71 #[s.v, t.v] w Q from H _ fun w' f => ⟨rfl, f⟩
  intro Q hQ
  have e1 := h.len
  refine sortitionref17_In_ok ?_
  unfold sortitionref17_In
  refine ⟨fun i w' => Fr F0 w w' ∧ 0 ≤ i ∧ i ≤ s.len ∧ k ∉ (M.map (·.2)).take i.toNat, fun i _ => (s.len - i).toNat, ⟨.refl w, by omega, by omega, by simp⟩, ?_⟩
  rintro i w1 K ⟨f1, hi1, hi2, hno⟩ hK
  refine br_lt (fun hlt => ?_) fun hge => ?_
  · refine ⟨⟨hi1, hlt⟩, (h.fr0 f1).rd hi1 hlt fun x l hx hbx => ?_⟩
    refine callP_of (Same_spec (s := x) (t := t) hbx (h2.fr0 f1) (hs _ (List.mem_of_getElem? hx))) ?_
    rintro v w3 ⟨rfl, f3⟩
    have hx' : (M.map (·.2))[i.toNat]? = some l := by rw [List.getElem?_map, hx]; rfl
    refine ⟨_, rfl, br_dec (fun hlk => ?_) fun hlk => ?_⟩
    · rw [decide_eq_true (hlk ▸ List.mem_of_getElem? hx')] at hQ
      exact hQ _ (f1.trans0 f3)
    · rw [w_i64 (by omega) (by omega)]
      refine hK _ _ ⟨f1.trans0 f3, by omega, by omega, ?_⟩ (by dsimp only; omega)
      rw [show (i + 1).toNat = i.toNat + 1 by omega, take_snoc hx']
      intro hm
      rcases List.mem_append.mp hm with hm | hm
      · exact hno hm
      · simp at hm; exact hlk hm.symm
  · rw [List.take_of_length_le (by simp; omega)] at hno
    rw [decide_eq_false hno] at hQ
    exact hQ _ f1

theorem rtwice_spec {s : Sl} {M : List (Sl × List UInt8)} (h : Bs w s M) (hn : M.length < 4611686018427387904) (hs : ∀ p ∈ M, p.2.length < 4611686018427387904) :
    callP Tryz.prog 45 #[s.v] w fun v w' => v = .bool (dup (M.map (·.2))) ∧ Fr F0 w w' := by
  suffices H : ∀ Q : Value → World → Prop, (∀ w', Fr F0 w w' → Q (.bool (dup (M.map (·.2)))) w') → callP Tryz.prog 45 #[s.v] w Q from H _ fun w' f => ⟨rfl, f⟩
  intro Q hQ
  have e1 := h.len
  have hcap := h.1.2.1
  refine sortitionref17_twice_ok ?_
  unfold sortitionref17_twice
  refine ⟨fun i w' => Fr F0 w w' ∧ 0 ≤ i ∧ i ≤ s.len ∧ ∀ j, j < i.toNat → (M.map (·.2)).getD j [] ∉ (M.map (·.2)).take j, fun i _ => (s.len - i).toNat, ⟨.refl w, by omega, by omega, fun j hj => by omega⟩, ?_⟩
  rintro i w1 K ⟨f1, hi1, hi2, hno⟩ hK
  refine br_lt (fun hlt => ?_) fun hge => ?_
  · have fd := (Fr.refl (S := F0) w1).drw (w1.drawn + 1)
    unfold dr
    generalize drw w1 (w1.drawn + 1) = w2 at *
    have f2 := f1.trans0 fd
    refine ⟨⟨hi1, by omega⟩, ⟨hi1, hlt⟩, (h.fr0 f2).rd hi1 hlt fun x l hx hbx => ?_⟩
    have hc := (h.fr0 f2).cut (i := i.toNat) (by omega)
    refine callP_of (In_spec (s := ⟨cutAt s.p s.cap 0 1, i.toNat, s.cap⟩) (t := x) hc hbx (by simp; omega) fun p hp => hs p (List.mem_of_mem_take hp)) ?_
    rintro v w3 ⟨rfl, f3⟩
    have hget : (M.map (·.2)).getD i.toNat [] = l := by rw [List.getD_eq_getElem?_getD, List.getElem?_map, hx]; rfl
    rw [List.map_take]
    refine ⟨_, rfl, br_dec (fun hin => ?_) fun hin => ?_⟩
    · have : dup (M.map (·.2)) = true := by
        unfold dup
        rw [List.any_eq_true]
        exact ⟨i.toNat, List.mem_range.mpr (by simp; omega), by rw [hget]; simpa using hin⟩
      rw [this] at hQ
      exact hQ _ (f2.trans0 f3)
    · rw [w_i64 (by omega) (by omega)]
      refine hK _ _ ⟨f2.trans0 f3, by omega, by omega, fun j hj => ?_⟩ (by dsimp only; omega)
      rcases Nat.lt_or_ge j i.toNat with h1 | h1
      · exact hno j h1
      · have : j = i.toNat := by omega
        subst this
        rw [hget]; exact hin
  · have : dup (M.map (·.2)) = false := by
      unfold dup
      rw [List.any_eq_false]
      intro j hj
      have := List.mem_range.mp hj
      simp only [List.length_map] at this
      simpa using hno j (by omega)
    rw [this] at hQ
    exact hQ _ f1
end Go.Proofs.YtpcgkfgppfjnlaaGreatDoor.V
namespace Go.Proofs.YtpcgkfgppfjnlaaGreatDoor.V
open Go Go.RowKit
variable {S : Nat → Prop} {w0 w : World} {Q : Value → World → Prop}

theorem sizeT_u8 : sizeT Tryz.prog 5 = some 1 := by kernel_rfl
theorem zeroT_u8 : zeroT Tryz.prog 5 = some (.int .u8 0) := by kernel_rfl
theorem bytes_u8 : (Tryz.prog.info? 5).map (·.bytes) = some 1 := by kernel_rfl
/-- new bytes that grow -/
structure GY (w0 w : World) (s : Sl) (l : List UInt8) : Prop where
  ex : ∃ cs, Lo F0 w0 w (gl s cs) ∧ Gs s 1 cs (bv l)
theorem GY.by {s : Sl} {l : List UInt8} (h : GY w0 w s l) : By w s l := by
  obtain ⟨cs, m, g⟩ := h.ex
  exact g.slc (L := []) (M := []) (by simpa using m)
theorem GY.len {s : Sl} {l : List UInt8} (h : GY w0 w s l) : s.len = l.length := By.len h.by
theorem GY.keep {w' : World} {s : Sl} {l : List UInt8} (h : GY w0 w s l) (f : Fr F0 w w') : GY w0 w' s l :=
  let ⟨cs, m, g⟩ := h.ex; ⟨cs, m.keep f, g⟩
theorem GY.fr {s : Sl} {l : List UInt8} (h : GY w0 w s l) : Fr F0 w0 w := let ⟨_, m, _⟩ := h.ex; m.fr
theorem GY.fresh {s : Sl} {l : List UInt8} (h : GY w0 w s l) : s.fresh w0 := by
  obtain ⟨cs, m, g⟩ := h.ex
  intro a ha hc
  have hm : (a.block, Bk.cs cs) ∈ gl s cs := by unfold gl; rw [ha]; simp [hc]
  exact (m.new _ hm).resolve_left id
theorem GY.old {w1 : World} {s : Sl} {l : List UInt8} (h : GY w0 w s l) (f : Fr F0 w1 w0) : GY w1 w s l := by
  obtain ⟨cs, m, g⟩ := h.ex
  exact ⟨cs, ⟨f.trans0 m.fr, m.has, fun p hp => .inr (by have := (m.new p hp).resolve_left id; have := f.size; omega), m.nd⟩, g⟩
theorem GY.nil {f : Fr F0 w0 w} : GY w0 w ⟨none, 0, 0⟩ [] := ⟨[], (Lo.start w0).keep f, Gs.nil 1⟩
/-- a new block of bytes -/
theorem GY.new {b : Nat} {l : List UInt8} (f : Fr F0 w0 w) (hb : w0.heap.size ≤ b) (h : Own w b (bv l)) : GY w0 w ⟨some ⟨b, 0, none⟩, l.length, l.length⟩ l :=
  ⟨bv l, ⟨f, fun p hp => by rw [gl_sub hp]; exact h, fun p hp => .inr (by rw [gl_sub hp]; exact hb), gl_nd⟩, Gs.block (by rw [bv_len, Nat.mul_one])⟩
set_option maxRecDepth 4000 in
theorem GY.app {s t : Sl} {l k : List UInt8} {K : Sl → World → Prop} (h : GY w0 w s l) (ht : By w t k) (hn : l.length + k.length ≤ 1099511627776)
    (hK : ∀ s' w', GY w0 w' s' (l ++ k) → Fr (fun c => s.in (· = c)) w w' → (∀ c, s'.in (· = c) → s.in (· = c) ∨ w.heap.size ≤ c) → K s' w') : appP Tryz.prog 5 w s (.slice t.p t.len t.cap) K := by
  have h1 := h.len
  have h2 := By.len ht
  obtain ⟨cs, m, g⟩ := h.ex
  refine Lo.app (L := []) (M := []) (s := s) (cs := cs) (us := bv k) (by simpa using m) g sizeT_u8 bytes_u8 zeroT_u8 rfl (by decide) (by decide) (SlC.src ht) (by rw [bv_len]; simp only [lenV]; omega) (bv_scal k) (by simp only [lenV]; omega) (by decide) ?_
  intro s' cs' w5 m5 g5 hl5 f5 hin5
  exact hK s' w5 ⟨cs', by simpa using m5, by rw [bv_app]; exact g5⟩ f5 hin5

def digs : Nat → Nat → List UInt8 → List UInt8
  | 0, _, acc => acc
  | f + 1, n, acc => if n = 0 then acc else digs f (n / 256) (UInt8.ofNat n :: acc)
theorem digs_zero : ∀ (f : Nat) (acc : List UInt8), digs f 0 acc = acc
  | 0, _ => rfl
  | _ + 1, _ => by simp [digs]
theorem digs_len : ∀ (f n : Nat) (acc : List UInt8), (digs f n acc).length ≤ f + acc.length
  | 0, _, _ => by simp [digs]
  | f + 1, n, acc => by
    unfold digs
    split
    · omega
    · have := digs_len f (n / 256) (UInt8.ofNat n :: acc)
      simp only [List.length_cons] at this
      omega
/-- a small number as bytes -/
def smallB (n : Nat) : List UInt8 := UInt8.ofNat (digs 8 n []).length :: digs 8 n []
theorem smallB_len (n : Nat) : (smallB n).length ≤ 9 := by
  have := digs_len 8 n []
  unfold smallB
  simp only [List.length_cons, List.length_nil] at *
  omega
theorem u8_wrap (n : Nat) : IntKind.wrap .u8 (n : Int) = ((UInt8.ofNat n).toNat : Int) := by
  rw [w_u8]
  simp
set_option maxRecDepth 4000 in
theorem rSmall_spec {n : Nat} (hn : n < 18446744073709551616) :
    callP Tryz.prog 46 #[.int .u64 (n : Int)] w fun v w' => ∃ s : Sl, v = s.v ∧ GY w w' s (smallB n) := by
  suffices H : ∀ Q : Value → World → Prop, (∀ s w', GY w w' s (smallB n) → Q s.v w') → callP Tryz.prog 46 #[.int .u64 (n : Int)] w Q from H _ fun s w' h => ⟨s, rfl, h⟩
  intro Q hQ
  refine sortitionref08_Small_ok ?_
  unfold sortitionref08_Small
  refine ⟨fun x s w' => ∃ (k m : Nat) (l : List UInt8), x = (m : Int) ∧ k ≤ 8 ∧ m < 256 ^ k ∧ l.length + k = 8 ∧ GY w w' s l ∧ digs 8 n [] = digs k m l, fun x _ _ => x.toNat, ⟨8, n, [], rfl, by omega, by simpa using hn, rfl, GY.nil (f := .refl w), rfl⟩, ?_⟩
  rintro x s w1 K ⟨k, m, l, rfl, hk, hm, hlk, g, hd⟩ hK
  refine br_gt (fun hgt => ?_) fun hle => ?_
  · cases k with
    | zero => simp at hm; omega
    | succ k =>
      have hmod : IntKind.wrap .u8 (Int.tmod (m : Int) 256) = ((UInt8.ofNat m).toNat : Int) := by
        rw [w_u8, Int.tmod_eq_emod_of_nonneg (by omega)]
        simp
      have hdiv : IntKind.wrap .u64 (Int.tdiv (m : Int) 256) = ((m / 256 : Nat) : Int) := by
        rw [w_u64, Int.tdiv_eq_ediv_of_nonneg (by omega)]
        have : m < 18446744073709551616 := Nat.lt_of_lt_of_le hm (by
          have := Nat.pow_le_pow_right (n := 256) (by decide) hk
          exact this)
        omega
      rw [hmod, hdiv]
      refine ⟨by decide, ?_⟩
      refine al_cells (cs := [.int .u8 ((UInt8.ofNat m).toNat : Int)]) fun b w2 hb f2 _ o2 => ?_
      have f1 := g.fr
      have := f1.size
      have g2 := GY.new (w0 := w) (l := [UInt8.ofNat m]) (f1.trans0 f2) (by omega) o2
      refine GY.app g2 (k := l) ((g.keep f2).by) (by simp only [List.length_singleton]; omega) fun s' w3 g3 _ _ => ⟨by decide, ?_⟩
      refine hK _ _ _ ⟨k, m / 256, UInt8.ofNat m :: l, rfl, by omega, ?_, by simp only [List.length_cons]; omega, g3, ?_⟩ ?_
      · rw [Nat.div_lt_iff_lt_mul (by decide)]
        rw [Nat.pow_succ] at hm; exact hm
      · rw [hd]
        conv => lhs; unfold digs
        rw [if_neg (by omega)]
      · dsimp only
        omega
  · have hm0 : m = 0 := by omega
    subst hm0
    rw [digs_zero] at hd
    have hl := g.len
    have hw : IntKind.wrap .u8 ((s.len : Nat) : Int) = ((UInt8.ofNat l.length).toNat : Int) := by rw [hl, u8_wrap]
    rw [hw]
    refine al_cells (cs := [.int .u8 ((UInt8.ofNat l.length).toNat : Int)]) fun b w2 hb f2 _ o2 => ?_
    have f1 := g.fr
    have := f1.size
    have g2 := GY.new (w0 := w) (l := [UInt8.ofNat l.length]) (f1.trans0 f2) (by omega) o2
    refine GY.app g2 (k := l) ((g.keep f2).by) (by simp only [List.length_singleton]; omega) fun s' w3 g3 _ _ => hQ s' w3 ?_
    have e : smallB n = [UInt8.ofNat l.length] ++ l := by unfold smallB; rw [hd]; rfl
    rw [e]; exact g3
/-- bytes with their number ahead -/
def bytesB (l : List UInt8) : List UInt8 := smallB l.length ++ l
set_option maxRecDepth 8000 in
theorem rBytes_spec {s : Sl} {l : List UInt8} (h : By w s l) (hn : l.length < 1000000000000) :
    callP Tryz.prog 47 #[s.v] w fun v w' => ∃ t : Sl, v = t.v ∧ GY w w' t (bytesB l) := by
  refine sortitionref08_Bytes_ok ?_
  unfold sortitionref08_Bytes
  have hw : IntKind.wrap .u64 ((s.len : Nat) : Int) = (l.length : Int) := by rw [By.len h, w_u64]; omega
  rw [hw]
  refine callP_of (rSmall_spec (n := l.length) (by omega)) ?_
  rintro v w1 ⟨r, rfl, g⟩
  have := smallB_len l.length
  exact ⟨r, rfl, GY.app g (k := l) (h.fr0 g.fr) (by omega) fun s' w2 g2 _ _ => ⟨s', rfl, g2⟩⟩

/-- a block's bytes, or why there are none -/
def packB (h : Nat) (ls : List (List UInt8)) : List UInt8 × Int :=
  if ls.length > 10 ∨ ls.any (fun l => decide (l.length < 1 ∨ l.length > 1000)) then ([], 2) else if dup ls then ([], 13) else (smallB h ++ smallB ls.length ++ (ls.map bytesB).flatten, 0)
theorem any_take {α : Type} {p : α → Bool} {l : List α} {i : Nat} {x : α} (h : l[i]? = some x) : (l.take (i + 1)).any p = ((l.take i).any p || p x) := by
  rw [take_snoc h, List.any_append]; simp
set_option maxRecDepth 8000 in
theorem Pack_spec {s : Sl} {M : List (Sl × List UInt8)} {h : Nat} (hm : Bs w s M) (hh : h < 18446744073709551616) (hM : M.length < 1000000) (_hl : ∀ p ∈ M, p.2.length < 1000000000000) :
    callP Tryz.prog 26 #[.int .u64 (h : Int), s.v] w fun v w' => ∃ t : Sl, v = .tuple #[t.v, .int .i64 (packB h (M.map (·.2))).2] ∧ GY w w' t (packB h (M.map (·.2))).1 := by
  suffices H : ∀ Q : Value → World → Prop, (∀ t w', GY w w' t (packB h (M.map (·.2))).1 → Q (.tuple #[Sl.v t, .int .i64 (packB h (M.map (·.2))).2]) w') → callP Tryz.prog 26 #[.int .u64 (h : Int), s.v] w Q from H _ fun t w' g => ⟨t, rfl, g⟩
  intro Q hQ
  have e1 := hm.len
  refine sortitionref17_Pack_ok ?_
  unfold sortitionref17_Pack
  have bad : ∀ w', Fr F0 w w' → (M.length > 10 ∨ (M.map (·.2)).any (fun l => decide (l.length < 1 ∨ l.length > 1000)) = true) → Q (.tuple #[.slice none 0 0, .int .i64 2]) w' := by
    intro w' f hb
    have e : packB h (M.map (·.2)) = ([], 2) := by
      unfold packB
      rw [if_pos (by simpa using hb)]
    have := hQ ⟨none, 0, 0⟩ w'
    rw [e] at this
    exact this (GY.nil (f := f))
  refine br_gt (fun hgt => bad w (.refl w) (.inl (by omega))) fun hle => ?_
  refine ⟨fun i w' => w' = w ∧ 0 ≤ i ∧ i ≤ s.len ∧ ((M.map (·.2)).take i.toNat).any (fun l => decide (l.length < 1 ∨ l.length > 1000)) = false, fun i _ => (s.len - i).toNat, ⟨rfl, by omega, by omega, by simp⟩, ?_⟩
  rintro i w1 K ⟨rfl, hi1, hi2, hany⟩ hK
  refine br_lt (fun hlt => ?_) fun hge => ?_
  · refine ⟨⟨hi1, hlt⟩, hm.rd hi1 hlt fun x l hx hbx => ?_⟩
    have hx' : (M.map (·.2))[i.toNat]? = some l := by rw [List.getElem?_map, hx]; rfl
    have hlx := By.len hbx
    have badl : (l.length < 1 ∨ l.length > 1000) → (M.map (·.2)).any (fun l => decide (l.length < 1 ∨ l.length > 1000)) = true := by
      intro hb
      rw [List.any_eq_true]
      exact ⟨l, List.mem_of_getElem? hx', by simpa using hb⟩
    refine br_lt (fun h1 => bad _ (.refl _) (.inr (badl (by omega)))) fun h1 => ⟨⟨hi1, hlt⟩, hm.rd hi1 hlt fun x' l' hx2 hbx2 => ?_⟩
    rw [hx] at hx2
    obtain ⟨rfl, rfl⟩ : x = x' ∧ l = l' := by simpa using hx2
    refine br_gt (fun h2 => bad _ (.refl _) (.inr (badl (by omega)))) fun h2 => ?_
    rw [w_i64 (by omega) (by omega)]
    refine hK _ _ ⟨rfl, by omega, by omega, ?_⟩ (by dsimp only; omega)
    rw [show (i + 1).toNat = i.toNat + 1 by omega, any_take hx', hany]
    have : ¬ (l.length < 1 ∨ l.length > 1000) := by omega
    simpa using this
  · rw [List.take_of_length_le (by simp; omega)] at hany
    have hp1 : ¬ ((M.map (·.2)).length > 10 ∨ (M.map (·.2)).any (fun l => decide (l.length < 1 ∨ l.length > 1000)) = true) := by
      rw [hany]; simp; omega
    have hsm : ∀ p ∈ M, p.2.length ≤ 1000 := by
      intro p hp
      rw [List.any_eq_false] at hany
      have := hany p.2 (List.mem_map.mpr ⟨p, hp, rfl⟩)
      simp at this
      omega
    refine callP_of (rtwice_spec hm (by omega) fun p hp => by have := hsm p hp; omega) ?_
    rintro v w2 ⟨rfl, f2⟩
    refine ⟨_, rfl, br_of (fun hd => ?_) fun hd => ?_⟩
    · have e : packB h (M.map (·.2)) = ([], 13) := by
        unfold packB
        rw [if_neg hp1, if_pos hd]
      have := hQ ⟨none, 0, 0⟩ w2
      rw [e] at this
      exact this (GY.nil (f := f2))
    · have e : packB h (M.map (·.2)) = (smallB h ++ smallB M.length ++ ((M.map (·.2)).map bytesB).flatten, 0) := by
        unfold packB
        rw [if_neg hp1, if_neg (by rw [hd]; decide), List.length_map]
      rw [e] at hQ
      have hm2 := hm.fr0 f2
      refine callP_of (rSmall_spec hh) ?_
      rintro v w3 ⟨r, rfl, g3⟩
      refine ⟨r, rfl, ?_⟩
      have hw : IntKind.wrap .u64 ((s.len : Nat) : Int) = (M.length : Int) := by rw [e1, w_u64]; omega
      rw [hw]
      refine callP_of (rSmall_spec (n := M.length) (by omega)) ?_
      rintro v w4 ⟨r2, rfl, g4⟩
      refine ⟨r2, rfl, ?_⟩
      have l1 := smallB_len h
      have l2 := smallB_len M.length
      refine GY.app (g3.keep g4.fr) g4.by (by omega) fun s5 w5 g5 f5 _ => ?_
      have g5 := g5.old f2
      have hbl : ∀ l : List UInt8, l.length ≤ 1000 → (bytesB l).length ≤ 1009 := fun l hl => by
        unfold bytesB; rw [List.length_append]; have := smallB_len l.length; omega
      have hfl : ∀ k, ((((M.map (·.2)).map bytesB).take k).flatten).length ≤ k * 1009 := by
        intro k
        induction k with
        | zero => simp
        | succ k ih =>
          rcases Nat.lt_or_ge k M.length with hk | hk
          · have hx : ((M.map (·.2)).map bytesB)[k]? = some (bytesB (M[k]).2) := by simp [hk]
            rw [take_snoc hx, List.flatten_append, List.length_append]
            have := hbl _ (hsm _ (List.getElem_mem hk))
            simp only [List.flatten_cons, List.flatten_nil, List.append_nil]
            omega
          · rw [List.take_of_length_le (by simp; omega)] at ih ⊢
            omega
      refine ⟨fun s' i w' => 0 ≤ i ∧ i ≤ s.len ∧ GY w1 w' s' (smallB h ++ smallB M.length ++ (((M.map (·.2)).map bytesB).take i.toNat).flatten), fun _ i _ => (s.len - i).toNat, ⟨by omega, by omega, by simpa using g5⟩, ?_⟩
      rintro s6 i w6 K ⟨hi1, hi2, g6⟩ hK
      have f6 := g6.fr
      have hm6 := hm.fr0 f6
      refine br_lt (fun hlt => ?_) fun hge => ?_
      · refine ⟨⟨hi1, by omega⟩, hm6.rd hi1 (by omega) fun x l hx hbx => ?_⟩
        have hl' := hsm _ (List.mem_of_getElem? hx)
        refine callP_of (rBytes_spec (s := x) hbx (by simp only at hl'; omega)) ?_
        rintro v w7 ⟨r7, rfl, g7⟩
        refine ⟨r7, rfl, ?_⟩
        have hb7 := hbl l hl'
        have hf7 := hfl i.toNat
        refine GY.app (g6.keep g7.fr) g7.by (by simp only [List.length_append] at *; omega) fun s8 w8 g8 _ _ => ?_
        rw [w_i64 (by omega) (by omega)]
        refine hK _ _ _ ⟨by omega, by omega, ?_⟩ (by dsimp only; omega)
        have hx' : ((M.map (·.2)).map bytesB)[i.toNat]? = some (bytesB l) := by rw [List.getElem?_map, List.getElem?_map, hx]; rfl
        rw [show (i + 1).toNat = i.toNat + 1 by omega, take_snoc hx', List.flatten_append, ← List.append_assoc]
        simpa using g8
      · rw [List.take_of_length_le (by simp; omega)] at g6
        exact hQ s6 w6 g6
/-- a block of a height, with one thing, if it has some -/
def blockB (h : Nat) (b : List UInt8) : List UInt8 := (packB h (if b.length > 0 then [b] else [])).1
theorem block_spec {s : Sl} {l : List UInt8} {h : Nat} (hb : By w s l) (hh : h < 18446744073709551616) (hl : l.length < 1000000000000) :
    callP Tryz.prog 9 #[.int .u64 (h : Int), s.v] w fun v w' => ∃ t : Sl, v = t.v ∧ GY w w' t (blockB h l) := by
  have e1 := By.len hb
  refine sortitionlaw19_block_ok ?_
  unfold sortitionlaw19_block
  unfold blockB
  refine br_gt (fun hgt => ?_) fun hle => ?_
  · rw [if_pos (by omega)]
    refine al_cells (cs := [s.v]) fun b w1 hb1 f1 _ o1 => ?_
    have hm : Bs w1 ⟨some ⟨b, 0, none⟩, 1, 1⟩ [(s, l)] := ⟨⟨rfl, Nat.le_refl _, fun _ => ⟨rfl, o1.lt, Own.at o1 (by intro i hi; simp)⟩⟩, by simpa using hb.fr0 f1⟩
    refine callP_of (Pack_spec (s := ⟨some ⟨b, 0, none⟩, 1, 1⟩) hm hh (by simp) (by simpa using hl)) ?_
    rintro v w2 ⟨t, rfl, g⟩
    exact ⟨t, _, rfl, t, rfl, g.old f1⟩
  · rw [if_neg (by omega)]
    have hm : Bs w ⟨none, 0, 0⟩ [] := ⟨⟨rfl, Nat.le_refl _, rfl⟩, by simp⟩
    refine callP_of (Pack_spec (s := ⟨none, 0, 0⟩) hm hh (by simp) (by simp)) ?_
    rintro v w2 ⟨t, rfl, g⟩
    exact ⟨t, _, rfl, t, rfl, g⟩
end Go.Proofs.YtpcgkfgppfjnlaaGreatDoor.V
namespace Go.Proofs.YtpcgkfgppfjnlaaGreatDoor.V
open Go Go.RowKit
variable {S : Nat → Prop} {w0 w : World} {Q : Value → World → Prop}

/-- one cell of a slice of elements of a size -/
theorem SlC.rdAt {s : Sl} {sz : Nat} {vs : List Value} (h : SlC w s sz vs) {i : Int} {o : Nat} (hi : 0 ≤ i) (hi2 : i < s.len) (_ho : o < sz) {k : Kd} {K : KT k → Prop} {x : KT k} {v : Value} (hk : cellsK k x = [v]) (hv : vs[i.toNat * sz + o]? = some v) (hK : K x) :
    nn s.p fun a => V.rd k w (Addr.add (Addr.add a (i.toNat * sz)) o) 0 K := by
  obtain ⟨p, n, c⟩ := s
  obtain ⟨h1, h2, h3⟩ := h
  cases p with
  | none => simp only at h3 h2 hi2; omega
  | some a =>
    have h3 := h3 (show c ≠ 0 by have h2 : n ≤ c := h2; have hi2 : i < (n : Int) := hi2; omega)
    refine ⟨x, ?_, hK⟩
    rw [hk, add_add _ _ _ h3.1, atC.shift h3.1, Nat.add_zero]
    have := h3.2.2.part (us := [v]) (j := i.toNat * sz + o) h3.1 fun j hj => by
      simp at hj
      subst hj
      simpa using hv.symm
    simpa using this
theorem SlC.rdAt0 {s : Sl} {sz : Nat} {vs : List Value} (h : SlC w s sz vs) {i : Int} (hi : 0 ≤ i) (hi2 : i < s.len) (_ho : 0 < sz) {k : Kd} {K : KT k → Prop} {x : KT k} {v : Value} (hk : cellsK k x = [v]) (hv : vs[i.toNat * sz]? = some v) (hK : K x) :
    nn s.p fun a => V.rd k w (Addr.add a (i.toNat * sz)) 0 K := by
  obtain ⟨p, n, c⟩ := s
  obtain ⟨h1, h2, h3⟩ := h
  cases p with
  | none => simp only at h3 h2 hi2; omega
  | some a =>
    have h3 := h3 (show c ≠ 0 by have h2 : n ≤ c := h2; have hi2 : i < (n : Int) := hi2; omega)
    refine ⟨x, ?_, hK⟩
    rw [hk, atC.shift h3.1, Nat.add_zero]
    have := h3.2.2.part (us := [v]) (j := i.toNat * sz) h3.1 fun j hj => by
      simp at hj
      subst hj
      simpa using hv.symm
    simpa using this

/-- a claim: its height, who, its bytes -/
abbrev Cm := Nat × Int × Sl × List UInt8
def Cm.c (p : Cm) : List Value := [.int .u64 (p.1 : Int), .int .i64 p.2.1, .slice p.2.2.1.p p.2.2.1.len p.2.2.1.cap]
def Cm.t (p : Cm) : Nat × Int × List UInt8 := (p.1, p.2.1, p.2.2.2)
def clC (M : List Cm) : List Value := (M.map Cm.c).flatten
theorem clC_snoc (M : List Cm) (p : Cm) : clC (M ++ [p]) = clC M ++ p.c := by simp [clC]
theorem clC_cons (M : List Cm) (p : Cm) : clC (p :: M) = p.c ++ clC M := by simp [clC]
theorem clC_len : ∀ M : List Cm, (clC M).length = M.length * 3
  | [] => rfl
  | p :: M => by rw [clC_cons, List.length_append, clC_len M]; simp [Cm.c]; omega
theorem clC_get : ∀ {M : List Cm} {i o : Nat} {p : Cm}, M[i]? = some p → o < 3 → (clC M)[i * 3 + o]? = p.c[o]?
  | [], _, _, _, h, _ => by simp at h
  | q :: M, 0, o, p, h, ho => by
    simp at h; subst h
    rw [clC_cons, Nat.zero_mul, Nat.zero_add, List.getElem?_append_left (by simpa [Cm.c] using ho)]
  | q :: M, i + 1, o, p, h, ho => by
    rw [clC_cons, List.getElem?_append_right (by simp [Cm.c]; omega)]
    have : (i + 1) * 3 + o - q.c.length = i * 3 + o := by simp [Cm.c]; omega
    rw [this]
    exact clC_get (by simpa using h) ho
def Cs (w : World) (s : Sl) (M : List Cm) : Prop := SlC w s 3 (clC M) ∧ ∀ p ∈ M, By w p.2.2.1 p.2.2.2
theorem Cs.len {s : Sl} {M : List Cm} (h : Cs w s M) : s.len = M.length := by have := h.1.1; rw [clC_len] at this; omega
theorem Cs.fr0 {w' : World} {s : Sl} {M : List Cm} (h : Cs w s M) (hf : Fr F0 w w') : Cs w' s M := ⟨h.1.fr0 hf, fun p hp => (h.2 p hp).fr0 hf⟩
theorem Cs.height {s : Sl} {M : List Cm} (h : Cs w s M) {i : Int} (hi : 0 ≤ i) (hi2 : i < s.len) {K : Int → Prop} (hK : ∀ p : Cm, M[i.toNat]? = some p → K (p.1 : Int)) : nn s.p fun a => V.rd (.int .u64) w (Addr.add a (i.toNat * 3)) 0 K := by
  have hl := h.len
  have hp := List.getElem?_eq_getElem (show i.toNat < M.length by omega)
  exact h.1.rdAt0 hi hi2 (by decide) (k := .int .u64) (x := ((M[i.toNat]).1 : Int)) rfl (by rw [← Nat.add_zero (i.toNat * 3), clC_get hp (by decide)]; rfl) (hK _ hp)
theorem Cs.who {s : Sl} {M : List Cm} (h : Cs w s M) {i : Int} (hi : 0 ≤ i) (hi2 : i < s.len) {K : Int → Prop} (hK : ∀ p : Cm, M[i.toNat]? = some p → K p.2.1) : nn s.p fun a => V.rd (.int .i64) w (Addr.add (Addr.add a (i.toNat * 3)) 1) 0 K := by
  have hl := h.len
  have hp := List.getElem?_eq_getElem (show i.toNat < M.length by omega)
  exact h.1.rdAt hi hi2 (by decide) (k := .int .i64) (x := (M[i.toNat]).2.1) rfl (by rw [clC_get hp (by decide)]; rfl) (hK _ hp)
theorem Cs.block {s : Sl} {M : List Cm} (h : Cs w s M) {i : Int} (hi : 0 ≤ i) (hi2 : i < s.len) {K : Sl → Prop} (hK : ∀ p : Cm, M[i.toNat]? = some p → By w p.2.2.1 p.2.2.2 → K p.2.2.1) : nn s.p fun a => V.rd .slc w (Addr.add (Addr.add a (i.toNat * 3)) 2) 0 K := by
  have hl := h.len
  have hp := List.getElem?_eq_getElem (show i.toNat < M.length by omega)
  exact h.1.rdAt hi hi2 (by decide) (k := .slc) (x := (M[i.toNat]).2.2.1) rfl (by rw [clC_get hp (by decide)]; rfl) (hK _ hp (h.2 _ (List.getElem_mem _)))

/-- a slice of claims that grows -/
structure GC (w0 w : World) (s : Sl) (M : List Cm) : Prop where
  ex : ∃ cs, Lo F0 w0 w (gl s cs) ∧ Gs s 3 cs (clC M)
  byt : ∀ p ∈ M, By w p.2.2.1 p.2.2.2
  ap : ∀ p ∈ M, ∀ c, p.2.2.1.in (· = c) → ¬ s.in (· = c)
theorem GC.cs {s : Sl} {M : List Cm} (h : GC w0 w s M) : Cs w s M := by
  obtain ⟨cs, m, g⟩ := h.ex
  exact ⟨g.slc (L := []) (M := []) (by simpa using m), h.byt⟩
theorem GC.len {s : Sl} {M : List Cm} (h : GC w0 w s M) : s.len = M.length := h.cs.len
theorem GC.keep {w' : World} {s : Sl} {M : List Cm} (h : GC w0 w s M) (f : Fr F0 w w') : GC w0 w' s M :=
  let ⟨cs, m, g⟩ := h.ex; ⟨⟨cs, m.keep f, g⟩, fun p hp => (h.byt p hp).fr0 f, h.ap⟩
theorem GC.fr {s : Sl} {M : List Cm} (h : GC w0 w s M) : Fr F0 w0 w := let ⟨_, m, _⟩ := h.ex; m.fr
theorem GC.nil {f : Fr F0 w0 w} : GC w0 w ⟨none, 0, 0⟩ [] := ⟨⟨[], (Lo.start w0).keep f, Gs.nil 3⟩, by simp, by simp⟩
theorem GC.lt {s : Sl} {M : List Cm} (h : GC w0 w s M) {c : Nat} (hc : s.in (· = c)) : w0.heap.size ≤ c ∧ c < w.heap.size := by
  obtain ⟨cs, m, g⟩ := h.ex
  have hm := at_gl (cs := cs) hc
  exact ⟨(m.new _ hm).resolve_left id, m.lt hm⟩
theorem src_3 {b : Nat} {vs : List Value} (h : Own w b vs) (hl : vs.length = 3) : srcIs w 3 (.slice (some ⟨b, 0, none⟩) 1 1) (lenV (.slice (some ⟨b, 0, none⟩) 1 1)) vs :=
  ⟨Nat.le_refl _, by rw [hl]; rfl, Own.at h (by intro i hi; simp)⟩
set_option maxRecDepth 8000 in
theorem GC.push {e : TypeId} {s : Sl} {M : List Cm} {p : Cm} {K : Sl → World → Prop} (h : GC w0 w s M) (e1 : sizeT Tryz.prog e = some 3) (e2 : (Tryz.prog.info? e).map (·.bytes) = some 40) (e3 : zeroT Tryz.prog e = some (.agg #[.int .u64 0, .int .i64 0, .slice none 0 0]))
    (hb : By w p.2.2.1 p.2.2.2) (ht : ∀ c, p.2.2.1.in (· = c) → ¬ s.in (· = c)) (hn : M.length < 1099511627775)
    (hK : ∀ s' w', GC w0 w' s' (M ++ [p]) → Fr (fun c => s.in (· = c)) w w' → (∀ c, s'.in (· = c) → s.in (· = c) ∨ w.heap.size ≤ c) → K s' w') :
    al w (.cells #[.int .u64 (p.1 : Int), .int .i64 p.2.1, .slice p.2.2.1.p p.2.2.1.len p.2.2.1.cap] e) fun b w2 => appP Tryz.prog e w2 s (.slice (some ⟨b, 0, none⟩) 1 1) K := by
  have hl := h.len
  obtain ⟨cs, m, g⟩ := h.ex
  refine m.alf (cs := p.c) fun b w2 hb2 m2 f2 => ?_
  refine Lo.app (L := [(b, .cs p.c)]) (M := []) (s := s) (cs := cs) (us := p.c) (by rw [List.append_nil]; exact m2) g e1 e2 e3 rfl (by decide) (by decide) (src_3 (m2.at 0 rfl) rfl) rfl (by simp [Cm.c, scal]) (by simp only [lenV]; omega) (by decide) ?_
  intro s' cs' w5 m5 g5 hl5 f5 hin5
  rw [List.append_nil] at m5
  have hsz := f2.size
  have out : ∀ (x : Sl) (k : List UInt8), By w x k → (∀ c, x.in (· = c) → ¬ s.in (· = c)) → ¬ x.in (fun c => s.in (· = c)) := by
    intro x k hx hd hin
    obtain ⟨c, h1, h2⟩ := Sl.in_elim hin
    exact hd c h2 h1
  have f05 : Fr (fun c => s.in (· = c)) w w5 := (f2.mono fun _ _ x => x.elim).trans f5 fun _ _ e => e
  refine hK s' w5 ⟨⟨cs', m5.tail, by rw [clC_snoc]; exact g5⟩, fun q hq => ?_, fun q hq c hc hs' => ?_⟩ f05 fun c hc => (hin5 c hc).imp id fun h => by omega
  · rcases List.mem_append.mp hq with hq | hq
    · exact (h.byt q hq).fr f05 (out _ _ (h.byt q hq) (h.ap q hq))
    · simp at hq; subst hq
      exact hb.fr f05 (out _ _ hb ht)
  · have key : ∀ (x : Sl) (k : List UInt8), By w x k → (∀ c, x.in (· = c) → ¬ s.in (· = c)) → x.in (· = c) → False := by
      intro x k hx hd hxc
      rcases hin5 c hs' with h1 | h1
      · exact hd c hxc h1
      · have := SlC.old hx |>.lt hxc
        omega
    rcases List.mem_append.mp hq with hq | hq
    · exact key _ _ (h.byt q hq) (h.ap q hq) hc
    · simp at hq; subst hq
      exact key _ _ hb ht hc

/-- the claims of a log from a place on -/
def answer (log : List (List UInt8)) (who : Int) (f : Nat) : List (Nat × Int × List UInt8) := (((List.range log.length).drop f).take 4).map fun h => (h, who, log.getD h [])
theorem drop_range (n f : Nat) : (List.range n).drop f = (List.range (n - f)).map (· + f) := by
  apply List.ext_getElem?; intro i
  rw [List.getElem?_drop, List.getElem?_map]
  rcases Nat.lt_or_ge i (n - f) with h | h
  · rw [List.getElem?_range (by omega), List.getElem?_range h]; simp; omega
  · rw [List.getElem?_eq_none (by simp; omega), List.getElem?_eq_none (by simp; omega)]; rfl
theorem answer_len (log : List (List UInt8)) (who : Int) (f : Nat) : (answer log who f).length = min 4 (log.length - f) := by
  unfold answer; simp
theorem answer_get {log : List (List UInt8)} {who : Int} {f k : Nat} (h : k < 4) (h2 : f + k < log.length) : (answer log who f)[k]? = some (f + k, who, log.getD (f + k) []) := by
  unfold answer
  rw [List.getElem?_map, List.getElem?_take, if_pos h, drop_range, List.getElem?_map, List.getElem?_range (by omega)]
  simp [Nat.add_comm]
theorem answer_take {log : List (List UInt8)} {who : Int} {f k : Nat} (h : k < 4) (h2 : f + k < log.length) : (answer log who f).take (k + 1) = (answer log who f).take k ++ [(f + k, who, log.getD (f + k) [])] := take_snoc (answer_get h h2)
theorem sizeT_cm : sizeT Tryz.prog 32 = some 3 := by kernel_rfl
theorem bytes_cm : (Tryz.prog.info? 32).map (·.bytes) = some 40 := by kernel_rfl
theorem zeroT_cm : zeroT Tryz.prog 32 = some (.agg #[.int .u64 0, .int .i64 0, .slice none 0 0]) := by kernel_rfl
theorem sizeT_rcm : sizeT Tryz.prog 45 = some 3 := by kernel_rfl
theorem bytes_rcm : (Tryz.prog.info? 45).map (·.bytes) = some 40 := by kernel_rfl
theorem zeroT_rcm : zeroT Tryz.prog 45 = some (.agg #[.int .u64 0, .int .i64 0, .slice none 0 0]) := by kernel_rfl

set_option maxRecDepth 8000 in
theorem Answer_spec {s : Sl} {M : List (Sl × List UInt8)} {who : Int} {f : Nat} (h : Bs w s M) (hM : M.length < 1000000000000) (hl : ∀ p ∈ M, p.2.length ≤ 1099511627776) :
    callP Tryz.prog 14 #[s.v, .int .i64 who, .int .u64 (f : Int)] w fun v w' => ∃ (t : Sl) (N : List Cm), v = t.v ∧ GC w w' t N ∧ N.map Cm.t = answer (M.map (·.2)) who f ∧ ∀ p ∈ N, p.2.2.1.fresh w := by
  suffices H : ∀ Q : Value → World → Prop, (∀ (t : Sl) (N : List Cm) w', GC w w' t N → N.map Cm.t = answer (M.map (·.2)) who f → (∀ p ∈ N, p.2.2.1.fresh w) → Q t.v w') →
      callP Tryz.prog 14 #[s.v, .int .i64 who, .int .u64 (f : Int)] w Q from H _ fun t N w' a b c => ⟨t, N, rfl, a, b, c⟩
  intro Q hQ
  have e1 := h.len
  refine chase_Answer_ok ?_
  unfold chase_Answer
  have hlen : (M.map (·.2)).length = M.length := by simp
  refine ⟨fun t x w' => ∃ N, GC w w' t N ∧ x = ((f + N.length : Nat) : Int) ∧ (N.length = 0 ∨ f + N.length ≤ M.length) ∧ N.length ≤ 4 ∧ N.map Cm.t = (answer (M.map (·.2)) who f).take N.length ∧ ∀ p ∈ N, p.2.2.1.fresh w, fun t _ _ => 4 - t.len,
    ⟨[], GC.nil (f := .refl w), rfl, .inl rfl, by simp, by simp, by simp⟩, ?_⟩
  rintro t x w1 K ⟨N, g, rfl, hN1, hN2, hN3, hN4⟩ hK
  have hgl := g.len
  have hw : IntKind.wrap .u64 ((s.len : Nat) : Int) = (M.length : Int) := by rw [e1, w_u64]; omega
  rw [hw]
  have al := answer_len (M.map (·.2)) who f
  rw [hlen] at al
  refine br_lt (fun hlt => ?_) fun hge => ?_
  · refine br_lt (fun h4 => ?_) fun h4 => ?_
    · have f1 := g.fr
      refine ⟨⟨by omega, by omega⟩, (h.fr0 f1).rd (by omega) (by omega) fun y l hy hby => ?_⟩
      have hll := hl _ (List.mem_of_getElem? hy)
      refine callP_of (Clone8_spec (s := y) hby hll) ?_
      rintro v w2 ⟨z, rfl, hbz, hzf, f2⟩
      refine ⟨z, rfl, ?_⟩
      rw [show (((f + N.length : Nat) : Int)).toNat = f + N.length by omega] at hy
      refine GC.push (p := (f + N.length, who, z, l)) (g.keep f2) sizeT_cm bytes_cm zeroT_cm hbz (fun c hc hs => ?_) (by omega) fun t' w3 g3 f3 hin => ?_
      · have h1 := hzf.ge hc
        have h2 := (g.lt hs).2
        omega
      · have hg3 := g3.len
        rw [List.length_append, List.length_singleton] at hg3
        refine hK _ _ _ ⟨N ++ [(f + N.length, who, z, l)], g3, ?_, by simp; omega, by simp; omega, ?_, ?_⟩ (by dsimp only; omega)
        · rw [w_u64, List.length_append, List.length_singleton]; omega
        · rw [List.map_append, List.length_append, List.length_singleton, answer_take (by omega) (by rw [hlen]; omega), hN3]
          congr 1
          have : (M.map (·.2)).getD (f + N.length) [] = l := by rw [List.getD_eq_getElem?_getD, List.getElem?_map, hy]; rfl
          rw [this]; rfl
        · intro p hp
          rcases List.mem_append.mp hp with hp | hp
          · exact hN4 p hp
          · simp at hp; subst hp
            exact hzf.mono f1.size
    · exact hQ t N w1 g (by rw [hN3, List.take_of_length_le (by omega)]) hN4
  · exact hQ t N w1 g (by rw [hN3, List.take_of_length_le (by omega)]) hN4

set_option maxRecDepth 8000 in
theorem rAnswer_spec {s : Sl} {M : List (Sl × List UInt8)} {who : Int} {f : Nat} (h : Bs w s M) (hM : M.length < 1000000000000) :
    callP Tryz.prog 15 #[s.v, .int .i64 who, .int .u64 (f : Int)] w fun v w' => ∃ (t : Sl) (N : List Cm), v = t.v ∧ GC w w' t N ∧ N.map Cm.t = answer (M.map (·.2)) who f := by
  suffices H : ∀ Q : Value → World → Prop, (∀ (t : Sl) (N : List Cm) w', GC w w' t N → N.map Cm.t = answer (M.map (·.2)) who f → Q t.v w') →
      callP Tryz.prog 15 #[s.v, .int .i64 who, .int .u64 (f : Int)] w Q from H _ fun t N w' a b => ⟨t, N, rfl, a, b⟩
  intro Q hQ
  have e1 := h.len
  refine sortitionref19_Answer_ok ?_
  unfold sortitionref19_Answer
  have hlen : (M.map (·.2)).length = M.length := by simp
  refine ⟨fun t x w' => 0 ≤ x ∧ x ≤ M.length ∧ ∃ N, GC w w' t N ∧ N.length = min 4 (x.toNat - f) ∧ N.map Cm.t = (answer (M.map (·.2)) who f).take N.length, fun _ x _ => (M.length - x).toNat,
    ⟨by omega, by omega, [], GC.nil (f := .refl w), by simp, by simp⟩, ?_⟩
  rintro t x w1 K ⟨hx1, hx2, N, g, hN1, hN2⟩ hK
  have hgl := g.len
  have al := answer_len (M.map (·.2)) who f
  rw [hlen] at al
  refine br_lt (fun hlt => ?_) fun hge => ?_
  · have hw : IntKind.wrap .u64 x = x := by rw [w_u64]; omega
    rw [hw, w_i64 (by omega) (by omega)]
    refine br_ge (fun hfx => ?_) fun hfx => ?_
    · refine br_lt (fun h4 => ?_) fun h4 => ?_
      · have f1 := g.fr
        refine ⟨⟨by omega, by omega⟩, (h.fr0 f1).rd (by omega) (by omega) fun y l hy hby => ?_⟩
        have hxe : x = ((x.toNat : Nat) : Int) := by omega
        have hold := (h.2 _ (List.mem_of_getElem? hy))
        have key := GC.push (p := (x.toNat, who, y, l)) (e := 45) (K := fun s34 w_2 => K s34 (x + 1) w_2) g sizeT_rcm bytes_rcm zeroT_rcm hby (fun c hc hs => ?_) (by omega) fun t' w3 g3 f3 hin => ?_
        · rw [← hxe] at key
          exact key
        · have h1 := (SlC.old hold).lt hc
          have h2 := (g.lt hs).1
          omega
        · refine hK _ _ _ ⟨by omega, by omega, N ++ [(x.toNat, who, y, l)], g3, by simp; omega, ?_⟩ (by dsimp only; omega)
          have hxn : x.toNat = f + N.length := by omega
          rw [List.map_append, List.length_append, List.length_singleton, answer_take (by omega) (by rw [hlen]; omega), hN2]
          congr 1
          rw [hxn] at hy
          have : (M.map (·.2)).getD (f + N.length) [] = l := by rw [List.getD_eq_getElem?_getD, List.getElem?_map, hy]; rfl
          rw [this, hxn]; rfl
      · exact hK _ _ _ ⟨by omega, by omega, N, g, by omega, hN2⟩ (by dsimp only; omega)
    · exact hK _ _ _ ⟨by omega, by omega, N, g, by omega, hN2⟩ (by dsimp only; omega)
  · exact hQ t N w1 g (by rw [hN2, List.take_of_length_le (by omega)])
end Go.Proofs.YtpcgkfgppfjnlaaGreatDoor.V
namespace Go.Proofs.YtpcgkfgppfjnlaaGreatDoor.V
open Go Go.RowKit
variable {S : Nat → Prop} {w0 w w1 w2 : World} {Q : Value → World → Prop}

/-- cells stay as they are -/
structure Kp (w w' : World) : Prop where
  size : w.heap.size ≤ w'.heap.size
  keep : ∀ (b : Nat) (cs : Array Value) (t : TypeId) (f : Nat × Nat), w.heap[b]? = some (Obj.cells cs t f) → w'.heap[b]? = some (Obj.cells cs t f)
theorem Kp.refl (w : World) : Kp w w := ⟨Nat.le_refl _, fun _ _ _ _ h => h⟩
theorem Kp.trans (h : Kp w w1) (h2 : Kp w1 w2) : Kp w w2 := ⟨Nat.le_trans h.size h2.size, fun b cs t f e => h2.keep b cs t f (h.keep b cs t f e)⟩
theorem Kp.of0 (h : Fr F0 w w1) : Kp w w1 := ⟨h.size, fun b cs t f e => by rw [h.keep b (heap_lt e) id]; exact e⟩
theorem Kp.ofM (h : Fr S w w1) (hm : Maps w S) : Kp w w1 := ⟨h.size, fun b cs t f e => by
  rw [h.keep b (heap_lt e) fun hs => ?_]
  · exact e
  · obtain ⟨es, k, he⟩ := hm b hs
    rw [he] at e; cases e⟩
theorem Kp.cell (h : Kp w w1) {p : Addr} {v : Value} (hc : w.cell? p = some v) : w1.cell? p = some v := by
  unfold World.cell? at hc ⊢
  cases ho : w.heap[p.block]? with
  | none => simp [ho] at hc
  | some o =>
    cases o with
    | cells cs t f => rw [h.keep _ _ _ _ ho]; rw [ho] at hc; exact hc
    | _ => simp [ho] at hc
theorem Kp.at (h : Kp w w1) {p : Addr} : ∀ {vs : List Value} {o : Nat}, atC w p o vs → atC w1 p o vs
  | [], _, _ => trivial
  | _ :: _, _, ha => ⟨h.cell ha.1, h.at ha.2⟩
theorem Kp.slc (h : Kp w w1) {s : Sl} {sz : Nat} {vs : List Value} (hs : SlC w s sz vs) : SlC w1 s sz vs := by
  obtain ⟨p, n, c⟩ := s
  obtain ⟨h1, h2, h3⟩ := hs
  refine ⟨h1, h2, ?_⟩
  cases p with
  | none => exact h3
  | some a => exact fun hc => ⟨(h3 hc).1, Nat.lt_of_lt_of_le (h3 hc).2.1 h.size, h.at (h3 hc).2.2⟩
theorem Kp.bs (h : Kp w w1) {s : Sl} {M : List (Sl × List UInt8)} (hs : Bs w s M) : Bs w1 s M := ⟨h.slc hs.1, fun p hp => h.slc (hs.2 p hp)⟩
theorem Kp.cs (h : Kp w w1) {s : Sl} {M : List Cm} (hs : Cs w s M) : Cs w1 s M := ⟨h.slc hs.1, fun p hp => h.slc (hs.2 p hp)⟩

/-- a chase, whose blocks are new since w0 -/
structure Ch (w0 w : World) (C : Ck) (st : List Nat) (A : List Ab) : Prop where
  ex : ∃ hs, ChaseIs w C st hs ∧ hs.map Hr.ab = A ∧ ∀ m, C.mut hs m → w0.heap.size ≤ m
  fr : Fr F0 w0 w
theorem Ch.keep {C : Ck} {st : List Nat} {A : List Ab} (h : Ch w0 w C st A) (f : Fr F0 w w1) : Ch w0 w1 C st A :=
  let ⟨hs, a, b, c⟩ := h.ex; ⟨⟨hs, a.fr0 f, b, c⟩, h.fr.trans0 f⟩
/-- seen from an earlier world -/
theorem Ch.old {C : Ck} {st : List Nat} {A : List Ab} (h : Ch w0 w C st A) (f : Fr F0 w1 w0) : Ch w1 w C st A :=
  let ⟨hs, a, b, c⟩ := h.ex; ⟨⟨hs, a, b, fun m hm => by have := c m hm; have := f.size; omega⟩, f.trans0 h.fr⟩
/-- no more blocks than k of a height -/
def Few (k : Nat) (A : List Ab) : Prop := ∀ a ∈ A, a.bl.length ≤ k
theorem Few.nil (k : Nat) : Few k [] := by simp [Few]
theorem Few.mono {j k : Nat} {A : List Ab} (h : Few j A) (hk : j ≤ k) : Few k A := fun a ha => Nat.le_trans (h a ha) hk
theorem mput_len {κ ν : Type} [DecidableEq κ] (l : List (κ × ν)) (k : κ) (v : ν) : (mput l k v).length ≤ l.length + 1 := by
  unfold mput; split <;> simp
theorem blA_len (bl : List (Dg × List UInt8)) (d : Dg) (l : List UInt8) : (blA bl d l).length ≤ bl.length + 1 := by
  unfold blA
  split
  · omega
  · exact mput_len _ _ _
theorem Few.hear {k : Nat} {A : List Ab} (h : Few k A) (st : List Nat) (x : Nat) (who : Int) (l : List UInt8) : Few (k + 1) (hear st A x who l).2 := by
  unfold V.hear
  have h1 := h.mono (Nat.le_succ k)
  split
  · exact h1
  · split
    · split
      · exact h1
      · split
        · exact h1
        · intro a ha
          rcases List.mem_append.mp ha with ha | ha
          · exact h1 a ha
          · simp at ha; subst ha
            have := blA_len [] (nameD l) l
            simp only [List.length_nil] at this
            simp only; omega
    · split
      · exact h1
      · intro a ha
        obtain ⟨b, hb, rfl⟩ := List.mem_map.mp ha
        split
        · have := blA_len b.bl (nameD l) l
          have := h b hb
          simp only; omega
        · exact h1 b hb
theorem Few.forget {k : Nat} {A : List Ab} (h : Few k A) (b : Nat) : Few k (forget A b) := fun a ha => h a (List.mem_filter.mp ha).1

theorem Ch.hear {C : Ck} {st : List Nat} {A : List Ab} (c : Ch w0 w C st A) (g : Gb w0) {h : Nat} {who : Int} {x : Sl} {l : List UInt8} (hx : By w x l) (hl : l.length < 1099511627776) (hw : -9223372036854775808 ≤ who ∧ who < 9223372036854775808) :
    callP Tryz.prog 8 #[.pointer (some ⟨C.c, 0, none⟩), .agg #[.int .u64 (h : Int), .int .i64 who, .slice x.p x.len x.cap]] w fun v w' =>
      v = .int .i64 (V.hear st A h who l).1 ∧ Ch w0 w' C st (V.hear st A h who l).2 ∧ Kp w w' := by
  obtain ⟨hs, a, rfl, b⟩ := c.ex
  refine callP_of (Hear_spec (g.fr0 c.fr) a hx hl hw) ?_
  rintro v w1 ⟨rfl, f, hs', a', b', hn⟩
  refine ⟨rfl, ⟨⟨hs', a', b', fun m hm => ?_⟩, c.fr.trans f fun q hq hm => ?_⟩, Kp.ofM f a.maps⟩
  · rcases hn m hm with h1 | h1
    · exact b m h1
    · have := c.fr.size; omega
  · have := b q hm; omega
theorem Ch.believed {C : Ck} {st : List Nat} {A : List Ab} (c : Ch w0 w C st A) {k : Nat} (hf : Few k A) (hk : k < 549755813888) {h : Nat} :
    callP Tryz.prog 11 #[.pointer (some ⟨C.c, 0, none⟩), .int .u64 (h : Int)] w fun v w' => Ch w0 w' C st A ∧ Fr F0 w w' ∧
      ((V.believed st A h = none ∧ v = .tuple #[.slice none 0 0, .bool false]) ∨ ∃ s l, V.believed st A h = some l ∧ v = .tuple #[Sl.v s, .bool true] ∧ By w' s l ∧ s.fresh w ∧ l.length < 1099511627776) := by
  obtain ⟨hs, a, rfl, b⟩ := c.ex
  refine callP_of (Believed_spec a fun H hH => ?_) ?_
  · have := hf H.ab (List.mem_map.mpr ⟨H, hH, rfl⟩)
    simp only [Hr.ab, List.length_map] at this
    omega
  · rintro v w1 ⟨f, hr⟩
    exact ⟨c.keep f, f, hr⟩
theorem Ch.run {C : Ck} {st : List Nat} {A : List Ab} (c : Ch w0 w C st A) {k : Nat} (hf : Few k A) (hk : k < 549755813888) {h : Nat} (hh : h < 18446744073709551616) :
    callP Tryz.prog 18 #[.pointer (some ⟨C.c, 0, none⟩), .int .u64 (h : Int)] w fun v w' => Ch w0 w' C st A ∧ ∃ s cs M, v = Sl.v s ∧ GB w w' s cs M ∧ M.map (·.2) = runG st A 21 h := by
  obtain ⟨hs, a, rfl, b⟩ := c.ex
  refine callP_of (Run_spec a (fun H hH => ?_) hh) ?_
  · have := hf H.ab (List.mem_map.mpr ⟨H, hH, rfl⟩)
    simp only [Hr.ab, List.length_map] at this
    omega
  · rintro v w1 ⟨s, cs, M, rfl, g, e⟩
    exact ⟨c.keep g.lo.fr, s, cs, M, rfl, g, e⟩
theorem Ch.forget {C : Ck} {st : List Nat} {A : List Ab} (c : Ch w0 w C st A) {below : Nat} :
    callP Tryz.prog 12 #[.pointer (some ⟨C.c, 0, none⟩), .int .u64 (below : Int)] w fun v w' =>
      v = .int .i64 ((A.length : Int) - ((V.forget A below).length : Int)) ∧ Ch w0 w' C st (V.forget A below) ∧ Kp w w' := by
  obtain ⟨hs, a, rfl, b⟩ := c.ex
  refine callP_of (Forget_spec a) ?_
  rintro v w1 ⟨rfl, f, hs', a', b', hn⟩
  refine ⟨by rw [List.length_map], ⟨⟨hs', a', b', fun m hm => ?_⟩, c.fr.trans f fun q hq hm => ?_⟩, Kp.ofM f a.maps⟩
  · rcases hm with rfl | ⟨H, hH, hm⟩
    · exact b _ (.inl rfl)
    · exact b m (.inr ⟨H, hn.mem hH, hm⟩)
  · have := b q hm; omega
theorem Ch.heights {C : Ck} {st : List Nat} {A : List Ab} (c : Ch w0 w C st A) :
    callP Tryz.prog 10 #[.pointer (some ⟨C.c, 0, none⟩)] w fun v w' => Ch w0 w' C st A ∧ Fr F0 w w' ∧
      ∃ (s : Sl) (d : Nat → Int), v = s.v ∧ s.len = A.length ∧ (∀ i, i < A.length → 0 ≤ d i) ∧ SlC w' s 1 (cellsA .u64 d 0 A.length) ∧ s.fresh w := by
  obtain ⟨hs, a, rfl, b⟩ := c.ex
  refine callP_of (Heights_spec a) ?_
  rintro v w1 ⟨s, d, rfl, h1, h2, h3, h4, f⟩
  rw [List.length_map]
  exact ⟨c.keep f, f, s, d, rfl, h1, h2, h3, h4⟩
theorem Ch.new {s : Sl} {st : List Nat} (g : Gb w) (h : Wd w s st) (h64 : W64 st) (hn : st.length < 9223372036854775808) :
    callP Tryz.prog 7 #[s.v] w fun v w' => Fr F0 w w' ∧
      ((newErr st ≠ 0 ∧ v = .tuple #[.pointer none, .int .i64 (newErr st)]) ∨ (newErr st = 0 ∧ ∃ C : Ck, v = .tuple #[.pointer (some ⟨C.c, 0, none⟩), .int .i64 0] ∧ Ch w w' C st [])) := by
  refine callP_of (cNew_spec g h h64 hn) ?_
  rintro v w1 ⟨f, h | ⟨he, C, rfl, hC, _, ham⟩⟩
  · exact ⟨f, .inl h⟩
  · refine ⟨f, .inr ⟨he, C, rfl, ⟨[], hC, rfl, ?_⟩, f⟩⟩
    rintro m (rfl | ⟨H, hH, _⟩)
    · exact ham
    · cases hH
end Go.Proofs.YtpcgkfgppfjnlaaGreatDoor.V
namespace Go.Proofs.YtpcgkfgppfjnlaaGreatDoor.V
open Go Go.RowKit
variable {S : Nat → Prop} {w0 w w1 w2 : World} {Q : Value → World → Prop}

def bk0 : List UInt8 := blockB 0 []
def bk1 : List UInt8 := blockB 0 [1]
def S4 : List Nat := [1, 1, 1, 1]
def A1 : List Ab := (hear S4 [] 0 0 bk0).2
def A2 : List Ab := (hear S4 A1 0 1 bk0).2
def A3 : List Ab := (hear S4 A2 0 0 bk1).2
theorem aw0 : newErr S4 = 0 := by decide +kernel
theorem aw1 : (hear S4 [] 0 0 bk0).1 = 0 := by decide +kernel
theorem aw2 : (hear S4 A1 0 1 bk0).1 = 0 := by decide +kernel
theorem aw3 : (hear S4 A2 0 0 bk1).1 = 52 := by decide +kernel
theorem aw4 : (forget A3 1).length = 0 ∧ A3.length = 1 := by decide +kernel
theorem aw5 : believed S4 A1 0 = none := by decide +kernel
theorem aw6 : believed S4 A2 0 = some bk0 := by decide +kernel
theorem aw7 : runG S4 A3 21 0 = [bk0] := by decide +kernel
theorem aw8 : bk0.length < 100 ∧ bk1.length < 100 := by decide +kernel
theorem wd_new {b : Nat} {l : List Nat} (h : Own w b (wv l)) : Wd w ⟨some ⟨b, 0, none⟩, l.length, l.length⟩ l :=
  ⟨by rw [wv_len]; simp, Nat.le_refl _, fun _ => ⟨rfl, h.lt, Own.at h (by intro i hi; simp)⟩⟩
theorem bs_one {b : Nat} {t : Sl} {l : List UInt8} (h : Own w b [t.v]) (hb : By w t l) : Bs w ⟨some ⟨b, 0, none⟩, 1, 1⟩ [(t, l)] :=
  ⟨⟨rfl, Nat.le_refl _, fun _ => ⟨rfl, h.lt, Own.at h (by intro i hi; simp)⟩⟩, by simpa using hb⟩

set_option maxRecDepth 8000 in
set_option maxHeartbeats 1000000 in
theorem awake_spec (g : Gb w) : callP Tryz.prog 6 #[] w fun v w' => v = .bool true ∧ Fr F0 w w' := by
  refine sortitionlaw19_awake_ok ?_
  unfold sortitionlaw19_awake
  refine al_cells (cs := wv S4) fun b15 w1 hb15 f1 _ o15 => ?_
  refine callP_of (Ch.new (s := ⟨some ⟨b15, 0, none⟩, 4, 4⟩) (g.fr0 f1) (wd_new (l := S4) o15) (by intro n hn; simp [S4] at hn; omega) (by decide)) ?_
  rintro v w2 ⟨f2, ⟨he, _⟩ | ⟨_, C, rfl, c2⟩⟩
  · exact absurd aw0 he
  have g1 := g.fr0 f1
  refine ⟨some ⟨C.c, 0, none⟩, 0, rfl, br_false rfl (br_ne (fun h => absurd rfl h) fun _ => ?_)⟩
  refine callP_of (block_spec (s := ⟨none, 0, 0⟩) (h := 0) By.nil (by decide) (by decide)) ?_
  rintro v w3 ⟨t0, rfl, y3⟩
  have c3 := c2.keep y3.fr
  have b3 : By w3 t0 bk0 := y3.by
  refine ⟨t0, rfl, ?_⟩
  have hl0 : bk0.length < 1099511627776 := by have := aw8.1; omega
  have hl1 : bk1.length < 1099511627776 := by have := aw8.2; omega
  refine callP_of (c3.hear g1 (h := 0) (who := 0) (x := t0) b3 hl0 (by decide)) ?_
  rintro v w4 ⟨rfl, c4, k4⟩
  have c4 : Ch w1 w4 C S4 A1 := c4
  have n1 : Few 1 A1 := (Few.nil 0).hear S4 0 0 bk0
  refine ⟨_, rfl, ?_⟩
  refine callP_of (c4.believed (h := 0) n1 (by decide)) ?_
  rintro v w5 ⟨c5, f5, ⟨_, rfl⟩ | ⟨s, l, hb, _⟩⟩
  rotate_left
  · rw [aw5] at hb; cases hb
  refine ⟨⟨none, 0, 0⟩, false, rfl, ?_⟩
  have b5 : By w5 t0 bk0 := (k4.slc b3).fr0 f5
  refine callP_of (c5.hear g1 (h := 0) (who := 1) (x := t0) b5 hl0 (by decide)) ?_
  rintro v w6 ⟨rfl, c6, k6⟩
  have c6 : Ch w1 w6 C S4 A2 := c6
  have n2 : Few 2 A2 := n1.hear S4 0 1 bk0
  refine ⟨_, rfl, ?_⟩
  refine callP_of (c6.believed (h := 0) n2 (by decide)) ?_
  rintro v w7 ⟨c7, f7, ⟨hb, _⟩ | ⟨s, l, hb, rfl, hby, hsf, hll⟩⟩
  · rw [aw6] at hb; cases hb
  rw [aw6] at hb
  obtain rfl := Option.some.inj hb
  refine ⟨s, true, rfl, ?_⟩
  have b7 : By w7 t0 bk0 := (k6.slc b5).fr0 f7
  refine al_cells (cs := bv [1]) fun b45 w8 hb45 f8 _ o45 => ?_
  have c8 := c7.keep f8
  have bb := o45.by
  refine callP_of (block_spec (s := ⟨some ⟨b45, 0, none⟩, 1, 1⟩) (h := 0) bb (by decide) (by decide)) ?_
  rintro v w9 ⟨t1, rfl, y9⟩
  have c9 := c8.keep y9.fr
  have b9 : By w9 t1 bk1 := y9.by
  have k79 := (Kp.of0 f8).trans (Kp.of0 y9.fr)
  refine ⟨t1, rfl, ?_⟩
  refine callP_of (c9.hear g1 (h := 0) (who := 0) (x := t1) b9 hl1 (by decide)) ?_
  rintro v w10 ⟨rfl, c10, k10⟩
  have c10 : Ch w1 w10 C S4 A3 := c10
  have n3 : Few 3 A3 := n2.hear S4 0 0 bk1
  refine ⟨_, rfl, ?_⟩
  refine callP_of (c10.run (h := 0) n3 (by decide) (by decide)) ?_
  rintro v w11 ⟨c11, r, cs, M, rfl, gb, hM⟩
  rw [aw7] at hM
  refine ⟨r, rfl, ?_⟩
  refine callP_of (c11.forget (below := 1)) ?_
  rintro v w12 ⟨rfl, c12, k12⟩
  refine ⟨_, rfl, ?_⟩
  refine callP_of c12.heights ?_
  rintro v w13 ⟨c13, f13, q, d, rfl, hq, _, _, _⟩
  refine ⟨q, rfl, ?_⟩
  have k713 : Kp w7 w13 := ((k79.trans k10).trans (Kp.of0 gb.lo.fr)).trans (k12.trans (Kp.of0 f13))
  have hbs : Bs w13 r M := (k12.trans (Kp.of0 f13)).bs gb.bs
  have b13 := k713.slc b7
  have s13 := k713.slc hby
  have f013 := f1.trans0 c13.fr
  have e1 : (hear S4 [] 0 0 bk0).1 = 0 := aw1
  have e2 : (hear S4 A1 0 1 bk0).1 = 0 := aw2
  have e3 : (hear S4 A2 0 0 bk1).1 = 52 := aw3
  rw [e1, e2, e3]
  refine br_true rfl (br_true rfl (br_true rfl (br_true rfl ?_)))
  refine callP_of (Same_spec (s := s) (t := t0) s13 b13 (by have := aw8.1; omega)) ?_
  rintro v w14 ⟨rfl, f14⟩
  refine ⟨_, rfl, br_true (by simp) (br_true rfl ?_)⟩
  refine al_cells (cs := [t0.v]) fun b80 w15 hb80 f15 _ o80 => ?_
  have f1315 := f14.trans0 f15
  refine callP_of (Lists_spec (s := r) (t := ⟨some ⟨b80, 0, none⟩, 1, 1⟩) (hbs.fr0 f1315) (bs_one o80 (b13.fr0 f1315)) ?_ ?_) ?_
  · have := congrArg List.length hM
    simp at this
    omega
  · intro p hp
    have : p.2 ∈ M.map (·.2) := List.mem_map.mpr ⟨p, hp, rfl⟩
    rw [hM] at this
    simp at this
    rw [this]
    have := aw8.1; omega
  rintro v w16 ⟨rfl, f16⟩
  refine ⟨_, rfl, br_true (by rw [hM]; simp) ?_⟩
  rw [aw4.1, aw4.2] at *
  refine br_true rfl ⟨?_, (f013.trans0 f1315).trans0 f16⟩
  rw [hq]
  simp
end Go.Proofs.YtpcgkfgppfjnlaaGreatDoor.V
namespace Go.Proofs.YtpcgkfgppfjnlaaGreatDoor.V
open Go Go.RowKit
variable {w0 w : World}

theorem map_get {α β : Type} {f : α → β} {M N : List α} (h : M.map f = N.map f) {i : Nat} {p q : α} (hp : M[i]? = some p) (hq : N[i]? = some q) : f p = f q := by
  have := congrArg (·[i]?) h
  simpa [List.getElem?_map, hp, hq] using this

theorem answer_small {log : List (List UInt8)} {who : Int} {f n : Nat} (h : ∀ l ∈ log, l.length ≤ n) {p : Nat × Int × List UInt8} (hp : p ∈ answer log who f) : p.2.2.length ≤ n := by
  obtain ⟨k, hk, rfl⟩ := List.mem_map.mp hp
  have hk : k ∈ List.range log.length := List.mem_of_mem_drop (List.mem_of_mem_take hk)
  have hk : k < log.length := List.mem_range.mp hk
  show (log.getD k []).length ≤ n
  rw [List.getD_eq_getElem?_getD, List.getElem?_eq_getElem hk]
  exact h _ (List.getElem_mem hk)

set_option maxRecDepth 8000 in
theorem ChaseAnswers_spec {s : Sl} {M : List (Sl × List UInt8)} {who : Int} {f : Nat} (g : Gb w) (h : Bs w s M) (hM : M.length < 1000000000000) (hl : ∀ p ∈ M, p.2.length ≤ 1099511627776) :
    callP Tryz.prog 4 #[s.v, .int .i64 who, .int .u64 (f : Int)] w fun v w' => v = .bool true ∧ Fr F0 w w' := by
  suffices H : ∀ Q : Value → World → Prop, (∀ w', Fr F0 w w' → Q (.bool true) w') → callP Tryz.prog 4 #[s.v, .int .i64 who, .int .u64 (f : Int)] w Q from H _ fun w' f => ⟨rfl, f⟩
  intro Q hQ
  refine sortitionlaw19_ChaseAnswers_ok ?_
  unfold sortitionlaw19_ChaseAnswers
  refine callP_of (awake_spec g) ?_
  rintro v w1 ⟨rfl, f1⟩
  refine ⟨_, rfl, br_gt (fun _ => hQ _ f1) fun _ => ?_⟩
  refine callP_of (Answer_spec (h.fr0 f1) hM hl) ?_
  rintro v w2 ⟨t, N, rfl, g2, e2, _⟩
  refine ⟨t, rfl, ?_⟩
  have f2 := f1.trans0 g2.fr
  refine callP_of (rAnswer_spec (h.fr0 f2) hM) ?_
  rintro v w3 ⟨u, O, rfl, g3, e3⟩
  refine ⟨u, rfl, ?_⟩
  have f3 := f2.trans0 g3.fr
  have hNO : N.map Cm.t = O.map Cm.t := e2.trans e3.symm
  have c2 := g2.cs.fr0 g3.fr
  have c3 := g3.cs
  have l2 := c2.len
  have l3 := c3.len
  have l4 : N.length ≤ 4 := by have := congrArg List.length e2; rw [List.length_map, answer_len] at this; omega
  have hlen : N.length = O.length := by simpa using congrArg List.length hNO
  have hb : ∀ p ∈ N, p.2.2.2.length ≤ 1099511627776 := by
    intro p hp
    have h1 : p.t ∈ answer (M.map (·.2)) who f := by rw [← e2]; exact List.mem_map_of_mem hp
    exact answer_small (n := 1099511627776) (by intro l hl2; obtain ⟨q, hq, rfl⟩ := List.mem_map.mp hl2; exact hl q hq) h1
  refine br_ne (fun hne => absurd (by rw [l2, l3, hlen]) hne) fun _ => ?_
  refine ⟨fun x w' => 0 ≤ x ∧ x ≤ t.len ∧ Fr F0 w3 w', fun x _ => (t.len - x).toNat, ⟨by omega, by omega, .refl _⟩, ?_⟩
  rintro x w4 K ⟨hx1, hx2, f4⟩ hK
  refine br_lt (fun hlt => ?_) fun _ => hQ _ (f3.trans0 f4)
  have hu : x < u.len := by omega
  have f5 := (Fr.refl (S := F0) w4).drw (w4.drawn + 1)
  unfold dr
  generalize drw w4 (w4.drawn + 1) = w5 at *
  have f6 := f4.trans0 f5
  have c2 := c2.fr0 f6
  have c3 := c3.fr0 f6
  refine ⟨⟨hx1, hlt⟩, c2.height hx1 hlt fun p hp => ⟨⟨hx1, hu⟩, c3.height hx1 hu fun q hq => ?_⟩⟩
  have e : p.t = q.t := map_get hNO hp hq
  have ea : p.1 = q.1 := congrArg (·.1) e
  have eb : p.2.1 = q.2.1 := congrArg (·.2.1) e
  have ec : p.2.2.2 = q.2.2.2 := congrArg (·.2.2) e
  refine br_ne (fun hne => absurd (by rw [ea]) hne) fun _ => ?_
  refine ⟨⟨hx1, hlt⟩, c2.who hx1 hlt fun p' hp' => ⟨⟨hx1, hu⟩, c3.who hx1 hu fun q' hq' => ?_⟩⟩
  obtain rfl : p = p' := by rw [hp] at hp'; simpa using hp'
  obtain rfl : q = q' := by rw [hq] at hq'; simpa using hq'
  refine br_ne (fun hne => absurd eb hne) fun _ => ?_
  refine ⟨⟨hx1, hlt⟩, c2.block hx1 hlt fun p' hp' b2 => ⟨⟨hx1, hu⟩, c3.block hx1 hu fun q' hq' b3 => ?_⟩⟩
  obtain rfl : p = p' := by rw [hp] at hp'; simpa using hp'
  obtain rfl : q = q' := by rw [hq] at hq'; simpa using hq'
  refine callP_of (Same_spec b2 b3 (by have := hb p (List.mem_of_getElem? hp); omega)) ?_
  rintro v w7 ⟨rfl, f7⟩
  refine ⟨_, rfl, br_not (br_dec (fun _ => ?_) fun hne => absurd ec hne)⟩
  rw [w_i64 (by omega) (by omega)]
  exact hK _ _ ⟨by omega, by omega, f6.trans0 f7⟩ (by dsimp only; omega)
end Go.Proofs.YtpcgkfgppfjnlaaGreatDoor.V
namespace Go.Proofs.YtpcgkfgppfjnlaaGreatDoor.V
open Go Go.RowKit Go.ChangeShapes Go.WideShapes Go.Deep
variable {H : Type} {enc : TypeId × Value → H} {P : Program} {w : World}

/-! the bound -/
theorem bulk_one (d : DataW H) : 1 ≤ Rows.uptoBulk d := by
  cases d with
  | lit l => cases l <;> simp [Rows.uptoBulk]
  | nil => simp [Rows.uptoBulk]
  | ptr d => simp [Rows.uptoBulk]
  | slice elems spare => simp [Rows.uptoBulk]
  | agg parts => simp [Rows.uptoBulk]
  | iface t d => simp [Rows.uptoBulk]
  | map entries => simp [Rows.uptoBulk]
  | held h => simp [Rows.uptoBulk]
theorem bulk_part {d : DataW H} : ∀ {l : List (DataW H)}, d ∈ l → Rows.uptoBulk d ≤ Rows.uptoBulkAll l
  | x :: r, h => by
    simp only [Rows.uptoBulkAll]
    rcases List.mem_cons.mp h with rfl | h
    · omega
    · have := bulk_part h; omega
theorem bulk_len : ∀ l : List (DataW H), l.length ≤ Rows.uptoBulkAll l
  | [] => by simp [Rows.uptoBulkAll]
  | x :: r => by have := bulk_one x; have := bulk_len r; simp only [Rows.uptoBulkAll, List.length_cons]; omega
theorem bulk_slice (elems spare : List (DataW H)) : Rows.uptoBulkAll elems + 1 ≤ Rows.uptoBulk (.slice elems spare) := by
  simp only [Rows.uptoBulk]; omega

/-! cells -/
theorem at_of {a : Addr} {vs : List Value} {n : Nat} (hn : vs.length ≤ n) (h : ∀ i, i < n → ∃ v, w.cell? (a.add i) = some v ∧ ∀ u, vs[i]? = some u → v = u) (h0 : 0 < n) : a.spot = none ∧ a.block < w.heap.size ∧ atC w a 0 vs := by
  obtain ⟨b, o, q⟩ := a
  obtain ⟨v, hv, _⟩ := h 0 h0
  have hv : w.cell? ⟨b, o, q⟩ = some v := hv
  obtain rfl : q = none := by
    cases q with
    | none => rfl
    | some s =>
      unfold World.cell? at hv
      split at hv <;> simp at hv
  refine ⟨rfl, ?_, ?_⟩
  · rcases Nat.lt_or_ge b w.heap.size with x | x
    · exact x
    · have hn : w.heap[b]? = none := Array.getElem?_eq_none x
      simp [World.cell?, hn] at hv
  · rw [atC_iff]
    intro i u hu
    have hi : i < vs.length := by
      rcases Nat.lt_or_ge i vs.length with x | x
      · exact x
      · rw [List.getElem?_eq_none x] at hu; simp at hu
    obtain ⟨v, h1, h2⟩ := h i (by omega)
    rw [h2 u hu, add_lit] at h1
    simpa using h1
instance : Inhabited Sl := ⟨⟨none, 0, 0⟩⟩
/-- a slice of one-cell elements read -/
theorem slice_read {t e : TypeId} {fuel : Nat} {cs : List Value} {x : DataW H × List MemPlace} {α : Type} [Inhabited α] {f : α → Value} {B : α → DataW H → Prop} (ht : P.underlying t = some (.slice e)) (hc : P.cellsOf e = 1)
    (he : ∀ n v y, DataW.trod enc P w 0 (fun _ => true) true n e [v] = some y → ∃ a, v = f a ∧ B a y.1) (h : DataW.trod enc P w 0 (fun _ => true) true fuel t cs = some x) :
    ∃ (s : Sl) (l : List α), cs = [s.v] ∧ SlC w s 1 (l.map f) ∧ l.length ≤ Rows.uptoBulk x.1 ∧ (∀ a ∈ l, ∃ d, B a d ∧ Rows.uptoBulk d ≤ Rows.uptoBulk x.1) ∧ l.length ≤ maxLen := by
  rcases open_slice1 ht hc h with ⟨rfl, rfl⟩ | ⟨a, len, cap, m, n, V, D, Pl, rfl, _, hl, hml, hm, rfl, hx⟩
  · exact ⟨⟨none, 0, 0⟩, [], rfl, ⟨rfl, Nat.le_refl _, rfl⟩, Nat.zero_le _, by simp, Nat.zero_le _⟩
  · obtain rfl : m = cap := hm
    obtain ⟨y, hy⟩ := choose_lt (n := m) (α := α) (p := fun i a => V i = f a ∧ B a (D i)) fun i hi => he _ _ _ (hx i hi).2
    have hb := bulk_slice ((List.range len).map D) ((List.range (m - len)).map fun j => D (len + j))
    have hb2 := bulk_len ((List.range len).map D)
    rw [List.length_map, List.length_range] at hb2
    refine ⟨⟨some a, len, m⟩, (List.range len).map y, rfl, ⟨by simp, hl, fun hm0 => ?_⟩, by rw [List.length_map, List.length_range]; show _ ≤ Rows.uptoBulk (DataW.slice _ _); omega, fun z hz => ?_, by rw [List.length_map, List.length_range]; omega⟩
    · refine at_of (n := m) (by simpa using hl) (fun i hi => ⟨V i, (hx i hi).1, fun u hu => ?_⟩) (Nat.pos_of_ne_zero hm0)
      rw [List.getElem?_map, List.getElem?_map] at hu
      rcases Nat.lt_or_ge i len with q | q
      · rw [List.getElem?_range q] at hu
        simp at hu
        rw [← hu]; exact (hy i hi).1
      · rw [List.getElem?_eq_none (by simpa using q)] at hu; simp at hu
    · obtain ⟨i, hi, rfl⟩ := List.mem_map.mp hz
      have hi := List.mem_range.mp hi
      refine ⟨D i, (hy i (by omega)).2, ?_⟩
      have := bulk_part (l := (List.range len).map D) (List.mem_map.mpr ⟨i, List.mem_range.mpr hi, rfl⟩)
      show _ ≤ Rows.uptoBulk (DataW.slice _ _)
      omega
theorem wf_u8 {n : Int} (h : (Lit.int .u8 n).wf = true) : 0 ≤ n ∧ n < 256 := by
  simp only [Lit.wf, Bool.and_eq_true, decide_eq_true_eq] at h
  have e1 : IntKind.min .u8 = 0 := rfl
  have e2 : IntKind.max .u8 = 255 := rfl
  omega
theorem wf_u64 {n : Int} (h : (Lit.int .u64 n).wf = true) : 0 ≤ n ∧ n < 18446744073709551616 := by
  simp only [Lit.wf, Bool.and_eq_true, decide_eq_true_eq] at h
  have e1 : IntKind.min .u64 = 0 := rfl
  have e2 : IntKind.max .u64 = 18446744073709551615 := rfl
  omega
/-- bytes read -/
theorem by_read {t e : TypeId} {fuel : Nat} {cs : List Value} {x : DataW H × List MemPlace} (ht : P.underlying t = some (.slice e)) (he : P.underlying e = some (.int .u8)) (hc : P.cellsOf e = 1)
    (h : DataW.trod enc P w 0 (fun _ => true) true fuel t cs = some x) : ∃ (s : Sl) (l : List UInt8), cs = [s.v] ∧ By w s l ∧ l.length ≤ Rows.uptoBulk x.1 := by
  obtain ⟨s, l, h1, h2, h3, _⟩ := slice_read (f := fun b : UInt8 => .int .u8 (b.toNat : Int)) (B := fun _ _ => True) ht hc (fun n v y hy => by
    obtain ⟨k, hk, _, hw⟩ := DataW.trod_int he hy
    have := wf_u8 hw
    refine ⟨UInt8.ofNat k.toNat, ?_, trivial⟩
    simp at hk
    rw [hk, UInt8.toNat_ofNat', Nat.mod_eq_of_lt (by omega)]
    congr 1; omega) h
  exact ⟨s, l, h1, h2, h3⟩
/-- numbers read -/
theorem wd_read {t e : TypeId} {fuel : Nat} {cs : List Value} {x : DataW H × List MemPlace} (ht : P.underlying t = some (.slice e)) (he : P.underlying e = some (.int .u64)) (hc : P.cellsOf e = 1)
    (h : DataW.trod enc P w 0 (fun _ => true) true fuel t cs = some x) : ∃ (s : Sl) (l : List Nat), cs = [s.v] ∧ Wd w s l ∧ l.length ≤ maxLen ∧ ∀ n ∈ l, n < 18446744073709551616 := by
  obtain ⟨s, l, h1, h2, _, h4, h3⟩ := slice_read (f := fun b : Nat => .int .u64 (b : Int)) (B := fun n _ => n < 18446744073709551616) ht hc (fun n v y hy => by
    obtain ⟨k, hk, _, hw⟩ := DataW.trod_int he hy
    have := wf_u64 hw
    refine ⟨k.toNat, ?_, by omega⟩
    simp at hk
    rw [hk]
    congr 1; omega) h
  exact ⟨s, l, h1, h2, h3, fun n hn => (h4 n hn).choose_spec.1⟩
/-- lists of bytes read -/
theorem bs_read {t e q : TypeId} {fuel : Nat} {cs : List Value} {x : DataW H × List MemPlace} (ht : P.underlying t = some (.slice e)) (he : P.underlying e = some (.slice q)) (hq : P.underlying q = some (.int .u8)) (ce : P.cellsOf e = 1) (cq : P.cellsOf q = 1)
    (h : DataW.trod enc P w 0 (fun _ => true) true fuel t cs = some x) : ∃ (s : Sl) (M : List (Sl × List UInt8)), cs = [s.v] ∧ Bs w s M ∧ M.length ≤ Rows.uptoBulk x.1 ∧ ∀ p ∈ M, p.2.length ≤ Rows.uptoBulk x.1 := by
  obtain ⟨s, l, h1, h2, h3, h4, _⟩ := slice_read (f := fun p : Sl × List UInt8 => p.1.v) (B := fun p d => By w p.1 p.2 ∧ p.2.length ≤ Rows.uptoBulk d) ht ce (fun n v y hy => by
    obtain ⟨s, l, hs, hb, hl⟩ := by_read he hq cq hy
    simp at hs
    exact ⟨(s, l), hs, hb, hl⟩) h
  exact ⟨s, l, h1, ⟨h2, fun p hp => (h4 p hp).choose_spec.1.1⟩, h3, fun p hp => by
    obtain ⟨d, ⟨_, e1⟩, e2⟩ := h4 p hp
    exact Nat.le_trans e1 e2⟩

/-- what the law's end wants, if below nothing has turned -/
theorem post_keeps {f : Func} {s : ChangeSpec} {apart fresh handsOn again : Bool} {W W' : World} {args : Array Value} {v : Value} {ds gs : List (DataW H)} {before pa pv : List MemPlace}
    (hW : DataW.Whole enc P f.params.toList s.vars apart W args.toList ds gs before)
    (hres : ∀ (b : Nat) (sp : Nat → Bool) (hd : Bool), DataW.TrodAll enc P W' b sp hd f.resultTypes.toList (v.resultList f.resultTypes.size) (s.fn H (ds ++ gs)).results [])
    (hargs : ∀ sp : Nat → Bool, (∀ p ∈ before, sp p.block = true) → DataW.TrodAll enc P W' 0 sp true f.params.toList args.toList (s.fn H (ds ++ gs)).args pa)
    (hvars : ∀ sp : Nat → Bool, (∀ p ∈ before, sp p.block = true) → DataW.TrodVars enc P W' sp s.vars (s.fn H (ds ++ gs)).vars pv)
    (hps : before = pa ++ pv) (hk : Below W.heap.size W W')
    (hok : ∀ (j : Nat) (t : TypeId) (r : Value), f.resultTypes[j]? = some t → (v.resultList f.resultTypes.size)[j]? = some r → Value.okWide P W' .any 0 t r) :
    s.post enc P f apart fresh handsOn again W args v W' := by
  have hlt : ∀ p ∈ before, p.block < W.heap.size := fun p hp => hW.lt p hp
  have hold : ∀ p ∈ before, (fun b => decide (b < W.heap.size)) p.block = true := fun p hp => by simpa using hlt p hp
  refine ⟨ds, gs, before, [], pa, pv, hW, hres _ _ _, hargs _ hold, hvars _ hold, hk.frame _, fun _ => ?_⟩
  obtain ⟨_, _, _, _, _, hz, hn⟩ := hW
  refine ⟨hok, _, _, ([] ++ pa) ++ pv, ⟨[] ++ pa, pv, trodAll_append (hargs _ (fun _ _ => rfl)) (hres _ _ _), hvars _ (fun _ _ => rfl), rfl, ?_, ?_⟩, ?_⟩
  · intro b off hp
    have hp : MemPlace.cell b off ∈ before := by rw [hps]; simpa using hp
    rw [hk.frozen (p := ⟨b, off, none⟩) (hlt _ hp)]
    exact hz b off hp
  · intro ha
    have := hn ha
    rw [hps] at this
    simpa using this
  · intro p hp _
    rw [hps]
    simpa using hp
end Go.Proofs.YtpcgkfgppfjnlaaGreatDoor.V
namespace Go.Proofs.YtpcgkfgppfjnlaaGreatDoor.V
open Go Go.RowKit Go.ChangeShapes Go.WideShapes Go.Deep

theorem tab_of {P : Program} {W : World} {name : String} {k : IntKind} {zs : List Int} {d : DataW Unit} : ∀ {l : List (String × DataW Unit)} {ps : List MemPlace}, DataW.LaidVars P W l ps → (name, d) ∈ l → d = Lib.tabData k zs →
    ∀ {g : Nat} {t e : TypeId} {n : Nat}, P.globalNamed name = some g → (P.globals[g]?).map (·.type) = some t → P.underlying t = some (.array n e) → P.underlying e = some (.int k) → P.cellsOf e = 1 → P.cellsOf t = n → Lib.TabIs P W name k zs
  | (m, x) :: r, _, h, hm, hd, g, t, e, n, hg, hty, ht, he, hce, hct => by
    obtain ⟨g', t', cs, fuel, p, q, hg', ht', hvar, hx, hr, _⟩ := h
    rcases List.mem_cons.mp hm with hm | hm
    · simp only [Prod.mk.injEq] at hm
      obtain ⟨rfl, rfl⟩ := hm
      subst hd
      obtain rfl := Option.some.inj (hg.symm.trans hg')
      obtain rfl := Option.some.inj (hty.symm.trans ht')
      unfold Lib.TabIs
      rw [hvar, ← Lib.cells_of_tab ht he hce hct hx]
    · exact tab_of hr hm hd hg hty ht he hce hct
theorem tab_at {P : Program} {W : World} {name : String} {k : IntKind} {zs : List Int} {g : Nat} (h : Lib.TabIs P W name k zs) (hg : P.globalNamed name = some g) (h0 : 0 < zs.length) :
    g < W.heap.size ∧ atC W ⟨g, 0, none⟩ 0 (zs.map fun z => .int k z) := by
  have := at_of (w := W) (a := ⟨g, 0, none⟩) (vs := zs.map fun z => .int k z) (n := zs.length) (by simp) (fun i hi => ⟨_, by rw [add_lit, Nat.zero_add]; exact h.cell hg i hi, fun u hu => by
    rw [List.getElem?_map, List.getElem?_eq_getElem hi] at hu
    simp at hu
    rw [← hu, List.getD_eq_getElem?_getD, List.getElem?_eq_getElem hi]; rfl⟩) h0
  exact ⟨this.2.1, this.2.2⟩
def cubesZ : List Int := cubes.map fun x => u x
def sqZ : List Int := sqL.map fun x => u x
theorem cubesZ_eq : Rows.laid_sortition_sha_cubes (H := Unit) = Lib.tabData .u32 cubesZ := by rfl
theorem sqZ_eq : Rows.laid_sortition_sha_squares (H := Unit) = Lib.tabData .u32 sqZ := by rfl
theorem limZ_eq : Rows.laid_sortition_votes_limit (H := Unit) = Lib.tabData .u64 [9223372036854775808, 0, 0, 0] := by rfl
abbrev laidAll : List (String × DataW Unit) := [("sortition/sha.cubes", Rows.laid_sortition_sha_cubes), ("sortition/sha.squares", Rows.laid_sortition_sha_squares), ("sortition/votes.limit", Rows.laid_sortition_votes_limit)]
theorem named_cubes : Tryz.prog.globalNamed "sortition/sha.cubes" = some 2 := by kernel_rfl
theorem named_sq : Tryz.prog.globalNamed "sortition/sha.squares" = some 3 := by kernel_rfl
theorem named_lim : Tryz.prog.globalNamed "sortition/votes.limit" = some 0 := by kernel_rfl
/-- what the rows' lists give -/
theorem Gb_of_laid {W : World} (h : laidMetH Tryz.prog laidAll W) : Gb W := by
  obtain ⟨ps, hl, _⟩ : laidMet Tryz.prog laidAll W := h
  have h1 := tab_at (tab_of hl (by simp [laidAll]) cubesZ_eq named_cubes (t := 163) (e := 137) (n := 64) (by kernel_rfl) (by kernel_rfl) (by kernel_rfl) (by kernel_rfl) (by kernel_rfl)) named_cubes (by decide)
  have h2 := tab_at (tab_of hl (by simp [laidAll]) sqZ_eq named_sq (t := 138) (e := 137) (n := 8) (by kernel_rfl) (by kernel_rfl) (by kernel_rfl) (by kernel_rfl) (by kernel_rfl)) named_sq (by decide)
  have h3 := tab_at (tab_of hl (by simp [laidAll]) limZ_eq named_lim (t := 86) (e := 24) (n := 4) (by kernel_rfl) (by kernel_rfl) (by kernel_rfl) (by kernel_rfl) (by kernel_rfl)) named_lim (by decide)
  refine ⟨?_, ?_, ?_, h3.2⟩
  · have a1 := h1.1; have a2 := h2.1; have a3 := h3.1
    unfold GN
    exact Nat.succ_le_of_lt (Nat.max_lt.mpr ⟨Nat.max_lt.mpr ⟨a1, a2⟩, a3⟩)
  · have := h1.2
    rwa [cubesZ, List.map_map] at this
  · have := h2.2
    rwa [sqZ, List.map_map] at this

/-- a world that holds them -/
def setC (cs : Array Value) : Obj → Obj
  | .cells _ t frozen => .cells cs t frozen
  | o => o
noncomputable def laidHeap (h : Array Obj) : Array Obj :=
  ((h.modify 2 (setC (cubesZ.map fun z => Value.int .u32 z).toArray)).modify 3 (setC (sqZ.map fun z => Value.int .u32 z).toArray)).modify 0 (setC #[.int .u64 9223372036854775808, .int .u64 0, .int .u64 0, .int .u64 0])
noncomputable def laidWorld (os : Os) : World :=
  { World.holding Tryz.prog os ⟨#[], #[], []⟩ with heap := laidHeap (World.holding Tryz.prog os ⟨#[], #[], []⟩).heap }
theorem laid_met (os : Os) (args : Array Value) : laidMet Tryz.prog laidAll ((laidWorld os).forCall (fun _ _ => 0) ⟨#[], args, []⟩).memory :=
  laidMet_of_run' 8 (by kernel_rfl) (by kernel_rfl)
end Go.Proofs.YtpcgkfgppfjnlaaGreatDoor.V
