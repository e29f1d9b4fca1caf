/-
  CONTRACTS: slices.Collect over maps.Keys. | CONTRACTS: slices.Collect over maps.Keys of digests. | CONTRACTS: bytes.Compare; the order of digests. | CONTRACTS: slices.SortFunc over digests; slices.SortedFunc over maps.Keys. | CONTRACTS: slices.Sort over uint64: it stays within its slice (what it leaves there is not said). | CONTRACTS: slices.Sort over uint64, whole; slices.Sorted; chase.Heights. | CONTRACTS: slices.Sort over uint64, whole; slices.Sorted; chase.Heights. | CONTRACTS: slices.Sorted over uint64; chase.Heights. | CONTRACTS: chase.Believed. | CONTRACTS: deleting while going through a map; chase.Forget.
-/
import Derived.Test.YtpcgkfgppfjnlaaGreatDoorMh
import GoSem.Extern.BytealgCompare
import Derived.Shelf.SlSortCmp.NoneTotal
import Derived.Test.YtpcgkfgppfjnlaaGreatDoorMf
namespace Go.Proofs.YtpcgkfgppfjnlaaGreatDoor.V
open Go Go.RowKit
variable {S : Nat → Prop} {w0 w : World} {L : List (Nat × Bk)}

theorem Sole.fr {b : Nat} {w w' : World} (h : Sole b w w') : Fr (· = b) w w' := ⟨h.os, h.tape, h.output, Nat.le_of_eq h.size.symm, fun i _ hn => h.keep i hn⟩
theorem Lo.begin (m : Lo S w0 w L) (i : Nat) {b : Nat} {R : Loop} {K : World → Prop} (h : L[i]? = some (b, .ob (lpRec R .ready none)))
    (hK : ∀ w', Lo S w0 w' (L.set i (b, .ob (lpRec R .busy none))) → K w') : lpBegin R b w K :=
  ⟨m.at i h, fun w' hs hb => hK w' (m.turn i h hs.fr hb)⟩
theorem Lo.close (m : Lo S w0 w L) (i : Nat) {b : Nat} {R : Loop} {j : Option Code} {K : World → Prop} (h : L[i]? = some (b, .ob (lpRec R .busy none)))
    (hK : ∀ w', Lo S w0 w' (L.set i (b, .ob (lpRec R (if j.isNone then .ready else .done) j))) → K w') : lpClose R b j w K :=
  ⟨m.at i h, fun w' hs hb => hK w' (m.turn i h hs.fr hb)⟩
theorem Lo.loop (m : Lo S w0 w L) {R : Loop} {w2 : World} (e1 : w2.os = w.os) (e2 : w2.tape = w.tape) (e3 : w2.output = w.output) (hsz : w2.heap.size = w.heap.size + 2) (hk : ∀ i, i < w.heap.size → w2.heap[i]? = w.heap[i]?)
    (hD : w2.heap[w.heap.size]? = some (.deferred (some []))) (hL : lpEnd R (w.heap.size + 1) none w2) :
    Lo S w0 w2 ((w.heap.size, .ob (.deferred (some []))) :: (w.heap.size + 1, .ob (lpRec R .ready none)) :: L) := by
  have f : Fr F0 w w2 := ⟨e1, e2, e3, by omega, fun b hb _ => hk b hb⟩
  have k := m.keep f
  have hw := m.fr.size
  refine ⟨k.fr, ?_, ?_, ?_⟩
  · intro p hp
    simp only [List.mem_cons] at hp
    rcases hp with rfl | rfl | hp
    · exact hD
    · exact hL
    · exact k.has p hp
  · intro p hp
    simp only [List.mem_cons] at hp
    rcases hp with rfl | rfl | hp
    · exact .inr hw
    · exact .inr (by simp only; omega)
    · exact k.new p hp
  · have : ∀ b ∈ L.map (·.1), b < w.heap.size := by
      intro b hb
      obtain ⟨p, hp, rfl⟩ := List.mem_map.mp hb
      exact m.lt hp
    simp only [List.map_cons, List.nodup_cons, List.mem_cons, not_or]
    exact ⟨⟨by omega, fun h => by have := this _ h; omega⟩, fun h => by have := this _ h; omega, m.nd⟩
theorem Lo.subl {M : List (Nat × Bk)} (m : Lo S w0 w L) (h : M.Sublist L) : Lo S w0 w M :=
  m.sub (fun _p hp => h.mem hp) ((h.map _).nodup m.nd)
/-- the blocks at hand, from here on -/
def inL (L : List (Nat × Bk)) (c : Nat) : Prop := ∃ p ∈ L, p.1 = c
theorem Lo.here (m : Lo S w0 w L) : Lo (inL L) w w L := ⟨.refl w, m.has, fun p hp => .inl ⟨p, hp, rfl⟩, m.nd⟩
theorem Lo.then (m : Lo F0 w0 w L) {w' : World} {L' : List (Nat × Bk)} (m' : Lo (inL L) w w' L') : Lo F0 w0 w' L' := by
  refine ⟨m.fr.trans m'.fr ?_, m'.has, fun p hp => .inr ?_, m'.nd⟩
  · rintro b hb ⟨p, hp, rfl⟩
    rcases m.new p hp with h | h
    · exact h
    · omega
  · rcases m'.new p hp with ⟨q, hq, e⟩ | h
    · rcases m.new q hq with h | h
      · exact h.elim
      · omega
    · have := m.fr.size; omega
/-- one block turned by a loop's record, and let go -/
theorem Lo.sole {b : Nat} {w' : World} (m : Lo S w0 w L) (hs : Sole b w w') (hb : ∀ p ∈ L, p.1 ≠ b) (h2 : b < w0.heap.size → S b) : Lo S w0 w' L :=
  m.keepS hs.fr hb fun c hc e => by subst e; exact h2 hc
theorem arr_join (a b : Value) : (#[] ++ #[a] ++ #[b] : Array Value) = #[a, b] := by simp

theorem sizeT_u64 : sizeT Tryz.prog 24 = some 1 := by kernel_rfl
theorem zeroT_u64 : zeroT Tryz.prog 24 = some (.int .u64 0) := by kernel_rfl
theorem bytes_u64 : (Tryz.prog.info? 24).map (·.bytes) = some 8 := by kernel_rfl
theorem src_one {b : Nat} {v : Value} (h : Own w b [v]) : srcIs w 1 (.slice (some ⟨b, 0, none⟩) 1 1) (lenV (.slice (some ⟨b, 0, none⟩) 1 1)) [v] :=
  ⟨Nat.le_refl _, rfl, Own.at h (by intro i hi; simp)⟩

set_option maxRecDepth 4000 in
theorem collectU_spec {ν : Type} {ev : ν → Value} {Bm m : Nat} {l : List (Nat × ν)} (ob : Own w Bm [.map (some m)]) (h : MapIs ekU ev w m l) (hl : l.length < 549755813888) :
    callP Tryz.prog 48 #[.func (.func 50) #[] #[.pointer (some ⟨Bm, 0, none⟩)]] w fun v w' =>
      ∃ (s : Sl) (ks : List Nat) (cs : List Value), v = s.v ∧ ks.Perm (l.map (·.1)) ∧ Lo F0 w w' (gl s cs) ∧ Gs s 1 cs (ks.map ekU) := by
  refine slices_Collect_uint64_ok (p0 := ⟨50, #[], #[.pointer (some ⟨Bm, 0, none⟩)]⟩) ?_
  unfold slices_Collect_uint64
  suffices H : ∀ Q : Value → World → Prop, (∀ (s : Sl) (ks : List Nat) (cs : List Value) w', ks.Perm (l.map (·.1)) → Lo F0 w w' (gl s cs) → Gs s 1 cs (ks.map ekU) → Q s.v w') →
      callP Tryz.prog 72 #[.slice none 0 0, .func (.func 50) #[] #[.pointer (some ⟨Bm, 0, none⟩)]] w Q from
    H _ fun s ks cs w' a1 a2 a3 => ⟨s, rfl, s, ks, cs, rfl, a1, a2, a3⟩
  intro Q hQ
  refine slices_AppendSeq_uint64_uint64_ok (p0 := ⟨none, 0, 0⟩) (p1 := ⟨50, #[], #[.pointer (some ⟨Bm, 0, none⟩)]⟩) ?_
  unfold slices_AppendSeq_uint64_uint64
  have hBm := ob.lt
  have hm := h.lt
  refine (Lo.start (S := F0) w).al (cs := [.slice none 0 0]) fun b2 w1 hb2 m1 => ?_
  refine ⟨⟨_, Tryz.func50, rfl, by decide⟩, ?_⟩
  intro R w2 e1 e2 e3 hsz hk hD hL hyld
  have m2 := m1.loop e1 e2 e3 hsz hk hD hL
  have hw1 := m1.lt (p := (b2, .cs [.slice none 0 0])) (by simp)
  have hw1 : b2 < w1.heap.size := hw1
  clear e1 e2 e3 hk hD hL
  generalize hDe : w1.heap.size = D at *
  rw [arr_join]
  refine keysU_spec (w := w2) (ev := ev) (l := l) (m := m) (fun ks W => ∃ s cs, Lo F0 w W ((D, .ob (.deferred (some []))) :: (D + 1, .ob (lpRec R .ready none)) :: (b2, .cs [s.v]) :: gl s cs) ∧ Gs s 1 cs (ks.map ekU) ∧ (∀ c, s.in (· = c) → w2.heap.size < c)) (ob.fr m2.fr id) (h.fr0 m2.fr) ?_ ?_ ?_ ?_
  · intro w' f
    exact ⟨⟨none, 0, 0⟩, [], m2.keep f, Gs.nil 1, fun c hc => hc.elim⟩
  · rintro ks W W' ⟨s, cs, m, g, hs⟩ f
    refine ⟨s, cs, m.keepS f ?_ ?_, g, hs⟩
    · intro p hp
      simp only [List.mem_cons] at hp
      rcases hp with rfl | rfl | rfl | hp
      · simp only; omega
      · simp only; omega
      · simp only; omega
      · have := hs p.1 (gl_at hp)
        omega
    · intro b hb e
      have := m2.fr.size
      omega
  · rintro ks k W K ⟨s, cs, m, g, hs⟩ hk hlen hsW hK
    refine hyld (k : Int) W K (m.at 1 rfl) ?_
    have hg1 := g.len
    simp only [List.length_map] at hg1
    refine m.here.begin 1 rfl fun w3 m3 => ?_
    refine (m3.at 2 rfl).rds (o := 0) (s := s) rfl ?_
    refine m3.al (cs := [.int .u64 (k : Int)]) fun b10 w4 hb10 m4 => ?_
    have hw4 := m4.fr.size
    refine Lo.app (L := [(b10, .cs [.int .u64 (k : Int)]), (D, .ob (.deferred (some []))), (D + 1, .ob (lpRec R .busy none)), (b2, .cs [s.v])]) (M := []) (s := s) (cs := cs) (us := [.int .u64 (k : Int)]) (by rw [List.append_nil]; exact m4) g sizeT_u64 bytes_u64 zeroT_u64 rfl (by decide) (by decide) (src_one (m4.at 0 rfl)) rfl (by simp [scal]) (by simp only [lenV]; omega) (by decide) ?_
    intro s' cs' w5 m5 g5 hl5 f5 hin5
    rw [List.append_nil] at m5
    refine m5.wr1 3 (b := b2) rfl (by simp) rfl fun w6 m6 => ?_
    refine m6.close 2 (b := D + 1) rfl fun w7 m7 => ?_
    have m8 := m7.subl (M := (D, .ob (.deferred (some []))) :: (D + 1, .ob (lpRec R .ready none)) :: (b2, .cs [s'.v]) :: gl s' cs') (List.sublist_cons_self _ _)
    refine hK w7 ⟨s', cs', m.then m8, ?_, ?_⟩ (m8.fr.mono ?_)
    · rw [List.map_append]; exact g5
    · intro c hc
      rcases hin5 c hc with h1 | h1
      · exact hs c h1
      · omega
    · rintro c hc ⟨p, hp, rfl⟩
      have hne : ∀ p ∈ (D, Bk.ob (.deferred (some []))) :: (D + 1, .ob (lpRec R .ready none)) :: (b2, .cs [s.v]) :: gl s cs, p.1 ≠ w2.heap.size ∧ w.heap.size ≤ p.1 := by
        intro p hp
        refine ⟨?_, (m.new p hp).resolve_left id⟩
        simp only [List.mem_cons] at hp
        rcases hp with rfl | rfl | rfl | hp
        · simp only; omega
        · simp only; omega
        · simp only; omega
        · have := hs p.1 (gl_at hp)
          omega
      obtain ⟨h1, h2⟩ := hne p hp
      exact ⟨h1, by omega⟩
  · rintro ks W hp ⟨s, cs, m, g, hs⟩
    refine ⟨m.at 1 rfl, fun w3 hs3 => ?_⟩
    have hw := m2.fr.size
    have m3 := (m.subl (M := (D, .ob (.deferred (some []))) :: (b2, .cs [s.v]) :: gl s cs) (.cons_cons _ (List.sublist_cons_self _ _))).sole hs3 (by
      intro p hp e
      simp only [List.mem_cons] at hp
      rcases hp with rfl | rfl | hp
      · simp only at e; omega
      · simp only at e; omega
      · have := hs p.1 (gl_at hp); omega) (by omega)
    refine (m3.at 1 rfl).rds (o := 0) (s := s) rfl ⟨m3.at 0 rfl, fun w4 hs4 => ?_⟩
    have m4 := (m3.subl (M := gl s cs) ((List.sublist_cons_self _ _).trans (List.sublist_cons_self _ _))).sole hs4 (by
      intro p hp e
      have := hs p.1 (gl_at hp); omega) (by omega)
    exact hQ s ks cs w4 hp m4 g
end Go.Proofs.YtpcgkfgppfjnlaaGreatDoor.V
namespace Go.Proofs.YtpcgkfgppfjnlaaGreatDoor.V
open Go Go.RowKit
variable {S : Nat → Prop} {w0 w : World} {L : List (Nat × Bk)}

theorem keysD_spec {ν : Type} {ev : ν → Value} {l0 Bm m : Nat} {l : List (Dg × ν)} {Q : Value → World → Prop} (J : List Dg → World → Prop) (ob : Own w Bm [.map (some m)]) (h : MapIs ekD ev w m l)
    (h0 : ∀ w', Fr F0 w w' → J [] w') (hJ : ∀ ks W W', J ks W → Fr (· = w.heap.size) W W' → J ks W')
    (hY : ∀ ks k W (K : Value → World → Prop), J ks W → k ∈ l.map (·.1) → ks.length < l.length → w.heap.size < W.heap.size → (∀ W', J (ks ++ [k]) W' → Fr (fun c => c ≠ w.heap.size ∧ c ≠ m) W W' → K (.bool true) W') → yldP Tryz.prog l0 #[ekD k] W K)
    (hQ : ∀ ks W, ks.Perm (l.map (·.1)) → J ks W → Q (.tuple #[]) W) :
    callP Tryz.prog 53 #[.func (.yield l0) #[] #[], .pointer (some ⟨Bm, 0, none⟩)] w Q := by
  have hml := h.lt
  refine maps_Keys_map_api_Digest_byte_api_Digest_byte_c1_ok ?_
  unfold maps_Keys_map_api_Digest_byte_api_Digest_byte_c1
  refine ob.rdm (o := 0) rfl (It.start h fun r w1 hr f1 hit => ?_)
  subst hr
  refine ⟨fun w' => ∃ T ks, It ekD ev w' w.heap.size m l T ∧ J ks w' ∧ (ks ++ T.map (·.1)).Perm (l.map (·.1)) ∧ w.heap.size < w'.heap.size, fun w' => remN w' w.heap.size m, ⟨l, [], hit, h0 _ f1, by simp, ?_⟩, ?_⟩
  · obtain ⟨_, _, _, a, _⟩ := hit
    exact heap_lt a
  rintro w2 K ⟨T, ks, hit, hj, hp, hsz⟩ hK
  have hrem := hit.rem
  refine hit.next (by omega) (fun hT n' => ?_) fun p hpT w3 f3 hit3 hent => ?_
  · subst hT
    refine hQ ks _ (by simpa using hp) (hJ _ _ _ hj ((Fr.refl w2).drw n'))
  · have hk : (T.map (·.1)).Nodup := by obtain ⟨_, _, _, _, _, _, ht⟩ := hit; exact ht.keys
    have hlen := hp.length_eq
    simp only [List.length_append, List.length_map] at hlen
    have hTl : 0 < T.length := List.length_pos_of_mem hpT
    refine ⟨dg p.1.1, ev p.2, hent, ?_⟩
    refine al_cells fun b3 w4 hb3 f4 hs4 o4 => ?_
    refine wr_own (vs := cellsA .u8 (dg p.1.1) 0 32) o4 (by simp [cellsA_len]) (cellsA_scal _ _ _ _) fun w5 f5 o5 hs5 => ?_
    have o5 : Own w5 b3 (cellsA .u8 (dg p.1.1) 0 32) := by simpa [cellsA_len, List.drop_eq_nil_of_le] using o5
    have f35 : Fr F0 w3 w5 := f4.trans f5 fun c hc e => by omega
    refine o5.rdA ?_
    refine hY ks p.1 w5 _ (hJ _ _ _ (hJ _ _ _ hj f3) (f35.mono fun _ _ x => x.elim)) (hp.mem_iff.mp (by simp; exact .inr ⟨p.2, hpT⟩)) (by omega) (by have := f3.size; have := f35.size; omega) fun w6 hj6 f6 => ?_
    refine ⟨true, rfl, br_false rfl ?_⟩
    have hit6 := (hit3.fr0 f35).fr f6 (fun e => e.1 rfl) (fun e => e.2 rfl)
    refine hK w6 ⟨mdel T p.1, ks ++ [p.1], hit6, hj6, ?_, by have := f3.size; have := f35.size; have := f6.size; omega⟩ ?_
    · refine List.Perm.trans ?_ hp
      rw [List.append_assoc]
      exact (List.Perm.append_left ks (mdel_perm hk hpT).symm)
    · dsimp only
      rw [hrem, hit6.rem]
      exact mdel_lt hpT

/-- digests as cells -/
def dgC (d : Dg) : List Value := cellsA .u8 (dg d.1) 0 32
def dgs (ks : List Dg) : List Value := (ks.map dgC).flatten
theorem dgC_len (d : Dg) : (dgC d).length = 32 := cellsA_len _ _ _ _
theorem dgs_snoc (ks : List Dg) (d : Dg) : dgs (ks ++ [d]) = dgs ks ++ dgC d := by simp [dgs]
theorem dgs_len (ks : List Dg) : (dgs ks).length = ks.length * 32 := by
  induction ks with
  | nil => rfl
  | cons k ks ih =>
    have : dgs (k :: ks) = dgC k ++ dgs ks := by simp [dgs]
    rw [this, List.length_append, ih, dgC_len, List.length_cons]; omega
theorem sizeT_dg : sizeT Tryz.prog 50 = some 32 := by kernel_rfl
theorem bytes_dg : (Tryz.prog.info? 50).map (·.bytes) = some 32 := by kernel_rfl
theorem src_dg {b : Nat} {d : Dg} (h : Own w b (dgC d)) : srcIs w 32 (.slice (some ⟨b, 0, none⟩) 1 1) (lenV (.slice (some ⟨b, 0, none⟩) 1 1)) (dgC d) :=
  ⟨Nat.le_refl _, by rw [dgC_len]; rfl, Own.at h (by intro i hi; simp)⟩

set_option maxRecDepth 4000 in
theorem collectD_spec {ν : Type} {ev : ν → Value} {Bm m : Nat} {l : List (Dg × ν)} (ob : Own w Bm [.map (some m)]) (h : MapIs ekD ev w m l) (hl : l.length < 549755813888) :
    callP Tryz.prog 51 #[.func (.func 53) #[] #[.pointer (some ⟨Bm, 0, none⟩)]] w fun v w' =>
      ∃ (s : Sl) (ks : List Dg) (cs : List Value), v = s.v ∧ ks.Perm (l.map (·.1)) ∧ Lo F0 w w' (gl s cs) ∧ Gs s 32 cs (dgs ks) := by
  refine slices_Collect_api_Digest_ok (p0 := ⟨53, #[], #[.pointer (some ⟨Bm, 0, none⟩)]⟩) ?_
  unfold slices_Collect_api_Digest
  suffices H : ∀ Q : Value → World → Prop, (∀ (s : Sl) (ks : List Dg) (cs : List Value) w', ks.Perm (l.map (·.1)) → Lo F0 w w' (gl s cs) → Gs s 32 cs (dgs ks) → Q s.v w') →
      callP Tryz.prog 75 #[.slice none 0 0, .func (.func 53) #[] #[.pointer (some ⟨Bm, 0, none⟩)]] w Q from
    H _ fun s ks cs w' a1 a2 a3 => ⟨s, rfl, s, ks, cs, rfl, a1, a2, a3⟩
  intro Q hQ
  refine slices_AppendSeq_api_Digest_api_Digest_ok (p0 := ⟨none, 0, 0⟩) (p1 := ⟨53, #[], #[.pointer (some ⟨Bm, 0, none⟩)]⟩) ?_
  unfold slices_AppendSeq_api_Digest_api_Digest
  have hBm := ob.lt
  have hm := h.lt
  refine (Lo.start (S := F0) w).al (cs := [.slice none 0 0]) fun b2 w1 hb2 m1 => ?_
  refine ⟨⟨_, Tryz.func53, rfl, by decide⟩, ?_⟩
  intro R w2 e1 e2 e3 hsz hk hD hL hyld
  have m2 := m1.loop e1 e2 e3 hsz hk hD hL
  have hw1 := m1.lt (p := (b2, .cs [.slice none 0 0])) (by simp)
  have hw1 : b2 < w1.heap.size := hw1
  clear e1 e2 e3 hk hD hL
  generalize hDe : w1.heap.size = D at *
  rw [arr_join]
  refine keysD_spec (w := w2) (ev := ev) (l := l) (m := m) (fun ks W => ∃ s cs, Lo F0 w W ((D, .ob (.deferred (some []))) :: (D + 1, .ob (lpRec R .ready none)) :: (b2, .cs [s.v]) :: gl s cs) ∧ Gs s 32 cs (dgs ks) ∧ (∀ c, s.in (· = c) → w2.heap.size < c)) (ob.fr m2.fr id) (h.fr0 m2.fr) ?_ ?_ ?_ ?_
  · intro w' f
    exact ⟨⟨none, 0, 0⟩, [], m2.keep f, Gs.nil 32, fun c hc => hc.elim⟩
  · rintro ks W W' ⟨s, cs, m, g, hs⟩ f
    refine ⟨s, cs, m.keepS f ?_ ?_, g, hs⟩
    · intro p hp
      simp only [List.mem_cons] at hp
      rcases hp with rfl | rfl | rfl | hp
      · simp only; omega
      · simp only; omega
      · simp only; omega
      · have := hs p.1 (gl_at hp)
        omega
    · intro b hb e
      have := m2.fr.size
      omega
  · rintro ks k W K ⟨s, cs, m, g, hs⟩ hk hlen hsW hK
    refine hyld (dg k.1) W K (m.at 1 rfl) ?_
    have hg1 := g.len
    rw [dgs_len] at hg1
    refine m.here.al fun b5 w_2 hb5 m_2 => ?_
    refine m_2.wrA 0 rfl fun w_3 m_3 => ?_
    refine m_3.begin 2 (b := D + 1) rfl fun w3 m3 => ?_
    refine (m3.at 3 rfl).rds (o := 0) (s := s) rfl ?_
    refine m3.rdA 0 rfl ?_
    refine m3.al fun b10 w4 hb10 m4 => ?_
    have hw4 := m4.fr.size
    refine Lo.app (L := [(b10, .cs (dgC k)), (b5, .cs (dgC k)), (D, .ob (.deferred (some []))), (D + 1, .ob (lpRec R .busy none)), (b2, .cs [s.v])]) (M := []) (s := s) (cs := cs) (us := dgC k) (by rw [List.append_nil]; exact m4) g sizeT_dg bytes_dg zeroT_dg (by simp [arrV, Value.cells, cellsA_len]) (by decide) (by decide) (src_dg (m4.at 0 rfl)) (by rw [dgC_len]; rfl) (cellsA_scal _ _ _ _) (by simp only [lenV]; omega) (by decide) ?_
    intro s' cs' w5 m5 g5 hl5 f5 hin5
    rw [List.append_nil] at m5
    refine m5.wr1 4 (b := b2) rfl (by simp) rfl fun w6 m6 => ?_
    refine m6.close 3 (b := D + 1) rfl fun w7 m7 => ?_
    have m8 := m7.subl (M := (D, .ob (.deferred (some []))) :: (D + 1, .ob (lpRec R .ready none)) :: (b2, .cs [s'.v]) :: gl s' cs') ((List.sublist_cons_self _ _).trans (List.sublist_cons_self _ _))
    refine hK w7 ⟨s', cs', m.then m8, ?_, ?_⟩ (m8.fr.mono ?_)
    · rw [dgs_snoc]; exact g5
    · intro c hc
      rcases hin5 c hc with h1 | h1
      · exact hs c h1
      · omega
    · rintro c hc ⟨p, hp, rfl⟩
      have hne : ∀ p ∈ (D, Bk.ob (.deferred (some []))) :: (D + 1, .ob (lpRec R .ready none)) :: (b2, .cs [s.v]) :: gl s cs, p.1 ≠ w2.heap.size ∧ w.heap.size ≤ p.1 := by
        intro p hp
        refine ⟨?_, (m.new p hp).resolve_left id⟩
        simp only [List.mem_cons] at hp
        rcases hp with rfl | rfl | rfl | hp
        · simp only; omega
        · simp only; omega
        · simp only; omega
        · have := hs p.1 (gl_at hp)
          omega
      obtain ⟨h1, h2⟩ := hne p hp
      exact ⟨h1, by omega⟩
  · rintro ks W hp ⟨s, cs, m, g, hs⟩
    refine ⟨m.at 1 rfl, fun w3 hs3 => ?_⟩
    have hw := m2.fr.size
    have m3 := (m.subl (M := (D, .ob (.deferred (some []))) :: (b2, .cs [s.v]) :: gl s cs) (.cons_cons _ (List.sublist_cons_self _ _))).sole hs3 (by
      intro p hp e
      simp only [List.mem_cons] at hp
      rcases hp with rfl | rfl | hp
      · simp only at e; omega
      · simp only at e; omega
      · have := hs p.1 (gl_at hp); omega) (by omega)
    refine (m3.at 1 rfl).rds (o := 0) (s := s) rfl ⟨m3.at 0 rfl, fun w4 hs4 => ?_⟩
    have m4 := (m3.subl (M := gl s cs) ((List.sublist_cons_self _ _).trans (List.sublist_cons_self _ _))).sole hs4 (by
      intro p hp e
      have := hs p.1 (gl_at hp); omega) (by omega)
    exact hQ s ks cs w4 hp m4 g
end Go.Proofs.YtpcgkfgppfjnlaaGreatDoor.V
namespace Go.Proofs.YtpcgkfgppfjnlaaGreatDoor.V
open Go Go.RowKit
variable {P : Program} {S : Nat → Prop} {w0 w : World} {L : List (Nat × Bk)}

theorem loadBytes_run : ∀ {l : List UInt8} {a : Addr} {acc : ByteArray} {o : Nat}, a.spot = none → atC w a o (bv l) → (Extern.Bytes.loadBytes (a.add o) l.length acc).run P w = .ok ⟨acc.data ++ l.toArray⟩ w
  | [], a, acc, o, _, _ => by simp [Extern.Bytes.loadBytes]
  | x :: l, a, acc, o, ha, h => by
    obtain ⟨h1, h2⟩ := h
    have ih := @loadBytes_run l a (acc.push x) (o + 1) ha h2
    rw [List.length_cons, Extern.Bytes.loadBytes, Sem.run_bind]
    have hl : (Go.load (a.add o)).run P w = .ok (.int .u8 (x.toNat : Int)) w := by
      simp [Go.load, Sem.run, h1]
    rw [hl]
    simp only [Result.andThen_ok]
    rw [add_add _ _ _ ha, show ((x.toNat : Int).toNat.toUInt8) = x by simp, ih]
    congr 1
    apply ByteArray.ext
    simp [ByteArray.push]
theorem bytesOf_run {s : Sl} {l : List UInt8} (h : By w s l) : (Extern.Bytes.bytesOf s.v).run P w = .ok ⟨l.toArray⟩ w := by
  obtain ⟨p, n, c⟩ := s
  have hl := h.len
  simp only at hl
  subst hl
  cases p with
  | none =>
    have h3 : c = 0 := h.2.2
    have : l = [] := List.length_eq_zero_iff.mp (by have := h.2.1; simp only at this; omega)
    subst this
    rfl
  | some a =>
    by_cases hc : c = 0
    · have : l = [] := List.length_eq_zero_iff.mp (by have := h.2.1; simp only at this; omega)
      subst this
      rfl
    have hsp : a.spot = none := (h.2.2 hc).1
    have := @loadBytes_run P w l a .empty 0 hsp h.at
    have e0 : a.add 0 = a := by
      obtain ⟨b, o, q⟩ := a
      obtain rfl : q = none := hsp
      rw [add_lit]; rfl
    rw [e0] at this
    show (Extern.Bytes.loadBytes a l.length .empty).run P w = _
    rw [this]
    congr 1
    apply ByteArray.ext
    simp
def cmpB (a b : List UInt8) : Int := Extern.BytealgCompare.cmp ⟨a.toArray⟩ ⟨b.toArray⟩
theorem Compare_ext {s t : Sl} {l k : List UInt8} {K : Value → Prop} (h : By w s l) (h2 : By w t k) (hK : K (.int .i64 (cmpB l k))) : extP Tryz.prog 54 #[s.v, t.v] w K := by
  refine ⟨_, ?_, hK⟩
  have e : (callFunc 54 #[s.v, t.v]).run Tryz.prog w = (do let v ← (do let x ← Extern.Bytes.bytesOf s.v; let y ← Extern.Bytes.bytesOf t.v; pure (goInt (Extern.BytealgCompare.cmp x y)) : Sem Value); pure (Next.value v)).run Tryz.prog w := by kernel_rfl
  rw [e]
  simp only [Sem.run_bind, bytesOf_run h, bytesOf_run h2, Result.andThen_ok, Sem.run_pure]
  rfl

/-- digests in order -/
def cmpD (a b : Dg) : Int := cmpB a.1 b.1
def ltB : List UInt8 → List UInt8 → Bool
  | a :: l, b :: k => a < b || (a == b && ltB l k)
  | [], [] => false
  | [], _ :: _ => true
  | _ :: _, [] => false
theorem find_shift {p : Nat → Bool} : ∀ n, (List.range (n + 1)).find? p = if p 0 then some 0 else ((List.range n).find? fun i => p (i + 1)).map (· + 1) := by
  intro n
  rw [List.range_succ_eq_map, List.find?_cons]
  by_cases h : p 0
  · simp [h]
  · simp only [h, Bool.false_eq_true, if_false]
    rw [List.find?_map]
    rfl
theorem cmpB_nil : cmpB [] [] = 0 := by decide
theorem ba_get (l : List UInt8) (i : Nat) : (⟨l.toArray⟩ : ByteArray)[i]! = l[i]! := by
  rw [getElem!_def, getElem!_def]
  have : (⟨l.toArray⟩ : ByteArray)[i]? = l[i]? := by
    rcases Nat.lt_or_ge i l.length with h | h
    · rw [List.getElem?_eq_getElem h, getElem?_pos (⟨l.toArray⟩ : ByteArray) i (by show i < l.toArray.size; simpa using h)]
      rfl
    · rw [List.getElem?_eq_none h, getElem?_neg (⟨l.toArray⟩ : ByteArray) i (by show ¬ i < l.toArray.size; simpa using h)]
  rw [this]
theorem cmpB_cons (a b : UInt8) (l k : List UInt8) : cmpB (a :: l) (b :: k) = if a = b then cmpB l k else if a < b then -1 else 1 := by
  have hs : ∀ (l : List UInt8), (⟨l.toArray⟩ : ByteArray).size = l.length := fun l => by show l.toArray.size = _; simp
  unfold cmpB Extern.BytealgCompare.cmp
  simp only [hs, ba_get, List.length_cons]
  rw [show min (l.length + 1) (k.length + 1) = min l.length k.length + 1 by omega, find_shift]
  simp only [List.getElem!_cons_zero, List.getElem!_cons_succ]
  by_cases h : a = b
  · subst h
    simp only [bne_self_eq_false, Bool.false_eq_true, if_false, if_true]
    cases hf : (List.range (min l.length k.length)).find? fun i => l[i]! != k[i]! with
    | none => simp
    | some i => simp
  · have hb : (a != b) = true := by simpa using h
    simp only [hb, if_true, h, if_false]
    simp
theorem cmpB_lt : ∀ (l k : List UInt8), l.length = k.length → (cmpB l k < 0 ↔ ltB l k = true)
  | [], [], _ => by rw [cmpB_nil]; simp [ltB]
  | a :: l, b :: k, h => by
    have ih := cmpB_lt l k (by simpa using h)
    rw [cmpB_cons]
    by_cases hab : a = b
    · subst hab
      simp [ltB, ih, UInt8.lt_irrefl]
    · rw [if_neg hab]
      by_cases hlt : a < b
      · simp [hlt, ltB]
      · simp [hlt, ltB, hab]
theorem ltB_irrefl : ∀ l, ltB l l = false
  | [] => rfl
  | a :: l => by simp [ltB, ltB_irrefl l, UInt8.lt_irrefl]
theorem ltB_trans : ∀ {a b c : List UInt8}, ltB a b = true → ltB b c = true → ltB a c = true
  | [], [], _, h, _ => by simp [ltB] at h
  | [], _ :: _, [], _, h => by simp [ltB] at h
  | [], _ :: _, _ :: _, _, _ => rfl
  | _ :: _, [], _, h, _ => by simp [ltB] at h
  | _ :: _, _ :: _, [], _, h => by simp [ltB] at h
  | x :: a, y :: b, z :: c, h, h2 => by
    simp only [ltB, Bool.or_eq_true, decide_eq_true_eq, Bool.and_eq_true, beq_iff_eq] at h h2 ⊢
    rcases h with h | ⟨rfl, h⟩
    · rcases h2 with h2 | ⟨rfl, h2⟩
      · exact .inl (UInt8.lt_trans h h2)
      · exact .inl h
    · rcases h2 with h2 | ⟨rfl, h2⟩
      · exact .inl h2
      · exact .inr ⟨rfl, ltB_trans h h2⟩
theorem ltB_total : ∀ {a b : List UInt8}, ltB a b = false → ltB b a = false → a = b
  | [], [], _, _ => rfl
  | [], _ :: _, h, _ => by simp [ltB] at h
  | _ :: _, [], _, h => by simp [ltB] at h
  | x :: a, y :: b, h, h2 => by
    simp only [ltB, Bool.or_eq_false_iff, decide_eq_false_iff_not, Bool.and_eq_false_iff, beq_eq_false_iff_ne] at h h2
    have hxy : x = y := UInt8.le_antisymm (UInt8.not_lt.mp h2.1) (UInt8.not_lt.mp h.1)
    subst hxy
    rw [ltB_total (h.2.resolve_left fun e => e rfl) (h2.2.resolve_left fun e => e rfl)]
theorem ltOf_cmpD (a b : Dg) : Go.Proofs.ltOf cmpD a b = ltB a.1 b.1 := by
  unfold Go.Proofs.ltOf cmpD
  have := cmpB_lt a.1 b.1 (by rw [a.2, b.2])
  rw [Bool.eq_iff_iff, decide_eq_true_eq]; exact this
theorem ltB_ntrans {a b c : List UInt8} (h : ltB a b = false) (h2 : ltB b c = false) : ltB a c = false := by
  rw [Bool.eq_false_iff]
  intro h3
  by_cases hb : ltB b a = true
  · have := ltB_trans hb h3; rw [h2] at this; cases this
  · have := ltB_total h (by simpa using hb)
    subst this
    rw [h2] at h3; cases h3
theorem swoD : Go.Sort.SWO (Go.Proofs.ltOf cmpD) where
  irrefl x := by rw [ltOf_cmpD]; exact ltB_irrefl _
  trans x y z h1 h2 := by rw [ltOf_cmpD] at *; exact ltB_trans h1 h2
  ntrans x y z h1 h2 := by rw [ltOf_cmpD] at *; exact ltB_ntrans h1 h2
theorem totD (x y : Dg) (h : Go.Proofs.ltOf cmpD x y = false) (h2 : Go.Proofs.ltOf cmpD y x = false) : x = y := by
  rw [ltOf_cmpD] at *
  exact Subtype.ext (ltB_total h h2)
instance : Inhabited Dg := ⟨⟨List.replicate 32 0, by simp⟩⟩
/-- digests in their order -/
def sortD (ks : List Dg) : List Dg := ks.mergeSort fun x y => !Go.Proofs.ltOf cmpD y x
theorem sortD_perm (ks : List Dg) : (sortD ks).Perm ks := List.mergeSort_perm _ _
theorem sortD_eq {ks ls : List Dg} (h : ks.Perm ls) : sortD ks = sortD ls := by
  have tr : ∀ (a b c : Dg), (!Go.Proofs.ltOf cmpD b a) = true → (!Go.Proofs.ltOf cmpD c b) = true → (!Go.Proofs.ltOf cmpD c a) = true := by
    intro a b c h1 h2
    simp only [Bool.not_eq_true'] at *
    exact swoD.ntrans _ _ _ h2 h1
  have tot : ∀ (a b : Dg), ((!Go.Proofs.ltOf cmpD b a) || (!Go.Proofs.ltOf cmpD a b)) = true := by
    intro a b
    cases h1 : Go.Proofs.ltOf cmpD b a
    · rfl
    · cases h2 : Go.Proofs.ltOf cmpD a b
      · rfl
      · have := swoD.trans _ _ _ h1 h2
        rw [swoD.irrefl] at this; cases this
  refine List.Perm.eq_of_pairwise (le := fun a b => (!Go.Proofs.ltOf cmpD b a) = true) ?_ (List.pairwise_mergeSort tr tot ks) (List.pairwise_mergeSort tr tot ls) (((sortD_perm ks).trans h).trans (sortD_perm ls).symm)
  intro a b _ _ h1 h2
  simp only [Bool.not_eq_true'] at h1 h2
  exact (totD _ _ h1 h2).symm
end Go.Proofs.YtpcgkfgppfjnlaaGreatDoor.V
namespace Go.Proofs.YtpcgkfgppfjnlaaGreatDoor.V
open Go Go.RowKit Go.Sort
variable {P : Program} {S : Nat → Prop} {w0 w : World} {L : List (Nat × Bk)}

theorem bytes_Compare_spec {s t : Sl} {l k : List UInt8} (h : By w s l) (h2 : By w t k) : callP Tryz.prog 32 #[s.v, t.v] w fun v w' => v = .int .i64 (cmpB l k) ∧ w' = w := by
  refine bytes_Compare_ok ?_
  unfold bytes_Compare
  exact Compare_ext h h2 ⟨_, rfl, rfl, rfl⟩
theorem dg_bv (d : Dg) : cellsA .u8 (dg d.1) 0 32 = bv d.1 := by
  have h := cellsA_bv (d := dg d.1) (l := d.1) fun i b hb => by
    unfold dg
    rw [List.getD_eq_getElem?_getD, hb]; rfl
  rw [d.2] at h
  exact h
theorem Own.by {b : Nat} {l : List UInt8} (h : Own w b (bv l)) : By w ⟨some ⟨b, 0, none⟩, l.length, l.length⟩ l :=
  ⟨by rw [bv_len]; simp, Nat.le_refl _, fun _ => ⟨rfl, h.lt, Own.at h (by intro i hi; simp)⟩⟩
theorem closureD (x y : Dg) (W : World) : Calls Tryz.prog 31 (#[.agg (dgC x).toArray, .agg (dgC y).toArray] ++ #[]) W fun e w' => e = .returned (.int .i64 (cmpD x y)) ∧ ∃ q os', w' = Go.Sort.grow (W.drewN q) os' := by
  have h : callP Tryz.prog 31 #[arrV .u8 32 (dg x.1), arrV .u8 32 (dg y.1)] W fun v w' => v = .int .i64 (cmpD x y) ∧ ∃ q os', w' = Go.Sort.grow (W.drewN q) os' := by
    refine chase_Chase_Believed_c1_ok ?_
    unfold chase_Chase_Believed_c1
    have m := Lo.start (S := F0) W
    have key : ∀ (b2 b3 : Nat) (w2 : World), Own w2 b2 (bv x.1) → Own w2 b3 (bv y.1) → (∃ q os', w2 = Go.Sort.grow (W.drewN q) os') →
        callP Tryz.prog 32 #[.slice (cutAt (some ⟨b2, 0, none⟩) 32 0 1) 32 32, .slice (cutAt (some ⟨b3, 0, none⟩) 32 0 1) 32 32] w2 fun v w_3 => ∃ r7 : Int, v = (.int .i64 r7) ∧ ((Value.int .i64 r7) = .int .i64 (cmpD x y) ∧ ∃ q os', w_3 = Go.Sort.grow (W.drewN q) os') := by
      intro b2 b3 w2 o2 o3 he
      have e2 := o2.by
      have e3 := o3.by
      rw [x.2] at e2
      rw [y.2] at e3
      have h := bytes_Compare_spec e2 e3
      have hc : ∀ b : Nat, cutAt (some ⟨b, 0, none⟩) 32 0 1 = some ⟨b, 0, none⟩ := fun b => by
        unfold cutAt
        rw [if_neg (by decide)]
        simp [add_lit]
      rw [hc, hc]
      refine callP_of h ?_
      rintro v w' ⟨rfl, rfl⟩
      exact ⟨_, rfl, rfl, he⟩
    have a1 := al_cells (w := W) (cs := bv x.1) (t := 50) (K := fun b w' => b = W.heap.size ∧ w' = W.alloc (.cells (bv x.1).toArray 50) → Own w' b (bv x.1)) fun b w' _ _ _ o _ => o
    rw [show cellsA .u8 (dg x.1) 0 32 = bv x.1 from dg_bv x, show cellsA .u8 (dg y.1) 0 32 = bv y.1 from dg_bv y]
    have o2 := a1 ⟨rfl, rfl⟩
    have a2 := al_cells (w := W.alloc (.cells (bv x.1).toArray 50)) (cs := bv y.1) (t := 50)
      (K := fun b w' => b = (W.alloc (.cells (bv x.1).toArray 50)).heap.size ∧ w' = (W.alloc (.cells (bv x.1).toArray 50)).alloc (.cells (bv y.1).toArray 50) → Own w' b (bv y.1) ∧ Fr F0 (W.alloc (.cells (bv x.1).toArray 50)) w') fun b w' _ f _ o _ => ⟨o, f⟩
    obtain ⟨o3, f⟩ := a2 ⟨rfl, rfl⟩
    have o2 := o2.fr f id
    show callP _ _ _ _ _
    have f2 : Fr F0 ((W.alloc (.cells (bv x.1).toArray 50)).alloc (.cells (bv y.1).toArray 50)) (drw ((W.alloc (.cells (bv x.1).toArray 50)).alloc (.cells (bv y.1).toArray 50)) (W.drawn + 1)) := (Fr.refl _).drw _
    refine key _ _ _ (o2.fr f2 id) (o3.fr f2 id) ⟨1, #[.cells (bv x.1).toArray 50, .cells (bv y.1).toArray 50], ?_⟩
    unfold World.alloc drw Go.Sort.grow World.drewN
    simp only [World.mk.injEq, and_true]
    apply Array.ext'
    simp
  exact Calls.mono h fun e w' ⟨v, he, hv, h⟩ => ⟨by rw [he, hv], h⟩

theorem dgs_cons (k : Dg) (ks : List Dg) : dgs (k :: ks) = dgC k ++ dgs ks := by simp [dgs]
theorem dgs_get : ∀ (ks : List Dg) (t : Nat), t < ks.length * 32 → (dgs ks)[t]? = some ((dgC ks[t / 32]!)[t % 32]!)
  | [], t, h => by simp at h
  | k :: ks, t, h => by
    rw [dgs_cons]
    rcases Nat.lt_or_ge t 32 with h1 | h1
    · rw [List.getElem?_append_left (by rw [dgC_len]; exact h1), Nat.div_eq_of_lt h1, Nat.mod_eq_of_lt h1, List.getElem!_cons_zero]
      rw [List.getElem?_eq_getElem (by rw [dgC_len]; exact h1), getElem!_pos (dgC k) t (by rw [dgC_len]; exact h1)]
    · rw [List.getElem?_append_right (by rw [dgC_len]; exact h1), dgC_len]
      have h2 : t - 32 < ks.length * 32 := by rw [List.length_cons] at h; omega
      rw [dgs_get ks (t - 32) h2]
      have e1 : t / 32 = (t - 32) / 32 + 1 := by omega
      have e2 : t % 32 = (t - 32) % 32 := by omega
      rw [e1, e2, List.getElem!_cons_succ]
theorem flat_dgs (ks : List Dg) : flatK dgC 32 ks.toArray = (dgs ks).toArray := by
  apply Array.ext
  · rw [size_flatK]; simp [dgs_len]
  · intro i h1 h2
    have h1 : i < ks.length * 32 := by rw [size_flatK] at h1; simpa using h1
    have a := get_flatK dgC 32 ks.toArray i (by simpa using h1)
    rw [getElem!_pos (flatK dgC 32 ks.toArray) i (by rw [size_flatK]; simpa using h1)] at a
    rw [a]
    have b := dgs_get ks i h1
    rw [List.getElem?_eq_getElem (by rw [dgs_len]; exact h1)] at b
    simp only [List.getElem_toArray]
    rw [Option.some.inj b]
    simp
theorem Own.fz {b : Nat} {cs : List Value} (h : Own w b cs) {o : Nat} (ho : o < cs.length) : w.frozen? ⟨b, o, none⟩ = false := by
  obtain ⟨t, lo, hi, hb, hz⟩ := h
  simp only [World.frozen?, hb]
  rcases hz with hz | hz
  · have : ¬ lo ≤ o := by omega
    simp [this]
  · by_cases h1 : lo ≤ o
    · have : ¬ o < hi := by omega
      simp [this]
    · simp [h1]
theorem Own.holds {b : Nat} {cs : List Value} {ks : List Dg} (h : Own w b cs) (hl : ks.length * 32 ≤ cs.length) (ht : cs.take (ks.length * 32) = dgs ks) : HoldsK dgC 32 w b 0 ks.toArray := by
  unfold HoldsK
  rw [flat_dgs]
  intro j hj
  have hj : j < ks.length * 32 := by simpa [dgs_len] using hj
  rw [Nat.zero_add]
  refine ⟨?_, h.fz (by omega)⟩
  refine h.cell ?_
  have : cs[j]? = (dgs ks)[j]? := by rw [← ht, List.getElem?_take, if_pos hj]
  rw [this, List.getElem?_eq_getElem (by rw [dgs_len]; exact hj), getElem!_pos _ j (by simpa [dgs_len] using hj)]
  simp
theorem sortW_fr {b n : Nat} {d : Array Dg} {os : Array Obj} (_hb : b < w.heap.size) : Fr (· = b) w (sortWorldK dgC 32 w b 0 n d os) := by
  refine ⟨rfl, rfl, rfl, ?_, fun i hi hn => ?_⟩
  · show w.heap.size ≤ (Array.modify _ _ _ ++ os).size
    simp
  · show (Array.modify _ b _ ++ os)[i]? = _
    rw [Array.getElem?_append_left (by rw [Array.size_modify]; exact hi), Array.getElem?_modify, if_neg fun e => hn e.symm]
    rfl
theorem sortW_own {b n : Nat} {ks : List Dg} {os : Array Obj} {cs : List Value} (h : Own w b cs) (hl : ks.length * 32 ≤ cs.length) : Own (sortWorldK dgC 32 w b 0 n ks.toArray os) b (dgs ks ++ cs.drop (ks.length * 32)) := by
  have hb := h.lt
  obtain ⟨t, lo, hi, h, h2⟩ := h
  refine ⟨t, lo, hi, ?_, ?_⟩
  · show (Array.modify _ b _ ++ os)[b]? = _
    rw [Array.getElem?_append_left (by rw [Array.size_modify]; exact hb), Array.getElem?_modify, if_pos rfl]
    show Option.map _ w.heap[b]? = _
    rw [h]
    simp only [Option.map_some, Go.Sort.onCells]
    congr 2
    rw [flat_dgs]
    apply Array.ext'
    apply List.ext_getElem?
    intro i
    unfold Go.Sort.putCells
    simp only [Array.toList_mapIdx, List.getElem?_mapIdx, Nat.zero_le, true_and, Nat.zero_add, Nat.sub_zero]
    have hsz : (dgs ks).toArray.size = ks.length * 32 := by simp [dgs_len]
    rw [hsz, List.getElem?_append]
    rw [dgs_len]
    by_cases hi : i < ks.length * 32
    · rw [if_pos hi, List.getElem?_eq_getElem (l := cs) (by omega), Option.map_some, if_pos hi]
      rw [List.getElem?_eq_getElem (by rw [dgs_len]; exact hi), getElem!_pos _ i (by rw [hsz]; exact hi)]
      simp
    · rw [if_neg hi, List.getElem?_drop, show ks.length * 32 + (i - ks.length * 32) = i by omega]
      cases cs[i]? with
      | none => rfl
      | some v => simp [hi]
  · have e : (dgs ks ++ cs.drop (ks.length * 32)).length = cs.length := by rw [List.length_append, dgs_len, List.length_drop]; omega
    rw [e]; exact h2
theorem isAgg_dg : ∀ w, (isAgg (sortDg_ren.t 24)).run Tryz.prog w = .ok true w := Tryz.isAgg50
theorem sizeOf_dg : ∀ w, (Go.sizeOf (sortDg_ren.t 24)).run Tryz.prog w = .ok 32 w := Tryz.sizeOf50
theorem enter_cl : ∀ args w, (callFunc 31 args).run Tryz.prog w = .ok (.enter 31 args) w :=
  fun _ _ => callFunc_enter Tryz.func31 (by decide) rfl

theorem SortFuncD_spec {s : Sl} {cs : List Value} {ks : List Dg} (m : Lo S w0 w (gl s cs)) (g : Gs s 32 cs (dgs ks)) (hn : ks.length < 4611686018427387904) :
    callP Tryz.prog 52 #[s.v, .func (.func 31) #[] #[]] w fun v w' => v = .tuple #[] ∧ ∃ cs', Lo S w0 w' (gl s cs') ∧ Gs s 32 cs' (dgs (sortD ks)) := by
  have hlen : s.len = ks.length := by have := g.len; rw [dgs_len] at this; omega
  have hsl : (sortD ks).length = ks.length := (sortD_perm ks).length_eq
  obtain ⟨p, n, c⟩ := s
  simp only at hlen
  cases p with
  | none =>
    have hc : c = 0 := g.p0 rfl
    have hn0 : n = 0 := by have := g.le; simp only at this; omega
    subst hn0
    have hk : ks = [] := List.length_eq_zero_iff.mp hlen.symm
    subst hk
    have h := AnyF.slices_SortFunc_none sortDg none c (.func (.func 31) #[] #[]) w
    change Calls Tryz.prog 52 _ _ _ at h
    exact Calls.mono h fun e w' ⟨he, hw⟩ => ⟨_, he, rfl, cs, by rw [hw]; exact m, by simpa [sortD] using g⟩
  | some a =>
    by_cases hc0 : c = 0
    · subst hc0
      have hn0 : n = 0 := by have := g.le; simp only at this; omega
      subst hn0
      have hk : ks = [] := List.length_eq_zero_iff.mp hlen.symm
      subst hk
      have h := AnyF.slices_SortFunc_none sortDg (some a) 0 (.func (.func 31) #[] #[]) w
      change Calls Tryz.prog 52 _ _ _ at h
      exact Calls.mono h fun e w' ⟨he, hw⟩ => ⟨_, he, rfl, cs, by rw [hw]; exact m, by simpa [sortD] using g⟩
    obtain ⟨h1, h2⟩ := g.off a rfl hc0
    obtain ⟨b, o, q⟩ := a
    obtain rfl : o = 0 := h1
    obtain rfl : q = none := h2
    have hb : Own w b cs := m.has (b, .cs cs) (by simp [gl, hc0])
    have g1 := g.cap; have g2 := g.take; have g3 := g.le
    simp only at g1 g2 g3
    have hlc : ks.length * 32 ≤ cs.length := by rw [g1, ← hlen]; exact Nat.mul_le_mul_right _ g3
    subst hlen
    have h := AnyQ.slices_SortFunc_total sortDg 32 isAgg_dg sizeOf_dg dgC dgC_len (fun x v hv => by
      have := cellsA_scal .u8 (dg x.1) 32 0 v hv
      cases v <;> first | rfl | (simp [scal] at this)) cmpD swoD 31 #[] b 0 c ks.toArray w enter_cl (fun _ _ _ _ x y => closureD x y _) (hb.holds hlc g2) hb.lt (by simpa using hn) totD
    change Calls Tryz.prog 52 _ _ _ at h
    refine Calls.mono (by simpa using h) fun e w' hh => ?_
    obtain ⟨he, n', os, hw⟩ := hh
    subst hw
    have hs2 : (ks.mergeSort fun x y => !Go.Proofs.ltOf cmpD y x) = sortD ks := rfl
    rw [hs2]
    refine ⟨_, he, rfl, dgs (sortD ks) ++ cs.drop ((sortD ks).length * 32), ?_, ?_⟩
    · rw [gl_some hc0] at m ⊢
      exact m.turn (w' := sortWorldK dgC 32 w b 0 n' (sortD ks).toArray os) 0 (b := b) (x := .cs cs) (y := .cs (dgs (sortD ks) ++ cs.drop ((sortD ks).length * 32))) rfl (sortW_fr hb.lt) (sortW_own hb (by rw [hsl]; exact hlc))
    · refine ⟨by rw [dgs_len, hsl], g3, ?_, ?_, fun h => by simp at h, fun a h _ => by simp at h; subst h; exact ⟨rfl, rfl⟩⟩
      · rw [List.length_append, dgs_len, List.length_drop, hsl]; simp only; omega
      · rw [List.take_append_of_le_length (by rw [dgs_len, hsl]; exact Nat.le_refl _), List.take_of_length_le (by rw [dgs_len, hsl]; exact Nat.le_refl _)]

theorem SortedFuncD_spec {ν : Type} {ev : ν → Value} {Bm m : Nat} {l : List (Dg × ν)} (ob : Own w Bm [.map (some m)]) (h : MapIs ekD ev w m l) (hl : l.length < 549755813888) :
    callP Tryz.prog 29 #[.func (.func 53) #[] #[.pointer (some ⟨Bm, 0, none⟩)], .func (.func 31) #[] #[]] w fun v w' =>
      ∃ (s : Sl) (cs : List Value), v = s.v ∧ Lo F0 w w' (gl s cs) ∧ Gs s 32 cs (dgs (sortD (l.map (·.1)))) := by
  refine slices_SortedFunc_api_Digest_ok (p0 := ⟨53, #[], #[.pointer (some ⟨Bm, 0, none⟩)]⟩) (p1 := ⟨31, #[], #[]⟩) ?_
  unfold slices_SortedFunc_api_Digest
  refine callP_of (collectD_spec ob h hl) ?_
  rintro v w1 ⟨s, ks, cs, rfl, hp, m1, g⟩
  refine ⟨s, rfl, ?_⟩
  have hlen := hp.length_eq
  rw [List.length_map] at hlen
  refine callP_of (SortFuncD_spec m1 g (by omega)) ?_
  rintro v w2 ⟨rfl, cs', m2, g2⟩
  rw [sortD_eq hp] at g2
  exact ⟨rfl, s, cs', rfl, m2, g2⟩
end Go.Proofs.YtpcgkfgppfjnlaaGreatDoor.V
namespace Go.Proofs.YtpcgkfgppfjnlaaGreatDoor.V
open Go Go.RowKit
variable {S : Nat → Prop} {w0 w : World} {b n c cp : Nat}

/-- a block of numbers, and nothing else turned -/
structure Zw (b c : Nat) (w0 w : World) : Prop where
  fr : Fr (· = b) w0 w
  own : ∃ (d : Nat → Int) (r : List Value), (∀ i, i < c → 0 ≤ d i) ∧ Own w b (cellsA .u64 d 0 c ++ r)
theorem Zw.start {d : Nat → Int} {r : List Value} (hd : ∀ i, i < c → 0 ≤ d i) (h : Own w b (cellsA .u64 d 0 c ++ r)) : Zw b c w w := ⟨.refl _, d, r, hd, h⟩
theorem Zw.self (z : Zw b c w0 w) : Zw b c w w := ⟨.refl _, z.own⟩
theorem Zw.trans {w' : World} (z : Zw b c w0 w) (z' : Zw b c w w') : Zw b c w0 w' := ⟨z.fr.trans z'.fr fun _ _ e => e, z'.own⟩
theorem Zw.drf (z : Zw b c w0 w) {K : World → Prop} (h : ∀ w', Zw b c w0 w' → Fr (· = b) w w' → K w') : V.dr w K :=
  h _ ⟨z.fr.drw _, let ⟨d, r, hd, o⟩ := z.own; ⟨d, r, hd, o.fr ((Fr.refl (S := F0) w).drw _) id⟩⟩ ((Fr.refl w).drw _)
theorem Zw.dr (z : Zw b c w0 w) {K : World → Prop} (h : ∀ w', Zw b c w0 w' → K w') : V.dr w K := z.drf fun w' z' _ => h w' z'
theorem Zw.rd (z : Zw b c w0 w) {i : Int} {K : Int → Prop} (h0 : 0 ≤ i) (h1 : i < n) (hn : n ≤ c) (h : ∀ x, 0 ≤ x → K x) : nn (some ⟨b, 0, none⟩) fun a => V.rd (.int .u64) w (Addr.add a (i.toNat * 1)) 0 K := by
  obtain ⟨d, r, hd, o⟩ := z.own
  simp only [nn_some, add_lit, Nat.zero_add, Nat.mul_one]
  exact o.rdi (o := i.toNat) (x := d i.toNat) (by rw [List.getElem?_append_left (by rw [cellsA_len]; omega), cellsA_get, if_pos (by omega), Nat.zero_add]) (h _ (hd _ (by omega)))
theorem Zw.wrf (z : Zw b c w0 w) {i x : Int} {K : World → Prop} (h0 : 0 ≤ i) (h1 : i < n) (hn : n ≤ c) (hx : 0 ≤ x) (h : ∀ w', Zw b c w0 w' → Fr (· = b) w w' → K w') : nn (some ⟨b, 0, none⟩) fun a => V.wr w (Addr.add a (i.toNat * 1)) [.int .u64 x] K := by
  obtain ⟨d, r, hd, o⟩ := z.own
  simp only [nn_some, add_lit, Nat.zero_add, Nat.mul_one]
  refine wr_one o (by rw [List.length_append, cellsA_len]; omega) rfl fun w' f o' _ => h w' ⟨z.fr.trans f fun _ _ e => e, upd d i.toNat x, r, fun k hk => ?_, ?_⟩ f
  · unfold upd
    split
    · exact hx
    · exact hd k hk
  · rw [← cellsA_set, ← List.set_append_left _ _ (by rw [cellsA_len]; omega)]; exact o'
theorem Zw.wr (z : Zw b c w0 w) {i x : Int} {K : World → Prop} (h0 : 0 ≤ i) (h1 : i < n) (hn : n ≤ c) (hx : 0 ≤ x) (h : ∀ w', Zw b c w0 w' → K w') : nn (some ⟨b, 0, none⟩) fun a => V.wr w (Addr.add a (i.toNat * 1)) [.int .u64 x] K :=
  z.wrf h0 h1 hn hx fun w' z' _ => h w' z'
abbrev Us (b n c : Nat) : Sl := ⟨some ⟨b, 0, none⟩, n, c⟩

theorem Less_spec (x y : Int) (w : World) : callP Tryz.prog 93 #[.int .u64 x, .int .u64 y] w fun v w' => (∃ r : Bool, v = .bool r) ∧ w' = w := by
  have hn : ∀ (x : Int) (w : World), callP Tryz.prog 115 #[.int .u64 x] w fun v w' => v = .bool false ∧ w' = w := by
    intro x w
    refine cmp_isNaN_uint64_ok ?_
    unfold cmp_isNaN_uint64
    exact ⟨by simp, rfl⟩
  refine cmp_Less_uint64_ok ?_
  unfold cmp_Less_uint64
  refine callP_of (hn x w) ?_
  rintro v w' ⟨rfl, rfl⟩
  exact ⟨_, rfl, br_false rfl ⟨⟨_, rfl⟩, rfl⟩⟩
theorem Less_of {x y : Int} {w : World} {K : Value → World → Prop} (h : ∀ r : Bool, K (.bool r) w) : callP Tryz.prog 93 #[.int .u64 x, .int .u64 y] w K :=
  callP_of (Less_spec x y w) fun v w' ⟨⟨r, e⟩, e2⟩ => by subst e; subst e2; exact h r

variable {Q : Value → World → Prop}
theorem insertionSort_safe {lo hi : Int} (z : Zw b c w0 w) (h0 : 0 ≤ lo) (h1 : lo ≤ hi) (h2 : hi ≤ n) (hn : n ≤ c) (hc : n < 4611686018427387904) (hQ : ∀ w', Zw b c w0 w' → Q (.tuple #[]) w') :
    callP Tryz.prog 87 #[(Us b n cp).v, .int .i64 lo, .int .i64 hi] w Q := by
  refine slices_insertionSortOrdered_uint64_ok ?_
  unfold slices_insertionSortOrdered_uint64
  simp (disch := omega) only [w_i64]
  refine ⟨fun i w => Zw b c w0 w ∧ lo < i ∧ i ≤ hi + 1, fun i _ => (hi + 1 - i).toNat, ⟨z, by omega, by omega⟩, ?_⟩
  rintro i w1 K ⟨z1, hi1, hi2⟩ hK
  refine br_lt (fun hlt => ?_) fun hge => hQ _ z1
  refine ⟨fun j w => Zw b c w0 w ∧ lo ≤ j ∧ j ≤ i, fun j _ => j.toNat, ⟨z1, by omega, by omega⟩, ?_⟩
  rintro j w2 K1 ⟨z2, hj1, hj2⟩ hK1
  have done : ∀ w', Zw b c w0 w' → K (i + 1) w' := fun w' z' => hK _ _ ⟨z', by omega, by omega⟩ (by dsimp only; omega)
  simp (disch := omega) only [w_i64]
  repeat' first
    | exact done _ (by assumption)
    | (refine Zw.dr (by assumption) fun _ _ => ?_)
    | (refine br_gt (fun _ => ?_) (fun _ => ?_))
    | (simp (disch := omega) only [w_i64])
    | (refine And.intro ⟨by omega, by omega⟩ ?_)
    | (refine Zw.rd (n := n) (by assumption) (by omega) (by omega) (by omega) fun _ _ => ?_)
    | (refine Zw.wr (n := n) (by assumption) (by omega) (by omega) (by omega) (by omega) fun _ _ => ?_)
    | (refine Less_of fun r => ⟨r, rfl, br_of (fun _ => ?_) (fun _ => ?_)⟩)
    | (refine hK1 _ _ ⟨by assumption, by omega, by omega⟩ (by dsimp only; omega))
-- BELOW: printed by k23.py
theorem tdiv_pos {x k : Int} (h : 0 ≤ x) (_hk : 0 ≤ k) : Int.tdiv x k = x / k := Int.tdiv_eq_ediv_of_nonneg h
theorem siftDown_safe {lo hi f : Int} (z : Zw b c w0 w) (h0 : 0 ≤ lo) (h1 : lo ≤ hi) (h2 : 0 ≤ f) (h3 : f + hi ≤ n) (hn : n ≤ c) (hc : n < 1152921504606846976) (hQ : ∀ w', Zw b c w0 w' → Q (.tuple #[]) w') :
    callP Tryz.prog 110 #[(Us b n cp).v, .int .i64 lo, .int .i64 hi, .int .i64 f] w Q := by
  refine slices_siftDownOrdered_uint64_ok ?_
  unfold slices_siftDownOrdered_uint64
  refine ⟨fun r w => Zw b c w0 w ∧ 0 ≤ r ∧ r ≤ hi, fun r _ => (hi - r).toNat, ⟨z, by omega, by omega⟩, ?_⟩
  rintro r w1 K ⟨z1, hr1, hr2⟩ hK
  simp (disch := omega) only [w_i64]
  refine br_ge (fun _ => hQ _ z1) fun _ => ?_
  refine ⟨fun j w => Zw b c w0 w ∧ 2 * r + 1 ≤ j ∧ j < hi, ?_, ?_⟩
  · repeat' first
      | (exact ⟨by assumption, by omega, by omega⟩)
      | (exfalso; omega)
      | (refine Zw.dr (by assumption) fun _ _ => ?_)
      | (simp (disch := omega) only)
      | (refine br_gt (fun _ => ?_) (fun _ => ?_))
      | (refine br_lt (fun _ => ?_) (fun _ => ?_))
      | (refine br_ge (fun _ => ?_) (fun _ => ?_))
      | (refine br_le (fun _ => ?_) (fun _ => ?_))
      | (refine br_eq (fun _ => ?_) (fun _ => ?_))
      | (refine And.intro ⟨by omega, by omega⟩ ?_)
      | (refine Zw.rd (n := n) (by assumption) (by omega) (by omega) (by omega) fun _ _ => ?_)
      | (refine Zw.wr (n := n) (by assumption) (by omega) (by omega) (by omega) (by omega) fun _ _ => ?_)
      | (refine Less_of fun r => ⟨r, rfl, br_of (fun _ => ?_) (fun _ => ?_)⟩)
  rintro j w2 ⟨z2, hj1, hj2⟩
  repeat' first
    | (exact hQ _ (by assumption))
    | (refine hK _ _ ⟨by assumption, by omega, by omega⟩ (by dsimp only; omega))
    | (exfalso; omega)
    | (refine Zw.dr (by assumption) fun _ _ => ?_)
    | (simp (disch := omega) only [w_i64])
    | (refine br_gt (fun _ => ?_) (fun _ => ?_))
    | (refine br_lt (fun _ => ?_) (fun _ => ?_))
    | (refine br_ge (fun _ => ?_) (fun _ => ?_))
    | (refine br_le (fun _ => ?_) (fun _ => ?_))
    | (refine br_eq (fun _ => ?_) (fun _ => ?_))
    | (refine And.intro ⟨by omega, by omega⟩ ?_)
    | (refine Zw.rd (n := n) (by assumption) (by omega) (by omega) (by omega) fun _ _ => ?_)
    | (refine Zw.wr (n := n) (by assumption) (by omega) (by omega) (by omega) (by omega) fun _ _ => ?_)
    | (refine Less_of fun r => ⟨r, rfl, br_of (fun _ => ?_) (fun _ => ?_)⟩)

theorem heapSort_safe {lo hi : Int} (z : Zw b c w0 w) (h0 : 0 ≤ lo) (h1 : lo ≤ hi) (h2 : hi ≤ n) (hn : n ≤ c) (hc : n < 1152921504606846976) (hQ : ∀ w', Zw b c w0 w' → Q (.tuple #[]) w') :
    callP Tryz.prog 88 #[(Us b n cp).v, .int .i64 lo, .int .i64 hi] w Q := by
  refine slices_heapSortOrdered_uint64_ok ?_
  unfold slices_heapSortOrdered_uint64
  simp (disch := omega) only [w_i64]
  have ht : 0 ≤ Int.tdiv (hi - lo - 1) 2 ∧ Int.tdiv (hi - lo - 1) 2 ≤ hi - lo := by
    rcases Int.lt_or_le (hi - lo - 1) 0 with h | h
    · rw [show hi - lo - 1 = -1 by omega]; simp; omega
    · rw [tdiv_pos h (by decide)]; omega
  generalize Int.tdiv (hi - lo - 1) 2 = t at ht
  simp (disch := omega) only [w_i64]
  refine ⟨by decide, ?_⟩
  refine ⟨fun i w => Zw b c w0 w ∧ -1 ≤ i ∧ i ≤ t, fun i _ => (i + 1).toNat, ⟨z, by omega, by omega⟩, ?_⟩
  rintro i w1 K ⟨z1, hi1, hi2⟩ hK
  refine br_ge (fun hge => ?_) fun hlt => ?_
  · refine siftDown_safe (b := b) (n := n) (c := c) (w0 := w0) z1 (by omega) (by omega) (by omega) (by omega) hn hc fun w' z' => ⟨rfl, ?_⟩
    simp (disch := omega) only [w_i64]
    exact hK _ _ ⟨z', by omega, by omega⟩ (by dsimp only; omega)
  · refine ⟨fun i w => Zw b c w0 w ∧ -1 ≤ i ∧ i ≤ hi - lo - 1, fun i _ => (i + 1).toNat, ⟨z1, by omega, by omega⟩, ?_⟩
    rintro j w2 K1 ⟨z2, hj1, hj2⟩ hK1
    repeat' first
    | (exact hQ _ (by assumption))
    | (refine siftDown_safe (b := b) (n := n) (c := c) (w0 := w0) (by assumption) (by omega) (by omega) (by omega) (by omega) hn hc fun _ _ => And.intro rfl ?_)
    | (refine hK1 _ _ ⟨by assumption, by omega, by omega⟩ (by dsimp only; omega))
    | (exfalso; omega)
    | (refine Zw.dr (by assumption) fun _ _ => ?_)
    | (simp (disch := omega) only [w_i64])
    | (refine br_gt (fun _ => ?_) (fun _ => ?_))
    | (refine br_lt (fun _ => ?_) (fun _ => ?_))
    | (refine br_ge (fun _ => ?_) (fun _ => ?_))
    | (refine br_le (fun _ => ?_) (fun _ => ?_))
    | (refine br_eq (fun _ => ?_) (fun _ => ?_))
    | (refine And.intro ⟨by omega, by omega⟩ ?_)
    | (refine Zw.rd (n := n) (by assumption) (by omega) (by omega) (by omega) fun _ _ => ?_)
    | (refine Zw.wr (n := n) (by assumption) (by omega) (by omega) (by omega) (by omega) fun _ _ => ?_)
    | (refine Less_of fun r => ⟨r, rfl, br_of (fun _ => ?_) (fun _ => ?_)⟩)

theorem reverseRange_safe {lo hi : Int} (z : Zw b c w0 w) (h0 : 0 ≤ lo) (h1 : lo ≤ hi) (h2 : hi ≤ n) (hn : n ≤ c) (hc : n < 1152921504606846976) (hQ : ∀ w', Zw b c w0 w' → Q (.tuple #[]) w') :
    callP Tryz.prog 91 #[(Us b n cp).v, .int .i64 lo, .int .i64 hi] w Q := by
  refine slices_reverseRangeOrdered_uint64_ok ?_
  unfold slices_reverseRangeOrdered_uint64
  simp (disch := omega) only [w_i64]
  refine ⟨fun i j w => Zw b c w0 w ∧ lo ≤ i ∧ i ≤ hi ∧ j < hi ∧ lo - 1 ≤ j, fun i j _ => (j - i + 1).toNat, ⟨z, by omega, by omega, by omega, by omega⟩, ?_⟩
  rintro i j w1 K ⟨z1, hi1, hi2, hj1, hj2⟩ hK
  repeat' first
    | (exact hQ _ (by assumption))
    | (refine hK _ _ _ ⟨by assumption, by omega, by omega, by omega, by omega⟩ (by dsimp only; omega))
    | (exfalso; omega)
    | (refine Zw.dr (by assumption) fun _ _ => ?_)
    | (simp (disch := omega) only [w_i64])
    | (refine br_gt (fun _ => ?_) (fun _ => ?_))
    | (refine br_lt (fun _ => ?_) (fun _ => ?_))
    | (refine br_ge (fun _ => ?_) (fun _ => ?_))
    | (refine br_le (fun _ => ?_) (fun _ => ?_))
    | (refine br_eq (fun _ => ?_) (fun _ => ?_))
    | (refine And.intro ⟨by omega, by omega⟩ ?_)
    | (refine Zw.rd (n := n) (by assumption) (by omega) (by omega) (by omega) fun _ _ => ?_)
    | (refine Zw.wr (n := n) (by assumption) (by omega) (by omega) (by omega) (by omega) fun _ _ => ?_)
    | (refine Less_of fun r => ⟨r, rfl, br_of (fun _ => ?_) (fun _ => ?_)⟩)

theorem partialInsertionSort_safe {lo hi : Int} (z : Zw b c w0 w) (h0 : 0 ≤ lo) (h1 : lo < hi) (h2 : hi ≤ n) (hn : n ≤ c) (hc : n < 1152921504606846976) (hQ : ∀ r w', Zw b c w0 w' → Q (.bool r) w') :
    callP Tryz.prog 92 #[(Us b n cp).v, .int .i64 lo, .int .i64 hi] w Q := by
  refine slices_partialInsertionSortOrdered_uint64_ok ?_
  unfold slices_partialInsertionSortOrdered_uint64
  simp (disch := omega) only [w_i64]
  refine ⟨fun i j w => Zw b c w0 w ∧ lo + 1 ≤ i ∧ i ≤ hi ∧ 0 ≤ j ∧ j ≤ 5, fun i j _ => (5 - j).toNat, ⟨z, by omega, by omega, by omega, by omega⟩, ?_⟩
  rintro i j w1 K ⟨z1, hi1, hi2, hj1, hj2⟩ hK
  refine br_lt (fun hlt => ?_) fun _ => hQ _ _ z1
  refine ⟨fun i w => Zw b c w0 w ∧ lo + 1 ≤ i ∧ i ≤ hi, ⟨fun i w => Zw b c w0 w ∧ lo + 1 ≤ i ∧ i ≤ hi, fun i _ => (hi - i).toNat, ⟨z1, by omega, by omega⟩, ?_⟩, ?_⟩
  · rintro k w2 K1 ⟨z2, hk1, hk2⟩ hK1
    repeat' first
      | (refine hK1 _ _ ⟨by assumption, by omega, by omega⟩ (by dsimp only; omega))
      | (exact ⟨by assumption, by omega, by omega⟩)
      | (exfalso; omega)
      | (refine Zw.dr (by assumption) fun _ _ => ?_)
      | (simp (disch := omega) only [w_i64])
      | (refine br_gt (fun _ => ?_) (fun _ => ?_))
      | (refine br_lt (fun _ => ?_) (fun _ => ?_))
      | (refine br_ge (fun _ => ?_) (fun _ => ?_))
      | (refine br_le (fun _ => ?_) (fun _ => ?_))
      | (refine br_eq (fun _ => ?_) (fun _ => ?_))
      | (refine And.intro ⟨by omega, by omega⟩ ?_)
      | (refine Zw.rd (n := n) (by assumption) (by omega) (by omega) (by omega) fun _ _ => ?_)
      | (refine Zw.wr (n := n) (by assumption) (by omega) (by omega) (by omega) (by omega) fun _ _ => ?_)
      | (refine Less_of fun r => ⟨r, rfl, br_of (fun _ => ?_) (fun _ => ?_)⟩)
  rintro k w2 ⟨z2, hk1, hk2⟩
  refine br_eq (fun _ => hQ _ _ z2) fun hne => ?_
  simp (disch := omega) only [w_i64]
  refine br_lt (fun _ => hQ _ _ z2) fun h50 => ?_
  have hkK : ∀ w', Zw b c w0 w' → K k (j + 1) w' := fun w' z' => hK _ _ _ ⟨z', by omega, by omega, by omega, by omega⟩ (by dsimp only; omega)
  have hkh : k < hi := by omega
  · refine Zw.dr z2 fun w3 z3 => ⟨⟨by omega, by omega⟩, Zw.rd (n := n) z3 (by omega) (by omega) hn fun x _ => ⟨⟨by omega, by omega⟩, Zw.rd (n := n) z3 (by omega) (by omega) hn fun y _ => ⟨⟨by omega, by omega⟩, Zw.wr (n := n) z3 (by omega) (by omega) hn (by omega) fun w4 z4 =>
      ⟨⟨by omega, by omega⟩, Zw.wr (n := n) z4 (by omega) (by omega) hn (by omega) fun w5 z5 => ?_⟩⟩⟩⟩
    refine ⟨fun w => Zw b c w0 w, ?_, ?_⟩
    · refine br_ge (fun _ => ?_) fun _ => z5
      refine ⟨fun i w => Zw b c w0 w ∧ 0 ≤ i ∧ i ≤ k, fun i _ => i.toNat, ⟨z5, by omega, by omega⟩, ?_⟩
      rintro q w6 K1 ⟨z6, hq1, hq2⟩ hK1
      repeat' first
        | (assumption)
        | (refine hK1 _ _ ⟨by assumption, by omega, by omega⟩ (by dsimp only; omega))
        | (exfalso; omega)
        | (refine Zw.dr (by assumption) fun _ _ => ?_)
        | (simp (disch := omega) only [w_i64])
        | (refine br_gt (fun _ => ?_) (fun _ => ?_))
        | (refine br_lt (fun _ => ?_) (fun _ => ?_))
        | (refine br_ge (fun _ => ?_) (fun _ => ?_))
        | (refine br_le (fun _ => ?_) (fun _ => ?_))
        | (refine br_eq (fun _ => ?_) (fun _ => ?_))
        | (refine And.intro ⟨by omega, by omega⟩ ?_)
        | (refine Zw.rd (n := n) (by assumption) (by omega) (by omega) (by omega) fun _ _ => ?_)
        | (refine Zw.wr (n := n) (by assumption) (by omega) (by omega) (by omega) (by omega) fun _ _ => ?_)
        | (refine Less_of fun r => ⟨r, rfl, br_of (fun _ => ?_) (fun _ => ?_)⟩)
    · intro w6 z6
      refine br_ge (fun _ => ?_) fun _ => hkK _ z6
      refine ⟨fun i w => Zw b c w0 w ∧ k + 1 ≤ i ∧ i ≤ hi, fun i _ => (hi - i).toNat, ⟨z6, by omega, by omega⟩, ?_⟩
      rintro q w7 K1 ⟨z7, hq1, hq2⟩ hK1
      repeat' first
        | (exact hkK _ (by assumption))
        | (refine hK1 _ _ ⟨by assumption, by omega, by omega⟩ (by dsimp only; omega))
        | (exfalso; omega)
        | (refine Zw.dr (by assumption) fun _ _ => ?_)
        | (simp (disch := omega) only [w_i64])
        | (refine br_gt (fun _ => ?_) (fun _ => ?_))
        | (refine br_lt (fun _ => ?_) (fun _ => ?_))
        | (refine br_ge (fun _ => ?_) (fun _ => ?_))
        | (refine br_le (fun _ => ?_) (fun _ => ?_))
        | (refine br_eq (fun _ => ?_) (fun _ => ?_))
        | (refine And.intro ⟨by omega, by omega⟩ ?_)
        | (refine Zw.rd (n := n) (by assumption) (by omega) (by omega) (by omega) fun _ _ => ?_)
        | (refine Zw.wr (n := n) (by assumption) (by omega) (by omega) (by omega) (by omega) fun _ _ => ?_)
        | (refine Less_of fun r => ⟨r, rfl, br_of (fun _ => ?_) (fun _ => ?_)⟩)

theorem partitionEqual_safe {lo hi pv : Int} (z : Zw b c w0 w) (h0 : 0 ≤ lo) (h1 : lo < hi) (h2 : hi ≤ n) (hp : lo ≤ pv ∧ pv < hi) (hn : n ≤ c) (hc : n < 1152921504606846976) (hQ : ∀ i w', Zw b c w0 w' → lo < i → i ≤ hi → Q (.int .i64 i) w') :
    callP Tryz.prog 94 #[(Us b n cp).v, .int .i64 lo, .int .i64 hi, .int .i64 pv] w Q := by
  refine slices_partitionEqualOrdered_uint64_ok ?_
  unfold slices_partitionEqualOrdered_uint64
  simp (disch := omega) only [w_i64]
  refine Zw.dr z fun w3 z3 => ⟨⟨by omega, by omega⟩, Zw.rd (n := n) z3 (by omega) (by omega) hn fun x _ => ⟨⟨by omega, by omega⟩, Zw.rd (n := n) z3 (by omega) (by omega) hn fun y _ => ⟨⟨by omega, by omega⟩, Zw.wr (n := n) z3 (by omega) (by omega) hn (by omega) fun w4 z4 =>
      ⟨⟨by omega, by omega⟩, Zw.wr (n := n) z4 (by omega) (by omega) hn (by omega) fun w5 z5 => ?_⟩⟩⟩⟩
  refine ⟨fun i j w => Zw b c w0 w ∧ lo + 1 ≤ i ∧ i ≤ hi ∧ j < hi ∧ i ≤ j + 2, fun i j _ => (j + 2 - i).toNat, ⟨z5, by omega, by omega, by omega, by omega⟩, ?_⟩
  rintro i0 j0 w1 K ⟨z1, hi1, hi2, hj1, hj2⟩ hK
  refine ⟨fun i w => Zw b c w0 w ∧ i0 ≤ i ∧ i ≤ hi ∧ i ≤ j0 + 2, ⟨fun i w => Zw b c w0 w ∧ i0 ≤ i ∧ i ≤ hi ∧ i ≤ j0 + 2, fun i _ => (hi - i).toNat, ⟨z1, by omega, by omega, by omega⟩, ?_⟩, ?_⟩
  · rintro i w2 K1 ⟨z2, hk1, hk2, hk3⟩ hK1
    repeat' first
      | (refine hK1 _ _ ⟨by assumption, by omega, by omega, by omega⟩ (by dsimp only; omega))
      | (exact ⟨by assumption, by omega, by omega, by omega⟩)
      | (exfalso; omega)
      | (refine Zw.dr (by assumption) fun _ _ => ?_)
      | (simp (disch := omega) only [w_i64])
      | (refine br_gt (fun _ => ?_) (fun _ => ?_))
      | (refine br_lt (fun _ => ?_) (fun _ => ?_))
      | (refine br_ge (fun _ => ?_) (fun _ => ?_))
      | (refine br_le (fun _ => ?_) (fun _ => ?_))
      | (refine br_eq (fun _ => ?_) (fun _ => ?_))
      | (refine And.intro ⟨by omega, by omega⟩ ?_)
      | (refine Zw.rd (n := n) (by assumption) (by omega) (by omega) (by omega) fun _ _ => ?_)
      | (refine Zw.wr (n := n) (by assumption) (by omega) (by omega) (by omega) (by omega) fun _ _ => ?_)
      | (refine Less_of fun r => ⟨r, rfl, br_of (fun _ => ?_) (fun _ => ?_)⟩)
  rintro i w2 ⟨z2, hk1, hk2, hk3⟩
  refine ⟨fun j w => Zw b c w0 w ∧ i ≤ j + 2 ∧ j ≤ j0, ⟨fun j w => Zw b c w0 w ∧ i ≤ j + 2 ∧ j ≤ j0, fun j _ => (j + 1).toNat, ⟨z2, by omega, by omega⟩, ?_⟩, ?_⟩
  · rintro j w3 K1 ⟨z3, hj5, hj6⟩ hK1
    repeat' first
      | (refine hK1 _ _ ⟨by assumption, by omega, by omega⟩ (by dsimp only; omega))
      | (exact ⟨by assumption, by omega, by omega⟩)
      | (exfalso; omega)
      | (refine Zw.dr (by assumption) fun _ _ => ?_)
      | (simp (disch := omega) only [w_i64])
      | (refine br_gt (fun _ => ?_) (fun _ => ?_))
      | (refine br_lt (fun _ => ?_) (fun _ => ?_))
      | (refine br_ge (fun _ => ?_) (fun _ => ?_))
      | (refine br_le (fun _ => ?_) (fun _ => ?_))
      | (refine br_eq (fun _ => ?_) (fun _ => ?_))
      | (refine And.intro ⟨by omega, by omega⟩ ?_)
      | (refine Zw.rd (n := n) (by assumption) (by omega) (by omega) (by omega) fun _ _ => ?_)
      | (refine Zw.wr (n := n) (by assumption) (by omega) (by omega) (by omega) (by omega) fun _ _ => ?_)
      | (refine Less_of fun r => ⟨r, rfl, br_of (fun _ => ?_) (fun _ => ?_)⟩)
  rintro j w3 ⟨z3, hj5, hj6⟩
  repeat' first
    | (exact hQ _ _ (by assumption) (by omega) (by omega))
    | (refine hK _ _ _ ⟨by assumption, by omega, by omega, by omega, by omega⟩ (by dsimp only; omega))
    | (exfalso; omega)
    | (refine Zw.dr (by assumption) fun _ _ => ?_)
    | (simp (disch := omega) only [w_i64])
    | (refine br_gt (fun _ => ?_) (fun _ => ?_))
    | (refine br_lt (fun _ => ?_) (fun _ => ?_))
    | (refine br_ge (fun _ => ?_) (fun _ => ?_))
    | (refine br_le (fun _ => ?_) (fun _ => ?_))
    | (refine br_eq (fun _ => ?_) (fun _ => ?_))
    | (refine And.intro ⟨by omega, by omega⟩ ?_)
    | (refine Zw.rd (n := n) (by assumption) (by omega) (by omega) (by omega) fun _ _ => ?_)
    | (refine Zw.wr (n := n) (by assumption) (by omega) (by omega) (by omega) (by omega) fun _ _ => ?_)
    | (refine Less_of fun r => ⟨r, rfl, br_of (fun _ => ?_) (fun _ => ?_)⟩)

theorem partition_safe {lo hi pv : Int} (z : Zw b c w0 w) (h0 : 0 ≤ lo) (h1 : lo < hi) (h2 : hi ≤ n) (hp : lo ≤ pv ∧ pv < hi) (hn : n ≤ c) (hc : n < 1152921504606846976) (hQ : ∀ i r w', Zw b c w0 w' → lo ≤ i → i < hi → Q (.tuple #[.int .i64 i, .bool r]) w') :
    callP Tryz.prog 95 #[(Us b n cp).v, .int .i64 lo, .int .i64 hi, .int .i64 pv] w Q := by
  refine slices_partitionOrdered_uint64_ok ?_
  unfold slices_partitionOrdered_uint64
  simp (disch := omega) only [w_i64]
  refine Zw.dr z fun w3 z3 => ⟨⟨by omega, by omega⟩, Zw.rd (n := n) z3 (by omega) (by omega) hn fun x _ => ⟨⟨by omega, by omega⟩, Zw.rd (n := n) z3 (by omega) (by omega) hn fun y _ => ⟨⟨by omega, by omega⟩, Zw.wr (n := n) z3 (by omega) (by omega) hn (by omega) fun w4 z4 =>
      ⟨⟨by omega, by omega⟩, Zw.wr (n := n) z4 (by omega) (by omega) hn (by omega) fun w5 z5 => ?_⟩⟩⟩⟩
  refine ⟨fun i w => Zw b c w0 w ∧ lo + 1 ≤ i ∧ i ≤ hi, ⟨fun i w => Zw b c w0 w ∧ lo + 1 ≤ i ∧ i ≤ hi, fun i _ => (hi - i).toNat, ⟨z5, by omega, by omega⟩, ?_⟩, ?_⟩
  · rintro i w1 K ⟨z1, hi1, hi2⟩ hK
    repeat' first
      | (refine hK _ _ ⟨by assumption, by omega, by omega⟩ (by dsimp only; omega))
      | (exact ⟨by assumption, by omega, by omega⟩)
      | (exfalso; omega)
      | (refine Zw.dr (by assumption) fun _ _ => ?_)
      | (simp (disch := omega) only [w_i64])
      | (refine br_gt (fun _ => ?_) (fun _ => ?_))
      | (refine br_lt (fun _ => ?_) (fun _ => ?_))
      | (refine br_ge (fun _ => ?_) (fun _ => ?_))
      | (refine br_le (fun _ => ?_) (fun _ => ?_))
      | (refine br_eq (fun _ => ?_) (fun _ => ?_))
      | (refine And.intro ⟨by omega, by omega⟩ ?_)
      | (refine Zw.rd (n := n) (by assumption) (by omega) (by omega) (by omega) fun _ _ => ?_)
      | (refine Zw.wr (n := n) (by assumption) (by omega) (by omega) (by omega) (by omega) fun _ _ => ?_)
      | (refine Less_of fun r => ⟨r, rfl, br_of (fun _ => ?_) (fun _ => ?_)⟩)
  rintro i w1 ⟨z1, hi1, hi2⟩
  refine ⟨fun j w => Zw b c w0 w ∧ i ≤ j + 1 ∧ j < hi, ⟨fun j w => Zw b c w0 w ∧ i ≤ j + 1 ∧ j < hi, fun j _ => j.toNat, ⟨z1, by omega, by omega⟩, ?_⟩, ?_⟩
  · rintro j w2 K ⟨z2, hj1, hj2⟩ hK
    repeat' first
      | (refine hK _ _ ⟨by assumption, by omega, by omega⟩ (by dsimp only; omega))
      | (exact ⟨by assumption, by omega, by omega⟩)
      | (exfalso; omega)
      | (refine Zw.dr (by assumption) fun _ _ => ?_)
      | (simp (disch := omega) only [w_i64])
      | (refine br_gt (fun _ => ?_) (fun _ => ?_))
      | (refine br_lt (fun _ => ?_) (fun _ => ?_))
      | (refine br_ge (fun _ => ?_) (fun _ => ?_))
      | (refine br_le (fun _ => ?_) (fun _ => ?_))
      | (refine br_eq (fun _ => ?_) (fun _ => ?_))
      | (refine And.intro ⟨by omega, by omega⟩ ?_)
      | (refine Zw.rd (n := n) (by assumption) (by omega) (by omega) (by omega) fun _ _ => ?_)
      | (refine Zw.wr (n := n) (by assumption) (by omega) (by omega) (by omega) (by omega) fun _ _ => ?_)
      | (refine Less_of fun r => ⟨r, rfl, br_of (fun _ => ?_) (fun _ => ?_)⟩)
  rintro j w2 ⟨z2, hj1, hj2⟩
  refine br_gt (fun hgt => ?_) fun hle => ?_
  · repeat' first
      | (exact hQ _ _ _ (by assumption) (by omega) (by omega))
      | (exfalso; omega)
      | (refine Zw.dr (by assumption) fun _ _ => ?_)
      | (simp (disch := omega) only [w_i64])
      | (refine br_gt (fun _ => ?_) (fun _ => ?_))
      | (refine br_lt (fun _ => ?_) (fun _ => ?_))
      | (refine br_ge (fun _ => ?_) (fun _ => ?_))
      | (refine br_le (fun _ => ?_) (fun _ => ?_))
      | (refine br_eq (fun _ => ?_) (fun _ => ?_))
      | (refine And.intro ⟨by omega, by omega⟩ ?_)
      | (refine Zw.rd (n := n) (by assumption) (by omega) (by omega) (by omega) fun _ _ => ?_)
      | (refine Zw.wr (n := n) (by assumption) (by omega) (by omega) (by omega) (by omega) fun _ _ => ?_)
      | (refine Less_of fun r => ⟨r, rfl, br_of (fun _ => ?_) (fun _ => ?_)⟩)
  refine Zw.dr z2 fun w3 z3 => ⟨⟨by omega, by omega⟩, Zw.rd (n := n) z3 (by omega) (by omega) hn fun x _ => ⟨⟨by omega, by omega⟩, Zw.rd (n := n) z3 (by omega) (by omega) hn fun y _ => ⟨⟨by omega, by omega⟩, Zw.wr (n := n) z3 (by omega) (by omega) hn (by omega) fun w4 z4 =>
      ⟨⟨by omega, by omega⟩, Zw.wr (n := n) z4 (by omega) (by omega) hn (by omega) fun w5 z5 => ?_⟩⟩⟩⟩
  refine ⟨fun i j w => Zw b c w0 w ∧ lo + 2 ≤ i ∧ i ≤ j + 2 ∧ j < hi - 1, fun i j _ => (j + 2 - i).toNat, ⟨z5, by simp (disch := omega) only [w_i64]; omega, by simp (disch := omega) only [w_i64]; omega, by simp (disch := omega) only [w_i64]; omega⟩, ?_⟩
  rintro i0 j0 w6 K ⟨z6, hi3, hi4, hj3⟩ hK
  refine ⟨fun i w => Zw b c w0 w ∧ i0 ≤ i ∧ i ≤ j0 + 2, ⟨fun i w => Zw b c w0 w ∧ i0 ≤ i ∧ i ≤ j0 + 2, fun i _ => (j0 + 2 - i).toNat, ⟨z6, by omega, by omega⟩, ?_⟩, ?_⟩
  · rintro i w7 K1 ⟨z7, hi5, hi6⟩ hK1
    repeat' first
      | (refine hK1 _ _ ⟨by assumption, by omega, by omega⟩ (by dsimp only; omega))
      | (exact ⟨by assumption, by omega, by omega⟩)
      | (exfalso; omega)
      | (refine Zw.dr (by assumption) fun _ _ => ?_)
      | (simp (disch := omega) only [w_i64])
      | (refine br_gt (fun _ => ?_) (fun _ => ?_))
      | (refine br_lt (fun _ => ?_) (fun _ => ?_))
      | (refine br_ge (fun _ => ?_) (fun _ => ?_))
      | (refine br_le (fun _ => ?_) (fun _ => ?_))
      | (refine br_eq (fun _ => ?_) (fun _ => ?_))
      | (refine And.intro ⟨by omega, by omega⟩ ?_)
      | (refine Zw.rd (n := n) (by assumption) (by omega) (by omega) (by omega) fun _ _ => ?_)
      | (refine Zw.wr (n := n) (by assumption) (by omega) (by omega) (by omega) (by omega) fun _ _ => ?_)
      | (refine Less_of fun r => ⟨r, rfl, br_of (fun _ => ?_) (fun _ => ?_)⟩)
  rintro i w7 ⟨z7, hi5, hi6⟩
  refine ⟨fun j w => Zw b c w0 w ∧ i ≤ j + 2 ∧ j ≤ j0, ⟨fun j w => Zw b c w0 w ∧ i ≤ j + 2 ∧ j ≤ j0, fun j _ => (j + 1).toNat, ⟨z7, by omega, by omega⟩, ?_⟩, ?_⟩
  · rintro j w8 K1 ⟨z8, hj5, hj6⟩ hK1
    repeat' first
      | (refine hK1 _ _ ⟨by assumption, by omega, by omega⟩ (by dsimp only; omega))
      | (exact ⟨by assumption, by omega, by omega⟩)
      | (exfalso; omega)
      | (refine Zw.dr (by assumption) fun _ _ => ?_)
      | (simp (disch := omega) only [w_i64])
      | (refine br_gt (fun _ => ?_) (fun _ => ?_))
      | (refine br_lt (fun _ => ?_) (fun _ => ?_))
      | (refine br_ge (fun _ => ?_) (fun _ => ?_))
      | (refine br_le (fun _ => ?_) (fun _ => ?_))
      | (refine br_eq (fun _ => ?_) (fun _ => ?_))
      | (refine And.intro ⟨by omega, by omega⟩ ?_)
      | (refine Zw.rd (n := n) (by assumption) (by omega) (by omega) (by omega) fun _ _ => ?_)
      | (refine Zw.wr (n := n) (by assumption) (by omega) (by omega) (by omega) (by omega) fun _ _ => ?_)
      | (refine Less_of fun r => ⟨r, rfl, br_of (fun _ => ?_) (fun _ => ?_)⟩)
  rintro j w8 ⟨z8, hj5, hj6⟩
  repeat' first
    | (exact hQ _ _ _ (by assumption) (by omega) (by omega))
    | (refine hK _ _ _ ⟨by assumption, by omega, by omega, by omega⟩ (by dsimp only; omega))
    | (exfalso; omega)
    | (refine Zw.dr (by assumption) fun _ _ => ?_)
    | (simp (disch := omega) only [w_i64])
    | (refine br_gt (fun _ => ?_) (fun _ => ?_))
    | (refine br_lt (fun _ => ?_) (fun _ => ?_))
    | (refine br_ge (fun _ => ?_) (fun _ => ?_))
    | (refine br_le (fun _ => ?_) (fun _ => ?_))
    | (refine br_eq (fun _ => ?_) (fun _ => ?_))
    | (refine And.intro ⟨by omega, by omega⟩ ?_)
    | (refine Zw.rd (n := n) (by assumption) (by omega) (by omega) (by omega) fun _ _ => ?_)
    | (refine Zw.wr (n := n) (by assumption) (by omega) (by omega) (by omega) (by omega) fun _ _ => ?_)
    | (refine Less_of fun r => ⟨r, rfl, br_of (fun _ => ?_) (fun _ => ?_)⟩)
end Go.Proofs.YtpcgkfgppfjnlaaGreatDoor.V
namespace Go.Proofs.YtpcgkfgppfjnlaaGreatDoor.V
open Go Go.RowKit
variable {S : Nat → Prop} {w0 w : World} {b n c cp bp : Nat} {Q : Value → World → Prop}

/-- numbers that are read, and a count that turns -/
structure Pv (b c bp : Nat) (w0 w : World) : Prop where
  fr : Fr (· = bp) w0 w
  own : ∃ (d : Nat → Int) (r : List Value), (∀ i, i < c → 0 ≤ d i) ∧ Own w b (cellsA .u64 d 0 c ++ r)
  sw : ∃ v : Int, Own w bp [.int .i64 v]
  ne : b ≠ bp
theorem Pv.dr (z : Pv b c bp w0 w) {K : World → Prop} (h : ∀ w', Pv b c bp w0 w' → K w') : V.dr w K :=
  have f := (Fr.refl (S := F0) w).drw (w.drawn + 1)
  h _ ⟨z.fr.trans0 f, let ⟨d, r, hd, o⟩ := z.own; ⟨d, r, hd, o.fr f id⟩, let ⟨d, o⟩ := z.sw; ⟨d, o.fr f id⟩, z.ne⟩
theorem Pv.rd (z : Pv b c bp w0 w) {i : Int} {K : Int → Prop} (h0 : 0 ≤ i) (h1 : i < n) (hn : n ≤ c) (h : ∀ x, K x) : nn (some ⟨b, 0, none⟩) fun a => V.rd (.int .u64) w (Addr.add a (i.toNat * 1)) 0 K := by
  obtain ⟨d, r, hd, o⟩ := z.own
  simp only [nn_some, add_lit, Nat.zero_add, Nat.mul_one]
  exact o.rdi (o := i.toNat) (x := d i.toNat) (by rw [List.getElem?_append_left (by rw [cellsA_len]; omega), cellsA_get, if_pos (by omega), Nat.zero_add]) (h _)
theorem order2_safe {i j : Int} (z : Pv b c bp w0 w) (hi : 0 ≤ i ∧ i < n) (hj : 0 ≤ j ∧ j < n) (hn : n ≤ c) (hQ : ∀ x y w', Pv b c bp w0 w' → ((x = i ∧ y = j) ∨ (x = j ∧ y = i)) → Q (.tuple #[.int .i64 x, .int .i64 y]) w') :
    callP Tryz.prog 120 #[(Us b n cp).v, .int .i64 i, .int .i64 j, .pointer (some ⟨bp, 0, none⟩)] w Q := by
  refine slices_order2Ordered_uint64_ok ?_
  unfold slices_order2Ordered_uint64
  refine z.dr fun w1 z1 => ⟨⟨hj.1, hj.2⟩, Pv.rd (n := n) z1 hj.1 hj.2 hn fun x => ⟨⟨hi.1, hi.2⟩, Pv.rd (n := n) z1 hi.1 hi.2 hn fun y => Less_of fun r => ⟨r, rfl, br_of (fun _ => ?_) fun _ => hQ _ _ _ z1 (.inl ⟨rfl, rfl⟩)⟩⟩⟩
  obtain ⟨v, o⟩ := z1.sw
  refine o.rdi (o := 0) rfl ?_
  refine wr_one o (by simp) rfl fun w2 f2 o2 _ => hQ _ _ _ ⟨z1.fr.trans f2 fun _ _ e => e, let ⟨d, r, hd, od⟩ := z1.own; ⟨d, r, hd, od.fr f2 z1.ne⟩, ⟨_, o2⟩, z1.ne⟩ (.inr ⟨rfl, rfl⟩)
theorem median_safe {i j k : Int} (z : Pv b c bp w0 w) (hi : 0 ≤ i ∧ i < n) (hj : 0 ≤ j ∧ j < n) (hk : 0 ≤ k ∧ k < n) (hn : n ≤ c) (hQ : ∀ x w', Pv b c bp w0 w' → (x = i ∨ x = j ∨ x = k) → Q (.int .i64 x) w') :
    callP Tryz.prog 114 #[(Us b n cp).v, .int .i64 i, .int .i64 j, .int .i64 k, .pointer (some ⟨bp, 0, none⟩)] w Q := by
  refine slices_medianOrdered_uint64_ok ?_
  unfold slices_medianOrdered_uint64
  refine order2_safe (b := b) (n := n) (c := c) z hi hj hn fun x y w1 z1 h1 => ⟨_, _, rfl, ?_⟩
  refine order2_safe (b := b) (n := n) (c := c) z1 (by omega) hk hn fun x' y' w2 z2 h2 => ⟨_, _, rfl, ?_⟩
  refine order2_safe (b := b) (n := n) (c := c) z2 (by omega) (by omega) hn fun x'' y'' w3 z3 h3 => ⟨_, _, rfl, hQ _ _ z3 (by omega)⟩
theorem medianAdjacent_safe {i : Int} (z : Pv b c bp w0 w) (hi : 1 ≤ i ∧ i + 1 < n) (hn : n ≤ c) (hc : n < 1152921504606846976) (hQ : ∀ x w', Pv b c bp w0 w' → (i - 1 ≤ x ∧ x ≤ i + 1) → Q (.int .i64 x) w') :
    callP Tryz.prog 113 #[(Us b n cp).v, .int .i64 i, .pointer (some ⟨bp, 0, none⟩)] w Q := by
  refine slices_medianAdjacentOrdered_uint64_ok ?_
  unfold slices_medianAdjacentOrdered_uint64
  simp (disch := omega) only [w_i64]
  exact median_safe (b := b) (n := n) (c := c) z (by omega) (by omega) (by omega) hn fun x w1 z1 h1 => ⟨_, rfl, hQ _ _ z1 (by omega)⟩
theorem choosePivot_safe {lo hi : Int} (z : Zw b c w0 w) (h0 : 0 ≤ lo) (h1 : lo + 8 ≤ hi) (h2 : hi ≤ n) (hn : n ≤ c) (hc : n < 1152921504606846976) (hQ : ∀ p h w', Zw b c w0 w' → lo ≤ p → p < hi → Q (.tuple #[.int .i64 p, .int .i64 h]) w') :
    callP Tryz.prog 90 #[(Us b n cp).v, .int .i64 lo, .int .i64 hi] w Q := by
  refine slices_choosePivotOrdered_uint64_ok ?_
  unfold slices_choosePivotOrdered_uint64
  refine al_cells (cs := [.int .i64 0]) fun b9 w1 hb9 f1 _ o9 => ?_
  obtain ⟨d, dr, hd, od⟩ := z.own
  have hb := od.lt
  have z1 : Pv b c b9 w1 w1 := ⟨.refl _, ⟨d, dr, hd, od.fr f1 id⟩, ⟨_, o9⟩, by omega⟩
  have back : ∀ {w'}, Pv b c b9 w1 w' → Zw b c w0 w' := fun z' => ⟨(z.fr.trans0 f1).trans z'.fr fun q hq e => by have := z.fr.size; omega, z'.own⟩
  simp (disch := omega) only [w_i64, tdiv_pos]
  refine ⟨by decide, by decide, by decide, br_ge (fun _ => ?_) fun hlt => by omega⟩
  have fin : ∀ (p : Int) w', Pv b c b9 w1 w' → lo ≤ p → p < hi → rd (.int .i64) w' (⟨b9, 0, none⟩ : Addr) 0 fun x49 => br ((x49 : Int) == 0) (Q (.tuple #[(.int .i64 p), (.int .i64 1)]) w')
      (br ((x49 : Int) == 12) (Q (.tuple #[(.int .i64 p), (.int .i64 2)]) w') (Q (.tuple #[(.int .i64 p), (.int .i64 0)]) w')) := by
    intro p w' z' h1 h2
    obtain ⟨v, o⟩ := z'.sw
    exact o.rdi (o := 0) rfl (br_eq (fun _ => hQ _ _ _ (back z') h1 h2) fun _ => br_eq (fun _ => hQ _ _ _ (back z') h1 h2) fun _ => hQ _ _ _ (back z') h1 h2)
  refine br_ge (fun h50 => ?_) fun _ => ?_
  · refine medianAdjacent_safe (b := b) (n := n) (c := c) z1 (by omega) hn hc fun x w2 z2 hx => ⟨_, rfl, ?_⟩
    refine medianAdjacent_safe (b := b) (n := n) (c := c) z2 (by omega) hn hc fun y w3 z3 hy => ⟨_, rfl, ?_⟩
    refine medianAdjacent_safe (b := b) (n := n) (c := c) z3 (by omega) hn hc fun q w4 z4 hq => ⟨_, rfl, ?_⟩
    refine median_safe (b := b) (n := n) (c := c) z4 (by omega) (by omega) (by omega) hn fun p w5 z5 hp => ⟨_, rfl, fin _ _ z5 (by omega) (by omega)⟩
  · refine median_safe (b := b) (n := n) (c := c) z1 (by omega) (by omega) (by omega) hn fun p w5 z5 hp => ⟨_, rfl, fin _ _ z5 (by omega) (by omega)⟩

theorem ixor_rng (x y : Int) : 0 ≤ ixor .u64 x y ∧ ixor .u64 x y < 18446744073709551616 := by
  unfold ixor
  rw [w_u64]
  omega
theorem Next_safe {x : Int} (o : Own w bp [.int .u64 x]) (hQ : ∀ r w', 0 ≤ r → r < 18446744073709551616 → Own w' bp [.int .u64 r] → Fr (· = bp) w w' → Q (.int .u64 r) w') :
    callP Tryz.prog 112 #[.pointer (some ⟨bp, 0, none⟩)] w Q := by
  refine slices_xorshift_Next_ok ?_
  unfold slices_xorshift_Next
  have step : ∀ {w1 : World} {x : Int} {K : World → Prop}, Own w1 bp [.int .u64 x] → (∀ w2, Own w2 bp [.int .u64 x] → Fr F0 w1 w2 → K w2) → dr w1 K := fun o h => h _ (o.fr ((Fr.refl (S := F0) _).drw _) id) ((Fr.refl _).drw _)
  refine step o fun w1 o1 f1 => ?_
  simp only [nn_some]
  refine o1.rdi (o := 0) rfl (o1.rdi (o := 0) rfl ⟨by decide, wr_one o1 (by simp) rfl fun w2 f2 o2 _ => step o2 fun w3 o3 f3 => o3.rdi (o := 0) rfl (o3.rdi (o := 0) rfl ⟨by decide, wr_one o3 (by simp) rfl fun w4 f4 o4 _ => step o4 fun w5 o5 f5 =>
    o5.rdi (o := 0) rfl (o5.rdi (o := 0) rfl ⟨by decide, wr_one o5 (by simp) rfl fun w6 f6 o6 _ => o6.rdi (o := 0) rfl ?_⟩)⟩)⟩)
  refine hQ _ _ (ixor_rng _ _).1 (ixor_rng _ _).2 o6 ?_
  have g := fun {a b : World} (f : Fr F0 a b) => (f.mono fun _ _ x => x.elim : Fr (· = bp) a b)
  exact (((((g f1).trans f2 fun _ _ e => e).trans0 f3).trans f4 fun _ _ e => e).trans0 f5).trans f6 fun _ _ e => e

theorem bitsLen_spec (x : Nat) (h : x < 18446744073709551616) (w : World) : callP Tryz.prog 74 #[.int .u64 (x : Int)] w fun v w' => v = .int .i64 (Lib.bitLen x : Nat) ∧ w' = w := by
  have h := Any.bits_Len (SlLaysF0.n15.bits (P := Tryz.prog) (ρ := sortDg_ren) { sortDg with }) (x : Int) w (by omega) (by omega)
  rw [Int.toNat_natCast] at h
  change Calls Tryz.prog 74 _ _ _ at h
  exact Calls.mono h fun e w' ⟨he, hw⟩ => ⟨_, he, rfl, hw⟩
theorem bitLen_low (x : Nat) (h0 : 0 < x) (h : x < 18446744073709551616) : 2 ^ Lib.bitLen x ≤ 2 * x ∧ Lib.bitLen x ≤ 64 := by
  have h64 := Lib.bitLen_le x 64 (by omega) (by omega)
  refine ⟨?_, h64⟩
  rcases Nat.eq_zero_or_pos (Lib.bitLen x) with hz | hz
  · rw [hz]; omega
  · refine Nat.le_of_not_lt fun hlt => ?_
    have h1 : 2 ^ Lib.bitLen x = 2 * 2 ^ (Lib.bitLen x - 1) := by
      conv => lhs; rw [show Lib.bitLen x = Lib.bitLen x - 1 + 1 by omega]
      rw [Nat.pow_succ]; omega
    have := Lib.bitLen_le x (Lib.bitLen x - 1) (by omega) (by omega)
    omega
theorem nextPow_safe {x : Int} (h0 : 0 < x) (h : x < 1152921504606846976) (hQ : ∀ r, 1 ≤ r → r ≤ 2 * x → Q (.int .u64 r) w) : callP Tryz.prog 111 #[.int .i64 x] w Q := by
  refine slices_nextPowerOfTwo_ok ?_
  unfold slices_nextPowerOfTwo
  obtain ⟨k, rfl⟩ : ∃ k : Nat, x = k := ⟨x.toNat, by omega⟩
  rw [show IntKind.wrap .u64 (k : Int) = (k : Int) by rw [w_u64]; omega]
  refine callP_of (bitsLen_spec k (by omega) w) ?_
  rintro v w' ⟨rfl, rfl⟩
  refine ⟨_, rfl, by omega, ?_⟩
  obtain ⟨h1, h2⟩ := bitLen_low k (by omega) (by omega)
  have hp : 1 ≤ 2 ^ Lib.bitLen k := Nat.one_le_two_pow
  unfold ishl
  have e : ((Lib.bitLen k : Nat) : Int).toNat = Lib.bitLen k := by omega
  rw [e, w_u64, show min (Lib.bitLen k) (IntKind.bits .u64) = Lib.bitLen k from Nat.min_eq_left h2]
  have e2 : (2 : Int) ^ Lib.bitLen k = ((2 ^ Lib.bitLen k : Nat) : Int) := by simp
  rw [e2]
  generalize 2 ^ Lib.bitLen k = m at *
  rw [Int.one_mul, Int.emod_eq_of_lt (by omega) (by omega)]
  exact hQ _ (by omega) (by omega)
theorem iand_le {x y : Int} (hy : 0 ≤ y) (hy2 : y < 18446744073709551616) : 0 ≤ iand .u64 x y ∧ iand .u64 x y ≤ y := by
  unfold iand
  rw [w_u64]
  have h : (BitVec.ofInt (IntKind.bits .u64) x &&& BitVec.ofInt (IntKind.bits .u64) y).toNat ≤ y.toNat := by
    rw [BitVec.toNat_and]
    refine Nat.le_trans Nat.and_le_right ?_
    rw [BitVec.toNat_ofInt]
    show (y % ((2 ^ 64 : Nat) : Int)).toNat ≤ _
    rw [Int.emod_eq_of_lt hy (by omega)]
    exact Nat.le_refl _
  generalize (BitVec.ofInt (IntKind.bits .u64) x &&& BitVec.ofInt (IntKind.bits .u64) y).toNat = m at *
  omega
end Go.Proofs.YtpcgkfgppfjnlaaGreatDoor.V
namespace Go.Proofs.YtpcgkfgppfjnlaaGreatDoor.V
open Go Go.RowKit
variable {S : Nat → Prop} {w0 w : World} {b n c cp bp : Nat} {Q : Value → World → Prop}

/-- two numbers change their places -/
theorem Zw.swap (z : Zw b c w0 w) {i j : Int} {K : World → Prop} (hi : 0 ≤ i ∧ i < n) (hj : 0 ≤ j ∧ j < n) (hn : n ≤ c) (h : ∀ w', Zw b c w0 w' → Fr (· = b) w w' → K w') :
    V.dr w fun w2 => (0 ≤ j ∧ j < (n : Int)) ∧ nn (some ⟨b, 0, none⟩) fun a => V.rd (.int .u64) w2 (Addr.add a (j.toNat * 1)) 0 fun x => (0 ≤ i ∧ i < (n : Int)) ∧ nn (some ⟨b, 0, none⟩) fun a' => V.rd (.int .u64) w2 (Addr.add a' (i.toNat * 1)) 0 fun y =>
      (0 ≤ i ∧ i < (n : Int)) ∧ nn (some ⟨b, 0, none⟩) fun a => V.wr w2 (Addr.add a (i.toNat * 1)) [.int .u64 x] fun w3 => (0 ≤ j ∧ j < (n : Int)) ∧ nn (some ⟨b, 0, none⟩) fun a => V.wr w3 (Addr.add a (j.toNat * 1)) [.int .u64 y] K :=
  z.drf fun _ z1 f1 => ⟨hj, Zw.rd (n := n) z1 hj.1 hj.2 hn fun _ hx => ⟨hi, Zw.rd (n := n) z1 hi.1 hi.2 hn fun _ hy => ⟨hi, Zw.wrf (n := n) z1 hi.1 hi.2 hn hx fun _ z2 f2 => ⟨hj, Zw.wrf (n := n) z2 hj.1 hj.2 hn hy fun _ z3 f3 =>
    h _ z3 ((f1.trans f2 fun _ _ e => e).trans f3 fun _ _ e => e)⟩⟩⟩⟩

theorem breakPatterns_safe {lo hi : Int} (z : Zw b c w0 w) (h0 : 0 ≤ lo) (h1 : lo + 8 ≤ hi) (h2 : hi ≤ n) (hn : n ≤ c) (hc : n < 1152921504606846976) (hQ : ∀ w', Zw b c w0 w' → Q (.tuple #[]) w') :
    callP Tryz.prog 89 #[(Us b n cp).v, .int .i64 lo, .int .i64 hi] w Q := by
  refine slices_breakPatternsOrdered_uint64_ok ?_
  unfold slices_breakPatternsOrdered_uint64
  simp (disch := omega) only [w_i64, tdiv_pos]
  refine br_ge (fun _ => ?_) fun h => by omega
  refine al_cells (cs := [.int .u64 0]) fun b7 w1 hb7 f1 _ o7 => ?_
  refine wr_one o7 (by simp) rfl fun w2 f2 o7 _ => ?_
  obtain ⟨d, dr, hd, od⟩ := z.own
  have hb := od.lt
  have hw := z.fr.size
  have f02 : Fr F0 w w2 := f1.trans f2 fun q hq e => by omega
  have z2 : Zw b c w0 w2 := ⟨z.fr.trans0 f02, d, dr, hd, od.fr f02 id⟩
  refine nextPow_safe (by omega) (by omega) fun m hm1 hm2 => ⟨m, rfl, by decide, ?_⟩
  refine ⟨fun i w => Zw b c w0 w ∧ (∃ x, Own w b7 [.int .u64 x]) ∧ lo + (hi - lo) / 4 * 2 - 1 ≤ i ∧ i ≤ lo + (hi - lo) / 4 * 2 + 2, fun i _ => (lo + (hi - lo) / 4 * 2 + 2 - i).toNat, ⟨z2, ⟨_, o7⟩, by omega, by omega⟩, ?_⟩
  rintro i w3 K ⟨z3, ⟨x, o3⟩, hi1, hi2⟩ hK
  refine ⟨by decide, br_le (fun hle => ?_) fun _ => hQ _ z3⟩
  refine Next_safe o3 fun r w4 hr1 hr2 o4 f4 => ⟨r, rfl, ?_⟩
  have z4 : Zw b c w0 w4 := ⟨z3.fr.trans f4 fun q hq e => by omega, let ⟨d, r, hd, o⟩ := z3.own; ⟨d, r, hd, o.fr f4 (by omega)⟩⟩
  rw [show IntKind.wrap .u64 (m - 1) = m - 1 by rw [w_u64]; omega]
  obtain ⟨ha1, ha2⟩ := iand_le (x := r) (y := m - 1) (by omega) (by omega)
  generalize iand .u64 r (m - 1) = q at *
  simp (disch := omega) only [w_i64]
  have fin : ∀ w', Zw b c w0 w' → Fr (· = b) w4 w' → K (i + 1) w' := fun w' z' f' => hK _ _ ⟨z', ⟨_, o4.fr f' (by omega)⟩, by omega, by omega⟩ (by dsimp only; omega)
  refine br_ge (fun hge => ?_) fun hlt => ?_
  · try simp (disch := omega) only [w_i64]
    exact z4.swap (n := n) (i := i) (j := lo + (q - (hi - lo))) (by omega) (by omega) hn fin
  · try simp (disch := omega) only [w_i64]
    exact z4.swap (n := n) (i := i) (j := lo + q) (by omega) (by omega) hn fin

theorem pdqsort_safe (hn : n ≤ c) (hc : n < 1152921504606846976) : ∀ (m : Nat) (lo hi lim : Int) (w0 w : World) (Q : Value → World → Prop), (hi - lo).toNat ≤ m → Zw b c w0 w → 0 ≤ lo → lo ≤ hi → hi ≤ n → (∀ w', Zw b c w0 w' → Q (.tuple #[]) w') →
    callP Tryz.prog 73 #[(Us b n cp).v, .int .i64 lo, .int .i64 hi, .int .i64 lim] w Q := by
  intro m
  induction m with
  | zero =>
    intro lo hi lim w0 w Q hm z h0 h1 h2 hQ
    refine slices_pdqsortOrdered_uint64_ok ?_
    unfold slices_pdqsortOrdered_uint64
    refine ⟨fun i j _ _ _ w => Zw b c w0 w ∧ i = lo ∧ j = hi, fun _ _ _ _ _ _ => 0, ⟨z, rfl, rfl⟩, ?_⟩
    rintro i j l p q w1 K ⟨z1, rfl, rfl⟩ hK
    simp (disch := omega) only [w_i64]
    refine br_le (fun _ => ?_) fun h => by omega
    exact insertionSort_safe (b := b) (n := n) (c := c) (w0 := w0) z1 h0 h1 h2 hn (by omega) fun w' z' => ⟨rfl, hQ _ z'⟩
  | succ m ih =>
    intro lo hi lim w0 w Q hm z h0 h1 h2 hQ
    refine slices_pdqsortOrdered_uint64_ok ?_
    unfold slices_pdqsortOrdered_uint64
    refine ⟨fun i j _ _ _ w => Zw b c w0 w ∧ lo ≤ i ∧ i ≤ j ∧ j ≤ hi, fun i j _ _ _ _ => (j - i).toNat, ⟨z, by omega, by omega, by omega⟩, ?_⟩
    rintro i j l p q w1 K ⟨z1, hi1, hij, hj1⟩ hK
    simp (disch := omega) only [w_i64]
    refine br_le (fun _ => ?_) fun h12 => ?_
    · exact insertionSort_safe (b := b) (n := n) (c := c) (w0 := w0) z1 (by omega) hij (by omega) hn (by omega) fun w' z' => ⟨rfl, hQ _ z'⟩
    refine br_eq (fun _ => ?_) fun _ => ?_
    · exact heapSort_safe (b := b) (n := n) (c := c) (w0 := w0) z1 (by omega) hij (by omega) hn hc fun w' z' => ⟨rfl, hQ _ z'⟩
    refine ⟨fun _ w => Zw b c w0 w, ?_, ?_⟩
    · refine br_of (fun _ => ?_) fun _ => z1
      exact breakPatterns_safe (b := b) (n := n) (c := c) (w0 := w0) z1 (by omega) (by omega) (by omega) hn hc fun w' z' => ⟨rfl, z'⟩
    intro l2 w2 z2
    refine choosePivot_safe (b := b) (n := n) (c := c) (w0 := w0) z2 (by omega) (by omega) (by omega) hn hc fun pv h w3 z3 hp1 hp2 => ⟨pv, h, rfl, ?_⟩
    refine ⟨fun pv _ w => Zw b c w0 w ∧ i ≤ pv ∧ pv < j, ?_, ?_⟩
    · refine br_eq (fun _ => ?_) fun _ => ⟨z3, hp1, hp2⟩
      refine reverseRange_safe (b := b) (n := n) (c := c) (w0 := w0) z3 (by omega) (by omega) (by omega) hn hc fun w' z' => ⟨rfl, ?_⟩
      simp (disch := omega) only [w_i64]
      exact ⟨z', by omega, by omega⟩
    rintro pv h w4 ⟨z4, hp1, hp2⟩
    refine ⟨fun w => Zw b c w0 w, ?_, ?_⟩
    · refine br_of (fun _ => br_of (fun _ => br_eq (fun _ => ?_) fun _ => z4) fun _ => z4) fun _ => z4
      exact partialInsertionSort_safe (b := b) (n := n) (c := c) (w0 := w0) z4 (by omega) (by omega) (by omega) hn hc fun r w' z' => ⟨r, rfl, br_of (fun _ => hQ _ z') fun _ => z'⟩
    intro w5 z5
    refine ⟨fun k w => Zw b c w0 w ∧ k = i, ?_, ?_⟩
    · refine z5.dr fun w6 z6 => ?_
      refine br_gt (fun hpos => ?_) fun _ => ⟨z6, rfl⟩
      simp (disch := omega) only
      refine ⟨by omega, Zw.rd (n := n) z6 (by omega) (by omega) hn fun x _ => ⟨by omega, Zw.rd (n := n) z6 (by omega) (by omega) hn fun y _ => Less_of fun r => ⟨r, rfl, br_of (fun _ => ?_) fun _ => ⟨z6, by first | rfl | trivial⟩⟩⟩⟩
      exact partitionEqual_safe (b := b) (n := n) (c := c) (w0 := w0) z6 (by omega) (by omega) (by omega) ⟨hp1, hp2⟩ hn hc fun k w7 z7 hk1 hk2 => ⟨k, rfl, hK _ _ _ _ _ _ ⟨z7, by omega, by omega, by omega⟩ (by dsimp only; omega)⟩
    rintro k w6 ⟨z6, rfl⟩
    refine partition_safe (b := b) (n := n) (c := c) (w0 := w0) z6 (by omega) (by omega) (by omega) ⟨hp1, hp2⟩ hn hc fun mid r w7 z7 hm1 hm2 => ⟨mid, r, rfl, by decide, ?_⟩
    simp (disch := omega) only [w_i64]
    refine br_lt (fun _ => ?_) fun _ => ?_
    · exact ih k mid l2 w0 w7 _ (by omega) z7 (by omega) (by omega) (by omega) fun w8 z8 => ⟨rfl, hK _ _ _ _ _ _ ⟨z8, by omega, by omega, by omega⟩ (by dsimp only; omega)⟩
    · exact ih (mid + 1) j l2 w0 w7 _ (by omega) z7 (by omega) (by omega) (by omega) fun w8 z8 => ⟨rfl, hK _ _ _ _ _ _ ⟨z8, by omega, by omega, by omega⟩ (by dsimp only; omega)⟩

theorem Sort_safe (hn : n ≤ c) (hc : n < 1152921504606846976) (z : Zw b c w0 w) (hQ : ∀ w', Zw b c w0 w' → Q (.tuple #[]) w') : callP Tryz.prog 49 #[(Us b n cp).v] w Q := by
  refine slices_Sort_uint64_uint64_ok (p0 := Us b n cp) ?_
  unfold slices_Sort_uint64_uint64
  rw [show IntKind.wrap .u64 (((Us b n cp).len : Nat) : Int) = (n : Int) by rw [w_u64]; show (n : Int) % _ = _; omega]
  refine callP_of (bitsLen_spec n (by omega) w) ?_
  rintro v w' ⟨rfl, rfl⟩
  exact ⟨_, rfl, pdqsort_safe hn hc n 0 n _ w0 _ _ (by omega) z (by omega) (by omega) (by omega) fun w' z' => ⟨rfl, hQ _ z'⟩⟩
end Go.Proofs.YtpcgkfgppfjnlaaGreatDoor.V
namespace Go.Proofs.YtpcgkfgppfjnlaaGreatDoor.V
open Go Go.RowKit
variable {S : Nat → Prop} {w0 w : World} {b n c cp bp : Nat} {Q : Value → World → Prop}

theorem Sort_nil {a : Option Addr} (hQ : Q (.tuple #[]) w) : callP Tryz.prog 49 #[.slice a 0 0] w Q := by
  refine slices_Sort_uint64_uint64_ok (p0 := ⟨a, 0, 0⟩) ?_
  unfold slices_Sort_uint64_uint64
  rw [show IntKind.wrap .u64 (((Sl.mk a 0 0).len : Nat) : Int) = ((0 : Nat) : Int) by rw [w_u64]; rfl]
  refine callP_of (bitsLen_spec 0 (by omega) w) ?_
  rintro v w' ⟨rfl, rfl⟩
  refine ⟨_, rfl, ?_⟩
  refine slices_pdqsortOrdered_uint64_ok (p0 := ⟨a, 0, 0⟩) ?_
  unfold slices_pdqsortOrdered_uint64
  refine ⟨fun i j _ _ _ w => i = 0 ∧ j = 0 ∧ w = w', fun _ _ _ _ _ _ => 0, ⟨rfl, rfl, rfl⟩, ?_⟩
  rintro i j l p q w1 K ⟨rfl, rfl, rfl⟩ hK
  refine br_le (fun _ => ?_) fun h => absurd (by decide) h
  refine slices_insertionSortOrdered_uint64_ok (p0 := ⟨a, 0, 0⟩) ?_
  unfold slices_insertionSortOrdered_uint64
  refine ⟨fun i w => i = 1 ∧ w = w1, fun _ _ => 0, ⟨by decide, rfl⟩, ?_⟩
  rintro i w2 K2 ⟨rfl, rfl⟩ hK2
  exact br_lt (fun h => absurd h (by decide)) fun _ => ⟨rfl, rfl, hQ⟩

/-- numbers, whatever they be -/
theorem ekU_cells (ks : List Nat) : ks.map ekU = cellsA .u64 (fun i => ((ks.getD i 0 : Nat) : Int)) 0 ks.length := by
  apply List.ext_getElem?; intro i
  rw [List.getElem?_map, cellsA_get]
  split
  · rename_i h
    rw [List.getElem?_eq_getElem h, Nat.zero_add, List.getD_eq_getElem?_getD, List.getElem?_eq_getElem h]; rfl
  · rw [List.getElem?_eq_none (by omega)]; rfl
theorem SortedU_spec {ν : Type} {ev : ν → Value} {Bm m : Nat} {l : List (Nat × ν)} (ob : Own w Bm [.map (some m)]) (h : MapIs ekU ev w m l) (hl : l.length < 549755813888) :
    callP Tryz.prog 27 #[.func (.func 50) #[] #[.pointer (some ⟨Bm, 0, none⟩)]] w fun v w' =>
      ∃ (s : Sl) (d : Nat → Int), v = s.v ∧ s.len = l.length ∧ (∀ i, i < l.length → 0 ≤ d i) ∧ SlC w' s 1 (cellsA .u64 d 0 l.length) ∧ s.fresh w ∧ Fr F0 w w' := by
  refine slices_Sorted_uint64_ok (p0 := ⟨50, #[], #[.pointer (some ⟨Bm, 0, none⟩)]⟩) ?_
  unfold slices_Sorted_uint64
  refine callP_of (collectU_spec ob h hl) ?_
  rintro v w1 ⟨s, ks, cs, rfl, hp, m1, g⟩
  refine ⟨s, rfl, ?_⟩
  have hkl : ks.length = l.length := by simpa using hp.length_eq
  have hsl : s.len = ks.length := by have := g.len; simp at this; omega
  obtain ⟨p, n, c⟩ := s
  simp only at hsl
  subst hsl
  cases p with
  | none =>
    have hc : c = 0 := g.p0 rfl
    have hn0 : ks.length = 0 := by have := g.le; simp only at this; omega
    have hk : ks = [] := List.length_eq_zero_iff.mp hn0
    subst hk
    subst hc
    refine Sort_nil ⟨rfl, ⟨none, 0, 0⟩, fun _ => 0, rfl, hkl, fun _ _ => Int.le_refl _, ⟨by rw [cellsA_len, ← hkl]; rfl, Nat.le_refl _, rfl⟩, (fun a h _ => by simp at h), m1.fr⟩
  | some a =>
    by_cases hc0 : c = 0
    · subst hc0
      have hn0 : ks.length = 0 := by have := g.le; simp only at this; omega
      have hk : ks = [] := List.length_eq_zero_iff.mp hn0
      subst hk
      refine Sort_nil ⟨rfl, ⟨some a, 0, 0⟩, fun _ => 0, rfl, hkl, fun _ _ => Int.le_refl _, ⟨by rw [cellsA_len, ← hkl]; rfl, Nat.le_refl _, fun h => absurd rfl h⟩, (fun a _ h => absurd rfl h), m1.fr⟩
    obtain ⟨h1, h2⟩ := g.off a rfl hc0
    obtain ⟨b, o, q⟩ := a
    obtain rfl : o = 0 := h1
    obtain rfl : q = none := h2
    have hb : Own w1 b cs := m1.has (b, .cs cs) (by simp [gl, hc0])
    have hnew : w.heap.size ≤ b := (m1.new (b, .cs cs) (by simp [gl, hc0])).resolve_left id
    have g1 := g.cap; have g2 := g.take; have g3 := g.le
    simp only [Nat.mul_one] at g1 g2 g3
    have hcs : cs = cellsA .u64 (fun i => ((ks.getD i 0 : Nat) : Int)) 0 ks.length ++ cs.drop ks.length := by
      rw [← ekU_cells, ← g2, List.take_append_drop]
    rw [hcs] at hb
    refine Sort_safe (b := b) (n := ks.length) (c := ks.length) (cp := c) (w0 := w1) (Nat.le_refl _) (by omega) (Zw.start (fun i _ => by omega) hb) fun w2 z2 => ?_
    obtain ⟨d, r, hd, o⟩ := z2.own
    rw [hkl] at o hd
    refine ⟨rfl, ⟨some ⟨b, 0, none⟩, ks.length, c⟩, d, rfl, hkl, hd, ⟨by rw [cellsA_len, hkl]; simp, g3, fun _ => ⟨rfl, o.lt, Own.at o fun i hi => ?_⟩⟩, (fun a h _ => by simp at h; subst h; exact hnew), m1.fr.trans z2.fr fun q hq e => by omega⟩
    rw [show 0 + 0 + i = i by omega, List.getElem?_append_left hi]

theorem Heights_spec {C : Ck} {st : List Nat} {hs : List Hr} (h : ChaseIs w C st hs) :
    callP Tryz.prog 10 #[.pointer (some ⟨C.c, 0, none⟩)] w fun v w' =>
      ∃ (s : Sl) (d : Nat → Int), v = s.v ∧ s.len = hs.length ∧ (∀ i, i < hs.length → 0 ≤ d i) ∧ SlC w' s 1 (cellsA .u64 d 0 hs.length) ∧ s.fresh w ∧ Fr F0 w w' := by
  refine chase_Chase_Heights_ok ?_
  unfold chase_Chase_Heights
  simp only [nn_some, add_lit, Nat.zero_add]
  refine h.own.rdm (o := 1) (x := some C.am) rfl ?_
  refine maps_Keys_map_uint64_chase_claims_uint64_chase_claims_ok ?_
  unfold maps_Keys_map_uint64_chase_claims_uint64_chase_claims
  refine al_cells (cs := [.map (some C.am)]) fun bm w1 hbm f1 _ om => ?_
  refine ⟨⟨50, #[], #[.pointer (some ⟨bm, 0, none⟩)]⟩, rfl, ?_⟩
  have hn := h.n
  have hlen : (allOf hs).length = hs.length := by simp [allOf]
  refine callP_of (SortedU_spec om (h.all.fr0 f1) (by omega)) ?_
  rintro v w2 ⟨s, d, rfl, a1, a2, a3, a4, a5⟩
  rw [hlen] at a1 a2 a3
  exact ⟨s, rfl, s, d, rfl, a1, a2, a3, a4.mono f1.size, f1.trans0 a5⟩
end Go.Proofs.YtpcgkfgppfjnlaaGreatDoor.V
namespace Go.Proofs.YtpcgkfgppfjnlaaGreatDoor.V
open Go Go.RowKit
variable {S : Nat → Prop} {w0 w : World} {Q : Value → World → Prop}

def third (st : List Nat) (vs : List (Int × Dg)) (d : Dg) : Bool := decide (st.sum < 3 * (votedFor st vs d % 18446744073709551616))
/-- the name that is believed of a height -/
def winner (st : List Nat) (a : Ab) : Option Dg := (sortD (a.bl.map (·.1))).find? fun d => third st a.vs d
def believed (st : List Nat) (A : List Ab) (h : Nat) : Option (List UInt8) :=
  match A.find? fun a => decide (h = a.h) with
  | none => none
  | some a => (winner st a).bind fun d => mlook a.bl d

theorem dgs_at (ks : List Dg) {i : Nat} {d : Dg} (h : ks[i]? = some d) : ((dgs ks).drop (i * 32)).take 32 = dgC d := by
  induction ks generalizing i with
  | nil => simp at h
  | cons k ks ih =>
    rw [dgs_cons]
    cases i with
    | zero =>
      simp at h
      subst h
      rw [Nat.zero_mul, List.drop_zero, List.take_append_of_le_length (by rw [dgC_len]; exact Nat.le_refl _), List.take_of_length_le (by rw [dgC_len]; exact Nat.le_refl _)]
    | succ i =>
      rw [List.drop_append, dgC_len, List.drop_of_length_le (by rw [dgC_len]; omega), List.nil_append, show (i + 1) * 32 - 32 = i * 32 by omega]
      exact ih (by simpa using h)
/-- one of a slice of digests -/
theorem SlC.rdD {s : Sl} {ks : List Dg} (h : SlC w s 32 (dgs ks)) {i : Int} (hi : 0 ≤ i) (hi2 : i < s.len) {K : (Nat → Int) → Prop} (hK : ∀ d : Dg, ks[i.toNat]? = some d → K (dg d.1)) :
    nn s.p fun a => V.rd (.arr .u8 32) w (Addr.add a (i.toNat * 32)) 0 K := by
  have hlen : s.len = ks.length := by have := h.1; rw [dgs_len] at this; omega
  obtain ⟨p, n, c⟩ := s
  obtain ⟨h1, h2, h3⟩ := h
  simp only at hlen hi2 h2
  cases p with
  | none => simp only at h3; omega
  | some a =>
    have hlt : i.toNat < ks.length := by omega
    have h3 := h3 (show c ≠ 0 by omega)
    have hd := List.getElem?_eq_getElem hlt
    refine ⟨dg (ks[i.toNat]).1, ?_, hK _ hd⟩
    show atC w _ 0 (dgC (ks[i.toNat]))
    rw [atC.shift h3.1]
    have := h3.2.2.part (us := dgC (ks[i.toNat])) (j := i.toNat * 32) h3.1 fun q hq => by
      rw [← dgs_at ks hd] at hq ⊢
      rw [List.length_take] at hq
      rw [List.getElem?_take, if_pos (by omega), List.getElem?_drop]
    simpa using this

set_option maxRecDepth 4000 in
set_option maxHeartbeats 1000000 in
theorem Believed_spec {C : Ck} {st : List Nat} {hs : List Hr} {h : Nat} (hC : ChaseIs w C st hs) (hb : ∀ H ∈ hs, H.bl.length < 549755813888) :
    callP Tryz.prog 11 #[.pointer (some ⟨C.c, 0, none⟩), .int .u64 (h : Int)] w fun v w' => Fr F0 w w' ∧
      ((believed st (hs.map Hr.ab) h = none ∧ v = .tuple #[.slice none 0 0, .bool false]) ∨ ∃ s l, believed st (hs.map Hr.ab) h = some l ∧ v = .tuple #[s.v, .bool true] ∧ By w' s l ∧ s.fresh w ∧ l.length < 1099511627776) := by
  suffices H : ∀ Q : Value → World → Prop, (∀ w', Fr F0 w w' → believed st (hs.map Hr.ab) h = none → Q (.tuple #[.slice none 0 0, .bool false]) w') →
      (∀ w' s l, Fr F0 w w' → believed st (hs.map Hr.ab) h = some l → By w' s l → s.fresh w → l.length < 1099511627776 → Q (.tuple #[s.v, .bool true]) w') →
      callP Tryz.prog 11 #[.pointer (some ⟨C.c, 0, none⟩), .int .u64 (h : Int)] w Q from
    H _ (fun w' f e => ⟨f, .inl ⟨e, rfl⟩⟩) fun w' s l f e b1 b2 b3 => ⟨f, .inr ⟨s, l, e, rfl, b1, b2, b3⟩⟩
  intro Q hN hS
  refine chase_Chase_Believed_ok ?_
  unfold chase_Chase_Believed
  simp only [nn_some, add_lit, Nat.zero_add]
  refine hC.own.rdm (o := 1) (x := some C.am) rfl ?_
  have hget := hC.all.get (P := Tryz.prog) (kt := 24) (et := 66) (k := h) ekU_fit ekU_eq zeroT_cl
  rw [mlook_all] at hget
  unfold believed at hN hS
  rw [find_ab] at hN hS
  cases hfd : hs.find? fun H => decide (h = H.h) with
  | none =>
    rw [hfd] at hget hN
    refine ⟨none, none, false, hget, ?_⟩
    refine al_cells (cs := [.pointer none, .map none]) fun b6 w1 hb6 f1 _ o1 => ?_
    refine wr_own (vs := [.pointer none, .map none]) o1 (by simp) (by simp [scal]) fun w2 f2 o2 _ => ?_
    exact br_true rfl (hN _ (f1.trans f2 fun c hc e => by omega) rfl)
  | some H =>
    rw [hfd] at hget hN hS
    have hH : H ∈ hs := List.mem_of_find?_eq_some hfd
    simp only [Option.map_some] at hN hS
    refine ⟨some ⟨H.T.b, 0, none⟩, some H.mb, true, hget, ?_⟩
    refine al_cells (cs := [.pointer none, .map none]) fun b6 w1 hb6 f1 _ o1 => ?_
    refine wr_own (vs := [.pointer (some ⟨H.T.b, 0, none⟩), .map (some H.mb)]) o1 (by simp) (by simp [scal]) fun w2 f2 o2 _ => ?_
    have o2 : Own w2 b6 [.pointer (some ⟨H.T.b, 0, none⟩), .map (some H.mb)] := by simpa using o2
    have f02 : Fr F0 w w2 := f1.trans f2 fun c hc e => by omega
    refine br_false rfl ?_
    refine o2.rdm (o := 1) rfl ?_
    have hbl := hC.blk H hH
    refine maps_Keys_map_api_Digest_byte_api_Digest_byte_ok ?_
    unfold maps_Keys_map_api_Digest_byte_api_Digest_byte
    refine al_cells (cs := [.map (some H.mb)]) fun bm w3 hbm f3 _ om => ?_
    have f03 := f02.trans0 f3
    refine ⟨⟨53, #[], #[.pointer (some ⟨bm, 0, none⟩)]⟩, rfl, ?_⟩
    refine callP_of (SortedFuncD_spec om (hbl.fr0 f03) (hb H hH)) ?_
    rintro v w4 ⟨s, cs, rfl, m4, g4⟩
    refine ⟨s, rfl, ?_⟩
    have f04 := f03.trans0 m4.fr
    have o2 := o2.fr (f3.trans0 m4.fr) id
    have hsl : SlC w4 s 32 (dgs (sortD (H.bl.map (·.1)))) := g4.slc (L := []) (M := []) (by simpa using m4)
    have hbn : (H.ab.bl.map (·.1)) = H.bl.map (·.1) := by simp [Hr.ab]
    have hwin : winner st H.ab = (sortD (H.bl.map (·.1))).find? fun d => third st H.vs d := by
      unfold winner; rw [hbn]; rfl
    rw [hwin] at hN hS
    generalize hks : sortD (H.bl.map (·.1)) = ks at *
    have hkl : ks.length < 549755813888 := by
      rw [← hks, (sortD_perm _).length_eq, List.length_map]; exact hb H hH
    have hsn : s.len = ks.length := by have := hsl.1; rw [dgs_len] at this; omega
    refine ⟨fun i w' => Fr F0 w4 w' ∧ 0 ≤ i ∧ i ≤ s.len ∧ ∀ d ∈ ks.take i.toNat, third st H.vs d = false, fun i _ => (s.len - i).toNat, ⟨.refl _, by omega, by omega, by simp⟩, ?_⟩
    rintro i w5 K ⟨f5, hi1, hi2, hno⟩ hK
    have f05 := f04.trans0 f5
    refine br_lt (fun hlt => ?_) fun hge => ?_
    · refine ⟨⟨hi1, hlt⟩, (hsl.fr0 f5).rdD hi1 hlt fun d hd => ?_⟩
      refine al_cells fun b10 w6 hb10 f6 _ o10 => ?_
      refine wr_own (vs := cellsA .u8 (dg d.1) 0 32) o10 (by simp [cellsA_len]) (cellsA_scal _ _ _ _) fun w7 f7 o10 _ => ?_
      have o10 : Own w7 b10 (cellsA .u8 (dg d.1) 0 32) := by simpa [cellsA_len, List.drop_eq_nil_of_le] using o10
      have f57 : Fr F0 w5 w7 := f6.trans f7 fun c hc e => by omega
      have f07 := f05.trans0 f57
      have o27 := o2.fr (f5.trans0 f57) id
      refine o27.rdp (o := 0) rfl (o10.rdA ?_)
      refine callP_of (Third_spec ((hC.tal H hH).fr0 f07)) ?_
      rintro v w8 ⟨rfl, f8⟩
      refine ⟨_, rfl, ?_⟩
      have f08 := f07.trans0 f8
      refine br_of (fun ht => ?_) fun ht => ?_
      · have hfind : ks.find? (fun d => third st H.vs d) = some d := by
          have hlt2 : i.toNat < ks.length := by omega
          have e : ks = ks.take i.toNat ++ d :: ks.drop (i.toNat + 1) := by
            have h1 : ks[i.toNat] = d := by rw [List.getElem?_eq_getElem hlt2] at hd; exact Option.some.inj hd
            rw [← h1, List.getElem_cons_drop, List.take_append_drop]
          rw [e, List.find?_append]
          have : (ks.take i.toNat).find? (fun d => third st H.vs d) = none := by
            rw [List.find?_eq_none]; intro x hx; rw [hno x hx]; decide
          rw [this, List.find?_cons]
          have ht' : third st H.vs d = true := ht
          rw [ht']; rfl
        rw [hfind] at hN hS
        simp only [Option.bind_some] at hN hS
        have o28 := o27.fr f8 id
        refine o28.rdm (o := 1) rfl ((o10.fr f8 id).rdA ?_)
        have hg := (hbl.fr0 f08).get (P := Tryz.prog) (kt := 50) (et := 30) (k := d) ekD_fit ekD_eq zeroT_sl
        have hdm : d ∈ H.bl.map (·.1) := by
          have : d ∈ ks := List.mem_of_find?_eq_some hfind
          rw [← hks] at this
          exact (sortD_perm _).mem_iff.mp this
        obtain ⟨p, hp, hp1⟩ := List.mem_map.mp hdm
        have hml : ∃ q, mlook H.bl d = some q ∧ (d, q) ∈ H.bl := by
          unfold mlook
          cases hfi : H.bl.find? fun p => decide (d = p.1) with
          | none =>
            have := List.find?_eq_none.mp hfi p hp
            simp [hp1] at this
          | some q =>
            have h1 := List.find?_some hfi
            have h2 := List.mem_of_find?_eq_some hfi
            simp only [decide_eq_true_eq] at h1
            exact ⟨q.2, rfl, by rw [h1]; exact h2⟩
        obtain ⟨q, hq, hqm⟩ := hml
        rw [hq] at hg
        obtain ⟨hby, _, hql⟩ := hC.cont H hH _ hqm
        refine ⟨q.1, true, hg, ?_⟩
        refine callP_of (Clone8_spec (s := q.1) (hby.fr0 f08) (by omega)) ?_
        rintro v w9 ⟨t, rfl, ht2, htf, f9⟩
        refine ⟨t, rfl, ?_⟩
        refine hS w9 t q.2 (f08.trans0 f9) ?_ ht2 (htf.mono f08.size) hql
        show mlook (H.bl.map fun q => (q.1, q.2.2)) d = _
        rw [mlook_map (fun q : Sl × List UInt8 => q.2), hq]; rfl
      · rw [w_i64 (by omega) (by omega)]
        refine hK _ _ ⟨(f5.trans0 f57).trans0 f8, by omega, by omega, ?_⟩ (by dsimp only; omega)
        rw [show (i + 1).toNat = i.toNat + 1 by omega, List.take_add_one, hd]
        intro x hx
        rcases List.mem_append.mp hx with hx | hx
        · exact hno x hx
        · simp at hx; subst hx; exact ht
    · have : i.toNat = ks.length := by omega
      rw [this, List.take_length] at hno
      have hfn : ks.find? (fun d => third st H.vs d) = none := by
        rw [List.find?_eq_none]; intro x hx; rw [hno x hx]; decide
      rw [hfn] at hN
      exact hN _ f05 rfl
end Go.Proofs.YtpcgkfgppfjnlaaGreatDoor.V
namespace Go.Proofs.YtpcgkfgppfjnlaaGreatDoor.V
open Go Go.RowKit
section
variable {P : Program} {κ ν : Type} [DecidableEq κ] {ek : κ → Value} {ev : ν → Value} {S : Nat → Prop} {w : World}

theorem mdel_erase : ∀ {l : List (κ × ν)} {i : Nat} {k : κ} {v : ν}, (l.map (·.1)).Nodup → l[i]? = some (k, v) → mdel l k = l.eraseIdx i
  | [], _, _, _, _, h => by simp at h
  | p :: l, 0, k, v, hn, h => by
    simp at h
    subst h
    simp only [List.map_cons, List.nodup_cons] at hn
    unfold mdel
    rw [List.filter_cons, List.eraseIdx_cons_zero]
    simp only [ne_eq, not_true_eq_false, decide_false, Bool.false_eq_true, if_false]
    rw [List.filter_eq_self]
    intro y hy
    have : y.1 ≠ k := fun e => hn.1 (List.mem_map.mpr ⟨y, hy, e⟩)
    simp [this]
  | p :: l, i + 1, k, v, hn, h => by
    simp only [List.map_cons, List.nodup_cons] at hn
    have ih := mdel_erase hn.2 (show l[i]? = some (k, v) by simpa using h)
    have hp : p.1 ≠ k := fun e => hn.1 (List.mem_map.mpr ⟨(k, v), List.mem_of_getElem? (by simpa using h), e.symm⟩)
    rw [List.eraseIdx_cons_succ, ← ih]
    simp [mdel, hp]
theorem filter_erase {α : Type} {p : α → Bool} : ∀ {l : List α} {i : Nat} {x : α}, l[i]? = some x → p x = false → (l.eraseIdx i).filter p = l.filter p
  | [], _, _, h, _ => by simp at h
  | y :: l, 0, x, h, hx => by
    simp at h
    subst h
    rw [List.eraseIdx_cons_zero, List.filter_cons, hx]
    rfl
  | y :: l, i + 1, x, h, hx => by
    rw [List.eraseIdx_cons_succ, List.filter_cons, List.filter_cons, filter_erase (by simpa using h) hx]
theorem map_erase {α β : Type} (f : α → β) : ∀ (l : List α) (i : Nat), (l.eraseIdx i).map f = (l.map f).eraseIdx i
  | [], _ => rfl
  | _ :: _, 0 => rfl
  | _ :: l, i + 1 => by simp [map_erase f l i]
theorem mdel_none {l : List (κ × ν)} {k : κ} (h : k ∉ l.map (·.1)) : mdel l k = l := by
  unfold mdel
  rw [List.filter_eq_self]
  intro y hy
  have : y.1 ≠ k := fun e => h (List.mem_map.mpr ⟨y, hy, e⟩)
  simp [this]
theorem It.del {kt : TypeId} {r m : Nat} {l T : List (κ × ν)} {k : κ} {K : World → Prop} (h : It ek ev w r m l T) (hk : k ∉ T.map (·.1)) (hrm : r ≠ m) (hf : ∀ k, keyFit P kt (ek k) = true) (he : ∀ a b : κ, keyEq (ek a) (ek b) = decide (a = b))
    (hK : ∀ w', Fr (· = m) w w' → w'.heap.size = w.heap.size → It ek ev w' r m (mdel l k) T → K w') : mdelP P kt w (some m) (ek k) K := by
  obtain ⟨es, clock, seen, h1, h2, hv, ht⟩ := h
  have hlt := heap_lt h2
  have inj : ∀ a b : κ, ek a = ek b → a = b := fun a b e => by
    have h1 := he a b
    rw [e] at h1
    have h2 := he b b
    rw [h1] at h2
    simpa using h2
  refine ⟨m, es, clock, rfl, h2, hf k, hv.fit hf, hK _ (setO_fr hlt) (by unfold setO; simp) ?_⟩
  have hI := fI_of (ek := ek) (ev := ev) he k es.toList l 0 hv.kv
  have hr : ∀ o, (setO w m o).heap[r]? = some (.mapIter (some m) clock seen clock) := fun o => by rw [setO_get hlt, if_neg hrm]; exact h1
  unfold delE
  split
  · rename_i i e heq
    rw [heq] at hI
    obtain ⟨j, v, hij, g2, g3, g4, g5, g6⟩ := hI
    rw [Nat.zero_add] at hij
    subst hij
    have hes : (es.eraseIdxIfInBounds i).toList = es.toList.eraseIdx i := by simp
    have hsub : ((es.eraseIdxIfInBounds i).toList).Sublist es.toList := by rw [hes]; exact List.eraseIdx_sublist _ _
    refine ⟨es.eraseIdxIfInBounds i, clock, seen, hr _, by rw [setO_get hlt, if_pos rfl], ⟨fun x hx => hv.born x (hsub.mem hx), (hsub.map _).nodup hv.nd, ?_, ?_⟩, ?_, ht.keys⟩
    · rw [hes, mdel_erase hv.keys g3, map_erase, map_erase, hv.kv]
    · rw [mdel_erase hv.keys g3]
      exact ((List.eraseIdx_sublist _ _).map _).nodup hv.keys
    · rw [hes, filter_erase g2 ?_]
      · exact ht.kv
      · cases hc : seen.contains e.born with
        | true => rfl
        | false =>
          exfalso
          have hm : e ∈ es.toList.filter fun e => !seen.contains e.born := List.mem_filter.mpr ⟨List.mem_of_getElem? g2, by rw [hc]; rfl⟩
          have hkv := ht.kv
          have : (e.key, e.val) ∈ T.map fun p => (ek p.1, ev p.2) := by rw [← hkv]; exact List.mem_map.mpr ⟨e, hm, rfl⟩
          obtain ⟨q, hq, hqe⟩ := List.mem_map.mp this
          obtain ⟨p, hp, hpk, _⟩ := hv.get g2
          rw [g3] at hp
          obtain rfl := Option.some.inj hp
          have : q.1 = k := inj _ _ (by simp only [Prod.mk.injEq] at hqe; rw [hqe.1, hpk])
          exact hk (List.mem_map.mpr ⟨q, hq, this⟩)
  · rename_i heq
    rw [heq] at hI
    rw [mdel_none hI.1]
    exact ⟨es, clock, seen, hr _, by rw [setO_get hlt, if_pos rfl], hv, ht⟩
end
variable {S : Nat → Prop} {w0 w : World} {Q : Value → World → Prop}

/-- fewer heights -/
theorem ChaseIs.less {C : Ck} {st : List Nat} {hs hs' : List Hr} (h : ChaseIs w C st hs) {w' : World} (hf : Fr (· = C.am) w w') (hs1 : hs'.Sublist hs) (ha : MapIs ekU evC w' C.am (allOf hs')) : ChaseIs w' C st hs' := by
  have hm : Maps w (· = C.am) := .one h.all
  have mem : ∀ H ∈ hs', H ∈ hs := fun H hH => hs1.mem hH
  have e : ∀ H ∈ hs, ∀ m, H.mut m → m ≠ C.am := fun H hH m hm e => (h.nd1 H hH).2.2 (e ▸ hm)
  refine ⟨h.own.frM hf hm, h.wst.frM hf hm, ha, fun H hH => (h.tal H (mem H hH)).frM hf hm (e H (mem H hH) _ (.inl rfl)) (e H (mem H hH) _ (.inr (.inl rfl))), fun H hH => (h.blk H (mem H hH)).fr hf (e H (mem H hH) _ (.inr (.inr rfl))),
    fun H hH q hq => ?_, fun H hH => h.nd1 H (mem H hH), fun H hH K hK => h.nd2 H (mem H hH) K (mem K hK), h.ok, h.w64, Nat.le_trans hs1.length_le h.n⟩
  obtain ⟨a, b, c⟩ := h.cont H (mem H hH) q hq
  exact ⟨a.frM hf hm, b, c⟩
theorem allOf_del (hs : List Hr) (h : Nat) : mdel (allOf hs) h = allOf (hs.filter fun H => decide (H.h ≠ h)) := by
  unfold mdel allOf
  rw [List.filter_map]
  rfl

def forget (A : List Ab) (below : Nat) : List Ab := A.filter fun a => decide (below ≤ a.h)

theorem Forget_spec {C : Ck} {st : List Nat} {hs : List Hr} {below : Nat} (hC : ChaseIs w C st hs) :
    callP Tryz.prog 12 #[.pointer (some ⟨C.c, 0, none⟩), .int .u64 (below : Int)] w fun v w' =>
      v = .int .i64 ((hs.length : Int) - ((forget (hs.map Hr.ab) below).length : Int)) ∧ Fr (C.mut hs) w w' ∧ ∃ hs', ChaseIs w' C st hs' ∧ hs'.map Hr.ab = forget (hs.map Hr.ab) below ∧ hs'.Sublist hs := by
  refine chase_Chase_Forget_ok ?_
  unfold chase_Chase_Forget
  simp only [nn_some, add_lit, Nat.zero_add]
  refine hC.own.rdm (o := 1) (x := some C.am) rfl ⟨_, hC.all.mlen, hC.own.rdm (o := 1) (x := some C.am) rfl ?_⟩
  have hal : (allOf hs).length = hs.length := by simp [allOf]
  have ham := hC.all.lt
  refine It.start hC.all fun r w1 hr f1 hit => ?_
  have hn := hC.n
  have sub : ∀ (p : Hr → Bool), (hs.filter p).Sublist hs := fun p => List.filter_sublist
  refine ⟨fun w' => ∃ T, It ekU evC w' r C.am (allOf (hs.filter fun H => decide (below ≤ H.h ∨ H.h ∈ T.map (·.1)))) T ∧ Fr (· = C.am) w w' ∧ w1.heap.size ≤ w'.heap.size,
    fun w' => remN w' r C.am, ?_, ?_⟩
  · have e : (hs.filter fun H => decide (below ≤ H.h ∨ H.h ∈ (allOf hs).map (·.1))) = hs := by
      rw [List.filter_eq_self]
      intro H hH
      have : H.h ∈ (allOf hs).map (·.1) := List.mem_map.mpr ⟨_, List.mem_map.mpr ⟨H, hH, rfl⟩, rfl⟩
      simp only [decide_eq_true_eq]
      exact .inr this
    refine ⟨allOf hs, ?_, f1.mono fun _ _ x => x.elim, Nat.le_refl _⟩
    rw [e]; exact hit
  rintro w2 K ⟨T, hit2, f2, hw2⟩ hK
  have hrem := hit2.rem
  have hrlt : r < w1.heap.size := by obtain ⟨_, _, _, a, _⟩ := hit; exact heap_lt a
  refine hit2.next (by omega) (fun hT q => ?_) fun p hp w3 f3 hit3 hent => ?_
  · subst hT
    have fd : Fr F0 w2 (drw w2 q) := (Fr.refl w2).drw q
    have hC3 := hC.less (f2.trans0 fd) (sub _) (hit2.map.fr0 fd)
    have e2 : (hs.filter fun H => decide (below ≤ H.h ∨ H.h ∈ ([] : List (Nat × (Nat × Nat))).map (·.1))) = hs.filter fun H => decide (below ≤ H.h) := by
      congr 1; funext H; simp
    rw [e2] at hC3
    have hlen : ((hs.filter fun H => decide (below ≤ H.h)).map Hr.ab) = forget (hs.map Hr.ab) below := by
      unfold forget
      rw [List.filter_map]
      rfl
    refine hC3.own.rdm (o := 1) (x := some C.am) rfl ⟨_, hC3.all.mlen, ?_⟩
    refine ⟨?_, ?_, _, hC3, hlen, List.filter_sublist⟩
    · have h1 : (allOf (hs.filter fun H => decide (below ≤ H.h))).length = (forget (hs.map Hr.ab) below).length := by
        rw [← hlen]; simp [allOf]
      have h2 : (hs.filter fun H => decide (below ≤ H.h)).length ≤ hs.length := List.length_filter_le _ _
      have h3 : (allOf (hs.filter fun H => decide (below ≤ H.h))).length ≤ hs.length := by simp [allOf]; exact h2
      rw [hal, h1, w_i64 (by omega) (by omega)]
    · exact (f2.trans0 fd).mono fun _ _ e => .inl e
  · have hk : (T.map (·.1)).Nodup := by obtain ⟨_, _, _, _, _, _, ht⟩ := hit2; exact ht.keys
    have f03 : Fr (· = C.am) w w3 := f2.trans f3 fun c hc e => by omega
    have hC3 := hC.less f03 (sub _) hit3.map
    have hnk : p.1 ∉ (mdel T p.1).map (·.1) := by
      intro hin
      obtain ⟨q, hq, e⟩ := List.mem_map.mp hin
      have := (List.mem_filter.mp hq).2
      simp [e] at this
    have hmem : ∀ x, x ∈ (mdel T p.1).map (·.1) ↔ x ∈ T.map (·.1) ∧ x ≠ p.1 := by
      intro x
      unfold mdel
      simp only [List.mem_map, List.mem_filter, decide_eq_true_eq]
      constructor
      · rintro ⟨q, ⟨h1, h2⟩, rfl⟩; exact ⟨⟨q, h1, rfl⟩, h2⟩
      · rintro ⟨⟨q, h1, rfl⟩, h2⟩; exact ⟨q, ⟨h1, h2⟩, rfl⟩
    refine ⟨(p.1 : Int), evC p.2, hent, br_lt (fun hlt => ?_) fun hge => ?_⟩
    · refine hC3.own.rdm (o := 1) (x := some C.am) rfl ?_
      refine hit3.del (P := Tryz.prog) (kt := 24) hnk (by omega) ekU_fit ekU_eq fun w4 f4 hs4 hit4 => ?_
      rw [allOf_del, List.filter_filter] at hit4
      have e : (hs.filter fun a => (decide (a.h ≠ p.1) && decide (below ≤ a.h ∨ a.h ∈ T.map (·.1)))) = hs.filter fun H => decide (below ≤ H.h ∨ H.h ∈ (mdel T p.1).map (·.1)) := by
        congr 1; funext H
        rw [Bool.eq_iff_iff]
        simp only [Bool.and_eq_true, decide_eq_true_eq, hmem]
        constructor
        · rintro ⟨h1, h2 | h2⟩
          · exact .inl h2
          · exact .inr ⟨h2, h1⟩
        · rintro (h1 | ⟨h1, h2⟩)
          · exact ⟨by omega, .inl h1⟩
          · exact ⟨h2, .inr h1⟩
      rw [e] at hit4
      refine hK w4 ⟨_, hit4, f03.trans f4 fun _ _ e => e, by have := f3.size; omega⟩ ?_
      dsimp only
      rw [hrem, hit4.rem]
      exact mdel_lt hp
    · have e : (hs.filter fun H => decide (below ≤ H.h ∨ H.h ∈ T.map (·.1))) = hs.filter fun H => decide (below ≤ H.h ∨ H.h ∈ (mdel T p.1).map (·.1)) := by
        congr 1; funext H
        rw [Bool.eq_iff_iff]
        simp only [decide_eq_true_eq, hmem]
        constructor
        · rintro (h1 | h1)
          · exact .inl h1
          · by_cases hx : H.h = p.1
            · exact .inl (by omega)
            · exact .inr ⟨h1, hx⟩
        · rintro (h1 | ⟨h1, h2⟩)
          · exact .inl h1
          · exact .inr h1
      rw [e] at hit3
      refine hK w3 ⟨_, hit3, f03, by have := f3.size; omega⟩ ?_
      dsimp only
      rw [hrem, hit3.rem]
      exact mdel_lt hp
end Go.Proofs.YtpcgkfgppfjnlaaGreatDoor.V
