/-
  PROVED: the law ChaseForgets answers true and leaves its arguments as they were, as the given card says. Conditions: the listed package variables hold what the card ties to the program's text.
-/
import Derived.Test.YtpcgkfgppfjnlaaGreatDoorMk
namespace Go.Proofs.YtpcgkfgppfjnlaaGreatDoor.chaseForgets
open Go Go.ChangeShapes Go.WideShapes Go.ChangeAt Go.RowKit Go.Proofs.YtpcgkfgppfjnlaaGreatDoor.V

theorem own : ownKnob Tryz.prog.godebug = none := by kernel_rfl
theorem laidOut : laidOutB Tryz.prog = true := by kernel_rfl
theorem u4 : Tryz.prog.underlying 4 = some .bool := by kernel_rfl
theorem uWd : Tryz.prog.underlying 22 = some (.slice 24) := by kernel_rfl
theorem uU64 : Tryz.prog.underlying 24 = some (.int .u64) := by kernel_rfl
theorem uCs : Tryz.prog.underlying 23 = some (.slice 32) := by kernel_rfl
theorem uCm : Tryz.prog.underlying 32 = some (.struct #[⟨"Height", 24, 0, false, "", "", 0⟩, ⟨"Who", 3, 1, false, "", "", 8⟩, ⟨"Block", 30, 2, false, "", "", 16⟩]) := by kernel_rfl
theorem uBy : Tryz.prog.underlying 30 = some (.slice 5) := by kernel_rfl
theorem uU8 : Tryz.prog.underlying 5 = some (.int .u8) := by kernel_rfl
theorem pars : Tryz.f3.params = #[22, 23, 24] := by kernel_rfl

set_option maxRecDepth 100000 in
theorem contract (H : Type) (enc : TypeId × Value → H) (W : World) (base : Nat) (args : Array Value) (ds gs : List (DataW H)) (before : List MemPlace)
    (hval : ∀ (j : Nat) t v, Tryz.f3.params[j]? = some t → args[j]? = some v → Value.okWide Tryz.prog W .any base t v)
    (hW : DataW.Whole enc Tryz.prog Tryz.f3.params.toList Rows.chaseForgetsSpec.vars false W args.toList ds gs before) (hL : laidMetH Tryz.prog Rows.chaseForgetsRow.laid W) :
    Calls Tryz.prog 3 args W fun e W' => ∃ v, e = .returned v ∧ Rows.chaseForgetsSpec.post enc Tryz.prog Tryz.f3 false true false false W args v W' := by
  have hW' := hW
  have hlt := hW.lt
  obtain ⟨p, q, hA0, hV, rfl, hfz, hnd⟩ := hW
  have hA : DataW.TrodAll enc Tryz.prog W 0 (fun _ => true) true Tryz.f3.params.toList args.toList ds p := hA0
  rw [pars] at hA hval
  obtain ⟨v0, v1, v2, d0, d1, d2, p0, p1, p2, rfl, rfl, rfl, h0, h1, h2⟩ := trodAll_three hA
  obtain ⟨rfl, rfl⟩ := trodVars_none hV
  obtain ⟨n2, rfl, rfl, rfl, wf2⟩ := open_int uU64 (hval 2 24 v2 rfl rfl) h2
  obtain ⟨a0, len, cap, rfl⟩ := Go.WideShapes.okWide_slice uWd (hval 0 22 v0 rfl rfl)
  obtain ⟨a1, len1, cap1, rfl⟩ := Go.WideShapes.okWide_slice uCs (hval 1 23 v1 rfl rfl)
  obtain ⟨fuel, hf⟩ := h0
  obtain ⟨fuel1, hf1⟩ := h1
  obtain ⟨s, st, hs, hM, hl1, h64⟩ := wd_read uWd uU64 (by kernel_rfl) hf
  obtain ⟨s1, M, hs1, hM1, hl2, hcl⟩ := cs_read uCs uCm (by kernel_rfl) (by kernel_rfl) (by kernel_rfl) uBy uU8 rfl rfl rfl (by kernel_rfl) (by kernel_rfl) (by kernel_rfl) (by kernel_rfl) hf1
  have hs : Value.slice a0 len cap = s.v := by simpa [Value.cells] using hs
  have hs1 : Value.slice a1 len1 cap1 = s1.v := by simpa [Value.cells] using hs1
  have hml : maxLen = 9223372036854775807 := rfl
  have w2 := wf_u64 wf2
  have e2 : n2 = ((n2.toNat : Nat) : Int) := by omega
  clear hA0
  simp only [List.append_nil] at hW' hlt
  have walk := ChaseForgets_spec (w := W) (below := n2.toNat) (Gb_of_laid hL) hM h64 (by omega) hM1 fun p hp => ⟨(hcl p hp).1, (hcl p hp).2.1.1, (hcl p hp).2.1.2⟩
  rw [← e2, ← hs, ← hs1] at walk
  refine Calls.mono walk fun e W' he => ?_
  obtain ⟨v, rfl, rfl, f⟩ := he
  have hb := f.below
  refine ⟨_, rfl, post_keeps (pa := p0 ++ (p1 ++ ([] ++ []))) (pv := []) hW' (fun _ _ _ => trodAll_cons_mk (shut_bool u4 _) trodAll_mk0) (fun sp hsp => ?_) (fun _ _ => rfl) (by simp) hb (ok_one (by kernel_rfl) rfl (okWide_bool_mk u4 _))⟩
  rw [pars]
  exact trodAll_cons_mk (WideElems.Trod_stays laidOut (by kernel_rfl) (of_decide_eq_true (by kernel_rfl)) ⟨fuel, hf⟩ (fun x hx => hb.same (hlt x (by simp [hx]))) (fun x hx => hsp x (by simp [hx])))
    (trodAll_cons_mk (WideElems.Trod_stays laidOut (by kernel_rfl) (of_decide_eq_true (by kernel_rfl)) ⟨fuel1, hf1⟩ (fun x hx => hb.same (hlt x (by simp [hx]))) (fun x hx => hsp x (by simp [hx])))
    (trodAll_cons_mk (shut_int uU64 wf2) trodAll_mk0))

def args0 : Array Value := #[.slice none 0 0, .slice none 0 0, .int .u64 0]
theorem reads (os : Os) {H : Type} (enc : TypeId × Value → H) : ∃ places, DataW.whole enc Tryz.prog ((laidWorld os).forCall (fun _ _ => 0) ⟨#[], args0, []⟩).memory Tryz.f3.params.toList Rows.chaseForgetsSpec.vars false args0.toList 8 = some ([.nil, .nil, .lit (.int .u64 0)], [], places) :=
  ⟨[], by kernel_rfl⟩

set_option maxRecDepth 100000 in
theorem lifted (os : Os) (started : os.Started) (H : Type) (enc : TypeId × Value → H) (F : Stop.Interp) :
    ReturnsInHanded {} Tryz.checked os 3 .any ((OpenSpec.ofChange Rows.chaseForgetsSpec).preRow enc Tryz.prog Tryz.f3 Rows.chaseForgetsRow.domain false Rows.chaseForgetsRow.laid) (((OpenSpec.ofChange Rows.chaseForgetsSpec).at F).post enc Tryz.prog Tryz.f3 false true false false) := by
  obtain ⟨places, hx⟩ := reads os enc
  refine returnsInHanded_of_row (C := Tryz.checked) (s := OpenSpec.ofChange Rows.chaseForgetsSpec) own started (by kernel_rfl) Tryz.func3
    (witness_row_at (enc := enc) (C := Tryz.checked) false (laidWorld os) args0 rfl (by kernel_rfl) (by kernel_rfl) (by kernel_rfl)
      (OpenSpec.preRow_of_cond 8 hx (by kernel_rfl) (fun k hk => by cases hk) (by kernel_rfl) (laid_met os args0))) ?_
  intro W base args ds gs before hval hW _ _ _ hL _ _
  exact contract H enc W base args ds gs before hval hW hL

theorem said : Rows.ChaseForgetsSaid :=
  OpenClaim.holds_of_cond 3 Tryz.f3 rfl rfl rfl rfl rfl rfl rfl ⟨rfl, rfl, rfl, rfl, rfl⟩ rfl rfl rfl rfl rfl (by kernel_rfl) Tryz.func3 (by kernel_rfl)
    (of_decide_eq_true (by kernel_rfl)) (by unfold Func.isWrapper; first | (rw [if_pos (by decide +kernel)]; kernel_rfl) | (rw [if_neg (by decide +kernel)]; exact ⟨rfl, rfl⟩))
    (fun os started H enc _ F => by rw [OpenClaim.pre_eq_preRow]; exact lifted os started H enc F)

theorem plain (f : FuncId) (fn : Func) (hf : Tryz.pinned.checked.prog.funcNamed "sortition/sortitionlaw19.ChaseForgets" = some f) (hfn : Tryz.pinned.checked.prog.funcs[f]? = some fn) :
    false = Tryz.pinned.checked.prog.looks [] ∧ ∀ (j : Nat) t, fn.params[j]? = some t → Tryz.pinned.checked.prog.wantsStandIn t = false := by
  obtain rfl : f = 3 := Option.some.inj ((show Tryz.prog.funcNamed "sortition/sortitionlaw19.ChaseForgets" = some 3 by kernel_rfl).symm.trans hf) |>.symm
  obtain rfl : fn = Tryz.f3 := (Option.some.inj (Tryz.func3.symm.trans hfn)).symm
  refine ⟨by kernel_rfl, fun j t ht => ?_⟩
  rw [pars] at ht
  have ht := Array.mem_of_getElem? ht
  simp only [Array.mem_def, List.mem_cons, List.not_mem_nil, or_false] at ht
  rcases ht with rfl | rfl | rfl
  · exact (show Tryz.prog.wantsStandIn 22 = false by kernel_rfl)
  · exact (show Tryz.prog.wantsStandIn 23 = false by kernel_rfl)
  · exact (show Tryz.prog.wantsStandIn 24 = false by kernel_rfl)

theorem card : Rows.ChaseForgetsCardSaid :=
  Claim7.holds_tied_plain_at .later [] _ _ _ _ said (fun _ h => by cases h) (by kernel_rfl) (fun _ h => by cases h) chaseForgets_row_tie rfl ⟨rfl, rfl⟩ (by kernel_rfl) rfl plain (by kernel_rfl)
end Go.Proofs.YtpcgkfgppfjnlaaGreatDoor.chaseForgets
