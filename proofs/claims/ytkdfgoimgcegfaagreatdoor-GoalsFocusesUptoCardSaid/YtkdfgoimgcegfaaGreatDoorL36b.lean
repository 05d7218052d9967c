/- Layer 35: the row of GoalsFocuses: reading, contract. -/
import Derived.Test.YtkdfgoimgcegfaaGreatDoorL35b
import Derived.Test.YtkdfgoimgcegfaaGreatDoorR35
import Derived.Test.YtkdfgoimgcegfaaGreatDoorL35a
set_option linter.unusedSectionVars false
set_option linter.unusedSimpArgs false
set_option linter.unusedVariables false
namespace Go.Proofs.YtkdfgoimgcegfaaGreatDoor
open Go Go.Am Go.Proofs Go.Am.Sym Go.Am.Eu
open Go.ChangeShapes Go.WideShapes Go.ChangeAt Go.RowKit
theorem fo_calls (x : FoArg) (hx : proofOk x.1) {a b : Value} (w : World) (ha : VR (imM w) (proofV x.1) a) (hb : VR (imM w) (i64 x.2) b) :
    Calls Tryz.prog 4 ⟨[a, b]⟩ w fun e w' => e = .returned (.bool true) ∧ Go.Am.Kept w w' := by
  obtain ⟨C, n, h, hC, e⟩ := law36 awake_fn x hx
  exact calls_data tok (evK_sound tok hC n) rfl e w (.cons ha (.cons hb .nil))
theorem params4 : Tryz.f4.params = #[38, 3] := rfl
set_option maxRecDepth 100000 in
theorem contract36 (H : Type) (enc : TypeId × Value → H) (W : World) (base : Nat) (args : Array Value) (ds gs : List (DataW H)) (before : List MemPlace)
    (hval : ∀ (j : Nat) t v, Tryz.f4.params[j]? = some t → args[j]? = some v → Value.okWide Tryz.prog W .any base t v)
    (hW : DataW.Whole enc Tryz.prog Tryz.f4.params.toList Rows.goalsFocusesSpec.vars false W args.toList ds gs before) (hk : Rows.uptoSmall H (ds ++ gs) = true) :
    Calls Tryz.prog 4 args W fun e W' => ∃ v, e = .returned v ∧ Rows.goalsFocusesSpec.post enc Tryz.prog Tryz.f4 false true false false W args v W' := by
  have hW' := hW
  obtain ⟨p, q, hA0, hV, rfl, hfz, hnd⟩ := hW
  have hA : DataW.TrodAll enc Tryz.prog W 0 (fun _ => true) true Tryz.f4.params.toList args.toList ds p := hA0
  rw [params4] at hA hval
  obtain ⟨v0, vs0, d0, ds0, p0, q0, hargs, rfl, rfl, ⟨n0, h0⟩, r0⟩ := trodAll_cons hA
  obtain ⟨v1, vs1, d1, ds1, p1, q1, rfl, rfl, rfl, ⟨n1, h1⟩, r1⟩ := trodAll_cons r0
  obtain ⟨rfl, rfl, rfl⟩ := trodAll_nil r1
  obtain rfl : args = #[v0, v1] := by cases args; simp_all
  obtain ⟨rfl, rfl⟩ := trodVars_none hV
  obtain ⟨cs1, rfl, _⟩ := okWide_struct u38' (hval 0 38 v0 rfl rfl)
  obtain ⟨k, rfl⟩ := okWide_int u3' (hval 1 3 v1 rfl rfl)
  obtain ⟨x, hx, hsz⟩ := proof_read h0
  have hb : Rows.uptoBulk d0 + Rows.uptoBulk d1 ≤ 1048576 := by
    have this := hk
    unfold Rows.uptoSmall at this
    rw [decide_eq_true_eq] at this
    simp only [List.append_nil, Rows.uptoBulkAll] at this
    omega
  have hx' : VR (imM W) (proofV x) (.agg cs1) := by cases cs1; exact .agg hx
  have hlt := hA0.lt
  refine (fo_calls (x, k) (proofOk_of (by have : pSz x ≤ Rows.uptoBulk d0 := hsz; show pSz x < 1000000000; omega)) W hx' (.int ..)).mono fun e W' ⟨he, hg⟩ => ?_
  subst he
  refine ⟨_, rfl, post_of_same (pv := []) hW' (fun _ _ _ => (trodAll_cons_mk (shut_bool u4' _) trodAll_mk0)) (fun sp hsp => DataW.TrodAll.respare kids full (by rw [params4]; decide +kernel) (all_carry hA0 fun x hx => kept_at hg (hlt x hx)) (fun x hx => hsp x (by simpa using hx))) (fun _ _ => rfl) (by simp)
    (kept_but hg _) hg.same.frozen (ok_one (by kernel_rfl) rfl (okWide_bool_mk u4' _))⟩
end Go.Proofs.YtkdfgoimgcegfaaGreatDoor
