/- Layer 35: the statement's row: reading, contract. -/
import Derived.Test.YtkdfgoimgcegfaaGreatDoorR35
import Derived.Test.YtkdfgoimgcegfaaGreatDoorL35a
import Derived.Test.YtkdfgoimgcegfaaGreatDoorAw35
import Derived.Test.YtkdfgoimgcegfaaGreatDoorCards
import Derived.Test.YtkdfgoimgcegfaaGreatDoorTie
import Derived.WalkKit
import Derived.ProofKit
import Derived.OpenShut
import Derived.JoinedCond
import Derived.Deep.DeepHandedRow
import Derived.Lib.LaidTab
set_option linter.unusedSectionVars false
set_option linter.unusedSimpArgs false
set_option linter.unusedVariables false
namespace Go.Proofs.YtkdfgoimgcegfaaGreatDoor
open Go Go.Am Go.Proofs Go.Am.Sym Go.Am.Eu
open Go.ChangeShapes Go.WideShapes Go.ChangeAt Go.RowKit
theorem awake_fn : FnC TT Tryz.prog 8 (fun _ : Unit => True) (fun _ => []) (fun _ => .bool true) := by
  intro _ _ h
  have e := awake_run
  generalize hr : callFn TT (eval TT 399) 8 [] H.empty none (TT.func 8) = r at e
  unfold isTrueN at e
  split at e
  · exact contract tok (eval_sound tok 399) .nil hr rfl (.ret (.pure (.ground rfl)))
  · cases e
theorem law_calls (x : StArg) (hx : LawPre x) {a b : Value} (w : World) (ha : VR (imM w) (sV x.1) a) (hb : VR (imM w) (tv x.2) b) :
    Calls Tryz.prog 3 ⟨[a, b]⟩ w fun e w' => e = .returned (.bool true) ∧ Go.Am.Kept w w' := by
  obtain ⟨C, n, h, hC, e⟩ := law_run awake_fn x hx
  exact calls_data tok (evK_sound tok hC n) rfl e w (.cons ha (.cons hb .nil))
theorem own : ownKnob Tryz.prog.godebug = none := by kernel_rfl
/-- The names, with what is known of the slice. -/
theorem sl_of {m : M} {l : List ByteArray} {v : Value} (h : VR m (strsV l) v) : ∃ x : SL, x.l = l ∧ VR m (sV x) v := by
  cases l with
  | cons a l => exact ⟨⟨a :: l, false⟩, rfl, h⟩
  | nil =>
    have h' : VR m (.func (.via 0 #[] 0 false) ⟨[]⟩ ⟨[]⟩) v := h
    cases h' with
    | data hi hh hs hl hc hk => exact ⟨⟨[], false⟩, rfl, .data0 (fun e => by cases e) (.inr (.inr rfl))⟩
    | @data0 _ _ _ cap' _ a ha hk => exact ⟨⟨[], a.isNone⟩, rfl, .data0 ha (.inr (.inr rfl))⟩
theorem kept_but {W W' : World} (k : Go.Am.Kept W W') (may : MemPlace → Prop) : W.keptBut W' may := by
  refine ⟨k.same.os, k.same.output, fun i hi => ?_⟩
  rw [k.old i hi]
  cases h : W.heap[i]? with
  | none => rfl
  | some o => cases o <;> simp
theorem kept_at {W W' : World} (k : Go.Am.Kept W W') {p : MemPlace} (hp : p.block < W.heap.size) : W.sameAt W' p := by
  cases p with
  | cell b off =>
    show W'.cell? ⟨b, off, none⟩ = W.cell? ⟨b, off, none⟩
    unfold World.cell?
    rw [k.old b hp]
  | map b => exact k.old b hp
theorem all_carry {H : Type} {enc : TypeId × Value → H} {P : Program} {w w' : World} {base : Nat} {spare : Nat → Bool} {held : Bool} : ∀ {ts : List TypeId} {vs : List Value} {ds : List (DataW H)} {ps : List MemPlace},
    DataW.TrodAll enc P w base spare held ts vs ds ps → (∀ p ∈ ps, w.sameAt w' p) → DataW.TrodAll enc P w' base spare held ts vs ds ps
  | [], [], [], _, h, _ => h
  | _ :: _, _ :: _, _ :: _, _, ⟨p, q, ⟨n, h1⟩, h2, e⟩, hs => ⟨p, q, ⟨n, DataW.trod_carry n _ _ _ h1 (fun x hx => hs x (by rw [e]; exact List.mem_append_left _ hx))⟩, all_carry h2 (fun x hx => hs x (by rw [e]; exact List.mem_append_right _ hx)), e⟩
theorem kids : Kids Tryz.prog (· < Tryz.prog.types.size) := kids_rows (by kernel_rfl) (by kernel_rfl)
theorem full : ∀ t e, t < Tryz.prog.types.size → Tryz.prog.underlying t = some (.slice e) → 0 < Tryz.prog.cellsOf e := slices_full_of Tryz.prog (by kernel_rfl)
theorem params3 : Tryz.f3.params = #[22, 26] := rfl
set_option maxRecDepth 100000 in
theorem contract35 (H : Type) (enc : TypeId × Value → H) (W : World) (base : Nat) (args : Array Value) (ds gs : List (DataW H)) (before : List MemPlace)
    (hval : ∀ (j : Nat) t v, Tryz.f3.params[j]? = some t → args[j]? = some v → Value.okWide Tryz.prog W .any base t v)
    (hW : DataW.Whole enc Tryz.prog Tryz.f3.params.toList Rows.goalsStartsSpec.vars false W args.toList ds gs before) (hk : Rows.uptoSmall H (ds ++ gs) = true) :
    Calls Tryz.prog 3 args W fun e W' => ∃ v, e = .returned v ∧ Rows.goalsStartsSpec.post enc Tryz.prog Tryz.f3 false true false false W args v W' := by
  have hW' := hW
  obtain ⟨p, q, hA0, hV, rfl, hfz, hnd⟩ := hW
  have hA : DataW.TrodAll enc Tryz.prog W 0 (fun _ => true) true Tryz.f3.params.toList args.toList ds p := hA0
  rw [params3] at hA hval
  obtain ⟨v0, vs0, d0, ds0, p0, q0, hargs, rfl, rfl, ⟨n0, h0⟩, r0⟩ := trodAll_cons hA
  obtain ⟨v1, vs1, d1, ds1, p1, q1, rfl, rfl, rfl, ⟨n1, h1⟩, r1⟩ := trodAll_cons r0
  obtain ⟨rfl, rfl, rfl⟩ := trodAll_nil r1
  obtain rfl : args = #[v0, v1] := by cases args; simp_all
  obtain ⟨rfl, rfl⟩ := trodVars_none hV
  obtain ⟨a0, l0, c0, rfl⟩ := okWide_slice u22' (hval 0 22 v0 rfl rfl)
  obtain ⟨cs1, rfl, _⟩ := okWide_struct u26' (hval 1 26 v1 rfl rfl)
  obtain ⟨cs, v', e, hcs, hcl⟩ := strs_read h0
  have e : [Value.slice a0 l0 c0] = [v'] := e
  injection e with e
  subst e
  obtain ⟨t, v', e, ht, htw⟩ := term_read (n1 + 1) n1 (by omega) _ _ h1
  have e2 : v' = .agg cs1 := by
    rw [tv_eq] at ht
    cases ht with
    | agg hl =>
      have e : _ = cs1.toList := e
      cases cs1
      exact congrArg Value.agg (by simpa [Value.cells] using e)
  subst e2
  have hb : Rows.uptoBulk d0 + Rows.uptoBulk d1 ≤ 1048576 := by
    have this := hk
    unfold Rows.uptoSmall at this
    rw [decide_eq_true_eq] at this
    simp only [List.append_nil, Rows.uptoBulkAll] at this
    omega
  obtain ⟨sx, hsl, hsx⟩ := sl_of hcs
  have hlt := hA0.lt
  refine (law_calls (sx, t) ⟨by show sx.l.length < _; rw [hsl]; have : cs.length ≤ Rows.uptoBulk d0 := hcl; omega, by have : wt t ≤ Rows.uptoBulk d1 := htw; show wt t < _; omega⟩ W hsx ht).mono fun e W' ⟨he, hg⟩ => ?_
  subst he
  refine ⟨_, rfl, post_of_same (pv := []) hW' (fun _ _ _ => (trodAll_cons_mk (shut_bool u4' _) trodAll_mk0)) (fun sp hsp => DataW.TrodAll.respare kids full (by rw [params3]; decide +kernel) (all_carry hA0 fun x hx => kept_at hg (hlt x hx)) (fun x hx => hsp x (by simpa using hx))) (fun _ _ => rfl) (by simp)
    (kept_but hg _) hg.same.frozen (ok_one (by kernel_rfl) rfl (okWide_bool_mk u4' _))⟩
end Go.Proofs.YtkdfgoimgcegfaaGreatDoor
