/- Layer 35: Start, in both texts. -/
import Derived.Test.YtkdfgoimgcegfaaGreatDoorE35u
import Derived.Test.YtkdfgoimgcegfaaGreatDoorE35p
import Derived.Test.YtkdfgoimgcegfaaGreatDoorQ35
set_option linter.unusedSectionVars false
set_option linter.unusedSimpArgs false
set_option linter.unusedVariables false
namespace Go.Am.Eu
open Go Go.Am
def zt : Term := .mk 0 0 ⟨#[]⟩ [] []
def zeroP : Proof := ⟨[], ⟨[], [], [], 0⟩, [], zt, zt⟩
def startP (ls : List ByteArray) (t : Term) : Proof := ⟨ls, ⟨[⟨t, false, zt, false⟩], [], [], 0⟩, [⟨0, [], [], t⟩], t, .mk 12 0 ⟨#[]⟩ [] []⟩
end Go.Am.Eu
namespace Go.Am.Sym
open Go Go.Am
variable {T : Tab} {ev : Task → Ans}
theorem done_touchA (bs : Tr Nat) (i : Nat) (l : List Note) (tm : Tr Value) (df : List Deferred) (h : H) (ab : Option (List PanicEntry)) (k : List Note → S → Ans) {b : Nat} (hb : h.base = 0) (hlt : b < h.next) (ha : apartAll (beforeOf bs i) ⟨i, bit b, 0⟩ l = true) :
    doneD k bs l i tm df h ab (h.fresh.touch b) = k (⟨i, bit b, 0⟩ :: l) ⟨tm, df, h, ab⟩ := by
  have e : h.fresh.touch b = ⟨h.m, h.next, h.next, bit b, 0⟩ := by
    rw [touch_eq, if_neg (by rw [fresh_base]; omega), fresh_eq]
    show (⟨_, _, _, Nat.lor 0 (bit b), _⟩ : H) = _
    rw [zero_lor]
  rw [e, done_note (rd := bit b) (wr := 0) (hb := hb) (hr := rfl) (hw := by show Nat.lor 0 (rangeBits h.next h.next) = 0; rw [rangeBits_self]; rfl) (hz := by rw [bit_ne]; rfl) (ha := ha)]
end Go.Am.Sym
namespace Go.Proofs.YtkdfgoimgcegfaaGreatDoor
open Go Go.Am Go.Proofs Go.Am.Sym Go.Am.Eu
set_option maxRecDepth 10000
theorem TT.f9 : TT.func 9 = some Tryz.f9 := by kernel_rfl
theorem TT.f10 : TT.func 10 = some Tryz.f10 := by kernel_rfl
abbrev sn : Value := .slice none 0 0
abbrev se : Value := .string ⟨#[]⟩
/-- The cells of the zero of a proof state. -/
def zp : List Value := [sn, sn, sn, sn, i64 0, sn, i64 0, i64 0, se, sn, sn, i64 0, i64 0, se, sn, sn]
@[simp] theorem z38 : zero TT 38 = some (.agg ⟨zp⟩) := by kernel_rfl
@[simp] theorem build38e (h : H) : buildOf TT h 38 (some (.agg ⟨zp⟩)) (some []) = .val (.agg ⟨zp⟩) h := by kernel_rfl
theorem b64 (h : H) (a b c d e : Value) : buildOf TT h 64 (zero TT 64) (some [(0, .agg ⟨[a, b, c, d, e]⟩)]) = .val (.agg ⟨[a, b, c, d, e, .bool false, i64 0, i64 0, se, sn, sn, .bool false]⟩) h := by kernel_rfl
def mz (t : Term) : List Value := tc t ++ [.bool false, i64 0, i64 0, se, sn, sn, .bool false]
@[simp] theorem build64 (h : H) (t : Term) : buildOf TT h 64 (zero TT 64) (some [(0, tv t)]) = .val (.agg ⟨mz t⟩) h := by rw [tv_eq]; exact b64 ..
theorem b58 (h : H) (a b c d e : Value) : buildOf TT h 58 (zero TT 58) (some [(3, .agg ⟨[a, b, c, d, e]⟩)]) = .val (.agg ⟨[i64 0, sn, sn, a, b, c, d, e]⟩) h := by kernel_rfl
def gz (t : Term) : List Value := [i64 0, sn, sn] ++ tc t
@[simp] theorem build58 (h : H) (t : Term) : buildOf TT h 58 (zero TT 58) (some [(3, tv t)]) = .val (.agg ⟨gz t⟩) h := by rw [tv_eq]; exact b58 ..
theorem b35 (h : H) (a : Option Addr) (n c : Nat) : buildOf TT h 35 (zero TT 35) (some [(0, .slice a n c)]) = .val (.agg ⟨[.slice a n c, sn, sn, i64 0]⟩) h := by kernel_rfl
theorem bs31 (h : H) (a b c d e f g i j k l m : Value) : buildSliceOf TT h 1 (some (.slice 64)) (some [(0, .agg ⟨[a, b, c, d, e, f, g, i, j, k, l, m]⟩)]) = .val (.slice (some ⟨h.next, 0, none⟩) 1 1) (h.new (.cells [a, b, c, d, e, f, g, i, j, k, l, m] 64 false)) := by kernel_rfl
@[simp] theorem bs31' (h : H) (t : Term) : buildSliceOf TT h 1 (some (.slice 64)) (some [(0, .agg ⟨mz t⟩)]) = .val (.slice (some ⟨h.next, 0, none⟩) 1 1) (h.new (.cells (mz t) 64 false)) := bs31 ..
theorem bs36 (h : H) (a b c d e f g i : Value) : buildSliceOf TT h 1 (some (.slice 58)) (some [(0, .agg ⟨[a, b, c, d, e, f, g, i]⟩)]) = .val (.slice (some ⟨h.next, 0, none⟩) 1 1) (h.new (.cells [a, b, c, d, e, f, g, i] 58 false)) := by kernel_rfl
@[simp] theorem bs36' (h : H) (t : Term) : buildSliceOf TT h 1 (some (.slice 58)) (some [(0, .agg ⟨gz t⟩)]) = .val (.slice (some ⟨h.next, 0, none⟩) 1 1) (h.new (.cells (gz t) 58 false)) := bs36 ..
@[simp] theorem build26k (h : H) : buildOf TT h 26 (some (.agg ⟨[i64 0, i64 0, se, sn, sn]⟩)) (some [(0, i64 12)]) = .val (.agg ⟨[i64 12, i64 0, se, sn, sn]⟩) h := by kernel_rfl
theorem b38 (h : H) (es : Array Value) (cs : Array Value) (n : Nat) (p : Array FieldStep) (off : Nat) (ga : Option Addr) (gn gc : Nat) (m1 m2 m3 m4 a b c d e a' b' c' d' e' : Value) :
    buildOf TT h 38 (some (.agg ⟨zp⟩)) (some [(0, .func (.via off p n false) es cs), (1, .agg ⟨[m1, m2, m3, m4]⟩), (2, .slice ga gn gc), (3, .agg ⟨[a, b, c, d, e]⟩), (4, .agg ⟨[a', b', c', d', e']⟩)]) =
      .val (.agg ⟨[.func (.via off p n false) es cs, m1, m2, m3, m4, .slice ga gn gc, a, b, c, d, e, a', b', c', d', e']⟩) h := by kernel_rfl
theorem b38s (h : H) (la : Option Addr) (ln lc : Nat) (ga : Option Addr) (gn gc : Nat) (m1 m2 m3 m4 a b c d e a' b' c' d' e' : Value) :
    buildOf TT h 38 (some (.agg ⟨zp⟩)) (some [(0, .slice la ln lc), (1, .agg ⟨[m1, m2, m3, m4]⟩), (2, .slice ga gn gc), (3, .agg ⟨[a, b, c, d, e]⟩), (4, .agg ⟨[a', b', c', d', e']⟩)]) =
      .val (.agg ⟨[.slice la ln lc, m1, m2, m3, m4, .slice ga gn gc, a, b, c, d, e, a', b', c', d', e']⟩) h := by kernel_rfl
/-- The cells of what Start answers. -/
def stC (s : Value) (B1 B2 : Nat) (t : Term) : List Value := [s, .slice (some ⟨B1, 0, none⟩) 1 1, sn, sn, i64 0, .slice (some ⟨B2, 0, none⟩) 1 1] ++ (tc t ++ [i64 12, i64 0, se, sn, sn])
@[simp] theorem build38 (h : H) (l : List ByteArray) (B1 B2 : Nat) (t : Term) :
    buildOf TT h 38 (some (.agg ⟨zp⟩)) (some [(0, strsV l), (1, .agg ⟨[.slice (some ⟨B1, 0, none⟩) 1 1, sn, sn, i64 0]⟩), (2, .slice (some ⟨B2, 0, none⟩) 1 1), (3, tv t), (4, .agg ⟨[i64 12, i64 0, se, sn, sn]⟩)]) = .val (.agg ⟨stC (strsV l) B1 B2 t⟩) h := by
  rw [tv_eq]; exact b38 ..
theorem build38s (h : H) (la : Option Addr) (ln lc : Nat) (B1 B2 : Nat) (t : Term) :
    buildOf TT h 38 (some (.agg ⟨zp⟩)) (some [(0, .slice la ln lc), (1, .agg ⟨[.slice (some ⟨B1, 0, none⟩) 1 1, sn, sn, i64 0]⟩), (2, .slice (some ⟨B2, 0, none⟩) 1 1), (3, tv t), (4, .agg ⟨[i64 12, i64 0, se, sn, sn]⟩)]) = .val (.agg ⟨stC (.slice la ln lc) B1 B2 t⟩) h := by
  rw [tv_eq]; exact b38s ..
theorem store38 (h : H) (b : Nat) (c : List Value) (hc : c.length = 16) (ho : oneCells c = true) {c0 : List Value} {e : TypeId} {g : Bool} (hg : h.get b = some (.cells c0 e g)) (h0 : c0.length = 16) : storeAt TT h 38 (.agg ⟨c⟩) (.pointer (some ⟨b, 0, none⟩)) = some (h.put b (.cells c e g)) := by
  rw [storeAt_ptr (v := .agg ⟨c⟩) (n := 16) (c := c0) (e := e) (g := g) s38 hc ho hg (by omega)]
  have : c0.drop 16 = [] := List.drop_eq_nil_of_le (by omega)
  simp [this]
theorem p38_at (c : List Value) (hc : c.length = 16) : partOf TT 38 c 0 = some (.agg ⟨c⟩) := by
  rw [part_agg agg38 s38, cut_some (by omega), List.drop_zero, List.take_of_length_le (by omega)]; rfl
theorem one_zp : oneCells zp = true := rfl
theorem stC_len (s : Value) (B1 B2 : Nat) (t : Term) : (stC s B1 B2 t).length = 16 := rfl
theorem one_stC_d (l : List ByteArray) (B1 B2 : Nat) (t : Term) : oneCells (stC (strsV l) B1 B2 t) = true := rfl
theorem one_stC_s (la : Option Addr) (ln lc : Nat) (B1 B2 : Nat) (t : Term) : oneCells (stC (.slice la ln lc) B1 B2 t) = true := rfl
/-- What lies in memory, as data. -/
theorem dat_zp (g : Nat → Option AObj) : DatV g (.agg ⟨zp⟩) (proofV zeroP) := by
  refine .agg ?_
  exact .cons .slice0 (.cons .slice0 (.cons .slice0 (.cons .slice0 (.cons (.pure (.ground rfl)) (.cons .slice0 (.cons (.pure (.ground rfl)) (.cons (.pure (.ground rfl)) (.cons (.pure (.ground rfl)) (.cons .slice0 (.cons .slice0
    (.cons (.pure (.ground rfl)) (.cons (.pure (.ground rfl)) (.cons (.pure (.ground rfl)) (.cons .slice0 (.cons .slice0 .nil)))))))))))))))
theorem dat_tc (g : Nat → Option AObj) (t : Term) {l d : List Value} (h : DatL g l d) : DatL g (tc t ++ l) (tc t ++ d) :=
  .cons (.pure (.ground rfl)) (.cons (.pure (.ground rfl)) (.cons (.pure (.ground rfl)) (.cons (.pure (lvlsV_pure _)) (.cons (.pure (termsV_pure _)) h))))
theorem dat_zt (g : Nat → Option AObj) {l d : List Value} (h : DatL g l d) (k : Int) : DatL g ([i64 k, i64 0, se, sn, sn] ++ l) (tc (.mk k 0 ⟨#[]⟩ [] []) ++ d) :=
  .cons (.pure (.ground rfl)) (.cons (.pure (.ground rfl)) (.cons (.pure (.ground rfl)) (.cons .slice0 (.cons .slice0 h))))
theorem dat_st {g : Nat → Option AObj} {s : Value} {l : List ByteArray} {B1 B2 : Nat} {t : Term} (hs : DatV g s (strsV l)) (h1 : g B1 = some (.cells (mz t) 64 false)) (h2 : g B2 = some (.cells (gz t) 58 false)) : DatV g (.agg ⟨stC s B1 B2 t⟩) (proofV (startP l t)) := by
  refine .agg ?_
  have d1 : DatV g (.slice (some ⟨B1, 0, none⟩) 1 1) (metasV [⟨t, false, zt, false⟩]) := by
    refine DatV.slice (pre := []) (post := []) (es := [.agg ⟨mz t⟩]) (ds := [metaV ⟨t, false, zt, false⟩]) (e := 64) (gr := false) (sz := 12) (by simpa using h1) rfl (by simp [mz]) rfl (Nat.le_refl _) (.cons (.agg ?_) .nil)
    exact dat_tc g t (.cons (.pure (.ground rfl)) (dat_zt g (.cons (.pure (.ground rfl)) .nil) 0))
  have d2 : DatV g (.slice (some ⟨B2, 0, none⟩) 1 1) (goalsV [⟨0, [], [], t⟩]) := by
    refine DatV.slice (pre := []) (post := []) (es := [.agg ⟨gz t⟩]) (ds := [goalV ⟨0, [], [], t⟩]) (e := 58) (gr := false) (sz := 8) (by simpa using h2) rfl (by simp [gz]) rfl (Nat.le_refl _) (.cons (.agg ?_) .nil)
    have := dat_tc g t (l := []) (d := []) .nil
    rw [List.append_nil] at this
    exact .cons (.pure (.ground rfl)) (.cons .slice0 (.cons .slice0 this))
  have d3 := dat_zt g (l := []) (d := []) .nil 12
  rw [List.append_nil] at d3
  exact .cons hs (.cons d1 (.cons .slice0 (.cons .slice0 (.cons (.pure (.ground rfl)) (.cons d2 (dat_tc g t d3))))))
/-! ### The program's text -/
abbrev StArg := SL × Term
noncomputable def stE (x : StArg) : Int := if 8 < x.1.l.length then 6 else ChArg.hE ⟨x.2, 0, x.1.l.length, 0, 0⟩
noncomputable def stP (x : StArg) : Proof := if stE x ≠ 0 then zeroP else startP x.1.l x.2
abbrev encS (x : StArg) : List Value := [sV x.1, tv x.2]
theorem encS_inj {x y : StArg} (h : encS x = encS y) : x.1.l = y.1.l ∧ x.2 = y.2 := by
  simp [encS] at h
  exact ⟨sV_inj h.1, tv_inj h.2⟩
def stOk (x : StArg) : Prop := x.1.l.length < 1000000000 ∧ wt x.2 < big
theorem six_ne : (6 : Int) ≠ 0 := by decide
theorem f9_split : Tryz.f9.body = some (.seq (piece Tryz.f9 [false]) (.seq (piece Tryz.f9 [true,false]) (.seq (piece Tryz.f9 [true,true,false]) (piece Tryz.f9 [true,true,true])))) := rfl
theorem f10_split : Tryz.f10.body = some (.seq (piece Tryz.f10 [false]) (.seq (piece Tryz.f10 [true,false]) (.seq (piece Tryz.f10 [true,true,false]) (.seq (piece Tryz.f10 [true,true,true,false]) (.seq (piece Tryz.f10 [true,true,true,true,false]) (piece Tryz.f10 [true,true,true,true,true])))))) := rfl
/-- After the first part. -/
noncomputable def s0H (t : Term) : H := (H.empty.new (.cells (cellsL (tv t)) 26 false)).new (.cells zp 38 false)
@[simp] theorem s0H_base (t : Term) : (s0H t).base = 0 := by simp [s0H]
@[simp] theorem s0H_next (t : Term) : (s0H t).next = 2 := by simp [s0H]
@[simp] theorem s0H_get0 (t : Term) : (s0H t).get 0 = some (.cells (cellsL (tv t)) 26 false) := by simp [s0H]
@[simp] theorem s0H_get1 (t : Term) : (s0H t).get 1 = some (.cells zp 38 false) := by simp [s0H]
structure S0 (x : StArg) (tm : Tr Value) (h : H) : Prop where
  eq : h = s0H x.2
  t0 : tm.get 0 = some (sV x.1)
  t3 : tm.get 3 = some (.pointer (some ⟨0, 0, none⟩))
  t4 : tm.get 4 = some (.pointer (some ⟨1, 0, none⟩))
/-- How it ends. -/
def StR (x : StArg) (tm : Tr Value) (h : H) : Prop := ∃ c g, tm.get 4 = some (.pointer (some ⟨1, 0, none⟩)) ∧ tm.get 5 = some (i64 (stE x)) ∧ h.base = 0 ∧ h.get 1 = some (.cells c 38 g) ∧ c.length = 16 ∧ DatV h.get (.agg ⟨c⟩) (proofV (stP x))
theorem start_end (x : StArg) {C : Con} (hC : ConS TT Tryz.prog C) {g : FuncId} {fn : Func} {c : Code} {n : Nat} (hT : TT.func g = some fn) (hb : fn.body = some c) (hr : fn.results.toList = [.cell 4 38, .tmp 5])
    (hcode : EndsAs (fun _ _ => False) (StR x) (fun _ _ _ => False) (runCode TT (evK TT C (n + 1)) ⟨g, none⟩ c ⟨initT (encS x) 0 .nil, [], H.empty, none⟩)) (h : H) :
    CallS TT Tryz.prog (.func (.func g) #[] #[]) (encS x) h none (.ret (.tuple ⟨[proofV (stP x), i64 (stE x)]⟩) h none) := by
  rcases hcode.cases with ⟨_, _, _, q⟩ | ⟨tm, m, e, c, gg, t4, t5, hb0, hc, hl, hd⟩ | ⟨_, _, _, _, q⟩
  · cases q
  · refine fnC_of (v := .tuple ⟨[.agg ⟨c⟩, i64 (stE x)]⟩) (h1 := m) tok C hC (.cons (sV_pure _) (.cons (tv_pure _) .nil)) (n + 1) ?_ (.tuple (.cons hd (.cons (.pure (.ground rfl)) .nil))) h
    rw [fn_run (vs := [.agg ⟨c⟩, i64 (stE x)]) (h2 := m) (ab := none) hT hb hr (by rw [e]; simp [t4, t5, hc, hb0, p38_at c hl])]
    rfl
  · cases q
section
variable {ev : Task → Ans} {x : StArg} {tm : Tr Value} {h : H}
theorem f9_p0 : EndsAs (fun tm h => S0 x tm h) (fun _ _ => False) (fun _ _ _ => False) (runCode TT ev ⟨9, none⟩ (piece Tryz.f9 [false]) ⟨initT (encS x) 0 .nil, [], H.empty, none⟩) := by
  simp [piece, sel, sub, Tryz.f9]
  exact ⟨rfl, by simp, by simp, by simp⟩
theorem f10_p0 : EndsAs (fun tm h => S0 x tm h) (fun _ _ => False) (fun _ _ _ => False) (runCode TT ev ⟨10, none⟩ (piece Tryz.f10 [false]) ⟨initT (encS x) 0 .nil, [], H.empty, none⟩) := by
  simp [piece, sel, sub, Tryz.f10]
  exact ⟨rfl, by simp, by simp, by simp⟩
variable (st : S0 x tm h)
include st
theorem f9_p1 : EndsAs (fun tm h => ¬ 8 < x.1.l.length ∧ S0 x tm h) (StR x) (fun _ _ _ => False) (runCode TT ev ⟨9, none⟩ (piece Tryz.f9 [true,false]) ⟨tm, [], h, none⟩) := by
  obtain ⟨rfl, t0, t3, t4⟩ := st
  have e8 : (8 < (x.1.l.length : Int)) = (8 < x.1.l.length) := by apply propext; omega
  by_cases h8 : 8 < x.1.l.length
  · have hs := store38 (s0H x.2) 1 zp rfl rfl (s0H_get1 _) rfl
    have hE : stE x = 6 := by unfold stE; rw [if_pos h8]
    have hP : stP x = zeroP := by unfold stP; rw [hE, if_pos six_ne]
    simp [piece, sel, sub, Tryz.f9, t0, t4, h8, e8, hs]
    exact ⟨zp, false, by simp [t4], by simp [hE], by simp, by simp, rfl, by rw [hP]; exact dat_zp _⟩
  · simp [piece, sel, sub, Tryz.f9, t0, t4, h8, e8]
    exact ⟨rfl, by simp [t0], by simp [t3], by simp [t4]⟩
theorem f10_p1 : EndsAs (fun tm h => ¬ 8 < x.1.l.length ∧ S0 x tm h) (StR x) (fun _ _ _ => False) (runCode TT ev ⟨10, none⟩ (piece Tryz.f10 [true,false]) ⟨tm, [], h, none⟩) := by
  obtain ⟨rfl, t0, t3, t4⟩ := st
  have e8 : (8 < (x.1.l.length : Int)) = (8 < x.1.l.length) := by apply propext; omega
  by_cases h8 : 8 < x.1.l.length
  · have hs := store38 (s0H x.2) 1 zp rfl rfl (s0H_get1 _) rfl
    have hE : stE x = 6 := by unfold stE; rw [if_pos h8]
    have hP : stP x = zeroP := by unfold stP; rw [hE, if_pos six_ne]
    simp [piece, sel, sub, Tryz.f10, t0, t4, h8, e8, hs]
    exact ⟨zp, false, by simp [t4], by simp [hE], by simp, by simp, rfl, by rw [hP]; exact dat_zp _⟩
  · simp [piece, sel, sub, Tryz.f10, t0, t4, h8, e8]
    exact ⟨rfl, by simp [t0], by simp [t3], by simp [t4]⟩
variable (h8 : ¬ 8 < x.1.l.length)
include h8
theorem f9_p2 (hev : ∀ h, ev (call0 22 [tv x.2, i64 0, i64 (x.1.l.length : Nat), i64 0, i64 0] h) = .ret (i64 (ChArg.hE ⟨x.2, 0, x.1.l.length, 0, 0⟩)) h none) :
    EndsAs (fun tm h => stE x = 0 ∧ S0 x tm h) (StR x) (fun _ _ _ => False) (runCode TT ev ⟨9, none⟩ (piece Tryz.f9 [true,true,false]) ⟨tm, [], h, none⟩) := by
  obtain ⟨rfl, t0, t3, t4⟩ := st
  have hE : stE x = ChArg.hE ⟨x.2, 0, x.1.l.length, 0, 0⟩ := by unfold stE; rw [if_neg h8]
  rw [← hE] at hev
  by_cases hc : stE x = 0
  · simp [piece, sel, sub, Tryz.f9, t0, t3, t4, hev, hc]
    exact ⟨rfl, by simp [t0], by simp [t3], by simp [t4]⟩
  · have hs := store38 (s0H x.2) 1 zp rfl rfl (s0H_get1 _) rfl
    have hP : stP x = zeroP := by unfold stP; rw [if_pos hc]
    simp [piece, sel, sub, Tryz.f9, t0, t3, t4, hev, hc, hs]
    exact ⟨zp, false, by simp [t4], by simp, by simp, by simp, rfl, by rw [hP]; exact dat_zp _⟩
theorem f10_p2 (hev : ∀ h, ev (call0 24 [tv x.2, i64 0, i64 (x.1.l.length : Nat), i64 0, i64 0] h) = .ret (i64 (ChArg.hE ⟨x.2, 0, x.1.l.length, 0, 0⟩)) h none) :
    EndsAs (fun tm h => stE x = 0 ∧ S0 x tm h) (StR x) (fun _ _ _ => False) (runCode TT ev ⟨10, none⟩ (piece Tryz.f10 [true,true,false]) ⟨tm, [], h, none⟩) := by
  obtain ⟨rfl, t0, t3, t4⟩ := st
  have hE : stE x = ChArg.hE ⟨x.2, 0, x.1.l.length, 0, 0⟩ := by unfold stE; rw [if_neg h8]
  rw [← hE] at hev
  by_cases hc : stE x = 0
  · simp [piece, sel, sub, Tryz.f10, t0, t3, t4, hev, hc]
    exact ⟨rfl, by simp [t0], by simp [t3], by simp [t4]⟩
  · have hs := store38 (s0H x.2) 1 zp rfl rfl (s0H_get1 _) rfl
    have hP : stP x = zeroP := by unfold stP; rw [if_pos hc]
    simp [piece, sel, sub, Tryz.f10, t0, t3, t4, hev, hc, hs]
    exact ⟨zp, false, by simp [t4], by simp, by simp, by simp, rfl, by rw [hP]; exact dat_zp _⟩
end
theorem stP_ok {x : StArg} (h : stE x = 0) : stP x = startP x.1.l x.2 := by unfold stP; rw [if_neg (fun k => k h)]
theorem f9_p3 {ev : Task → Ans} {x : StArg} {tm : Tr Value} {h : H} (st : stE x = 0 ∧ S0 x tm h) (hev : ∀ h, ev (call0 23 [sV x.1] h) = .ret (strsV x.1.l) h none) :
    EndsAs (fun _ _ => False) (StR x) (fun _ _ _ => False) (runCode TT ev ⟨9, none⟩ (piece Tryz.f9 [true,true,true]) ⟨tm, [], h, none⟩) := by
  obtain ⟨hE, rfl, t0, t3, t4⟩ := st
  simp [piece, sel, sub, Tryz.f9, t0, t3, t4, hev]
  rw [done_new (hb := by simp) (ha := by kernel_rfl)]
  simp [t3, t4, b35]
  rw [done_touchA (hb := by simp) (hlt := by simp) (ha := by kernel_rfl)]
  simp [t3, t4, b35]
  rw [done_new (hb := by simp) (ha := by kernel_rfl)]
  simp [t3, t4, b35]
  rw [done_touchA (hb := by simp) (hlt := by simp) (ha := by kernel_rfl)]
  simp [t3, t4, b35]
  rw [store38 _ 1 (stC (strsV x.1.l) 2 3 x.2) rfl rfl (c0 := zp) (e := 38) (g := false) (by simp) rfl]
  simp
  rw [done_put (hb := by simp) (hlt := by simp) (ha := by kernel_rfl)]
  simp
  exact ⟨stC (strsV x.1.l) 2 3 x.2, false, by simp [t4], by simp [hE], by simp, by simp, rfl, by
    rw [stP_ok hE]
    exact dat_st (.pure (strsV_pure _)) (by simp) (by simp)⟩
end Go.Proofs.YtkdfgoimgcegfaaGreatDoor
/- Layer 35: Start, in both texts: whole. -/
namespace Go.Proofs.YtkdfgoimgcegfaaGreatDoor
open Go Go.Am Go.Proofs Go.Am.Sym Go.Am.Eu
set_option maxRecDepth 10000
theorem start9 : FnC TT Tryz.prog 9 stOk encS (fun x => .tuple ⟨[proofV (stP x), i64 (stE x)]⟩) := by
  obtain ⟨C, hC, H22, H23⟩ : ∃ C, ConS TT Tryz.prog C ∧ Has C 22 ChArg.ok ChArg.enc (fun x => i64 x.hE) ∧ Has C 23 (fun x : SL => x.l.length ≤ 1073741824) (fun x => [sV x]) (fun x => strsV x.l) :=
    ⟨_, addC_sound (addC_sound noC_sound check22) clone23, .skip (by decide) (.add fun x y e => by rw [ChArg.enc_inj e]), .add fun x y e => by simp at e; rw [sV_inj e]⟩
  rintro x ⟨hl, ht⟩
  have e22 := fun n m => H22.ev (T := TT) n (x := ⟨x.2, 0, x.1.l.length, 0, 0⟩) ⟨ht, by show (0 : Int) ≤ 0; omega, by show (0 : Int) ≤ (x.1.l.length : Int); omega, by show (0 : Int) ≤ 0; omega, by show (0 : Int) ≤ 0; omega⟩ m
  have e23 := fun n m => H23.ev (T := TT) n (x := x.1) (by omega) m
  refine start_end x hC (n := 1) TT.f9 f9_split rfl ?_
  exact ends_seqC (f9_p0.mono (fun _ _ q => q) (fun _ _ q => q.elim) (fun _ _ _ q => q)) fun tm h st => ends_seqC (f9_p1 st) fun tm h q => ends_seqC (f9_p2 q.2 q.1 (e22 _)) fun tm h q => f9_p3 q (e23 _)
/-- Append to nil. -/
theorem append_nil_sl (h : H) (x : SL) (hb : h.base = 0) (hn : x.l.length ≤ 1073741824) :
    ∃ a n c h', appendOf TT h (sV x) (some (.slice 9)) (some (.slice 9)) (.slice none 0 0) (some x.l.length) = .val (.slice a n c) h' ∧ Keep h h' ∧ ∀ g, (∀ j, h.next ≤ j → j < h'.next → g j = h'.get j) → DatV g (.slice a n c) (strsV x.l) := by
  have hi := info9
  cases hT : TT.info.get 9 with
  | none => rw [hT] at hi; cases hi
  | some i =>
    rw [hT] at hi
    simp at hi
    show ∃ a n c h', appendSz TT h 9 (.slice none 0 0) (sV x) none 0 0 x.l.length (TT.info.get 9) = _ ∧ _
    rw [hT]
    unfold appendSz
    dsimp only
    have h2 : Nat.ble i.bytes 65536 = true := Nat.ble_eq_true_of_le hi.2
    have h3 : Nat.ble (Nat.add 0 x.l.length) 1073741824 = true := Nat.ble_eq_true_of_le (by rw [show Nat.add 0 x.l.length = x.l.length from Nat.zero_add _]; exact hn)
    have hlen : Nat.beq (lenL (x.l.map Value.string)) (Nat.mul x.l.length 1) = true := by
      rw [lenL_eq]; exact nbeq_eq (by simp [Nat.mul])
    rw [hi.1, first_sl, zeroN9, h2, h3]
    show ∃ a n c h', cond (cond (Nat.beq (lenL (x.l.map Value.string)) (Nat.mul x.l.length 1)) (cond (Nat.beq (lenL []) (Nat.mul 0 1)) (oneCells (x.l.map Value.string)) false) false) (appendBase TT h 9 1 0 0 x.l.length [] (x.l.map Value.string) none) .fail = _ ∧ _
    rw [hlen, one_strs]
    show ∃ a n c h', appendBase TT h 9 1 0 0 x.l.length [] (x.l.map Value.string) none = _ ∧ _
    obtain ⟨l, nl⟩ := x
    cases l with
    | nil => exact ⟨_, _, _, _, rfl, .refl hb, fun g _ => .slice0⟩
    | cons a l =>
      refine ⟨_, _, _, _, rfl, (Keep.refl hb).new _, fun g hg => ?_⟩
      show DatV g _ (dsl ((a :: l).map Value.string) 0 (a :: l).length [])
      refine DatV.slice (pre := []) (post := []) (es := (a :: l).map Value.string) (ds := (a :: l).map Value.string) (e := 9) (gr := true) (sz := 1) ?_ rfl (fun y hy => ?_) (by simp) (Nat.le_refl _) (DatL.pure (map_pure (fun _ => .ground rfl) _))
      · rw [hg _ (Nat.le_refl _) (by simp)]
        simp only [h_new_get, if_pos, List.nil_append, List.append_nil, flat_strs]
      · obtain ⟨s, _, rfl⟩ := List.mem_map.1 hy; rfl
theorem f10_p3 {ev : Task → Ans} {x : StArg} {tm : Tr Value} {h : H} (st : stE x = 0 ∧ S0 x tm h) :
    EndsAs (fun tm h => stE x = 0 ∧ S0 x tm h ∧ tm.get 7 = some (.slice none 0 0)) (fun _ _ => False) (fun _ _ _ => False) (runCode TT ev ⟨10, none⟩ (piece Tryz.f10 [true,true,true,false]) ⟨tm, [], h, none⟩) := by
  obtain ⟨hE, rfl, t0, t3, t4⟩ := st
  simp [piece, sel, sub, Tryz.f10, hE]
  exact ⟨rfl, by simp [t0], by simp [t3], by simp [t4]⟩
/-- With the names appended. -/
structure S1 (x : StArg) (tm : Tr Value) (h : H) : Prop where
  keep : Keep (s0H x.2) h
  t3 : tm.get 3 = some (.pointer (some ⟨0, 0, none⟩))
  t4 : tm.get 4 = some (.pointer (some ⟨1, 0, none⟩))
  t7 : ∃ a n c, tm.get 7 = some (.slice a n c) ∧ ∀ g, (∀ j, 2 ≤ j → j < h.next → g j = h.get j) → DatV g (.slice a n c) (strsV x.1.l)
theorem f10_p4 {ev : Task → Ans} {x : StArg} {tm : Tr Value} {h : H} (st : stE x = 0 ∧ S0 x tm h ∧ tm.get 7 = some (.slice none 0 0)) (hl : x.1.l.length ≤ 1073741824) :
    EndsAs (fun tm h => stE x = 0 ∧ S1 x tm h) (fun _ _ => False) (fun _ _ _ => False) (runCode TT ev ⟨10, none⟩ (piece Tryz.f10 [true,true,true,true,false]) ⟨tm, [], h, none⟩) := by
  obtain ⟨hE, ⟨rfl, t0, t3, t4⟩, t7⟩ := st
  obtain ⟨a, n, c, h', e, hk, hd⟩ := append_nil_sl (s0H x.2) x.1 (by simp) hl
  have hlo : lenOf (sV x.1) = some x.1.l.length := rfl
  simp [piece, sel, sub, Tryz.f10, t0, t7, hE, hlo, e]
  exact ⟨hk, by simp [t3], by simp [t4], a, n, c, by simp, fun g hg => hd g fun j h1 h2 => hg j (by simpa using h1) h2⟩
theorem f10_p5 {ev : Task → Ans} {x : StArg} {tm : Tr Value} {h : H} (st : stE x = 0 ∧ S1 x tm h) :
    EndsAs (fun _ _ => False) (StR x) (fun _ _ _ => False) (runCode TT ev ⟨10, none⟩ (piece Tryz.f10 [true,true,true,true,true]) ⟨tm, [], h, none⟩) := by
  obtain ⟨hE, hk, t3, t4, a, n, c, t7, hd⟩ := st
  have hb := hk.1
  have hn := hk.2.1
  simp at hn
  have g0 : h.get 0 = some (.cells (cellsL (tv x.2)) 26 false) := hk.get (by simp) (by simp)
  have g1 : h.get 1 = some (.cells zp 38 false) := hk.get (by simp) (by simp)
  have q0 : ¬ 0 = h.next := by omega
  have q1 : ¬ 1 = h.next := by omega
  have q0' : ¬ 0 = h.next + 1 := by omega
  have q1' : ¬ 1 = h.next + 1 := by omega
  have r1 : ¬ h.next = 1 := by omega
  have r2 : ¬ h.next = 0 := by omega
  have hs := store38 ((h.new (.cells (mz x.2) 64 false)).new (.cells (gz x.2) 58 false)) 1 (stC (.slice a n c) h.next (h.next + 1) x.2) rfl rfl (c0 := zp) (e := 38) (g := false) (by simp [q1, q1', g1, r2]) rfl
  simp [piece, sel, sub, Tryz.f10, t3, t4, t7, hb, g0, q0, b35, build38s, hs]
  refine ⟨stC (.slice a n c) h.next (h.next + 1) x.2, false, by simp [t4], by simp [hE], by simp [hb], by simp, rfl, ?_⟩
  rw [stP_ok hE]
  refine dat_st (hd _ fun j h2 hj => ?_) ?_ ?_
  · have k1 : ¬ j = h.next := by omega
    have k2 : ¬ j = h.next + 1 := by omega
    have k3 : ¬ j = 1 := by omega
    simp [k1, k2, k3]
  · simp [r1]
  · simp [r2]
theorem start10 : FnC TT Tryz.prog 10 stOk encS (fun x => .tuple ⟨[proofV (stP x), i64 (stE x)]⟩) := by
  obtain ⟨C, hC, H24⟩ : ∃ C, ConS TT Tryz.prog C ∧ Has C 24 ChArg.ok ChArg.enc (fun x => i64 x.hE) :=
    ⟨_, addC_sound noC_sound check24, .add fun x y e => by rw [ChArg.enc_inj e]⟩
  rintro x ⟨hl, ht⟩
  have e24 := fun n m => H24.ev (T := TT) n (x := ⟨x.2, 0, x.1.l.length, 0, 0⟩) ⟨ht, by show (0 : Int) ≤ 0; omega, by show (0 : Int) ≤ (x.1.l.length : Int); omega, by show (0 : Int) ≤ 0; omega, by show (0 : Int) ≤ 0; omega⟩ m
  refine start_end x hC (n := 1) TT.f10 f10_split rfl ?_
  exact ends_seqC (f10_p0.mono (fun _ _ q => q) (fun _ _ q => q.elim) (fun _ _ _ q => q)) fun tm h st => ends_seqC (f10_p1 st) fun tm h q => ends_seqC (f10_p2 q.2 q.1 (e24 _)) fun tm h q => ends_seqC ((f10_p3 q).mono (fun _ _ q => q) (fun _ _ q => q.elim) (fun _ _ _ q => q)) fun tm h q =>
    ends_seqC ((f10_p4 q (by omega)).mono (fun _ _ q => q) (fun _ _ q => q.elim) (fun _ _ _ q => q)) fun tm h q => f10_p5 q
end Go.Proofs.YtkdfgoimgcegfaaGreatDoor
