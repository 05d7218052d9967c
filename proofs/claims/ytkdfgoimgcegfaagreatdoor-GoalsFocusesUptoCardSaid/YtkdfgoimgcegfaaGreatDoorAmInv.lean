/- The invariant that ties the abstract machine's memory to the model's world, and how each change of memory keeps it. -/
import Derived.Test.YtkdfgoimgcegfaaGreatDoorAmRel
import Derived.Laws.CopyRow
set_option linter.unusedSectionVars false
set_option linter.unusedSimpArgs false
set_option linter.unusedVariables false
namespace Go.Am
open Go

/-- What stays fixed while an operation is carried out: the world at the start, the map and the blocks at the start, the numbers that are free for it, and what it touches and writes. -/
structure Ctx where
  w0 : World
  m0 : M
  h0 : Nat → Option AObj
  n0 : Nat
  N : Nat
  tch : Nat → Prop
  wrt : Nat → Prop

/-- The operation's last memory lets these be touched and written. -/
structure Fin (Γ : Ctx) (h : H) : Prop where
  next : h.next ≤ Γ.N
  hi : ∀ b, h.base ≤ b → Γ.tch b ∧ Γ.wrt b
  rd : ∀ b, h.rd.testBit b = true → Γ.tch b
  wr : ∀ b, h.wr.testBit b = true → Γ.wrt b
  wt : ∀ b, h.wr.testBit b = true → Γ.tch b
theorem Fin.of_le {Γ : Ctx} {h h' : H} (l : Le h h') (f : Fin Γ h') : Fin Γ h :=
  ⟨Nat.le_trans l.next f.next, fun b hb => f.hi b (by rw [l.base]; exact hb), fun b hb => f.rd b (l.rd b hb), fun b hb => f.wr b (l.wr b hb), fun b hb => f.wt b (l.wr b hb)⟩

def upd {α : Type} (f : Nat → α) (b : Nat) (x : α) (j : Nat) : α := if j = b then x else f j
theorem upd_eq {α : Type} (f : Nat → α) (b : Nat) (x : α) : upd f b x b = x := by simp [upd]
theorem upd_ne {α : Type} (f : Nat → α) {b j : Nat} (x : α) (h : j ≠ b) : upd f b x j = f j := by simp [upd, h]

/-- A block has a place. -/
def M.upd (m : M) (b : Nat) (x : Option Pl) : M := ⟨Am.upd m b x, m.im⟩
theorem M.upd_eq (m : M) (b : Nat) (x : Option Pl) : m.upd b x b = x := Am.upd_eq m.at_ b x
theorem M.upd_ne (m : M) {b j : Nat} (x : Option Pl) (h : j ≠ b) : m.upd b x j = m j := Am.upd_ne m.at_ x h
theorem M.le_upd {m : M} {b : Nat} {x : Option Pl} (h : m b = none) : MLe m (m.upd b x) :=
  ⟨fun j p hj => by rw [M.upd_ne _ _ (fun e => by subst e; rw [h] at hj; cases hj)]; exact hj, fun _ _ h => h⟩

/-- What no step of these changes. -/
structure Same (w w' : World) : Prop where
  frozen : ∀ a, w'.frozen? a = w.frozen? a
  tape : w'.tape = w.tape
  os : w'.os = w.os
  output : w'.output = w.output
theorem Same.refl (w : World) : Same w w := ⟨fun _ => rfl, rfl, rfl, rfl⟩
theorem Same.trans {a b c : World} (h : Same a b) (h' : Same b c) : Same a c :=
  ⟨fun x => by rw [h'.frozen, h.frozen], by rw [h'.tape, h.tape], by rw [h'.os, h.os], by rw [h'.output, h.output]⟩

structure Inv (T : Tab) (Γ : Ctx) (m : M) (hD : Nat → Option AObj) (h : H) (w : World) : Prop where
  obj : ∀ b o, hD b = some o → ∃ pl o', m b = some pl ∧ w.heap[pl.blk]? = some o' ∧ OR T m pl o o'
  inj : ∀ b b' pl pl', hD b ≠ none → hD b' ≠ none → m b = some pl → m b' = some pl' → pl.blk = pl'.blk → b = b'
  old : ∀ c, c < Γ.w0.heap.size → w.heap[c]? = Γ.w0.heap[c]?
  size : Γ.w0.heap.size ≤ w.heap.size
  young : ∀ b pl, hD b ≠ none → m b = some pl → Γ.w0.heap.size ≤ pl.blk
  same : Same Γ.w0 w
  agree : ∀ b, b < h.next → Γ.tch b → m b ≠ none → hD b = h.get b
  dom : ∀ b o, h.get b = some o → b < h.next
  fresh : ∀ b, h.next ≤ b → b < Γ.N → m b = none ∧ hD b = none
  baseLe : h.base ≤ h.next
  keepM : MLe Γ.m0 m
  outM : ∀ b, (b < Γ.n0 ∨ Γ.N ≤ b) → m b = Γ.m0 b
  startLe : Γ.n0 ≤ h.next
  keepH : ∀ b, (¬ Γ.wrt b ∨ Γ.N ≤ b) → hD b = Γ.h0 b
  imm : ∀ c l, m.im c = some l → (∃ e f, w.heap[c]? = some (.cells ⟨l⟩ e f)) ∧ ∀ b pl, hD b ≠ none → m b = some pl → pl.blk ≠ c
  outIm : ∀ c, c < Γ.w0.heap.size → m.im c = Γ.m0.im c

variable {T : Tab} {Γ : Ctx} {m : M} {hD : Nat → Option AObj} {h : H} {w : World}

theorem frozen_false {pl : Pl} {o : AObj} {o' : Obj} {a : Addr} (hO : OR T m pl o o') (hw : w.heap[a.block]? = some o') : w.frozen? a = false := by
  unfold World.frozen?
  rw [hw]
  cases hO <;> simp

/-- What is read. -/
theorem Inv.get (I : Inv T Γ m hD h w) {b : Nat} {pl : Pl} {o : AObj} (hm : m b = some pl) (hg : h.get b = some o) (ht : Γ.tch b) :
    hD b = some o ∧ ∃ o', w.heap[pl.blk]? = some o' ∧ OR T m pl o o' := by
  have hd : hD b = some o := by rw [I.agree b (I.dom b o hg) ht (by rw [hm]; simp), hg]
  obtain ⟨pl', o', h1, h2, h3⟩ := I.obj b o hd
  rw [hm] at h1
  injection h1 with h1
  subst h1
  exact ⟨hd, o', h2, h3⟩

/-- Notes alone. -/
theorem Inv.touch (I : Inv T Γ m hD h w) (b : Nat) : Inv T Γ m hD (h.touch b) w :=
  { I with
    agree := fun j hj => by rw [touch_get]; exact I.agree j (by rwa [touch_next] at hj)
    dom := fun j o hj => by rw [touch_next]; exact I.dom j o (by rwa [touch_get] at hj)
    fresh := fun j hj => I.fresh j (by rwa [touch_next] at hj)
    baseLe := by rw [touch_next, (touch_le h b).base]; exact I.baseLe
    startLe := by rw [touch_next]; exact I.startLe }

/-- A draw. -/
theorem Inv.world (I : Inv T Γ m hD h w) {w' : World} (hh : w'.heap = w.heap) (hs : Same w w') : Inv T Γ m hD h w' :=
  { I with
    obj := fun b o hb => by rw [hh]; exact I.obj b o hb
    old := fun c hc => by rw [hh]; exact I.old c hc
    size := by rw [hh]; exact I.size
    same := I.same.trans hs
    imm := fun c l hc => by rw [hh]; exact I.imm c l hc }

/-- A block is written. -/
theorem Inv.put (I : Inv T Γ m hD h w) {b : Nat} {pl : Pl} {o o2 : AObj} {o2' : Obj} {w' : World} (hm : m b = some pl) (hg : h.get b = some o)
    (hF : Fin Γ (h.put b o2)) (hO : OR T m pl o2 o2') (hw : w'.heap[pl.blk]? = some o2') (hne : ∀ j, j ≠ pl.blk → w'.heap[j]? = w.heap[j]?)
    (hs : w'.heap.size = w.heap.size) (hr : Same w w') : Inv T Γ m (upd hD b ((h.put b o2).get b)) (h.put b o2) w' := by
  have hn := put_noted h b o2
  have ht : Γ.tch b := hn.elim (fun x => (hF.hi b x).1) (fun x => hF.rd b x.1)
  have hwr : Γ.wrt b := hn.elim (fun x => (hF.hi b x).2) (fun x => hF.wr b x.2)
  obtain ⟨hd, o', ho', hO'⟩ := I.get hm hg ht
  have hlive : hD b ≠ none := by rw [hd]; simp
  have live : ∀ j, upd hD b ((h.put b o2).get b) j ≠ none → hD j ≠ none := fun j hj => by
    by_cases e : j = b
    · subst e; exact hlive
    · rwa [upd_ne _ _ e] at hj
  refine { obj := fun j x hj => ?_, inj := fun j k p q hj hk => I.inj j k p q (live j hj) (live k hk), old := fun c hc => ?_, size := by rw [hs]; exact I.size,
           young := fun j p hj => I.young j p (live j hj), same := I.same.trans hr, agree := fun j hj htj hmj => ?_, dom := fun j x hj => ?_, fresh := fun j hj hN => ?_,
           baseLe := by rw [put_next, put_base h b o2]; exact I.baseLe, keepM := I.keepM, outM := I.outM, startLe := by rw [put_next]; exact I.startLe, keepH := fun j hj => ?_, outIm := I.outIm,
           imm := fun c l hc => ⟨by rw [hne c (fun q => (I.imm c l hc).2 b pl hlive hm q.symm)]; exact (I.imm c l hc).1, fun j p hj hp => (I.imm c l hc).2 j p (live j hj) hp⟩ }
  · by_cases e : j = b
    · subst e
      rw [upd_eq] at hj
      have := put_get_eq h hj
      subst this
      exact ⟨pl, o2', hm, hw, hO⟩
    · rw [upd_ne _ _ e] at hj
      obtain ⟨p, x', h1, h2, h3⟩ := I.obj j x hj
      refine ⟨p, x', h1, ?_, h3⟩
      rw [hne]
      · exact h2
      · exact fun hp => e (I.inj j b p pl (by rw [hj]; simp) hlive h1 hm hp)
  · rw [hne]
    · exact I.old c hc
    · have := I.young b pl hlive hm
      omega
  · by_cases e : j = b
    · subst e; rw [upd_eq]
    · rw [upd_ne _ _ e, put_get_ne h o2 e]
      exact I.agree j (by rwa [put_next] at hj) htj hmj
  · rw [put_next]
    by_cases e : j = b
    · subst e; exact I.dom j o hg
    · rw [put_get_ne h o2 e] at hj; exact I.dom j x hj
  · rw [put_next] at hj
    have := I.dom b o hg
    rw [upd_ne _ _ (by omega : j ≠ b)]
    exact I.fresh j hj hN
  · by_cases e : j = b
    · subst e
      have := I.dom j o hg
      have hN := hF.next
      rw [put_next] at hN
      rcases hj with hj | hj
      · exact absurd hwr hj
      · omega
    · rw [upd_ne _ _ e]; exact I.keepH j hj

/-- A new block, at a block of the model's that no other has. -/
theorem Inv.newAt (I : Inv T Γ m hD h w) {pl : Pl} {o : AObj} {o' : Obj} {w' : World} (hF : Fin Γ (h.new o)) (hb : Γ.w0.heap.size ≤ pl.blk) (him : m.im pl.blk = none)
    (hfree : ∀ j p, hD j ≠ none → m j = some p → p.blk ≠ pl.blk)
    (hO : OR T (m.upd h.next (some pl)) pl o o') (hat : w'.heap[pl.blk]? = some o') (hne : ∀ j, j ≠ pl.blk → j < w.heap.size → w'.heap[j]? = w.heap[j]?)
    (hsz : w.heap.size ≤ w'.heap.size) (hr : Same w w') :
    MLe m (m.upd h.next (some pl)) ∧ Inv T Γ (m.upd h.next (some pl)) (upd hD h.next ((h.new o).get h.next)) (h.new o) w' := by
  have hN : h.next < Γ.N := by have := hF.next; rw [new_next] at this; omega
  obtain ⟨hmn, hdn⟩ := I.fresh h.next (Nat.le_refl _) hN
  have hhi := hF.hi h.next (by rw [(new_le h o).base]; exact I.baseLe)
  have hle : MLe m (m.upd h.next (some pl)) := M.le_upd hmn
  have below : ∀ j p, hD j ≠ none → m j = some p → p.blk < w.heap.size := fun j p hj hp => by
    cases e : hD j with
    | none => exact absurd e hj
    | some x =>
      obtain ⟨p', x', h1, h2, h3⟩ := I.obj j x e
      rw [hp] at h1; injection h1 with h1; subst h1
      exact (Array.getElem?_eq_some_iff.1 h2).1
  refine ⟨hle, { obj := fun j x hj => ?_, inj := fun j k p q hj hk hp hq hpq => ?_, old := fun c hc => ?_, size := (by have := I.size; omega),
                 young := fun j p hj hp => ?_, same := I.same.trans hr, agree := fun j hj htj hmj => ?_, dom := fun j x hj => ?_, fresh := fun j hj hjN => ?_,
                 baseLe := (by rw [new_next, (new_le h o).base]; have := I.baseLe; omega), keepM := I.keepM.trans hle, outM := fun j hj => ?_,
                 startLe := (by rw [new_next]; have := I.startLe; omega), keepH := fun j hj => ?_, outIm := I.outIm, imm := fun c l hc => ?_ }⟩
  · by_cases e : j = h.next
    · subst e
      rw [upd_eq] at hj
      have := new_get_eq h hj
      subst this
      exact ⟨pl, o', M.upd_eq _ _ _, hat, hO⟩
    · rw [upd_ne _ _ e] at hj
      obtain ⟨p, x', h1, h2, h3⟩ := I.obj j x hj
      refine ⟨p, x', hle.to _ _ h1, ?_, h3.mono hle⟩
      have hl : hD j ≠ none := by rw [hj]; simp
      rw [hne _ (hfree j p hl h1) (below j p hl h1)]; exact h2
  · by_cases ej : j = h.next
    · by_cases ek : k = h.next
      · rw [ej, ek]
      · rw [upd_ne _ _ ek] at hk
        rw [M.upd_ne _ _ ek] at hq
        subst ej
        rw [M.upd_eq] at hp; injection hp with hp; subst hp
        exact absurd hpq.symm (hfree k q hk hq)
    · rw [upd_ne _ _ ej] at hj
      rw [M.upd_ne _ _ ej] at hp
      by_cases ek : k = h.next
      · subst ek
        rw [M.upd_eq] at hq; injection hq with hq; subst hq
        exact absurd hpq (hfree j p hj hp)
      · rw [upd_ne _ _ ek] at hk
        rw [M.upd_ne _ _ ek] at hq
        exact I.inj j k p q hj hk hp hq hpq
  · rw [hne c (by omega) (by have := I.size; omega)]; exact I.old c hc
  · by_cases e : j = h.next
    · subst e; rw [M.upd_eq] at hp; injection hp with hp; subst hp; exact hb
    · rw [upd_ne _ _ e] at hj; rw [M.upd_ne _ _ e] at hp; exact I.young j p hj hp
  · by_cases e : j = h.next
    · subst e; rw [upd_eq]
    · rw [upd_ne _ _ e, new_get_ne h o e]
      rw [M.upd_ne _ _ e] at hmj
      exact I.agree j (by rw [new_next] at hj; omega) htj hmj
  · rw [new_next]
    by_cases e : j = h.next
    · omega
    · rw [new_get_ne h o e] at hj; have := I.dom j x hj; omega
  · rw [new_next] at hj
    rw [M.upd_ne _ _ (by omega : j ≠ h.next), upd_ne _ _ (by omega : j ≠ h.next)]
    exact I.fresh j (by omega) hjN
  · rw [M.upd_ne]
    · exact I.outM j hj
    · have := I.startLe; omega
  · by_cases e : j = h.next
    · subst e
      rcases hj with hj | hj
      · exact absurd hhi.2 hj
      · omega
    · rw [upd_ne _ _ e]; exact I.keepH j hj
  · have hc : m.im c = some l := hc
    have hne2 : c ≠ pl.blk := fun q => by rw [q, him] at hc; cases hc
    obtain ⟨⟨e, f, h1⟩, h2⟩ := I.imm c l hc
    refine ⟨⟨e, f, by rw [hne c hne2 (Array.getElem?_eq_some_iff.1 h1).1]; exact h1⟩, fun j p hj hp => ?_⟩
    by_cases ej : j = h.next
    · subst ej; rw [M.upd_eq] at hp; injection hp with hp; subst hp; exact fun q => hne2 q.symm
    · rw [upd_ne _ _ ej] at hj; rw [M.upd_ne _ _ ej] at hp; exact h2 j p hj hp

/-- A new block. -/
theorem Inv.new (I : Inv T Γ m hD h w) {pl : Pl} {o : AObj} {o' : Obj} {w' : World} (hF : Fin Γ (h.new o)) (hb : pl.blk = w.heap.size)
    (hO : OR T (m.upd h.next (some pl)) pl o o') (hw : w'.heap = w.heap.push o') (hr : Same w w') :
    MLe m (m.upd h.next (some pl)) ∧ Inv T Γ (m.upd h.next (some pl)) (upd hD h.next ((h.new o).get h.next)) (h.new o) w' := by
  refine I.newAt hF (by rw [hb]; exact I.size) (by
    cases q : m.im pl.blk with
    | none => rfl
    | some l =>
      obtain ⟨⟨e, f, h1⟩, _⟩ := I.imm _ l q
      have := (Array.getElem?_eq_some_iff.1 h1).1
      omega) (fun j p hj hp => ?_) hO (by rw [hw, hb]; simp) (fun j _ hj => by rw [hw, Array.getElem?_push, if_neg (by omega)]) (by rw [hw]; simp) hr
  cases e : hD j with
  | none => exact absurd e hj
  | some x =>
    obtain ⟨p', x', h1, h2, h3⟩ := I.obj j x e
    rw [hp] at h1; injection h1 with h1; subst h1
    have := (Array.getElem?_eq_some_iff.1 h2).1
    omega

/-- A block is given up. -/
theorem Inv.drop (I : Inv T Γ m hD h w) {b : Nat} (hF : Fin Γ (h.drop b)) {o : AObj} (hg : h.get b = some o) :
    Inv T Γ m (upd hD b none) (h.drop b) w := by
  have hn := drop_noted h b
  have hwr : Γ.wrt b := hn.elim (fun x => (hF.hi b x).2) (fun x => hF.wr b x.2)
  have live : ∀ j, upd hD b none j ≠ none → hD j ≠ none ∧ j ≠ b := fun j hj => by
    by_cases e : j = b
    · subst e; rw [upd_eq] at hj; exact absurd rfl hj
    · rw [upd_ne _ _ e] at hj; exact ⟨hj, e⟩
  refine { I with obj := fun j x hj => ?_, inj := fun j k p q hj hk => I.inj j k p q (live j hj).1 (live k hk).1, young := fun j p hj => I.young j p (live j hj).1,
                    agree := fun j hj htj hmj => ?_, dom := fun j x hj => ?_, fresh := fun j hj hN => ?_,
                    baseLe := by rw [drop_next, drop_base h b]; exact I.baseLe, startLe := by rw [drop_next]; exact I.startLe, keepH := fun j hj => ?_, imm := fun c l hc => ⟨(I.imm c l hc).1, fun j p hj hp => (I.imm c l hc).2 j p (live j hj).1 hp⟩ }
  · by_cases e : j = b
    · subst e; rw [upd_eq] at hj; cases hj
    · rw [upd_ne _ _ e] at hj; exact I.obj j x hj
  · by_cases e : j = b
    · subst e; rw [upd_eq, drop_get_eq]
    · rw [upd_ne _ _ e, drop_get_ne h e]; exact I.agree j (by rwa [drop_next] at hj) htj hmj
  · rw [drop_next]
    by_cases e : j = b
    · subst e; rw [drop_get_eq] at hj; cases hj
    · rw [drop_get_ne h e] at hj; exact I.dom j x hj
  · rw [drop_next] at hj
    have := I.dom b o hg
    rw [upd_ne _ _ (by omega : j ≠ b)]
    exact I.fresh j hj hN
  · by_cases e : j = b
    · subst e
      have := I.dom j o hg
      have hN := hF.next
      rw [drop_next] at hN
      rcases hj with hj | hj
      · exact absurd hwr hj
      · omega
    · rw [upd_ne _ _ e]; exact I.keepH j hj

/-- A block is given up, and a new one has its place. -/
theorem Inv.regrow (I : Inv T Γ m hD h w) {b : Nat} {pl pl2 : Pl} {o o2 : AObj} {o2' : Obj} {w' : World} (hF : Fin Γ ((h.drop b).new o2)) (hm : m b = some pl) (hg : h.get b = some o)
    (hb : pl2.blk = pl.blk) (hO : OR T (m.upd h.next (some pl2)) pl2 o2 o2') (hat : w'.heap[pl.blk]? = some o2') (hne : ∀ j, j ≠ pl.blk → w'.heap[j]? = w.heap[j]?)
    (hsz : w'.heap.size = w.heap.size) (hr : Same w w') :
    MLe m (m.upd h.next (some pl2)) ∧ ∃ hD', Inv T Γ (m.upd h.next (some pl2)) hD' ((h.drop b).new o2) w' := by
  have hFd : Fin Γ (h.drop b) := hF.of_le (new_le _ _)
  have hn := drop_noted h b
  have ht : Γ.tch b := hn.elim (fun x => (hFd.hi b x).1) (fun x => hFd.rd b x.1)
  obtain ⟨hd, o', ho', hO'⟩ := I.get hm hg ht
  have hlive : hD b ≠ none := by rw [hd]; simp
  have I' := I.drop hFd hg
  have hnx : (h.drop b).next = h.next := drop_next h b
  have key := I'.newAt (pl := pl2) (o := o2) (o' := o2') (w' := w') hF (by rw [hb]; exact I.young b pl hlive hm) (by
      cases q : m.im pl2.blk with
      | none => rfl
      | some l => exact absurd hb.symm ((I.imm _ l q).2 b pl hlive hm)) (fun j p hj hp => by
      by_cases e : j = b
      · subst e; rw [upd_eq] at hj; exact absurd rfl hj
      · rw [upd_ne _ _ e] at hj; rw [hb]; exact fun hp' => e (I.inj j b p pl hj hlive hp hm hp'))
    (by rw [hnx]; exact hO) (by rw [hb]; exact hat) (fun j hj _ => hne j (by rw [← hb]; exact hj)) (by omega) hr
  rw [hnx] at key
  exact ⟨key.1, _, key.2⟩
end Go.Am
/- What the table of types says, and lists of cells. -/
namespace Go.Am
open Go

structure TabOK (T : Tab) (P : Program) : Prop where
  prog : T.prog = P
  info : ∀ t i, T.info.get t = some i → P.info? t = some i
  func : ∀ g fn, T.func g = some fn → P.funcs[g]? = some fn ∧ funcOK fn = true
  mixed : P.follows .mixedOrders = true

theorem onO_some {α β : Type} {n : Option β} {s : α → Option β} {o : Option α} {x : β} (h : onO n s o = some x) (hn : n = none) : ∃ a, o = some a ∧ s a = some x := by
  subst hn
  cases o with
  | none => cases h
  | some a => exact ⟨a, rfl, h⟩

variable {T : Tab} {P : Program}

theorem under_ok (tok : TabOK T P) {t : TypeId} {d : TypeDesc} (h : T.under t = some d) : P.underlying t = some d := by
  unfold Tab.under underI at h
  cases hi : T.info.get t with
  | none => rw [hi] at h; cases h
  | some i =>
    rw [hi] at h
    have hp := tok.info t i hi
    unfold Program.underlying
    rw [hp]
    obtain ⟨desc, str, size, bytes, hp', al, fa, zero, cmp, ms⟩ := i
    simp only at h
    cases desc with
    | named n u =>
      simp only at h
      cases hu : T.info.get u with
      | none => rw [hu] at h; cases h
      | some j => rw [hu] at h; injection h with h; simp [tok.info u j hu, h]
    | _ => simpa using h
theorem run_under (tok : TabOK T P) {t : TypeId} {d : TypeDesc} (h : T.under t = some d) (w : World) : (underlying t).run P w = .ok d w := by
  simp [underlying, under_ok tok h]
theorem size_ok (tok : TabOK T P) {t : TypeId} {n : Nat} (h : size T t = some n) : ∃ i, T.info.get t = some i ∧ P.info? t = some i ∧ i.size = n := by
  obtain ⟨i, h1, h2⟩ := onO_some h rfl
  injection h2 with h2
  exact ⟨i, h1, tok.info t i h1, h2⟩
theorem run_typeInfo {t : TypeId} {i : TypeInfo} (h : P.info? t = some i) (w : World) : (typeInfo t).run P w = .ok i w := by simp [typeInfo, h]
theorem run_size (tok : TabOK T P) {t : TypeId} {n : Nat} (h : size T t = some n) (w : World) : (sizeOf t).run P w = .ok n w := by
  obtain ⟨i, _, h2, h3⟩ := size_ok tok h
  simp [sizeOf, run_typeInfo h2, h3]
theorem run_isAgg (tok : TabOK T P) {t : TypeId} {b : Bool} (h : Am.isAgg T t = some b) (w : World) : (Go.isAgg t).run P w = .ok b w := by
  unfold Am.isAgg at h
  cases hd : T.under t with
  | none => rw [hd] at h; cases h
  | some d =>
    rw [hd] at h
    simp only [Go.isAgg, Sem.run_bind, run_under tok hd, Result.andThen_ok]
    cases d <;> simp only [aggDesc, Option.some.injEq] at h <;> subst h <;> rfl
theorem zeroG_some {o : Option Value} {z : Value} (h : zeroG o = some z) : o = some z ∧ groundDeep z = true := by
  cases o with
  | none => cases h
  | some x =>
    have h : cond (groundDeep x) (some x) none = some z := h
    cases e : groundDeep x with
    | false => rw [e] at h; cases h
    | true => rw [e] at h; injection h with h; subst h; exact ⟨rfl, e⟩
theorem zero_ok (tok : TabOK T P) {t : TypeId} {z : Value} (h : zero T t = some z) : groundDeep z = true ∧ ∀ w, (zeroValue t).run P w = .ok z w := by
  obtain ⟨i, h1, h2⟩ := onO_some h rfl
  obtain ⟨h3, h4⟩ := zeroG_some h2
  exact ⟨h4, fun w => by simp [zeroValue, run_typeInfo (tok.info t i h1), h3]⟩

theorem allGround_mem : ∀ {l : List Value}, allGround l = true → ∀ v ∈ l, ground v = true
  | [], _, v, hv => by cases hv
  | x :: l, h, v, hv => by
    rw [allGround_cons] at h
    cases e : ground x with
    | false => rw [e] at h; cases h
    | true =>
      rw [e] at h
      rcases List.mem_cons.1 hv with rfl | hv
      · exact e
      · exact allGround_mem h v hv
theorem VR.refl_ground (m : M) {v : Value} (h : Am.ground v = true) : VR m v v := VR.refl_of_ground h (fun _ _ _ => trivial)
theorem LR.refl_ground (m : M) {l : List Value} (h : allGround l = true) : LR m l l := LR.map_refl fun v hv => VR.refl_ground m (allGround_mem h v hv)
theorem VR.refl_deep (m : M) {v : Value} (h : Am.groundDeep v = true) : VR m v v := by
  cases v with
  | agg cs => obtain ⟨l⟩ := cs; exact .agg (LR.refl_ground m h)
  | _ => first | exact VR.refl_ground m h | (simp [Am.groundDeep, Am.ground] at h; done)
theorem groundDeep_cells {v : Value} (h : groundDeep v = true) : allGround (cellsL v) = true := by
  cases v with
  | agg cs => exact h
  | _ => first | (simp only [cellsL, allGround_cons]; simp only [groundDeep] at h; rw [h]; rfl) | (simp [Am.groundDeep, Am.ground] at h; done)

/-! ### Lists -/
theorem lenL_eq : ∀ l : List Value, lenL l = l.length
  | [] => rfl
  | _ :: l => by show Nat.succ (lenL l) = _; rw [lenL_eq l]; rfl
theorem appL_eq : ∀ l r : List Value, appL l r = l ++ r
  | [], _ => rfl
  | x :: l, r => by show x :: appL l r = _; rw [appL_eq l r]; rfl
theorem takeL_zero (l : List Value) : takeL 0 l = some [] := rfl
theorem takeL_eq : ∀ (n : Nat) (l r : List Value), takeL n l = some r → n ≤ l.length ∧ r = l.take n
  | 0, l, r, h => by injection h with h; subst h; simp
  | n + 1, [], r, h => by cases h
  | n + 1, x :: l, r, h => by
    have h' : (match takeL n l with | some r => some (x :: r) | none => none) = some r := h
    cases e : takeL n l with
    | none => rw [e] at h'; cases h'
    | some s =>
      rw [e] at h'; injection h' with h'; subst h'
      obtain ⟨h1, h2⟩ := takeL_eq n l s e
      exact ⟨by simpa using h1, by simp [h2]⟩
theorem dropL_eq : ∀ (n : Nat) (l : List Value), dropL n l = l.drop n
  | 0, _ => rfl
  | n + 1, [] => rfl
  | n + 1, _ :: l => by show dropL n l = _; rw [dropL_eq n l]; rfl
theorem nthL_eq : ∀ (n : Nat) (l : List Value), nthL n l = l[n]?
  | 0, [] => rfl
  | 0, x :: l => rfl
  | n + 1, [] => rfl
  | n + 1, _ :: l => by show nthL n l = _; rw [nthL_eq n l]; simp
theorem cut_eq {c : List Value} {off n : Nat} {r : List Value} (h : cut c off n = some r) : n ≤ (c.drop off).length ∧ r = (c.drop off).take n := by
  unfold cut at h; rw [dropL_eq] at h; exact takeL_eq _ _ _ h
theorem over_eq : ∀ (vs l r : List Value), over vs l = some r → vs.length ≤ l.length ∧ r = vs ++ l.drop vs.length
  | [], l, r, h => by injection h with h; subst h; simp
  | v :: vs, [], r, h => by cases h
  | v :: vs, x :: l, r, h => by
    have h' : (match over vs l with | some r => some (v :: r) | none => none) = some r := h
    cases e : over vs l with
    | none => rw [e] at h'; cases h'
    | some s =>
      rw [e] at h'; injection h' with h'; subst h'
      obtain ⟨h1, h2⟩ := over_eq vs l s e
      exact ⟨by simpa using h1, by simp [h2]⟩
theorem splice_eq : ∀ (off : Nat) (vs l r : List Value), splice off vs l = some r → off + vs.length ≤ l.length ∧ r = l.take off ++ (vs ++ l.drop (off + vs.length))
  | 0, vs, l, r, h => by
    obtain ⟨h1, h2⟩ := over_eq vs l r h
    exact ⟨by omega, by simp [h2]⟩
  | off + 1, vs, [], r, h => by cases h
  | off + 1, vs, x :: l, r, h => by
    have h' : (match splice off vs l with | some r => some (x :: r) | none => none) = some r := h
    cases e : splice off vs l with
    | none => rw [e] at h'; cases h'
    | some s =>
      rw [e] at h'; injection h' with h'; subst h'
      obtain ⟨h1, h2⟩ := splice_eq off vs l s e
      refine ⟨by simp; omega, ?_⟩
      rw [h2]
      have : off + 1 + vs.length = (off + vs.length) + 1 := by omega
      rw [this]
      simp
theorem replicateZ_eq (z : List Value) : ∀ n, replicateZ z n = (List.replicate n z).flatten
  | 0 => rfl
  | n + 1 => by show appL z (replicateZ z n) = _; rw [appL_eq, replicateZ_eq z n, List.replicate_succ, List.flatten_cons]
theorem oneCells_cons (x : Value) (l : List Value) : oneCells (x :: l) = cond x.oneCell' (oneCells l) false := by cases x <;> rfl
theorem oneCells_eq : ∀ {l : List Value}, oneCells l = true → ∀ v ∈ l, v.oneCell' = true
  | [], _, v, hv => by cases hv
  | x :: l, h, v, hv => by
    rw [oneCells_cons] at h
    cases e : x.oneCell' with
    | false => rw [e] at h; cases h
    | true =>
      rw [e] at h
      rcases List.mem_cons.1 hv with rfl | hv
      · exact e
      · exact oneCells_eq h v hv
theorem LR.oneCell {m : M} : ∀ {l l' : List Value}, LR m l l' → (∀ v ∈ l, v.oneCell' = true) → ∀ v ∈ l', v.oneCell' = true
  | _, _, .nil, _, v, hv => by cases hv
  | _, _, .cons h hl, ho, v, hv => by
    rcases List.mem_cons.1 hv with rfl | hv
    · rw [h.oneCell]; exact ho _ (by simp)
    · exact hl.oneCell (fun x hx => ho x (by simp [hx])) v hv
theorem LR.splice {m : M} {off : Nat} {vs vs' l l' : List Value} (h : LR m l l') (hv : LR m vs vs') :
    LR m (l.take off ++ (vs ++ l.drop (off + vs.length))) (l'.take off ++ (vs' ++ l'.drop (off + vs'.length))) := by
  rw [hv.length]
  exact (h.take off).append (hv.append (h.drop _))
end Go.Am
