/- Layer 31: the class of a term, asked in two ways. -/
import Derived.Test.YtjhjnopfdnjcfaaGreatG31l
set_option linter.unusedVariables false
set_option linter.unusedSimpArgs false
set_option linter.unusedSectionVars false
set_option linter.all false
namespace Go.Am.Eu
theorem Goes.nodes {k : Int} {i : Nat} {t u : Term} (h : Goes k i t u) : Eu.nodes u ≤ Eu.nodes t := by
  induction h with
  | stop _ => exact Nat.le_refl _
  | step _ _ hc _ ih => have := nodes_kid (List.mem_of_getElem? hc); omega
end Go.Am.Eu
namespace Go.Proofs.YtjhjnopfdnjcfaaGreat
open Go Go.Am Go.Proofs Go.Am.Sym Go.Am.Eu
set_option maxRecDepth 10000
theorem TT.f8 : TT.func 8 = some Tryz.f8 := by kernel_rfl
theorem TT.f9 : TT.func 9 = some Tryz.f9 := by kernel_rfl
abbrev sn : Value := .slice none 0 0
abbrev stL (cs : List ByteArray) : List Value := [sn, sn, strsV cs, sn, sn, sn, sn]
def stV (cs : List ByteArray) : Value := .agg ⟨stL cs⟩
theorem stV_pure (cs : List ByteArray) : PureV (stV cs) := .agg (.cons (.ground rfl) (.cons (.ground rfl) (.cons (strsV_pure cs) (.cons (.ground rfl) (.cons (.ground rfl) (.cons (.ground rfl) (.cons (.ground rfl) .nil)))))))
@[simp] theorem cells_st (cs : List ByteArray) : cellsL (stV cs) = stL cs := rfl
@[simp] theorem build37 (h : H) (cs : List ByteArray) : buildOf TT h 37 (zero TT 37) (some [(2, strsV cs)]) = .val (stV cs) h := by kernel_rfl
/-- What the class is. -/
def Cls (cs : List ByteArray) (t : Term) (p : ByteArray × Bool) : Prop :=
  ∃ e u, Goes 6 1 t e ∧ Goes 4 0 e u ∧ p = if u.kind = 3 ∧ memS cs u.name = true then (u.name, true) else (⟨#[]⟩, false)
theorem Cls.same {cs : List ByteArray} {t : Term} {p q : ByteArray × Bool} (h : Cls cs t p) (h' : Cls cs t q) : p = q := by
  obtain ⟨e, u, h1, h2, rfl⟩ := h
  obtain ⟨e', u', h1', h2', rfl⟩ := h'
  have := h1.same h1'; subst this
  have := h2.same h2'; subst this
  rfl
abbrev pairV (p : ByteArray × Bool) : Value := .tuple ⟨[.string p.1, .bool p.2]⟩
theorem pairV_pure (p : ByteArray × Bool) : PureV (pairV p) := .tuple (.cons (.ground rfl) (.cons (.ground rfl) .nil))
/-- With the end of the telescope in this slot. -/
def ClA (cs : List ByteArray) (t : Term) (r : Nat) (w : Term → Prop) (tm : Tr Value) (h : H) : Prop :=
  ∃ e K, w e ∧ nodes e ≤ nodes t ∧ h.base = 0 ∧ 2 ≤ h.next ∧ K < h.next ∧ h.get 0 = some (.cells (stL cs) 37 false) ∧ h.get K = some (.cells (cellsL (tv e)) 26 false) ∧ tm.get 2 = some (.pointer (some ⟨0, 0, none⟩)) ∧ tm.get r = some (.pointer (some ⟨K, 0, none⟩))
/-! CLASS8 -/
theorem f8_split : Tryz.f8.body = some (.seq (piece Tryz.f8 [false]) (.seq (piece Tryz.f8 [true,false]) (.seq (piece Tryz.f8 [true,true,false]) (piece Tryz.f8 [true,true,true])))) := rfl
theorem f8_p0 {ev : Task → Ans} {cs : List ByteArray} {t : Term} : EndsAs (fun tm h => ClA cs t 3 (fun e => e = t) tm h) (fun _ _ => False) (fun _ _ _ => False)
    (runCode TT ev ⟨8, none⟩ (piece Tryz.f8 [false]) ⟨initT [stV cs, tv t] 0 .nil, [], H.empty, none⟩) := by
  simp [piece, sel, sub, Tryz.f8]
  exact ⟨t, 1, rfl, Nat.le_refl _, by simp, by simp, by simp, by simp, by simp, by simp, by simp⟩
theorem f8_p1 {ev : Task → Ans} {cs : List ByteArray} {t : Term} {tm : Tr Value} {h : H} (st : ClA cs t 3 (fun e => e = t) tm h)
    (hev : ∀ h, h.base = 0 → ∃ v u h', ev (call0 22 [tv t] h) = .ret (.tuple ⟨[v, tv u]⟩) h' none ∧ Goes 6 1 t u ∧ h'.base = 0 ∧ h.next ≤ h'.next ∧ ∀ b, b < h.next → h'.get b = h.get b) :
    EndsAs (fun tm h => ClA cs t 7 (fun e => Goes 6 1 t e) tm h) (fun _ _ => False) (fun _ _ _ => False) (runCode TT ev ⟨8, none⟩ (piece Tryz.f8 [true,false]) ⟨tm, [], h, none⟩) := by
  obtain ⟨e, K, rfl, hn, hb, hnx, hK, g0, gK, t2, t3⟩ := st
  obtain ⟨v, u, h', he, hg, hb', hle, hkeep⟩ := hev h hb
  have q0 : ¬ 0 = h'.next := by omega
  have k0 : h'.get 0 = some (.cells (stL cs) 37 false) := by rw [hkeep 0 (by omega)]; exact g0
  simp +contextual [piece, sel, sub, Tryz.f8, t2, t3, hb, gK, he, hb']
  exact ⟨u, h'.next, hg, hg.nodes, by simp [hb'], by simp; omega, by simp, by simp [q0, k0], by simp, by simp [t2], by simp⟩
theorem f8_p2 {ev : Task → Ans} {cs : List ByteArray} {t : Term} {tm : Tr Value} {h : H} (st : ClA cs t 7 (fun e => Goes 6 1 t e) tm h)
    (hev : ∀ e h, nodes e ≤ nodes t → h.base = 0 → ∃ v u h', ev (call0 23 [tv e] h) = .ret (.tuple ⟨[tv u, v]⟩) h' none ∧ Goes 4 0 e u ∧ h'.base = 0 ∧ h.next ≤ h'.next ∧ ∀ b, b < h.next → h'.get b = h.get b) :
    EndsAs (fun tm h => ClA cs t 8 (fun u => ∃ e, Goes 6 1 t e ∧ Goes 4 0 e u) tm h) (fun _ _ => False) (fun _ _ _ => False) (runCode TT ev ⟨8, none⟩ (piece Tryz.f8 [true,true,false]) ⟨tm, [], h, none⟩) := by
  obtain ⟨e, K, hg6, hn, hb, hnx, hK, g0, gK, t2, t3⟩ := st
  obtain ⟨v, u, h', he, hg, hb', hle, hkeep⟩ := hev e h hn hb
  have q0 : ¬ 0 = h'.next := by omega
  have k0 : h'.get 0 = some (.cells (stL cs) 37 false) := by rw [hkeep 0 (by omega)]; exact g0
  simp +contextual [piece, sel, sub, Tryz.f8, t2, t3, hb, gK, he, hb']
  exact ⟨u, h'.next, ⟨e, hg6, hg⟩, by have := hg.nodes; omega, by simp [hb'], by simp; omega, by simp, by simp [q0, k0], by simp, by simp [t2], by simp⟩
theorem f8_p3 {ev : Task → Ans} {cs : List ByteArray} {t : Term} {tm : Tr Value} {h : H} (st : ClA cs t 8 (fun u => ∃ e, Goes 6 1 t e ∧ Goes 4 0 e u) tm h)
    (hev : ∀ s h, ev (call0 24 [strsV cs, .string s] h) = .ret (.bool (memS cs s)) h none) :
    EndsAs (fun _ _ => False) (fun tm _ => ∃ p, Cls cs t p ∧ tm.get 4 = some (.string p.1) ∧ tm.get 5 = some (.bool p.2)) (fun _ _ _ => False) (runCode TT ev ⟨8, none⟩ (piece Tryz.f8 [true,true,true]) ⟨tm, [], h, none⟩) := by
  obtain ⟨u, K, ⟨e, hg6, hg4⟩, hn, hb, hnx, hK, g0, gK, t2, t3⟩ := st
  by_cases hk : u.kind = 3
  · cases hm : memS cs u.name with
    | true =>
      have hc : Cls cs t (u.name, true) := ⟨e, u, hg6, hg4, by simp [hk, hm]⟩
      simp +contextual [piece, sel, sub, Tryz.f8, p22, t2, t3, hb, g0, gK, hk, hm, hev, condK_if]
      exact hc
    | false =>
      have hc : Cls cs t (⟨#[]⟩, false) := ⟨e, u, hg6, hg4, by simp [hk, hm]⟩
      simp +contextual [piece, sel, sub, Tryz.f8, p22, t2, t3, hb, g0, gK, hk, hm, hev, condK_if]
      exact hc
  · have hc : Cls cs t (⟨#[]⟩, false) := ⟨e, u, hg6, hg4, by simp [hk]⟩
    simp +contextual [piece, sel, sub, Tryz.f8, p22, t2, t3, hb, g0, gK, hk, hev, condK_if]
    exact hc
theorem class8 : ∃ f : List ByteArray × Term → ByteArray × Bool, FnC TT Tryz.prog 8 (fun x => x.1.length < big ∧ nodes x.2 < 1073741824) (fun x => [stV x.1, tv x.2]) (fun x => pairV (f x)) ∧ ∀ x, (x.1.length < big ∧ nodes x.2 < 1073741824) → Cls x.1 x.2 (f x) := by
  refine fnP pairV (fun (x : List ByteArray × Term) p => Cls x.1 x.2 p) fun ⟨cs, t⟩ ⟨hcs, ht⟩ => ?_
  obtain ⟨C, hC, hH, hn22, hn23, hn40⟩ : ∃ C, ConS TT Tryz.prog C ∧ Has C 24 (fun x : Pair => x.1.length < big) encP (fun x => .bool (memS x.1 x.2)) ∧ (∀ a h, C 22 a h = none) ∧ (∀ a h, C 23 a h = none) ∧ (∀ a h, C 40 a h = none) :=
    ⟨_, addC_sound noC_sound contains_fn, Has.add fun x y e => by rw [encP_inj e], fun _ _ => rfl, fun _ _ => rfl, fun _ _ => rfl⟩
  have hcs : cs.length < big := hcs
  have ht : nodes t < 1073741824 := ht
  have key : EndsAs (fun _ _ => False) (fun tm _ => ∃ p, Cls cs t p ∧ tm.get 4 = some (.string p.1) ∧ tm.get 5 = some (.bool p.2)) (fun _ _ _ => False)
      (runCode TT (evK TT C (nodes t + 2 + 1)) ⟨8, none⟩ (.seq (piece Tryz.f8 [false]) (.seq (piece Tryz.f8 [true,false]) (.seq (piece Tryz.f8 [true,true,false]) (piece Tryz.f8 [true,true,true])))) ⟨initT [stV cs, tv t] 0 .nil, [], H.empty, none⟩) := by
    refine ends_seqC (f8_p0.mono (fun _ _ q => q) (fun _ _ q => q.elim) (fun _ _ _ q => q)) fun tm h st => ends_seqC ((f8_p1 st fun h hb => ?_).mono (fun _ _ q => q) (fun _ _ q => q.elim) (fun _ _ _ q => q)) fun tm h st =>
      ends_seqC ((f8_p2 st fun e h hn hb => ?_).mono (fun _ _ q => q) (fun _ _ q => q.elim) (fun _ _ _ q => q)) fun tm h st => f8_p3 st fun s h => hH.ev _ (x := (cs, s)) hcs h
    · exact all22 hn22 hb ht (by omega)
    · exact spine23 hn23 hn40 hb (by omega) (by omega)
  rcases key.cases with ⟨_, _, _, q⟩ | ⟨tm, h', e, p, hp, t4, t5⟩ | ⟨_, _, _, _, q⟩
  · cases q
  · refine ⟨p, hp, fun h => fnC_of (v := pairV p) (h1 := h') tok C hC (.cons (stV_pure cs) (.cons (tv_pure t) .nil)) (nodes t + 2 + 1) ?_ (.pure (pairV_pure p)) h⟩
    rw [fn_run (vs := [.string p.1, .bool p.2]) (h2 := h') (ab := none) TT.f8 f8_split rfl (by rw [e]; simp [Tryz.f8, t4, t5])]
    rfl
  · cases q
/-! CLASS9 -/
theorem f9_split : Tryz.f9.body = some (.seq (piece Tryz.f9 [false]) (.seq (piece Tryz.f9 [true,false]) (.seq (piece Tryz.f9 [true,true,false]) (piece Tryz.f9 [true,true,true])))) := rfl
theorem f9_p0 {ev : Task → Ans} {cs : List ByteArray} {t : Term} : EndsAs (fun tm h => ClA cs t 3 (fun e => e = t) tm h) (fun _ _ => False) (fun _ _ _ => False)
    (runCode TT ev ⟨9, none⟩ (piece Tryz.f9 [false]) ⟨initT [stV cs, tv t] 0 .nil, [], H.empty, none⟩) := by
  simp [piece, sel, sub, Tryz.f9]
  exact ⟨t, 1, rfl, Nat.le_refl _, by simp, by simp, by simp, by simp, by simp, by simp, by simp⟩
theorem f9_p1 {ev : Task → Ans} {cs : List ByteArray} {t : Term} {tm : Tr Value} {h : H} (st : ClA cs t 3 (fun e => e = t) tm h)
    (hev : ∀ h, h.base = 0 → ∃ v u h', ev (call0 25 [tv t] h) = .ret (.tuple ⟨[v, tv u]⟩) h' none ∧ Goes 6 1 t u ∧ h'.base = 0 ∧ h.next ≤ h'.next ∧ ∀ b, b < h.next → h'.get b = h.get b) :
    EndsAs (fun tm h => ClA cs t 7 (fun e => Goes 6 1 t e) tm h) (fun _ _ => False) (fun _ _ _ => False) (runCode TT ev ⟨9, none⟩ (piece Tryz.f9 [true,false]) ⟨tm, [], h, none⟩) := by
  obtain ⟨e, K, rfl, hn, hb, hnx, hK, g0, gK, t2, t3⟩ := st
  obtain ⟨v, u, h', he, hg, hb', hle, hkeep⟩ := hev h hb
  have q0 : ¬ 0 = h'.next := by omega
  have k0 : h'.get 0 = some (.cells (stL cs) 37 false) := by rw [hkeep 0 (by omega)]; exact g0
  simp +contextual [piece, sel, sub, Tryz.f9, t2, t3, hb, gK, he, hb']
  exact ⟨u, h'.next, hg, hg.nodes, by simp [hb'], by simp; omega, by simp, by simp [q0, k0], by simp, by simp [t2], by simp⟩
theorem f9_p2 {ev : Task → Ans} {cs : List ByteArray} {t : Term} {tm : Tr Value} {h : H} (st : ClA cs t 7 (fun e => Goes 6 1 t e) tm h)
    (hev : ∀ e h, nodes e ≤ nodes t → h.base = 0 → ∃ v u h', ev (call0 26 [tv e] h) = .ret (.tuple ⟨[tv u, v]⟩) h' none ∧ Goes 4 0 e u ∧ h'.base = 0 ∧ h.next ≤ h'.next ∧ ∀ b, b < h.next → h'.get b = h.get b) :
    EndsAs (fun tm h => ClA cs t 8 (fun u => ∃ e, Goes 6 1 t e ∧ Goes 4 0 e u) tm h) (fun _ _ => False) (fun _ _ _ => False) (runCode TT ev ⟨9, none⟩ (piece Tryz.f9 [true,true,false]) ⟨tm, [], h, none⟩) := by
  obtain ⟨e, K, hg6, hn, hb, hnx, hK, g0, gK, t2, t3⟩ := st
  obtain ⟨v, u, h', he, hg, hb', hle, hkeep⟩ := hev e h hn hb
  have q0 : ¬ 0 = h'.next := by omega
  have k0 : h'.get 0 = some (.cells (stL cs) 37 false) := by rw [hkeep 0 (by omega)]; exact g0
  simp +contextual [piece, sel, sub, Tryz.f9, t2, t3, hb, gK, he, hb']
  exact ⟨u, h'.next, ⟨e, hg6, hg⟩, by have := hg.nodes; omega, by simp [hb'], by simp; omega, by simp, by simp [q0, k0], by simp, by simp [t2], by simp⟩
theorem f9_p3 {ev : Task → Ans} {cs : List ByteArray} {t : Term} {tm : Tr Value} {h : H} (st : ClA cs t 8 (fun u => ∃ e, Goes 6 1 t e ∧ Goes 4 0 e u) tm h)
    (hev : ∀ s h, ev (call0 27 [strsV cs, .string s] h) = .ret (.bool (memS cs s)) h none) :
    EndsAs (fun _ _ => False) (fun tm _ => ∃ p, Cls cs t p ∧ tm.get 4 = some (.string p.1) ∧ tm.get 5 = some (.bool p.2)) (fun _ _ _ => False) (runCode TT ev ⟨9, none⟩ (piece Tryz.f9 [true,true,true]) ⟨tm, [], h, none⟩) := by
  obtain ⟨u, K, ⟨e, hg6, hg4⟩, hn, hb, hnx, hK, g0, gK, t2, t3⟩ := st
  by_cases hk : u.kind = 3
  · cases hm : memS cs u.name with
    | true =>
      have hc : Cls cs t (u.name, true) := ⟨e, u, hg6, hg4, by simp [hk, hm]⟩
      simp +contextual [piece, sel, sub, Tryz.f9, p22, t2, t3, hb, g0, gK, hk, hm, hev, condK_if]
      exact hc
    | false =>
      have hc : Cls cs t (⟨#[]⟩, false) := ⟨e, u, hg6, hg4, by simp [hk, hm]⟩
      simp +contextual [piece, sel, sub, Tryz.f9, p22, t2, t3, hb, g0, gK, hk, hm, hev, condK_if]
      exact hc
  · have hc : Cls cs t (⟨#[]⟩, false) := ⟨e, u, hg6, hg4, by simp [hk]⟩
    simp +contextual [piece, sel, sub, Tryz.f9, p22, t2, t3, hb, g0, gK, hk, hev, condK_if]
    exact hc
theorem class9 : ∃ f : List ByteArray × Term → ByteArray × Bool, FnC TT Tryz.prog 9 (fun x => x.1.length < big ∧ nodes x.2 < 1073741824) (fun x => [stV x.1, tv x.2]) (fun x => pairV (f x)) ∧ ∀ x, (x.1.length < big ∧ nodes x.2 < 1073741824) → Cls x.1 x.2 (f x) := by
  refine fnP pairV (fun (x : List ByteArray × Term) p => Cls x.1 x.2 p) fun ⟨cs, t⟩ ⟨hcs, ht⟩ => ?_
  obtain ⟨C, hC, hH, hn25, hn26, hn40⟩ : ∃ C, ConS TT Tryz.prog C ∧ Has C 27 (fun x : Pair => x.1.length < big) encP (fun x => .bool (memS x.1 x.2)) ∧ (∀ a h, C 25 a h = none) ∧ (∀ a h, C 26 a h = none) ∧ (∀ a h, C 40 a h = none) :=
    ⟨_, addC_sound noC_sound has_fn, Has.add fun x y e => by rw [encP_inj e], fun _ _ => rfl, fun _ _ => rfl, fun _ _ => rfl⟩
  have hcs : cs.length < big := hcs
  have ht : nodes t < 1073741824 := ht
  have key : EndsAs (fun _ _ => False) (fun tm _ => ∃ p, Cls cs t p ∧ tm.get 4 = some (.string p.1) ∧ tm.get 5 = some (.bool p.2)) (fun _ _ _ => False)
      (runCode TT (evK TT C (nodes t + 2 + 1)) ⟨9, none⟩ (.seq (piece Tryz.f9 [false]) (.seq (piece Tryz.f9 [true,false]) (.seq (piece Tryz.f9 [true,true,false]) (piece Tryz.f9 [true,true,true])))) ⟨initT [stV cs, tv t] 0 .nil, [], H.empty, none⟩) := by
    refine ends_seqC (f9_p0.mono (fun _ _ q => q) (fun _ _ q => q.elim) (fun _ _ _ q => q)) fun tm h st => ends_seqC ((f9_p1 st fun h hb => ?_).mono (fun _ _ q => q) (fun _ _ q => q.elim) (fun _ _ _ q => q)) fun tm h st =>
      ends_seqC ((f9_p2 st fun e h hn hb => ?_).mono (fun _ _ q => q) (fun _ _ q => q.elim) (fun _ _ _ q => q)) fun tm h st => f9_p3 st fun s h => hH.ev _ (x := (cs, s)) hcs h
    · exact all25 hn25 hb ht (by omega)
    · obtain ⟨v, u, h', n, q1, q2, _, _, q3, q4, q5⟩ := spine26 hn26 (nodes e) (t := e) (h0 := h) (m := nodes t + 2) (Nat.le_refl _) hb (by omega) (by omega)
      exact ⟨v, u, h', q1, q2, q3, q4, q5⟩
  rcases key.cases with ⟨_, _, _, q⟩ | ⟨tm, h', e, p, hp, t4, t5⟩ | ⟨_, _, _, _, q⟩
  · cases q
  · refine ⟨p, hp, fun h => fnC_of (v := pairV p) (h1 := h') tok C hC (.cons (stV_pure cs) (.cons (tv_pure t) .nil)) (nodes t + 2 + 1) ?_ (.pure (pairV_pure p)) h⟩
    rw [fn_run (vs := [.string p.1, .bool p.2]) (h2 := h') (ab := none) TT.f9 f9_split rfl (by rw [e]; simp [Tryz.f9, t4, t5])]
    rfl
  · cases q
end Go.Proofs.YtjhjnopfdnjcfaaGreat
/- Layer 31: the law, on data. -/
namespace Go.Proofs.YtjhjnopfdnjcfaaGreat
open Go Go.Am Go.Proofs Go.Am.Sym Go.Am.Eu
set_option maxRecDepth 10000
theorem TT.f3 : TT.func 3 = some Tryz.f3 := by kernel_rfl
abbrev LawArg := List ByteArray × Term
abbrev encL (x : LawArg) : List Value := [strsV x.1, tv x.2]
def LawPre (x : LawArg) : Prop := x.1.length < big ∧ wt x.2 < 1073741824
theorem law_run (aw : FnC TT Tryz.prog 7 (fun _ : Unit => True) (fun _ => []) (fun _ => .bool true)) (cs : List ByteArray) (t : Term) (hx : LawPre (cs, t)) :
    ∃ C n h, ConS TT Tryz.prog C ∧ callFn TT (evK TT C n) 3 [strsV cs, tv t] H.empty none (TT.func 3) = .ret (.bool true) h none := by
  obtain ⟨hcs, ht⟩ : cs.length < big ∧ wt t < 1073741824 := hx
  have hnt : nodes t < 1073741824 := by have := nodes_le t; omega
  have hbig : wt t < big := by unfold big; omega
  obtain ⟨f4, h4⟩ := names_fn
  obtain ⟨f6, h6⟩ := whole_fn
  obtain ⟨f8, h8, q8⟩ := class8
  obtain ⟨f9, h9, q9⟩ := class9
  have same : f8 (cs, t) = f9 (cs, t) := (q8 (cs, t) ⟨hcs, hnt⟩).same (q9 (cs, t) ⟨hcs, hnt⟩)
  obtain ⟨C, hC, H4, H5, H6, H7, H8, H9⟩ : ∃ C, ConS TT Tryz.prog C ∧ Has C 4 (fun l : List ByteArray => l.length < big) (fun l => [strsV l]) (fun y => .bool (f4 y)) ∧ Has C 5 (fun t : Term => nodes t ≤ big) (fun y => [tv y]) (fun y => i64 (nodes y)) ∧
      Has C 6 (fun t : Term => wt t < big) (fun t => [tv t, i64 65536, i64 8, i64 65536, i64 65536]) (fun t => i64 (f6 t)) ∧ Has C 7 (fun _ : Unit => True) (fun _ => []) (fun _ => .bool true) ∧
      Has C 8 (fun x : LawArg => x.1.length < big ∧ nodes x.2 < 1073741824) (fun x => [stV x.1, tv x.2]) (fun x => pairV (f8 x)) ∧ Has C 9 (fun x : LawArg => x.1.length < big ∧ nodes x.2 < 1073741824) (fun x => [stV x.1, tv x.2]) (fun x => pairV (f9 x)) := by
    have stinj : ∀ {x y : LawArg}, [stV x.1, tv x.2] = [stV y.1, tv y.2] → x = y := fun {x y} e => by
      obtain ⟨x1, x2⟩ := x; obtain ⟨y1, y2⟩ := y
      simp [stV] at e
      rw [strsV_inj e.1, tv_inj e.2]
    exact ⟨_, addC_sound (addC_sound (addC_sound (addC_sound (addC_sound (addC_sound noC_sound h4) nodes_fn) h6) aw) h8) h9,
      .skip (by decide) (.skip (by decide) (.skip (by decide) (.skip (by decide) (.skip (by decide) (.add fun x y e => by simp at e; rw [strsV_inj e]))))),
      .skip (by decide) (.skip (by decide) (.skip (by decide) (.skip (by decide) (.add fun x y e => by simp at e; rw [tv_inj e])))),
      .skip (by decide) (.skip (by decide) (.skip (by decide) (.add fun x y e => by simp at e; rw [tv_inj e]))),
      .skip (by decide) (.skip (by decide) (.add fun x y e => rfl)),
      .skip (by decide) (.add fun x y e => by rw [stinj e]), .add fun x y e => by rw [stinj e]⟩
  have e4 := fun n m => H4.ev (T := TT) n (x := cs) hcs m
  have e5 := fun n m => H5.ev (T := TT) n (x := t) (by unfold big; omega) m
  have e6 := fun n m => H6.ev (T := TT) n (x := t) hbig m
  have e7 := fun n m => H7.ev (T := TT) n (x := ()) trivial m
  have e8 := fun n m => H8.ev (T := TT) n (x := (cs, t)) ⟨hcs, hnt⟩ m
  have e9 := fun n m => H9.ev (T := TT) n (x := (cs, t)) ⟨hcs, hnt⟩ m
  simp only [same] at e8
  generalize f9 (cs, t) = p at e8 e9
  obtain ⟨s, ok⟩ := p
  have key : EndsAs (fun tm _ => ∃ v, tm.get 4 = some (.bool v) ∧ v = true) (fun tm _ => ∃ v, tm.get 4 = some (.bool v) ∧ v = true) (fun _ _ _ => False) (runCode TT (evK TT C 3) ⟨3, none⟩ (Tryz.f3.body.getD .skip) ⟨initT [strsV cs, tv t] 0 .nil, [], H.empty, none⟩) := by
    simp +contextual [Tryz.f3, condK_if, e4, e5, e6, e7, e8, e9]
    repeat' (first | split | simp +contextual [condK_if, e4, e5, e6, e7, e8, e9, *])
  have fin : ∀ tm h, tm.get 4 = some (.bool true) → Am.results TT tm Tryz.f3.results.toList h = .ok [.bool true] h := fun tm h q => by simp [Tryz.f3, q]
  rcases key.cases with ⟨tm, h', e, v, q, rfl⟩ | ⟨tm, h', e, v, q, rfl⟩ | ⟨_, _, _, _, q⟩
  · exact ⟨C, 3, h', hC, by rw [fn_run (c := Tryz.f3.body.getD .skip) (vs := [.bool true]) (h2 := h') (ab := none) TT.f3 rfl rfl (by rw [e]; exact ⟨rfl, fin _ _ q⟩)]; rfl⟩
  · exact ⟨C, 3, h', hC, by rw [fn_run (c := Tryz.f3.body.getD .skip) (vs := [.bool true]) (h2 := h') (ab := none) TT.f3 rfl rfl (by rw [e]; exact ⟨rfl, fin _ _ q⟩)]; rfl⟩
  · cases q
end Go.Proofs.YtjhjnopfdnjcfaaGreat
