/- Proof states, as data. -/
import Derived.Test.YtkdfgoimgcegfaaGreatDoorD31
set_option linter.unusedSectionVars false
set_option linter.unusedSimpArgs false
set_option linter.unusedVariables false
namespace Go.Am.Eu
open Go Go.Am
structure Meta where
  type : Term
  known : Bool
  value : Term
  cls : Bool
structure Eqn where
  ctx : List Term
  left : Term
  right : Term
  sub : Bool
structure Bound where
  low : Lvl
  high : Lvl
structure Store where
  metas : List Meta
  eqns : List Eqn
  bounds : List Bound
  levels : Int
structure Goal where
  mid : Int
  names : List ByteArray
  ctx : List Term
  target : Term
structure Proof where
  levels : List ByteArray
  store : Store
  goals : List Goal
  type : Term
  root : Term
/-- The cells of a term. -/
abbrev tc (t : Term) : List Value := [i64 t.kind, i64 t.index, .string t.name, lvlsV t.levels, termsV t.kids]
abbrev lc (x : Lvl) : List Value := [i64 x.const, lvarsV x.vars]
theorem cells_tc (t : Term) : cellsL (tv t) = tc t := by rw [tv_eq]; rfl
def metaV (x : Meta) : Value := .agg ⟨tc x.type ++ (.bool x.known :: (tc x.value ++ [.bool x.cls]))⟩
def metasV (l : List Meta) : Value := dsl (l.map metaV) 0 l.length []
def eqnV (x : Eqn) : Value := .agg ⟨termsV x.ctx :: (tc x.left ++ (tc x.right ++ [.bool x.sub]))⟩
def eqnsV (l : List Eqn) : Value := dsl (l.map eqnV) 0 l.length []
def boundV (x : Bound) : Value := .agg ⟨lc x.low ++ lc x.high⟩
def boundsV (l : List Bound) : Value := dsl (l.map boundV) 0 l.length []
abbrev sc (x : Store) : List Value := [metasV x.metas, eqnsV x.eqns, boundsV x.bounds, i64 x.levels]
def storeV (x : Store) : Value := .agg ⟨sc x⟩
abbrev gc (x : Goal) : List Value := i64 x.mid :: strsV x.names :: termsV x.ctx :: tc x.target
def goalV (x : Goal) : Value := .agg ⟨gc x⟩
def goalsV (l : List Goal) : Value := dsl (l.map goalV) 0 l.length []
abbrev pc (x : Proof) : List Value := strsV x.levels :: (sc x.store ++ (goalsV x.goals :: (tc x.type ++ tc x.root)))
def proofV (x : Proof) : Value := .agg ⟨pc x⟩
theorem termsV_inj {x y : List Term} (h : termsV x = termsV y) : x = y := by
  simp [termsV] at h; exact map_inj (fun _ _ => tv_inj) h.2
theorem tc_inj {x y : Term} (h : tc x = tc y) : x = y := tv_inj (by rw [tv_eq, tv_eq]; exact congrArg (fun l => Value.agg ⟨l⟩) h)
theorem Term.ext' {x y : Term} (h1 : x.kind = y.kind) (h2 : x.index = y.index) (h3 : x.name = y.name) (h4 : lvlsV x.levels = lvlsV y.levels) (h5 : termsV x.kids = termsV y.kids) : x = y := by
  have e4 := lvlsV_inj h4
  have e5 := termsV_inj h5
  cases x; cases y
  simp [Term.kind, Term.index, Term.name, Term.levels, Term.kids] at h1 h2 h3 e4 e5
  rw [h1, h2, h3, e4, e5]
theorem metaV_inj {x y : Meta} (h : metaV x = metaV y) : x = y := by
  cases x; cases y
  simp [metaV] at h
  obtain ⟨a1, a2, a3, a4, a5, b, c1, c2, c3, c4, c5, d⟩ := h
  rw [Term.ext' a1 a2 a3 a4 a5, Term.ext' c1 c2 c3 c4 c5, b, d]
theorem eqnV_inj {x y : Eqn} (h : eqnV x = eqnV y) : x = y := by
  cases x; cases y
  simp [eqnV] at h
  obtain ⟨a0, a1, a2, a3, a4, a5, c1, c2, c3, c4, c5, d⟩ := h
  rw [termsV_inj a0, Term.ext' a1 a2 a3 a4 a5, Term.ext' c1 c2 c3 c4 c5, d]
theorem boundV_inj {x y : Bound} (h : boundV x = boundV y) : x = y := by
  obtain ⟨⟨a, b⟩, ⟨c, d⟩⟩ := x; obtain ⟨⟨a', b'⟩, ⟨c', d'⟩⟩ := y
  simp [boundV] at h
  obtain ⟨a1, a2, a3, a4⟩ := h
  rw [a1, lvarsV_inj a2, a3, lvarsV_inj a4]
theorem metasV_inj {x y : List Meta} (h : metasV x = metasV y) : x = y := by
  simp [metasV] at h; exact map_inj (fun _ _ => metaV_inj) h.2
theorem eqnsV_inj {x y : List Eqn} (h : eqnsV x = eqnsV y) : x = y := by
  simp [eqnsV] at h; exact map_inj (fun _ _ => eqnV_inj) h.2
theorem boundsV_inj {x y : List Bound} (h : boundsV x = boundsV y) : x = y := by
  simp [boundsV] at h; exact map_inj (fun _ _ => boundV_inj) h.2
theorem storeV_inj {x y : Store} (h : storeV x = storeV y) : x = y := by
  cases x; cases y
  simp [storeV] at h
  obtain ⟨a1, a2, a3, a4⟩ := h
  rw [metasV_inj a1, eqnsV_inj a2, boundsV_inj a3, a4]
theorem goalV_inj {x y : Goal} (h : goalV x = goalV y) : x = y := by
  cases x; cases y
  simp [goalV] at h
  obtain ⟨a0, b, c, a1, a2, a3, a4, a5⟩ := h
  rw [a0, strsV_inj b, termsV_inj c, Term.ext' a1 a2 a3 a4 a5]
theorem goalsV_inj {x y : List Goal} (h : goalsV x = goalsV y) : x = y := by
  simp [goalsV] at h; exact map_inj (fun _ _ => goalV_inj) h.2
theorem proofV_inj {x y : Proof} (h : proofV x = proofV y) : x = y := by
  obtain ⟨l, ⟨s1, s2, s3, s4⟩, g, t, r⟩ := x; obtain ⟨l', ⟨s1', s2', s3', s4'⟩, g', t', r'⟩ := y
  simp [proofV] at h
  obtain ⟨h0, h1, h2, h3, h4, h5, a1, a2, a3, a4, a5, c1, c2, c3, c4, c5⟩ := h
  rw [strsV_inj h0, metasV_inj h1, eqnsV_inj h2, boundsV_inj h3, h4, goalsV_inj h5, Term.ext' a1 a2 a3 a4 a5, Term.ext' c1 c2 c3 c4 c5]
/-! Pure. -/
theorem termsV_pure (l : List Term) : PureV (termsV l) := .data _ _ _ _ (map_pure tv_pure l)
theorem tc_pure (t : Term) : PureL (tc t) := .cons (.ground rfl) (.cons (.ground rfl) (.cons (.ground rfl) (.cons (lvlsV_pure _) (.cons (termsV_pure _) .nil))))
theorem lc_pure (x : Lvl) : PureL (lc x) := .cons (.ground rfl) (.cons (lvarsV_pure _) .nil)
theorem metaV_pure (x : Meta) : PureV (metaV x) := .agg ((tc_pure _).append (.cons (.ground rfl) ((tc_pure _).append (.cons (.ground rfl) .nil))))
theorem metasV_pure (l : List Meta) : PureV (metasV l) := .data _ _ _ _ (map_pure metaV_pure l)
theorem eqnV_pure (x : Eqn) : PureV (eqnV x) := .agg (.cons (termsV_pure _) ((tc_pure _).append ((tc_pure _).append (.cons (.ground rfl) .nil))))
theorem eqnsV_pure (l : List Eqn) : PureV (eqnsV l) := .data _ _ _ _ (map_pure eqnV_pure l)
theorem boundV_pure (x : Bound) : PureV (boundV x) := .agg ((lc_pure _).append (lc_pure _))
theorem boundsV_pure (l : List Bound) : PureV (boundsV l) := .data _ _ _ _ (map_pure boundV_pure l)
theorem sc_pure (x : Store) : PureL (sc x) := .cons (metasV_pure _) (.cons (eqnsV_pure _) (.cons (boundsV_pure _) (.cons (.ground rfl) .nil)))
theorem storeV_pure (x : Store) : PureV (storeV x) := .agg (sc_pure x)
theorem goalV_pure (x : Goal) : PureV (goalV x) := .agg (.cons (.ground rfl) (.cons (strsV_pure _) (.cons (termsV_pure _) (tc_pure _))))
theorem goalsV_pure (l : List Goal) : PureV (goalsV l) := .data _ _ _ _ (map_pure goalV_pure l)
theorem pc_pure (x : Proof) : PureL (pc x) := .cons (strsV_pure _) ((sc_pure _).append (.cons (goalsV_pure _) ((tc_pure _).append (tc_pure _))))
theorem proofV_pure (x : Proof) : PureV (proofV x) := .agg (pc_pure x)
end Go.Am.Eu
