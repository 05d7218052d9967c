/- Terms, as data. -/
import Derived.Test.YtkdfgoimgcegfaaGreatDoorAmTask
set_option linter.unusedSectionVars false
set_option linter.unusedSimpArgs false
set_option linter.unusedVariables false
namespace Go.Am.Eu
open Go Go.Am
structure LVar where
  index : Int
  plus : Int
structure Lvl where
  const : Int
  vars : List LVar
inductive Term where
  | mk (kind index : Int) (name : ByteArray) (levels : List Lvl) (kids : List Term)
namespace Term
def kind : Term → Int | .mk k _ _ _ _ => k
def index : Term → Int | .mk _ i _ _ _ => i
def name : Term → ByteArray | .mk _ _ n _ _ => n
def levels : Term → List Lvl | .mk _ _ _ l _ => l
def kids : Term → List Term | .mk _ _ _ _ k => k
end Term
abbrev i64 (n : Int) : Value := .int .i64 n
def lvarV (x : LVar) : Value := .agg ⟨[i64 x.index, i64 x.plus]⟩
def lvarsV (l : List LVar) : Value := dsl (l.map lvarV) 0 l.length []
def lvlV (x : Lvl) : Value := .agg ⟨[i64 x.const, lvarsV x.vars]⟩
def lvlsV (l : List Lvl) : Value := dsl (l.map lvlV) 0 l.length []
def strsV (l : List ByteArray) : Value := dsl (l.map Value.string) 0 l.length []
mutual
def tv : Term → Value
  | .mk k i n l ks => .agg ⟨[i64 k, i64 i, .string n, lvlsV l, dsl (tvs ks) 0 ks.length []]⟩
def tvs : List Term → List Value
  | [] => []
  | t :: l => tv t :: tvs l
end
theorem tvs_eq : ∀ l : List Term, tvs l = l.map tv
  | [] => rfl
  | t :: l => by simp [tvs, tvs_eq l]
def termsV (l : List Term) : Value := dsl (l.map tv) 0 l.length []
theorem tv_mk (k i : Int) (n : ByteArray) (l : List Lvl) (ks : List Term) : tv (.mk k i n l ks) = .agg ⟨[i64 k, i64 i, .string n, lvlsV l, termsV ks]⟩ := by
  simp [tv, tvs_eq, termsV]
theorem tv_eq (t : Term) : tv t = .agg ⟨[i64 t.kind, i64 t.index, .string t.name, lvlsV t.levels, termsV t.kids]⟩ := by
  cases t; exact tv_mk _ _ _ _ _
mutual
def nodes : Term → Nat
  | .mk _ _ _ _ ks => 1 + nodesL ks
def nodesL : List Term → Nat
  | [] => 0
  | t :: l => nodes t + nodesL l
end
theorem nodes_mk (k i : Int) (n : ByteArray) (l : List Lvl) (ks : List Term) : nodes (.mk k i n l ks) = 1 + nodesL ks := by simp [nodes]
theorem nodesL_cons (t : Term) (l : List Term) : nodesL (t :: l) = nodes t + nodesL l := by simp [nodesL]
theorem nodesL_append : ∀ (a b : List Term), nodesL (a ++ b) = nodesL a + nodesL b
  | [], b => by simp [nodesL]
  | t :: a, b => by simp [nodesL, nodesL_append a b]; omega
theorem nodes_mem : ∀ {l : List Term} {t : Term}, t ∈ l → nodes t ≤ nodesL l
  | x :: l, t, h => by
    rw [nodesL_cons]
    rcases List.mem_cons.1 h with rfl | h
    · omega
    · have := nodes_mem h; omega
theorem nodes_kid {t x : Term} (h : x ∈ t.kids) : nodes x < nodes t := by
  cases t with
  | mk k i n l ks => rw [nodes_mk]; have := nodes_mem (l := ks) h; omega
theorem length_le : ∀ l : List Term, l.length ≤ nodesL l
  | [] => by simp
  | t :: l => by
    have := length_le l
    have h1 : 1 ≤ nodes t := by cases t; rw [nodes_mk]; omega
    rw [nodesL_cons, List.length_cons]; omega
theorem kids_length (t : Term) : t.kids.length < nodes t := by
  cases t with
  | mk k i n l ks => rw [nodes_mk]; have := length_le ks; show ks.length < _; omega
/-! What is written determines what is meant. -/
theorem lvarV_inj {x y : LVar} (h : lvarV x = lvarV y) : x = y := by
  cases x; cases y; simp [lvarV] at h; simp [h]
theorem map_inj {α β : Type} {f : α → β} (hf : ∀ x y, f x = f y → x = y) : ∀ {a b : List α}, a.map f = b.map f → a = b
  | [], [], _ => rfl
  | [], _ :: _, h => by simp at h
  | _ :: _, [], h => by simp at h
  | x :: a, y :: b, h => by
    simp at h
    rw [hf x y h.1, map_inj hf (a := a) (b := b) h.2]
theorem lvarsV_inj {x y : List LVar} (h : lvarsV x = lvarsV y) : x = y := by
  simp [lvarsV] at h; exact map_inj (fun _ _ => lvarV_inj) h.2
theorem lvlV_inj {x y : Lvl} (h : lvlV x = lvlV y) : x = y := by
  cases x; cases y; simp [lvlV] at h; simp [h.1, lvarsV_inj h.2]
theorem lvlsV_inj {x y : List Lvl} (h : lvlsV x = lvlsV y) : x = y := by
  simp [lvlsV] at h; exact map_inj (fun _ _ => lvlV_inj) h.2
theorem strsV_inj {x y : List ByteArray} (h : strsV x = strsV y) : x = y := by
  simp [strsV] at h; exact map_inj (fun _ _ h => by injection h) h.2
mutual
theorem tv_inj : ∀ {x y : Term}, tv x = tv y → x = y
  | .mk k i n l ks, .mk k' i' n' l' ks', h => by
    simp [tv] at h
    obtain ⟨h1, h2, h3, h4, _, h5⟩ := h
    rw [h1, h2, h3, lvlsV_inj h4, tvs_inj h5]
theorem tvs_inj : ∀ {x y : List Term}, tvs x = tvs y → x = y
  | [], [], _ => rfl
  | [], _ :: _, h => by simp [tvs] at h
  | _ :: _, [], h => by simp [tvs] at h
  | x :: a, y :: b, h => by
    simp [tvs] at h
    rw [tv_inj h.1, tvs_inj h.2]
end
/-! Pure. -/
theorem lvarV_pure (x : LVar) : PureV (lvarV x) := .agg (.cons (.ground rfl) (.cons (.ground rfl) .nil))
theorem map_pure {α : Type} {f : α → Value} (hf : ∀ x, PureV (f x)) (l : List α) : PureL (l.map f) := .of fun v hv => by
  obtain ⟨x, _, rfl⟩ := List.mem_map.1 hv; exact hf x
theorem lvarsV_pure (l : List LVar) : PureV (lvarsV l) := .data _ _ _ _ (map_pure lvarV_pure l)
theorem lvlV_pure (x : Lvl) : PureV (lvlV x) := .agg (.cons (.ground rfl) (.cons (lvarsV_pure _) .nil))
theorem lvlsV_pure (l : List Lvl) : PureV (lvlsV l) := .data _ _ _ _ (map_pure lvlV_pure l)
theorem strsV_pure (l : List ByteArray) : PureV (strsV l) := .data _ _ _ _ (map_pure (fun _ => .ground rfl) l)
mutual
theorem tv_pure : ∀ t : Term, PureV (tv t)
  | .mk k i n l ks => by
    rw [tv]
    exact .agg (.cons (.ground rfl) (.cons (.ground rfl) (.cons (.ground rfl) (.cons (lvlsV_pure _) (.cons (.data _ _ _ _ (tvs_pure ks)) .nil)))))
theorem tvs_pure : ∀ l : List Term, PureL (tvs l)
  | [] => by rw [tvs]; exact .nil
  | t :: l => by rw [tvs]; exact .cons (tv_pure t) (tvs_pure l)
end
end Go.Am.Eu
/- Proof states, as data. -/
namespace Go.Am.Eu
open Go Go.Am
structure Meta where
  type : Term
  known : Bool
  value : Term
  cls : Bool
structure Eqn where
  ctx : List Term
  left : Term
  right : Term
  sub : Bool
structure Bound where
  low : Lvl
  high : Lvl
structure Store where
  metas : List Meta
  eqns : List Eqn
  bounds : List Bound
  levels : Int
structure Goal where
  mid : Int
  names : List ByteArray
  ctx : List Term
  target : Term
structure Proof where
  levels : List ByteArray
  store : Store
  goals : List Goal
  type : Term
  root : Term
/-- The cells of a term. -/
abbrev tc (t : Term) : List Value := [i64 t.kind, i64 t.index, .string t.name, lvlsV t.levels, termsV t.kids]
abbrev lc (x : Lvl) : List Value := [i64 x.const, lvarsV x.vars]
theorem cells_tc (t : Term) : cellsL (tv t) = tc t := by rw [tv_eq]; rfl
def metaV (x : Meta) : Value := .agg ⟨tc x.type ++ (.bool x.known :: (tc x.value ++ [.bool x.cls]))⟩
def metasV (l : List Meta) : Value := dsl (l.map metaV) 0 l.length []
def eqnV (x : Eqn) : Value := .agg ⟨termsV x.ctx :: (tc x.left ++ (tc x.right ++ [.bool x.sub]))⟩
def eqnsV (l : List Eqn) : Value := dsl (l.map eqnV) 0 l.length []
def boundV (x : Bound) : Value := .agg ⟨lc x.low ++ lc x.high⟩
def boundsV (l : List Bound) : Value := dsl (l.map boundV) 0 l.length []
abbrev sc (x : Store) : List Value := [metasV x.metas, eqnsV x.eqns, boundsV x.bounds, i64 x.levels]
def storeV (x : Store) : Value := .agg ⟨sc x⟩
abbrev gc (x : Goal) : List Value := i64 x.mid :: strsV x.names :: termsV x.ctx :: tc x.target
def goalV (x : Goal) : Value := .agg ⟨gc x⟩
def goalsV (l : List Goal) : Value := dsl (l.map goalV) 0 l.length []
abbrev pc (x : Proof) : List Value := strsV x.levels :: (sc x.store ++ (goalsV x.goals :: (tc x.type ++ tc x.root)))
def proofV (x : Proof) : Value := .agg ⟨pc x⟩
theorem termsV_inj {x y : List Term} (h : termsV x = termsV y) : x = y := by
  simp [termsV] at h; exact map_inj (fun _ _ => tv_inj) h.2
theorem tc_inj {x y : Term} (h : tc x = tc y) : x = y := tv_inj (by rw [tv_eq, tv_eq]; exact congrArg (fun l => Value.agg ⟨l⟩) h)
theorem Term.ext' {x y : Term} (h1 : x.kind = y.kind) (h2 : x.index = y.index) (h3 : x.name = y.name) (h4 : lvlsV x.levels = lvlsV y.levels) (h5 : termsV x.kids = termsV y.kids) : x = y := by
  have e4 := lvlsV_inj h4
  have e5 := termsV_inj h5
  cases x; cases y
  simp [Term.kind, Term.index, Term.name, Term.levels, Term.kids] at h1 h2 h3 e4 e5
  rw [h1, h2, h3, e4, e5]
theorem metaV_inj {x y : Meta} (h : metaV x = metaV y) : x = y := by
  cases x; cases y
  simp [metaV] at h
  obtain ⟨a1, a2, a3, a4, a5, b, c1, c2, c3, c4, c5, d⟩ := h
  rw [Term.ext' a1 a2 a3 a4 a5, Term.ext' c1 c2 c3 c4 c5, b, d]
theorem eqnV_inj {x y : Eqn} (h : eqnV x = eqnV y) : x = y := by
  cases x; cases y
  simp [eqnV] at h
  obtain ⟨a0, a1, a2, a3, a4, a5, c1, c2, c3, c4, c5, d⟩ := h
  rw [termsV_inj a0, Term.ext' a1 a2 a3 a4 a5, Term.ext' c1 c2 c3 c4 c5, d]
theorem boundV_inj {x y : Bound} (h : boundV x = boundV y) : x = y := by
  obtain ⟨⟨a, b⟩, ⟨c, d⟩⟩ := x; obtain ⟨⟨a', b'⟩, ⟨c', d'⟩⟩ := y
  simp [boundV] at h
  obtain ⟨a1, a2, a3, a4⟩ := h
  rw [a1, lvarsV_inj a2, a3, lvarsV_inj a4]
theorem metasV_inj {x y : List Meta} (h : metasV x = metasV y) : x = y := by
  simp [metasV] at h; exact map_inj (fun _ _ => metaV_inj) h.2
theorem eqnsV_inj {x y : List Eqn} (h : eqnsV x = eqnsV y) : x = y := by
  simp [eqnsV] at h; exact map_inj (fun _ _ => eqnV_inj) h.2
theorem boundsV_inj {x y : List Bound} (h : boundsV x = boundsV y) : x = y := by
  simp [boundsV] at h; exact map_inj (fun _ _ => boundV_inj) h.2
theorem storeV_inj {x y : Store} (h : storeV x = storeV y) : x = y := by
  cases x; cases y
  simp [storeV] at h
  obtain ⟨a1, a2, a3, a4⟩ := h
  rw [metasV_inj a1, eqnsV_inj a2, boundsV_inj a3, a4]
theorem goalV_inj {x y : Goal} (h : goalV x = goalV y) : x = y := by
  cases x; cases y
  simp [goalV] at h
  obtain ⟨a0, b, c, a1, a2, a3, a4, a5⟩ := h
  rw [a0, strsV_inj b, termsV_inj c, Term.ext' a1 a2 a3 a4 a5]
theorem goalsV_inj {x y : List Goal} (h : goalsV x = goalsV y) : x = y := by
  simp [goalsV] at h; exact map_inj (fun _ _ => goalV_inj) h.2
theorem proofV_inj {x y : Proof} (h : proofV x = proofV y) : x = y := by
  obtain ⟨l, ⟨s1, s2, s3, s4⟩, g, t, r⟩ := x; obtain ⟨l', ⟨s1', s2', s3', s4'⟩, g', t', r'⟩ := y
  simp [proofV] at h
  obtain ⟨h0, h1, h2, h3, h4, h5, a1, a2, a3, a4, a5, c1, c2, c3, c4, c5⟩ := h
  rw [strsV_inj h0, metasV_inj h1, eqnsV_inj h2, boundsV_inj h3, h4, goalsV_inj h5, Term.ext' a1 a2 a3 a4 a5, Term.ext' c1 c2 c3 c4 c5]
/-! Pure. -/
theorem termsV_pure (l : List Term) : PureV (termsV l) := .data _ _ _ _ (map_pure tv_pure l)
theorem tc_pure (t : Term) : PureL (tc t) := .cons (.ground rfl) (.cons (.ground rfl) (.cons (.ground rfl) (.cons (lvlsV_pure _) (.cons (termsV_pure _) .nil))))
theorem lc_pure (x : Lvl) : PureL (lc x) := .cons (.ground rfl) (.cons (lvarsV_pure _) .nil)
theorem metaV_pure (x : Meta) : PureV (metaV x) := .agg ((tc_pure _).append (.cons (.ground rfl) ((tc_pure _).append (.cons (.ground rfl) .nil))))
theorem metasV_pure (l : List Meta) : PureV (metasV l) := .data _ _ _ _ (map_pure metaV_pure l)
theorem eqnV_pure (x : Eqn) : PureV (eqnV x) := .agg (.cons (termsV_pure _) ((tc_pure _).append ((tc_pure _).append (.cons (.ground rfl) .nil))))
theorem eqnsV_pure (l : List Eqn) : PureV (eqnsV l) := .data _ _ _ _ (map_pure eqnV_pure l)
theorem boundV_pure (x : Bound) : PureV (boundV x) := .agg ((lc_pure _).append (lc_pure _))
theorem boundsV_pure (l : List Bound) : PureV (boundsV l) := .data _ _ _ _ (map_pure boundV_pure l)
theorem sc_pure (x : Store) : PureL (sc x) := .cons (metasV_pure _) (.cons (eqnsV_pure _) (.cons (boundsV_pure _) (.cons (.ground rfl) .nil)))
theorem storeV_pure (x : Store) : PureV (storeV x) := .agg (sc_pure x)
theorem goalV_pure (x : Goal) : PureV (goalV x) := .agg (.cons (.ground rfl) (.cons (strsV_pure _) (.cons (termsV_pure _) (tc_pure _))))
theorem goalsV_pure (l : List Goal) : PureV (goalsV l) := .data _ _ _ _ (map_pure goalV_pure l)
theorem pc_pure (x : Proof) : PureL (pc x) := .cons (strsV_pure _) ((sc_pure _).append (.cons (goalsV_pure _) ((tc_pure _).append (tc_pure _))))
theorem proofV_pure (x : Proof) : PureV (proofV x) := .agg (pc_pure x)
end Go.Am.Eu
