/- Terms, as data. -/
import Derived.Test.YtkdfgoimgcegfaaGreatDoorAmTask
set_option linter.unusedSectionVars false
set_option linter.unusedSimpArgs false
set_option linter.unusedVariables false
namespace Go.Am.Eu
open Go Go.Am
structure LVar where
  index : Int
  plus : Int
structure Lvl where
  const : Int
  vars : List LVar
inductive Term where
  | mk (kind index : Int) (name : ByteArray) (levels : List Lvl) (kids : List Term)
namespace Term
def kind : Term → Int | .mk k _ _ _ _ => k
def index : Term → Int | .mk _ i _ _ _ => i
def name : Term → ByteArray | .mk _ _ n _ _ => n
def levels : Term → List Lvl | .mk _ _ _ l _ => l
def kids : Term → List Term | .mk _ _ _ _ k => k
end Term
abbrev i64 (n : Int) : Value := .int .i64 n
def lvarV (x : LVar) : Value := .agg ⟨[i64 x.index, i64 x.plus]⟩
def lvarsV (l : List LVar) : Value := dsl (l.map lvarV) 0 l.length []
def lvlV (x : Lvl) : Value := .agg ⟨[i64 x.const, lvarsV x.vars]⟩
def lvlsV (l : List Lvl) : Value := dsl (l.map lvlV) 0 l.length []
def strsV (l : List ByteArray) : Value := dsl (l.map Value.string) 0 l.length []
mutual
def tv : Term → Value
  | .mk k i n l ks => .agg ⟨[i64 k, i64 i, .string n, lvlsV l, dsl (tvs ks) 0 ks.length []]⟩
def tvs : List Term → List Value
  | [] => []
  | t :: l => tv t :: tvs l
end
theorem tvs_eq : ∀ l : List Term, tvs l = l.map tv
  | [] => rfl
  | t :: l => by simp [tvs, tvs_eq l]
def termsV (l : List Term) : Value := dsl (l.map tv) 0 l.length []
theorem tv_mk (k i : Int) (n : ByteArray) (l : List Lvl) (ks : List Term) : tv (.mk k i n l ks) = .agg ⟨[i64 k, i64 i, .string n, lvlsV l, termsV ks]⟩ := by
  simp [tv, tvs_eq, termsV]
theorem tv_eq (t : Term) : tv t = .agg ⟨[i64 t.kind, i64 t.index, .string t.name, lvlsV t.levels, termsV t.kids]⟩ := by
  cases t; exact tv_mk _ _ _ _ _
mutual
def nodes : Term → Nat
  | .mk _ _ _ _ ks => 1 + nodesL ks
def nodesL : List Term → Nat
  | [] => 0
  | t :: l => nodes t + nodesL l
end
theorem nodes_mk (k i : Int) (n : ByteArray) (l : List Lvl) (ks : List Term) : nodes (.mk k i n l ks) = 1 + nodesL ks := by simp [nodes]
theorem nodesL_cons (t : Term) (l : List Term) : nodesL (t :: l) = nodes t + nodesL l := by simp [nodesL]
theorem nodesL_append : ∀ (a b : List Term), nodesL (a ++ b) = nodesL a + nodesL b
  | [], b => by simp [nodesL]
  | t :: a, b => by simp [nodesL, nodesL_append a b]; omega
theorem nodes_mem : ∀ {l : List Term} {t : Term}, t ∈ l → nodes t ≤ nodesL l
  | x :: l, t, h => by
    rw [nodesL_cons]
    rcases List.mem_cons.1 h with rfl | h
    · omega
    · have := nodes_mem h; omega
theorem nodes_kid {t x : Term} (h : x ∈ t.kids) : nodes x < nodes t := by
  cases t with
  | mk k i n l ks => rw [nodes_mk]; have := nodes_mem (l := ks) h; omega
theorem length_le : ∀ l : List Term, l.length ≤ nodesL l
  | [] => by simp
  | t :: l => by
    have := length_le l
    have h1 : 1 ≤ nodes t := by cases t; rw [nodes_mk]; omega
    rw [nodesL_cons, List.length_cons]; omega
theorem kids_length (t : Term) : t.kids.length < nodes t := by
  cases t with
  | mk k i n l ks => rw [nodes_mk]; have := length_le ks; show ks.length < _; omega
/-! What is written determines what is meant. -/
theorem lvarV_inj {x y : LVar} (h : lvarV x = lvarV y) : x = y := by
  cases x; cases y; simp [lvarV] at h; simp [h]
theorem map_inj {α β : Type} {f : α → β} (hf : ∀ x y, f x = f y → x = y) : ∀ {a b : List α}, a.map f = b.map f → a = b
  | [], [], _ => rfl
  | [], _ :: _, h => by simp at h
  | _ :: _, [], h => by simp at h
  | x :: a, y :: b, h => by
    simp at h
    rw [hf x y h.1, map_inj hf (a := a) (b := b) h.2]
theorem lvarsV_inj {x y : List LVar} (h : lvarsV x = lvarsV y) : x = y := by
  simp [lvarsV] at h; exact map_inj (fun _ _ => lvarV_inj) h.2
theorem lvlV_inj {x y : Lvl} (h : lvlV x = lvlV y) : x = y := by
  cases x; cases y; simp [lvlV] at h; simp [h.1, lvarsV_inj h.2]
theorem lvlsV_inj {x y : List Lvl} (h : lvlsV x = lvlsV y) : x = y := by
  simp [lvlsV] at h; exact map_inj (fun _ _ => lvlV_inj) h.2
theorem strsV_inj {x y : List ByteArray} (h : strsV x = strsV y) : x = y := by
  simp [strsV] at h; exact map_inj (fun _ _ h => by injection h) h.2
mutual
theorem tv_inj : ∀ {x y : Term}, tv x = tv y → x = y
  | .mk k i n l ks, .mk k' i' n' l' ks', h => by
    simp [tv] at h
    obtain ⟨h1, h2, h3, h4, _, h5⟩ := h
    rw [h1, h2, h3, lvlsV_inj h4, tvs_inj h5]
theorem tvs_inj : ∀ {x y : List Term}, tvs x = tvs y → x = y
  | [], [], _ => rfl
  | [], _ :: _, h => by simp [tvs] at h
  | _ :: _, [], h => by simp [tvs] at h
  | x :: a, y :: b, h => by
    simp [tvs] at h
    rw [tv_inj h.1, tvs_inj h.2]
end
/-! Pure. -/
theorem lvarV_pure (x : LVar) : PureV (lvarV x) := .agg (.cons (.ground rfl) (.cons (.ground rfl) .nil))
theorem map_pure {α : Type} {f : α → Value} (hf : ∀ x, PureV (f x)) (l : List α) : PureL (l.map f) := .of fun v hv => by
  obtain ⟨x, _, rfl⟩ := List.mem_map.1 hv; exact hf x
theorem lvarsV_pure (l : List LVar) : PureV (lvarsV l) := .data _ _ _ _ (map_pure lvarV_pure l)
theorem lvlV_pure (x : Lvl) : PureV (lvlV x) := .agg (.cons (.ground rfl) (.cons (lvarsV_pure _) .nil))
theorem lvlsV_pure (l : List Lvl) : PureV (lvlsV l) := .data _ _ _ _ (map_pure lvlV_pure l)
theorem strsV_pure (l : List ByteArray) : PureV (strsV l) := .data _ _ _ _ (map_pure (fun _ => .ground rfl) l)
mutual
theorem tv_pure : ∀ t : Term, PureV (tv t)
  | .mk k i n l ks => by
    rw [tv]
    exact .agg (.cons (.ground rfl) (.cons (.ground rfl) (.cons (.ground rfl) (.cons (lvlsV_pure _) (.cons (.data _ _ _ _ (tvs_pure ks)) .nil)))))
theorem tvs_pure : ∀ l : List Term, PureL (tvs l)
  | [] => by rw [tvs]; exact .nil
  | t :: l => by rw [tvs]; exact .cons (tv_pure t) (tvs_pure l)
end
end Go.Am.Eu
