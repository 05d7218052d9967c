/- What the check of a term says: plain. -/
import Derived.Test.YtkdfgoimgcegfaaGreatDoorD31
set_option linter.unusedSectionVars false
set_option linter.unusedSimpArgs false
set_option linter.unusedVariables false
namespace Go.Am.Eu
open Go Go.Am
def letterB (c : Int) : Bool := decide ((97 ≤ c ∧ c ≤ 122) ∨ (65 ≤ c ∧ c ≤ 90) ∨ c = 95)
/-- One letter of a name; whether a part begins. -/
def nameStep (b : Bool) (c : Int) : Option Bool :=
  if letterB c = true then some false else if b = true then none else if c = 46 then some true else if (48 ≤ c ∧ c ≤ 57) ∨ c = 39 then some false else none
def nameGo : List Int → Bool → Option Bool
  | [], b => some b
  | c :: l, b => match nameStep b c with
    | some b' => nameGo l b'
    | none => none
def bytesI (s : ByteArray) : List Int := s.data.toList.map fun c => (c.toNat : Int)
def nameB (s : ByteArray) : Bool := decide (s.size ≤ 64) && decide (nameGo (bytesI s) true = some false)
theorem bytesI_len (s : ByteArray) : (bytesI s).length = s.size := by
  show (s.data.toList.map fun c => (c.toNat : Int)).length = _
  rw [List.length_map]; rfl
theorem bytesI_get (s : ByteArray) {i : Nat} (hi : i < s.size) : (bytesI s)[i]'(by rw [bytesI_len]; exact hi) = ((s[i]'hi).toNat : Int) := by
  unfold bytesI
  rw [List.getElem_map]; rfl
/-- What holds of a variable of a valid level. -/
def varP (x : Lvl) (i : Nat) (h : i < x.vars.length) : Prop :=
  (-65536 ≤ x.vars[i].index ∧ x.vars[i].index ≤ 7) ∧ (0 ≤ x.vars[i].plus ∧ x.vars[i].plus ≤ 100) ∧ (0 < i → (x.vars[i - 1]'(by omega)).index < x.vars[i].index) ∧ (0 < x.const → x.vars[i].plus < x.const)
def validP (x : Lvl) : Prop := (0 ≤ x.const ∧ x.const ≤ 100) ∧ ∀ i h, varP x i h
open Classical in
noncomputable def validB (x : Lvl) : Bool := decide (validP x)
def kidsN (k : Int) : Nat := if k = 4 ∨ k = 5 ∨ k = 6 ∨ k = 7 then 2 else if k = 8 ∨ k = 11 then 3 else if k = 9 ∨ k = 10 then 1 else 0
def belowN (k : Int) (i : Nat) : Nat := if (i = 1 ∧ (k = 5 ∨ k = 6 ∨ k = 7)) ∨ (i = 2 ∧ k = 11) then 1 else 0
def formP (t : Term) : Prop :=
  (0 ≤ t.kind ∧ t.kind < 13) ∧ t.kids.length = kidsN t.kind ∧ (t.index = 0 ∨ t.kind = 0 ∨ t.kind = 12) ∧ (t.name = ⟨#[]⟩ ∨ t.kind = 3) ∧ (if t.kind = 2 then t.levels.length = 1 else t.levels.length = 0 ∨ t.kind = 3)
open Classical in
noncomputable def formB (t : Term) : Bool := decide (formP t)
abbrev w64 (n : Int) : Int := IntKind.i64.wrap n
open Classical in
noncomputable def levelE (p l : Int) (x : Lvl) : Int :=
  if ¬ validP x then 3 else if ∃ v ∈ x.vars, p ≤ v.index then 15 else if ∃ v ∈ x.vars, v.index < 0 ∧ l ≤ w64 (-1 - v.index) then 23 else 0
noncomputable def levelsE (p l : Int) : List Lvl → Int
  | [] => 0
  | x :: r => if levelE p l x ≠ 0 then levelE p l x else levelsE p l r
noncomputable def nodeE (v p m l : Int) (d : Nat) (t : Term) : Int :=
  if formB t = false then 3 else if t.kind = 3 ∧ nameB t.name = false then 29 else if t.kind = 3 ∧ 8 < t.levels.length then 6 else if levelsE p l t.levels ≠ 0 then levelsE p l t.levels
  else if t.kind = 0 ∧ (t.index < 0 ∨ v ≤ w64 (t.index - d)) then 24 else if t.kind = 12 ∧ (t.index < 0 ∨ m ≤ t.index) then 23 else 0
mutual
noncomputable def ckT (v p m l : Int) (d : Nat) : Term → Int
  | .mk k i n ls ks => if nodeE v p m l d (.mk k i n ls ks) ≠ 0 then nodeE v p m l d (.mk k i n ls ks) else ckL v p m l d k 0 ks
noncomputable def ckL (v p m l : Int) (d : Nat) (k : Int) (i : Nat) : List Term → Int
  | [] => 0
  | t :: r => if ckT v p m l (d + belowN k i) t ≠ 0 then ckT v p m l (d + belowN k i) t else ckL v p m l d k (i + 1) r
end
mutual
def depthN : Term → Nat
  | .mk _ _ _ _ ks => depthL ks + 1
def depthL : List Term → Nat
  | [] => 0
  | t :: r => max (depthN t) (depthL r)
end
noncomputable def checkE (v p m l : Int) (t : Term) : Int := if ckT v p m l 0 t ≠ 0 then ckT v p m l 0 t else if 4096 < nodes t then 5 else if 200 < depthN t then 7 else 0
theorem ckT_eq (v p m l : Int) (d : Nat) (t : Term) : ckT v p m l d t = if nodeE v p m l d t ≠ 0 then nodeE v p m l d t else ckL v p m l d t.kind 0 t.kids := by
  cases t; rw [ckT]; rfl
theorem ckL_nil (v p m l : Int) (d : Nat) (k : Int) (i : Nat) : ckL v p m l d k i [] = 0 := by rw [ckL]
theorem ckL_cons (v p m l : Int) (d : Nat) (k : Int) (i : Nat) (t : Term) (r : List Term) : ckL v p m l d k i (t :: r) = if ckT v p m l (d + belowN k i) t ≠ 0 then ckT v p m l (d + belowN k i) t else ckL v p m l d k (i + 1) r := by rw [ckL]
theorem depthN_eq (t : Term) : depthN t = depthL t.kids + 1 := by cases t; rw [depthN]; rfl
theorem depthL_nil : depthL [] = 0 := by rw [depthL]
theorem depthL_cons (t : Term) (r : List Term) : depthL (t :: r) = max (depthN t) (depthL r) := by rw [depthL]
mutual
theorem depth_le : ∀ t : Term, depthN t ≤ nodes t
  | .mk k i n l ks => by rw [depthN, nodes_mk]; have := depthL_le ks; omega
theorem depthL_le : ∀ l : List Term, depthL l ≤ nodesL l
  | [] => by simp [depthL]
  | t :: r => by
    have := depth_le t; have := depthL_le r
    rw [depthL, nodesL_cons]
    exact Nat.max_le.2 ⟨by omega, by omega⟩
end
end Go.Am.Eu
/- How much a term holds. -/
namespace Go.Am.Eu
open Go Go.Am
def lvlsN (l : List Lvl) : Nat := (l.map fun x => 1 + x.vars.length).sum
theorem lvlsN_mem : ∀ {l : List Lvl} {x : Lvl}, x ∈ l → x.vars.length < lvlsN l
  | y :: l, x, h => by
    simp only [lvlsN, List.map_cons, List.sum_cons]
    rcases List.mem_cons.1 h with rfl | h
    · omega
    · have := lvlsN_mem h; simp only [lvlsN] at this; omega
theorem lvlsN_len : ∀ l : List Lvl, l.length ≤ lvlsN l
  | [] => by simp
  | y :: l => by have := lvlsN_len l; simp only [lvlsN, List.map_cons, List.sum_cons, List.length_cons] at this ⊢; omega
mutual
def wt : Term → Nat
  | .mk _ _ n l ks => 1 + n.size + lvlsN l + wtL ks
def wtL : List Term → Nat
  | [] => 0
  | t :: l => wt t + wtL l
end
theorem wt_mk (k i : Int) (n : ByteArray) (l : List Lvl) (ks : List Term) : wt (.mk k i n l ks) = 1 + n.size + lvlsN l + wtL ks := by simp [wt]
theorem wt_eq (t : Term) : wt t = 1 + t.name.size + lvlsN t.levels + wtL t.kids := by cases t; rw [wt_mk]; rfl
theorem wtL_cons (t : Term) (l : List Term) : wtL (t :: l) = wt t + wtL l := by simp [wtL]
theorem wt_mem : ∀ {l : List Term} {t : Term}, t ∈ l → wt t ≤ wtL l
  | x :: l, t, h => by
    rw [wtL_cons]
    rcases List.mem_cons.1 h with rfl | h
    · omega
    · have := wt_mem h; omega
theorem wt_kid {t x : Term} (h : x ∈ t.kids) : wt x < wt t := by
  rw [wt_eq t]; have := wt_mem h; omega
theorem wtL_len : ∀ l : List Term, l.length ≤ wtL l
  | [] => by simp
  | t :: l => by
    have := wtL_len l
    have h1 : 1 ≤ wt t := by rw [wt_eq]; omega
    rw [wtL_cons, List.length_cons]; omega
theorem wt_kids (t : Term) : t.kids.length < wt t := by rw [wt_eq]; have := wtL_len t.kids; omega
theorem wt_levels (t : Term) : t.levels.length < wt t := by rw [wt_eq]; have := lvlsN_len t.levels; omega
theorem wt_level {t : Term} {x : Lvl} (h : x ∈ t.levels) : x.vars.length < wt t := by rw [wt_eq]; have := lvlsN_mem h; omega
mutual
theorem nodes_le : ∀ t : Term, nodes t ≤ wt t
  | .mk k i n l ks => by rw [nodes_mk, wt_mk]; have := nodesL_le ks; omega
theorem nodesL_le : ∀ l : List Term, nodesL l ≤ wtL l
  | [] => by simp [nodesL, wtL]
  | t :: l => by rw [nodesL_cons, wtL_cons]; have := nodes_le t; have := nodesL_le l; omega
end

end Go.Am.Eu
