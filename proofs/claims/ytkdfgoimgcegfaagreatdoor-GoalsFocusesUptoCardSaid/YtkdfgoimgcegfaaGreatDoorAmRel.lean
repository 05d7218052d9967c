/- The relation between the abstract machine's memory and the model's: tries, values, objects. -/
import Derived.Test.YtkdfgoimgcegfaaGreatDoorAm4
import Derived.Calls
import Derived.Laws.Sem
import Derived.AtR
set_option linter.unusedSectionVars false
set_option linter.unusedSimpArgs false
set_option linter.unusedVariables false
namespace Go.Am
open Go

/-! ### Tries -/
theorem nbeq_ne {a b : Nat} (h : a ≠ b) : Nat.beq a b = false := by
  cases e : Nat.beq a b with
  | false => rfl
  | true => exact absurd (Nat.eq_of_beq_eq_true e) h
theorem nbeq_eq {a b : Nat} (h : a = b) : Nat.beq a b = true := by subst h; exact Nat.beq_refl a
theorem nbeq_true {a b : Nat} (h : Nat.beq a b = true) : a = b := Nat.eq_of_beq_eq_true h
theorem nbeq_false {a b : Nat} (h : Nat.beq a b = false) : a ≠ b := Nat.ne_of_beq_eq_false h
theorem nble_true {a b : Nat} (h : Nat.ble a b = true) : a ≤ b := Nat.le_of_ble_eq_true h
theorem nble_false {a b : Nat} (h : Nat.ble a b = false) : b < a := by
  rcases Nat.lt_or_ge b a with h' | h'
  · exact h'
  · rw [Nat.ble_eq_true_of_le h'] at h; cases h
namespace Tr
variable {α : Type}

theorem getP_nil (k : Nat) : (Tr.nil : Tr α).getP k = none := rfl
theorem getP_node (v : Option α) (l r : Tr α) (k : Nat) :
    (Tr.node v l r).getP k = if k = 1 then v else if k % 2 = 0 then l.getP (k / 2) else r.getP (k / 2) := by
  show Bool.rec (motive := fun _ => Option α) (Bool.rec (motive := fun _ => Nat → Option α) r.getP l.getP (Nat.beq (k % 2) 0) (k / 2)) v (Nat.beq k 1) = _
  by_cases h1 : k = 1
  · subst h1; rfl
  · have e1 : Nat.beq k 1 = false := nbeq_ne h1
    rw [e1, if_neg h1]
    by_cases h2 : k % 2 = 0
    · have e2 : Nat.beq (k % 2) 0 = true := nbeq_eq h2
      rw [e2, if_pos h2]
    · have e2 : Nat.beq (k % 2) 0 = false := nbeq_ne h2
      rw [e2, if_neg h2]
theorem oneP_zero (x : α) (k : Nat) : oneP x 0 k = .nil := rfl
theorem oneP_succ (x : α) (f k : Nat) :
    oneP x (f + 1) k = if k = 1 then .node (some x) .nil .nil else if k % 2 = 0 then .node none (oneP x f (k / 2)) .nil else .node none .nil (oneP x f (k / 2)) := by
  show Bool.rec (motive := fun _ => Tr α) (Bool.rec (motive := fun _ => Tr α) (.node none .nil (oneP x f (k / 2))) (.node none (oneP x f (k / 2)) .nil) (Nat.beq (k % 2) 0)) (.node (some x) .nil .nil) (Nat.beq k 1) = _
  by_cases h1 : k = 1
  · subst h1; rfl
  · have e1 : Nat.beq k 1 = false := nbeq_ne h1
    rw [e1, if_neg h1]
    by_cases h2 : k % 2 = 0
    · have e2 : Nat.beq (k % 2) 0 = true := nbeq_eq h2
      rw [e2, if_pos h2]
    · have e2 : Nat.beq (k % 2) 0 = false := nbeq_ne h2
      rw [e2, if_neg h2]
theorem setP_nil (k : Nat) (x : α) : (Tr.nil : Tr α).setP k x = oneP x k k := rfl
theorem setP_node (v : Option α) (l r : Tr α) (k : Nat) (x : α) :
    (Tr.node v l r).setP k x = if k = 1 then .node (some x) l r else if k % 2 = 0 then .node v (l.setP (k / 2) x) r else .node v l (r.setP (k / 2) x) := by
  show Bool.rec (motive := fun _ => Tr α) (Bool.rec (motive := fun _ => Tr α) (.node v l (r.setP (k / 2) x)) (.node v (l.setP (k / 2) x) r) (Nat.beq (k % 2) 0)) (.node (some x) l r) (Nat.beq k 1) = _
  by_cases h1 : k = 1
  · subst h1; rfl
  · have e1 : Nat.beq k 1 = false := nbeq_ne h1
    rw [e1, if_neg h1]
    by_cases h2 : k % 2 = 0
    · have e2 : Nat.beq (k % 2) 0 = true := nbeq_eq h2
      rw [e2, if_pos h2]
    · have e2 : Nat.beq (k % 2) 0 = false := nbeq_ne h2
      rw [e2, if_neg h2]
theorem delP_nil (k : Nat) : (Tr.nil : Tr α).delP k = .nil := rfl
theorem delP_node (v : Option α) (l r : Tr α) (k : Nat) :
    (Tr.node v l r).delP k = if k = 1 then .node none l r else if k % 2 = 0 then .node v (l.delP (k / 2)) r else .node v l (r.delP (k / 2)) := by
  show cond (Nat.beq k 1) (Tr.node none l r) (cond (Nat.beq (k % 2) 0) (Tr.node v (l.delP (k / 2)) r) (Tr.node v l (r.delP (k / 2)))) = _
  by_cases h1 : k = 1
  · subst h1; rfl
  · have e1 : Nat.beq k 1 = false := nbeq_ne h1
    rw [e1, if_neg h1, cond_false]
    by_cases h2 : k % 2 = 0
    · have e2 : Nat.beq (k % 2) 0 = true := nbeq_eq h2
      rw [e2, if_pos h2, cond_true]
    · have e2 : Nat.beq (k % 2) 0 = false := nbeq_ne h2
      rw [e2, if_neg h2, cond_false]

theorem oneP_ne (x : α) : ∀ (f k j : Nat), 0 < k → 0 < j → j ≠ k → (oneP x f k).getP j = none
  | 0, _, _, _, _, _ => rfl
  | f + 1, k, j, hk, hj, hne => by
    rw [oneP_succ]
    by_cases h1 : k = 1
    · rw [if_pos h1, getP_node, if_neg (by omega)]; split <;> rfl
    · rw [if_neg h1]
      by_cases h2 : k % 2 = 0
      · rw [if_pos h2, getP_node]
        by_cases j1 : j = 1
        · rw [if_pos j1]
        · rw [if_neg j1]
          by_cases j2 : j % 2 = 0
          · rw [if_pos j2]; exact oneP_ne x f _ _ (by omega) (by omega) (by omega)
          · rw [if_neg j2]; rfl
      · rw [if_neg h2, getP_node]
        by_cases j1 : j = 1
        · rw [if_pos j1]
        · rw [if_neg j1]
          by_cases j2 : j % 2 = 0
          · rw [if_pos j2]; rfl
          · rw [if_neg j2]; exact oneP_ne x f _ _ (by omega) (by omega) (by omega)
theorem oneP_eq (x y : α) : ∀ (f k : Nat), (oneP x f k).getP k = some y → y = x
  | 0, _, h => by cases h
  | f + 1, k, h => by
    rw [oneP_succ] at h
    by_cases h1 : k = 1
    · rw [if_pos h1, getP_node, if_pos h1] at h; injection h with h; exact h.symm
    · rw [if_neg h1] at h
      by_cases h2 : k % 2 = 0
      · rw [if_pos h2, getP_node, if_neg h1, if_pos h2] at h; exact oneP_eq x y f _ h
      · rw [if_neg h2, getP_node, if_neg h1, if_neg h2] at h; exact oneP_eq x y f _ h
theorem oneP_same (x : α) : ∀ (f k : Nat), 0 < k → k ≤ f → (oneP x f k).getP k = some x
  | 0, k, hk, h => by omega
  | f + 1, k, hk, h => by
    rw [oneP_succ]
    by_cases h1 : k = 1
    · rw [if_pos h1, getP_node, if_pos h1]
    · rw [if_neg h1]
      by_cases h2 : k % 2 = 0
      · rw [if_pos h2, getP_node, if_neg h1, if_pos h2]; exact oneP_same x f _ (by omega) (by omega)
      · rw [if_neg h2, getP_node, if_neg h1, if_neg h2]; exact oneP_same x f _ (by omega) (by omega)
theorem setP_same (x : α) : ∀ (t : Tr α) (k : Nat), 0 < k → (t.setP k x).getP k = some x
  | .nil, k, hk => oneP_same x k k hk (Nat.le_refl _)
  | .node v l r, k, hk => by
    rw [setP_node]
    by_cases h1 : k = 1
    · rw [if_pos h1, getP_node, if_pos h1]
    · rw [if_neg h1]
      by_cases h2 : k % 2 = 0
      · rw [if_pos h2, getP_node, if_neg h1, if_pos h2]; exact setP_same x l _ (by omega)
      · rw [if_neg h2, getP_node, if_neg h1, if_neg h2]; exact setP_same x r _ (by omega)
theorem setP_ne (x : α) : ∀ (t : Tr α) (k j : Nat), 0 < k → 0 < j → j ≠ k → (t.setP k x).getP j = t.getP j
  | .nil, k, j, hk, hj, hne => by rw [setP_nil, oneP_ne x k k j hk hj hne]; rfl
  | .node v l r, k, j, hk, hj, hne => by
    rw [setP_node, getP_node]
    by_cases h1 : k = 1
    · have j1 : j ≠ 1 := by omega
      rw [if_pos h1, getP_node, if_neg j1, if_neg j1]
    · rw [if_neg h1]
      by_cases h2 : k % 2 = 0
      · rw [if_pos h2, getP_node]
        by_cases j1 : j = 1
        · rw [if_pos j1, if_pos j1]
        · rw [if_neg j1, if_neg j1]
          by_cases j2 : j % 2 = 0
          · rw [if_pos j2, if_pos j2]; exact setP_ne x l _ _ (by omega) (by omega) (by omega)
          · rw [if_neg j2, if_neg j2]
      · rw [if_neg h2, getP_node]
        by_cases j1 : j = 1
        · rw [if_pos j1, if_pos j1]
        · rw [if_neg j1, if_neg j1]
          by_cases j2 : j % 2 = 0
          · rw [if_pos j2, if_pos j2]
          · rw [if_neg j2, if_neg j2]; exact setP_ne x r _ _ (by omega) (by omega) (by omega)
theorem setP_eq (x y : α) : ∀ (t : Tr α) (k : Nat), (t.setP k x).getP k = some y → y = x
  | .nil, k, h => oneP_eq x y k k h
  | .node v l r, k, h => by
    rw [setP_node] at h
    by_cases h1 : k = 1
    · rw [if_pos h1, getP_node, if_pos h1] at h; injection h with h; exact h.symm
    · rw [if_neg h1] at h
      by_cases h2 : k % 2 = 0
      · rw [if_pos h2, getP_node, if_neg h1, if_pos h2] at h; exact setP_eq x y l _ h
      · rw [if_neg h2, getP_node, if_neg h1, if_neg h2] at h; exact setP_eq x y r _ h
theorem delP_ne : ∀ (t : Tr α) (k j : Nat), 0 < k → 0 < j → j ≠ k → (t.delP k).getP j = t.getP j
  | .nil, _, _, _, _, _ => rfl
  | .node v l r, k, j, hk, hj, hne => by
    rw [delP_node, getP_node]
    by_cases h1 : k = 1
    · have j1 : j ≠ 1 := by omega
      rw [if_pos h1, getP_node, if_neg j1, if_neg j1]
    · rw [if_neg h1]
      by_cases h2 : k % 2 = 0
      · rw [if_pos h2, getP_node]
        by_cases j1 : j = 1
        · rw [if_pos j1, if_pos j1]
        · rw [if_neg j1, if_neg j1]
          by_cases j2 : j % 2 = 0
          · rw [if_pos j2, if_pos j2]; exact delP_ne l _ _ (by omega) (by omega) (by omega)
          · rw [if_neg j2, if_neg j2]
      · rw [if_neg h2, getP_node]
        by_cases j1 : j = 1
        · rw [if_pos j1, if_pos j1]
        · rw [if_neg j1, if_neg j1]
          by_cases j2 : j % 2 = 0
          · rw [if_pos j2, if_pos j2]
          · rw [if_neg j2, if_neg j2]; exact delP_ne r _ _ (by omega) (by omega) (by omega)
theorem delP_eq : ∀ (t : Tr α) (k : Nat), (t.delP k).getP k = none
  | .nil, _ => rfl
  | .node v l r, k => by
    rw [delP_node]
    by_cases h1 : k = 1
    · rw [if_pos h1, getP_node, if_pos h1]
    · rw [if_neg h1]
      by_cases h2 : k % 2 = 0
      · rw [if_pos h2, getP_node, if_neg h1, if_pos h2]; exact delP_eq l _
      · rw [if_neg h2, getP_node, if_neg h1, if_neg h2]; exact delP_eq r _
theorem get_nil (k : Nat) : (Tr.nil : Tr α).get k = none := rfl
theorem get_set_ne (t : Tr α) {k j : Nat} (x : α) (h : j ≠ k) : (t.set k x).get j = t.get j :=
  setP_ne x t (k + 1) (j + 1) (by omega) (by omega) (by omega)
theorem get_set_eq (t : Tr α) {k : Nat} {x y : α} (h : (t.set k x).get k = some y) : y = x := setP_eq x y t (k + 1) h
theorem get_set (t : Tr α) (k j : Nat) (x : α) : (t.set k x).get j = if j = k then some x else t.get j := by
  by_cases h : j = k
  · rw [if_pos h, h]; exact setP_same x t (k + 1) (by omega)
  · rw [if_neg h]; exact get_set_ne t x h
theorem get_del_ne (t : Tr α) {k j : Nat} (h : j ≠ k) : (t.del k).get j = t.get j := delP_ne t (k + 1) (j + 1) (by omega) (by omega) (by omega)
theorem get_del_eq (t : Tr α) (k : Nat) : (t.del k).get k = none := delP_eq t (k + 1)
theorem get_ofList : ∀ (l : List α) (k : Nat) (t : Tr α) (b : Nat) (x : α), (ofList l (k + 1) t).get b = some x →
    (k ≤ b ∧ l[b - k]? = some x) ∨ t.get b = some x
  | [], _, _, _, _, h => .inr h
  | y :: l, k, t, b, x, h => by
    have h' : (ofList l (k + 1 + 1) (t.setP (k + 1) y)).get b = some x := h
    rcases get_ofList l (k + 1) _ b x h' with ⟨h1, h2⟩ | h1
    · refine .inl ⟨by omega, ?_⟩
      rw [show b - k = (b - (k + 1)) + 1 from by omega]; simpa using h2
    · by_cases hb : b = k
      · subst hb
        have := get_set_eq t (k := b) (x := y) h1
        subst this
        exact .inl ⟨Nat.le_refl _, by simp⟩
      · rw [show (t.setP (k + 1) y) = t.set k y from rfl, get_set_ne t y hb] at h1
        exact .inr h1
end Tr

/-! ### Values -/
/-- Where a block of the abstract machine lies: the model's block, the cells ahead of it there, how many cells are known, how many more there are to spare, the cells of an element. -/
structure Pl where
  blk : Nat
  sh : Nat
  klen : Nat
  ext : Nat
  sz : Nat
/-- What is known of blocks: where each one of the abstract machine's lies; and what the model's blocks hold that will never be written. -/
structure M where
  at_ : Nat → Option Pl
  im : Nat → Option (List Value)
instance : CoeFun M (fun _ => Nat → Option Pl) := ⟨M.at_⟩
def M.empty : M := ⟨fun _ => none, fun _ => none⟩

/-- Capacities: the same, or the row's known end and its true end. -/
def CapOK (pl : Pl) (off cap cap' : Nat) : Prop := cap' = cap ∨ (off + cap * pl.sz = pl.klen ∧ off + cap' * pl.sz = pl.klen + pl.ext)

mutual
inductive VR (m : M) : Value → Value → Prop
  | bool (b : Bool) : VR m (.bool b) (.bool b)
  | int (k : IntKind) (n : Int) : VR m (.int k n) (.int k n)
  | string (s : ByteArray) : VR m (.string s) (.string s)
  | ptr0 : VR m (.pointer none) (.pointer none)
  | ptr {b off : Nat} {pl : Pl} (h : m b = some pl) : VR m (.pointer (some ⟨b, off, none⟩)) (.pointer (some ⟨pl.blk, pl.sh + off, none⟩))
  | slice0 (n c : Nat) : VR m (.slice none n c) (.slice none n c)
  | slice {b off len cap cap' : Nat} {pl : Pl} (h : m b = some pl) (hc : CapOK pl off cap cap') :
      VR m (.slice (some ⟨b, off, none⟩) len cap) (.slice (some ⟨pl.blk, pl.sh + off, none⟩) len cap')
  | empty {b off : Nat} {pl : Pl} {a : Addr} (h : m b = some pl) : VR m (.slice (some ⟨b, off, none⟩) 0 0) (.slice (some a) 0 0)
  | map0 : VR m (.map none) (.map none)
  | map {b : Nat} {pl : Pl} (h : m b = some pl) : VR m (.map (some b)) (.map (some pl.blk))
  | func (f : FuncId) {l l' c c' : List Value} (h : LR m l l') (hc : LR m c c') : VR m (.func (.func f) ⟨l⟩ ⟨c⟩) (.func (.func f) ⟨l'⟩ ⟨c'⟩)
  | yield {b : Nat} {pl : Pl} (h : m b = some pl) : VR m (.func (.yield b) #[] #[]) (.func (.yield pl.blk) #[] #[])
  | nilFunc : VR m .nilFunc .nilFunc
  | nilIface : VR m .nilIface .nilIface
  | iface (t : TypeId) {v v' : Value} (h : VR m v v') : VR m (.iface t v) (.iface t v')
  | agg {l l' : List Value} (h : LR m l l') : VR m (.agg ⟨l⟩) (.agg ⟨l'⟩)
  | data {es es' caps pre post : List Value} {off len cap' c sz : Nat} {p : Array FieldStep} (hi : m.im c = some (pre ++ (es'.flatMap (·.cells.toList) ++ post))) (h : LR m es es') (hs : ∀ e ∈ es', e.cells.toList.length = sz)
      (hl : off + len ≤ es.length) (hc : len ≤ cap') (hk : caps = [] ∨ caps = [.int .i64 (Int.ofNat cap')]) :
      VR m (.func (.via off p len false) ⟨es⟩ ⟨caps⟩) (.slice (some ⟨c, pre.length + off * sz, none⟩) len cap')
  | data0 {es caps : List Value} {off cap' : Nat} {p : Array FieldStep} {a : Option Addr} (ha : a = none → cap' = 0) (hk : caps = [] ∨ caps = [.int .i64 (Int.ofNat cap')] ∨ caps = [.bool a.isNone]) :
      VR m (.func (.via off p 0 false) ⟨es⟩ ⟨caps⟩) (.slice a 0 cap')
  | dataPtr {e e' : Value} {pre post : List Value} {f c : Nat} {p : Array FieldStep} {k : FuncId} {q : Array Value} (hi : m.im c = some (pre ++ (e'.cells.toList ++ post))) (h : VR m e e') :
      VR m (.func (.via f p k true) ⟨[e]⟩ q) (.pointer (some ⟨c, pre.length + f, none⟩))
  | tuple {l l' : List Value} (h : LR m l l') : VR m (.tuple ⟨l⟩) (.tuple ⟨l'⟩)
inductive LR (m : M) : List Value → List Value → Prop
  | nil : LR m [] []
  | cons {v v' : Value} {l l' : List Value} (h : VR m v v') (hl : LR m l l') : LR m (v :: l) (v' :: l')
end

/-- One map goes beyond another. -/
structure MLe (m m' : M) : Prop where
  to : ∀ b pl, m b = some pl → m' b = some pl
  im : ∀ c l, m.im c = some l → m'.im c = some l
theorem MLe.refl (m : M) : MLe m m := ⟨fun _ _ h => h, fun _ _ h => h⟩
theorem MLe.trans {a b c : M} (h : MLe a b) (h' : MLe b c) : MLe a c := ⟨fun x pl hx => h'.to x pl (h.to x pl hx), fun x l hx => h'.im x l (h.im x l hx)⟩

mutual
theorem VR.mono {m m' : M} (hm : MLe m m') : ∀ {v v' : Value}, VR m v v' → VR m' v v'
  | _, _, .bool b => .bool b
  | _, _, .int k n => .int k n
  | _, _, .string s => .string s
  | _, _, .ptr0 => .ptr0
  | _, _, .ptr h => .ptr (hm.to _ _ h)
  | _, _, .slice0 n c => .slice0 n c
  | _, _, .slice h hc => .slice (hm.to _ _ h) hc
  | _, _, .empty h => .empty (hm.to _ _ h)
  | _, _, .map0 => .map0
  | _, _, .map h => .map (hm.to _ _ h)
  | _, _, .func f h hc => .func f (h.mono hm) (hc.mono hm)
  | _, _, .yield h => .yield (hm.to _ _ h)
  | _, _, .nilFunc => .nilFunc
  | _, _, .nilIface => .nilIface
  | _, _, .iface t h => .iface t (h.mono hm)
  | _, _, .agg h => .agg (h.mono hm)
  | _, _, .data hi h hs hl hc hk => .data (hm.im _ _ hi) (h.mono hm) hs hl hc hk
  | _, _, .data0 ha hk => .data0 ha hk
  | _, _, .dataPtr hi h => .dataPtr (hm.im _ _ hi) (h.mono hm)
  | _, _, .tuple h => .tuple (h.mono hm)
theorem LR.mono {m m' : M} (hm : MLe m m') : ∀ {l l' : List Value}, LR m l l' → LR m' l l'
  | _, _, .nil => .nil
  | _, _, .cons h hl => .cons (h.mono hm) (hl.mono hm)
end

theorem LR.length {m : M} : ∀ {l l' : List Value}, LR m l l' → l'.length = l.length
  | _, _, .nil => rfl
  | _, _, .cons _ hl => by simp [hl.length]
theorem LR.append {m : M} : ∀ {l l' r r' : List Value}, LR m l l' → LR m r r' → LR m (l ++ r) (l' ++ r')
  | _, _, _, _, .nil, hr => hr
  | _, _, _, _, .cons h hl, hr => .cons h (hl.append hr)
theorem LR.get {m : M} : ∀ {l l' : List Value} {i : Nat} {v : Value}, LR m l l' → l[i]? = some v → ∃ v', l'[i]? = some v' ∧ VR m v v'
  | _, _, i, v, .nil, h => by simp at h
  | _, _, 0, v, .cons h _, e => by simp at e; exact ⟨_, by simp, e ▸ h⟩
  | _, _, i + 1, v, .cons _ hl, e => by
    obtain ⟨v', h1, h2⟩ := hl.get (i := i) (by simpa using e)
    exact ⟨v', by simpa using h1, h2⟩
theorem LR.get_none {m : M} {l l' : List Value} {i : Nat} (h : LR m l l') (e : l[i]? = none) : l'[i]? = none := by
  rw [List.getElem?_eq_none_iff] at *; rw [h.length]; exact e
theorem LR.take {m : M} : ∀ {l l' : List Value} (n : Nat), LR m l l' → LR m (l.take n) (l'.take n)
  | _, _, _, .nil => by simpa using LR.nil
  | _, _, 0, .cons _ _ => by simpa using LR.nil
  | _, _, n + 1, .cons h hl => by simpa using LR.cons h (hl.take n)
theorem LR.drop {m : M} : ∀ {l l' : List Value} (n : Nat), LR m l l' → LR m (l.drop n) (l'.drop n)
  | _, _, _, .nil => by simpa using LR.nil
  | _, _, 0, .cons h hl => by simpa using LR.cons h hl
  | _, _, n + 1, .cons _ hl => by simpa using hl.drop n
theorem LR.snoc {m : M} {l l' : List Value} {v v' : Value} (h : LR m l l') (hv : VR m v v') : LR m (l ++ [v]) (l' ++ [v']) := h.append (.cons hv .nil)
theorem LR.map_refl {m : M} {l : List Value} (h : ∀ v ∈ l, VR m v v) : LR m l l := by
  induction l with
  | nil => exact .nil
  | cons x l ih => exact .cons (h x (by simp)) (ih fun v hv => h v (by simp [hv]))

theorem VR.ground {m : M} {v v' : Value} (h : VR m v v') (hg : Am.ground v = true) : v' = v := by
  cases h <;> first | rfl | (simp [Am.ground] at hg; done)
theorem VR.refl_of_ground {m : M} {v : Value} (hg : Am.ground v = true) (hs : ∀ n c, v = .slice none n c → True) : VR m v v := by
  cases v <;> simp [Am.ground] at hg
  case bool b => exact .bool b
  case int k n => exact .int k n
  case string s => exact .string s
  case pointer a => cases a with | none => exact .ptr0 | some a => simp at hg
  case slice a n c => cases a with | none => exact .slice0 n c | some a => simp at hg
  case map r => cases r with | none => exact .map0 | some r => simp at hg
  case nilFunc => exact .nilFunc
  case nilIface => exact .nilIface
theorem allGround_cons (v : Value) (l : List Value) : allGround (v :: l) = cond (ground v) (allGround l) false := rfl
theorem LR.ground {m : M} : ∀ {l l' : List Value}, LR m l l' → allGround l = true → l' = l
  | _, _, .nil, _ => rfl
  | _, _, .cons (v := v) h hl, hg => by
    rw [allGround_cons] at hg
    cases e : Am.ground v with
    | false => rw [e] at hg; cases hg
    | true => rw [e] at hg; rw [h.ground e, hl.ground hg]
theorem VR.groundDeep {m : M} {v v' : Value} (h : VR m v v') (hg : Am.groundDeep v = true) : v' = v := by
  cases h with
  | agg h => simp only [Am.groundDeep] at hg; rw [h.ground hg]
  | _ => first | rfl | (simp [Am.groundDeep, Am.ground] at hg; done)

/-- Of one cell, in the model's word. -/
theorem VR.oneCell {m : M} {v v' : Value} (h : VR m v v') : v'.oneCell' = v.oneCell' := by cases h <;> rfl
theorem VR.cells {m : M} {v v' : Value} (h : VR m v v') : LR m (cellsL v) v'.cells.toList := by
  cases h with
  | agg h => exact h
  | bool b => exact .cons (.bool b) .nil
  | int k n => exact .cons (.int k n) .nil
  | string s => exact .cons (.string s) .nil
  | ptr0 => exact .cons .ptr0 .nil
  | ptr h => exact .cons (.ptr h) .nil
  | slice0 n c => exact .cons (.slice0 n c) .nil
  | slice h hc => exact .cons (.slice h hc) .nil
  | empty h => exact .cons (.empty h) .nil
  | map0 => exact .cons .map0 .nil
  | map h => exact .cons (.map h) .nil
  | func f h hc => exact .cons (.func f h hc) .nil
  | yield h => exact .cons (.yield h) .nil
  | nilFunc => exact .cons .nilFunc .nil
  | nilIface => exact .cons .nilIface .nil
  | iface t h => exact .cons (.iface t h) .nil
  | tuple h => exact .cons (.tuple h) .nil
  | data hi h hs hl hc hk => exact .cons (.data hi h hs hl hc hk) .nil
  | data0 ha hk => exact .cons (.data0 ha hk) .nil
  | dataPtr hi h => exact .cons (.dataPtr hi h) .nil


/-! ### Slots, deferred calls, panics, maps, objects -/
def TR (m : M) (tm : Tr Value) (tmps : Array Value) : Prop := ∀ t v, tm.get t = some v → ∃ v', tmps[t]? = some v' ∧ VR m v v'
theorem TR.mono {m m' : M} (hm : MLe m m') {tm : Tr Value} {tmps : Array Value} (h : TR m tm tmps) : TR m' tm tmps :=
  fun t v e => let ⟨v', h1, h2⟩ := h t v e; ⟨v', h1, h2.mono hm⟩
theorem TR.set {m : M} {tm : Tr Value} {tmps : Array Value} {d : Nat} {v v' : Value} (h : TR m tm tmps) (hd : d < tmps.size) (hv : VR m v v') :
    TR m (tm.set d v) (tmps.setIfInBounds d v') := by
  intro t x e
  by_cases ht : t = d
  · subst ht
    have := Tr.get_set_eq tm e
    subst this
    exact ⟨v', by simp [hd], hv⟩
  · rw [Tr.get_set_ne tm v ht] at e
    obtain ⟨x', h1, h2⟩ := h t x e
    exact ⟨x', by rw [Array.getElem?_setIfInBounds_ne (Ne.symm ht)]; exact h1, h2⟩
theorem putT_none (tm : Tr Value) (v : Value) : putT tm v none = tm := rfl
theorem putT_some (tm : Tr Value) (v : Value) (d : Tmp) : putT tm v (some d) = tm.set d v := rfl
def dstIn (nt : Nat) (dst : Option Tmp) : Prop := ∀ d, dst = some d → d < nt
theorem TR.put {m : M} {tm : Tr Value} {a : Act} {dst : Option Tmp} {v v' : Value} (h : TR m tm a.tmps) (hd : dstIn a.tmps.size dst) (hv : VR m v v') :
    TR m (putT tm v dst) (a.put dst v').tmps := by
  cases dst with
  | none => exact h
  | some d => exact h.set (hd d rfl) hv
theorem put_size (a : Act) (dst : Option Tmp) (v : Value) : (a.put dst v).tmps.size = a.tmps.size := by cases dst <;> simp [Act.put]
theorem put_defers (a : Act) (dst : Option Tmp) (v : Value) : (a.put dst v).defers = a.defers := by cases dst <;> simp [Act.put]

inductive DR1 (m : M) : Deferred → Deferred → Prop
  | fn (f : FuncId) {c c' l l' : List Value} (hc : LR m c c') (h : LR m l l') : DR1 m ⟨.fn (.func f) ⟨c⟩, ⟨l⟩⟩ ⟨.fn (.func f) ⟨c'⟩, ⟨l'⟩⟩
  | collected {b : Nat} {pl : Pl} (h : m b = some pl) : DR1 m ⟨.collected b, #[]⟩ ⟨.collected pl.blk, #[]⟩
inductive DR (m : M) : List Deferred → List Deferred → Prop
  | nil : DR m [] []
  | cons {d d' : Deferred} {l l' : List Deferred} (h : DR1 m d d') (hl : DR m l l') : DR m (d :: l) (d' :: l')
theorem DR1.mono {m m' : M} (hm : MLe m m') {d d' : Deferred} : DR1 m d d' → DR1 m' d d'
  | .fn f hc h => .fn f (hc.mono hm) (h.mono hm)
  | .collected h => .collected (hm.to _ _ h)
theorem DR.mono {m m' : M} (hm : MLe m m') : ∀ {l l' : List Deferred}, DR m l l' → DR m' l l'
  | _, _, .nil => .nil
  | _, _, .cons h hl => .cons (h.mono hm) (hl.mono hm)

inductive CR (m : M) : List PanicEntry → List PanicEntry → Prop
  | nil : CR m [] []
  | cons {v v' : Value} {r : Bool} {l l' : List PanicEntry} (h : VR m v v') (hl : CR m l l') : CR m (⟨v, r, false⟩ :: l) (⟨v', r, false⟩ :: l')
theorem CR.mono {m m' : M} (hm : MLe m m') : ∀ {l l' : List PanicEntry}, CR m l l' → CR m' l l'
  | _, _, .nil => .nil
  | _, _, .cons h hl => .cons (h.mono hm) (hl.mono hm)
theorem CR.append {m : M} : ∀ {l l' r r' : List PanicEntry}, CR m l l' → CR m r r' → CR m (l ++ r) (l' ++ r')
  | _, _, _, _, .nil, hr => hr
  | _, _, _, _, .cons h hl, hr => .cons h (hl.append hr)
inductive PR (m : M) : Option (List PanicEntry) → Option (List PanicEntry) → Prop
  | none : PR m none none
  | some {l l' : List PanicEntry} (h : CR m l l') : PR m (some l) (some l')
theorem PR.mono {m m' : M} (hm : MLe m m') {a b : Option (List PanicEntry)} : PR m a b → PR m' a b
  | .none => .none
  | .some h => .some (h.mono hm)

inductive ER (m : M) : List MapEntry → List MapEntry → Prop
  | nil : ER m [] []
  | cons {k v v' : Value} {n : Nat} {l l' : List MapEntry} (hk : ground k = true) (h : VR m v v') (hl : ER m l l') : ER m (⟨k, v, n⟩ :: l) (⟨k, v', n⟩ :: l')
theorem ER.mono {m m' : M} (hm : MLe m m') : ∀ {l l' : List MapEntry}, ER m l l' → ER m' l l'
  | _, _, .nil => .nil
  | _, _, .cons hk h hl => .cons hk (h.mono hm) (hl.mono hm)

/-- The records of a loop over a function. -/
structure LpR (m : M) (r : ALoop) (r' : Loop) : Prop where
  state : r'.state = r.state
  pending : r'.pending = r.pending
  fn : r'.fn = r.fn
  tmps : TR m r.tmps r'.tmps
  params : r'.params = r.params
  assign : r'.assign = r.assign
  body : r'.body = r.body
  defers : ∃ pl, m r.defers = some pl ∧ r'.defers = pl.blk
  okP : paramsOK r'.tmps.size r.params.toList = true
  okA : codeOK r'.tmps.size r.assign = true
  okB : codeOK r'.tmps.size r.body = true
theorem LpR.mono {m m' : M} (hm : MLe m m') {r : ALoop} {r' : Loop} (h : LpR m r r') : LpR m' r r' :=
  { h with tmps := h.tmps.mono hm, defers := let ⟨pl, h1, h2⟩ := h.defers; ⟨pl, hm.to _ _ h1, h2⟩ }

inductive OR (T : Tab) (m : M) (pl : Pl) : AObj → Obj → Prop
  | cells {c c' pre post : List Value} {e e' : TypeId} {g : Bool} (h : LR m c c') (hp : pre.length = pl.sh) (hk : c.length = pl.klen)
      (hx : pl.ext ≤ post.length) (hg : g = false → pl.ext = 0) (hs : 0 < pl.sz) (ht : g = true → size T e = some pl.sz) :
      OR T m pl (.cells c e g) (.cells ⟨pre ++ (c' ++ post)⟩ e' (0, 0))
  | map {es es' : List MapEntry} {cl : Nat} (h : ER m es es') : OR T m pl (.map ⟨es⟩ cl) (.map ⟨es'⟩ cl)
  | strIter (s : ByteArray) (p : Nat) (hs : pl.sh = 0) : OR T m pl (.strIter s p) (.stringIter s p)
  | mapIter0 (a : Nat) (s : Array Nat) (l : Nat) (hs : pl.sh = 0) : OR T m pl (.mapIter none a s l) (.mapIter none a s l)
  | mapIter {b : Nat} {p : Pl} (a : Nat) (s : Array Nat) (l : Nat) (h : m b = some p) (hs : pl.sh = 0) : OR T m pl (.mapIter (some b) a s l) (.mapIter (some p.blk) a s l)
  | loop {r : ALoop} {r' : Loop} (h : LpR m r r') : OR T m pl (.loop r) (.loop r')
  | deferred0 : OR T m pl (.deferred none) (.deferred none)
  | deferred {l l' : List Deferred} (h : DR m l l') : OR T m pl (.deferred (some l)) (.deferred (some l'))
theorem OR.mono {T : Tab} {m m' : M} (hm : MLe m m') {pl : Pl} {o : AObj} {o' : Obj} : OR T m pl o o' → OR T m' pl o o'
  | .cells h hp hk hx hg hs ht => .cells (h.mono hm) hp hk hx hg hs ht
  | .map h => .map (h.mono hm)
  | .strIter s p hs => .strIter s p hs
  | .mapIter0 a s l hs => .mapIter0 a s l hs
  | .mapIter a s l h hs => .mapIter a s l (hm.to _ _ h) hs
  | .loop h => .loop (h.mono hm)
  | .deferred0 => .deferred0
  | .deferred h => .deferred (h.mono hm)
theorem OR.frozen {T : Tab} {m : M} {pl : Pl} {o : AObj} {c : Array Value} {e : TypeId} {f : Nat × Nat} (h : OR T m pl o (.cells c e f)) : f = (0, 0) := by cases h; rfl

/-! ### The abstract memory -/
theorem onH_mk {β : Type} (f : Tr AObj → Nat → Nat → Nat → Nat → β) (m : Tr AObj) (n b r w : Nat) : onH f ⟨m, n, b, r, w⟩ = f m n b r w := rfl
theorem forceN_eq {β : Type} (k : Nat → β) : ∀ n, forceN k n = k n
  | 0 => rfl
  | _ + 1 => rfl
/-- Later memory: more blocks, more notes. -/
structure Le (h h' : H) : Prop where
  next : h.next ≤ h'.next
  base : h'.base = h.base
  rd : ∀ b, h.rd.testBit b = true → h'.rd.testBit b = true
  wr : ∀ b, h.wr.testBit b = true → h'.wr.testBit b = true
  keep : ∀ b, b < h.next → b < h'.base → ¬ h'.wr.testBit b = true → h'.get b = h.get b
  dom : (∀ b o, h.get b = some o → b < h.next) → ∀ b o, h'.get b = some o → b < h'.next
theorem Le.refl (h : H) : Le h h := ⟨Nat.le_refl _, rfl, fun _ h => h, fun _ h => h, fun _ _ _ _ => rfl, fun h => h⟩
theorem Le.trans {a b c : H} (h : Le a b) (h' : Le b c) : Le a c :=
  ⟨Nat.le_trans h.next h'.next, by rw [h'.base, h.base], fun x hx => h'.rd x (h.rd x hx), fun x hx => h'.wr x (h.wr x hx),
   fun x h1 h2 h3 => by rw [h'.keep x (Nat.lt_of_lt_of_le h1 h.next) h2 h3, h.keep x h1 (by rw [← h'.base]; exact h2) (fun q => h3 (h'.wr x q))], fun d => h'.dom (h.dom d)⟩
theorem testBit_lor_left {r x b : Nat} (h : r.testBit b = true) : (Nat.lor r x).testBit b = true := by
  have : Nat.lor r x = r ||| x := rfl
  rw [this, Nat.testBit_or, h, Bool.true_or]
theorem testBit_lor_right {r x b : Nat} (h : x.testBit b = true) : (Nat.lor r x).testBit b = true := by
  have : Nat.lor r x = r ||| x := rfl
  rw [this, Nat.testBit_or, h, Bool.or_true]
theorem testBit_bit (b : Nat) : (bit b).testBit b = true := by
  have : bit b = 1 <<< b := rfl
  rw [this, Nat.testBit_shiftLeft]; simp
theorem touch_eq (h : H) (b : Nat) : h.touch b = if h.base ≤ b then h else { h with rd := Nat.lor h.rd (bit b) } := by
  obtain ⟨m, n, bs, r, w⟩ := h
  show onB (forceN (fun r => (⟨m, n, bs, r, w⟩ : H)) (Nat.lor r (bit b))) ⟨m, n, bs, r, w⟩ (Nat.ble bs b) = _
  rw [forceN_eq]
  cases e : Nat.ble bs b with
  | true => rw [if_pos (nble_true e)]; rfl
  | false => rw [if_neg (Nat.not_le.2 (nble_false e))]; rfl
theorem mark_eq (h : H) (b : Nat) : h.mark b = if h.base ≤ b then h else { h with rd := Nat.lor h.rd (bit b), wr := Nat.lor h.wr (bit b) } := by
  obtain ⟨m, n, bs, r, w⟩ := h
  show onB (forceN (fun r => forceN (fun w => (⟨m, n, bs, r, w⟩ : H)) (Nat.lor w (bit b))) (Nat.lor r (bit b))) ⟨m, n, bs, r, w⟩ (Nat.ble bs b) = _
  rw [forceN_eq, forceN_eq]
  cases e : Nat.ble bs b with
  | true => rw [if_pos (nble_true e)]; rfl
  | false => rw [if_neg (Nat.not_le.2 (nble_false e))]; rfl
theorem putM_eq (h : H) (b : Nat) (o : AObj) : h.putM b o = { h with m := h.m.set b o } := by cases h; rfl
theorem delM_eq (h : H) (b : Nat) : h.delM b = { h with m := h.m.del b } := by cases h; rfl
theorem new_eq (h : H) (o : AObj) : h.new o = { h with m := h.m.set h.next o, next := h.next + 1 } := by
  obtain ⟨m, n, bs, r, w⟩ := h
  show forceN (fun n' => (⟨m.set n o, n', bs, r, w⟩ : H)) (Nat.succ n) = _
  rw [forceN_eq]
theorem touch_get (h : H) (b j : Nat) : (h.touch b).get j = h.get j := by rw [touch_eq]; split <;> rfl
theorem touch_next (h : H) (b : Nat) : (h.touch b).next = h.next := by rw [touch_eq]; split <;> rfl
theorem touch_le (h : H) (b : Nat) : Le h (h.touch b) := by
  rw [touch_eq]; split
  · exact .refl _
  · exact ⟨Nat.le_refl _, rfl, fun _ hx => testBit_lor_left hx, fun _ hx => hx, fun _ _ _ _ => rfl, fun h => h⟩
theorem touch_noted (h : H) (b : Nat) : (h.touch b).base ≤ b ∨ (h.touch b).rd.testBit b = true := by
  rw [touch_eq]; split
  · exact .inl ‹_›
  · exact .inr (testBit_lor_right (testBit_bit b))
theorem mark_get (h : H) (b j : Nat) : (h.mark b).get j = h.get j := by rw [mark_eq]; split <;> rfl
theorem mark_next (h : H) (b : Nat) : (h.mark b).next = h.next := by rw [mark_eq]; split <;> rfl
theorem mark_base (h : H) (b : Nat) : (h.mark b).base = h.base := by rw [mark_eq]; split <;> rfl
theorem mark_le (h : H) (b : Nat) : Le h (h.mark b) := by
  rw [mark_eq]; split
  · exact .refl _
  · exact ⟨Nat.le_refl _, rfl, fun _ hx => testBit_lor_left hx, fun _ hx => testBit_lor_left hx, fun _ _ _ _ => rfl, fun h => h⟩
theorem mark_noted (h : H) (b : Nat) : (h.mark b).base ≤ b ∨ ((h.mark b).rd.testBit b = true ∧ (h.mark b).wr.testBit b = true) := by
  rw [mark_eq]; split
  · exact .inl ‹_›
  · exact .inr ⟨testBit_lor_right (testBit_bit b), testBit_lor_right (testBit_bit b)⟩
theorem put_next (h : H) (b : Nat) (o : AObj) : (h.put b o).next = h.next := by rw [H.put, putM_eq]; exact mark_next h b
theorem put_get_ne (h : H) {b j : Nat} (o : AObj) (hj : j ≠ b) : (h.put b o).get j = h.get j := by
  rw [H.put, putM_eq]; show ((h.mark b).m.set b o).get j = _; rw [Tr.get_set_ne _ _ hj]; exact mark_get h b j
theorem put_get_eq (h : H) {b : Nat} {o x : AObj} (e : (h.put b o).get b = some x) : x = o := by
  rw [H.put, putM_eq] at e; exact Tr.get_set_eq _ e
theorem put_noted (h : H) (b : Nat) (o : AObj) : (h.put b o).base ≤ b ∨ ((h.put b o).rd.testBit b = true ∧ (h.put b o).wr.testBit b = true) := by
  rw [H.put, putM_eq]; exact mark_noted h b
theorem put_base (h : H) (b : Nat) (o : AObj) : (h.put b o).base = h.base := by rw [H.put, putM_eq]; exact mark_base h b
theorem put_le (h : H) (b : Nat) (o : AObj) {o0 : AObj} (hg : h.get b = some o0) : Le h (h.put b o) := by
  refine ⟨Nat.le_of_eq (put_next h b o).symm, put_base h b o, ?_, ?_, fun j _ h2 h3 => ?_, fun d j x hj => ?_⟩
  · rw [H.put, putM_eq]; exact (mark_le h b).rd
  · rw [H.put, putM_eq]; exact (mark_le h b).wr
  · refine put_get_ne h o fun e => ?_
    subst e
    rcases put_noted h j o with q | q
    · omega
    · exact h3 q.2
  · rw [put_next]
    by_cases e : j = b
    · subst e; exact d j o0 hg
    · rw [put_get_ne h o e] at hj; exact d j x hj
theorem drop_next (h : H) (b : Nat) : (h.drop b).next = h.next := by rw [H.drop, delM_eq]; exact mark_next h b
theorem drop_get_ne (h : H) {b j : Nat} (hj : j ≠ b) : (h.drop b).get j = h.get j := by
  rw [H.drop, delM_eq]; show ((h.mark b).m.del b).get j = _; rw [Tr.get_del_ne _ hj]; exact mark_get h b j
theorem drop_get_eq (h : H) (b : Nat) : (h.drop b).get b = none := by rw [H.drop, delM_eq]; exact Tr.get_del_eq _ b
theorem drop_noted (h : H) (b : Nat) : (h.drop b).base ≤ b ∨ ((h.drop b).rd.testBit b = true ∧ (h.drop b).wr.testBit b = true) := by
  rw [H.drop, delM_eq]; exact mark_noted h b
theorem drop_base (h : H) (b : Nat) : (h.drop b).base = h.base := by rw [H.drop, delM_eq]; exact mark_base h b
theorem drop_le (h : H) (b : Nat) : Le h (h.drop b) := by
  refine ⟨Nat.le_of_eq (drop_next h b).symm, drop_base h b, ?_, ?_, fun j _ h2 h3 => ?_, fun d j x hj => ?_⟩
  · rw [H.drop, delM_eq]; exact (mark_le h b).rd
  · rw [H.drop, delM_eq]; exact (mark_le h b).wr
  · refine drop_get_ne h fun e => ?_
    subst e
    rcases drop_noted h j with q | q
    · omega
    · exact h3 q.2
  · rw [drop_next]
    by_cases e : j = b
    · subst e; rw [drop_get_eq] at hj; cases hj
    · rw [drop_get_ne h e] at hj; exact d j x hj
theorem new_next (h : H) (o : AObj) : (h.new o).next = h.next + 1 := by rw [new_eq]
theorem new_get_ne (h : H) {j : Nat} (o : AObj) (hj : j ≠ h.next) : (h.new o).get j = h.get j := by
  rw [new_eq]; show (h.m.set h.next o).get j = _; exact Tr.get_set_ne _ _ hj
theorem new_get_eq (h : H) {o x : AObj} (e : (h.new o).get h.next = some x) : x = o := by rw [new_eq] at e; exact Tr.get_set_eq _ e
theorem new_le (h : H) (o : AObj) : Le h (h.new o) := by
  refine ⟨by rw [new_next]; omega, by rw [new_eq], ?_, ?_, fun j h1 _ _ => new_get_ne h o (by omega), fun d j x hj => ?_⟩
  · rw [new_eq]; exact fun _ h => h
  · rw [new_eq]; exact fun _ h => h
  · rw [new_next]
    by_cases e : j = h.next
    · omega
    · rw [new_get_ne h o e] at hj; have := d j x hj; omega

end Go.Am
