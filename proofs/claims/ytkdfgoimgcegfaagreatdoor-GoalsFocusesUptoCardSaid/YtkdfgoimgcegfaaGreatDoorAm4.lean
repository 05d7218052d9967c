/- The abstract machine: an evaluator of closed calls, independent of the tape. Definitions alone, written for the kernel: small bodies, recursors. -/
import GoSem.Dispatch
import GoSem.Machine.Frame
set_option linter.unusedSectionVars false
set_option linter.unusedSimpArgs false
set_option linter.unusedVariables false
namespace Go.Am

/-- A trie keyed by positive numbers. -/
inductive Tr (α : Type) where
  | nil
  | node (v : Option α) (l r : Tr α)

namespace Tr
variable {α : Type}
--REC
noncomputable def getP (t : Tr α) : Nat → Option α :=
  Tr.rec (motive := fun _ => Nat → Option α) (fun _ => none)
    (fun v _ _ il ir k => Bool.rec (motive := fun _ => Option α) (Bool.rec (motive := fun _ => Nat → Option α) ir il (Nat.beq (Nat.mod k 2) 0) (Nat.div k 2)) v (Nat.beq k 1)) t
noncomputable def oneP (x : α) (f : Nat) : Nat → Tr α :=
  Nat.rec (motive := fun _ => Nat → Tr α) (fun _ => .nil)
    (fun _ ih k => Bool.rec (motive := fun _ => Tr α) (Bool.rec (motive := fun _ => Tr α) (.node none .nil (ih (Nat.div k 2))) (.node none (ih (Nat.div k 2)) .nil) (Nat.beq (Nat.mod k 2) 0)) (.node (some x) .nil .nil) (Nat.beq k 1)) f
noncomputable def setP (t : Tr α) : Nat → α → Tr α :=
  Tr.rec (motive := fun _ => Nat → α → Tr α) (fun k x => oneP x k k)
    (fun v l r il ir k x => Bool.rec (motive := fun _ => Tr α) (Bool.rec (motive := fun _ => Tr α) (.node v l (ir (Nat.div k 2) x)) (.node v (il (Nat.div k 2) x) r) (Nat.beq (Nat.mod k 2) 0)) (.node (some x) l r) (Nat.beq k 1)) t
noncomputable def delP (t : Tr α) : Nat → Tr α :=
  Tr.rec (motive := fun _ => Nat → Tr α) (fun _ => .nil)
    (fun v l r il ir k => cond (Nat.beq k 1) (.node none l r) (cond (Nat.beq (Nat.mod k 2) 0) (.node v (il (Nat.div k 2)) r) (.node v l (ir (Nat.div k 2))))) t
noncomputable def ofList (l : List α) : Nat → Tr α → Tr α :=
  List.rec (motive := fun _ => Nat → Tr α → Tr α) (fun _ t => t) (fun x _ ih k t => ih (Nat.succ k) (t.setP k x)) l
--ALT
--def getP : Tr α → Nat → Option α
--  | .nil, _ => none
--  | .node v l r, k => if k == 1 then v else if k % 2 == 0 then l.getP (k / 2) else r.getP (k / 2)
--def oneP (x : α) : Nat → Nat → Tr α
--  | 0, _ => .nil
--  | f + 1, k => if k == 1 then .node (some x) .nil .nil else if k % 2 == 0 then .node none (oneP x f (k / 2)) .nil else .node none .nil (oneP x f (k / 2))
--def setP : Tr α → Nat → α → Tr α
--  | .nil, k, x => oneP x k k
--  | .node v l r, k, x => if k == 1 then .node (some x) l r else if k % 2 == 0 then .node v (l.setP (k / 2) x) r else .node v l (r.setP (k / 2) x)
--def delP : Tr α → Nat → Tr α
--  | .nil, _ => .nil
--  | .node v l r, k => if k == 1 then .node none l r else if k % 2 == 0 then .node v (l.delP (k / 2)) r else .node v l (r.delP (k / 2))
--def ofList : List α → Nat → Tr α → Tr α
--  | [], _, t => t
--  | x :: l, k, t => ofList l (k + 1) (t.setP k x)
--END
noncomputable def get (t : Tr α) (b : Nat) : Option α := t.getP (Nat.succ b)
noncomputable def set (t : Tr α) (b : Nat) (x : α) : Tr α := t.setP (Nat.succ b) x
noncomputable def del (t : Tr α) (b : Nat) : Tr α := t.delP (Nat.succ b)
end Tr

/-! Eliminators whose arms are closed: the kernel copies only the arm that is taken. -/
--REC
noncomputable def onO {α β : Type} (n : β) (s : α → β) (o : Option α) : β := Option.rec (motive := fun _ => β) n s o
noncomputable def onB {β : Type} (f t : β) (b : Bool) : β := Bool.rec (motive := fun _ => β) f t b
--ALT
--def onO {α β : Type} (n : β) (s : α → β) (o : Option α) : β := match o with | none => n | some a => s a
--def onB {β : Type} (f t : β) (b : Bool) : β := match b with | false => f | true => t
--END

structure ALoop where
  state : LoopState
  pending : Option Code
  fn : FuncId
  tmps : Tr Value
  params : Array Tmp
  assign : Code
  body : Code
  defers : Nat

inductive AObj where
  | cells (c : List Value) (elem : TypeId) (grow : Bool)
  | map (entries : Array MapEntry) (clock : Nat)
  | strIter (s : ByteArray) (pos : Nat)
  | mapIter (map : Option Nat) (since : Nat) (seen : Array Nat) (stepped : Nat)
  | loop (l : ALoop)
  | deferred (calls : Option (List Deferred))

/-- Memory: the blocks that are known; the next number; the number from which on nothing is noted; the blocks below it that have been touched, and those that have been written, as bits. -/
structure H where
  m : Tr AObj
  next : Nat
  base : Nat
  rd : Nat
  wr : Nat

structure Tab where
  prog : Program
  info : Tr TypeInfo
  funcs : Tr (Option Func)

inductive Res where
  | fail
  | val (v : Value) (h : H)
/-- What an operation comes to: a result; a panic; a call; a call that is deferred; recover. -/
inductive Out where
  | of (r : Res)
  | pan (v : Value)
  | call (f : Value) (args : List Value)
  | dfr (f : Value) (args : List Value)
  | recov

/-! Memory -/
def bit (b : Nat) : Nat := Nat.shiftLeft 1 b
--REC
noncomputable def forceN {β : Type} (k : Nat → β) (n : Nat) : β := Nat.rec (motive := fun _ => (Nat → β) → β) (fun k => k 0) (fun i _ k => k (Nat.succ i)) n k
noncomputable def onH {β : Type} (f : Tr AObj → Nat → Nat → Nat → Nat → β) (h : H) : β := H.rec (motive := fun _ => β) f h
--ALT
--def forceN {β : Type} (k : Nat → β) (n : Nat) : β := k n
--def onH {β : Type} (f : Tr AObj → Nat → Nat → Nat → Nat → β) (h : H) : β := match h with | ⟨m, n, bs, r, w⟩ => f m n bs r w
--END
noncomputable def H.touch (h : H) (b : Nat) : H :=
  onH (fun m n bs r w => onB (forceN (fun r => ⟨m, n, bs, r, w⟩) (Nat.lor r (bit b))) ⟨m, n, bs, r, w⟩ (Nat.ble bs b)) h
noncomputable def H.mark (h : H) (b : Nat) : H :=
  onH (fun m n bs r w => onB (forceN (fun r => forceN (fun w => ⟨m, n, bs, r, w⟩) (Nat.lor w (bit b))) (Nat.lor r (bit b))) ⟨m, n, bs, r, w⟩ (Nat.ble bs b)) h
noncomputable def H.get (h : H) (b : Nat) : Option AObj := h.m.get b
noncomputable def H.putM (h : H) (b : Nat) (o : AObj) : H := onH (fun m n bs r w => ⟨m.set b o, n, bs, r, w⟩) h
noncomputable def H.put (h : H) (b : Nat) (o : AObj) : H := (h.mark b).putM b o
noncomputable def H.delM (h : H) (b : Nat) : H := onH (fun m n bs r w => ⟨m.del b, n, bs, r, w⟩) h
noncomputable def H.drop (h : H) (b : Nat) : H := (h.mark b).delM b
noncomputable def H.new (h : H) (o : AObj) : H := onH (fun m n bs r w => forceN (fun n' => ⟨m.set n o, n', bs, r, w⟩) (Nat.succ n)) h

/-- Values without addresses. -/
def ground : Value → Bool
  | .bool _ | .int .. | .string _ | .nilFunc | .nilIface | .pointer none | .slice none _ _ | .map none => true
  | _ => false
--REC
noncomputable def allGround (l : List Value) : Bool := List.rec (motive := fun _ => Bool) true (fun v _ ih => cond (ground v) ih false) l
--ALT
--def allGround (l : List Value) : Bool := l.all ground
--END
noncomputable def groundDeep : Value → Bool
  | .agg cs => allGround cs.toList
  | v => ground v
noncomputable def underI (T : Tab) (o : Option TypeInfo) : Option TypeDesc :=
  match o with
  | none => none
  | some i => match i.desc with
    | .named _ u => match T.info.get u with
      | some j => some j.desc
      | none => none
    | d => some d
noncomputable def Tab.under (T : Tab) (t : TypeId) : Option TypeDesc := underI T (T.info.get t)
noncomputable def size (T : Tab) (t : TypeId) : Option Nat := onO none (fun i => some i.size) (T.info.get t)
noncomputable def zeroG : Option Value → Option Value
  | some z => cond (groundDeep z) (some z) none
  | none => none
noncomputable def zero (T : Tab) (t : TypeId) : Option Value := onO none (fun i => zeroG i.zero) (T.info.get t)
def aggDesc : Option TypeDesc → Option Bool
  | some (.struct _) | some (.array ..) => some true
  | some _ => some false
  | none => none
noncomputable def isAgg (T : Tab) (t : TypeId) : Option Bool := aggDesc (T.under t)

/-- A computation that needs no memory. -/
def pureRun {α : Type} (p : Program) : Sem α → Option α
  | .pure a => some a
  | .program k => pureRun p (k p)
  | _ => none

/-! Lists of cells -/
--REC
noncomputable def takeL (n : Nat) : List Value → Option (List Value) :=
  Nat.rec (motive := fun _ => List Value → Option (List Value)) (fun _ => some [])
    (fun _ ih l => match l with
      | [] => none
      | x :: l => match ih l with
        | some r => some (x :: r)
        | none => none) n
noncomputable def dropL (n : Nat) : List Value → List Value :=
  Nat.rec (motive := fun _ => List Value → List Value) (fun l => l) (fun _ ih l => match l with | [] => [] | _ :: l => ih l) n
noncomputable def over (vs : List Value) : List Value → Option (List Value) :=
  List.rec (motive := fun _ => List Value → Option (List Value)) (fun l => some l)
    (fun v _ ih l => match l with
      | [] => none
      | _ :: l => match ih l with
        | some r => some (v :: r)
        | none => none) vs
noncomputable def splice (off : Nat) (vs : List Value) : List Value → Option (List Value) :=
  Nat.rec (motive := fun _ => List Value → Option (List Value)) (over vs)
    (fun _ ih l => match l with
      | [] => none
      | x :: l => match ih l with
        | some r => some (x :: r)
        | none => none) off
noncomputable def lenL (l : List Value) : Nat := List.rec (motive := fun _ => Nat) 0 (fun _ _ ih => Nat.succ ih) l
noncomputable def appL (l r : List Value) : List Value := List.rec (motive := fun _ => List Value) r (fun x _ ih => x :: ih) l
noncomputable def nthL (n : Nat) : List Value → Option Value :=
  Nat.rec (motive := fun _ => List Value → Option Value) (fun l => match l with | [] => none | x :: _ => some x)
    (fun _ ih l => match l with | [] => none | _ :: l => ih l) n
noncomputable def replicateZ (z : List Value) (n : Nat) : List Value := Nat.rec (motive := fun _ => List Value) [] (fun _ ih => appL z ih) n
--ALT
--def takeL (n : Nat) (l : List Value) : Option (List Value) := if n ≤ l.length then some (l.take n) else none
--def dropL (n : Nat) (l : List Value) : List Value := l.drop n
--def over (vs : List Value) (l : List Value) : Option (List Value) := if vs.length ≤ l.length then some (vs ++ l.drop vs.length) else none
--def splice (off : Nat) (vs : List Value) (l : List Value) : Option (List Value) := if off ≤ l.length then (over vs (l.drop off)).map (l.take off ++ ·) else none
--def lenL (l : List Value) : Nat := l.length
--def appL (l r : List Value) : List Value := l ++ r
--def nthL (n : Nat) (l : List Value) : Option Value := l[n]?
--def replicateZ (z : List Value) (n : Nat) : List Value := (List.replicate n z).flatten
--END

noncomputable def cut (c : List Value) (off n : Nat) : Option (List Value) := takeL n (dropL off c)
def aggOf : Option (List Value) → Option Value
  | some r => some (.agg ⟨r⟩)
  | none => none
noncomputable def partAgg (c : List Value) (off : Nat) : Option Nat → Option Value
  | some n => aggOf (cut c off n)
  | none => none
noncomputable def partBy (T : Tab) (t : TypeId) (c : List Value) (off : Nat) (o : Option Bool) : Option Value :=
  onO (β := Tab → TypeId → List Value → Nat → Option Value) (fun _ _ _ _ => none)
    (fun b => onB (fun _ _ c off => nthL off c) (fun T t c off => partAgg c off (size T t)) b) o T t c off
/-- The value of a type that lies at an offset of cells. -/
noncomputable def partOf (T : Tab) (t : TypeId) (c : List Value) (off : Nat) : Option Value := partBy T t c off (isAgg T t)

noncomputable def vres (h : H) (o : Option Value) : Res := onO (β := H → Res) (fun _ => .fail) (fun v h => .val v h) o h
/-- A value without addresses. -/
noncomputable def vresG (h : H) (o : Option Value) : Res := onO (β := H → Res) (fun _ => .fail) (fun v h => onB .fail (.val v h) (groundDeep v)) o h
def hres : Option H → Res
  | some h => .val undef h
  | none => .fail

/-- What is asked of values most, by closed arms. -/
inductive Ptr where
  | no
  | to (b off : Nat)
  | data (e : Value) (f : Nat)
/-- A slice that is known as data: the elements, where it begins among them, its length, its capacity if that is known. A pointer into data: the element, and the cell's place in it. -/
abbrev dsl (es : List Value) (off len : Nat) (caps : List Value) : Value := .func (.via off #[] len false) ⟨es⟩ ⟨caps⟩
abbrev dptr (e : Value) (f : Nat) : Value := .func (.via f #[] 0 true) ⟨[e]⟩ #[]
def dataPtr (f : Nat) : List Value → Ptr
  | [e] => .data e f
  | _ => .no
def fnPtr (es : Array Value) : Fn → Ptr
  | .via f _ _ true => dataPtr f es.toList
  | _ => .no
inductive IntV where
  | no
  | yes (k : IntKind) (n : Int)
--REC
noncomputable def addrTo (a : Addr) : Ptr := Addr.rec (motive := fun _ => Ptr) (fun b off s => onO (β := Nat → Nat → Ptr) (fun b off => .to b off) (fun _ _ _ => .no) s b off) a
noncomputable def ptrTo (v : Value) : Ptr :=
  Value.casesOn (motive_1 := fun _ => Ptr) v (fun _ => .no) (fun _ _ => .no) (fun _ _ => .no) (fun _ _ _ => .no) (fun _ => .no) (fun a => onO .no addrTo a)
    (fun _ _ _ => .no) (fun _ => .no) (fun _ => .no) (fun fn es _ => fnPtr es fn) .no (fun _ _ => .no) .no (fun _ => .no) (fun _ => .no)
noncomputable def asInt (v : Value) : IntV :=
  Value.casesOn (motive_1 := fun _ => IntV) v (fun _ => .no) (fun k n => .yes k n) (fun _ _ => .no) (fun _ _ _ => .no) (fun _ => .no) (fun _ => .no)
    (fun _ _ _ => .no) (fun _ => .no) (fun _ => .no) (fun _ _ _ => .no) .no (fun _ _ => .no) .no (fun _ => .no) (fun _ => .no)
noncomputable def asBool (v : Value) : Option Bool :=
  Value.casesOn (motive_1 := fun _ => Option Bool) v (fun b => some b) (fun _ _ => none) (fun _ _ => none) (fun _ _ _ => none) (fun _ => none) (fun _ => none)
    (fun _ _ _ => none) (fun _ => none) (fun _ => none) (fun _ _ _ => none) none (fun _ _ => none) none (fun _ => none) (fun _ => none)
noncomputable def asTuple (v : Value) : Option (Array Value) :=
  Value.casesOn (motive_1 := fun _ => Option (Array Value)) v (fun _ => none) (fun _ _ => none) (fun _ _ => none) (fun _ _ _ => none) (fun _ => none) (fun _ => none)
    (fun _ _ _ => none) (fun _ => none) (fun _ => none) (fun _ _ _ => none) none (fun _ _ => none) none (fun _ => none) (fun vs => some vs)
noncomputable def asAddr (v : Value) : Option Addr :=
  Value.casesOn (motive_1 := fun _ => Option Addr) v (fun _ => none) (fun _ _ => none) (fun _ _ => none) (fun _ _ _ => none) (fun _ => none) (fun a => a)
    (fun _ _ _ => none) (fun _ => none) (fun _ => none) (fun _ _ _ => none) none (fun _ _ => none) none (fun _ => none) (fun _ => none)
noncomputable def onPtr {β : Type} (n : β) (s : Nat → Nat → β) (d : Value → Nat → β) (p : Ptr) : β := Ptr.rec (motive := fun _ => β) n s d p
noncomputable def onInt {β : Type} (n : β) (s : IntKind → Int → β) (p : IntV) : β := IntV.rec (motive := fun _ => β) n s p
noncomputable def onCells {β : Type} (n : β) (s : List Value → TypeId → Bool → β) (o : AObj) : β :=
  AObj.rec (motive := fun _ => β) s (fun _ _ => n) (fun _ _ => n) (fun _ _ _ _ => n) (fun _ => n) (fun _ => n) o
--ALT
--def ptrTo : Value → Ptr
--  | .pointer (some ⟨b, off, none⟩) => .to b off
--  | .func fn es _ => fnPtr es fn
--  | _ => .no
--def asInt : Value → IntV
--  | .int k n => .yes k n
--  | _ => .no
--def asBool : Value → Option Bool
--  | .bool b => some b
--  | _ => none
--def asTuple : Value → Option (Array Value)
--  | .tuple b => some b
--  | _ => none
--def asAddr : Value → Option Addr
--  | .pointer a => a
--  | _ => none
--def onPtr {β : Type} (n : β) (s : Nat → Nat → β) (d : Value → Nat → β) (p : Ptr) : β := match p with | .no => n | .to b off => s b off | .data e f => d e f
--def onInt {β : Type} (n : β) (s : IntKind → Int → β) (p : IntV) : β := match p with | .no => n | .yes b off => s b off
--def onCells {β : Type} (n : β) (s : List Value → TypeId → Bool → β) (o : AObj) : β := match o with | .cells c e g => s c e g | _ => n
--END
def cellsL : Value → List Value
  | .agg cs => cs.toList
  | v => [v]
noncomputable def loadIn (T : Tab) (h : H) (t : TypeId) (b off : Nat) (o : Option AObj) : Res :=
  onO (β := Tab → H → TypeId → Nat → Nat → Res) (fun _ _ _ _ _ => .fail)
    (fun o => onCells (fun _ _ _ _ _ => .fail) (fun c _ _ T h t b off => vres (h.touch b) (partOf T t c off)) o) o T h t b off
noncomputable def loadAt (T : Tab) (h : H) (t : TypeId) (v : Value) : Res :=
  onPtr (β := Tab → H → TypeId → Res) (fun _ _ _ => .fail) (fun b off T h t => loadIn T h t b off (h.get b)) (fun e f T h t => vres h (partOf T t (cellsL e) f)) (ptrTo v) T h t
/-- The same, but for pointers into data. -/
noncomputable def loadLoc (T : Tab) (h : H) (t : TypeId) (v : Value) : Res :=
  onPtr (β := Tab → H → TypeId → Res) (fun _ _ _ => .fail) (fun b off T h t => loadIn T h t b off (h.get b)) (fun _ _ _ _ _ => .fail) (ptrTo v) T h t

--REC
noncomputable def oneCells (l : List Value) : Bool :=
  List.rec (motive := fun _ => Bool) true (fun v _ ih => match v with | .agg _ => false | .tuple _ => false | _ => ih) l
--ALT
--def oneCells : List Value → Bool
--  | [] => true
--  | .agg _ :: _ | .tuple _ :: _ => false
--  | _ :: l => oneCells l
--END
noncomputable def putSome (h : H) (b : Nat) (e : TypeId) (g : Bool) : Option (List Value) → Option H
  | some c => some (h.put b (.cells c e g))
  | none => none
noncomputable def storeIn (h : H) (b off : Nat) (vs : List Value) : Option AObj → Option H
  | some (.cells c e g) => putSome h b e g (splice off vs c)
  | _ => none
noncomputable def fits (vs : List Value) : Option Nat → Bool
  | some n => cond (Nat.beq (lenL vs) n) (oneCells vs) false
  | none => false
noncomputable def storeTo (h : H) (b off : Nat) (vs : List Value) : Option H := storeIn h b off vs (h.get b)
noncomputable def storeAt (T : Tab) (h : H) (t : TypeId) (v : Value) (a : Value) : Option H :=
  onPtr (β := Tab → H → TypeId → Value → Option H) (fun _ _ _ _ => none)
    (fun b off T h t v => onB none (storeTo h b off (cellsL v)) (fits (cellsL v) (size T t))) (fun _ _ _ _ _ _ => none) (ptrTo a) T h t v

/-! Operands -/
--REC
noncomputable def opv (tm : Tr Value) (x : Operand) : Option Value :=
  Operand.rec (motive := fun _ => Tr Value → Option Value) (fun t tm => tm.get t) (fun v _ => some v) (fun _ _ => none) (fun f _ => some (.func (.func f) #[] #[])) x tm
--ALT
--def opv (tm : Tr Value) : Operand → Option Value
--  | .tmp t => tm.get t
--  | .const v => some v
--  | .global _ => none
--  | .func f => some (.func (.func f) #[] #[])
--END
--REC
noncomputable def opvs (tm : Tr Value) (l : List Operand) : Option (List Value) :=
  List.rec (motive := fun _ => Option (List Value)) (some []) (fun x _ ih => match opv tm x with
    | some v => match ih with
      | some r => some (v :: r)
      | none => none
    | none => none) l
noncomputable def opvParts (tm : Tr Value) (l : List (Nat × Operand)) : Option (List (Nat × Value)) :=
  List.rec (motive := fun _ => Option (List (Nat × Value))) (some []) (fun x _ ih => match opv tm x.2 with
    | some v => match ih with
      | some r => some ((x.1, v) :: r)
      | none => none
    | none => none) l
--ALT
--def opvs (tm : Tr Value) (l : List Operand) : Option (List Value) := l.mapM (opv tm)
--def opvParts (tm : Tr Value) (l : List (Nat × Operand)) : Option (List (Nat × Value)) := l.mapM fun x => (opv tm x.2).map fun v => (x.1, v)
--END

/-! The operations, each by itself -/
noncomputable def boolO (o : Option Value) : Option Bool := onO none asBool o
noncomputable def pickOf (tm : Tr Value) (h : H) (a b : Operand) (o : Option Value) : Res :=
  onO (β := Tr Value → H → Operand → Operand → Res) (fun _ _ _ _ => .fail)
    (fun c => onB (fun tm h _ b => vres h (opv tm b)) (fun tm h a _ => vres h (opv tm a)) c) (boolO o) tm h a b
/-- The cells of a type's zero, as many as its size says. -/
noncomputable def zeroN (T : Tab) (t : TypeId) : Option (List Value) := match T.info.get t with
  | some i => match zeroG i.zero with
    | some z => cond (Nat.beq (lenL (cellsL z)) i.size) (some (cellsL z)) none
    | none => none
  | none => none
noncomputable def boxOf (h : H) (e : TypeId) (o : Option Value) : Res :=
  onO (β := H → TypeId → Res) (fun _ _ => .fail) (fun v h e => .val (.pointer (some ⟨h.next, 0, none⟩)) (h.new (.cells (cellsL v) e false))) o h e
noncomputable def fillCells (place : Nat → Option (Nat × Nat)) (l : List (Nat × Value)) : List Value → Option (List Value) :=
  List.rec (motive := fun _ => List Value → Option (List Value)) (fun c => some c)
    (fun x _ ih c => match place x.1 with
      | some (off, n) => match cond (Nat.beq (lenL (cellsL x.2)) n) (splice off (cellsL x.2) c) none with
        | some c => ih c
        | none => none
      | none => none) l
--ALTFILL
noncomputable def fieldPlace (T : Tab) (fs : Array Field) (i : Nat) : Option (Nat × Nat) :=
  match fs.toList[i]? with
  | some f => match size T f.type with
    | some n => some (f.offset, n)
    | none => none
  | none => none
def elemPlace (n i : Nat) : Option (Nat × Nat) := some (i * n, n)
def aggRes (h : H) : Option (List Value) → Res
  | some c => .val (.agg ⟨c⟩) h
  | none => .fail
noncomputable def fieldsOK (T : Tab) : List Field → Bool
  | [] => true
  | f :: l => match size T f.type with
    | some _ => fieldsOK T l
    | none => false
noncomputable def buildBy (T : Tab) (h : H) (z : List Value) (ps : List (Nat × Value)) : Option TypeDesc → Res
  | some (.struct fs) => onB .fail (aggRes h (fillCells (fieldPlace T fs) ps z)) (fieldsOK T fs.toList)
  | some (.array _ e) => match size T e with
    | some n => aggRes h (fillCells (elemPlace n) ps z)
    | none => .fail
  | _ => .fail
noncomputable def buildOf (T : Tab) (h : H) (t : TypeId) : Option Value → Option (List (Nat × Value)) → Res
  | some z, some ps => buildBy T h (cellsL z) ps (T.under t)
  | _, _ => .fail
noncomputable def sliceNew (h : H) (e : TypeId) (len cap : Nat) : Option (List Value) → Res
  | some c => .val (.slice (some ⟨h.next, 0, none⟩) len cap) (h.new (.cells c e false))
  | none => .fail
noncomputable def buildSliceBy (h : H) (e : TypeId) (len : Nat) (ps : List (Nat × Value)) : Option Nat → Option (List Value) → Res
  | some n, some z => cond (Nat.ble (Nat.mul len n) 16777216) (sliceNew h e len len (fillCells (elemPlace n) ps (replicateZ z len))) .fail
  | _, _ => .fail
noncomputable def buildSliceOf (T : Tab) (h : H) (len : Nat) : Option TypeDesc → Option (List (Nat × Value)) → Res
  | some (.slice e), some ps => buildSliceBy h e len ps (size T e) (zeroN T e)
  | _, _ => .fail
noncomputable def loadOf (T : Tab) (h : H) (t : TypeId) (o : Option Value) : Res :=
  onO (β := Tab → H → TypeId → Res) (fun _ _ _ => .fail) (fun a T h t => loadAt T h t a) o T h t
noncomputable def loadLocOf (T : Tab) (h : H) (t : TypeId) (o : Option Value) : Res :=
  onO (β := Tab → H → TypeId → Res) (fun _ _ _ => .fail) (fun a T h t => loadLoc T h t a) o T h t
noncomputable def storeOf (T : Tab) (h : H) (t : TypeId) (a v : Option Value) : Res :=
  onO (β := Tab → H → TypeId → Option Value → Res) (fun _ _ _ _ => .fail)
    (fun a T h t v => onO (β := Tab → H → TypeId → Value → Res) (fun _ _ _ _ => .fail) (fun v T h t a => hres (storeAt T h t v a)) v T h t a) a T h t v
def nilCheckOf (h : H) : Option Value → Res
  | some (.pointer (some a)) => .val (.pointer (some a)) h
  | some (.func (.func f) first cap) => .val (.func (.func f) first cap) h
  | some (.func (.yield l) first cap) => .val (.func (.yield l) first cap) h
  | _ => .fail
noncomputable def binFar (T : Tab) (h : H) (op : BinOp) (t : TypeId) (x y : Operand) (a b : Value) (g : Bool) : Option Bool → Res
  | some r => match op with
    | .eql => .val (.bool r) h
    | .neq => .val (.bool !r) h
    | _ => .fail
  | none => cond g (vresG h (pureRun T.prog (do eqGuard op t x y a b; binOp op t a b))) .fail
/-- The operations on integers that are met most; the others are left to the model. -/
--REC
noncomputable def intBin (op : BinOp) (k : IntKind) (a b : Int) : Option Value :=
  BinOp.rec (motive := fun _ => IntKind → Int → Int → Option Value)
    (fun k a b => some (.int k (k.wrap (a + b)))) (fun k a b => some (.int k (k.wrap (a - b)))) (fun k a b => some (.int k (k.wrap (a * b))))
    (fun _ _ _ => none) (fun _ _ _ => none) (fun _ _ _ => none) (fun _ _ _ => none) (fun _ _ _ => none) (fun _ _ _ => none) (fun _ _ _ => none) (fun _ _ _ => none)
    (fun _ a b => some (.bool (a == b))) (fun _ a b => some (.bool (a != b))) (fun _ a b => some (.bool (decide (a < b))))
    (fun _ a b => some (.bool (decide (a ≤ b)))) (fun _ a b => some (.bool (decide (a > b)))) (fun _ a b => some (.bool (decide (a ≥ b)))) op k a b
--ALT
--def intBin (op : BinOp) (k : IntKind) (a b : Int) : Option Value := match op with
--  | .add => some (.int k (k.wrap (a + b)))
--  | .sub => some (.int k (k.wrap (a - b)))
--  | .mul => some (.int k (k.wrap (a * b)))
--  | .eql => some (.bool (a == b))
--  | .neq => some (.bool (a != b))
--  | .lss => some (.bool (decide (a < b)))
--  | .leq => some (.bool (decide (a ≤ b)))
--  | .gtr => some (.bool (decide (a > b)))
--  | .geq => some (.bool (decide (a ≥ b)))
--  | _ => none
--END
/-- Whether a slice that is known as data is nil. -/
def nilData (len : Nat) (caps : List Value) : Option Bool := match len, caps with
  | _ + 1, _ => some false
  | 0, [.bool b] => some b
  | 0, _ => none
noncomputable def nilKind (T : Tab) (t : TypeId) (a b : Value) : Option Bool :=
  match T.under t, a, b with
  | some (.pointer _), .pointer none, .pointer c => some c.isNone
  | some (.pointer _), .pointer (some _), .pointer none => some false
  | some (.slice _), .slice none _ _, .slice c _ _ => some c.isNone
  | some (.slice _), .slice (some _) _ _, .slice none _ _ => some false
  | some (.map ..), .map none, .map c => some c.isNone
  | some (.map ..), .map (some _), .map none => some false
  | some (.interface _), .nilIface, .iface .. => some false
  | some (.interface _), .iface .., .nilIface => some false
  | some (.func ..), .nilFunc, .func (.func _) .. => some false
  | some (.func ..), .func (.func _) .., .nilFunc => some false
  | some (.slice _), .func (.via _ _ len false) _ ⟨caps⟩, .slice none _ _ => nilData len caps
  | _, _, _ => none
noncomputable def binSlow (T : Tab) (h : H) (op : BinOp) (t : TypeId) (x y : Operand) (a b : Value) : Res :=
  cond (cond (ground a) (ground b) false) (vresG h (pureRun T.prog (do eqGuard op t x y a b; binOp op t a b)))
      (binFar T h op t x y a b (cond (groundDeep a) (groundDeep b) false) (nilKind T t a b))
noncomputable def binInt (T : Tab) (h : H) (op : BinOp) (t : TypeId) (k k' : IntKind) (a b : Int) : Res :=
  onB .fail (onO (β := Tab → H → BinOp → TypeId → IntKind → Int → Int → Res) (fun T h op t k a b => vresG h (pureRun T.prog (binOp op t (.int k a) (.int k b))))
    (fun v _ h _ _ _ _ _ => .val v h) (intBin op k a b) T h op t k a b) (decide (k = k'))
noncomputable def binV (T : Tab) (h : H) (op : BinOp) (t : TypeId) (x y : Operand) (a b : Value) : Res :=
  onInt (β := Tab → H → BinOp → TypeId → Operand → Operand → Value → Value → Res) (fun T h op t x y a b => binSlow T h op t x y a b)
    (fun k n T h op t x y a b => onInt (β := Tab → H → BinOp → TypeId → Operand → Operand → Value → Value → IntKind → Int → Res) (fun T h op t x y a b _ _ => binSlow T h op t x y a b)
      (fun k' i T h op t _ _ _ _ k n => binInt T h op t k k' n i) (asInt b) T h op t x y a b k n) (asInt a) T h op t x y a b
noncomputable def binOf (T : Tab) (h : H) (op : BinOp) (t : TypeId) (x y : Operand) (a b : Option Value) : Res :=
  onO (β := Tab → H → BinOp → TypeId → Operand → Operand → Option Value → Res) (fun _ _ _ _ _ _ _ => .fail)
    (fun a T h op t x y b => onO (β := Tab → H → BinOp → TypeId → Operand → Operand → Value → Res) (fun _ _ _ _ _ _ _ => .fail)
      (fun b T h op t x y a => binV T h op t x y a b) b T h op t x y a) a T h op t x y b
noncomputable def unOf (T : Tab) (h : H) (op : UnOp) : Option Value → Res
  | some a => cond (ground a) (vresG h (pureRun T.prog (Op.unary op a))) .fail
  | none => .fail
noncomputable def convertOf (T : Tab) (h : H) (s d : TypeId) : Option Value → Res
  | some a => cond (ground a) (vresG h (pureRun T.prog (convert s d a))) .fail
  | none => .fail
def ifaceOf (h : H) (t : TypeId) : Option TypeDesc → Option Value → Res
  | some (.interface _), _ => .fail
  | some _, some v => .val (.iface t v) h
  | _, _ => .fail
def funcOf (h : H) : Fn → Option (List Value) → Option (List Value) → Res
  | .func f, some a, some b => .val (.func (.func f) ⟨a⟩ ⟨b⟩) h
  | _, _, _ => .fail
noncomputable def makeSliceBy (h : H) (e : TypeId) (l c bytes : Nat) : Option (List Value) → Res
  | some z => cond (cond (Nat.ble l c) (cond (Nat.ble c 65536) (Nat.ble bytes 65536) false) false) (sliceNew h e l c (some (replicateZ z c))) .fail
  | none => .fail
noncomputable def bytesOf (T : Tab) (t : TypeId) : Option Nat := onO none (fun i => some i.bytes) (T.info.get t)
noncomputable def makeSliceB (T : Tab) (h : H) (e : TypeId) (l c : Nat) : Option Nat → Res
  | some b => makeSliceBy h e l c b (zeroN T e)
  | none => .fail
noncomputable def makeSliceOf (T : Tab) (h : H) : Option TypeDesc → Option Value → Option Value → Res
  | some (.slice e), some (.int _ (.ofNat l)), some (.int _ (.ofNat c)) => makeSliceB T h e l c (bytesOf T e)
  | _, _, _ => .fail

def boundOf (d : Nat) : Option Value → Option Nat
  | none => some d
  | some (.int _ (.ofNat n)) => some n
  | _ => none
def sliceStr (h : H) (s : ByteArray) : Option Nat → Option Nat → Res
  | some l, some e => cond (cond (Nat.ble e s.size) (Nat.ble l e) false) (.val (.string (s.extract l e)) h) .fail
  | _, _ => .fail
def sliceNil (h : H) : Option Nat → Option Nat → Option Nat → Option Nat → Res
  | some _, some 0, some 0, some 0 => .val (.slice none 0 0) h
  | _, _, _, _ => .fail
/-- A part of a row whose capacity is known. -/
def sliceRow (h : H) (a : Addr) (cap : Nat) : Option Nat → Option Nat → Option Nat → Option Nat → Res
  | some n, some l, some e, some m => cond (cond (Nat.ble m cap) (cond (Nat.ble e m) (Nat.ble l e) false) false)
      (.val (.slice (some (cond (Nat.beq m l) a (a.add (Nat.mul l n)))) (e - l) (m - l)) h) .fail
  | _, _, _, _ => .fail
/-- A part of a row whose capacity is open. -/
def sliceGrow (h : H) (b off cap : Nat) : Option Nat → Option Nat → Option Nat → Option Nat → Res
  | some n, some l, some e, some m => cond (cond (Nat.ble m cap) (cond (Nat.ble e m) (Nat.ble l e) false) false)
      (.val (.slice (some ⟨b, Nat.add off (Nat.mul l n), none⟩) (e - l) (m - l)) h) .fail
  | _, _, _, _ => .fail
def sameSize : Option Nat → Option Nat → Bool
  | some a, some b => Nat.beq a b
  | _, _ => false
noncomputable def sliceIn (T : Tab) (h : H) (b off len cap : Nat) (elem : TypeId) (lo hi mx : Option Value) : Option AObj → Res
  | some (.cells _ _ false) => sliceRow h ⟨b, off, none⟩ cap (size T elem) (boundOf 0 lo) (boundOf len hi) (boundOf cap mx)
  | some (.cells _ e true) => match mx with
    | none => cond (sameSize (size T e) (size T elem)) (sliceGrow h b off cap (size T elem) (boundOf 0 lo) (boundOf len hi) (some cap)) .fail
    | some _ => sliceRow h ⟨b, off, none⟩ cap (size T elem) (boundOf 0 lo) (boundOf len hi) (boundOf cap mx)
  | _ => .fail
/-- What is known of a part's capacity. -/
def dataCaps (l : Nat) (m : Option Nat) (mx : Option Value) (caps : List Value) : List Value :=
  match mx, m with
  | some _, some m => [.int .i64 (Int.ofNat (m - l))]
  | _, _ => match caps with
    | [.int _ (.ofNat c)] => [.int .i64 (Int.ofNat (c - l))]
    | _ => []
/-- An element has so many cells. -/
noncomputable def elemIs (n : Nat) : Option Value → Bool
  | some e => Nat.beq (lenL (cellsL e)) n
  | none => false
noncomputable def sliceData (h : H) (es : List Value) (off len : Nat) (caps : List Value) (mx : Option Value) : Option Nat → Option Nat → Option Nat → Option Nat → Res
  | some n, some l, some e, some m => cond (cond (Nat.ble m len) (cond (Nat.ble e m) (cond (Nat.ble l e) (cond (Nat.beq l 0) true (elemIs n es[off]?)) false) false) false)
      (.val (dsl es (Nat.add off l) (e - l) (dataCaps l (some m) mx caps)) h) .fail
  | _, _, _, _ => .fail
noncomputable def sliceBy (T : Tab) (h : H) (lo hi mx : Option Value) : Option TypeDesc → Value → Res
  | some .string, .string s => match mx with
    | none => sliceStr h s (boundOf 0 lo) (boundOf s.size hi)
    | some _ => .fail
  | some (.slice elem), .slice none 0 0 => sliceNil h (size T elem) (boundOf 0 lo) (boundOf 0 hi) (boundOf 0 mx)
  | some (.slice elem), .slice (some ⟨b, off, none⟩) len cap => sliceIn T (h.touch b) b off len cap elem lo hi mx (h.get b)
  | some (.array n elem), .pointer (some a) => sliceRow h a n (size T elem) (boundOf 0 lo) (boundOf n hi) (boundOf n mx)
  | some (.slice elem), .func (.via off _ len false) ⟨es⟩ ⟨caps⟩ => sliceData h es off len caps mx (size T elem) (boundOf 0 lo) (boundOf len hi) (boundOf len mx)
  | _, _ => .fail
def bounds (o : Option Operand) (v : Option Value) : Option (Option Value) :=
  match o with
  | none => some none
  | some _ => match v with
    | some v => some (some v)
    | none => none
noncomputable def opvO (tm : Tr Value) : Option Operand → Option Value
  | none => none
  | some x => opv tm x
noncomputable def sliceOf (T : Tab) (h : H) (t : TypeId) : Option Value → Option (Option Value) → Option (Option Value) → Option (Option Value) → Res
  | some x, some lo, some hi, some mx => match hi, mx with
    | none, some _ => .fail
    | hi, mx => sliceBy T h lo hi mx (T.under t) x
  | _, _, _, _ => .fail

def fieldAddrBy (h : H) (a : Addr) (off : Nat) : Option Nat → Res
  | some (_ + 1) => .val (.pointer (some (a.add off))) h
  | _ => .fail
noncomputable def fieldAt (d : Option TypeDesc) (f : Nat) : Option Field := match d with
  | some (.struct fs) => fs.toList[f]?
  | _ => none
def fieldDataBy (h : H) (e : Value) (f off : Nat) : Option Nat → Res
  | some (_ + 1) => .val (dptr e (Nat.add f off)) h
  | _ => .fail
noncomputable def fieldData (T : Tab) (h : H) (s : TypeId) (f : Nat) (x : Option Value) : Res :=
  match onO .no ptrTo x with
  | .data e o => match fieldAt (T.under s) f with
    | some fd => fieldDataBy h e o fd.offset (size T fd.type)
    | none => .fail
  | _ => .fail
noncomputable def fieldAddrOf (T : Tab) (h : H) (s : TypeId) (f : Nat) (x : Option Value) : Res :=
  onO (β := Tab → H → TypeId → Nat → Option Value → Res) (fun T h s f x => fieldData T h s f x)
    (fun a T h s f _ => onO (β := Tab → H → Addr → Res) (fun _ _ _ => .fail) (fun fd T h a => fieldAddrBy h a fd.offset (size T fd.type)) (fieldAt (T.under s) f) T h a)
    (onO none asAddr x) T h s f x
noncomputable def fieldOf (T : Tab) (h : H) (f : Nat) : Option TypeDesc → Option Value → Res
  | some (.struct fs), some (.agg cs) => match fs.toList[f]? with
    | some fd => vres h (partOf T fd.type cs.toList fd.offset)
    | none => .fail
  | _, _ => .fail
def indexAddrBy (h : H) (a : Addr) (i len : Nat) : Option Nat → Res
  | some n => cond (Nat.ble (Nat.succ i) len) (.val (.pointer (some (a.add (i * n)))) h) .fail
  | none => .fail
noncomputable def indexDataIn (h : H) (n : Nat) : Option Value → Res
  | some e => cond (Nat.beq (lenL (cellsL e)) n) (.val (dptr e 0) h) .fail
  | none => .fail
noncomputable def indexData (h : H) (es : List Value) (off len i : Nat) : Option Nat → Res
  | some n => cond (Nat.ble (Nat.succ i) len) (indexDataIn h n es[Nat.add off i]?) .fail
  | none => .fail
noncomputable def indexAddrOf (T : Tab) (h : H) : Option TypeDesc → Option Value → Option Value → Res
  | some (.slice e), some (.slice (some a) len _), some (.int _ (.ofNat i)) => indexAddrBy h a i len (size T e)
  | some (.array len e), some (.pointer (some a)), some (.int _ (.ofNat i)) => indexAddrBy h a i len (size T e)
  | some (.slice e), some (.func (.via off _ len false) ⟨es⟩ _), some (.int _ (.ofNat i)) => indexData h es off len i (size T e)
  | _, _, _ => .fail
noncomputable def indexAgg (T : Tab) (h : H) (cs : List Value) (e : TypeId) (i len : Nat) : Option Nat → Res
  | some n => cond (Nat.ble (Nat.succ i) len) (vres h (partOf T e cs (i * n))) .fail
  | none => .fail
noncomputable def indexOf (T : Tab) (h : H) (t : TypeId) : Option TypeDesc → Option Value → Option Value → Res
  | some .string, some (.string s), some (.int k i) => vresG h (pureRun T.prog (Instr.index t (.string s) (.int k i)))
  | some (.array len e), some (.agg cs), some (.int _ (.ofNat i)) => indexAgg T h cs.toList e i len (size T e)
  | _, _, _ => .fail

/-- The kinds of keys that are compared at once. -/
def keyKind : Option TypeDesc → Option TypeDesc
  | some (.int k) => some (.int k)
  | some .string => some .string
  | some .bool => some .bool
  | _ => none
noncomputable def mapPut (h : H) (r : Nat) (k v : Value) (es : Array MapEntry) (clock : Nat) : Option (Option (Nat × Value)) → Res
  | some (some (i, _)) => .val undef (h.put r (.map (es.modify i fun e => { e with key := k, val := v }) clock))
  | some none => .val undef (h.put r (.map (es.push { key := k, val := v, born := clock }) (clock + 1)))
  | none => .fail
noncomputable def mapUpdateIn (h : H) (r : Nat) (k v : Value) : Option TypeDesc → Option AObj → Res
  | some kd, some (.map es clock) => mapPut h r k v es clock (Instr.findNow kd k es.toList 0)
  | _, _ => .fail
noncomputable def mapUpdateBy (T : Tab) (h : H) (k v : Value) : Option TypeDesc → Value → Res
  | some (.map kt _), .map (some r) => cond (ground k) (mapUpdateIn h r k v (keyKind (T.under kt)) (h.get r)) .fail
  | _, _ => .fail
noncomputable def mapUpdateOf (T : Tab) (h : H) (t : TypeId) : Option Value → Option Value → Option Value → Res
  | some m, some k, some v => mapUpdateBy T h k v (T.under t) m
  | _, _, _ => .fail
def lookupRes (h : H) (ok : Bool) (z : Value) : Option (Option (Nat × Value)) → Res
  | some (some (_, v)) => .val (cond ok (.tuple #[v, .bool true]) v) h
  | some none => .val (cond ok (.tuple #[z, .bool false]) z) h
  | none => .fail
def lookupIn (h : H) (k : Value) (ok : Bool) (es : List MapEntry) : Option TypeDesc → Option Value → Res
  | some kd, some z => lookupRes h ok z (Instr.findNow kd k es 0)
  | _, _ => .fail
noncomputable def lookupAt (T : Tab) (h : H) (kt et : TypeId) (k : Value) (ok : Bool) (r : Nat) : Option AObj → Res
  | some (.map es _) => lookupIn (h.touch r) k ok es.toList (keyKind (T.under kt)) (zero T et)
  | _ => .fail
noncomputable def lookupBy (T : Tab) (h : H) (k : Value) (ok : Bool) : Option TypeDesc → Value → Res
  | some (.map kt et), .map none => cond (ground k) (lookupIn h k ok [] (keyKind (T.under kt)) (zero T et)) .fail
  | some (.map kt et), .map (some r) => cond (ground k) (lookupAt T h kt et k ok r (h.get r)) .fail
  | _, _ => .fail
noncomputable def lookupOf (T : Tab) (h : H) (t : TypeId) (ok : Bool) : Option Value → Option Value → Res
  | some m, some k => lookupBy T h k ok (T.under t) m
  | _, _ => .fail

noncomputable def makeMapOf (h : H) : Option Operand → Res
  | none => .val (.map (some h.next)) (h.new (.map #[] 0))
  | some _ => .fail
noncomputable def newPtr (h : H) (o : AObj) : Res := .val (.pointer (some ⟨h.next, 0, none⟩)) (h.new o)
noncomputable def rangeMap (h : H) (m : Nat) : Option AObj → Res
  | some (.map _ clock) => newPtr (h.touch m) (.mapIter (some m) clock #[] clock)
  | _ => .fail
noncomputable def rangeOf (h : H) : Option TypeDesc → Option Value → Res
  | some (.map ..), some (.map none) => newPtr h (.mapIter none 0 #[] 0)
  | some (.map ..), some (.map (some m)) => rangeMap h m (h.get m)
  | some .string, some (.string s) => newPtr h (.strIter s 0)
  | _, _ => .fail
noncomputable def nextStr (h : H) (r : Nat) (s : ByteArray) (pos : Nat) : Res :=
  cond (Nat.ble (Nat.succ pos) s.size)
    (match Utf8.decode s pos with
      | (c, width) => .val (.tuple #[.bool true, .int .i64 pos, .int .i32 c]) (h.put r (.strIter s (pos + width))))
    (.val (.tuple #[.bool false]) (h.touch r))
noncomputable def nextMapIn (h : H) (r m since : Nat) (seen : Array Nat) (last : Nat) : Option AObj → Res
  | some (.map es clock) =>
    if !seen.isEmpty && !es.isEmpty && es.all (·.born ≥ last) then .fail else
    let left := es.filter fun e => !seen.contains e.born
    let old := left.filter (·.born < since)
    let new := left.filter (·.born ≥ since)
    match old.toList, new.toList with
    | [], [] => .val (.tuple #[.bool false]) ((h.touch r).touch m)
    | [e], [] => .val (.tuple #[.bool true, e.key, e.val]) ((h.touch m).put r (.mapIter (some m) since (seen.push e.born) clock))
    | _, _ => .fail
  | _ => .fail
noncomputable def nextIn (h : H) (r : Nat) (isString : Bool) : Option AObj → Res
  | some (.strIter s pos) => cond isString (nextStr h r s pos) .fail
  | some (.mapIter none _ _ _) => cond isString .fail (.val (.tuple #[.bool false]) (h.touch r))
  | some (.mapIter (some m) since seen last) => cond isString .fail (nextMapIn h r m since seen last (h.get m))
  | _ => .fail
noncomputable def nextOf (h : H) (isString : Bool) : Option Value → Res
  | some (.pointer (some ⟨r, 0, none⟩)) => nextIn h r isString (h.get r)
  | _ => .fail
def entryFind (h : H) (stamp : Nat) (es : List MapEntry) : Res := match es.find? (fun e => e.born == stamp) with
  | some e => .val (.tuple #[e.key, e.val]) h
  | none => .fail
def entryIn2 (h : H) (seen : Array Nat) (stepped : Nat) : Option AObj → Res
  | some (.map es clock) => match seen.back? with
    | some stamp => cond (Nat.beq clock stepped) (entryFind h stamp es.toList) .fail
    | none => .fail
  | _ => .fail
noncomputable def entryIn (h : H) (r : Nat) : Option AObj → Res
  | some (.mapIter (some m) _ seen stepped) => entryIn2 ((h.touch r).touch m) seen stepped (h.get m)
  | _ => .fail
noncomputable def entryOf (h : H) : Option Value → Res
  | some (.pointer (some ⟨r, 0, none⟩)) => entryIn h r (h.get r)
  | _ => .fail
def assertMiss (h : H) (ok : Bool) : Option Value → Res
  | some z => cond ok (.val (.tuple #[z, .bool false]) h) .fail
  | none => .fail
def assertHit (h : H) (ok : Bool) (v : Value) : Res := .val (cond ok (.tuple #[v, .bool true]) v) h
noncomputable def assertIface (T : Tab) (h : H) (t : TypeId) (ok : Bool) (want : Array (String × TypeId)) (u : TypeId) (v : Value) : Option TypeInfo → Res
  | some ui => match Instr.missingMethod want ui.methods with
    | none => assertHit h ok (.iface u v)
    | some _ => assertMiss h ok (zero T t)
  | none => .fail
noncomputable def assertOf (T : Tab) (h : H) (t : TypeId) (ok : Bool) : Option TypeDesc → Option Value → Res
  | some (.interface want), some (.iface u v) => assertIface T h t ok want u v (T.info.get u)
  | some _, some .nilIface => assertMiss h ok (zero T t)
  | some _, some (.iface u v) => cond (Nat.beq u t) (assertHit h ok v) (assertMiss h ok (zero T t))
  | _, _ => .fail
noncomputable def extractOf (h : H) (i : Nat) (o : Option Value) : Res :=
  onO (β := H → Nat → Res) (fun _ _ => .fail) (fun vs h i => vres h (nthL i vs.toList)) (onO none asTuple o) h i

/-! Built-in functions -/
noncomputable def blockCells : Option AObj → Option (List Value)
  | some (.cells c _ _) => some c
  | _ => none
/-- The cells of the first n elements, and the memory with what was touched. -/
noncomputable def rowCells (off n : Nat) : Option (List Value) → Option (List Value)
  | some c => cut c off n
  | none => none
noncomputable def firstCells (h : H) (k sz : Nat) : Value → Option (List Value)
  | .slice none _ _ => some []
  | .slice (some ⟨b, off, none⟩) _ _ => rowCells off (Nat.mul k sz) (blockCells (h.get b))
  | .func (.via off _ _ false) ⟨es⟩ _ => some (((es.drop off).take k).flatMap cellsL)
  | _ => none
noncomputable def touchS (h : H) : Value → H
  | .slice (some a) _ _ => h.touch a.block
  | _ => h
def lenOf : Value → Option Nat
  | .slice _ n _ => some n
  | .func (.via _ _ n false) _ _ => some n
  | _ => none
noncomputable def appendNew (h : H) (e : TypeId) (n : Nat) (c : List Value) : Res :=
  .val (.slice (some ⟨h.next, 0, none⟩) n n) (h.new (.cells c e true))
noncomputable def appendIn (h : H) (b off len cap : Nat) (e : TypeId) (g : Bool) : Option (List Value) → Res
  | some d => .val (.slice (some ⟨b, off, none⟩) len cap) (h.put b (.cells d e g))
  | none => .fail
noncomputable def appendOut (T : Tab) (h : H) (b : Nat) (e : TypeId) (sz len fin : Nat) (cs c : List Value) (e' : TypeId) (g : Bool) : Res :=
  onB (appendNew h e len cs) (cond (sameSize (size T e') (some sz)) (onB (appendNew h e len cs) (appendNew (h.drop b) e len cs) (Nat.beq fin (lenL c))) .fail) g
noncomputable def appendRow (T : Tab) (h : H) (b off : Nat) (e : TypeId) (sz sLen sCap n : Nat) (old new : List Value) : Option AObj → Res
  | some (.cells c e' g) => onB (appendOut T h b e sz (Nat.add sLen n) (Nat.add off (Nat.mul sCap sz)) (appL old new) c e' g)
      (onB (appendIn h b off (Nat.add sLen n) sCap e' g (splice (Nat.add off (Nat.mul sLen sz)) new c)) (.val (.slice (some ⟨b, off, none⟩) sLen sCap) h) (Nat.beq n 0))
      (Nat.ble (Nat.add sLen n) sCap)
  | _ => .fail
noncomputable def appendBase (T : Tab) (h : H) (e : TypeId) (sz sLen sCap n : Nat) (old new : List Value) : Option Addr → Res
  | none => cond (cond (Nat.beq sLen 0) (Nat.beq sCap 0) false) (onB (appendNew h e n new) (.val (.slice none 0 0) h) (Nat.beq n 0)) .fail
  | some ⟨b, off, none⟩ => appendRow T h b off e sz sLen sCap n old new (h.get b)
  | _ => .fail
noncomputable def appendAt (T : Tab) (h : H) (e : TypeId) (sz : Nat) (base : Option Addr) (sLen sCap n : Nat) : Option (List Value) → Option (List Value) → Res
  | some old, some new => cond (cond (Nat.beq (lenL new) (Nat.mul n sz)) (cond (Nat.beq (lenL old) (Nat.mul sLen sz)) (oneCells new) false) false)
      (appendBase T h e sz sLen sCap n old new base) .fail
  | _, _ => .fail
noncomputable def isSomeL : Option (List Value) → Bool
  | some _ => true
  | none => false
noncomputable def appendSz (T : Tab) (h : H) (e : TypeId) (s x : Value) (base : Option Addr) (sLen sCap n : Nat) : Option TypeInfo → Res
  | some i => cond (cond (Nat.beq i.size 0) false (cond (Nat.ble i.bytes 65536) (cond (Nat.ble (Nat.add sLen n) 1073741824) (isSomeL (zeroN T e)) false) false))
      (appendAt T (touchS (touchS h s) x) e i.size base sLen sCap n (firstCells h sLen i.size s) (firstCells h n i.size x)) .fail
  | none => .fail
/-- To a slice that is known as data. -/
noncomputable def appendDataNew (h : H) (e : TypeId) (need : Nat) (cs : List Value) : List Value → Res
  | [.int _ (.ofNat c)] => cond (Nat.ble need c) .fail (appendNew h e need cs)
  | _ => .fail
noncomputable def appendDataAt (h : H) (e : TypeId) (sz : Nat) (s : Value) (caps : List Value) (sLen n : Nat) : Option (List Value) → Option (List Value) → Res
  | some old, some new => cond (cond (Nat.beq (lenL new) (Nat.mul n sz)) (cond (Nat.beq (lenL old) (Nat.mul sLen sz)) (oneCells new) false) false)
      (onB (appendDataNew h e (Nat.add sLen n) (appL old new) caps) (.val s h) (Nat.beq n 0)) .fail
  | _, _ => .fail
noncomputable def appendDataSz (T : Tab) (h : H) (e : TypeId) (s x : Value) (caps : List Value) (sLen n : Nat) : Option TypeInfo → Res
  | some i => cond (cond (Nat.beq i.size 0) false (cond (Nat.ble i.bytes 65536) (cond (Nat.ble (Nat.add sLen n) 1073741824) (isSomeL (zeroN T e)) false) false))
      (appendDataAt (touchS h x) e i.size s caps sLen n (firstCells h sLen i.size s) (firstCells h n i.size x)) .fail
  | none => .fail
/-- Zeros appended to nothing: what `make` would have made. -/
noncomputable def appendZeros (h : H) (e : TypeId) : Value → Option TypeInfo → Option (List Value) → Res
  | .int _ (.ofNat (n + 1)), some i, some z => cond (cond (Nat.beq i.size 0) false (cond (Nat.ble i.bytes 65536) (Nat.ble (n + 1) 1073741824) false))
      (appendNew h e (n + 1) (Builtin.zeroCells ⟨z⟩ (n + 1)).toList) .fail
  | _, _, _ => .fail
noncomputable def appendOf (T : Tab) (h : H) (x : Value) : Option TypeDesc → Option TypeDesc → Value → Option Nat → Res
  | some (.slice e), some (.slice _), .slice base sLen sCap, some n => appendSz T h e (.slice base sLen sCap) x base sLen sCap n (T.info.get e)
  | some (.slice e), some (.slice _), .func (.via off p len false) ⟨es⟩ ⟨caps⟩, some n => appendDataSz T h e (.func (.via off p len false) ⟨es⟩ ⟨caps⟩) x caps len n (T.info.get e)
  | some (.slice e), some (.int _), .slice none 0 0, none => appendZeros h e x (T.info.get e) (zeroN T e)
  | _, _, _, _ => .fail
noncomputable def lenMap (h : H) (r : Nat) : Option AObj → Res
  | some (.map es _) => .val (.int .i64 es.size) (h.touch r)
  | _ => .fail
noncomputable def lenBy (h : H) : Option TypeDesc → Value → Res
  | some (.slice _), .slice _ n _ => .val (.int .i64 n) h
  | some .string, .string s => .val (.int .i64 s.size) h
  | some (.map ..), .map none => .val (.int .i64 0) h
  | some (.map ..), .map (some r) => lenMap h r (h.get r)
  | some (.slice _), .func (.via _ _ n false) _ _ => .val (.int .i64 n) h
  | _, _ => .fail
noncomputable def capIn (h : H) (b c : Nat) : Option AObj → Res
  | some (.cells _ _ false) => .val (.int .i64 c) (h.touch b)
  | _ => .fail
noncomputable def capBy (h : H) : Option TypeDesc → Value → Res
  | some (.slice _), .slice none _ c => .val (.int .i64 c) h
  | some (.slice _), .slice (some ⟨b, _, none⟩) _ c => capIn h b c (h.get b)
  | _, _ => .fail
noncomputable def pureOf (h : H) (p : Program) (g : Bool) (s : Sem Value) : Res := cond g (vresG h (pureRun p s)) .fail
noncomputable def underO (T : Tab) : Option TypeId → Option TypeDesc
  | some t => T.under t
  | none => none
noncomputable def builtinOf (T : Tab) (h : H) (argTypes : Array TypeId) (type : TypeId) (args : List Value) : Builtin → Out
  | .append => match args with
    | [s, x] => .of (appendOf T h x (underO T argTypes.toList[0]?) (underO T argTypes.toList[1]?) s (lenOf x))
    | _ => .of .fail
  | .len => match args with
    | [x] => .of (lenBy h (underO T argTypes.toList[0]?) x)
    | _ => .of .fail
  | .cap => match args with
    | [x] => .of (capBy h (underO T argTypes.toList[0]?) x)
    | _ => .of .fail
  | .recover => .recov
  | .max => .of (pureOf h T.prog (allGround args) (Builtin.max_ argTypes type args.toArray))
  | .min => .of (pureOf h T.prog (allGround args) (Builtin.min_ argTypes type args.toArray))
  | _ => .of .fail
def callTo (args : List Value) : Option Value → Out
  | some f => .call f args
  | none => .of .fail
def deferTo (args : List Value) : Option Value → Out
  | some f => .dfr f args
  | none => .of .fail
noncomputable def callOf (T : Tab) (tm : Tr Value) (h : H) (argTypes : Array TypeId) (type : TypeId) (c : Callee) : Option (List Value) → Out
  | some args => match c with
    | .builtin b => builtinOf T h argTypes type args b
    | .value f => callTo args (opv tm f)
    | .invoke .. => .of .fail
  | none => .of .fail
noncomputable def deferOf (tm : Tr Value) (c : Callee) : Option (List Value) → Out
  | some args => match c with
    | .value f => deferTo args (opv tm f)
    | _ => .of .fail
  | none => .of .fail
def panOf : Option Value → Out
  | some (.iface t v) => .pan (.iface t v)
  | _ => .of .fail
--REC
noncomputable def execOp (T : Tab) (tm : Tr Value) (type : TypeId) (h : H) (op : Op) : Out :=
  Op.rec (motive := fun _ => Tab → Tr Value → TypeId → H → Out)
    (fun x _ tm _ h => .of (vres h (opv tm x)))
    (fun x _ tm _ h => .of (vres h (opv tm x)))
    (fun c a b _ tm _ h => .of (pickOf tm h a b (opv tm c)))
    (fun e T _ _ h => .of (boxOf h e (zero T e)))
    (fun e x _ tm _ h => .of (boxOf h e (opv tm x)))
    (fun t parts T tm _ h => .of (buildOf T h t (zero T t) (opvParts tm parts.toList)))
    (fun t len parts T tm _ h => .of (buildSliceOf T h len (T.under t) (opvParts tm parts.toList)))
    (fun t m k v T tm _ h => .of (mapUpdateOf T h t (opv tm m) (opv tm k) (opv tm v)))
    (fun t a T tm _ h => .of (loadOf T h t (opv tm a)))
    (fun t a x T tm _ h => .of (storeOf T h t (opv tm a) (opv tm x)))
    (fun _ _ _ _ _ => .of (.fail))
    (fun _ _ _ _ _ => .of (.fail))
    (fun x _ tm _ h => .of (nilCheckOf h (opv tm x)))
    (fun op t x y _ T tm _ h => .of (binOf T h op t x y (opv tm x) (opv tm y)))
    (fun op _ x T tm _ h => .of (unOf T h op (opv tm x)))
    (fun s d x T tm _ h => .of (convertOf T h s d (opv tm x)))
    (fun _ _ _ _ _ _ => .of (.fail))
    (fun t x T tm _ h => .of (ifaceOf h t (T.under t) (opv tm x)))
    (fun fn first cap _ tm _ h => .of (funcOf h fn (opvs tm first.toList) (opvs tm cap.toList)))
    (fun _ r _ _ _ h => .of (makeMapOf h r))
    (fun _ _ _ _ _ _ => .of (.fail))
    (fun t l c T tm _ h => .of (makeSliceOf T h (T.under t) (opv tm l) (opv tm c)))
    (fun t x lo hi mx T tm _ h => .of (sliceOf T h t (opv tm x) (bounds lo (opvO tm lo)) (bounds hi (opvO tm hi)) (bounds mx (opvO tm mx))))
    (fun s x f T tm _ h => .of (fieldAddrOf T h s f (opv tm x)))
    (fun t x f T tm _ h => .of (fieldOf T h f (T.under t) (opv tm x)))
    (fun t x i T tm _ h => .of (indexAddrOf T h (T.under t) (opv tm x) (opv tm i)))
    (fun t x i T tm _ h => .of (indexOf T h t (T.under t) (opv tm x) (opv tm i)))
    (fun t x i ok T tm _ h => .of (lookupOf T h t ok (opv tm x) (opv tm i)))
    (fun t m k v T tm _ h => .of (mapUpdateOf T h t (opv tm m) (opv tm k) (opv tm v)))
    (fun _ _ _ _ _ _ _ => .of (.fail))
    (fun _ _ _ _ _ _ _ _ => .of (.fail))
    (fun t x T tm _ h => .of (rangeOf h (T.under t) (opv tm x)))
    (fun it isString _ tm _ h => .of (nextOf h isString (opv tm it)))
    (fun it _ tm _ h => .of (entryOf h (opv tm it)))
    (fun x _ t ok T tm _ h => .of (assertOf T h t ok (T.under t) (opv tm x)))
    (fun x i _ tm _ h => .of (extractOf h i (opv tm x)))
    (fun c T tm type h => callOf T tm h c.argTypes type c.callee (opvs tm c.args.toList))
    (fun _ _ _ _ _ => .of (.fail))
    (fun c _ tm _ _ => deferOf tm c.callee (opvs tm c.args.toList))
    (fun x _ tm _ h => panOf (opv tm x))
    (fun _ _ _ _ _ _ => .of (.fail))
    (fun _ _ _ _ _ _ _ => .of (.fail))
    (fun _ _ _ _ _ _ => .of (.fail)) op T tm type h
--ALT
--def execOp (T : Tab) (tm : Tr Value) (type : TypeId) (h : H) : Op → Out
--  | .move x => .of (vres h (opv tm x))
--  | .assign x => .of (vres h (opv tm x))
--  | .pick c a b => .of (pickOf tm h a b (opv tm c))
--  | .alloc e => .of (boxOf h e (zero T e))
--  | .box e x => .of (boxOf h e (opv tm x))
--  | .build t parts => .of (buildOf T h t (zero T t) (opvParts tm parts.toList))
--  | .buildSlice t len parts => .of (buildSliceOf T h len (T.under t) (opvParts tm parts.toList))
--  | .load t a => .of (loadOf T h t (opv tm a))
--  | .store t a x => .of (storeOf T h t (opv tm a) (opv tm x))
--  | .nilCheck x => .of (nilCheckOf h (opv tm x))
--  | .binOp op t x y _ => .of (binOf T h op t x y (opv tm x) (opv tm y))
--  | .unOp op _ x => .of (unOf T h op (opv tm x))
--  | .convert s d x => .of (convertOf T h s d (opv tm x))
--  | .makeInterface t x => .of (ifaceOf h t (T.under t) (opv tm x))
--  | .makeFunc fn first cap => .of (funcOf h fn (opvs tm first.toList) (opvs tm cap.toList))
--  | .makeMap _ r => .of (makeMapOf h r)
--  | .makeSlice t l c => .of (makeSliceOf T h (T.under t) (opv tm l) (opv tm c))
--  | .slice t x lo hi mx => .of (sliceOf T h t (opv tm x) (bounds lo (opvO tm lo)) (bounds hi (opvO tm hi)) (bounds mx (opvO tm mx)))
--  | .fieldAddr s x f => .of (fieldAddrOf T h s f (opv tm x))
--  | .field t x f => .of (fieldOf T h f (T.under t) (opv tm x))
--  | .indexAddr t x i => .of (indexAddrOf T h (T.under t) (opv tm x) (opv tm i))
--  | .index t x i => .of (indexOf T h t (T.under t) (opv tm x) (opv tm i))
--  | .lookup t x i ok => .of (lookupOf T h t ok (opv tm x) (opv tm i))
--  | .mapUpdate t m k v => .of (mapUpdateOf T h t (opv tm m) (opv tm k) (opv tm v))
--  | .insert t m k v => .of (mapUpdateOf T h t (opv tm m) (opv tm k) (opv tm v))
--  | .range t x => .of (rangeOf h (T.under t) (opv tm x))
--  | .next it isString => .of (nextOf h isString (opv tm it))
--  | .entry it => .of (entryOf h (opv tm it))
--  | .typeAssert x _ t ok => .of (assertOf T h t ok (T.under t) (opv tm x))
--  | .extract x i => .of (extractOf h i (opv tm x))
--  | .call c => callOf T tm h c.argTypes type c.callee (opvs tm c.args.toList)
--  | .defer c => deferOf tm c.callee (opvs tm c.args.toList)
--  | .panic x => panOf (opv tm x)
--  | _ => .of (.fail)
--END

/-! Control -/
inductive Ex where
  | normal
  | exit (id : Nat)
  | ret
  | panic (chain : List PanicEntry)

/-- What a running frame knows: its slots (no entry: nothing is known), its deferred calls, memory, and the panics of the frame that it was deferred by. -/
structure S where
  tm : Tr Value
  df : List Deferred
  h : H
  ab : Option (List PanicEntry)

structure Fr where
  fn : FuncId
  round : Option Nat

inductive Task where
  | loop (fr : Fr) (b : Code) (s : S)
  | run (fr : Fr) (c : Code) (s : S)
  | call (f : Value) (args : List Value) (h : H) (above : Option (List PanicEntry))
  | unwind (fn : Func) (s : S) (mode : Option (List PanicEntry))

inductive Ans where
  | fail
  | code (e : Ex) (s : S)
  | ret (v : Value) (h : H) (ab : Option (List PanicEntry))
  | pan (chain : List PanicEntry) (h : H) (ab : Option (List PanicEntry))

noncomputable def putT (tm : Tr Value) (v : Value) (o : Option Tmp) : Tr Value := onO (β := Tr Value → Value → Tr Value) (fun tm _ => tm) (fun d tm v => tm.set d v) o tm v
noncomputable def yieldedT (tm : Tr Value) : Option Oper → Option Value
  | some o => match o.dst with
    | some d => tm.get d
    | none => none
  | none => none
def boolIs (want : Bool) : Option Value → Option Bool
  | some (.bool b) => some (b == want)
  | some _ => some false
  | none => none
noncomputable def wanted (all : Array Oper) (tm : Tr Value) (g : Option (Nat × Bool)) : Option Bool :=
  onO (β := Array Oper → Tr Value → Option Bool) (fun _ _ => some true) (fun g all tm => boolIs g.2 (yieldedT tm all.toList[g.1]?)) g all tm
def recoverFrom : Option (List PanicEntry) → Value × Option (List PanicEntry)
  | some ({ v, recovered := false, goexit := false } :: older) => (v, some ({ v, recovered := true } :: older))
  | m => (.nilIface, m)

noncomputable def opCall (dst : Option Tmp) (k : S → Ans) (tm : Tr Value) (df : List Deferred) (ab : Option (List PanicEntry)) : Ans → Ans
  | .ret v h _ => k ⟨putT tm v dst, df, h, ab⟩
  | .pan chain h _ => .code (.panic chain) ⟨tm, df, h, ab⟩
  | _ => .fail
noncomputable def opDefer (round : Option Nat) (dst : Option Tmp) (k : S → Ans) (tm : Tr Value) (df : List Deferred) (h : H) (ab : Option (List PanicEntry)) (args : List Value) : Value → Ans
  | .func (.func g) first cap => match round with
    | none => k ⟨putT tm undef dst, { target := .fn (.func g) cap, args := ⟨first.toList ++ args⟩ } :: df, h, ab⟩
    | some _ => .fail
  | _ => .fail
noncomputable def opRecover (round : Option Nat) (dst : Option Tmp) (k : S → Ans) (tm : Tr Value) (df : List Deferred) (h : H) (ab : Option (List PanicEntry)) : Ans :=
  match round with
  | none => match recoverFrom ab with
    | (v, m) => k ⟨putT tm v dst, df, h, m⟩
  | some _ => .fail
--REC
noncomputable def opVal (dst : Option Tmp) (k : S → Ans) (tm : Tr Value) (df : List Deferred) (ab : Option (List PanicEntry)) (r : Res) : Ans :=
  Res.rec (motive := fun _ => Option Tmp → (S → Ans) → Tr Value → List Deferred → Option (List PanicEntry) → Ans)
    (fun _ _ _ _ _ => .fail) (fun v h dst k tm df ab => k ⟨putT tm v dst, df, h, ab⟩) r dst k tm df ab
noncomputable def opRes (ev : Task → Ans) (round : Option Nat) (dst : Option Tmp) (k : S → Ans) (tm : Tr Value) (df : List Deferred) (h : H) (ab : Option (List PanicEntry)) (r : Out) : Ans :=
  Out.rec (motive := fun _ => (Task → Ans) → Option Nat → Option Tmp → (S → Ans) → Tr Value → List Deferred → H → Option (List PanicEntry) → Ans)
    (fun r _ _ dst k tm df _ ab => opVal dst k tm df ab r)
    (fun v _ _ _ _ tm df h ab => .code (.panic [{ v, recovered := false }]) ⟨tm, df, h, ab⟩)
    (fun f args ev _ dst k tm df h ab => opCall dst k tm df ab (ev (.call f args h none)))
    (fun f args _ round dst k tm df h ab => opDefer round dst k tm df h ab args f)
    (fun _ round dst k tm df h ab => opRecover round dst k tm df h ab) r ev round dst k tm df h ab
noncomputable def opStep (T : Tab) (ev : Task → Ans) (fr : Fr) (all : Array Oper) (o : Oper) (k : S → Ans) (s : S) : Ans :=
  S.rec (motive := fun _ => Tab → (Task → Ans) → Fr → Array Oper → Oper → (S → Ans) → Ans)
    (fun tm df h ab T ev fr all o k => onO .fail (fun b => onB (k ⟨putT tm undef o.dst, df, h, ab⟩) (opRes ev fr.round o.dst k tm df h ab (execOp T tm o.type h o.op)) b) (wanted all tm o.guard)) s T ev fr all o k
--ALT
--def opVal (dst : Option Tmp) (k : S → Ans) (tm : Tr Value) (df : List Deferred) (ab : Option (List PanicEntry)) : Res → Ans
--  | .fail => .fail
--  | .val v h => k ⟨putT tm v dst, df, h, ab⟩
--def opRes (ev : Task → Ans) (round : Option Nat) (dst : Option Tmp) (k : S → Ans) (tm : Tr Value) (df : List Deferred) (h : H) (ab : Option (List PanicEntry)) : Out → Ans
--  | .of r => opVal dst k tm df ab r
--  | .pan v => .code (.panic [{ v, recovered := false }]) ⟨tm, df, h, ab⟩
--  | .call f args => opCall dst k tm df ab (ev (.call f args h none))
--  | .dfr f args => opDefer round dst k tm df h ab args f
--  | .recov => opRecover round dst k tm df h ab
--def opStep (T : Tab) (ev : Task → Ans) (fr : Fr) (all : Array Oper) (o : Oper) (k : S → Ans) : S → Ans
--  | ⟨tm, df, h, ab⟩ => match wanted all tm o.guard with | none => .fail | some b => cond b (opRes ev fr.round o.dst k tm df h ab (execOp T tm o.type h o.op)) (k ⟨putT tm undef o.dst, df, h, ab⟩)
--END
--REC
noncomputable def runOps (T : Tab) (ev : Task → Ans) (fr : Fr) (all : Array Oper) (l : List Oper) : S → Ans :=
  List.rec (motive := fun _ => S → Ans) (fun s => .code .normal s) (fun o _ ih s => opStep T ev fr all o ih s) l
--ALT
--def runOps (T : Tab) (ev : Task → Ans) (fr : Fr) (all : Array Oper) : List Oper → S → Ans
--  | [], s => .code .normal s
--  | o :: l, s => opStep T ev fr all o (runOps T ev fr all l) s
--END

/-! A region that draws its order: what each operation touches and writes is noted, and what is not ordered must be apart. -/
/-- The bits of the operations that come before, in every order. -/
def bindsAny (e : Edge) : Bool := match e.ground with | .textOnly _ | .gcOnly _ => false | _ => true
--REC
noncomputable def edgesBefore (bs : Tr Nat) (l : List Edge) : Nat :=
  List.rec (motive := fun _ => Nat) 0 (fun e _ ih => cond (bindsAny e) (Nat.lor ih (Nat.lor (bit e.on) (match bs.get e.on with | some n => n | none => 0))) ih) l
noncomputable def befores (l : List Oper) : Nat → Tr Nat → Tr Nat :=
  List.rec (motive := fun _ => Nat → Tr Nat → Tr Nat) (fun _ bs => bs) (fun o _ ih i bs => ih (Nat.succ i) (bs.set i (edgesBefore bs o.after.toList))) l
--ALT
--def edgesBefore (bs : Tr Nat) : List Edge → Nat
--  | [] => 0
--  | e :: l => if bindsAny e then (edgesBefore bs l) ||| (bit e.on) ||| ((bs.get e.on).getD 0) else edgesBefore bs l
--def befores : List Oper → Nat → Tr Nat → Tr Nat
--  | [], _, bs => bs
--  | o :: l, i, bs => befores l (i + 1) (bs.set i (edgesBefore bs o.after.toList))
--END
structure Note where
  i : Nat
  rd : Nat
  wr : Nat
def disj (a b : Nat) : Bool := Nat.beq (Nat.land a b) 0
def hasBit (n i : Nat) : Bool := Nat.beq (Nat.land (Nat.shiftRight n i) 1) 1
def apart (bj : Nat) (j k : Note) : Bool :=
  cond (hasBit bj k.i) true (cond (disj j.wr k.rd) (cond (disj k.wr j.rd) (disj j.wr k.wr) false) false)
/-- The numbers from one on to another, as bits. -/
def rangeBits (a b : Nat) : Nat := Nat.shiftLeft (Nat.sub (bit (Nat.sub b a)) 1) a
--REC
noncomputable def apartAll (bj : Nat) (j : Note) (l : List Note) : Bool := List.rec (motive := fun _ => Bool) true (fun k _ ih => cond (apart bj j k) ih false) l
--ALT
--def apartAll (bj : Nat) (j : Note) (l : List Note) : Bool := l.all (apart bj j)
--END
noncomputable def beforeOf (bs : Tr Nat) (i : Nat) : Nat := match bs.get i with | some n => n | none => 0
/-- What is noted of blocks that all are the caller's own is not kept. -/
noncomputable def notedH (m : Tr AObj) (n base rd wr r w : Nat) : H :=
  cond (Nat.beq base 0) ⟨m, n, base, rd, wr⟩ (forceN (fun r' => forceN (fun w' => ⟨m, n, base, r', w'⟩) (Nat.lor wr w)) (Nat.lor rd r))
noncomputable def drawnNote (k : List Note → S → Ans) (base rd wr : Nat) (bs : Tr Nat) (l : List Note) (i : Nat) (tm : Tr Value) (df : List Deferred) (ab : Option (List PanicEntry)) (m : Tr AObj) (n r w w' : Nat) : Ans :=
  cond (cond (Nat.beq r 0) (Nat.beq w' 0) false) (k l ⟨tm, df, ⟨m, n, base, rd, wr⟩, ab⟩)
    (cond (apartAll (beforeOf bs i) ⟨i, r, w'⟩ l) (k (⟨i, r, w'⟩ :: l) ⟨tm, df, notedH m n base rd wr r w, ab⟩) .fail)
noncomputable def drawnDone (k : List Note → S → Ans) (n0 base rd wr : Nat) (bs : Tr Nat) (l : List Note) (i : Nat) (tm : Tr Value) (df : List Deferred) (ab : Option (List PanicEntry)) (h : H) : Ans :=
  onH (fun m n _ r w => forceN (fun w' => drawnNote k base rd wr bs l i tm df ab m n r w w') (Nat.lor w (rangeBits n0 n))) h
noncomputable def drawnCall (k : List Note → S → Ans) (n0 base rd wr : Nat) (bs : Tr Nat) (l : List Note) (i : Nat) (dst : Option Tmp) (tm : Tr Value) (df : List Deferred) (ab : Option (List PanicEntry)) : Ans → Ans
  | .ret v h _ => drawnDone k n0 base rd wr bs l i (putT tm v dst) df ab h
  | _ => .fail
noncomputable def drawnRes (ev : Task → Ans) (k : List Note → S → Ans) (n0 base rd wr : Nat) (bs : Tr Nat) (l : List Note) (i : Nat) (dst : Option Tmp) (tm : Tr Value) (df : List Deferred) (h : H) (ab : Option (List PanicEntry)) : Out → Ans
  | .of (.val v h) => drawnDone k n0 base rd wr bs l i (putT tm v dst) df ab h
  | .call f args => drawnCall k n0 base rd wr bs l i dst tm df ab (ev (.call f args h none))
  | _ => .fail
noncomputable def H.fresh (h : H) : H := onH (fun m n _ _ _ => ⟨m, n, n, 0, 0⟩) h
noncomputable def drawnStep (T : Tab) (ev : Task → Ans) (all : Array Oper) (bs : Tr Nat) (i : Nat) (o : Oper) (k : List Note → S → Ans) (l : List Note) : S → Ans
  | ⟨tm, df, h, ab⟩ => onO .fail (fun b => onB (k l ⟨putT tm undef o.dst, df, h, ab⟩)
      (drawnRes ev k h.next h.base h.rd h.wr bs l i o.dst tm df h.fresh ab (execOp T tm o.type h.fresh o.op)) b) (wanted all tm o.guard)
--REC
noncomputable def runDrawn (T : Tab) (ev : Task → Ans) (all : Array Oper) (bs : Tr Nat) (l : List Oper) : Nat → List Note → S → Ans :=
  List.rec (motive := fun _ => Nat → List Note → S → Ans) (fun _ _ s => .code .normal s) (fun o _ ih i l s => drawnStep T ev all bs i o (ih (Nat.succ i)) l s) l
--ALT
--def runDrawn (T : Tab) (ev : Task → Ans) (all : Array Oper) (bs : Tr Nat) : List Oper → Nat → List Note → S → Ans
--  | [], _, _, s => .code .normal s
--  | o :: r, i, l, s => drawnStep T ev all bs i o (runDrawn T ev all bs r (i + 1)) l s
--END
noncomputable def runRegion (T : Tab) (ev : Task → Ans) (fr : Fr) (ops : Array Oper) (draw : Bool) (s : S) : Ans :=
  cond draw (runDrawn T ev ops (befores ops.toList 0 .nil) ops.toList 0 [] s) (runOps T ev fr ops ops.toList s)

def seqK (k : S → Ans) : Ans → Ans
  | .code .normal s => k s
  | r => r
def condK (a b : S → Ans) (s : S) : Option Value → Ans
  | some (.bool true) => a s
  | some (.bool false) => b s
  | _ => .fail
def blockK (id : Nat) : Ans → Ans
  | .code (.exit i) s => cond (Nat.beq i id) (.code .normal s) (.code (.exit i) s)
  | r => r
def loopK (ev : Task → Ans) (fr : Fr) (b : Code) : Ans → Ans
  | .code .normal s => ev (.loop fr b s)
  | r => r
def jumpOK : Code → Bool
  | .ret => true
  | .exit _ => true
  | _ => false
noncomputable def rfAfter2 (ev : Task → Ans) (fr : Fr) (s : S) (l : Nat) (h : H) (r : ALoop) : Ans :=
  match r.state with
  | .busy => .fail
  | _ => match r.pending with
    | none => .code .normal { s with h := h.put l (.loop { r with state := .exhausted }) }
    | some c => cond (jumpOK c) (ev (.run fr c { s with h := h.put l (.loop { r with state := .exhausted }) })) .fail
noncomputable def rfAfter1 (ev : Task → Ans) (fr : Fr) (s : S) (l : Nat) (h : H) : Option AObj → Ans
  | some (.loop r) => rfAfter2 ev fr s l h r
  | _ => .fail
noncomputable def rfAfter (ev : Task → Ans) (fr : Fr) (s : S) (l : Nat) : Ans → Ans
  | .ret _ h _ => rfAfter1 ev fr s l h (h.get l)
  | .pan chain h _ => .code (.panic chain) { s with h }
  | _ => .fail
noncomputable def rfEnter (ev : Task → Ans) (fr : Fr) (params : Array Tmp) (assign body : Code) (s : S) (d : Nat) (fv : Value) : Ans :=
  rfAfter ev fr s s.h.next (ev (.call fv [.func (.yield s.h.next) #[] #[]] (s.h.new (.loop { state := .ready, pending := none, fn := fr.fn, tmps := s.tm, params, assign, body, defers := d })) none))
noncomputable def rfIn (ev : Task → Ans) (fr : Fr) (params : Array Tmp) (assign body : Code) (s : S) (l : Nat) (fv : Value) : Option AObj → Ans
  | some (.loop r) => rfEnter ev fr params assign body { s with h := s.h.touch l } r.defers fv
  | _ => .fail
noncomputable def rangeFuncK (ev : Task → Ans) (fr : Fr) (params : Array Tmp) (assign body : Code) (s : S) : Option Value → Ans
  | none => .fail
  | some fv => match fr.round with
    | some l => rfIn ev fr params assign body s l fv (s.h.get l)
    | none => rfEnter ev fr params assign body { s with h := s.h.new (.deferred (some [])), df := { target := .collected s.h.next, args := #[] } :: s.df } s.h.next fv
--REC
noncomputable def runCode (T : Tab) (ev : Task → Ans) (fr : Fr) (c : Code) : S → Ans :=
  Code.rec (motive := fun _ => S → Ans)
    (fun s => .code .normal s)
    (fun _ ops draw s => runRegion T ev fr ops draw s)
    (fun _ _ ia ib s => seqK ib (ia s))
    (fun x _ _ ia ib s => condK ia ib s (opv s.tm x))
    (fun id _ ib s => blockK id (ib s))
    (fun b ib s => loopK ev fr b (ib s))
    (fun f params assign body _ _ s => rangeFuncK ev fr params assign body s (opv s.tm f))
    (fun id s => .code (.exit id) s)
    (fun _ ib s => ib s)
    (fun _ s => .code .normal s)
    (fun _ _ => .fail)
    (fun s => .code .ret s)
    (fun _ _ => .fail) c
--ALT
--def runCode (T : Tab) (ev : Task → Ans) (fr : Fr) : Code → S → Ans
--  | .skip, s | .label _, s => .code .normal s
--  | .region _ ops draw, s => runRegion T ev fr ops draw s
--  | .seq a b, s => seqK (runCode T ev fr b) (runCode T ev fr a s)
--  | .cond x a b, s => condK (runCode T ev fr a) (runCode T ev fr b) s (opv s.tm x)
--  | .block id b, s => blockK id (runCode T ev fr b s)
--  | .loop b, s => loopK ev fr b (runCode T ev fr b s)
--  | .rangeFunc f params assign body, s => rangeFuncK ev fr params assign body s (opv s.tm f)
--  | .exit id, s => .code (.exit id) s
--  | .scope b, s => runCode T ev fr b s
--  | .ret, s => .code .ret s
--  | _, _ => .fail
--END

/-! What is asked of a function's text, once. -/
def callOpnds (c : Call) : List Operand :=
  match c.callee with
  | .value f => f :: c.args.toList
  | .invoke r _ => r :: c.args.toList
  | .builtin _ => c.args.toList
def optL : Option Operand → List Operand
  | some x => [x]
  | none => []
def opnds : Op → List Operand
  | .move x | .assign x | .box _ x | .load _ x | .nilCheck x | .unOp _ _ x | .convert _ _ x | .makeInterface _ x
  | .fieldAddr _ x _ | .field _ x _ | .range _ x | .next x _ | .entry x | .typeAssert x _ _ _ | .extract x _ | .panic x => [x]
  | .pick c a b => [c, a, b]
  | .build _ ps | .buildSlice _ _ ps => ps.toList.map (·.2)
  | .store _ a v | .binOp _ _ a v _ | .makeSlice _ a v | .indexAddr _ a v | .index _ a v | .lookup _ a v _ => [a, v]
  | .makeFunc _ first captured => first.toList ++ captured.toList
  | .slice _ x l h m => x :: (optL l ++ (optL h ++ optL m))
  | .mapUpdate _ m k v | .insert _ m k v => [m, k, v]
  | .call c | .defer c => callOpnds c
  | _ => []
def isTmp (t : Tmp) : Operand → Bool
  | .tmp u => Nat.beq u t
  | _ => false
/-- A slot is looked at by an operation. -/
def looks (all : List Oper) (o : Oper) (t : Tmp) : Bool :=
  (opnds o.op).any (isTmp t) || (match o.guard with
    | some (g, _) => (match all[g]? with
      | some x => (match x.dst with | some d => Nat.beq d t | none => false)
      | none => false)
    | none => false)
def looksD (all : List Oper) (o : Oper) : Option Tmp → Bool
  | some t => looks all o t
  | none => false
def sameDst : Option Tmp → Option Tmp → Bool
  | some a, some b => Nat.beq a b
  | _, _ => false
def pairOK (all : List Oper) (bj i : Nat) (oi oj : Oper) : Bool :=
  hasBit bj i || (!looksD all oj oi.dst && (!looksD all oi oj.dst && !sameDst oi.dst oj.dst))
def edgeOK (i : Nat) (e : Edge) : Bool := cond (bindsAny e) (Nat.ble (Nat.succ e.on) i) true
def guardOK (bj : Nat) : Option (Nat × Bool) → Bool
  | none => true
  | some g => hasBit bj g.1
def pairsOK (all : List Oper) (bj : Nat) (oj : Oper) : List Oper → Nat → Nat → Bool
  | [], _, _ => true
  | oi :: l, i, j => (Nat.ble j i || pairOK all bj i oi oj) && pairsOK all bj oj l (Nat.succ i) j
noncomputable def drawnAllOK (all : List Oper) (bs : Tr Nat) : List Oper → Nat → Bool
  | [], _ => true
  | oj :: l, j => oj.after.toList.all (edgeOK j) && (guardOK (beforeOf bs j) oj.guard && (pairsOK all (beforeOf bs j) oj all 0 j && drawnAllOK all bs l (Nat.succ j)))
def dstOK (nt : Nat) (o : Oper) : Bool := match o.dst with | some d => Nat.ble (Nat.succ d) nt | none => true
noncomputable def constOK : Operand → Bool
  | .const v => groundDeep v
  | _ => true
noncomputable def opOK (nt : Nat) (o : Oper) : Bool := dstOK nt o && (opnds o.op).all constOK
noncomputable def regionOK (nt : Nat) (ops : Array Oper) (draw : Bool) : Bool :=
  ops.toList.all (opOK nt) && (!draw || drawnAllOK ops.toList (befores ops.toList 0 .nil) ops.toList 0)
def paramsOK (nt : Nat) (ps : List Tmp) : Bool := ps.all fun d => Nat.ble (Nat.succ d) nt
noncomputable def codeOK (nt : Nat) : Code → Bool
  | .region _ ops draw => regionOK nt ops draw
  | .seq a b => codeOK nt a && codeOK nt b
  | .cond c a b => constOK c && (codeOK nt a && codeOK nt b)
  | .block _ b => codeOK nt b
  | .loop b => codeOK nt b
  | .rangeFunc f ps a b => constOK f && (paramsOK nt ps.toList && (codeOK nt a && codeOK nt b))
  | .scope b => codeOK nt b
  | _ => true
noncomputable def funcOK (fn : Func) : Bool :=
  match fn.body with
  | some c => !(fn.name == "runtime.NumGoroutine") && codeOK fn.ntmps c
  | none => false
noncomputable def okFunc (fn : Func) : Option Func := cond (funcOK fn) (some fn) none
noncomputable def joinO {α : Type} (o : Option (Option α)) : Option α := onO none (fun x => x) o
noncomputable def Tab.func (T : Tab) (g : FuncId) : Option Func := joinO (T.funcs.get g)

/-! Calls -/
--REC
noncomputable def initT (l : List Value) : Nat → Tr Value → Tr Value :=
  List.rec (motive := fun _ => Nat → Tr Value → Tr Value) (fun _ t => t) (fun v _ ih k t => ih (Nat.succ k) (t.set k v)) l
noncomputable def putAll (ds : List Tmp) : List Value → Tr Value → Option (Tr Value) :=
  List.rec (motive := fun _ => List Value → Tr Value → Option (Tr Value)) (fun vs t => match vs with | [] => some t | _ :: _ => none)
    (fun d _ ih vs t => match vs with | [] => none | v :: vs => ih vs (t.set d v)) ds
--ALT
--def initT : List Value → Nat → Tr Value → Tr Value
--  | [], _, t => t
--  | v :: l, k, t => initT l (k + 1) (t.set k v)
--def putAll : List Tmp → List Value → Tr Value → Option (Tr Value)
--  | [], [], t => some t
--  | d :: ds, v :: vs, t => putAll ds vs (t.set d v)
--  | _, _, _ => none
--END
def bodyDone (ev : Task → Ans) (fn : Func) : Ans → Ans
  | .code .normal s => ev (.unwind fn s none)
  | .code .ret s => ev (.unwind fn s none)
  | .code (.panic chain) s => ev (.unwind fn s (some chain))
  | _ => .fail
noncomputable def bodyRun (T : Tab) (ev : Task → Ans) (g : FuncId) (args : List Value) (h : H) (ab : Option (List PanicEntry)) (fn : Func) : Option Code → Ans
  | some c => bodyDone ev fn (runCode T ev ⟨g, none⟩ c ⟨initT args 0 .nil, [], h, ab⟩)
  | none => .fail
noncomputable def callFn (T : Tab) (ev : Task → Ans) (g : FuncId) (args : List Value) (h : H) (ab : Option (List PanicEntry)) : Option Func → Ans
  | some fn => bodyRun T ev g args h ab fn fn.body
  | none => .fail
def roundPan (h : H) (chain : List PanicEntry) : List Deferred → Ans
  | [] => .pan chain h none
  | _ :: _ => .fail
noncomputable def roundFin (s : S) (l : Nat) (r : ALoop) : Ex → Ans
  | .normal => .ret (.bool true) (s.h.put l (.loop { r with state := .ready, pending := none })) none
  | .ret => .ret (.bool false) (s.h.put l (.loop { r with state := .done, pending := some .ret })) none
  | .exit id => .ret (.bool false) (s.h.put l (.loop { r with state := .done, pending := some (.exit id) })) none
  | .panic chain => roundPan s.h chain s.df
noncomputable def roundEnd1 (s : S) (l : Nat) (e : Ex) : Option AObj → Ans
  | some (.loop r) => roundFin s l r e
  | _ => .fail
noncomputable def roundEnd (l : Nat) : Ans → Ans
  | .code e s => roundEnd1 s l e (s.h.get l)
  | _ => .fail
noncomputable def roundBody2 (T : Tab) (ev : Task → Ans) (s : S) (l : Nat) (r q : ALoop) : LoopState → Ans
  | .ready => roundEnd l (runCode T ev ⟨r.fn, some l⟩ r.body { s with h := s.h.put l (.loop { q with state := .busy }) })
  | _ => .fail
noncomputable def roundBody1 (T : Tab) (ev : Task → Ans) (s : S) (l : Nat) (r : ALoop) : Option AObj → Ans
  | some (.loop q) => roundBody2 T ev s l r q q.state
  | _ => .fail
noncomputable def roundBody (T : Tab) (ev : Task → Ans) (l : Nat) (r : ALoop) : Ans → Ans
  | .code .normal s => roundBody1 T ev s l r (s.h.get l)
  | _ => .fail
noncomputable def roundRun (T : Tab) (ev : Task → Ans) (l : Nat) (h : H) (r : ALoop) : Option (Tr Value) → Option Func → Ans
  | some tm, some fn => cond (codeOK fn.ntmps r.assign && codeOK fn.ntmps r.body) (roundBody T ev l r (runCode T ev ⟨r.fn, some l⟩ r.assign ⟨tm, [], h.touch l, none⟩)) .fail
  | _, _ => .fail
noncomputable def callYield (T : Tab) (ev : Task → Ans) (l : Nat) (args : List Value) (h : H) : Option AObj → Ans
  | some (.loop r) => roundRun T ev l h r (putAll r.params.toList args r.tmps) (T.func r.fn)
  | _ => .fail
noncomputable def callK (T : Tab) (ev : Task → Ans) (args : List Value) (h : H) (ab : Option (List PanicEntry)) : Value → Ans
  | .func (.func g) first cap => callFn T ev g (first.toList ++ args ++ cap.toList) h ab (T.func g)
  | .func (.yield l) _ _ => callYield T ev l args h (h.get l)
  | _ => .fail

inductive Vals where
  | fail
  | ok (vs : List Value) (h : H)
def addVal (v : Value) : Vals → Vals
  | .ok vs h => .ok (v :: vs) h
  | .fail => .fail
def resThen (k : H → Vals) : Res → Vals
  | .val v h => addVal v (k h)
  | _ => .fail
noncomputable def resultOf (T : Tab) (tm : Tr Value) (k : H → Vals) (h : H) : ResultVar → Vals
  | .tmp t => resThen k (vres h (tm.get t))
  | .cell a t => resThen k (loadLocOf T h t (tm.get a))
--REC
noncomputable def results (T : Tab) (tm : Tr Value) (l : List ResultVar) : H → Vals :=
  List.rec (motive := fun _ => H → Vals) (fun h => .ok [] h) (fun r _ ih h => resultOf T tm ih h r) l
--ALT
--def results (T : Tab) (tm : Tr Value) : List ResultVar → H → Vals
--  | [], h => .ok [] h
--  | r :: l, h => resultOf T tm (results T tm l) h r
--END
def retOf (ab : Option (List PanicEntry)) : Vals → Ans
  | .ok [v] h => .ret v h ab
  | .ok vs h => .ret (.tuple ⟨vs⟩) h ab
  | .fail => .fail
/-- What a deferred call that has returned makes of the panics of its frame. -/
def settled : Option (List PanicEntry) → Option (List PanicEntry)
  | some ({ recovered := true, .. } :: _) => none
  | m => m
def deferDone (ev : Task → Ans) (fn : Func) (ds : List Deferred) (tm : Tr Value) (ab : Option (List PanicEntry)) : Ans → Ans
  | .ret _ h mode => ev (.unwind fn ⟨tm, ds, h, ab⟩ (settled mode))
  | .pan chain h mode => ev (.unwind fn ⟨tm, ds, h, ab⟩ (some (chain ++ mode.getD [])))
  | _ => .fail
noncomputable def collectedK (ev : Task → Ans) (fn : Func) (ds : List Deferred) (tm : Tr Value) (h : H) (ab mode : Option (List PanicEntry)) (b : Nat) : Option AObj → Ans
  | some (.deferred (some l)) => ev (.unwind fn ⟨tm, l ++ ds, h.put b (.deferred none), ab⟩ mode)
  | _ => .fail
noncomputable def deferRun (ev : Task → Ans) (fn : Func) (ds : List Deferred) (tm : Tr Value) (h : H) (ab mode : Option (List PanicEntry)) (args : Array Value) : Target → Ans
  | .collected b => collectedK ev fn ds tm h ab mode b (h.get b)
  | .fn f cap => deferDone ev fn ds tm ab (ev (.call (.func f #[] cap) args.toList h mode))
  | _ => .fail
noncomputable def leaveK (T : Tab) (fn : Func) (tm : Tr Value) (h : H) (ab : Option (List PanicEntry)) : Option (List PanicEntry) → Ans
  | some chain => .pan chain h ab
  | none => retOf ab (results T tm fn.results.toList h)
noncomputable def unwindK (T : Tab) (ev : Task → Ans) (fn : Func) (mode : Option (List PanicEntry)) : S → Ans
  | ⟨tm, df, h, ab⟩ => match df with
    | [] => leaveK T fn tm h ab mode
    | d :: ds => deferRun ev fn ds tm h ab mode d.args d.target

noncomputable def F (T : Tab) (ev : Task → Ans) : Task → Ans
  | .loop fr b s => runCode T ev fr (.loop b) s
  | .run fr c s => runCode T ev fr c s
  | .call f args h ab => callK T ev args h ab f
  | .unwind fn s mode => unwindK T ev fn mode s
--REC
noncomputable def eval (T : Tab) (n : Nat) : Task → Ans :=
  Nat.rec (motive := fun _ => Task → Ans) (fun _ => .fail) (fun _ ih => F T ih) n
--ALT
--def eval (T : Tab) : Nat → Task → Ans
--  | 0, _ => .fail
--  | n + 1, t => F T (eval T n) t
--END

noncomputable def tabOf (p : Program) : Tab :=
  { prog := p
    info := Tr.ofList p.types.toList 1 .nil
    funcs := Tr.ofList (p.funcs.toList.map okFunc) 1 .nil }

end Go.Am
