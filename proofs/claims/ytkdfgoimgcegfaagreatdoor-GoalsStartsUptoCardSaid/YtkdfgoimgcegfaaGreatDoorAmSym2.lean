/- Equations by which a run is worked out on values that are not known: the operations. -/
import Derived.Test.YtkdfgoimgcegfaaGreatDoorAmSym
set_option linter.unusedSectionVars false
set_option linter.unusedSimpArgs false
set_option linter.unusedVariables false
namespace Go.Am
open Go
variable {T : Tab} {ev : Task → Ans} {fr : Fr}
namespace Sym
section
variable (tm : Tr Value) (ty : TypeId) (h : H)
@[simp] theorem x_move (x : Operand) : execOp T tm ty h (.move x) = .of (vres h (opv tm x)) := rfl
@[simp] theorem x_assign (x : Operand) : execOp T tm ty h (.assign x) = .of (vres h (opv tm x)) := rfl
@[simp] theorem x_pick (c a b : Operand) : execOp T tm ty h (.pick c a b) = .of (pickOf tm h a b (opv tm c)) := rfl
@[simp] theorem x_alloc (e : TypeId) : execOp T tm ty h (.alloc e) = .of (boxOf h e (zero T e)) := rfl
@[simp] theorem x_box (e : TypeId) (x : Operand) : execOp T tm ty h (.box e x) = .of (boxOf h e (opv tm x)) := rfl
@[simp] theorem x_build (t : TypeId) (ps : Array (Nat × Operand)) : execOp T tm ty h (.build t ps) = .of (buildOf T h t (zero T t) (opvParts tm ps.toList)) := rfl
@[simp] theorem x_buildSlice (t : TypeId) (n : Nat) (ps : Array (Nat × Operand)) : execOp T tm ty h (.buildSlice t n ps) = .of (buildSliceOf T h n (T.under t) (opvParts tm ps.toList)) := rfl
@[simp] theorem x_load (t : TypeId) (a : Operand) : execOp T tm ty h (.load t a) = .of (loadOf T h t (opv tm a)) := rfl
@[simp] theorem x_store (t : TypeId) (a v : Operand) : execOp T tm ty h (.store t a v) = .of (storeOf T h t (opv tm a) (opv tm v)) := rfl
@[simp] theorem x_bin (op : BinOp) (t t' : TypeId) (x y : Operand) : execOp T tm ty h (.binOp op t x y t') = .of (binOf T h op t x y (opv tm x) (opv tm y)) := rfl
@[simp] theorem x_un (op : UnOp) (t : TypeId) (x : Operand) : execOp T tm ty h (.unOp op t x) = .of (unOf T h op (opv tm x)) := rfl
@[simp] theorem x_convert (s d : TypeId) (x : Operand) : execOp T tm ty h (.convert s d x) = .of (convertOf T h s d (opv tm x)) := rfl
@[simp] theorem x_makeSlice (t : TypeId) (l c : Operand) : execOp T tm ty h (.makeSlice t l c) = .of (makeSliceOf T h (T.under t) (opv tm l) (opv tm c)) := rfl
@[simp] theorem x_makeFunc (fn : Fn) (a b : Array Operand) : execOp T tm ty h (.makeFunc fn a b) = .of (funcOf h fn (opvs tm a.toList) (opvs tm b.toList)) := rfl
@[simp] theorem x_slice (t : TypeId) (x : Operand) (lo hi mx : Option Operand) : execOp T tm ty h (.slice t x lo hi mx) = .of (sliceOf T h t (opv tm x) (bounds lo (opvO tm lo)) (bounds hi (opvO tm hi)) (bounds mx (opvO tm mx))) := rfl
@[simp] theorem x_fieldAddr (s : TypeId) (x : Operand) (f : Nat) : execOp T tm ty h (.fieldAddr s x f) = .of (fieldAddrOf T h s f (opv tm x)) := rfl
@[simp] theorem x_field (t : TypeId) (x : Operand) (f : Nat) : execOp T tm ty h (.field t x f) = .of (fieldOf T h f (T.under t) (opv tm x)) := rfl
@[simp] theorem x_indexAddr (t : TypeId) (x i : Operand) : execOp T tm ty h (.indexAddr t x i) = .of (indexAddrOf T h (T.under t) (opv tm x) (opv tm i)) := rfl
@[simp] theorem x_index (t : TypeId) (x i : Operand) : execOp T tm ty h (.index t x i) = .of (indexOf T h t (T.under t) (opv tm x) (opv tm i)) := rfl
@[simp] theorem x_extract (x : Operand) (i : Nat) : execOp T tm ty h (.extract x i) = .of (extractOf h i (opv tm x)) := rfl
@[simp] theorem x_iface (t : TypeId) (x : Operand) : execOp T tm ty h (.makeInterface t x) = .of (ifaceOf h t (T.under t) (opv tm x)) := rfl
@[simp] theorem x_panic (x : Operand) : execOp T tm ty h (.panic x) = panOf (opv tm x) := rfl
@[simp] theorem x_call (f : Operand) (args : Array Operand) (ts : Array TypeId) : execOp T tm ty h (.call ⟨.value f, args, ts⟩) = callOf T tm h ts ty (.value f) (opvs tm args.toList) := rfl
@[simp] theorem x_callB (b : Builtin) (args : Array Operand) (ts : Array TypeId) : execOp T tm ty h (.call ⟨.builtin b, args, ts⟩) = callOf T tm h ts ty (.builtin b) (opvs tm args.toList) := rfl
@[simp] theorem callOf_value (ts : Array TypeId) (f : Operand) (args : List Value) : callOf T tm h ts ty (.value f) (some args) = callTo args (opv tm f) := rfl
@[simp] theorem callOf_builtin (ts : Array TypeId) (b : Builtin) (args : List Value) : callOf T tm h ts ty (.builtin b) (some args) = builtinOf T h ts ty args b := rfl
end
@[simp] theorem callTo_some (args : List Value) (f : Value) : callTo args (some f) = .call f args := rfl
@[simp] theorem vres_some (h : H) (v : Value) : vres h (some v) = .val v h := rfl
@[simp] theorem pickOf_bool (tm : Tr Value) (h : H) (a b : Operand) (c : Bool) : pickOf tm h a b (some (.bool c)) = onB (vres h (opv tm b)) (vres h (opv tm a)) c := by cases c <;> rfl
@[simp] theorem boxOf_some (h : H) (e : TypeId) (v : Value) : boxOf h e (some v) = .val (.pointer (some ⟨h.next, 0, none⟩)) (h.new (.cells (cellsL v) e false)) := rfl
/-! Loads, stores -/
@[simp] theorem loadOf_some (h : H) (t : TypeId) (a : Value) : loadOf T h t (some a) = loadAt T h t a := rfl
@[simp] theorem loadLocOf_some (h : H) (t : TypeId) (a : Value) : loadLocOf T h t (some a) = loadLoc T h t a := rfl
@[simp] theorem loadAt_ptr (h : H) (t : TypeId) (b off : Nat) : loadAt T h t (.pointer (some ⟨b, off, none⟩)) = loadIn T h t b off (h.get b) := rfl
@[simp] theorem loadLoc_ptr (h : H) (t : TypeId) (b off : Nat) : loadLoc T h t (.pointer (some ⟨b, off, none⟩)) = loadIn T h t b off (h.get b) := rfl
@[simp] theorem loadAt_data (h : H) (t : TypeId) (e : Value) (f : Nat) (p : Array FieldStep) (k : FuncId) (q : Array Value) : loadAt T h t (.func (.via f p k true) ⟨[e]⟩ q) = vres h (partOf T t (cellsL e) f) := rfl
@[simp] theorem loadIn_cells (h : H) (t : TypeId) (b off : Nat) (c : List Value) (e : TypeId) (g : Bool) : loadIn T h t b off (some (.cells c e g)) = vres (h.touch b) (partOf T t c off) := rfl
theorem part_one {t : TypeId} (ha : isAgg T t = some false) (c : List Value) (off : Nat) : partOf T t c off = c[off]? := by
  unfold partOf; rw [ha]; exact nthL_eq off c
theorem part_agg {t : TypeId} {n : Nat} (ha : isAgg T t = some true) (hs : size T t = some n) (c : List Value) (off : Nat) : partOf T t c off = aggOf (cut c off n) := by
  unfold partOf; rw [ha]; show partAgg c off (size T t) = _; rw [hs]; rfl
theorem takeL_some : ∀ (n : Nat) (l : List Value), n ≤ l.length → takeL n l = some (l.take n)
  | 0, l, _ => by simp [takeL_zero]
  | n + 1, [], h => by simp at h
  | n + 1, x :: l, h => by
    have := takeL_some n l (by simpa using h)
    show (match takeL n l with | some r => some (x :: r) | none => none) = _
    rw [this]; simp
theorem cut_some {c : List Value} {off n : Nat} (h : off + n ≤ c.length) : cut c off n = some ((c.drop off).take n) := by
  unfold cut; rw [dropL_eq, takeL_some _ _ (by rw [List.length_drop]; omega)]
theorem cut_if (c : List Value) (off n : Nat) : cut c off n = if off + n ≤ c.length ∨ n = 0 then some ((c.drop off).take n) else none := by
  by_cases h : off + n ≤ c.length
  · rw [if_pos (.inl h)]; exact cut_some h
  · by_cases hn : n = 0
    · subst hn; rw [if_pos (.inr rfl)]; unfold cut; rw [takeL_zero]; simp
    · rw [if_neg (by simp [h, hn])]
      cases hc : cut c off n with
      | none => rfl
      | some r =>
        obtain ⟨h1, _⟩ := cut_eq hc
        rw [List.length_drop] at h1
        omega
@[simp] theorem aggOf_some (r : List Value) : aggOf (some r) = some (.agg ⟨r⟩) := rfl
@[simp] theorem storeOf_some (h : H) (t : TypeId) (a v : Value) : storeOf T h t (some a) (some v) = hres (storeAt T h t v a) := rfl
@[simp] theorem hres_some (h : H) : hres (some h) = .val undef h := rfl
theorem over_some : ∀ (vs l : List Value), vs.length ≤ l.length → over vs l = some (vs ++ l.drop vs.length)
  | [], l, _ => rfl
  | v :: vs, [], h => by simp at h
  | v :: vs, x :: l, h => by
    have := over_some vs l (by simpa using h)
    show (match over vs l with | some r => some (v :: r) | none => none) = _
    rw [this]; simp
theorem splice_some : ∀ (off : Nat) (vs l : List Value), off + vs.length ≤ l.length → splice off vs l = some (l.take off ++ (vs ++ l.drop (off + vs.length)))
  | 0, vs, l, h => by
    show over vs l = _
    rw [over_some vs l (by omega)]; simp
  | off + 1, vs, [], h => by simp at h
  | off + 1, vs, x :: l, h => by
    have := splice_some off vs l (by simp at h; omega)
    show (match splice off vs l with | some r => some (x :: r) | none => none) = _
    rw [this]
    have : off + 1 + vs.length = (off + vs.length) + 1 := by omega
    rw [this]; simp
theorem fits_some (vs : List Value) (n : Nat) : fits vs (some n) = cond (Nat.beq (lenL vs) n) (oneCells vs) false := rfl
theorem storeAt_ptr {h : H} {t : TypeId} {v : Value} {b off n : Nat} {c : List Value} {e : TypeId} {g : Bool} (hs : size T t = some n) (hl : (cellsL v).length = n) (ho : oneCells (cellsL v) = true) (hg : h.get b = some (.cells c e g))
    (hb : off + n ≤ c.length) : storeAt T h t v (.pointer (some ⟨b, off, none⟩)) = some (h.put b (.cells (c.take off ++ (cellsL v ++ c.drop (off + n))) e g)) := by
  show onB none (storeIn h b off (cellsL v) (h.get b)) (fits (cellsL v) (size T t)) = _
  rw [hs, fits_some, lenL_eq, nbeq_eq hl, ho]
  show storeIn h b off (cellsL v) (h.get b) = _
  rw [hg]
  show putSome h b e g (splice off (cellsL v) c) = _
  rw [splice_some _ _ _ (by omega), hl]
  rfl
/-! Fields, elements -/
theorem fieldAddr_ptr {h : H} {s : TypeId} {f b off n o : Nat} {fs : Array Field} {fd : Field} (hu : T.under s = some (.struct fs)) (hf : fs.toList[f]? = some fd) (hs : size T fd.type = some (n + 1)) (ho : fd.offset = o) :
    fieldAddrOf T h s f (some (.pointer (some ⟨b, off, none⟩))) = .val (.pointer (some ⟨b, off + o, none⟩)) h := by
  show onO (β := Tab → H → Addr → Res) (fun _ _ _ => .fail) (fun fd T h a => fieldAddrBy h a fd.offset (size T fd.type)) (fieldAt (T.under s) f) T h ⟨b, off, none⟩ = _
  rw [hu]
  have e : fieldAt (some (.struct fs)) f = some fd := hf
  rw [e]
  show fieldAddrBy h ⟨b, off, none⟩ fd.offset (size T fd.type) = _
  rw [hs]
  show Res.val (.pointer (some ((⟨b, off, none⟩ : Addr).add fd.offset))) h = _
  rw [addr_add, ho]
theorem fieldAddr_data {h : H} {s : TypeId} {f off n o : Nat} {e : Value} {fs : Array Field} {fd : Field} {p : Array FieldStep} {k : FuncId} {q : Array Value} (hu : T.under s = some (.struct fs)) (hf : fs.toList[f]? = some fd) (hs : size T fd.type = some (n + 1)) (ho : fd.offset = o) :
    fieldAddrOf T h s f (some (.func (.via off p k true) ⟨[e]⟩ q)) = .val (dptr e (off + o)) h := by
  show fieldData T h s f (some (.func (.via off p k true) ⟨[e]⟩ q)) = _
  unfold fieldData
  rw [hu]
  have e1 : fieldAt (some (.struct fs)) f = some fd := hf
  rw [e1]
  show fieldDataBy h e off fd.offset (size T fd.type) = _
  rw [hs, ho]; rfl
theorem indexAddr_data {h : H} {el : TypeId} {off len i n : Nat} {p : Array FieldStep} {es : List Value} {q : Array Value} {k : IntKind} {e : Value} (hs : size T el = some n) (hi : i < len) (he : es[off + i]? = some e) (hn : (cellsL e).length = n) :
    indexAddrOf T h (some (.slice el)) (some (.func (.via off p len false) ⟨es⟩ q)) (some (.int k (i : Int))) = .val (dptr e 0) h := by
  show indexData h es off len i (size T el) = _
  rw [hs]
  show cond (Nat.ble (Nat.succ i) len) (indexDataIn h n es[Nat.add off i]?) .fail = _
  rw [Nat.ble_eq_true_of_le hi]
  show indexDataIn h n es[off + i]? = _
  rw [he]
  show cond (Nat.beq (lenL (cellsL e)) n) (Res.val (dptr e 0) h) .fail = _
  rw [lenL_eq, nbeq_eq hn]; rfl
@[simp] theorem extractOf_tuple (h : H) (i : Nat) (l : List Value) : extractOf h i (some (.tuple ⟨l⟩)) = vres h l[i]? := by
  show vres h (nthL i l) = _
  rw [nthL_eq]
/-! Operators -/
section
variable (h : H) (t : TypeId) (x y : Operand) (k : IntKind) (a b : Int)
theorem binInt_of (op : BinOp) {v : Value} (hv : intBin op k a b = some v) : binOf T h op t x y (some (.int k a)) (some (.int k b)) = .val v h := by
  show onB .fail (onO (β := Tab → H → BinOp → TypeId → IntKind → Int → Int → Res) (fun T h op t k a b => vresG h (pureRun T.prog (binOp op t (.int k a) (.int k b))))
    (fun v _ h _ _ _ _ _ => .val v h) (intBin op k a b) T h op t k a b) (decide (k = k)) = _
  rw [hv, decide_eq_true rfl]; rfl
@[simp] theorem bin_add : binOf T h .add t x y (some (.int k a)) (some (.int k b)) = .val (.int k (k.wrap (a + b))) h := binInt_of h t x y k a b .add rfl
@[simp] theorem bin_sub : binOf T h .sub t x y (some (.int k a)) (some (.int k b)) = .val (.int k (k.wrap (a - b))) h := binInt_of h t x y k a b .sub rfl
@[simp] theorem bin_mul : binOf T h .mul t x y (some (.int k a)) (some (.int k b)) = .val (.int k (k.wrap (a * b))) h := binInt_of h t x y k a b .mul rfl
@[simp] theorem bin_eql : binOf T h .eql t x y (some (.int k a)) (some (.int k b)) = .val (.bool (decide (a = b))) h := by
  rw [binInt_of h t x y k a b .eql rfl]; congr 2
@[simp] theorem bin_neq : binOf T h .neq t x y (some (.int k a)) (some (.int k b)) = .val (.bool (!decide (a = b))) h := by
  rw [binInt_of h t x y k a b .neq rfl]; congr 2
@[simp] theorem bin_lss : binOf T h .lss t x y (some (.int k a)) (some (.int k b)) = .val (.bool (decide (a < b))) h := binInt_of h t x y k a b .lss rfl
@[simp] theorem bin_leq : binOf T h .leq t x y (some (.int k a)) (some (.int k b)) = .val (.bool (decide (a ≤ b))) h := binInt_of h t x y k a b .leq rfl
@[simp] theorem bin_gtr : binOf T h .gtr t x y (some (.int k a)) (some (.int k b)) = .val (.bool (decide (a > b))) h := binInt_of h t x y k a b .gtr rfl
@[simp] theorem bin_geq : binOf T h .geq t x y (some (.int k a)) (some (.int k b)) = .val (.bool (decide (a ≥ b))) h := binInt_of h t x y k a b .geq rfl
end
@[simp] theorem un_not (h : H) (b : Bool) : unOf T h .not (some (.bool b)) = .val (.bool (!b)) h := by
  cases b <;> rfl
/-! Built-in functions -/
@[simp] theorem b_len (h : H) (ts : Array TypeId) (ty : TypeId) (x : Value) : builtinOf T h ts ty [x] .len = .of (lenBy h (underO T ts.toList[0]?) x) := rfl
@[simp] theorem under_s (t : TypeId) : underO T (some t) = T.under t := rfl
@[simp] theorem len_data (h : H) (e off : TypeId) (p : Array FieldStep) (n : Nat) (es q : Array Value) : lenBy h (some (.slice e)) (.func (.via off p n false) es q) = .val (.int .i64 n) h := rfl
@[simp] theorem len_slice (h : H) (e : TypeId) (a : Option Addr) (n c : Nat) : lenBy h (some (.slice e)) (.slice a n c) = .val (.int .i64 n) h := rfl
@[simp] theorem len_string (h : H) (s : ByteArray) : lenBy h (some .string) (.string s) = .val (.int .i64 s.size) h := rfl
@[simp] theorem b_append (h : H) (ts : Array TypeId) (ty : TypeId) (s x : Value) : builtinOf T h ts ty [s, x] .append = .of (appendOf T h x (underO T ts.toList[0]?) (underO T ts.toList[1]?) s (lenOf x)) := rfl
end Sym
end Go.Am
