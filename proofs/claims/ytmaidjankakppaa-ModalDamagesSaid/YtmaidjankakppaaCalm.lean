/- Operations that only read: what they give in one world they give in each world that has the same old blocks. -/
import Derived.WalkKit
namespace Go.Calmly

/-- All blocks of w are as they were. -/
structure Kept (w w' : World) : Prop where
  size : w.heap.size ≤ w'.heap.size
  block : ∀ k, k < w.heap.size → w'.heap[k]? = w.heap[k]?

theorem Kept.refl (w : World) : Kept w w := ⟨Nat.le_refl _, fun _ _ => rfl⟩
theorem Kept.trans {a b c : World} (h : Kept a b) (k : Kept b c) : Kept a c :=
  ⟨Nat.le_trans h.size k.size, fun i hi => (k.block i (Nat.lt_of_lt_of_le hi h.size)).trans (h.block i hi)⟩

inductive Calm {α : Type} (P : Program) : Sem α → Prop
  | pure (a : α) : Calm P (.pure a)
  | load (m : Mode) (a : Addr) (k : Value → Sem α) (h : ∀ v, Calm P (k v)) : Calm P (.load m a k)
  | program (k : Program → Sem α) (h : Calm P (k P)) : Calm P (.program k)
  | mark (m : Mark) (k : Sem α) (h : Calm P k) : Calm P (.mark m k)
  | halt (x : Halt) : Calm P (.halt x)
  | choose (q : Question) (k : Nat → Sem α) (h : ∀ n (w w' : World) (v : α), (k n).run P w ≠ .ok v w') : Calm P (.choose q k)

theorem run_bind_ok {α β : Type} {P : Program} {x : Sem α} {f : α → Sem β} {w w' : World} {v : β} (h : (x.bind f).run P w = .ok v w') :
    ∃ u w1, x.run P w = .ok u w1 ∧ (f u).run P w1 = .ok v w' := by
  rw [Sem.run_bind' P x f w] at h
  cases hx : x.run P w with
  | ok u w1 => rw [hx] at h; exact ⟨u, w1, rfl, h⟩
  | halt e w1 => rw [hx] at h; cases h

theorem Calm.bind {α β : Type} {P : Program} {x : Sem α} {f : α → Sem β} (hx : Calm P x) (hf : ∀ a, Calm P (f a)) : Calm P (x.bind f) := by
  induction hx with
  | pure a => exact hf a
  | load m a k h ih => exact Calm.load m a _ ih
  | program k h ih => exact Calm.program _ ih
  | mark m k h ih => exact Calm.mark m _ ih
  | halt x => exact Calm.halt x
  | choose q k h =>
    refine Calm.choose q _ fun n w w' v hr => ?_
    obtain ⟨u, w1, h1, _⟩ := run_bind_ok hr
    exact h n w w1 u h1

theorem Calm.bind' {α β : Type} {P : Program} {x : Sem α} {f : α → Sem β} (hx : Calm P x) (hf : ∀ a, Calm P (f a)) : Calm P (x >>= f) := hx.bind hf
theorem Calm.pure' {α : Type} {P : Program} (a : α) : Calm P (Pure.pure a : Sem α) := Calm.pure a

theorem seen_congr {P : Program} {w w' : World} {at_ : Addr} {u : TypeId} {k : Addr} {b : Bool} (h : w'.heap[at_.block]? = w.heap[at_.block]?) :
    w'.seen P at_ u k b = w.seen P at_ u k b := by
  unfold World.seen
  rw [h]

theorem viewLoad_congr {P : Program} {w w' : World} {at_ : Addr} {u : TypeId} {k : Addr} {b : Bool} (h : w'.heap[at_.block]? = w.heap[at_.block]?) :
    w'.viewLoad P at_ u k b = w.viewLoad P at_ u k b := by
  unfold World.viewLoad
  rw [seen_congr h]

theorem seen_none {P : Program} {w : World} {at_ : Addr} {u : TypeId} {k : Addr} {b : Bool} (h : w.heap[at_.block]? = none) :
    ∃ e, w.seen P at_ u k b = .error e := by
  unfold World.seen
  rw [h]
  repeat' (first | exact ⟨_, rfl⟩ | split)
  all_goals contradiction

theorem viewLoad_ok {P : Program} {w : World} {at_ : Addr} {u : TypeId} {k : Addr} {b : Bool} {r : Value × List Addr} (h : w.viewLoad P at_ u k b = .ok r) :
    at_.block < w.heap.size := by
  rcases Nat.lt_or_ge at_.block w.heap.size with h' | h'
  · exact h'
  · obtain ⟨e, he⟩ := seen_none (P := P) (u := u) (k := k) (b := b) (Array.getElem?_eq_none h' : w.heap[at_.block]? = none)
    unfold World.viewLoad at h
    rw [he] at h
    cases h

theorem farLoad_kept {P : Program} {w w' : World} {a : Addr} {b : Bool} {r : Value × List Addr} (hk : Kept w w') (h : w.farLoad P a b = .ok r) :
    w'.farLoad P a b = .ok r ∧ w'.heap[a.block]? = w.heap[a.block]? := by
  have hlt : a.block < w.heap.size := by
    rcases Nat.lt_or_ge a.block w.heap.size with h' | h'
    · exact h'
    · unfold World.farLoad at h
      rw [Array.getElem?_eq_none h'] at h
      cases h
  have hb := hk.block _ hlt
  refine ⟨?_, hb⟩
  unfold World.farLoad at *
  rw [hb]
  revert h
  split
  · rename_i at_ u hv
    intro h
    cases hl : w.viewLoad P at_ u a b with
    | error e => rw [hl] at h; cases h
    | ok r' =>
      rw [viewLoad_congr (hk.block _ (viewLoad_ok hl)), hl]
      rw [hl] at h
      exact h
  · intro h; cases h

theorem Calm.run {α : Type} {P : Program} {m : Sem α} (hm : Calm P m) : ∀ {w w1 : World} {v : α}, m.run P w = .ok v w1 → w1 = w ∧ ∀ w', Kept w w' → m.run P w' = .ok v w' := by
  induction hm with
  | pure a => intro w w1 v h; cases h; exact ⟨rfl, fun _ _ => rfl⟩
  | load md a k h ih =>
    intro w w1 v hr
    simp only [Sem.run] at hr
    cases hc : w.cell? a with
    | some u =>
      rw [hc] at hr
      obtain ⟨h1, h2⟩ := ih u hr
      refine ⟨h1, fun w' hk => ?_⟩
      have hlt : a.block < w.heap.size := by
        rcases Nat.lt_or_ge a.block w.heap.size with h' | h'
        · exact h'
        · simp [World.cell?, Array.getElem?_eq_none h'] at hc
      have : w'.cell? a = some u := by rw [World.cell?_of_block (hk.block _ hlt)]; exact hc
      simp only [Sem.run, this]
      exact h2 w' hk
    | none =>
      rw [hc] at hr
      cases hf : w.farLoad P a (md == .atomic) with
      | error e => rw [hf] at hr; cases hr
      | ok r =>
        rw [hf] at hr
        obtain ⟨h1, h2⟩ := ih r.1 hr
        refine ⟨h1, fun w' hk => ?_⟩
        obtain ⟨h3, h4⟩ := farLoad_kept hk hf
        have : w'.cell? a = none := by rw [World.cell?_of_block h4]; exact hc
        simp only [Sem.run, this, h3]
        exact h2 w' hk
  | program k h ih =>
    intro w w1 v hr
    obtain ⟨h1, h2⟩ := ih (show (k P).run P w = _ from hr)
    exact ⟨h1, fun w' hk => h2 w' hk⟩
  | mark md k h ih =>
    intro w w1 v hr
    obtain ⟨h1, h2⟩ := ih (show k.run P w = _ from hr)
    exact ⟨h1, fun w' hk => h2 w' hk⟩
  | halt x => intro w w1 v hr; cases hr
  | choose q k h =>
    intro w w1 v hr
    simp only [Sem.run] at hr
    split at hr
    · exact absurd hr (h _ _ _ _)
    · exact absurd hr (h _ _ _ _)

/-! ### Which operations are calm -/

variable {P : Program}

theorem calm_program : Calm P program := Calm.program _ (Calm.pure _)
theorem calm_stuck {α : Type} (s : String) : Calm P (stuck s : Sem α) := Calm.halt _
theorem calm_unsupported {α : Type} (u : Unsupported) : Calm P (unsupported u : Sem α) := Calm.halt _
theorem calm_underlying (t : TypeId) : Calm P (underlying t) := by
  unfold underlying
  refine (calm_program).bind' fun p => ?_
  split
  · exact Calm.pure' _
  · exact calm_stuck _
theorem calm_typeInfo (t : TypeId) : Calm P (typeInfo t) := by
  unfold typeInfo
  refine (calm_program).bind' fun p => ?_
  split
  · exact Calm.pure' _
  · exact calm_stuck _
theorem calm_sizeOf (t : TypeId) : Calm P (sizeOf t) := by
  unfold sizeOf
  exact (calm_typeInfo t).bind' fun _ => Calm.pure' _
theorem calm_zeroValue (t : TypeId) : Calm P (zeroValue t) := by
  unfold zeroValue
  refine (calm_typeInfo t).bind' fun _ => ?_
  split
  · exact Calm.pure' _
  · exact calm_unsupported _
theorem calm_isAgg (t : TypeId) : Calm P (isAgg t) := by
  unfold isAgg
  refine (calm_underlying t).bind' fun _ => ?_
  split <;> exact Calm.pure' _
theorem calm_load (a : Addr) (m : Mode) : Calm P (load a m) := Calm.load _ _ _ fun _ => Calm.pure _
theorem calm_loadCellsFrom (a : Addr) : ∀ (n i : Nat) (acc : Array Value), Calm P (loadCellsFrom a i n acc)
  | 0, _, _ => Calm.pure' _
  | n + 1, i, acc => by
    unfold loadCellsFrom
    exact (calm_load _ _).bind' fun v => calm_loadCellsFrom a n _ _
theorem calm_loadVar (t : TypeId) (a : Addr) : Calm P (loadVar t a) := by
  unfold loadVar
  refine (calm_isAgg t).bind' fun b => ?_
  split
  · exact (calm_sizeOf t).bind' fun _ => (calm_loadCellsFrom _ _ _ _).bind' fun _ => Calm.pure' _
  · exact calm_load _ _
theorem calm_sureAddr (v : Value) : Calm P (Instr.sureAddr v) := by
  unfold Instr.sureAddr
  split
  · exact Calm.pure' _
  · exact calm_stuck _
theorem calm_loadAt (t : TypeId) (v : Value) : Calm P (Instr.loadAt t v) := by
  unfold Instr.loadAt
  exact (calm_sureAddr v).bind' fun _ => calm_loadVar _ _
theorem no_goPanic {α : Type} (v : Value) (w w' : World) (u : α) : (goPanic v : Sem α).run P w ≠ .ok u w' := by
  intro h; cases h
theorem calm_asIntOf (v : Value) : Calm P (asIntOf v) := by
  unfold asIntOf
  split
  · exact Calm.pure' _
  · exact calm_unsupported _
  · exact calm_stuck _
theorem calm_asBool (v : Value) : Calm P (asBool v) := by
  unfold asBool
  split
  · exact Calm.pure' _
  · exact calm_stuck _
theorem calm_asAgg (v : Value) : Calm P (asAgg v) := by
  unfold asAgg
  split
  · exact Calm.pure' _
  · exact calm_stuck _
theorem calm_panic_bounds {α : Type} (x y : Int) (s : Bool) (c : BoundsCode) : Calm P (runtimePanic (.bounds x y s c) : Sem α) := by
  unfold runtimePanic
  exact (calm_program).bind' fun p => Calm.halt _
theorem no_panic_bounds {α : Type} (x y : Int) (s : Bool) (c : BoundsCode) (w w' : World) (u : α) : (runtimePanic (.bounds x y s c) : Sem α).run P w ≠ .ok u w' := by
  intro h; cases h
theorem calm_boundsPanic {α : Type} (k : IntKind) (x y : Int) (c : BoundsCode) : Calm P (boundsPanic k x y c : Sem α) := by
  unfold boundsPanic
  split
  · refine Calm.choose _ _ fun n w w' v h => ?_
    exact absurd h (no_panic_bounds _ _ _ _ w w' v)
  · exact calm_panic_bounds _ _ _ _
theorem calm_part (t : TypeId) (cs : Array Value) (off : Nat) : Calm P (part t cs off) := by
  unfold part
  refine (calm_isAgg t).bind' fun b => ?_
  split
  · exact (calm_sizeOf t).bind' fun _ => Calm.pure' _
  · split
    · exact Calm.pure' _
    · exact calm_stuck _
theorem calm_field (t : TypeId) (x : Value) (f : Nat) : Calm P (Instr.field t x f) := by
  unfold Instr.field
  refine (calm_underlying t).bind' fun d => ?_
  split
  · split
    · exact (calm_asAgg x).bind' fun _ => calm_part _ _ _
    · exact calm_stuck _
  · exact calm_stuck _
theorem calm_extract (v : Value) (i : Nat) : Calm P (Instr.extract v i) := by
  unfold Instr.extract
  split
  · split
    · exact Calm.pure' _
    · exact calm_stuck _
  · exact calm_stuck _
theorem calm_sliceBound (x : Value) (y : Nat) (c : BoundsCode) : Calm P (Instr.sliceBound x y c) := by
  unfold Instr.sliceBound
  refine (calm_asIntOf x).bind' fun ⟨k, i⟩ => ?_
  dsimp only
  split
  · exact Calm.pure' _
  · exact calm_boundsPanic _ _ _ _
theorem calm_sliceBounds (b : Bool) (l c : Nat) (x y z : Option Value) : Calm P (Instr.sliceBounds b l c x y z) := by
  unfold Instr.sliceBounds
  repeat' (first | exact Calm.pure' _ | exact calm_stuck _ | exact calm_unsupported _ | exact calm_underlying _ | exact calm_sizeOf _ | exact calm_sliceBound _ _ _ | exact calm_boundsPanic _ _ _ _ | exact calm_sureAddr _ | exact calm_asIntOf _ | exact calm_part _ _ _ | (refine Calm.bind' ?_ (fun _ => ?_)) | split | dsimp only)
/-- A slice expression at a slice's or a string's type. -/
theorem calm_slice (t : TypeId) (x : Value) (lo hi mx : Option Value) : Calm P (Instr.slice t x lo hi mx) := by
  unfold Instr.slice
  refine (calm_underlying t).bind' fun d => ?_
  split
  · split
    · exact calm_stuck _
    · exact (calm_sliceBounds _ _ _ _ _ _).bind' fun ⟨_, _, _⟩ => Calm.pure' _
  · exact (calm_sliceBounds _ _ _ _ _ _).bind' fun ⟨_, _, _⟩ => (calm_sizeOf _).bind' fun _ => Calm.pure' _
  · rename_i arr x
    refine Calm.bind' ?_ fun a => (calm_underlying _).bind' fun d => ?_
    · unfold asAddr
      split
      · exact Calm.pure' _
      · unfold runtimePanic
        exact (calm_program).bind' fun p => Calm.halt _
      · exact calm_stuck _
    · split
      · exact (calm_sliceBounds _ _ _ _ _ _).bind' fun ⟨_, _, _⟩ => (calm_sizeOf _).bind' fun _ => Calm.pure' _
      · exact calm_stuck _
  · exact calm_stuck _
theorem calm_sliceAt (t : TypeId) (x : Value) (lo hi mx : Option Value) : Calm P (Instr.sliceAt t x lo hi mx) := by
  unfold Instr.sliceAt
  refine (calm_underlying t).bind' fun d => ?_
  split
  · exact (calm_sureAddr x).bind' fun _ => (calm_sliceBounds _ _ _ _ _ _).bind' fun ⟨_, _, _⟩ => (calm_sizeOf _).bind' fun _ => Calm.pure' _
  · exact calm_slice _ _ _ _ _
theorem calm_indexAt (t : TypeId) (x i : Value) : Calm P (Instr.indexAt t x i) := by
  unfold Instr.indexAt
  repeat' (first | exact Calm.pure' _ | exact calm_stuck _ | exact calm_unsupported _ | exact calm_underlying _ | exact calm_sizeOf _ | exact calm_sliceBound _ _ _ | exact calm_boundsPanic _ _ _ _ | exact calm_sureAddr _ | exact calm_asIntOf _ | exact calm_part _ _ _ | (refine Calm.bind' ?_ (fun _ => ?_)) | split | dsimp only)
theorem calm_index (t : TypeId) (x i : Value) : Calm P (Instr.index t x i) := by
  unfold Instr.index
  refine (calm_asIntOf i).bind' fun ⟨k, i⟩ => ?_
  dsimp only
  refine (calm_underlying t).bind' fun d => ?_
  split
  · split
    · exact (calm_sizeOf _).bind' fun _ => calm_part _ _ _
    · exact calm_boundsPanic _ _ _ _
  · split
    · exact Calm.pure' _
    · exact calm_boundsPanic _ _ _ _
  · exact calm_stuck _
/-- No field of size 0 is addressed. -/
def fieldOk (P : Program) (s : TypeId) (i : Nat) : Bool :=
  match P.underlying s with
  | some (.struct fs) => match fs[i]? with
    | some f => match P.info? f.type with
      | some t => t.size != 0
      | none => true
    | none => true
  | _ => true
theorem calm_fieldAt (s : TypeId) (x : Value) (i : Nat) (h : fieldOk P s i = true) : Calm P (Instr.fieldAt s x i) := by
  unfold Instr.fieldAt underlying
  refine Calm.program _ ?_
  show Calm P ((match P.underlying s with | some d => (Pure.pure d : Sem TypeDesc) | none => stuck "no such type") >>= _)
  cases hu : P.underlying s with
  | none => exact Calm.halt _
  | some d =>
    show Calm P (match d with | .struct fields => _ | _ => _)
    split
    · rename_i fields
      cases hf : fields[i]? with
      | none => exact calm_stuck _
      | some f =>
        refine (calm_sureAddr x).bind' fun a => Calm.bind' ?_ fun _ => Calm.pure' _
        unfold fieldPlace sizeOf typeInfo
        refine Calm.program _ ?_
        show Calm P (((match P.info? f.type with | some i => (Pure.pure i : Sem TypeInfo) | none => stuck "no such type") >>= fun i => Pure.pure i.size) >>= _)
        cases hi : P.info? f.type with
        | none => exact Calm.halt _
        | some t =>
          have hne : t.size ≠ 0 := by
            simp only [fieldOk, hu, hf, hi] at h
            simpa using h
          show Calm P (if t.size = 0 then _ else _)
          rw [if_neg hne]
          exact Calm.pure' _
    · exact calm_stuck _
theorem calm_mapM (f : Field → Sem (Nat × Nat)) (h : ∀ x, Calm P (f x)) (fs : Array Field) : Calm P (fs.mapM f) := by
  rw [Array.mapM_eq_mapM_toList]
  refine Calm.bind' (α := List (Nat × Nat)) ?_ fun _ => Calm.pure' _
  induction fs.toList with
  | nil => exact Calm.pure' _
  | cons x l ih =>
    rw [List.mapM_cons]
    exact (h x).bind' fun _ => ih.bind' fun _ => Calm.pure' _
theorem calm_build (t : TypeId) (parts : Array (Nat × Value)) : Calm P (Instr.build t parts) := by
  unfold Instr.build
  refine (calm_zeroValue t).bind' fun z => (calm_underlying t).bind' fun d => ?_
  split
  · refine Calm.bind' (calm_mapM _ (fun x => (calm_sizeOf _).bind' fun _ => Calm.pure' _) _) fun places => ?_
    split
    · exact Calm.pure' _
    · exact calm_stuck _
  · refine (calm_sizeOf _).bind' fun _ => ?_
    split
    · exact Calm.pure' _
    · exact calm_stuck _
  · exact calm_stuck _
/-- A value that is no reference. -/
def plain : Value → Bool
  | .int _ _ | .bool _ | .string _ => true
  | _ => false
def sliceTy (P : Program) (t : TypeId) : Bool := match P.underlying t with | some (.slice _) => true | _ => false
theorem calm_len (t : TypeId) (ht : sliceTy P t = true) (ty : TypeId) (x : Value) : Calm P (Builtin.len_ #[t] ty #[x]) := by
  unfold sliceTy at ht
  split at ht
  · rename_i e he
    show Calm P (underlying t >>= _)
    unfold underlying
    refine Calm.program _ ?_
    show Calm P ((match P.underlying t with | some d => (Pure.pure d : Sem TypeDesc) | none => stuck "no such type") >>= _)
    rw [he]
    show Calm P (match TypeDesc.slice e, x with | .string, .string s => _ | .array n _, _ => _ | .pointer arr, _ => _ | .slice _, .slice _ n _ => _ | .map _ _, .map none => _ | .chan _ _, .chan none => _ | .map _ _, .map (some r) => _ | .chan _ _, .chan (some r) => _ | _, _ => _)
    cases x <;> first | exact Calm.pure' _ | exact calm_stuck _
  · cases ht
theorem calm_runtimePanic_error {α : Type} (m : String) : Calm P (runtimePanic (.error m) : Sem α) := by
  unfold runtimePanic
  exact (calm_program).bind' fun p => Calm.halt _
theorem calm_shift (op : BinOp) (k : IntKind) (x : Int) (yk : IntKind) (y : Int) : Calm P (Op.shift op k x yk y) := by
  unfold Op.shift
  repeat' (first | exact calm_runtimePanic_error _ | exact Calm.pure' _ | exact calm_stuck _ | split | dsimp only)
theorem calm_intArith (op : BinOp) (k : IntKind) (x y : Int) : Calm P (Op.intArith op k x y) := by
  unfold Op.intArith
  repeat' (first | exact Calm.pure' _ | exact calm_stuck _ | split)
theorem calm_intDiv (op : BinOp) (k : IntKind) (x y : Int) : Calm P (Op.intDiv op k x y) := by
  unfold Op.intDiv
  repeat' (first | exact calm_runtimePanic_error _ | exact Calm.pure' _ | exact calm_stuck _ | split)
theorem calm_intBits (op : BinOp) (k : IntKind) (x y : Int) : Calm P (Op.intBits op k x y) := by
  unfold Op.intBits
  repeat' (first | exact Calm.pure' _ | exact calm_stuck _ | split | dsimp only)
theorem calm_intCmp (op : BinOp) (x y : Int) : Calm P (Op.intCmp op x y) := by
  unfold Op.intCmp
  repeat' (first | exact Calm.pure' _ | exact calm_stuck _ | split)
theorem calm_stringOp (op : BinOp) (x y : ByteArray) : Calm P (Op.stringOp op x y) := by
  unfold Op.stringOp
  repeat' (first | exact Calm.pure' _ | exact calm_stuck _ | exact calm_unsupported _ | split | dsimp only)
theorem calm_equalIn_bool (d : Nat) (t : TypeId) (a b : Bool) : Calm P (Op.equalIn d t (.bool a) (.bool b)) := by
  cases d with
  | zero => exact calm_unsupported _
  | succ d =>
    unfold Op.equalIn
    refine (calm_underlying t).bind' fun x => ?_
    cases x <;> first | exact Calm.pure' _ | exact calm_stuck _
theorem calm_binOp_int (op : BinOp) (t : TypeId) (k k' : IntKind) (a b : Int) : Calm P (binOp op t (.int k a) (.int k' b)) := by
  cases op <;> (simp only [binOp]; repeat' (first | exact calm_shift _ _ _ _ _ | exact calm_intArith _ _ _ _ | exact calm_intDiv _ _ _ _ | exact calm_intBits _ _ _ _ | exact calm_intCmp _ _ _ | exact calm_stuck _ | split))
theorem calm_binOp_bool (op : BinOp) (t : TypeId) (a b : Bool) : Calm P (binOp op t (.bool a) (.bool b)) := by
  cases op <;> (simp only [binOp]; first | exact calm_stuck _ | exact (calm_equalIn_bool _ _ _ _).bind' fun _ => Calm.pure' _)
theorem calm_binOp_string (op : BinOp) (t : TypeId) (a b : ByteArray) : Calm P (binOp op t (.string a) (.string b)) := by
  cases op <;> (simp only [binOp]; exact calm_stringOp _ _ _)
/-- Two operands that hold no references. -/
def plain2 : Value → Value → Bool
  | .int _ _, .int _ _ => true
  | .bool _, .bool _ => true
  | .string _, .string _ => true
  | _, _ => false
theorem calm_binOp (op : BinOp) (t : TypeId) (x y : Operand) (a b : Value) (h : plain2 a b = true) : Calm P (do eqGuard op t x y a b; binOp op t a b) := by
  refine Calm.bind' ?_ fun _ => ?_
  · unfold eqGuard
    cases op <;> cases a <;> cases b <;> first | exact Calm.pure' _ | cases h
  · cases a <;> cases b <;> first | exact calm_binOp_int _ _ _ _ _ _ | exact calm_binOp_bool _ _ _ _ | exact calm_binOp_string _ _ _ _ | cases h
theorem calm_unary_plain (op : UnOp) (a : Value) (h : plain a = true) : Calm P (Op.unary op a) := by
  cases a <;> cases op <;> first
    | exact calm_intArith _ _ _ _
    | exact calm_intBits _ _ _ _
    | exact Calm.pure' _
    | exact calm_stuck _
    | (simp [plain] at h; done)
def isInt : Value → Bool
  | .int _ _ => true
  | _ => false
theorem calm_max2 (x y : Value) (hx : isInt x = true) (hy : isInt y = true) : Calm P (Builtin.max2 x y) ∧ ∀ (w w' : World) (v : Value), (Builtin.max2 x y).run P w = .ok v w' → isInt v = true := by
  cases x <;> first
    | (simp [isInt] at hx; done)
    | (cases y <;> first
        | (simp [isInt] at hy; done)
        | exact ⟨Calm.pure' _, fun w w' v h => by cases h; rfl⟩)
theorem calm_min2 (x y : Value) (hx : isInt x = true) (hy : isInt y = true) : Calm P (Builtin.min2 x y) ∧ ∀ (w w' : World) (v : Value), (Builtin.min2 x y).run P w = .ok v w' → isInt v = true := by
  cases x <;> first
    | (simp [isInt] at hx; done)
    | (cases y <;> first
        | (simp [isInt] at hy; done)
        | exact ⟨Calm.pure' _, fun w w' v h => by cases h; rfl⟩)
/-- Of two integers. -/
theorem calm_max (ts : Array TypeId) (ty : TypeId) (x y : Value) (hx : isInt x = true) (hy : isInt y = true) : Calm P (Builtin.max_ ts ty #[x, y]) := by
  simp only [Builtin.max_, List.foldlM]
  exact Calm.bind' (calm_max2 x y hx hy).1 fun _ => Calm.pure' _
theorem calm_min (ts : Array TypeId) (ty : TypeId) (x y : Value) (hx : isInt x = true) (hy : isInt y = true) : Calm P (Builtin.min_ ts ty #[x, y]) := by
  simp only [Builtin.min_, List.foldlM]
  exact Calm.bind' (calm_min2 x y hx hy).1 fun _ => Calm.pure' _

theorem Calm.value {x : Sem Value} (h : Calm P x) : Calm P (x >>= fun v => Pure.pure (Next.value v)) := h.bind' fun _ => Calm.pure' _

/-- An operation that only reads, and looks at no reference's number. -/
inductive Early (P : Program) (ρ : Operand → Value) : Op → Prop
  | move (x) : Early P ρ (.move x)
  | assign (x) : Early P ρ (.assign x)
  | pick (c a b) : Early P ρ (.pick c a b)
  | load (t a) : Early P ρ (.load t a)
  | indexAddr (t x i) : Early P ρ (.indexAddr t x i)
  | index (t x i) : Early P ρ (.index t x i)
  | field (t x f) : Early P ρ (.field t x f)
  | extract (x i) : Early P ρ (.extract x i)
  | slice (t x l h m) : Early P ρ (.slice t x l h m)
  | build (t ps) : Early P ρ (.build t ps)
  | fieldAddr (s x i) (h : fieldOk P s i = true) : Early P ρ (.fieldAddr s x i)
  | binOp (op t x y u) (h : plain2 (ρ x) (ρ y) = true) : Early P ρ (.binOp op t x y u)
  | unOp (op t x) (h : plain (ρ x) = true) : Early P ρ (.unOp op t x)
  | len (x t) (h : sliceTy P t = true) : Early P ρ (.call { callee := .builtin .len, args := #[x], argTypes := #[t] })
  | max (x y ts) (hx : isInt (ρ x) = true) (hy : isInt (ρ y) = true) : Early P ρ (.call { callee := .builtin .max, args := #[x, y], argTypes := ts })
  | min (x y ts) (hx : isInt (ρ x) = true) (hy : isInt (ρ y) = true) : Early P ρ (.call { callee := .builtin .min, args := #[x, y], argTypes := ts })

theorem calm_early {ρ : Operand → Value} {o : Oper} (h : Early P ρ o.op) : Calm P (execOp ρ o) := by
  obtain ⟨dst, op, ty, pos, after, guard⟩ := o
  dsimp only at h
  cases h
  case move => exact Calm.pure' _
  case assign => exact Calm.pure' _
  case pick => exact (calm_asBool _).bind' fun _ => Calm.pure' _
  case load => exact (calm_loadAt _ _).value
  case indexAddr => exact (calm_indexAt _ _ _).value
  case index => exact (calm_index _ _ _).value
  case field => exact (calm_field _ _ _).value
  case extract => exact (calm_extract _ _).value
  case slice => exact (calm_sliceAt _ _ _ _ _).value
  case build => exact (calm_build _ _).value
  case fieldAddr h => exact (calm_fieldAt _ _ _ h).value
  case binOp h => exact (calm_binOp _ _ _ _ _ _ h).value
  case unOp h => exact (calm_unary_plain _ _ h).value
  case len x t h =>
    show Calm P (Builtin.len_ #[t] ty (#[x].map ρ) >>= fun v => Pure.pure (Next.value v))
    rw [show #[x].map ρ = #[ρ x] from by simp]
    exact (calm_len t h _ _).value
  case max x y ts hx hy =>
    show Calm P (Builtin.max_ ts ty (#[x, y].map ρ) >>= fun v => Pure.pure (Next.value v))
    rw [show #[x, y].map ρ = #[ρ x, ρ y] from by simp]
    exact (calm_max _ _ _ _ hx hy).value
  case min x y ts hx hy =>
    show Calm P (Builtin.min_ ts ty (#[x, y].map ρ) >>= fun v => Pure.pure (Next.value v))
    rw [show #[x, y].map ρ = #[ρ x, ρ y] from by simp]
    exact (calm_min _ _ _ _ hx hy).value
end Go.Calmly
