/- Operations that only read: what they give in one world they give in each world that has the same old blocks. A region that draws its order, walked by a plan: the operations that only read are carried out as early as they can, the others in their order; what comes last waits for all. Whatever order is drawn ends as the plan does. -/
import Derived.WalkKit
import Derived.OrdersHeld
import Derived.StillTail
namespace Go.Calmly

/-- All blocks of w are as they were. -/
structure Kept (w w' : World) : Prop where
  size : w.heap.size ≤ w'.heap.size
  block : ∀ k, k < w.heap.size → w'.heap[k]? = w.heap[k]?

theorem Kept.refl (w : World) : Kept w w := ⟨Nat.le_refl _, fun _ _ => rfl⟩
theorem Kept.trans {a b c : World} (h : Kept a b) (k : Kept b c) : Kept a c :=
  ⟨Nat.le_trans h.size k.size, fun i hi => (k.block i (Nat.lt_of_lt_of_le hi h.size)).trans (h.block i hi)⟩

inductive Calm {α : Type} (P : Program) : Sem α → Prop
  | pure (a : α) : Calm P (.pure a)
  | load (m : Mode) (a : Addr) (k : Value → Sem α) (h : ∀ v, Calm P (k v)) : Calm P (.load m a k)
  | program (k : Program → Sem α) (h : Calm P (k P)) : Calm P (.program k)
  | mark (m : Mark) (k : Sem α) (h : Calm P k) : Calm P (.mark m k)
  | halt (x : Halt) : Calm P (.halt x)
  | choose (q : Question) (k : Nat → Sem α) (h : ∀ n (w w' : World) (v : α), (k n).run P w ≠ .ok v w') : Calm P (.choose q k)

theorem run_bind_ok {α β : Type} {P : Program} {x : Sem α} {f : α → Sem β} {w w' : World} {v : β} (h : (x.bind f).run P w = .ok v w') :
    ∃ u w1, x.run P w = .ok u w1 ∧ (f u).run P w1 = .ok v w' := by
  rw [Sem.run_bind' P x f w] at h
  cases hx : x.run P w with
  | ok u w1 => rw [hx] at h; exact ⟨u, w1, rfl, h⟩
  | halt e w1 => rw [hx] at h; cases h

theorem Calm.bind {α β : Type} {P : Program} {x : Sem α} {f : α → Sem β} (hx : Calm P x) (hf : ∀ a, Calm P (f a)) : Calm P (x.bind f) := by
  induction hx with
  | pure a => exact hf a
  | load m a k h ih => exact Calm.load m a _ ih
  | program k h ih => exact Calm.program _ ih
  | mark m k h ih => exact Calm.mark m _ ih
  | halt x => exact Calm.halt x
  | choose q k h =>
    refine Calm.choose q _ fun n w w' v hr => ?_
    obtain ⟨u, w1, h1, _⟩ := run_bind_ok hr
    exact h n w w1 u h1

theorem Calm.bind' {α β : Type} {P : Program} {x : Sem α} {f : α → Sem β} (hx : Calm P x) (hf : ∀ a, Calm P (f a)) : Calm P (x >>= f) := hx.bind hf
theorem Calm.pure' {α : Type} {P : Program} (a : α) : Calm P (Pure.pure a : Sem α) := Calm.pure a

theorem seen_congr {P : Program} {w w' : World} {at_ : Addr} {u : TypeId} {k : Addr} {b : Bool} (h : w'.heap[at_.block]? = w.heap[at_.block]?) :
    w'.seen P at_ u k b = w.seen P at_ u k b := by
  unfold World.seen
  rw [h]

theorem viewLoad_congr {P : Program} {w w' : World} {at_ : Addr} {u : TypeId} {k : Addr} {b : Bool} (h : w'.heap[at_.block]? = w.heap[at_.block]?) :
    w'.viewLoad P at_ u k b = w.viewLoad P at_ u k b := by
  unfold World.viewLoad
  rw [seen_congr h]

theorem seen_none {P : Program} {w : World} {at_ : Addr} {u : TypeId} {k : Addr} {b : Bool} (h : w.heap[at_.block]? = none) :
    ∃ e, w.seen P at_ u k b = .error e := by
  unfold World.seen
  rw [h]
  repeat' (first | exact ⟨_, rfl⟩ | split)
  all_goals contradiction

theorem viewLoad_ok {P : Program} {w : World} {at_ : Addr} {u : TypeId} {k : Addr} {b : Bool} {r : Value × List Addr} (h : w.viewLoad P at_ u k b = .ok r) :
    at_.block < w.heap.size := by
  rcases Nat.lt_or_ge at_.block w.heap.size with h' | h'
  · exact h'
  · obtain ⟨e, he⟩ := seen_none (P := P) (u := u) (k := k) (b := b) (Array.getElem?_eq_none h' : w.heap[at_.block]? = none)
    unfold World.viewLoad at h
    rw [he] at h
    cases h

theorem farLoad_kept {P : Program} {w w' : World} {a : Addr} {b : Bool} {r : Value × List Addr} (hk : Kept w w') (h : w.farLoad P a b = .ok r) :
    w'.farLoad P a b = .ok r ∧ w'.heap[a.block]? = w.heap[a.block]? := by
  have hlt : a.block < w.heap.size := by
    rcases Nat.lt_or_ge a.block w.heap.size with h' | h'
    · exact h'
    · unfold World.farLoad at h
      rw [Array.getElem?_eq_none h'] at h
      cases h
  have hb := hk.block _ hlt
  refine ⟨?_, hb⟩
  unfold World.farLoad at *
  rw [hb]
  revert h
  split
  · rename_i at_ u hv
    intro h
    cases hl : w.viewLoad P at_ u a b with
    | error e => rw [hl] at h; cases h
    | ok r' =>
      rw [viewLoad_congr (hk.block _ (viewLoad_ok hl)), hl]
      rw [hl] at h
      exact h
  · intro h; cases h

theorem Calm.run {α : Type} {P : Program} {m : Sem α} (hm : Calm P m) : ∀ {w w1 : World} {v : α}, m.run P w = .ok v w1 → w1 = w ∧ ∀ w', Kept w w' → m.run P w' = .ok v w' := by
  induction hm with
  | pure a => intro w w1 v h; cases h; exact ⟨rfl, fun _ _ => rfl⟩
  | load md a k h ih =>
    intro w w1 v hr
    simp only [Sem.run] at hr
    cases hc : w.cell? a with
    | some u =>
      rw [hc] at hr
      obtain ⟨h1, h2⟩ := ih u hr
      refine ⟨h1, fun w' hk => ?_⟩
      have hlt : a.block < w.heap.size := by
        rcases Nat.lt_or_ge a.block w.heap.size with h' | h'
        · exact h'
        · simp [World.cell?, Array.getElem?_eq_none h'] at hc
      have : w'.cell? a = some u := by rw [World.cell?_of_block (hk.block _ hlt)]; exact hc
      simp only [Sem.run, this]
      exact h2 w' hk
    | none =>
      rw [hc] at hr
      cases hf : w.farLoad P a (md == .atomic) with
      | error e => rw [hf] at hr; cases hr
      | ok r =>
        rw [hf] at hr
        obtain ⟨h1, h2⟩ := ih r.1 hr
        refine ⟨h1, fun w' hk => ?_⟩
        obtain ⟨h3, h4⟩ := farLoad_kept hk hf
        have : w'.cell? a = none := by rw [World.cell?_of_block h4]; exact hc
        simp only [Sem.run, this, h3]
        exact h2 w' hk
  | program k h ih =>
    intro w w1 v hr
    obtain ⟨h1, h2⟩ := ih (show (k P).run P w = _ from hr)
    exact ⟨h1, fun w' hk => h2 w' hk⟩
  | mark md k h ih =>
    intro w w1 v hr
    obtain ⟨h1, h2⟩ := ih (show k.run P w = _ from hr)
    exact ⟨h1, fun w' hk => h2 w' hk⟩
  | halt x => intro w w1 v hr; cases hr
  | choose q k h =>
    intro w w1 v hr
    simp only [Sem.run] at hr
    split at hr
    · exact absurd hr (h _ _ _ _)
    · exact absurd hr (h _ _ _ _)

/-! ### Which operations are calm -/

variable {P : Program}

theorem calm_program : Calm P program := Calm.program _ (Calm.pure _)
theorem calm_stuck {α : Type} (s : String) : Calm P (stuck s : Sem α) := Calm.halt _
theorem calm_unsupported {α : Type} (u : Unsupported) : Calm P (unsupported u : Sem α) := Calm.halt _
theorem calm_underlying (t : TypeId) : Calm P (underlying t) := by
  unfold underlying
  refine (calm_program).bind' fun p => ?_
  split
  · exact Calm.pure' _
  · exact calm_stuck _
theorem calm_typeInfo (t : TypeId) : Calm P (typeInfo t) := by
  unfold typeInfo
  refine (calm_program).bind' fun p => ?_
  split
  · exact Calm.pure' _
  · exact calm_stuck _
theorem calm_sizeOf (t : TypeId) : Calm P (sizeOf t) := by
  unfold sizeOf
  exact (calm_typeInfo t).bind' fun _ => Calm.pure' _
theorem calm_zeroValue (t : TypeId) : Calm P (zeroValue t) := by
  unfold zeroValue
  refine (calm_typeInfo t).bind' fun _ => ?_
  split
  · exact Calm.pure' _
  · exact calm_unsupported _
theorem calm_isAgg (t : TypeId) : Calm P (isAgg t) := by
  unfold isAgg
  refine (calm_underlying t).bind' fun _ => ?_
  split <;> exact Calm.pure' _
theorem calm_load (a : Addr) (m : Mode) : Calm P (load a m) := Calm.load _ _ _ fun _ => Calm.pure _
theorem calm_loadCellsFrom (a : Addr) : ∀ (n i : Nat) (acc : Array Value), Calm P (loadCellsFrom a i n acc)
  | 0, _, _ => Calm.pure' _
  | n + 1, i, acc => by
    unfold loadCellsFrom
    exact (calm_load _ _).bind' fun v => calm_loadCellsFrom a n _ _
theorem calm_loadVar (t : TypeId) (a : Addr) : Calm P (loadVar t a) := by
  unfold loadVar
  refine (calm_isAgg t).bind' fun b => ?_
  split
  · exact (calm_sizeOf t).bind' fun _ => (calm_loadCellsFrom _ _ _ _).bind' fun _ => Calm.pure' _
  · exact calm_load _ _
theorem calm_sureAddr (v : Value) : Calm P (Instr.sureAddr v) := by
  unfold Instr.sureAddr
  split
  · exact Calm.pure' _
  · exact calm_stuck _
theorem calm_loadAt (t : TypeId) (v : Value) : Calm P (Instr.loadAt t v) := by
  unfold Instr.loadAt
  exact (calm_sureAddr v).bind' fun _ => calm_loadVar _ _
theorem no_goPanic {α : Type} (v : Value) (w w' : World) (u : α) : (goPanic v : Sem α).run P w ≠ .ok u w' := by
  intro h; cases h
theorem calm_asIntOf (v : Value) : Calm P (asIntOf v) := by
  unfold asIntOf
  split
  · exact Calm.pure' _
  · exact calm_unsupported _
  · exact calm_stuck _
theorem calm_asBool (v : Value) : Calm P (asBool v) := by
  unfold asBool
  split
  · exact Calm.pure' _
  · exact calm_stuck _
theorem calm_asAgg (v : Value) : Calm P (asAgg v) := by
  unfold asAgg
  split
  · exact Calm.pure' _
  · exact calm_stuck _
theorem calm_panic_bounds {α : Type} (x y : Int) (s : Bool) (c : BoundsCode) : Calm P (runtimePanic (.bounds x y s c) : Sem α) := by
  unfold runtimePanic
  exact (calm_program).bind' fun p => Calm.halt _
theorem no_panic_bounds {α : Type} (x y : Int) (s : Bool) (c : BoundsCode) (w w' : World) (u : α) : (runtimePanic (.bounds x y s c) : Sem α).run P w ≠ .ok u w' := by
  intro h; cases h
theorem calm_boundsPanic {α : Type} (k : IntKind) (x y : Int) (c : BoundsCode) : Calm P (boundsPanic k x y c : Sem α) := by
  unfold boundsPanic
  split
  · refine Calm.choose _ _ fun n w w' v h => ?_
    exact absurd h (no_panic_bounds _ _ _ _ w w' v)
  · exact calm_panic_bounds _ _ _ _
theorem calm_part (t : TypeId) (cs : Array Value) (off : Nat) : Calm P (part t cs off) := by
  unfold part
  refine (calm_isAgg t).bind' fun b => ?_
  split
  · exact (calm_sizeOf t).bind' fun _ => Calm.pure' _
  · split
    · exact Calm.pure' _
    · exact calm_stuck _
theorem calm_field (t : TypeId) (x : Value) (f : Nat) : Calm P (Instr.field t x f) := by
  unfold Instr.field
  refine (calm_underlying t).bind' fun d => ?_
  split
  · split
    · exact (calm_asAgg x).bind' fun _ => calm_part _ _ _
    · exact calm_stuck _
  · exact calm_stuck _
theorem calm_extract (v : Value) (i : Nat) : Calm P (Instr.extract v i) := by
  unfold Instr.extract
  split
  · split
    · exact Calm.pure' _
    · exact calm_stuck _
  · exact calm_stuck _
theorem calm_sliceBound (x : Value) (y : Nat) (c : BoundsCode) : Calm P (Instr.sliceBound x y c) := by
  unfold Instr.sliceBound
  refine (calm_asIntOf x).bind' fun ⟨k, i⟩ => ?_
  dsimp only
  split
  · exact Calm.pure' _
  · exact calm_boundsPanic _ _ _ _
theorem calm_sliceBounds (b : Bool) (l c : Nat) (x y z : Option Value) : Calm P (Instr.sliceBounds b l c x y z) := by
  unfold Instr.sliceBounds
  repeat' (first | exact Calm.pure' _ | exact calm_stuck _ | exact calm_unsupported _ | exact calm_underlying _ | exact calm_sizeOf _ | exact calm_sliceBound _ _ _ | exact calm_boundsPanic _ _ _ _ | exact calm_sureAddr _ | exact calm_asIntOf _ | exact calm_part _ _ _ | (refine Calm.bind' ?_ (fun _ => ?_)) | split | dsimp only)
/-- A slice expression at a slice's or a string's type. -/
theorem calm_slice (t : TypeId) (x : Value) (lo hi mx : Option Value) : Calm P (Instr.slice t x lo hi mx) := by
  unfold Instr.slice
  refine (calm_underlying t).bind' fun d => ?_
  split
  · split
    · exact calm_stuck _
    · exact (calm_sliceBounds _ _ _ _ _ _).bind' fun ⟨_, _, _⟩ => Calm.pure' _
  · exact (calm_sliceBounds _ _ _ _ _ _).bind' fun ⟨_, _, _⟩ => (calm_sizeOf _).bind' fun _ => Calm.pure' _
  · rename_i arr x
    refine Calm.bind' ?_ fun a => (calm_underlying _).bind' fun d => ?_
    · unfold asAddr
      split
      · exact Calm.pure' _
      · unfold runtimePanic
        exact (calm_program).bind' fun p => Calm.halt _
      · exact calm_stuck _
    · split
      · exact (calm_sliceBounds _ _ _ _ _ _).bind' fun ⟨_, _, _⟩ => (calm_sizeOf _).bind' fun _ => Calm.pure' _
      · exact calm_stuck _
  · exact calm_stuck _
theorem calm_sliceAt (t : TypeId) (x : Value) (lo hi mx : Option Value) : Calm P (Instr.sliceAt t x lo hi mx) := by
  unfold Instr.sliceAt
  refine (calm_underlying t).bind' fun d => ?_
  split
  · exact (calm_sureAddr x).bind' fun _ => (calm_sliceBounds _ _ _ _ _ _).bind' fun ⟨_, _, _⟩ => (calm_sizeOf _).bind' fun _ => Calm.pure' _
  · exact calm_slice _ _ _ _ _
theorem calm_indexAt (t : TypeId) (x i : Value) : Calm P (Instr.indexAt t x i) := by
  unfold Instr.indexAt
  repeat' (first | exact Calm.pure' _ | exact calm_stuck _ | exact calm_unsupported _ | exact calm_underlying _ | exact calm_sizeOf _ | exact calm_sliceBound _ _ _ | exact calm_boundsPanic _ _ _ _ | exact calm_sureAddr _ | exact calm_asIntOf _ | exact calm_part _ _ _ | (refine Calm.bind' ?_ (fun _ => ?_)) | split | dsimp only)
theorem calm_index (t : TypeId) (x i : Value) : Calm P (Instr.index t x i) := by
  unfold Instr.index
  refine (calm_asIntOf i).bind' fun ⟨k, i⟩ => ?_
  dsimp only
  refine (calm_underlying t).bind' fun d => ?_
  split
  · split
    · exact (calm_sizeOf _).bind' fun _ => calm_part _ _ _
    · exact calm_boundsPanic _ _ _ _
  · split
    · exact Calm.pure' _
    · exact calm_boundsPanic _ _ _ _
  · exact calm_stuck _
/-- No field of size 0 is addressed. -/
def fieldOk (P : Program) (s : TypeId) (i : Nat) : Bool :=
  match P.underlying s with
  | some (.struct fs) => match fs[i]? with
    | some f => match P.info? f.type with
      | some t => t.size != 0
      | none => true
    | none => true
  | _ => true
theorem calm_fieldAt (s : TypeId) (x : Value) (i : Nat) (h : fieldOk P s i = true) : Calm P (Instr.fieldAt s x i) := by
  unfold Instr.fieldAt underlying
  refine Calm.program _ ?_
  show Calm P ((match P.underlying s with | some d => (Pure.pure d : Sem TypeDesc) | none => stuck "no such type") >>= _)
  cases hu : P.underlying s with
  | none => exact Calm.halt _
  | some d =>
    show Calm P (match d with | .struct fields => _ | _ => _)
    split
    · rename_i fields
      cases hf : fields[i]? with
      | none => exact calm_stuck _
      | some f =>
        refine (calm_sureAddr x).bind' fun a => Calm.bind' ?_ fun _ => Calm.pure' _
        unfold fieldPlace sizeOf typeInfo
        refine Calm.program _ ?_
        show Calm P (((match P.info? f.type with | some i => (Pure.pure i : Sem TypeInfo) | none => stuck "no such type") >>= fun i => Pure.pure i.size) >>= _)
        cases hi : P.info? f.type with
        | none => exact Calm.halt _
        | some t =>
          have hne : t.size ≠ 0 := by
            simp only [fieldOk, hu, hf, hi] at h
            simpa using h
          show Calm P (if t.size = 0 then _ else _)
          rw [if_neg hne]
          exact Calm.pure' _
    · exact calm_stuck _
theorem calm_mapM (f : Field → Sem (Nat × Nat)) (h : ∀ x, Calm P (f x)) (fs : Array Field) : Calm P (fs.mapM f) := by
  rw [Array.mapM_eq_mapM_toList]
  refine Calm.bind' (α := List (Nat × Nat)) ?_ fun _ => Calm.pure' _
  induction fs.toList with
  | nil => exact Calm.pure' _
  | cons x l ih =>
    rw [List.mapM_cons]
    exact (h x).bind' fun _ => ih.bind' fun _ => Calm.pure' _
theorem calm_build (t : TypeId) (parts : Array (Nat × Value)) : Calm P (Instr.build t parts) := by
  unfold Instr.build
  refine (calm_zeroValue t).bind' fun z => (calm_underlying t).bind' fun d => ?_
  split
  · refine Calm.bind' (calm_mapM _ (fun x => (calm_sizeOf _).bind' fun _ => Calm.pure' _) _) fun places => ?_
    split
    · exact Calm.pure' _
    · exact calm_stuck _
  · refine (calm_sizeOf _).bind' fun _ => ?_
    split
    · exact Calm.pure' _
    · exact calm_stuck _
  · exact calm_stuck _
/-- A value that is no reference. -/
def plain : Value → Bool
  | .int _ _ | .bool _ | .string _ => true
  | _ => false
def sliceTy (P : Program) (t : TypeId) : Bool := match P.underlying t with | some (.slice _) => true | _ => false
theorem calm_len (t : TypeId) (ht : sliceTy P t = true) (ty : TypeId) (x : Value) : Calm P (Builtin.len_ #[t] ty #[x]) := by
  unfold sliceTy at ht
  split at ht
  · rename_i e he
    show Calm P (underlying t >>= _)
    unfold underlying
    refine Calm.program _ ?_
    show Calm P ((match P.underlying t with | some d => (Pure.pure d : Sem TypeDesc) | none => stuck "no such type") >>= _)
    rw [he]
    show Calm P (match TypeDesc.slice e, x with | .string, .string s => _ | .array n _, _ => _ | .pointer arr, _ => _ | .slice _, .slice _ n _ => _ | .map _ _, .map none => _ | .chan _ _, .chan none => _ | .map _ _, .map (some r) => _ | .chan _ _, .chan (some r) => _ | _, _ => _)
    cases x <;> first | exact Calm.pure' _ | exact calm_stuck _
  · cases ht
theorem calm_runtimePanic_error {α : Type} (m : String) : Calm P (runtimePanic (.error m) : Sem α) := by
  unfold runtimePanic
  exact (calm_program).bind' fun p => Calm.halt _
theorem calm_shift (op : BinOp) (k : IntKind) (x : Int) (yk : IntKind) (y : Int) : Calm P (Op.shift op k x yk y) := by
  unfold Op.shift
  repeat' (first | exact calm_runtimePanic_error _ | exact Calm.pure' _ | exact calm_stuck _ | split | dsimp only)
theorem calm_intArith (op : BinOp) (k : IntKind) (x y : Int) : Calm P (Op.intArith op k x y) := by
  unfold Op.intArith
  repeat' (first | exact Calm.pure' _ | exact calm_stuck _ | split)
theorem calm_intDiv (op : BinOp) (k : IntKind) (x y : Int) : Calm P (Op.intDiv op k x y) := by
  unfold Op.intDiv
  repeat' (first | exact calm_runtimePanic_error _ | exact Calm.pure' _ | exact calm_stuck _ | split)
theorem calm_intBits (op : BinOp) (k : IntKind) (x y : Int) : Calm P (Op.intBits op k x y) := by
  unfold Op.intBits
  repeat' (first | exact Calm.pure' _ | exact calm_stuck _ | split | dsimp only)
theorem calm_intCmp (op : BinOp) (x y : Int) : Calm P (Op.intCmp op x y) := by
  unfold Op.intCmp
  repeat' (first | exact Calm.pure' _ | exact calm_stuck _ | split)
theorem calm_stringOp (op : BinOp) (x y : ByteArray) : Calm P (Op.stringOp op x y) := by
  unfold Op.stringOp
  repeat' (first | exact Calm.pure' _ | exact calm_stuck _ | exact calm_unsupported _ | split | dsimp only)
theorem calm_equalIn_bool (d : Nat) (t : TypeId) (a b : Bool) : Calm P (Op.equalIn d t (.bool a) (.bool b)) := by
  cases d with
  | zero => exact calm_unsupported _
  | succ d =>
    unfold Op.equalIn
    refine (calm_underlying t).bind' fun x => ?_
    cases x <;> first | exact Calm.pure' _ | exact calm_stuck _
theorem calm_binOp_int (op : BinOp) (t : TypeId) (k k' : IntKind) (a b : Int) : Calm P (binOp op t (.int k a) (.int k' b)) := by
  cases op <;> (simp only [binOp]; repeat' (first | exact calm_shift _ _ _ _ _ | exact calm_intArith _ _ _ _ | exact calm_intDiv _ _ _ _ | exact calm_intBits _ _ _ _ | exact calm_intCmp _ _ _ | exact calm_stuck _ | split))
theorem calm_binOp_bool (op : BinOp) (t : TypeId) (a b : Bool) : Calm P (binOp op t (.bool a) (.bool b)) := by
  cases op <;> (simp only [binOp]; first | exact calm_stuck _ | exact (calm_equalIn_bool _ _ _ _).bind' fun _ => Calm.pure' _)
theorem calm_binOp_string (op : BinOp) (t : TypeId) (a b : ByteArray) : Calm P (binOp op t (.string a) (.string b)) := by
  cases op <;> (simp only [binOp]; exact calm_stringOp _ _ _)
/-- Two operands that hold no references. -/
def plain2 : Value → Value → Bool
  | .int _ _, .int _ _ => true
  | .bool _, .bool _ => true
  | .string _, .string _ => true
  | _, _ => false
theorem calm_binOp (op : BinOp) (t : TypeId) (x y : Operand) (a b : Value) (h : plain2 a b = true) : Calm P (do eqGuard op t x y a b; binOp op t a b) := by
  refine Calm.bind' ?_ fun _ => ?_
  · unfold eqGuard
    cases op <;> cases a <;> cases b <;> first | exact Calm.pure' _ | cases h
  · cases a <;> cases b <;> first | exact calm_binOp_int _ _ _ _ _ _ | exact calm_binOp_bool _ _ _ _ | exact calm_binOp_string _ _ _ _ | cases h
theorem calm_unary_plain (op : UnOp) (a : Value) (h : plain a = true) : Calm P (Op.unary op a) := by
  cases a <;> cases op <;> first
    | exact calm_intArith _ _ _ _
    | exact calm_intBits _ _ _ _
    | exact Calm.pure' _
    | exact calm_stuck _
    | (simp [plain] at h; done)
def isInt : Value → Bool
  | .int _ _ => true
  | _ => false
theorem calm_max2 (x y : Value) (hx : isInt x = true) (hy : isInt y = true) : Calm P (Builtin.max2 x y) ∧ ∀ (w w' : World) (v : Value), (Builtin.max2 x y).run P w = .ok v w' → isInt v = true := by
  cases x <;> first
    | (simp [isInt] at hx; done)
    | (cases y <;> first
        | (simp [isInt] at hy; done)
        | exact ⟨Calm.pure' _, fun w w' v h => by cases h; rfl⟩)
theorem calm_min2 (x y : Value) (hx : isInt x = true) (hy : isInt y = true) : Calm P (Builtin.min2 x y) ∧ ∀ (w w' : World) (v : Value), (Builtin.min2 x y).run P w = .ok v w' → isInt v = true := by
  cases x <;> first
    | (simp [isInt] at hx; done)
    | (cases y <;> first
        | (simp [isInt] at hy; done)
        | exact ⟨Calm.pure' _, fun w w' v h => by cases h; rfl⟩)
/-- Of two integers. -/
theorem calm_max (ts : Array TypeId) (ty : TypeId) (x y : Value) (hx : isInt x = true) (hy : isInt y = true) : Calm P (Builtin.max_ ts ty #[x, y]) := by
  simp only [Builtin.max_, List.foldlM]
  exact Calm.bind' (calm_max2 x y hx hy).1 fun _ => Calm.pure' _
theorem calm_min (ts : Array TypeId) (ty : TypeId) (x y : Value) (hx : isInt x = true) (hy : isInt y = true) : Calm P (Builtin.min_ ts ty #[x, y]) := by
  simp only [Builtin.min_, List.foldlM]
  exact Calm.bind' (calm_min2 x y hx hy).1 fun _ => Calm.pure' _

theorem Calm.value {x : Sem Value} (h : Calm P x) : Calm P (x >>= fun v => Pure.pure (Next.value v)) := h.bind' fun _ => Calm.pure' _

/-- An operation that only reads, and looks at no reference's number. -/
inductive Early (P : Program) (ρ : Operand → Value) : Op → Prop
  | move (x) : Early P ρ (.move x)
  | assign (x) : Early P ρ (.assign x)
  | pick (c a b) : Early P ρ (.pick c a b)
  | load (t a) : Early P ρ (.load t a)
  | indexAddr (t x i) : Early P ρ (.indexAddr t x i)
  | index (t x i) : Early P ρ (.index t x i)
  | field (t x f) : Early P ρ (.field t x f)
  | extract (x i) : Early P ρ (.extract x i)
  | slice (t x l h m) : Early P ρ (.slice t x l h m)
  | build (t ps) : Early P ρ (.build t ps)
  | fieldAddr (s x i) (h : fieldOk P s i = true) : Early P ρ (.fieldAddr s x i)
  | binOp (op t x y u) (h : plain2 (ρ x) (ρ y) = true) : Early P ρ (.binOp op t x y u)
  | unOp (op t x) (h : plain (ρ x) = true) : Early P ρ (.unOp op t x)
  | len (x t) (h : sliceTy P t = true) : Early P ρ (.call { callee := .builtin .len, args := #[x], argTypes := #[t] })
  | max (x y ts) (hx : isInt (ρ x) = true) (hy : isInt (ρ y) = true) : Early P ρ (.call { callee := .builtin .max, args := #[x, y], argTypes := ts })
  | min (x y ts) (hx : isInt (ρ x) = true) (hy : isInt (ρ y) = true) : Early P ρ (.call { callee := .builtin .min, args := #[x, y], argTypes := ts })
  | nilCheck (x p) (h : ρ x = .pointer (some p)) : Early P ρ (.nilCheck x)

theorem calm_early {ρ : Operand → Value} {o : Oper} (h : Early P ρ o.op) : Calm P (execOp ρ o) := by
  obtain ⟨dst, op, ty, pos, after, guard⟩ := o
  dsimp only at h
  cases h
  case move => exact Calm.pure' _
  case assign => exact Calm.pure' _
  case pick => exact (calm_asBool _).bind' fun _ => Calm.pure' _
  case load => exact (calm_loadAt _ _).value
  case indexAddr => exact (calm_indexAt _ _ _).value
  case index => exact (calm_index _ _ _).value
  case field => exact (calm_field _ _ _).value
  case extract => exact (calm_extract _ _).value
  case slice => exact (calm_sliceAt _ _ _ _ _).value
  case build => exact (calm_build _ _).value
  case fieldAddr h => exact (calm_fieldAt _ _ _ h).value
  case binOp h => exact (calm_binOp _ _ _ _ _ _ h).value
  case unOp h => exact (calm_unary_plain _ _ h).value
  case len x t h =>
    show Calm P (Builtin.len_ #[t] ty (#[x].map ρ) >>= fun v => Pure.pure (Next.value v))
    rw [show #[x].map ρ = #[ρ x] from by simp]
    exact (calm_len t h _ _).value
  case max x y ts hx hy =>
    show Calm P (Builtin.max_ ts ty (#[x, y].map ρ) >>= fun v => Pure.pure (Next.value v))
    rw [show #[x, y].map ρ = #[ρ x, ρ y] from by simp]
    exact (calm_max _ _ _ _ hx hy).value
  case min x y ts hx hy =>
    show Calm P (Builtin.min_ ts ty (#[x, y].map ρ) >>= fun v => Pure.pure (Next.value v))
    rw [show #[x, y].map ρ = #[ρ x, ρ y] from by simp]
    exact (calm_min _ _ _ _ hx hy).value
  case nilCheck x p h =>
    have : execOp ρ ⟨dst, .nilCheck x, ty, pos, after, guard⟩ = (Pure.pure (Next.value (.pointer (some p))) : Sem Next) := by simp [execOp, h]
    rw [this]
    exact Calm.pure' _
end Go.Calmly

namespace Go.Calmly

inductive Plan where
  | fl (i : Nat) (k : Plan)
  | eff (i : Nat) (k : Plan)
  | alt (i : Nat) (k r : Plan)
  | tail (l : List Nat)

/-- The same of an operation that has a guard. -/
def Plan.gl (i : Nat) (k : Plan) : Plan := .fl i k
def Plan.gf (i : Nat) (k : Plan) : Plan := .eff i k

def NoQ : Exit → Act → World → Prop := fun _ _ _ => False

section
variable (P : Program) (ops : Array Oper) (Q : Exit → Act → World → Prop) (w0 : World)

def wpMix : Plan → Act → World → Prop
  | .fl i k, a, w => match ops[i]? with
    | none => False
    | some o => if Region.wanted o (yielded ops a.tmps) then Early P a.eval o.op ∧ o.wp P a w0 (fun a' w' => w' = w0 ∧ wpMix k a' w) NoQ else wpMix k (a.put o.dst undef) w
  | .eff i k, a, w => wpOp P ops NoQ i (fun a' w' => Kept w0 w' ∧ wpMix k a' w') a w
  | .alt i k r, a, w => wpOp P ops NoQ i (fun a' w' => Kept w0 w' ∧ wpMix k a' w') a w ∧ wpMix r a w
  | .tail l, a, w => wpOps P ops Q l a w

def chainOk (md : Region.Mode) (n : Nat) : List Nat → Nat → Array Bool → Bool
  | [], _, L => (Region.ready md ops L).isEmpty
  | i :: l, fuel, L => match fuel with
    | 0 => false
    | f + 1 => (Region.ready md ops L).contains i && (Region.ready md ops L).all (fun j => j == i) && decide (n ≤ i) && chainOk md n l f (L.setIfInBounds i true)

def planOk (md : Region.Mode) (n : Nat) : Plan → Nat → Array Bool → List Nat → Bool
  | .fl i k, fuel, L, done => match fuel with
    | 0 => false
    | f + 1 => done.isEmpty && decide (i < n) && (Region.ready md ops L).contains i && Region.free md ops L i && planOk md n k f (L.setIfInBounds i true) []
  | .eff i k, fuel, L, done => match fuel with
    | 0 => false
    | f + 1 => decide (i < n) && (Region.ready md ops L).contains i && (Region.ready md ops L).all (fun j => j == i || done.contains j) && planOk md n k f (L.setIfInBounds i true) []
  | .alt i k r, fuel, L, done => match fuel with
    | 0 => false
    | f + 1 => decide (i < n) && (Region.ready md ops L).contains i && planOk md n k f (L.setIfInBounds i true) [] && planOk md n r (f + 1) L (i :: done)
  | .tail l, fuel, L, done => done.isEmpty && chainOk ops md n l fuel L

/-- Operation j waits for operation i, in some steps. -/
def waits (md : Region.Mode) : Nat → Nat → Nat → Bool
  | 0, _, _ => false
  | f + 1, j, i => match ops[j]? with
    | some o => (o.after.any fun e => Region.binds md e && e.on == i) || o.after.any fun e => Region.binds md e && waits md f e.on i
    | none => false
/-- Every operation from number n on waits for each one before n. -/
def tailOk (md : Region.Mode) (n : Nat) : Bool :=
  (List.range ops.size).all fun j => decide (j < n) || (List.range n).all fun i => waits ops md 8 j i
/-- Whatever an operation that has come up waits for has come up. -/
def Closed (md : Region.Mode) (L : Array Bool) : Prop := ∀ j o, ops[j]? = some o → L.getD j false = true → ∀ e ∈ o.after, Region.binds md e = true → L.getD e.on false = true

def stepT (n : Nat) (i : Nat) (K : Act → World → Prop) (a : Act) (w : World) : Prop :=
  if i < n then wpOp P ops NoQ i (fun a' w' => Kept w0 w' ∧ K a' w') a w else wpOp P ops Q i K a w

def AnyT (md : Region.Mode) (n : Nat) : Nat → Array Bool → Act → World → Prop
  | 0, L, a, w => Region.ready md ops L = [] ∧ Q .normal a w
  | fuel + 1, L, a, w => (Region.ready md ops L = [] → Q .normal a w) ∧ ∀ i ∈ Region.ready md ops L, stepT P ops Q w0 n i (AnyT md n fuel (L.setIfInBounds i true)) a w
end

section
variable {P : Program} {ops : Array Oper} {Q : Exit → Act → World → Prop} {w0 : World} {md : Region.Mode} {n : Nat}

theorem wp_noQ {o : Oper} {a : Act} {w : World} {K : Act → World → Prop} (hh : o.wp P a w K NoQ) : o.wp P a w K Q := by
  unfold Oper.wp at *
  generalize (execOp a.eval o).run P w = r at *
  cases r with
  | ok m w' =>
    cases m <;> simp only [Oper.upon] at hh ⊢ <;>
      first
        | exact hh
        | exact Calls.mono hh (fun e w'' he => by cases e <;> first | exact he | exact he.elim | (obtain ⟨_, _, h⟩ := he; exact h.elim))
  | halt x w' => cases x <;> simp only [Oper.upon] at hh ⊢ <;> exact hh.elim

theorem wpOp_noQ {i : Nat} {K K' : Act → World → Prop} {a : Act} {w : World} (h : ∀ a w, K a w → K' a w) (hh : wpOp P ops NoQ i K a w) : wpOp P ops Q i K' a w := by
  have h1 := wpOp_mono h hh
  unfold wpOp at *
  cases ho : ops[i]? with
  | none => simp only [ho] at h1 ⊢; exact h1
  | some o =>
    simp only [ho] at h1 ⊢
    split
    · rename_i hw
      simp only [hw, if_true] at h1
      rcases h1 with h1 | ⟨_, _, _, h1⟩
      · exact .inl (wp_noQ h1)
      · exact h1.elim
    · rename_i hw
      simp only [hw] at h1
      exact h1

theorem any_of_anyT : ∀ (fuel : Nat) (L : Array Bool) (a : Act) (w : World), AnyT P ops Q w0 md n fuel L a w → wpAny P md ops Q fuel L a w
  | 0, _, _, _, h => h
  | fuel + 1, L, a, w, h => ⟨h.1, fun i hi => by
      have h1 := h.2 i hi
      unfold stepT at h1
      split at h1
      · exact wpOp_noQ (fun a w hk => any_of_anyT fuel _ a w hk.2) h1
      · exact wpOp_mono (fun a w hk => any_of_anyT fuel _ a w hk) h1⟩

theorem yields_op {i : Nat} {o : Oper} {v : Value} {a : Act} (hi : ops[i]? = some o) (hy : YieldsIf P ops (Kept w0) o v a)
    {K : Act → World → Prop} {w : World} (hS : Kept w0 w) (h : K (a.put o.dst v) w) : wpOp P ops NoQ i (fun a' w' => Kept w0 w' ∧ K a' w') a w :=
  hy.wpOp hi hS ⟨hS, h⟩

theorem closed_start (m : Nat) : Closed ops md (Array.replicate m false) := fun j o _ h => by
  rw [getD_replicate_false] at h; cases h
theorem closed_set {L : Array Bool} {i : Nat} (h : Closed ops md L) (hr : i ∈ Region.ready md ops L) : Closed ops md (L.setIfInBounds i true) := fun j o ho hj e he hb => by
  by_cases hji : i = j
  · subst hji
    obtain ⟨_, o', ho', hall⟩ := mem_ready.1 hr
    rw [ho] at ho'
    cases ho'
    exact getD_set_true (hall e he hb)
  · rw [getD_set_ne false hji] at hj
    exact getD_set_true (h j o ho hj e he hb)
theorem waits_listed {L : Array Bool} (h : Closed ops md L) : ∀ (f j i : Nat) (o : Oper), ops[j]? = some o → (∀ e ∈ o.after, Region.binds md e = true → L.getD e.on false = true) → waits ops md f j i = true → L.getD i false = true
  | 0, _, _, _, _, _, hw => by simp [waits] at hw
  | f + 1, j, i, o, ho, hall, hw => by
    simp only [waits, ho, Bool.or_eq_true] at hw
    rcases hw with hw | hw
    · obtain ⟨e, he, hb⟩ := Array.any_eq_true'.1 hw
      simp only [Bool.and_eq_true, beq_iff_eq] at hb
      obtain ⟨hb, rfl⟩ := hb
      exact hall e he hb
    · obtain ⟨e, he, hb⟩ := Array.any_eq_true'.1 hw
      simp only [Bool.and_eq_true] at hb
      obtain ⟨hb, h1⟩ := hb
      have hl := hall e he hb
      cases ho' : ops[e.on]? with
      | none =>
        cases f with
        | zero => simp [waits] at h1
        | succ f => simp [waits, ho'] at h1
      | some o' => exact waits_listed h f e.on i o' ho' (fun e' he' hb' => h e.on o' ho' hl e' he' hb') h1

theorem anyT_first {i : Nat} {oi : Oper} {v : Value} (hi : ops[i]? = some oi) (hin : i < n) (hsel : ∀ (j : Nat) (o : Oper) cs b, ops[j]? = some o → o.op ≠ .select cs b)
    (htail : tailOk ops md n = true) :
    ∀ (fuel : Nat) (L : Array Bool) (a : Act) (w : World), Closed ops md L →
      (∀ j oj, ops[j]? = some oj → j ≠ i → L.getD j true = false → (∀ e ∈ oj.after, Region.binds md e = true → e.on ≠ i) → oi.apart ops oj = true) →
      i ∈ Region.ready md ops L → YieldsIf P ops (Kept w0) oi v a → Kept w0 w →
      AnyT P ops Q w0 md n fuel (L.setIfInBounds i true) (a.put oi.dst v) w → AnyT P ops Q w0 md n (fuel + 1) L a w := by
  intro fuel
  induction fuel with
  | zero =>
    intro L a w _ _ hr hy hS H
    refine ⟨fun h => (by rw [h] at hr; cases hr), fun j hj => ?_⟩
    by_cases hji : j = i
    · subst hji
      unfold stepT
      rw [if_pos hin]
      exact yields_op hi hy hS H
    · have := ready_mono hj hji
      rw [H.1] at this
      cases this
  | succ fuel ih =>
    intro L a w hcl hfree hr hy hS H
    refine ⟨fun h => (by rw [h] at hr; cases hr), fun j hj => ?_⟩
    by_cases hji : j = i
    · subst hji
      unfold stepT
      rw [if_pos hin]
      exact yields_op hi hy hS H
    · have h1 := H.2 j (ready_mono hj hji)
      obtain ⟨hjun, oj, hoj, hall⟩ := mem_ready.1 hj
      have hnot : ∀ e ∈ oj.after, Region.binds md e = true → e.on ≠ i := fun e he hb heq => by
        have h1 := hall e he hb
        have h0 := (mem_ready.1 hr).1
        rw [heq] at h1
        rcases Nat.lt_or_ge i L.size with h' | h'
        · simp [h'] at h0 h1; rw [h0] at h1; cases h1
        · simp [Array.getElem?_eq_none h'] at h1
      have hjn : j < n := by
        rcases Nat.lt_or_ge j n with h' | h'
        · exact h'
        · have hjs : j < ops.size := (Array.getElem?_eq_some_iff.1 hoj).1
          unfold tailOk at htail
          rw [List.all_eq_true] at htail
          have h2 := htail j (List.mem_range.2 hjs)
          have h3 : ¬ j < n := by omega
          simp only [h3, decide_false, Bool.false_or, List.all_eq_true] at h2
          have h4 := waits_listed hcl 8 j i oj hoj hall (h2 i (List.mem_range.2 hin))
          have h0 := (mem_ready.1 hr).1
          rw [getD_both h0] at h4
          cases h4
      unfold stepT at h1 ⊢
      rw [if_pos hjn] at h1 ⊢
      have h2 := wpOp_putIf hoj (hfree j oj hoj hji hjun hnot) (fun cs b => hsel i oi cs b hi) (fun cs b => hsel j oj cs b hoj) (fun _ _ _ h => h) hy h1
      have hfree' : ∀ k ok, ops[k]? = some ok → k ≠ i → (L.setIfInBounds j true).getD k true = false →
          (∀ e ∈ ok.after, Region.binds md e = true → e.on ≠ i) → oi.apart ops ok = true := fun k ok hk hki hun hno => by
        refine hfree k ok hk hki ?_ hno
        by_cases hjk : j = k
        · subst hjk; exact hjun
        · rw [getD_set_ne true hjk] at hun; exact hun
      refine wpOp_mono (fun a' w' h3 => ⟨h3.2.1, ih (L.setIfInBounds j true) a' w' (closed_set hcl hj) hfree' (ready_mono hr (Ne.symm hji)) h3.1 h3.2.1 ?_⟩) h2
      rw [Array.setIfInBounds_comm _ _ hji]
      exact h3.2.2

theorem anyT_done {L : Array Bool} {a : Act} {w : World} (hr : Region.ready md ops L = []) (h : Q .normal a w) : ∀ fuel, AnyT P ops Q w0 md n fuel L a w
  | 0 => ⟨hr, h⟩
  | _ + 1 => ⟨fun _ => h, by rw [hr]; simp⟩

theorem chain_sound : ∀ (l : List Nat) (fuel : Nat) (L : Array Bool) (a : Act) (w : World), chainOk ops md n l fuel L = true → wpOps P ops Q l a w → AnyT P ops Q w0 md n fuel L a w
  | [], fuel, L, a, w, hc, h => anyT_done (by simpa [chainOk] using hc) h fuel
  | i :: l, 0, L, a, w, hc, h => by simp [chainOk] at hc
  | i :: l, fuel + 1, L, a, w, hc, h => by
    simp only [chainOk, Bool.and_eq_true, decide_eq_true_eq, List.all_eq_true, beq_iff_eq] at hc
    obtain ⟨⟨⟨h1, h2⟩, h3⟩, h4⟩ := hc
    refine ⟨fun h0 => (by rw [h0] at h1; simp at h1), fun j hj => ?_⟩
    obtain rfl := h2 j hj
    unfold stepT
    rw [if_neg (by omega)]
    rw [wpOps_cons] at h
    exact wpOp_mono (fun a w hk => chain_sound l fuel _ a w h4 hk) h

theorem early_form {ρ : Operand → Value} {o : Oper} (h : Early P ρ o.op) : ∃ x : Sem Value, execOp ρ o = x >>= fun v => Pure.pure (Next.value v) := by
  obtain ⟨dst, op, ty, pos, after, guard⟩ := o
  dsimp only at h
  cases h
  case move x => exact ⟨Pure.pure (ρ x), rfl⟩
  case assign x => exact ⟨Pure.pure (ρ x), rfl⟩
  case pick c x y => exact ⟨asBool (ρ c) >>= fun b => Pure.pure (if b then ρ x else ρ y), by
    show (asBool (ρ c) >>= fun b => Pure.pure (Next.value (if b then ρ x else ρ y))) = _
    generalize ρ c = u
    cases u <;> rfl⟩
  case nilCheck x p h => exact ⟨Pure.pure (.pointer (some p)), by simp [execOp, h]⟩
  all_goals exact ⟨_, rfl⟩

theorem early_yields {o : Oper} {a : Act} {K : Act → Prop} (hw : Region.wanted o (yielded ops a.tmps) = true) (he : Early P a.eval o.op)
    (h : o.wp P a w0 (fun a' w' => w' = w0 ∧ K a') NoQ) : ∃ v, YieldsIf P ops (Kept w0) o v a ∧ K (a.put o.dst v) := by
  have hc := calm_early (P := P) (o := o) he
  unfold Oper.wp at h
  cases hr : (execOp a.eval o).run P w0 with
  | halt x w' =>
    rw [hr] at h
    cases x <;> simp only [Oper.upon] at h
    exact h.elim
  | ok m w' =>
    rw [hr] at h
    obtain ⟨h1, h2⟩ := hc.run hr
    obtain ⟨dst, op, ty, pos, after, guard⟩ := o
    dsimp only at he
    cases m with
    | value v => exact ⟨v, .inl ⟨hw, fun w hk => h2 w hk⟩, h.2⟩
    | _ =>
      exfalso
      obtain ⟨x, hx⟩ := early_form (o := { dst, op, type := ty, pos, after, guard }) he
      rw [hx] at hr
      obtain ⟨u, w1, _, h4⟩ := run_bind_ok hr
      cases h4

theorem mix_sound (hsel : Region.noSelect ops = true) (htail : tailOk ops md n = true) : ∀ (p : Plan) (fuel : Nat) (L : Array Bool) (done : List Nat) (a : Act) (w : World), Closed ops md L →
    planOk ops md n p fuel L done = true → Kept w0 w → wpMix P ops Q w0 p a w →
    (done = [] → AnyT P ops Q w0 md n fuel L a w) ∧ ∀ j ∈ Region.ready md ops L, j ∉ done → ∃ f, fuel = f + 1 ∧ stepT P ops Q w0 n j (AnyT P ops Q w0 md n f (L.setIfInBounds j true)) a w
  | .tail l, fuel, L, done, a, w, hcl, hok, hS, h => by
    simp only [planOk, Bool.and_eq_true, List.isEmpty_iff] at hok
    obtain ⟨rfl, hc⟩ := hok
    have hA := chain_sound (P := P) (w0 := w0) l fuel L a w hc h
    refine ⟨fun _ => hA, fun j hj _ => ?_⟩
    cases fuel with
    | zero => rw [hA.1] at hj; cases hj
    | succ f => exact ⟨f, rfl, hA.2 j hj⟩
  | .fl i k, 0, L, done, a, w, hcl, hok, hS, h => by simp [planOk] at hok
  | .eff i k, 0, L, done, a, w, hcl, hok, hS, h => by simp [planOk] at hok
  | .alt i k r, 0, L, done, a, w, hcl, hok, hS, h => by simp [planOk] at hok
  | .fl i k, fuel + 1, L, done, a, w, hcl, hok, hS, h => by
    simp only [planOk, Bool.and_eq_true, List.isEmpty_iff, decide_eq_true_eq] at hok
    obtain ⟨⟨⟨⟨rfl, hin⟩, hr⟩, hf⟩, hk⟩ := hok
    have hr' : i ∈ Region.ready md ops L := by simpa using hr
    suffices hA : AnyT P ops Q w0 md n (fuel + 1) L a w by exact ⟨fun _ => hA, fun j hj _ => ⟨fuel, rfl, hA.2 j hj⟩⟩
    cases ho : ops[i]? with
    | none => simp only [wpMix, ho] at h
    | some o =>
      simp only [wpMix, ho] at h
      split at h
      · rename_i hw
        obtain ⟨v, hy, hK⟩ := early_yields hw h.1 h.2
        exact anyT_first ho hin (Region.noSelect_spec hsel) htail fuel L a w hcl (Region.free_spec ho hf) hr' hy hS ((mix_sound hsel htail k fuel _ [] _ w (closed_set hcl hr') hk hS hK).1 rfl)
      · rename_i hw
        exact anyT_first ho hin (Region.noSelect_spec hsel) htail fuel L a w hcl (Region.free_spec ho hf) hr' (v := undef) (.inr ⟨by simpa using hw, rfl⟩) hS ((mix_sound hsel htail k fuel _ [] _ w (closed_set hcl hr') hk hS h).1 rfl)
  | .eff i k, fuel + 1, L, done, a, w, hcl, hok, hS, h => by
    simp only [planOk, Bool.and_eq_true, decide_eq_true_eq, List.all_eq_true, Bool.or_eq_true, beq_iff_eq] at hok
    obtain ⟨⟨⟨hin, hr⟩, hall⟩, hk⟩ := hok
    have hr' : i ∈ Region.ready md ops L := by simpa using hr
    have hst : stepT P ops Q w0 n i (AnyT P ops Q w0 md n fuel (L.setIfInBounds i true)) a w := by
      unfold stepT
      rw [if_pos hin]
      exact wpOp_mono (fun a' w' hh => ⟨hh.1, (mix_sound hsel htail k fuel _ [] _ w' (closed_set hcl hr') hk hh.1 hh.2).1 rfl⟩) h
    have hone : ∀ j ∈ Region.ready md ops L, j ∉ done → j = i := fun j hj hd => by
      rcases hall j hj with h1 | h1
      · exact h1
      · exact absurd (by simpa using h1) hd
    refine ⟨fun hd => ⟨fun h0 => (by rw [h0] at hr'; cases hr'), fun j hj => ?_⟩, fun j hj hd => ⟨fuel, rfl, ?_⟩⟩
    · obtain rfl := hone j hj (by rw [hd]; simp)
      exact hst
    · obtain rfl := hone j hj hd
      exact hst
  | .alt i k r, fuel + 1, L, done, a, w, hcl, hok, hS, h => by
    simp only [planOk, Bool.and_eq_true, decide_eq_true_eq] at hok
    obtain ⟨⟨⟨hin, hr⟩, hk⟩, hrest⟩ := hok
    have hr' : i ∈ Region.ready md ops L := by simpa using hr
    have hst : stepT P ops Q w0 n i (AnyT P ops Q w0 md n fuel (L.setIfInBounds i true)) a w := by
      unfold stepT
      rw [if_pos hin]
      exact wpOp_mono (fun a' w' hh => ⟨hh.1, (mix_sound hsel htail k fuel _ [] _ w' (closed_set hcl hr') hk hh.1 hh.2).1 rfl⟩) h.1
    have hR := (mix_sound hsel htail r (fuel + 1) L (i :: done) a w hcl hrest hS h.2).2
    have hall : ∀ j ∈ Region.ready md ops L, j ∉ done → stepT P ops Q w0 n j (AnyT P ops Q w0 md n fuel (L.setIfInBounds j true)) a w := fun j hj hd => by
      by_cases hji : j = i
      · subst hji; exact hst
      · obtain ⟨f, hf, hh⟩ := hR j hj (by simp [hji, hd])
        obtain rfl : fuel = f := by omega
        exact hh
    exact ⟨fun hd => ⟨fun h0 => (by rw [h0] at hr'; cases hr'), fun j hj => hall j hj (by rw [hd]; simp)⟩, fun j hj hd => ⟨fuel, rfl, hall j hj hd⟩⟩

/-- The same, closed up: nothing unfolds it. -/
structure WpMix (P : Program) (ops : Array Oper) (Q : Exit → Act → World → Prop) (w0 : World) (p : Plan) (a : Act) (w : World) : Prop where
  out : wpMix P ops Q w0 p a w

/-- The beginning of such a walk. -/
theorem wp_region_mix {id : Nat} {a : Act} {w : World} {l : List Oper} (n : Nat) (p : Plan) (hm : P.follows .mixedOrders = true)
    (hB : (Region.noSelect l.toArray && tailOk l.toArray .any n && planOk l.toArray .any n p l.toArray.size (Array.replicate l.toArray.size false) []) = true)
    (h : WpMix P l.toArray Q w.drew p a w.drew) : (Code.region id l.toArray true).wp P Q a w := by
  simp only [Bool.and_eq_true] at hB
  obtain ⟨⟨h1, h2⟩, h3⟩ := hB
  exact wp_region_any hm (any_of_anyT _ _ _ _ ((mix_sound h1 h2 p _ _ [] a _ (closed_start _) h3 (Kept.refl _) h.out).1 rfl))

/-! ### The moves -/
theorem mix_gen {p : Plan} {a : Act} {w : World} (S : World → Prop) (hS : S w) (h : ∀ v, S v → WpMix P ops Q w0 p a v) : WpMix P ops Q w0 p a w := h w hS
theorem is_fl {i : Nat} {k : Plan} {a : Act} {w : World} (h : WpMix P ops Q w0 (.fl i k) a w) : WpMix P ops Q w0 (.fl i k) a w := h
theorem is_gl {i : Nat} {k : Plan} {a : Act} {w : World} (h : WpMix P ops Q w0 (.gl i k) a w) : WpMix P ops Q w0 (.gl i k) a w := h
theorem is_gf {i : Nat} {k : Plan} {a : Act} {w : World} (h : WpMix P ops Q w0 (.gf i k) a w) : WpMix P ops Q w0 (.gf i k) a w := h
theorem is_eff {i : Nat} {k : Plan} {a : Act} {w : World} (h : WpMix P ops Q w0 (.eff i k) a w) : WpMix P ops Q w0 (.eff i k) a w := h
theorem is_kept {u v : World} {G : Prop} (h : Kept u v ∧ G) : Kept u v ∧ G := h
theorem is_tail {l : List Nat} {a : Act} {w : World} (h : WpMix P ops Q w0 (.tail l) a w) : WpMix P ops Q w0 (.tail l) a w := h
theorem mix_fl {i : Nat} {k : Plan} {dst : Option Tmp} {op : Op} {ty : TypeId} {pos : String} {after : Array Edge} {a : Act} {w : World} (hi : ops[i]? = some ⟨dst, op, ty, pos, after, none⟩) (he : Early P a.eval op)
    (h : ∀ K : Act → World → Prop, (∀ a', WpMix P ops Q w0 k a' w → K a' w0) → Oper.wp P ⟨dst, op, ty, pos, after, none⟩ a w0 K NoQ) : WpMix P ops Q w0 (.fl i k) a w := by
  refine ⟨?_⟩
  simp only [wpMix, hi, Region.wanted, if_true]
  exact ⟨he, h _ fun a' hh => ⟨rfl, hh.out⟩⟩
theorem wanted_none {o : Oper} {f : Nat → Option Bool} (hg : o.guard = none) : Region.wanted o f = true := by simp [Region.wanted, hg]
/-- Whether a guarded operation is carried out, from what its guard's temporary holds. -/
theorem wanted_some {o : Oper} {g d : Nat} {want b r : Bool} {a : Act} (hg : o.guard = some (g, want)) (hd : (ops[g]?).bind (·.dst) = some d) (hv : a.tmps[d]? = some (.bool b)) (hr : (b == want) = r) :
    Region.wanted o (yielded ops a.tmps) = r := by
  subst hr
  simp only [Region.wanted, hg, yielded, hd, Option.bind_some, hv]
  cases b <;> cases want <;> rfl
/-- A guarded operation that only reads, or another one: whether it is carried out. -/
structure GFl (P : Program) (ops : Array Oper) (Q : Exit → Act → World → Prop) (w0 : World) (b want : Bool) (k : Plan) (o : Oper) (a : Act) (w : World) : Prop where
  out : if b == want then Early P a.eval o.op ∧ o.wp P a w0 (fun a' w' => w' = w0 ∧ wpMix P ops Q w0 k a' w) NoQ else wpMix P ops Q w0 k (a.put o.dst undef) w
structure GEf (P : Program) (ops : Array Oper) (Q : Exit → Act → World → Prop) (w0 : World) (b want : Bool) (k : Plan) (o : Oper) (a : Act) (w : World) : Prop where
  out : if b == want then o.wp P a w (fun a' w' => Kept w0 w' ∧ wpMix P ops Q w0 k a' w') NoQ else Kept w0 w ∧ wpMix P ops Q w0 k (a.put o.dst undef) w
theorem mix_gl {i : Nat} {k : Plan} {dst : Option Tmp} {op : Op} {ty : TypeId} {pos : String} {after : Array Edge} {a : Act} {w : World} {g d : Nat} {want b : Bool} (hi : ops[i]? = some ⟨dst, op, ty, pos, after, some (g, want)⟩) (hd : (ops[g]?).bind (·.dst) = some d) (hv : a.tmps[d]? = some (.bool b))
    (h : GFl P ops Q w0 b want k ⟨dst, op, ty, pos, after, some (g, want)⟩ a w) : WpMix P ops Q w0 (.gl i k) a w := by
  have hw := fun r (hr : (b == want) = r) => wanted_some (o := ⟨dst, op, ty, pos, after, some (g, want)⟩) rfl hd hv hr
  refine ⟨?_⟩
  replace h := h.out
  cases hr : b == want
  · simp only [hr, Bool.false_eq_true, if_false] at h
    simp only [Plan.gl, wpMix, hi, hw _ hr, Bool.false_eq_true, if_false]
    exact h
  · simp only [hr, if_true] at h
    simp only [Plan.gl, wpMix, hi, hw _ hr, if_true]
    exact h
theorem gl_tt {k : Plan} {o : Oper} {a : Act} {w : World} (he : Early P a.eval o.op) (h : ∀ K : Act → World → Prop, (∀ a', WpMix P ops Q w0 k a' w → K a' w0) → o.wp P a w0 K NoQ) : GFl P ops Q w0 true true k o a w :=
  ⟨⟨he, h _ fun _ hh => ⟨rfl, hh.out⟩⟩⟩
theorem gl_ff {k : Plan} {o : Oper} {a : Act} {w : World} (he : Early P a.eval o.op) (h : ∀ K : Act → World → Prop, (∀ a', WpMix P ops Q w0 k a' w → K a' w0) → o.wp P a w0 K NoQ) : GFl P ops Q w0 false false k o a w :=
  ⟨⟨he, h _ fun _ hh => ⟨rfl, hh.out⟩⟩⟩
theorem gl_tf {k : Plan} {dst : Option Tmp} {op : Op} {ty : TypeId} {pos : String} {after : Array Edge} {g : Option (Nat × Bool)} {a : Act} {w : World}
    (h : ∀ K : Act → World → Prop, (∀ a', WpMix P ops Q w0 k a' w → K a' w0) → Oper.wp P ⟨dst, .assign (.const undef), ty, pos, after, none⟩ a w0 K NoQ) : GFl P ops Q w0 true false k ⟨dst, op, ty, pos, after, g⟩ a w :=
  ⟨h (fun a' _ => wpMix P ops Q w0 k a' w) (fun _ hh => hh.out)⟩
theorem gl_ft {k : Plan} {dst : Option Tmp} {op : Op} {ty : TypeId} {pos : String} {after : Array Edge} {g : Option (Nat × Bool)} {a : Act} {w : World}
    (h : ∀ K : Act → World → Prop, (∀ a', WpMix P ops Q w0 k a' w → K a' w0) → Oper.wp P ⟨dst, .assign (.const undef), ty, pos, after, none⟩ a w0 K NoQ) : GFl P ops Q w0 false true k ⟨dst, op, ty, pos, after, g⟩ a w :=
  ⟨h (fun a' _ => wpMix P ops Q w0 k a' w) (fun _ hh => hh.out)⟩
theorem op_of {i : Nat} {o : Oper} {a : Act} {w : World} {K : Act → World → Prop} (hi : ops[i]? = some o) (hg : Region.wanted o (yielded ops a.tmps) = true)
    (h : o.wp P a w K Q) : wpOp P ops Q i K a w := by
  unfold wpOp
  simp only [hi, hg, if_true]
  exact .inl h
theorem op_off {i : Nat} {o : Oper} {a : Act} {w : World} {K : Act → World → Prop} (hi : ops[i]? = some o) (hg : Region.wanted o (yielded ops a.tmps) = false)
    (h : K (a.put o.dst undef) w) : wpOp P ops Q i K a w := by
  unfold wpOp
  simp only [hi, hg]
  exact h
theorem mix_eff {i : Nat} {k : Plan} {dst : Option Tmp} {op : Op} {ty : TypeId} {pos : String} {after : Array Edge} {a : Act} {w : World} (hi : ops[i]? = some ⟨dst, op, ty, pos, after, none⟩)
    (h : ∀ K : Act → World → Prop, (∀ a' w', Kept w0 w' ∧ WpMix P ops Q w0 k a' w' → K a' w') → Oper.wp P ⟨dst, op, ty, pos, after, none⟩ a w K NoQ) : WpMix P ops Q w0 (.eff i k) a w :=
  ⟨op_of hi (wanted_none rfl) (h (fun a' w' => Kept w0 w' ∧ wpMix P ops Q w0 k a' w') fun _ _ hh => ⟨hh.1, hh.2.out⟩)⟩
theorem mix_gf {i : Nat} {k : Plan} {dst : Option Tmp} {op : Op} {ty : TypeId} {pos : String} {after : Array Edge} {a : Act} {w : World} {g d : Nat} {want b : Bool} (hi : ops[i]? = some ⟨dst, op, ty, pos, after, some (g, want)⟩) (hd : (ops[g]?).bind (·.dst) = some d) (hv : a.tmps[d]? = some (.bool b))
    (h : GEf P ops Q w0 b want k ⟨dst, op, ty, pos, after, some (g, want)⟩ a w) : WpMix P ops Q w0 (.gf i k) a w := by
  refine ⟨?_⟩
  show wpOp P ops NoQ i (fun a' w' => Kept w0 w' ∧ wpMix P ops Q w0 k a' w') a w
  replace h := h.out
  cases hr : b == want
  · simp only [hr, Bool.false_eq_true, if_false] at h
    exact op_off (K := fun a' w' => Kept w0 w' ∧ wpMix P ops Q w0 k a' w') hi (wanted_some rfl hd hv hr) h
  · simp only [hr, if_true] at h
    exact op_of hi (wanted_some rfl hd hv hr) h
theorem gf_tt {k : Plan} {o : Oper} {a : Act} {w : World} (h : ∀ K : Act → World → Prop, (∀ a' w', Kept w0 w' ∧ WpMix P ops Q w0 k a' w' → K a' w') → o.wp P a w K NoQ) : GEf P ops Q w0 true true k o a w :=
  ⟨h (fun a' w' => Kept w0 w' ∧ wpMix P ops Q w0 k a' w') fun _ _ hh => ⟨hh.1, hh.2.out⟩⟩
theorem gf_ff {k : Plan} {o : Oper} {a : Act} {w : World} (h : ∀ K : Act → World → Prop, (∀ a' w', Kept w0 w' ∧ WpMix P ops Q w0 k a' w' → K a' w') → o.wp P a w K NoQ) : GEf P ops Q w0 false false k o a w :=
  ⟨h (fun a' w' => Kept w0 w' ∧ wpMix P ops Q w0 k a' w') fun _ _ hh => ⟨hh.1, hh.2.out⟩⟩
theorem gf_tf {k : Plan} {dst : Option Tmp} {op : Op} {ty : TypeId} {pos : String} {after : Array Edge} {g : Option (Nat × Bool)} {a : Act} {w : World} (hk : Kept w0 w)
    (h : ∀ K : Act → World → Prop, (∀ a', WpMix P ops Q w0 k a' w → K a' w) → Oper.wp P ⟨dst, .assign (.const undef), ty, pos, after, none⟩ a w K NoQ) : GEf P ops Q w0 true false k ⟨dst, op, ty, pos, after, g⟩ a w :=
  ⟨⟨hk, h (fun a' _ => wpMix P ops Q w0 k a' w) (fun _ hh => hh.out)⟩⟩
theorem gf_ft {k : Plan} {dst : Option Tmp} {op : Op} {ty : TypeId} {pos : String} {after : Array Edge} {g : Option (Nat × Bool)} {a : Act} {w : World} (hk : Kept w0 w)
    (h : ∀ K : Act → World → Prop, (∀ a', WpMix P ops Q w0 k a' w → K a' w) → Oper.wp P ⟨dst, .assign (.const undef), ty, pos, after, none⟩ a w K NoQ) : GEf P ops Q w0 false true k ⟨dst, op, ty, pos, after, g⟩ a w :=
  ⟨⟨hk, h (fun a' _ => wpMix P ops Q w0 k a' w) (fun _ hh => hh.out)⟩⟩
theorem mix_alt {i : Nat} {k r : Plan} {a : Act} {w : World} (h1 : WpMix P ops Q w0 (.eff i k) a w) (h2 : WpMix P ops Q w0 r a w) : WpMix P ops Q w0 (.alt i k r) a w := ⟨⟨h1.out, h2.out⟩⟩
theorem mix_tail_nil {a : Act} {w : World} (h : Q .normal a w) : WpMix P ops Q w0 (.tail []) a w := ⟨h⟩
theorem mix_tail {i : Nat} {l : List Nat} {dst : Option Tmp} {op : Op} {ty : TypeId} {pos : String} {after : Array Edge} {a : Act} {w : World} (hi : ops[i]? = some ⟨dst, op, ty, pos, after, none⟩)
    (h : ∀ K : Act → World → Prop, (∀ a' w', WpMix P ops Q w0 (.tail l) a' w' → K a' w') → Oper.wp P ⟨dst, op, ty, pos, after, none⟩ a w K Q) : WpMix P ops Q w0 (.tail (i :: l)) a w := by
  refine ⟨?_⟩
  show wpOps P ops Q (i :: l) a w
  rw [wpOps_cons]
  exact op_of hi (wanted_none rfl) (h _ fun _ _ hh => hh.out)
end
end Go.Calmly
