/- The abstract walk, second part: the table of types, what each operation does to abstract values, the calculus over code. -/
import Derived.Test.YtcmkiancbgmmhaaAw1
namespace Go.Aw
set_option linter.unusedVariables false
set_option linter.unusedSimpArgs false

inductive TD where
  | bool | int (k : IntKind) | str | slice (e : TypeId) | arr (n : Nat) (e : TypeId)
  | struct (fs : List (Nat × Nat × Bool × Bool))     -- offset, size, an aggregate?, has it a name?
  | ptr (e : TypeId) | map (k e : TypeId) | func | iface | uptr | tuple | other
  deriving Inhabited, DecidableEq

structure TI where
  d : TD
  size : Nat
  bytes : Nat
  zero : Option (List AV)
  bld : Option TypeId
  eqc : Option (List Nat)
  deriving Inhabited

def AV.one : AV → Bool
  | .top | .agg _ | .tup _ => false
  | _ => true
def absC : Value → AV
  | .bool b => .d (.bool b)
  | .int k n => .d (.int k n)
  | .string s => .d (.str s.data.toList)
  | .slice none 0 0 => .nil
  | .pointer none => .nilp
  | .nilFunc => .nilf
  | .nilIface => .nili
  | _ => .top
def absV : Value → AV
  | .agg cs => .agg (cs.toList.map absC)
  | .tuple cs => .tup (cs.toList.map absC)
  | .bool true => .tt
  | .bool false => .ff
  | v => absC v
/-- Known tests as plain data. -/
def nrm : AV → AV
  | .tt => .d (.bool true)
  | .ff => .d (.bool false)
  | v => v

def isAggB (P : Program) (t : TypeId) : Bool := match P.underlying t with | some (.struct _) | some (.array _ _) => true | _ => false
def tdOf (P : Program) (t : TypeId) : TD :=
  match P.underlying t with
  | some .bool => .bool
  | some (.int k) => .int k
  | some .string => .str
  | some (.slice e) => .slice e
  | some (.array n e) => .arr n e
  | some (.struct fs) => .struct (fs.toList.map fun f => (f.offset, P.cellsOf f.type, isAggB P f.type, f.name != "_"))
  | some (.pointer e) => .ptr e
  | some (.map k e) => .map k e
  | some (.func ..) => .func
  | some (.interface _) => .iface
  | some .unsafePointer => .uptr
  | some (.tuple _) => .tuple
  | _ => .other
def isAggV : Value → Bool
  | .agg _ => true
  | _ => false
def zgood (P : Program) (t : TypeId) (size : Nat) (v : Value) : Bool := v.cells.size == size && (v.cells.toList.map absC).all AV.one && (isAggB P t == isAggV v)
def zeroOf (P : Program) (t : TypeId) : Option (List AV) :=
  match P.info? t with
  | some i => match i.zero with
    | some v => match zgood P t i.size v with
      | true => some (v.cells.toList.map absC)
      | false => none
    | none => none
  | none => none
/-- strings.Builder itself. -/
def bufOf (P : Program) (t : TypeId) : TypeId := match P.underlying t with
  | some (.struct fs) => (match fs[1]? with
    | some f => (match P.underlying f.type with | some (.slice e) => e | _ => 0)
    | none => 0)
  | _ => 0
def isBld (P : Program) (t : TypeId) : Option TypeId := match P.info? t with
  | some i => match i.str == "strings.Builder", i.zero with
    | true, some v => (match v.cells.toList with | [.pointer none, .slice none 0 0] => some (bufOf P t) | _ => none)
    | _, _ => none
  | none => none
/-- Plain kinds that may be compared: 0 tests, 1 whole numbers, 2 texts. -/
def leafK (P : Program) (t : TypeId) : Option Nat := match P.underlying t with
  | some .bool => some 0
  | some (.int _) => some 1
  | some .string => some 2
  | _ => none
def leafFs (P : Program) : List Field → Nat → Option (List Nat)
  | [], _ => some []
  | f :: r, i => match leafK P f.type, f.name != "_" && Nat.beq f.offset i, leafFs P r (i + 1) with
    | some k, true, some l => some (k :: l)
    | _, _, _ => none
/-- What a struct or an array of plain parts is compared by. -/
def eqKinds (P : Program) (t : TypeId) : Option (List Nat) := match P.underlying t with
  | some (.struct fs) => (match P.stoodInHeld t, P.eqGuardType P.depth t with
    | false, false => leafFs P fs.toList 0
    | _, _ => none)
  | some (.array n e) => (match P.eqGuardType P.depth t, leafK P e, Nat.beq (P.cellsOf e) 1, Nat.ble n 64, (P.info? e).isSome with
    | false, some k, true, true, true => some (List.replicate n k)
    | _, _, _, _, _ => none)
  | _ => none
def tiOf (P : Program) (t : TypeId) : TI := ⟨tdOf P t, P.cellsOf t, P.bytesOf t, zeroOf P t, isBld P t, eqKinds P t⟩
def tabOf (P : Program) : List TI := (List.range P.types.size).map (tiOf P)

def TI.none : TI := ⟨.other, 0, 0, .none, .none, .none⟩
def nth : List TI → Nat → TI
  | [], _ => TI.none
  | a :: _, 0 => a
  | _ :: r, n + 1 => nth r n

/-- Is the type known to the table? -/
def known (ti : TI) : Bool := match ti.d with
  | .other => false
  | _ => true

def AV.cells? : AV → Option (List AV)
  | .agg vs => match vs.all AV.one with | true => some vs | false => none
  | .top => none
  | .tup _ => none
  | .tt => some [.d (.bool true)]
  | .ff => some [.d (.bool false)]
  | v => some [v]

/-- Both ways of a test. -/
def cbr (b : Bool) (A B : Prop) : Prop := (b = true → A) ∧ (b = false → B)

def inK : IntKind → Int → Prop
  | .i8, n => -128 ≤ n ∧ n ≤ 127
  | .i16, n => -32768 ≤ n ∧ n ≤ 32767
  | .i32, n => -2147483648 ≤ n ∧ n ≤ 2147483647
  | .i64, n => -9223372036854775808 ≤ n ∧ n ≤ 9223372036854775807
  | .u8, n => 0 ≤ n ∧ n ≤ 255
  | .u16, n => 0 ≤ n ∧ n ≤ 65535
  | .u32, n => 0 ≤ n ∧ n ≤ 4294967295
  | .u64, n => 0 ≤ n ∧ n ≤ 18446744073709551615

abbrev St := List (Nat × AV)
abbrev St.at (s : St) (t : Nat) : AV := look .top s t
def ev (s : St) : Operand → AV
  | .tmp t => look .top s t
  | .const v => absV v
  | .global _ => .top
  | .func f => .fn (.func f) [] []

/-- A value, told by its head. -/
def force (v : AV) (K : AV → Prop) : Prop :=
  match v with
  | .top => K .top
  | .tt => K .tt
  | .ff => K .ff
  | .d x => K (.d x)
  | .nil => K .nil
  | .ref i r c => K (.ref i r c)
  | .nilp => K .nilp
  | .ip row c => K (.ip row c)
  | .own i lo len => K (.own i lo len)
  | .tight i lo len => K (.tight i lo len)
  | .dt rows => K (.dt rows)
  | .mp i => K (.mp i)
  | .fn f a b => K (.fn f a b)
  | .nilf => K .nilf
  | .ifc t v => K (.ifc t v)
  | .nili => K .nili
  | .agg vs => K (.agg vs)
  | .tup vs => K (.tup vs)
theorem force_eq (v : AV) (K : AV → Prop) : force v K = K v := by cases v <;> rfl
def forceL : List AV → (List AV → Prop) → Prop
  | [], K => K []
  | a :: r, K => force a fun v => forceL r fun l => K (v :: l)
theorem forceL_eq : ∀ (l : List AV) (K : List AV → Prop), forceL l K = K l
  | [], K => rfl
  | a :: r, K => by simp only [forceL, force_eq, forceL_eq r]
/-- A new object; an object told anew. -/
def addK (σ : Store) (o : Ob) (K : Nat → Store → Prop) : Prop := match σ with | ⟨n, objs⟩ => K n ⟨n + 1, (n, o) :: objs⟩
def setK (σ : Store) (i : Nat) (o : Ob) (K : Store → Prop) : Prop := match σ with | ⟨n, objs⟩ => K ⟨n, (i, o) :: objs⟩
theorem addK_eq (σ : Store) (o : Ob) (K : Nat → Store → Prop) : addK σ o K = K σ.n (σ.add o) := by cases σ; rfl
theorem setK_eq (σ : Store) (i : Nat) (o : Ob) (K : Store → Prop) : setK σ i o K = K (σ.set i o) := by cases σ; rfl

/-- A number that may turn round: as it is where it fits. -/
def num (k : IntKind) (n : Int) (K : AV → Prop) : Prop := (inK k n ∧ K (.d (.int k n))) ∨ K (.d (.int k (k.wrap n)))

def aint (op : BinOp) (k : IntKind) (a b : Int) (K : AV → Prop) : Prop :=
  match op with
  | .add => num k (a + b) K
  | .sub => num k (a - b) K
  | .mul => num k (a * b) K
  | .quo => b ≠ 0 ∧ num k (a.tdiv b) K
  | .rem => b ≠ 0 ∧ K (.d (.int k (a.tmod b)))
  | .eql => K (.d (.bool (decide (a = b))))
  | .neq => K (.d (.bool (!decide (a = b))))
  | .lss => K (.d (.bool (decide (a < b))))
  | .leq => K (.d (.bool (decide (a ≤ b))))
  | .gtr => K (.d (.bool (decide (b < a))))
  | .geq => K (.d (.bool (decide (b ≤ a))))
  | .and => K (.d (.int k (k.wrap (BitVec.ofInt k.bits a &&& BitVec.ofInt k.bits b).toNat)))
  | .or => K (.d (.int k (k.wrap (BitVec.ofInt k.bits a ||| BitVec.ofInt k.bits b).toNat)))
  | .xor => K (.d (.int k (k.wrap (BitVec.ofInt k.bits a ^^^ BitVec.ofInt k.bits b).toNat)))
  | _ => False

def ashift (op : BinOp) (k : IntKind) (a b : Int) (K : AV → Prop) : Prop :=
  match op with
  | .shl => 0 ≤ b ∧ num k (a * 2 ^ (min b.toNat k.bits)) K
  | .shr => 0 ≤ b ∧ K (.d (.int k (a.fdiv (2 ^ (min b.toNat k.bits)))))
  | _ => False

def astr (op : BinOp) (a b : List UInt8) (K : AV → Prop) : Prop :=
  match op with
  | .add => a.length + b.length ≤ 9223372036854775807 ∧ K (.d (.str (a ++ b)))
  | .eql => K (.d (.bool (decide (a = b))))
  | .neq => K (.d (.bool (!decide (a = b))))
  | .lss => K (.d (.bool (Op.bytesLess a b)))
  | .leq => K (.d (.bool (Op.bytesLess a b || decide (a = b))))
  | .gtr => K (.d (.bool (!(Op.bytesLess a b || decide (a = b)))))
  | .geq => K (.d (.bool (!Op.bytesLess a b)))
  | _ => False

/-- Are two values side by side alike, all of them whole numbers? -/
def intsAlike : List AV → List AV → Option Bool
  | [], [] => some true
  | .d (.int _ a) :: r, .d (.int _ b) :: q => (intsAlike r q).map fun t => decide (a = b) && t
  | _, _ => none

def kEq : IntKind → IntKind → Bool
  | .i8, .i8 => true | .i16, .i16 => true | .i32, .i32 => true | .i64, .i64 => true
  | .u8, .u8 => true | .u16, .u16 => true | .u32, .u32 => true | .u64, .u64 => true
  | _, _ => false
theorem kEq_eq : ∀ {k k' : IntKind}, kEq k k' = true → k = k' := by intro k k' h; cases k <;> cases k' <;> first | rfl | cases h
def isBoolTD : TD → Bool
  | .bool => true
  | _ => false
def isPtrTD : TD → Bool
  | .ptr _ => true
  | _ => false
def isSliceTD : TD → Bool
  | .slice _ => true
  | _ => false
theorem isSliceTD_eq {d : TD} (h : isSliceTD d = true) : ∃ e, d = .slice e := by cases d <;> first | exact ⟨_, rfl⟩ | cases h
/-- A slice beside nil: one without rows may be either. -/
def nilTest {α : Type} (rows : List α) (K : Bool → Prop) : Prop := match rows with
  | [] => K true ∧ K false
  | _ :: _ => K false
def isU8TD : TD → Bool
  | .int .u8 => true
  | _ => false
theorem isBoolTD_eq {d : TD} (h : isBoolTD d = true) : d = .bool := by cases d <;> first | rfl | cases h
theorem isPtrTD_eq {d : TD} (h : isPtrTD d = true) : ∃ e, d = .ptr e := by cases d <;> first | exact ⟨_, rfl⟩ | cases h
theorem isU8TD_eq {d : TD} (h : isU8TD d = true) : d = .int .u8 := by
  cases d with
  | int k => cases k <;> first | rfl | cases h
  | _ => cases h
/-- A fact that the table decides. -/
def chk (b : Bool) (A : Prop) : Prop := match b with
  | true => A
  | false => False
theorem chk_eq {b : Bool} {A : Prop} (h : chk b A) : b = true ∧ A := by cases b <;> first | exact h.elim | exact ⟨rfl, h⟩

def dEq : Nat → AV → AV → Option Bool
  | 0, .d (.bool a), .d (.bool b) => some (a == b)
  | 1, .d (.int k a), .d (.int k' b) => match kEq k k' with | true => some (decide (a = b)) | false => none
  | 2, .d (.str a), .d (.str b) => some (decide (a = b))
  | _, _, _ => none
def aggEq : List Nat → List AV → List AV → Option Bool
  | [], [], [] => some true
  | k :: l, a :: r, b :: q => match dEq k a b, aggEq l r q with
    | some x, some y => some (x && y)
    | _, _ => none
  | _, _, _ => none
/-- Two structs, or two arrays, of plain parts. -/
def aeq (T : List TI) (t : TypeId) (xs ys : List AV) (K : Bool → Prop) : Prop := match (nth T t).eqc with
  | some l => (match aggEq l xs ys with | some b => K b | none => False)
  | none => False
def abin (T : List TI) (op : BinOp) (t : TypeId) (x y : AV) (K : AV → Prop) : Prop :=
  match op, x, y with
  | .shl, .d (.int k a), .d (.int _ b) => ashift .shl k a b K
  | .shr, .d (.int k a), .d (.int _ b) => ashift .shr k a b K
  | op, .d (.int k a), .d (.int k' b) => chk (kEq k k') (aint op k a b K)
  | op, .d (.str a), .d (.str b) => astr op a b K
  | .eql, .d (.bool a), .d (.bool b) => chk (isBoolTD (nth T t).d) (K (.d (.bool (a == b))))
  | .neq, .d (.bool a), .d (.bool b) => chk (isBoolTD (nth T t).d) (K (.d (.bool (!(a == b)))))
  | .eql, .ref _ _ _, .nilp => chk (isPtrTD (nth T t).d) (K (.d (.bool false)))
  | .neq, .ref _ _ _, .nilp => chk (isPtrTD (nth T t).d) (K (.d (.bool true)))
  | .eql, .nilp, .nilp => chk (isPtrTD (nth T t).d) (K (.d (.bool true)))
  | .neq, .nilp, .nilp => chk (isPtrTD (nth T t).d) (K (.d (.bool false)))
  | .eql, .d (.sl rows), .nil => chk (isSliceTD (nth T t).d) (nilTest rows fun b => K (.d (.bool b)))
  | .eql, .own i lo len, .nil => chk (isSliceTD (nth T t).d) ((len = 0 → K (.d (.bool true))) ∧ K (.d (.bool false)))
  | .neq, .d (.sl rows), .nil => chk (isSliceTD (nth T t).d) (nilTest rows fun b => K (.d (.bool (!b))))
  | .eql, .agg xs, .agg ys => aeq T t xs ys fun b => K (.d (.bool b))
  | .neq, .agg xs, .agg ys => aeq T t xs ys fun b => K (.d (.bool (!b)))
  | _, _, _ => False

def aun (op : UnOp) (x : AV) (K : AV → Prop) : Prop :=
  match op, x with
  | .not, .d (.bool b) => K (.d (.bool (!b)))
  | .not, .tt => K .ff
  | .not, .ff => K .tt
  | .neg, .d (.int k n) => num k (0 - n) K
  | _, _ => False

/-- A text's bytes as a slice's rows. -/
def bytesD (s : List UInt8) : List (List D) := s.map fun b => [.int .u8 b.toNat]
def bytesA (s : List UInt8) : List (List AV) := s.map fun b => [.d (.int .u8 b.toNat)]
/-- Rows of an object, all of pure data. -/
def toDs : List AV → Option (List D)
  | [] => some []
  | .d x :: r => (toDs r).map (x :: ·)
  | .nil :: r => (toDs r).map (.sl [] :: ·)
  | _ => none

def ownText (o : Ob) (lo len : Nat) (K : List UInt8 → Prop) : Prop := match o with
  | .rows sz rs => chk (Nat.beq sz.1 1) (∃ s, (rs.drop lo).take len = bytesA s ∧ s.length = len ∧ K s)
  | _ => False
def aconv (T : List TI) (σ : Store) (src dst : TypeId) (x : AV) (K : AV → Store → Prop) : Prop :=
  match (nth T src).d, (nth T dst).d, x with
  | .int _, .int k, .d (.int _ n) => num k n (fun v => K v σ)
  | .int _, .str, .d (.int _ n) => K (.d (.str (Utf8.encode n).data.toList)) σ
  | .str, .str, .d (.str s) => K (.d (.str s)) σ
  | .str, .slice e, .d (.str s) => chk (isU8TD (nth T e).d) (s.length ≤ 9223372036854775807 ∧ addK σ (.rows (1, e) (bytesA s)) fun n σ' => K (.own n 0 s.length) σ')
  | .slice e, .str, .d (.sl rows) => chk (isU8TD (nth T e).d) (∃ s, rows = bytesD s ∧ K (.d (.str s)) σ)
  | .slice e, .str, .nil => chk (isU8TD (nth T e).d) (K (.d (.str [])) σ)
  | .slice e, .str, .own i lo len => chk (isU8TD (nth T e).d) (ownText (σ.get i) lo len fun s => K (.d (.str s)) σ)
  | _, _, _ => False

/-- Parts laid into places: offset and size of each. -/
def afill (place : Nat → Option (Nat × Nat)) (cells : List AV) (ρ : Operand → AV) : List (Nat × Operand) → Option (List AV)
  | [] => some cells
  | (i, x) :: rest => match place i, (ρ x).cells? with
    | some (off, size), some l => match Nat.beq l.length size, Nat.ble (off + size) cells.length with
      | true, true => afill place (cells.take off ++ l ++ cells.drop (off + size)) ρ rest
      | _, _ => none
    | _, _ => none

def rowsOf (sz : Nat) : Nat → List AV → List (List AV)
  | 0, _ => []
  | n + 1, l => l.take sz :: rowsOf sz n (l.drop sz)

def repl (z : List AV) : Nat → List AV
  | 0 => []
  | n + 1 => z ++ repl z n

def isAggTD : TD → Bool
  | .struct _ | .arr _ _ => true
  | _ => false
/-- One of two cells. -/
def ofTwo (r c : Nat) (x y : AV) (K : AV → Prop) : Prop :=
  match r, c with
  | 0, 0 => K x
  | 0, 1 => K y
  | _, _ => False
def aload (T : List TI) (σ : Store) (t : TypeId) (a : AV) (K : AV → Prop) : Prop :=
  match a with
  | .ref i r c => match σ.get i with
    | .rows _ rs => ∃ row, rs[r]? = some row ∧ match (nth T t).d with
      | .struct _ | .arr _ _ => c + (nth T t).size ≤ row.length ∧ K (.agg ((row.drop c).take (nth T t).size))
      | .other => False
      | _ => ∃ v, row[c]? = some v ∧ K v
    | .two _ x y => chk (known (nth T t) && !isAggTD (nth T t).d) (ofTwo r c x y K)
    | _ => False
  | .ip row c => match (nth T t).d with
      | .struct _ | .arr _ _ => c + (nth T t).size ≤ row.length ∧ K (.agg (((row.drop c).take (nth T t).size).map .d))
      | .other => False
      | _ => ∃ x, row[c]? = some x ∧ K (.d x)
  | _ => False

def astore (T : List TI) (σ : Store) (t : TypeId) (a x : AV) (K : Store → Prop) : Prop :=
  match known (nth T t), a, x.cells? with
  | true, .ref i r c, some l => match σ.get i with
    | .rows sz rs => ∃ row, rs[r]? = some row ∧ l.length = (nth T t).size ∧ c + l.length ≤ row.length ∧
        setK σ i (.rows sz (rs.set r (row.take c ++ l ++ row.drop (c + l.length)))) K
    | .two T' x y => (match r, c, l, (nth T t).size with
      | 0, 0, [z], 1 => setK σ i (.two T' z y) K
      | 0, 1, [z], 1 => setK σ i (.two T' x z) K
      | _, _, _, _ => False)
    | _ => False
  | _, _, _ => False

/-- A bound of a slice expression. -/
def abound (x : Option AV) (dflt : Int) (K : Int → Prop) : Prop :=
  match x with
  | none => K dflt
  | some (.d (.int _ n)) => K n
  | _ => False

/-- Rows of a width. -/
def isRows (n : Nat) : Ob → Bool
  | .rows sz _ => Nat.beq sz.1 n
  | _ => false
/-- Rows of a width and a type. -/
def isRowsE (n e : Nat) : Ob → Bool
  | .rows sz _ => Nat.beq sz.1 n && Nat.beq sz.2 e
  | _ => false
theorem isRows_eq {n : Nat} {o : Ob} (h : isRows n o = true) : ∃ sz rs, o = .rows sz rs ∧ sz.1 = n := by
  cases o with
  | rows sz rs => exact ⟨sz, rs, rfl, Nat.eq_of_beq_eq_true h⟩
  | _ => cases h
theorem isRowsE_eq {n e : Nat} {o : Ob} (h : isRowsE n e o = true) : ∃ rs, o = .rows (n, e) rs := by
  cases o with
  | rows sz rs =>
    simp only [isRowsE, Bool.and_eq_true] at h
    have h1 := Nat.eq_of_beq_eq_true h.1
    have h2 := Nat.eq_of_beq_eq_true h.2
    obtain ⟨a, b⟩ := sz
    dsimp only at h1 h2
    subst h1; subst h2
    exact ⟨rs, rfl⟩
  | _ => cases h
def aslice (T : List TI) (σ : Store) (t : TypeId) (x : AV) (lo hi mx : Option AV) (K : AV → Prop) : Prop :=
  match (nth T t).d, x, mx with
  | .str, .d (.str s), none => abound lo 0 fun l => abound hi s.length fun h => (0 ≤ l ∧ l ≤ h ∧ h ≤ s.length) ∧ K (.d (.str ((s.take h.toNat).drop l.toNat)))
  | .slice e, .d (.sl rows), none => chk (known (nth T e)) (abound lo 0 fun l => abound hi rows.length fun h => (0 ≤ l ∧ l ≤ h ∧ h ≤ rows.length) ∧
      (l = 0 ∨ l = h ∨ ∃ row, rows[0]? = some row ∧ row.length = (nth T e).size) ∧ K (.d (.sl ((rows.take h.toNat).drop l.toNat))))
  | .slice e, .d (.sl rows), some m => chk (known (nth T e)) (chk hi.isSome (abound lo 0 fun l => abound hi 0 fun h => abound (some m) 0 fun m => (l = 0 ∧ 0 ≤ h ∧ h ≤ rows.length ∧ m = h) ∧ K (.dt (rows.take h.toNat))))
  | .slice e, .own i olo len, none => chk (known (nth T e)) (abound lo 0 fun l => abound hi len fun h => (0 ≤ l ∧ l ≤ h ∧ h ≤ len) ∧
      ((l = 0 ∧ K (.own i olo h.toNat)) ∨ (l = h ∧ K (.d (.sl []))) ∨ (l < h ∧ chk (isRows (nth T e).size (σ.get i)) (K (.own i (l.toNat + olo) (h - l).toNat)))))
  | .slice e, .own i olo len, some m => chk (known (nth T e)) (chk hi.isSome (abound lo 0 fun l => abound hi 0 fun h => abound (some m) 0 fun m => (l = 0 ∧ 0 ≤ h ∧ h ≤ len ∧ m = h) ∧ K (.tight i olo h.toNat)))
  | .slice e, .nil, none => chk (known (nth T e)) (abound lo 0 fun l => abound hi 0 fun h => (l = 0 ∧ h = 0) ∧ K .nil)
  | .slice e, .nil, some m => chk (known (nth T e)) (chk hi.isSome (abound lo 0 fun l => abound hi 0 fun h => abound (some m) 0 fun m => (l = 0 ∧ h = 0 ∧ m = 0) ∧ K .nil))
  | _, _, _ => False

/-- The whole of an array, as a slice: from then on it is written no more. -/
def asliceArr (T : List TI) (σ : Store) (n e : Nat) (x : AV) (lo hi mx : Option AV) (K : AV → Store → Prop) : Prop :=
  match x, lo, hi, mx with
  | .ref i 0 0, none, none, none => (nth T e).size = 1 ∧ known (nth T e) = true ∧ ∃ row ds e', σ.get i = .rows (n, e') [row] ∧ row.length = n ∧ 0 < n ∧ toDs row = some ds ∧ setK σ i .dead fun σ' => K (.d (.sl (ds.map fun x => [x]))) σ'
  | _, _, _, _ => False

def afieldAddr (T : List TI) (s : TypeId) (x : AV) (f : Nat) (K : AV → Prop) : Prop :=
  match (nth T s).d with
  | .struct fs => match fs[f]? with
    | some (off, size, _, _) => match size, x with
      | _ + 1, .ref i r c => K (.ref i r (c + off))
      | _ + 1, .ip row c => K (.ip row (c + off))
      | _, _ => False
    | none => False
  | _ => False

def apart (agg : Bool) (size off : Nat) (vs : List AV) (K : AV → Prop) : Prop :=
  match agg with
  | true => off + size ≤ vs.length ∧ K (.agg ((vs.drop off).take size))
  | false => match vs[off]? with | some v => force v K | none => False

def afield (T : List TI) (t : TypeId) (x : AV) (f : Nat) (K : AV → Prop) : Prop :=
  match (nth T t).d, x with
  | .struct fs, .agg vs => match fs[f]? with
    | some (off, size, agg, _) => apart agg size off vs K
    | none => False
  | _, _ => False

def aindexAddr (T : List TI) (σ : Store) (t : TypeId) (x ix : AV) (K : AV → Prop) : Prop :=
  match (nth T t).d, x, ix with
  | .slice e, .d (.sl rows), .d (.int _ n) => (0 ≤ n ∧ n < rows.length) ∧ (∃ row, rows[n.toNat]? = some row ∧ row.length = (nth T e).size ∧ K (.ip row 0))
  | .slice e, .own i lo len, .d (.int _ n) => (0 ≤ n ∧ n < len) ∧ chk (isRows (nth T e).size (σ.get i)) (K (.ref i (n.toNat + lo) 0))
  | .slice e, .tight i lo len, .d (.int _ n) => (0 ≤ n ∧ n < len) ∧ chk (isRows (nth T e).size (σ.get i)) (K (.ref i (n.toNat + lo) 0))
  | .arr len e, .ref i r c, .d (.int _ n) => (0 ≤ n ∧ n < len) ∧ K (.ref i r (c + n.toNat * (nth T e).size))
  | .arr len e, .ip row c, .d (.int _ n) => (0 ≤ n ∧ n < len) ∧ K (.ip row (c + n.toNat * (nth T e).size))
  | _, _, _ => False

def aindex (T : List TI) (t : TypeId) (x ix : AV) (K : AV → Prop) : Prop :=
  match (nth T t).d, x, ix with
  | .str, .d (.str s), .d (.int _ n) => (0 ≤ n ∧ n < s.length) ∧ K (.d (.int .u8 (s.getD n.toNat 0).toNat))
  | .arr len e, .agg vs, .d (.int _ n) => (0 ≤ n ∧ n < len) ∧ vs.length = len * (nth T e).size ∧ match isAggTD (nth T e).d with
      | true => K (.agg ((vs.drop (n.toNat * (nth T e).size)).take (nth T e).size))
      | false => ∃ v, vs[n.toNat * (nth T e).size]? = some v ∧ K v
  | _, _, _ => False

/-- What a map of texts has at a key. -/
def mlook (k : List UInt8) : List (AV × AV) → Option AV
  | [] => none
  | (.d (.str s), v) :: r => if k = s then some v else mlook k r
  | _ :: r => mlook k r
def strKeys (es : List (AV × AV)) : Prop := ∀ e ∈ es, ∃ s, e.1 = .d (.str s)
def mput (k : List UInt8) (v : AV) : List (AV × AV) → List (AV × AV)
  | [] => [(.d (.str k), v)]
  | (.d (.str s), u) :: r => if k = s then (.d (.str k), v) :: r else (.d (.str s), u) :: mput k v r
  | x :: r => x :: mput k v r

def alookup (T : List TI) (σ : Store) (t : TypeId) (m k : AV) (ok : Bool) (K : AV → Prop) : Prop :=
  match (nth T t).d, m, k with
  | .map kt e, .mp i, .d (.str s) => (nth T kt).d = .str ∧ ∃ es z, σ.get i = .map es ∧ strKeys es ∧ (nth T e).zero = some [z] ∧ isAggTD (nth T e).d = false ∧
      match ok with
      | false => K ((mlook s es).getD z)
      | true => K (.tup [(mlook s es).getD z, .d (.bool (mlook s es).isSome)])
  | _, _, _ => False

def amapUpdate (T : List TI) (σ : Store) (t : TypeId) (m k v : AV) (K : Store → Prop) : Prop :=
  match (nth T t).d, m, k with
  | .map kt e, .mp i, .d (.str s) => (nth T kt).d = .str ∧ ∃ es, σ.get i = .map es ∧ strKeys es ∧ setK σ i (.map (mput s v es)) K
  | _, _, _ => False

def anext (σ : Store) (it : AV) (K : AV → Store → Prop) : Prop :=
  match it with
  | .ref i 0 0 => match σ.get i with
    | .iter s pos =>
      (pos < s.length → setK σ i (.iter s (pos + (Utf8.decode ⟨s.toArray⟩ pos).2)) fun σ' => K (.tup [.d (.bool true), .d (.int .i64 pos), .d (.int .i32 (Utf8.decode ⟨s.toArray⟩ pos).1)]) σ') ∧
      (s.length ≤ pos → K (.tup [.d (.bool false)]) σ)
    | _ => False
  | _ => False

def arange (T : List TI) (σ : Store) (t : TypeId) (x : AV) (K : AV → Store → Prop) : Prop :=
  match (nth T t).d, x with
  | .str, .d (.str s) => addK σ (.iter s 0) fun n σ' => K (.ref n 0 0) σ'
  | _, _ => False

/-- The same, the cells being told outright at each step. -/
def afillK (place : Nat → Option (Nat × Nat)) (ρ : Operand → AV) : List (Nat × Operand) → List AV → (List AV → Prop) → Prop
  | [], cells, K => K cells
  | (i, x) :: rest, cells, K => match place i, (ρ x).cells? with
    | some (off, size), some l => match Nat.beq l.length size, Nat.ble (off + size) cells.length with
      | true, true => forceL (cells.take off ++ l ++ cells.drop (off + size)) fun c => afillK place ρ rest c K
      | _, _ => False
    | _, _ => False
theorem afillK_eq {place : Nat → Option (Nat × Nat)} {ρ : Operand → AV} : ∀ {parts : List (Nat × Operand)} {cells : List AV} {K : List AV → Prop}, afillK place ρ parts cells K = match afill place cells ρ parts with | some l => K l | none => False
  | [], _, _ => rfl
  | (i, x) :: rest, cells, K => by
    unfold afillK afill
    cases place i with
    | none => rfl
    | some p =>
      obtain ⟨off, size⟩ := p
      cases (ρ x).cells? with
      | none => rfl
      | some l =>
        dsimp only
        cases Nat.beq l.length size <;> cases Nat.ble (off + size) cells.length <;> simp only [forceL_eq]
        exact afillK_eq
def abuild (T : List TI) (t : TypeId) (ρ : Operand → AV) (parts : List (Nat × Operand)) (K : AV → Prop) : Prop :=
  match (nth T t).d, (nth T t).zero with
  | .struct fs, some z => afillK (fun i => (fs[i]?).map fun f => (f.1, f.2.1)) ρ parts z fun l => K (.agg l)
  | .arr _ e, some z => afillK (fun i => some (i * (nth T e).size, (nth T e).size)) ρ parts z fun l => K (.agg l)
  | _, _ => False

def abuildSlice (T : List TI) (σ : Store) (t : TypeId) (len : Nat) (ρ : Operand → AV) (parts : List (Nat × Operand)) (K : AV → Store → Prop) : Prop :=
  match (nth T t).d with
  | .slice e => match (nth T e).zero with
    | some z => match Nat.ble (len * (nth T e).size) 100000, Nat.ble 1 (nth T e).size, Nat.beq z.length (nth T e).size with
      | true, true, true => afillK (fun i => some (i * (nth T e).size, (nth T e).size)) ρ parts (repl z len) fun l => addK σ (.rows ((nth T e).size, e) (rowsOf (nth T e).size len l)) fun n σ' => K (.own n 0 len) σ'
      | _, _, _ => False
    | none => False
  | _ => False

/-- What is read of a source of append: its rows. -/
def srcRows (σ : Store) : AV → Option (List (List AV))
  | .nil => some []
  | .d (.sl rows) => some (rows.map fun r => r.map .d)
  | .dt rows => some (rows.map fun r => r.map .d)
  | .d (.str s) => some (bytesA s)
  | .own i lo len => match σ.get i with | .rows _ rs => some ((rs.drop lo).take len) | _ => none
  | .tight i lo len => match σ.get i with | .rows _ rs => some ((rs.drop lo).take len) | _ => none
  | _ => none

/-- How many a source holds, where its value says so. -/
def srcLen : AV → Nat → Prop
  | .own _ _ len, n => n = len
  | .tight _ _ len, n => n = len
  | _, _ => True
def srcTD : TD → Bool
  | .slice _ => true
  | .str => true
  | _ => false

/-- Nothing to add, or something. -/
def onNil {α : Type} (l : List α) (A B : Prop) : Prop := match l with
  | [] => A
  | _ :: _ => B
theorem onNil_of {α : Type} {l : List α} {A B : Prop} (h : l = [] → A) (k : l ≠ [] → B) : onNil l A B := by
  cases l with
  | nil => exact h rfl
  | cons a r => exact k (by simp)
theorem onNil_nil {α : Type} {l : List α} {A B : Prop} (h : onNil l A B) (hl : l = []) : A := by subst hl; exact h
theorem onNil_cons {α : Type} {l : List α} {A B : Prop} (h : onNil l A B) (hl : l ≠ []) : B := by
  cases l with
  | nil => exact absurd rfl hl
  | cons a r => exact h
def aappend (T : List TI) (σ : Store) (argTypes : List TypeId) (x y : AV) (K : AV → Store → Prop) : Prop :=
  match argTypes with
  | [t, u] => match (nth T t).d with
    | .slice e => ∃ old new, srcRows σ x = some old ∧ srcRows σ y = some new ∧ srcLen x old.length ∧ srcLen y new.length ∧
        (old.length + new.length) * (nth T e).bytes ≤ 140737488355328 ∧ 1 ≤ (nth T e).size ∧ 1 ≤ (nth T e).bytes ∧ (nth T e).zero.isSome = true ∧ srcTD (nth T u).d = true ∧
        (∀ row ∈ old, row.length = (nth T e).size ∧ ∀ a ∈ row, a.one = true) ∧ (∀ row ∈ new, row.length = (nth T e).size ∧ ∀ a ∈ row, a.one = true) ∧
        match x with
        | .own i 0 len => chk (isRowsE (nth T e).size e (σ.get i)) (setK σ i .dead fun σ' => addK σ' (.rows ((nth T e).size, e) (old ++ new)) fun n σ'' => K (.own n 0 (old.length + new.length)) σ'')
        | .nil => (new = [] ∧ K .nil σ) ∨ addK σ (.rows ((nth T e).size, e) (old ++ new)) fun n σ'' => K (.own n 0 (old.length + new.length)) σ''
        | .tight i lo len => onNil new (K (.tight i lo len) σ) (addK σ (.rows ((nth T e).size, e) (old ++ new)) fun n σ'' => K (.own n 0 (old.length + new.length)) σ'')
        | .dt rows => onNil new (K (.dt rows) σ) (addK σ (.rows ((nth T e).size, e) (old ++ new)) fun n σ'' => K (.own n 0 (old.length + new.length)) σ'')
        | _ => False
    | _ => False
  | _ => False

def alen (T : List TI) (σ : Store) (t : TypeId) (x : AV) (K : AV → Prop) : Prop :=
  match (nth T t).d, x with
  | .str, .d (.str s) => K (.d (.int .i64 s.length))
  | .slice _, .d (.sl rows) => K (.d (.int .i64 rows.length))
  | .slice _, .dt rows => K (.d (.int .i64 rows.length))
  | .slice _, .nil => K (.d (.int .i64 0))
  | .slice _, .own _ _ len => K (.d (.int .i64 len))
  | .slice _, .tight _ _ len => K (.d (.int .i64 len))
  | .map _ _, .mp i => match σ.get i with | .map es => K (.d (.int .i64 es.length)) | _ => False
  | .arr n _, _ => K (.d (.int .i64 n))
  | _, _ => False

def amin2 : AV → AV → Option AV
  | .d (.int k x), .d (.int _ y) => some (.d (.int k (if y < x then y else x)))
  | _, _ => none
def amax2 : AV → AV → Option AV
  | .d (.int k x), .d (.int _ y) => some (.d (.int k (if y > x then y else x)))
  | _, _ => none
def afold (f : AV → AV → Option AV) : AV → List AV → Option AV
  | x, [] => some x
  | x, y :: r => match f x y with | some z => afold f z r | none => none

def abuiltin (T : List TI) (σ : Store) (b : Builtin) (argTypes : List TypeId) (args : List AV) (K : AV → Store → Prop) : Prop :=
  match b, args with
  | .len, [x] => match argTypes with | t :: _ => alen T σ t x (fun v => K v σ) | [] => False
  | .append, [x, y] => aappend T σ argTypes x y K
  | .min, x :: r => match afold amin2 x r with | some v => K v σ | none => False
  | .max, x :: r => match afold amax2 x r with | some v => K v σ | none => False
  | _, _ => False

/-- A slice that is known to be full, as plain data. -/
def dtd : AV → AV
  | .dt rows => .d (.sl rows)
  | v => v
/-- An operation that is no call of a function. -/
def aop (T : List TI) (ρ : Operand → AV) (σ : Store) (op : Op) (K : AV → Store → Prop) : Prop :=
  match op with
  | .move x => force (ρ x) fun v => K v σ
  | .assign x => force (ρ x) fun v => K v σ
  | .pick c a b => match ρ c with | .tt => force (ρ a) fun v => K v σ | .ff => force (ρ b) fun v => K v σ | .d (.bool t) => cbr t (force (ρ a) fun v => K v σ) (force (ρ b) fun v => K v σ) | _ => False
  | .alloc e => match (nth T e).bld with
    | some U => addK σ (.bld e U []) fun n σ' => K (.ref n 0 0) σ'
    | none => match (nth T e).zero with | some z => addK σ (.rows (z.length, e) [z]) fun n σ' => K (.ref n 0 0) σ' | none => False
  | .box t x => match (ρ x).cells? with | some l => addK σ (.rows (l.length, t) [l]) fun n σ' => K (.ref n 0 0) σ' | none => False
  | .build t parts => abuild T t ρ parts.toList (fun v => K v σ)
  | .buildSlice t len parts => abuildSlice T σ t len ρ parts.toList K
  | .load t a => aload T σ t (ρ a) (fun v => K v σ)
  | .store t a x => astore T σ t (ρ a) (ρ x) (fun σ' => K .top σ')
  | .nilCheck x => match ρ x with | .ref i r c => K (.ref i r c) σ | .ip row c => K (.ip row c) σ | .fn (.func f) a b => K (.fn (.func f) a b) σ | .ifc t v => K (.ifc t v) σ | _ => False
  | .binOp op t x y _ => abin T op t (ρ x) (ρ y) (fun v => K v σ)
  | .unOp op _ x => aun op (ρ x) (fun v => K v σ)
  | .convert src dst x => aconv T σ src dst (ρ x) K
  | .makeInterface t x => match (nth T t).d with | .iface => False | .other => False | _ => force (ρ x) fun v => K (.ifc t v) σ
  | .makeFunc fn first captured => forceL (first.toList.map ρ) fun a => forceL (captured.toList.map ρ) fun b => K (.fn fn a b) σ
  | .makeMap _ none => addK σ (.map []) fun n σ' => K (.mp n) σ'
  | .slice t x lo hi mx => match (nth T t).d with
    | .arr n e => asliceArr T σ n e (ρ x) (lo.map ρ) (hi.map ρ) (mx.map ρ) K
    | _ => aslice T σ t (dtd (ρ x)) (lo.map ρ) (hi.map ρ) (mx.map ρ) (fun v => K v σ)
  | .fieldAddr s x f => afieldAddr T s (ρ x) f (fun v => K v σ)
  | .field t x f => afield T t (ρ x) f (fun v => K v σ)
  | .indexAddr t x i => aindexAddr T σ t (dtd (ρ x)) (ρ i) (fun v => K v σ)
  | .index t x i => aindex T t (ρ x) (ρ i) (fun v => K v σ)
  | .lookup t m k ok => alookup T σ t (ρ m) (ρ k) ok (fun v => K v σ)
  | .mapUpdate t m k v => amapUpdate T σ t (ρ m) (ρ k) (nrm (ρ v)) (fun σ' => K .top σ')
  | .insert t m k v => amapUpdate T σ t (ρ m) (ρ k) (nrm (ρ v)) (fun σ' => K .top σ')
  | .range t x => arange T σ t (ρ x) K
  | .next it true => anext σ (ρ it) K
  | .extract t ix => match ρ t with | .tup vs => (match vs[ix]? with | some v => force v fun v => K v σ | none => False) | _ => False
  | _ => False

end Go.Aw
