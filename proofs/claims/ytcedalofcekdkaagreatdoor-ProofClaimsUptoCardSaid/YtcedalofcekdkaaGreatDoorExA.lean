/- An executor for the translated program, run by the kernel on plain data: its definitions. -/
import GoSem.Claims
set_option linter.unusedSimpArgs false
set_option linter.unusedVariables false
namespace Go.Proofs.YtcedalofcekdkaaGreatDoor.Ex
noncomputable section

inductive AV where
  | bool (b : Bool)
  | int (k : IntKind) (n : Int)
  | str (l : List Nat)
  | nilp
  | ptr (g m off : Nat)
  | nils
  | sl (g m off len cap : Nat)
  | su (g m off len esz : Nat)
  | sr (g m off len esz : Nat)
  | nilm
  | map (g : Nat)
  | nilf
  | func (fn : Fn) (first captured : List AV)
  | nili
  | iface (t : Nat) (v : AV)
  | agg (l : List AV)
  | tup (l : List AV)
  | tok (i : Nat)
  deriving Inhabited

inductive Tr (α : Type) where
  | lf
  | nd (v : Option α) (l r : Tr α)
  deriving Inhabited

inductive Pos where
  | h
  | o (p : Pos)
  | i (p : Pos)
  deriving Inhabited, DecidableEq

def pathG : Nat → Nat → Pos
  | 0, _ => .h
  | d + 1, n => match n with
    | 0 => .h
    | n + 1 => match Nat.beq (n % 2) 0 with
      | true => .o (pathG d (n / 2))
      | false => .i (pathG d (n / 2))

def pathOf (n : Nat) : Pos :=
  match Nat.blt n 4194303 with
  | true => pathG 22 n
  | false => pathG n n

namespace Tr
variable {α : Type}

def at_ (p : Pos) : Tr α → Option α := @Pos.rec (fun _ => Tr α → Option α)
   (fun t => @Tr.rec α (fun _ => Option α) none (fun v _ _ _ _ => v) t)
   (fun _ ih t => @Tr.rec α (fun _ => (Tr α → Option α) → Option α) (fun _ => none) (fun _ l _ _ _ ih => ih l) t ih)
   (fun _ ih t => @Tr.rec α (fun _ => (Tr α → Option α) → Option α) (fun _ => none) (fun _ _ r _ _ ih => ih r) t ih) p

def put (x : Option α) (p : Pos) : Tr α → Tr α := @Pos.rec (fun _ => Option α → Tr α → Tr α)
   (fun x t => @Tr.rec α (fun _ => Option α → Tr α) (fun x => .nd x .lf .lf) (fun _ l r _ _ x => .nd x l r) t x)
   (fun _ ih x t => @Tr.rec α (fun _ => (Option α → Tr α → Tr α) → Option α → Tr α) (fun ih x => .nd none (ih x .lf) .lf) (fun v l r _ _ ih x => .nd v (ih x l) r) t ih x)
   (fun _ ih x t => @Tr.rec α (fun _ => (Option α → Tr α → Tr α) → Option α → Tr α) (fun ih x => .nd none .lf (ih x .lf)) (fun v l r _ _ ih x => .nd v l (ih x r)) t ih x) p x
theorem at_lf (p : Pos) : at_ p (.lf : Tr α) = none := by cases p <;> rfl
theorem at_h (v : Option α) (l r : Tr α) : at_ .h (.nd v l r) = v := rfl
theorem at_o (p : Pos) (v : Option α) (l r : Tr α) : at_ (.o p) (.nd v l r) = at_ p l := rfl
theorem at_i (p : Pos) (v : Option α) (l r : Tr α) : at_ (.i p) (.nd v l r) = at_ p r := rfl
theorem put_h_lf (x : Option α) : put x .h .lf = .nd x .lf .lf := rfl
theorem put_h (x v : Option α) (l r : Tr α) : put x .h (.nd v l r) = .nd x l r := rfl
theorem put_o_lf (x : Option α) (p : Pos) : put x (.o p) .lf = .nd none (put x p .lf) .lf := rfl
theorem put_o (x v : Option α) (p : Pos) (l r : Tr α) : put x (.o p) (.nd v l r) = .nd v (put x p l) r := rfl
theorem put_i_lf (x : Option α) (p : Pos) : put x (.i p) .lf = .nd none .lf (put x p .lf) := rfl
theorem put_i (x v : Option α) (p : Pos) (l r : Tr α) : put x (.i p) (.nd v l r) = .nd v l (put x p r) := rfl
end Tr

namespace Tr
variable {α : Type}
def get (t : Tr α) (n : Nat) : Option α := at_ (pathOf n) t
end Tr

structure Mem where
  m : Nat
  fx : Bool
  rel : Nat
  cs : List AV
  deriving Inhabited

inductive LS where
  | ready | busy | done | exhausted
  deriving Inhabited

inductive GO where
  | cells (ty hw : Nat) (ms : List Mem)
  | map (es : List (AV × AV × Nat)) (clk : Nat)
  | iterM (mp : Option Nat) (since : Nat) (seen : List Nat) (last : Nat)
  | loop (s : LS) (pend : Option Code) (fn ntm : Nat) (tm : Tr AV) (ps : List Nat) (asg body : Code) (defers : Nat)
  | defd
  deriving Inhabited

structure St where
  ntm : Nat
  tm : Tr AV
  hp : Tr GO
  nx : Nat
  lg : List Nat
  df : List Nat
  deriving Inhabited

inductive AE where
  | normal
  | exit (id : Nat)
  | ret
  deriving Inhabited

inductive Out (α : Type) where
  | no (why : String)
  | one (a : α) (s : St)
  | two (x y : Out α)
  deriving Inhabited

def Out.bind {α β : Type} : Out α → (α → St → Out β) → Out β
  | .no w, _ => .no w
  | .one a s, f => f a s
  | .two x y, f => .two (x.bind f) (y.bind f)

inductive UK where
  | bool | int (k : IntKind) | str | ptr (e : Nat) | unsafep
  | slice (e : Nat)
  | array (n e : Nat)
  | map (k e : Nat)
  | struct (fs : List (Nat × Nat × Nat))
  | iface | func | other
  deriving Inhabited

structure TI where
  u : UK
  size : Nat
  isAgg : Bool
  zero : List AV
  bytes : Nat
  deriving Inhabited

structure AF where
  ntm : Nat
  res : List ResultVar
  body : Code
  deriving Inhabited

inductive CK where
  | b | i (k : IntKind) | s
  deriving Inhabited

def NG : Nat := 64

structure Env where
  glob : Nat → Option (List AV)
  fn : Nat → Option AF
  ti : Nat → Option TI
  eqT : Nat → Option (List CK)
  summ : Nat → List AV → Option AV
  noZero : Nat → Option Nat
  same : Nat → Bool
  byteAt : Nat → Bool
  seesAs : Nat → Nat → Bool
  P : Program

def const1 : Value → Option AV
  | .bool b => some (.bool b)
  | .int k n => some (.int k n)
  | .string s => some (.str (s.data.toList.map UInt8.toNat))
  | .pointer none => some .nilp
  | .slice none 0 0 => some .nils
  | .map none => some .nilm
  | .nilFunc => some .nilf
  | .nilIface => some .nili
  | _ => none

def constL : List Value → Option (List AV)
  | [] => some []
  | v :: l => match const1 v with
    | none => none
    | some x => match constL l with
      | none => none
      | some r => some (x :: r)

def constAV : Value → Option AV
  | .func (.func f) ⟨[]⟩ ⟨[]⟩ => some (.func (.func f) [] [])
  | .iface t v => match const1 v with
    | some x => some (.iface t x)
    | none => none
  | .agg ⟨l⟩ => match constL l with
    | some r => some (.agg r)
    | none => none
  | v => const1 v

def evT (t : Nat) : St → Option AV
  | ⟨_, tm, _, _, _, _⟩ => Tr.get tm t

def ev : Operand → St → Option AV
  | .tmp t => evT t
  | .const v => fun _ => constAV v
  | .global g => fun _ => match Nat.blt g NG with
    | true => some (.ptr g 0 0)
    | false => none
  | .func f => fun _ => some (.func (.func f) [] [])

def St.ev (st : St) (x : Operand) : Option AV := Go.Proofs.YtcedalofcekdkaaGreatDoor.Ex.ev x st

def evs (st : St) : List Operand → Option (List AV)
  | [] => some []
  | x :: xs => match st.ev x with
    | none => none
    | some v => match evs st xs with
      | none => none
      | some vs => some (v :: vs)

def finT (t : Nat) (v : AV) : St → Out Unit
  | ⟨ntm, tm, hp, nx, lg, df⟩ => match Nat.blt t ntm with
    | true => match Tr.put (some v) (pathOf t) tm with
      | .lf => .no "dst"
      | .nd a b c => .one () ⟨ntm, .nd a b c, hp, nx, lg, df⟩
    | false => .no "dst"

def fin (st : St) (d : Option Nat) (v : AV) : Out Unit :=
  match d with
  | none => .one () st
  | some t => finT t v st

def St.getG : St → Nat → Option GO
  | ⟨_, _, hp, _, _, _⟩, g => Tr.get hp g

def St.setG : St → Nat → GO → Option St
  | ⟨ntm, tm, hp, nx, lg, df⟩, g, o => match Tr.put (some o) (pathOf g) hp with
    | .lf => none
    | .nd a b c => some ⟨ntm, tm, .nd a b c, nx, g :: lg, df⟩

def St.delG : St → Nat → Option St
  | ⟨ntm, tm, hp, nx, lg, df⟩, g => match Tr.put none (pathOf g) hp with
    | .lf => none
    | .nd a b c => some ⟨ntm, tm, .nd a b c, nx, g :: lg, df⟩

def St.newG : St → GO → Option (Nat × St)
  | ⟨ntm, tm, hp, nx, lg, df⟩, o => match nx + 1 with
    | 0 => none
    | g + 1 => match Tr.put (some o) (pathOf g) hp with
      | .lf => none
      | .nd a b c => some (g, ⟨ntm, tm, .nd a b c, g + 1, lg, df⟩)

def St.addM : St → Nat → Nat → Nat → Mem → List Mem → Option (Nat × St)
  | ⟨ntm, tm, hp, nx, lg, df⟩, g, ty, hw, x, ms => match nx + 1 with
    | 0 => none
    | m + 1 => match Tr.put (some (.cells ty hw ({ x with m := m } :: ms))) (pathOf g) hp with
      | .lf => none
      | .nd a b c => some (m, ⟨ntm, tm, .nd a b c, m + 1, g :: lg, df⟩)

def findM (m : Nat) : List Mem → Option Mem
  | [] => none
  | x :: xs => match Nat.beq x.m m with
    | true => some x
    | false => findM m xs

def dropL {α : Type} : Nat → List α → List α
  | 0, l => l
  | _ + 1, [] => []
  | n + 1, _ :: l => dropL n l

def takeL {α : Type} : Nat → List α → Option (List α)
  | 0, _ => some []
  | _ + 1, [] => none
  | n + 1, x :: l => match takeL n l with
    | none => none
    | some r => some (x :: r)

def overL {α : Type} (vs : List α) : Nat → List α → Option (List α)
  | 0, l => match vs with
    | [] => some l
    | _ => zipOver vs l
  | _ + 1, [] => match vs with
    | [] => some []
    | _ => none
  | n + 1, x :: l => match overL vs n l with
    | none => none
    | some r => some (x :: r)
where
  zipOver : List α → List α → Option (List α)
    | [], l => some l
    | _ :: _, [] => none
    | v :: vs, _ :: l => match zipOver vs l with
      | none => none
      | some r => some (v :: r)

def St.cellsAt (E : Env) (st : St) (g m : Nat) : Option (List AV) :=
  match Nat.blt g NG with
  | true => match m with
    | 0 => E.glob g
    | _ => none
  | false => match st.getG g with
    | some (.cells _ _ ms) => match findM m ms with
      | some x => some x.cs
      | none => none
    | _ => none

def St.rd (E : Env) (st : St) (g m off n : Nat) : Option (List AV) :=
  match st.cellsAt E g m with
  | some cs => takeL n (dropL off cs)
  | none => none

def AV.plain : AV → Bool
  | .agg _ => false
  | .tup _ => false
  | _ => true

def allPlain : List AV → Bool
  | [] => true
  | v :: l => match v.plain with
    | true => allPlain l
    | false => false

def St.wr (E : Env) (st : St) (g m off : Nat) (vs : List AV) : Option St :=
  match Nat.blt g NG with
  | true => none
  | false => match st.getG g with
    | some (.cells ty hw ms) => match findM m ms with
      | some x => match allPlain vs, overL vs off x.cs with
        | true, some cs => st.setG g (.cells ty hw [{ x with cs := cs }])
        | _, _ => none
      | none => none
    | _ => none

def AV.cells : AV → List AV
  | .agg l => l
  | v => [v]

def mk (isAgg : Bool) (l : List AV) : Option AV :=
  match isAgg with
  | true => some (.agg l)
  | false => match l with
    | [v] => some v
    | _ => none

def lenL {α : Type} (l : List α) : Nat := l.foldr (fun _ n => n + 1) 0

def St.newCells (st : St) (ty : Nat) (cs : List AV) : Option (Nat × St) :=
  st.newG (.cells ty (lenL cs) [{ m := 0, fx := true, rel := 0, cs := cs }])

def beqL (eq : AV → AV → Option Bool) : List AV → List AV → Option Bool
  | [], [] => some true
  | x :: xs, y :: ys => match eq x y with
    | some true => beqL eq xs ys
    | some false => some false
    | none => none
  | _, _ => none

def natsEq : List Nat → List Nat → Bool
  | [], [] => true
  | x :: xs, y :: ys => match Nat.beq (x % 256) (y % 256) with
    | true => natsEq xs ys
    | false => false
  | _, _ => false

def natsLt : List Nat → List Nat → Bool
  | _, [] => false
  | [], _ :: _ => true
  | a :: x, b :: y => match Nat.blt (a % 256) (b % 256) with
    | true => true
    | false => match Nat.beq (a % 256) (b % 256) with
      | true => natsLt x y
      | false => false

def kindEq (a b : IntKind) : Bool := decide (a = b)

def intEq : Int → Int → Bool
  | .ofNat a, .ofNat b => Nat.beq a b
  | .negSucc a, .negSucc b => Nat.beq a b
  | _, _ => false

def scalEq : AV → AV → Option Bool
  | .bool a, .bool b => some (a == b)
  | .int j a, .int k b => match kindEq j k with | true => some (intEq a b) | false => none
  | .str a, .str b => some (natsEq a b)
  | _, _ => none

def CK.has : CK → AV → Bool
  | .b, .bool _ => true
  | .i k, .int j _ => kindEq k j
  | .s, .str _ => true
  | _, _ => false

def cellsEq : List CK → List AV → List AV → Option Bool
  | [], [], [] => some true
  | c :: cs, x :: xs, y :: ys => match c.has x && c.has y with
    | true => match scalEq x y with
      | some true => cellsEq cs xs ys
      | some false => match haveAll cs xs && haveAll cs ys with
        | true => some false
        | false => none
      | none => none
    | false => none
  | _, _, _ => none
where
  haveAll : List CK → List AV → Bool
    | [], [] => true
    | c :: cs, x :: xs => match c.has x with
      | true => haveAll cs xs
      | false => false
    | _, _ => false

def ptrEq (z : Nat) : AV → AV → Option Bool
  | .nilp, .nilp => some true
  | .nilp, .ptr .. => some false
  | .ptr .., .nilp => some false
  | .ptr g m o, .ptr g' m' o' => match Nat.beq g g', Nat.beq m m', Nat.beq z 0 with
    | true, true, false => some (Nat.beq o o')
    | _, _, _ => none
  | _, _ => none

def nilEq : AV → AV → Option Bool
  | .nils, .nils => some true
  | .nils, .sl .. => some false
  | .nils, .su .. => some false
  | .nils, .sr .. => some false
  | .sl .., .nils => some false
  | .su .., .nils => some false
  | .sr .., .nils => some false
  | _, _ => none

def nilMapEq : AV → AV → Option Bool
  | .nilm, .nilm => some true
  | .nilm, .map _ => some false
  | .map _, .nilm => some false
  | _, _ => none

def nilFuncEq : AV → AV → Option Bool
  | .nilf, .nilf => some true
  | .nilf, .func .. => some false
  | .func .., .nilf => some false
  | _, _ => none

def ifaceEq (E : Env) : AV → AV → Option Bool
  | .nili, .iface .. => some false
  | .iface .., .nili => some false
  | .iface a x, .iface b y => match Nat.beq a b with
    | false => some false
    | true => match E.eqT a with
      | some [c] => match c.has x && c.has y with
        | true => scalEq x y
        | false => none
      | _ => none
  | _, _ => none

def aggEq (E : Env) (t : Nat) : AV → AV → Option Bool
  | .agg a, .agg b => match E.eqT t with
    | some ks => cellsEq ks a b
    | none => none
  | _, _ => none

def boolEq : AV → AV → Option Bool
  | .bool a, .bool b => some (a == b)
  | _, _ => none

def intsEq : AV → AV → Option Bool
  | .int j a, .int k b => match kindEq j k with | true => some (intEq a b) | false => none
  | _, _ => none

def strsEq : AV → AV → Option Bool
  | .str a, .str b => some (natsEq a b)
  | _, _ => none

def valEq (E : Env) (t : Nat) (x y : AV) : Option Bool :=
  match E.ti t with
  | some { u := .bool, .. } => boolEq x y
  | some { u := .int _, .. } => intsEq x y
  | some { u := .str, .. } => strsEq x y
  | some { u := .ptr e, .. } => match E.ti e with
    | some ei => ptrEq ei.size x y
    | none => none
  | some { u := .slice _, .. } => nilEq x y
  | some { u := .map _ _, .. } => nilMapEq x y
  | some { u := .func, .. } => nilFuncEq x y
  | some { u := .iface, .. } => ifaceEq E x y
  | some { u := .struct _, .. } => aggEq E t x y
  | some { u := .array _ _, .. } => aggEq E t x y
  | _ => none

def natsApp (a b : List Nat) : List Nat := a.foldr (fun x r => x :: r) b

def pureVal : Sem Value → Option AV
  | .pure (.int k n) => some (.int k n)
  | .pure (.bool b) => some (.bool b)
  | _ => none

def binX (E : Env) (op : BinOp) (t : Nat) : AV → AV → Option AV
  | .int k a, .int j b => pureVal (binOp op t (.int k a) (.int j b))
  | .str a, .str b => match op with
    | .add => match Nat.blt (lenL a + lenL b) 4611686018427387904 with
      | true => some (.str (natsApp a b))
      | false => none
    | .eql => some (.bool (natsEq a b))
    | .neq => some (.bool (!natsEq a b))
    | .lss => some (.bool (natsLt a b))
    | .leq => some (.bool (natsLt a b || natsEq a b))
    | .gtr => some (.bool !(natsLt a b || natsEq a b))
    | .geq => some (.bool !natsLt a b)
    | _ => none
  | x, y => match op with
    | .eql => (valEq E t x y).map .bool
    | .neq => (valEq E t x y).map fun b => .bool !b
    | _ => none

def unX (op : UnOp) : AV → Option AV
  | .bool b => match op with | .not => some (.bool !b) | _ => none
  | .int k n => pureVal (Op.unary op (.int k n))
  | _ => none

def intOf : AV → Option Nat
  | .int _ (.ofNat n) => some n
  | _ => none

def fillX (place : Nat → Option (Nat × Nat)) : List AV → List (Nat × AV) → Option (List AV)
  | cs, [] => some cs
  | cs, (i, v) :: rest => match place i with
    | none => none
    | some (off, size) => match size with
      | 0 => none
      | _ => match Nat.beq (lenL v.cells) size with
        | true => match overL v.cells off cs with
          | some cs' => fillX place cs' rest
          | none => none
        | false => none

def nth {α : Type} : List α → Nat → Option α
  | [], _ => none
  | x :: _, 0 => some x
  | _ :: l, n + 1 => nth l n

def repL (z : List AV) : Nat → List AV
  | 0 => []
  | n + 1 => z.foldr (fun x r => x :: r) (repL z n)

def evParts (st : St) : List (Nat × Operand) → Option (List (Nat × AV))
  | [] => some []
  | (i, x) :: xs => match st.ev x with
    | none => none
    | some v => match evParts st xs with
      | none => none
      | some vs => some ((i, v) :: vs)

def fieldOf (E : Env) (s f : Nat) : Option (Nat × Nat × Nat) :=
  match E.ti s with
  | some { u := .struct fs, .. } => nth fs f
  | _ => none

def indexAddrX (E : Env) (t : Nat) (x i : AV) : Option AV :=
  match intOf i with
  | none => none
  | some i => match E.ti t, x with
    | some { u := .array n e, .. }, .ptr g m off => match Nat.blt i n, E.ti e with
      | true, some ei => some (.ptr g m (off + i * ei.size))
      | _, _ => none
    | some { u := .slice e, .. }, .sl g m off len _ => match Nat.blt i len, E.ti e with
      | true, some ei => some (.ptr g m (off + i * ei.size))
      | _, _ => none
    | some { u := .slice e, .. }, .su g m off len _ => match Nat.blt i len, E.ti e with
      | true, some ei => some (.ptr g m (off + i * ei.size))
      | _, _ => none
    | _, _ => none

def indexX (E : Env) (t : Nat) (x i : AV) : Option AV :=
  match intOf i with
  | none => none
  | some i => match E.ti t, x with
    | some { u := .array n e, .. }, .agg cs => match Nat.blt i n, E.ti e with
      | true, some ei => match takeL ei.size (dropL (i * ei.size) cs) with
        | some l => mk ei.isAgg l
        | none => none
      | _, _ => none
    | some { u := .str, .. }, .str l => match nth l i with
      | some b => some (.int .u8 (Int.ofNat (b % 256)))
      | none => none
    | _, _ => none

def sliceB (st : St) (d : Nat) : Option Operand → Option Nat
  | none => some d
  | some x => match st.ev x with
    | some v => intOf v
    | none => none

def takeAll (n : Nat) (l : List Nat) : Option (List Nat) := takeL n l

def sliceX (E : Env) (st : St) (t : Nat) (x : AV) (lo hi mx : Option Operand) : Option AV :=
  match mx with
  | some _ => none
  | none => match sliceB st 0 lo with
    | none => none
    | some l => match E.ti t, x with
      | some { u := .str, .. }, .str s => match sliceB st (lenL s) hi with
        | some h => match Nat.ble l h with
          | true => match takeL h s with
            | some s' => some (.str (dropL l s'))
            | none => none
          | false => none
        | none => none
      | some { u := .slice e, .. }, .nils => match sliceB st 0 hi, E.ti e with
        | some h, some _ => match Nat.beq l 0, Nat.beq h 0 with
          | true, true => some .nils
          | _, _ => none
        | _, _ => none
      | some { u := .slice e, .. }, .sl g m off len cap => match sliceB st len hi, E.ti e with
        | some h, some ei => match Nat.ble l h, Nat.ble h cap with
          | true, true => match Nat.beq cap l with
            | true => some (.sl g m off (h - l) 0)
            | false => some (.sl g m (off + l * ei.size) (h - l) (cap - l))
          | _, _ => none
        | _, _ => none
      | some { u := .slice e, .. }, .su g m off len z => match sliceB st len hi, E.ti e with
        | some h, some ei => match Nat.ble l h, Nat.ble h len, Nat.beq z ei.size with
          | true, true, true => match l with
            | 0 => some (.su g m off h z)
            | _ => match Nat.blt l len with
              | true => some (.su g m (off + l * z) (h - l) z)
              | false => some (.sr g m off len z)
          | _, _, _ => none
        | _, _ => none
      | some { u := .array n e, .. }, .ptr g m off => match sliceB st n hi, E.ti e with
        | some h, some ei => match Nat.ble l h, Nat.ble h n with
          | true, true => match Nat.beq n l with
            | true => some (.sl g m off (h - l) 0)
            | false => some (.sl g m (off + l * ei.size) (h - l) (n - l))
          | _, _ => none
        | _, _ => none
      | _, _ => none

def restT (st : St) (g m off len z : Nat) : Option (Nat × St) :=
  match Nat.blt g NG with
  | true => none
  | false => match st.getG g with
    | some (.cells ty hw ms) => match findM m ms with
      | some y => match y.fx, takeL (len * z) (dropL off y.cs) with
        | false, some _ => st.addM g ty hw { m := 0, fx := false, rel := y.rel + off + len * z, cs := [] } ms
        | _, _ => none
      | none => none
    | _ => none

def convX (E : Env) (st : St) (s d : Nat) (x : AV) : Option AV :=
  match E.ti s, E.ti d, x with
  | some { u := .int _, .. }, some { u := .int k, .. }, .int _ n => some (.int k (k.wrap n))
  | some { u := .str, .. }, some { u := .str, .. }, .str l => some (.str l)
  | some { u := .ptr _, .. }, some { u := .unsafep, .. }, .nilp => some .nilp
  | some { u := .ptr e, .. }, some { u := .unsafep, .. }, .ptr g m off => match E.ti e, st.cellsAt E g m with
    | some ei, some cs => match Nat.beq ei.size 0, Nat.blt off (lenL cs) with
      | false, true => some (.ptr g m off)
      | _, _ => none
    | _, _ => none
  | some { u := .unsafep, .. }, some { u := .ptr _, .. }, .nilp => some .nilp
  | some { u := .unsafep, .. }, some { u := .ptr e, .. }, .ptr g m off => match st.getG g with
    | some (.cells ty _ [{ m := m', fx := true, cs := cs, .. }]) => match Nat.beq m m', Nat.ble NG g, off, E.ti e with
      | true, true, 0, some ei => match E.seesAs ty e, Nat.beq ei.size (lenL cs) with
        | true, true => some (.ptr g m 0)
        | _, _ => none
      | _, _, _, _ => none
    | _ => none
  | _, _, _ => none

def byteCells : List Nat → List AV
  | [] => []
  | b :: l => .int .u8 (Int.ofNat (b % 256)) :: byteCells l

def bytesX (E : Env) (st : St) (s d : Nat) (x : AV) : Option (AV × St) :=
  match E.ti s, E.ti d, x with
  | some { u := .str, .. }, some { u := .slice e, .. }, .str l => match E.ti e with
    | some { u := .int .u8, .. } => match st.newG (.cells e (lenL l) [{ m := 0, fx := false, rel := 0, cs := byteCells l }]) with
      | some (g, st) => some (.su g 0 0 (lenL l) 1, st)
      | none => none
    | _ => none
  | _, _, _ => none

def bytesOf : List AV → Option (List Nat)
  | [] => some []
  | .int .u8 (.ofNat n) :: l => match bytesOf l with
    | some r => some ((n % 256) :: r)
    | none => none
  | _ => none

def firstX (E : Env) (st : St) (size : Nat) : AV → Option (Nat × List AV)
  | .nils => some (0, [])
  | .sr .. => some (0, [])
  | .sl g m off len _ => match st.rd E g m off (len * size) with
    | some l => some (len, l)
    | none => none
  | .su g m off len _ => match st.rd E g m off (len * size) with
    | some l => some (len, l)
    | none => none
  | .str s => match size with
    | 1 => some (lenL s, byteCells s)
    | _ => none
  | _ => none

def appL (a b : List AV) : List AV := a.foldr (fun x r => x :: r) b

def grown (st : St) (ty need size : Nat) (cs : List AV) : Option (AV × St) :=
  match st.newG (.cells ty (lenL cs) [{ m := 0, fx := false, rel := 0, cs := cs }]) with
  | some (g, st) => some (.su g 0 0 need size, st)
  | none => none

def growX (st : St) (e g m off len z n : Nat) (vs : List AV) : Option (AV × St) :=
  match Nat.blt g NG with
  | true => none
  | false => match st.getG g with
    | some (.cells ty hw ms) => match findM m ms with
      | some y => match y.fx || !Nat.beq ty e, takeL (len * z) (dropL off y.cs) with
        | false, some old => match Nat.beq (y.rel + off + len * z) hw with
          | true => match st.addM g ty (hw + n * z) { m := 0, fx := false, rel := y.rel + off, cs := appL old vs } ms with
            | some (m', st) => some (.su g m' 0 (len + n) z, st)
            | none => none
          | false => match st.addM g ty (y.rel + off + (len + n) * z) { m := 0, fx := false, rel := y.rel + off, cs := appL old vs } [] with
            | some (m', st) => some (.su g m' 0 (len + n) z, st)
            | none => none
        | _, _ => none
      | none => none
    | _ => none

def appendTo (E : Env) (st : St) (e : Nat) (ei : TI) (s : AV) (n : Nat) (vs : List AV) : Option (AV × St) :=
  match s with
  | .nils => match n with
    | 0 => some (.nils, st)
    | _ => match Nat.blt n 1000000 with
      | true => grown st e n ei.size vs
      | false => none
  | .sl g m off len cap => match Nat.ble (len + n) cap with
    | true => match st.wr E g m (off + len * ei.size) vs with
      | some st => some (.sl g m off (len + n) cap, st)
      | none => none
    | false => match Nat.blt (len + n) 1000000, st.rd E g m off (len * ei.size) with
      | true, some old => grown st e (len + n) ei.size (appL old vs)
      | _, _ => none
  | .su g m off len z => match Nat.beq z ei.size, Nat.blt (len + n) 1000000, allPlain vs with
    | true, true, true => match n with
      | 0 => some (.su g m off len z, st)
      | _ => growX st e g m off len z n vs
    | _, _, _ => none
  | .sr g m off len z => match Nat.beq z ei.size, Nat.blt n 1000000, allPlain vs with
    | true, true, true => match n with
      | 0 => some (.sr g m off len z, st)
      | _ => match restT st g m off len z with
        | some (nm, st) => growX st e g nm 0 0 z n vs
        | none => none
    | _, _, _ => none
  | _ => none

def noMake (E : Env) (t : Nat) : Bool :=
  match E.ti t with
  | some { u := .slice _, .. } => true
  | some { u := .str, .. } => true
  | _ => false

def appendX (E : Env) (st : St) (t t2 : Nat) (s x : AV) : Option (AV × St) :=
  match E.ti t with
  | some { u := .slice e, .. } => match E.ti e with
    | some ei => match noMake E t2, Nat.blt 0 ei.size, Nat.blt 0 ei.bytes, Nat.blt ei.bytes 1000000 with
      | true, true, true, true => match firstX E st ei.size x with
        | some (n, vs) => appendTo E st e ei s n vs
        | none => none
      | _, _, _, _ => none
    | none => none
  | _ => none

def keyFind (E : Env) (kt : Nat) (k : AV) : List (AV × AV × Nat) → Nat → Option (Option (Nat × AV × Nat))
  | [], _ => some none
  | (k', v, b) :: es, i => match valEq E kt k k' with
    | some true => some (some (i, v, b))
    | some false => keyFind E kt k es (i + 1)
    | none => none

def setVal (v : AV) : List (AV × AV × Nat) → Nat → List (AV × AV × Nat)
  | [], _ => []
  | (k, _, b) :: es, 0 => (k, v, b) :: es
  | e :: es, i + 1 => match setVal v es i with | [] => [e] | a :: r => e :: a :: r

def snocL {α : Type} (l : List α) (x : α) : List α := l.foldr (fun a r => a :: r) [x]

def keyPlain (E : Env) (t : Nat) (v : AV) : Bool :=
  match v with
  | .int .. => match E.ti t with | some { u := .int _, .. } => true | _ => false
  | .str _ => match E.ti t with | some { u := .str, .. } => true | _ => false
  | .bool _ => match E.ti t with | some { u := .bool, .. } => true | _ => false
  | .agg l => match E.eqT t with
    | some ks => cellsEq.haveAll ks l
    | none => false
  | _ => false

def mapPut (E : Env) (st : St) (t : Nat) (m k v : AV) : Option St :=
  match E.ti t, m with
  | some { u := .map kt _, .. }, .map g => match st.getG g, keyPlain E kt k with
    | some (.map es clk), true => match keyFind E kt k es 0 with
      | some (some (i, _, _)) => st.setG g (.map (setVal v es i) clk)
      | some none => st.setG g (.map (snocL es (k, v, clk)) (clk + 1))
      | none => none
    | _, _ => none
  | _, _ => none

def entsOf (st : St) : AV → Option (List (AV × AV × Nat))
  | .nilm => some []
  | .map g => match st.getG g with
    | some (.map es _) => some es
    | _ => none
  | _ => none

def lookX (E : Env) (st : St) (t : Nat) (m k : AV) (ok : Bool) : Option AV :=
  match E.ti t with
  | some { u := .map kt et, .. } => match keyPlain E kt k with
    | false => none
    | true => match entsOf st m with
      | none => none
      | some es => match keyFind E kt k es 0 with
        | none => none
        | some (some (_, v, _)) => some (match ok with | true => .tup [v, .bool true] | false => v)
        | some none => match E.ti et with
          | some ei => match mk ei.isAgg ei.zero with
            | some z => some (match ok with | true => .tup [z, .bool false] | false => z)
            | none => none
          | none => none
  | _ => none

def bornIn : Nat → List Nat → Bool
  | _, [] => false
  | b, x :: l => match Nat.beq b x with | true => true | false => bornIn b l

def leftOf (seen : List Nat) : List (AV × AV × Nat) → List (AV × AV × Nat)
  | [] => []
  | e :: es => match bornIn e.2.2 seen with
    | true => leftOf seen es
    | false => match leftOf seen es with | [] => [e] | a :: r => e :: a :: r

def allOld (since : Nat) : List (AV × AV × Nat) → Bool
  | [] => true
  | e :: es => match Nat.blt e.2.2 since with | true => allOld since es | false => false

def anyNew (last : Nat) : List (AV × AV × Nat) → Bool
  | [] => false
  | e :: es => match Nat.blt e.2.2 last with | true => true | false => anyNew last es

def nextX (st : St) (d : Option Nat) (it : AV) : Out Unit :=
  match it with
  | .ptr r 0 0 => match st.getG r with
    | some (.iterM none _ _ _) => fin st d (.tup [.bool false])
    | some (.iterM (some g) since seen last) => match st.getG g with
      | some (.map es clk) => match Nat.beq clk since with
        | false => .no "map grows while ranged"
        | true =>
          match leftOf seen es with
          | [] => match es with
            | [] => fin st d (.tup [.bool false])
            | _ :: _ => match anyNew last es with
              | true => fin st d (.tup [.bool false])
              | false => .no "next all new"
          | l => match allOld since l && anyNew last es with
            | true => branch d r g since seen clk st l
            | false => .no "next"
      | _ => .no "next map"
    | _ => .no "next iter"
  | _ => .no "next ptr"
where
  pick (d : Option Nat) (r g since : Nat) (seen : List Nat) (clk : Nat) (st : St) (e : AV × AV × Nat) : Out Unit :=
    match st.setG r (.iterM (some g) since (snocL seen e.2.2) clk) with
    | some st => fin st d (.tup [.bool true, e.1, e.2.1])
    | none => .no "next set"
  branch (d : Option Nat) (r g since : Nat) (seen : List Nat) (clk : Nat) (st : St) : List (AV × AV × Nat) → Out Unit
    | [] => .no "next none"
    | [e] => pick d r g since seen clk st e
    | e :: es => .two (pick d r g since seen clk st e) (branch d r g since seen clk st es)

def entryX (st : St) (it : AV) : Option AV :=
  match it with
  | .ptr r 0 0 => match st.getG r with
    | some (.iterM (some g) _ seen last) => match seen.reverse, st.getG g with
      | b :: _, some (.map es clk) => match Nat.beq clk last, es.find? (fun e => Nat.beq e.2.2 b) with
        | true, some e => some (.tup [e.1, e.2.1])
        | _, _ => none
      | _, _ => none
    | _ => none
  | _ => none

def delAt : List (AV × AV × Nat) → Nat → List (AV × AV × Nat)
  | [], _ => []
  | _ :: es, 0 => es
  | e :: es, i + 1 => e :: delAt es i

def resVal (E : Env) (st : St) : List ResultVar → Option (List AV)
  | [] => some []
  | .tmp t :: l => match evT t st with
    | none => none
    | some v => match resVal E st l with
      | none => none
      | some vs => some (v :: vs)
  | .cell a t :: l => match evT a st, E.ti t with
    | some (.ptr g m off), some ti => match st.rd E g m off ti.size with
      | none => none
      | some cs => match mk ti.isAgg cs with
        | none => none
        | some v => match resVal E st l with
          | none => none
          | some vs => some (v :: vs)
    | _, _ => none

def one1 (l : List AV) : AV := match l with | [v] => v | l => .tup l

def argsIn (i : Nat) (tm : Tr AV) : List AV → Tr AV
  | [] => tm
  | v :: l => match Tr.put (some v) (pathOf i) tm with
    | .lf => argsIn (i + 1) .lf l
    | .nd a b c => argsIn (i + 1) (.nd a b c) l

def enterSt : St → Nat → Tr AV → St
  | ⟨_, _, hp, nx, _, _⟩, n, tm => ⟨n, tm, hp, nx, [], []⟩

def backSt : St → St → St
  | ⟨ntm, tm, _, nx, lg, df⟩, ⟨_, _, hp', nx', lg', _⟩ => ⟨ntm, tm, hp', nx', oldLg' nx lg lg', df⟩
where
  oldLg' (lo : Nat) (l : List Nat) : List Nat → List Nat
    | [] => l
    | g :: r => match Nat.blt g lo with
      | true => g :: oldLg' lo l r
      | false => oldLg' lo l r

def undefer (st : St) : List Nat → Option St
  | [] => some st
  | g :: l => match st.getG g with
    | some .defd => match st.delG g with
      | none => none
      | some st => undefer st l
    | _ => none

mutual
def avEq : Nat → AV → AV → Bool
  | 0, _, _ => false
  | n + 1, x, y => match x, y with
    | .bool a, .bool b => a == b
    | .int j a, .int k b => kindEq j k && intEq a b
    | .str a, .str b => a == b
    | .nilp, .nilp => true
    | .ptr g m o, .ptr g' m' o' => Nat.beq g g' && Nat.beq m m' && Nat.beq o o'
    | .nils, .nils => true
    | .sl a b c d e, .sl a' b' c' d' e' => Nat.beq a a' && Nat.beq b b' && Nat.beq c c' && Nat.beq d d' && Nat.beq e e'
    | .su a b c d e, .su a' b' c' d' e' => Nat.beq a a' && Nat.beq b b' && Nat.beq c c' && Nat.beq d d' && Nat.beq e e'
    | .sr a b c d e, .sr a' b' c' d' e' => Nat.beq a a' && Nat.beq b b' && Nat.beq c c' && Nat.beq d d' && Nat.beq e e'
    | .nilm, .nilm => true
    | .map g, .map h => Nat.beq g h
    | .nilf, .nilf => true
    | .func f a b, .func f' a' b' => decide (f = f') && avsEq n a a' && avsEq n b b'
    | .nili, .nili => true
    | .iface t v, .iface u w => Nat.beq t u && avEq n v w
    | .agg a, .agg b => avsEq n a b
    | .tup a, .tup b => avsEq n a b
    | _, _ => false
def avsEq : Nat → List AV → List AV → Bool
  | 0, _, _ => false
  | _ + 1, [], [] => true
  | n + 1, x :: xs, y :: ys => avEq n x y && avsEq n xs ys
  | _, _, _ => false
end

def eqFuel : Nat := 2000

def entsEq : List (AV × AV × Nat) → List (AV × AV × Nat) → Bool
  | [], [] => true
  | (k, v, b) :: xs, (k', v', b') :: ys => avEq eqFuel k k' && avEq eqFuel v v' && Nat.beq b b' && entsEq xs ys
  | _, _ => false

inductive KO where
  | cells (ty : Nat) (fx : Bool) (cs : List AV)
  | map (es : List (AV × AV × Nat)) (clk : Nat)

def koEq : KO → KO → Bool
  | .cells a b c, .cells a' b' c' => Nat.beq a a' && b == b' && avsEq eqFuel c c'
  | .map a b, .map a' b' => entsEq a a' && Nat.beq b b'
  | _, _ => false

def kosEq : List KO → List KO → Bool
  | [], [] => true
  | x :: xs, y :: ys => koEq x y && kosEq xs ys
  | _, _ => false

def KO.go : KO → GO
  | .cells ty fx cs => .cells ty (lenL cs) [{ m := 0, fx := fx, rel := 0, cs := cs }]
  | .map es clk => .map es clk

def placeOf (g m : Nat) : List (Nat × Nat) → Nat → Option Nat
  | [], _ => none
  | (h, k) :: l, i => match Nat.beq g h with
    | true => match Nat.beq m k with
      | true => some i
      | false => none
    | false => placeOf g m l (i + 1)

def seenG (g : Nat) : List (Nat × Nat) → Bool
  | [] => false
  | (h, _) :: l => match Nat.beq g h with
    | true => true
    | false => seenG g l

def note (lo g m : Nat) (l : List (Nat × Nat)) : List (Nat × Nat) :=
  match Nat.blt g lo with
  | true => l
  | false => match seenG g l with
    | true => l
    | false => snocL l (g, m)

mutual
def names (lo : Nat) : AV → List (Nat × Nat) → List (Nat × Nat)
  | .ptr g m _, l => note lo g m l
  | .sl g m _ _ _, l => note lo g m l
  | .su g m _ _ _, l => note lo g m l
  | .sr g m _ _ _, l => note lo g m l
  | .map g, l => note lo g 0 l
  | .func _ a b, l => namesL lo b (namesL lo a l)
  | .iface _ v, l => names lo v l
  | .agg a, l => namesL lo a l
  | .tup a, l => namesL lo a l
  | _, l => l
def namesL (lo : Nat) : List AV → List (Nat × Nat) → List (Nat × Nat)
  | [], l => l
  | v :: vs, l => namesL lo vs (names lo v l)
end

def newName (lo : Nat) (l : List (Nat × Nat)) (g m : Nat) : Option (Nat × Nat) :=
  match Nat.blt g lo with
  | true => match Nat.blt m lo with
    | true => some (g, m)
    | false => none
  | false => match placeOf g m l 0 with
    | some i => some (lo + i, 0)
    | none => none

mutual
def ren (lo : Nat) (l : List (Nat × Nat)) : AV → Option AV
  | .ptr g m o => match newName lo l g m with | some (g, m) => some (.ptr g m o) | none => none
  | .sl g m a b c => match newName lo l g m with | some (g, m) => some (.sl g m a b c) | none => none
  | .su g m a b c => match newName lo l g m with | some (g, m) => some (.su g m a b c) | none => none
  | .sr g m a b c => match newName lo l g m with | some (g, m) => some (.sr g m a b c) | none => none
  | .map g => match newName lo l g 0 with | some (g, _) => some (.map g) | none => none
  | .func (.yield _) _ _ => none
  | .func f a b => match renL lo l a, renL lo l b with | some a, some b => some (.func f a b) | _, _ => none
  | .iface t v => match ren lo l v with | some v => some (.iface t v) | none => none
  | .agg a => match renL lo l a with | some a => some (.agg a) | none => none
  | .tup a => match renL lo l a with | some a => some (.tup a) | none => none
  | v => some v
def renL (lo : Nat) (l : List (Nat × Nat)) : List AV → Option (List AV)
  | [] => some []
  | v :: vs => match ren lo l v, renL lo l vs with | some v, some vs => some (v :: vs) | _, _ => none
end

def entNames (lo : Nat) : List (AV × AV × Nat) → List (Nat × Nat) → List (Nat × Nat)
  | [], l => l
  | (k, v, _) :: es, l => entNames lo es (names lo v (names lo k l))

def renE (lo : Nat) (l : List (Nat × Nat)) : List (AV × AV × Nat) → Option (List (AV × AV × Nat))
  | [] => some []
  | (k, v, b) :: es => match ren lo l k, ren lo l v, renE lo l es with
    | some k, some v, some es => some ((k, v, b) :: es)
    | _, _, _ => none

def spread (lo : Nat) (hp : Tr GO) : Nat → Nat → List (Nat × Nat) → Option (List (Nat × Nat))
  | 0, _, _ => none
  | n + 1, i, l => match nth l i with
    | none => some l
    | some (g, m) => match hp.get g with
      | some (.cells _ _ ms) => match findM m ms with
        | some x => spread lo hp n (i + 1) (namesL lo x.cs l)
        | none => none
      | some (.map es _) => spread lo hp n (i + 1) (entNames lo es l)
      | _ => none

def keepAll (lo : Nat) (hp : Tr GO) (l : List (Nat × Nat)) : List (Nat × Nat) → Option (List KO)
  | [] => some []
  | (g, m) :: r => match hp.get g with
    | some (.cells ty _ ms) => match findM m ms with
      | some x => match renL lo l x.cs, keepAll lo hp l r with
        | some cs, some ks => some (.cells ty x.fx cs :: ks)
        | _, _ => none
      | none => none
    | some (.map es clk) => match m, renE lo l es, keepAll lo hp l r with
      | 0, some es, some ks => some (.map es clk :: ks)
      | _, _, _ => none
    | _ => none

def pack (lo : Nat) (v : AV) (hp : Tr GO) : Option (AV × List KO) :=
  match spread lo hp eqFuel 0 (names lo v []) with
  | some l => match ren lo l v, keepAll lo hp l l with
    | some v, some ks => some (v, ks)
    | _, _ => none
  | none => none

def packs (lo : Nat) (v : AV) (ks : List KO) : Out AV → Bool
  | .no _ => false
  | .one w s => match pack lo w s.hp with
    | some (w', ks') => avEq eqFuel v w' && kosEq ks ks'
    | none => false
  | .two x y => packs lo v ks x && packs lo v ks y

def written (r : List Nat × Nat) : Out AV → List Nat × Nat
  | .no _ => r
  | .one _ s => (natsApp s.lg r.1, Nat.max s.nx r.2)
  | .two x y => written (written r x) y

def whyOut {α : Type} : Out α → String
  | .no w => w
  | .one _ _ => ""
  | .two x y => whyOut x ++ whyOut y

def firstOut : Out AV → Option (AV × St)
  | .no _ => none
  | .one v s => some (v, s)
  | .two x _ => firstOut x

def dropAll (lo : Nat) (hp : Tr GO) : List Nat → Tr GO
  | [] => hp
  | g :: l => match Nat.blt g lo with
    | true => match Tr.put none (pathOf g) hp with
      | .lf => dropAll lo .lf l
      | .nd a b c => dropAll lo (.nd a b c) l
    | false => dropAll lo hp l

def layAll (i : Nat) (hp : Tr GO) : List KO → Tr GO
  | [] => hp
  | k :: ks => match Tr.put (some k.go) (pathOf i) hp with
    | .lf => layAll (i + 1) .lf ks
    | .nd a b c => layAll (i + 1) (.nd a b c) ks

def joined : St → List Nat → List KO → St
  | ⟨ntm, tm, hp, nx, lg, df⟩, wr, ks => ⟨ntm, tm, layAll nx (dropAll nx hp wr) ks, nx + lenL ks, natsApp wr lg, df⟩

def join (s0 : St) (o : Out AV) : Out AV :=
  match o with
  | .one a s => .one a s
  | .no w => .no w
  | .two x y => match firstOut x with
    | none => .no (whyOut x)
    | some (v, s) => match pack s0.nx v s.hp with
      | none => .no "join pack"
      | some (v, ks) => match packs s0.nx v ks (.two x y) with
        | false => .no "join unlike"
        | true => match written ([], s0.nx) (.two x y) with
          | (lg, _) => .one v (joined s0 lg ks)

abbrev Self := Code → Option Nat → St → Out AE

def AE.leaves : AE → Bool
  | .normal => true
  | .ret => true
  | .exit _ => false

def callB (E : Env) (self : Self) (f : Nat) (args : List AV) (st : St) : Out AV :=
  match E.fn f with
  | none => .no "no such function"
  | some F => match Nat.ble (lenL args) F.ntm with
    | false => .no "args"
    | true => join st <| (self F.body none (enterSt st F.ntm (argsIn 0 .lf args))).bind fun e s =>
      match e.leaves with
      | false => .no "exit"
      | true => match undefer s s.df with
        | none => .no "deferred"
        | some s => match resVal E s F.res with
          | none => .no "results"
          | some vs => .one (one1 vs) (backSt st s)

def callF (E : Env) (self : Self) (f : Nat) (args : List AV) (st : St) : Out AV :=
  match E.summ f args with
  | some v => .one v st
  | none => match E.noZero f with
    | some ty => match args with
      | [.int .i64 (.ofNat n)] => match Nat.blt n 1000000 with
        | false => .no "nozero big"
        | true => match st.newG (.cells ty 0 [{ m := 0, fx := false, rel := 0, cs := [] }]) with
          | some (g, st) => .one (.su g 0 0 n 1) st
          | none => .no "nozero"
      | _ => .no "nozero"
    | none => match E.same f with
      | true => match args with
        | [x] => .one x st
        | _ => .no "same"
      | false => callB E self f args st

def assignPs (ntm : Nat) (tm : Tr AV) : List Nat → List AV → Option (Tr AV)
  | [], [] => some tm
  | t :: ts, v :: vs => match Nat.blt t ntm with
    | false => none
    | true => match Tr.put (some v) (pathOf t) tm with
      | .lf => none
      | .nd a b c => assignPs ntm (.nd a b c) ts vs
  | _, _ => none

def LS.after : Option Code → LS
  | none => .ready
  | some _ => .done

def yieldX (self : Self) (l : Nat) (args : List AV) (st : St) : Out AV :=
  match st.getG l with
  | some (.loop .ready _ fn ntm tm ps asg body dfs) => match assignPs ntm tm ps args with
    | none => .no "yield args"
    | some tm' =>
      join st <| (self asg (some l) (enterSt st ntm tm')).bind fun e s =>
        match e with
        | .normal => match s.getG l with
          | some (.loop .ready p1 fn1 ntm1 tm1 ps1 asg1 body1 dfs1) => match s.setG l (.loop .busy p1 fn1 ntm1 tm1 ps1 asg1 body1 dfs1) with
            | none => .no "yield set"
            | some s => (self body (some l) s).bind fun e s =>
              let back (j : Option Code) (b : Bool) : Out AV :=
                match s.df, s.getG l with
                | [], some (.loop _ _ fn2 ntm2 tm2 ps2 asg2 body2 dfs2) => match s.setG l (.loop (LS.after j) j fn2 ntm2 tm2 ps2 asg2 body2 dfs2) with
                  | none => .no "yield set"
                  | some s => .one (.bool b) (backSt st s)
                | _, _ => .no "yield deferred"
              match e with
              | .normal => back none true
              | .ret => back (some .ret) false
              | .exit id => back (some (.exit id)) false
          | _ => .no "yield loop lost"
        | _ => .no "yield assign leaves"
  | _ => .no "yield loop"

def callV (E : Env) (self : Self) (f : AV) (args : List AV) (st : St) : Out AV :=
  match f with
  | .func (.func f) first cap => callF E self f (appL first (appL args cap)) st
  | .func (.yield l) first _ => yieldX self l (appL first args) st
  | _ => .no "call of what"

def rangeV (E : Env) (self : Self) (f : AV) (l : Nat) (st : St) : Out AV :=
  match f with
  | .func (.func f) first cap => callB E self f (appL first (appL [.func (.yield l) [] []] cap)) st
  | _ => .no "range over what"

def lenX (E : Env) (st : St) (t : Nat) (x : AV) : Option AV :=
  match E.ti t, x with
  | some { u := .array n _, .. }, _ => some (.int .i64 (Int.ofNat n))
  | some { u := .str, .. }, .str s => some (.int .i64 (Int.ofNat (lenL s)))
  | some { u := .slice _, .. }, .nils => some (.int .i64 0)
  | some { u := .slice _, .. }, .sl _ _ _ n _ => some (.int .i64 (Int.ofNat n))
  | some { u := .slice _, .. }, .su _ _ _ n _ => some (.int .i64 (Int.ofNat n))
  | some { u := .slice _, .. }, .sr .. => some (.int .i64 0)
  | some { u := .map _ _, .. }, .nilm => some (.int .i64 0)
  | some { u := .map _ _, .. }, .map g => match st.getG g with
    | some (.map es _) => some (.int .i64 (Int.ofNat (lenL es)))
    | _ => none
  | _, _ => none

def capX (E : Env) (t : Nat) (x : AV) : Option AV :=
  match E.ti t, x with
  | some { u := .slice _, .. }, .nils => some (.int .i64 0)
  | some { u := .slice _, .. }, .sl _ _ _ _ n => some (.int .i64 (Int.ofNat n))
  | _, _ => none

def minMax2 (isMax : Bool) (a b : Int) : Int :=
  match isMax with
  | true => if b > a then b else a
  | false => if b < a then b else a

def minMaxFrom (isMax : Bool) : AV → List AV → Option AV
  | x, [] => some x
  | .int k a, .int _ b :: l => minMaxFrom isMax (.int k (minMax2 isMax a b)) l
  | _, _ => none

def minMax (isMax : Bool) : List AV → Option AV
  | [] => none
  | x :: l => minMaxFrom isMax x l

def clearX (E : Env) (st : St) (t : Nat) (x : AV) : Option St :=
  match E.ti t, x with
  | some { u := .slice _, .. }, .nils => some st
  | some { u := .map _ _, .. }, .nilm => some st
  | some { u := .map _ _, .. }, .map g => match st.getG g with
    | some (.map _ clk) => st.setG g (.map [] clk)
    | _ => none
  | some { u := .slice e, .. }, .sl g m off n _ => match E.ti e with
    | some ei => match n with | 0 => some st | _ => st.wr E g m off (repL ei.zero n)
    | none => none
  | some { u := .slice e, .. }, .su g m off n _ => match E.ti e with
    | some ei => match n with | 0 => some st | _ => st.wr E g m off (repL ei.zero n)
    | none => none
  | _, _ => none

def srcLen : AV → Option Nat
  | .nils => some 0
  | .sl _ _ _ n _ => some n
  | .su _ _ _ n _ => some n
  | .str l => some (lenL l)
  | _ => none

def copyX (E : Env) (st : St) (t : Nat) (d s : AV) : Option (AV × St) :=
  match E.ti t with
  | some { u := .slice e, .. } => match E.ti e with
    | some ei => match srcLen s with
      | none => none
      | some sn => match d with
        | .nils => some (.int .i64 0, st)
        | .sl g m off n _ => put st ei.size s g m off (Nat.min sn n)
        | .su g m off n _ => put st ei.size s g m off (Nat.min sn n)
        | _ => none
    | none => none
  | _ => none
where
  src (st : St) (size : Nat) (s : AV) (n : Nat) : Option (List AV) :=
    match s with
    | .sl g' m' off' _ _ => st.rd E g' m' off' (n * size)
    | .su g' m' off' _ _ => st.rd E g' m' off' (n * size)
    | .str l => takeL n (byteCells l)
    | _ => none
  put (st : St) (size : Nat) (s : AV) (g m off n : Nat) : Option (AV × St) :=
    match n with
    | 0 => some (.int .i64 0, st)
    | _ => match src st size s n with
      | none => none
      | some vs => match st.wr E g m off vs with
        | some st => some (.int .i64 (Int.ofNat n), st)
        | none => none

def builtinX (E : Env) (st : St) (b : Builtin) (ts : List Nat) (dst : Option Nat) (args : List AV) : Out Unit :=
  let v (o : Option AV) : Out Unit := match o with | some v => fin st dst v | none => .no "builtin"
  let s (o : Option (AV × St)) : Out Unit := match o with | some (v, st) => fin st dst v | none => .no "builtin s"
  match b, ts, args with
  | .len, t :: _, x :: _ => v (lenX E st t x)
  | .cap, t :: _, x :: _ => v (capX E t x)
  | .append, t :: t2 :: _, [x, y] => s (appendX E st t t2 x y)
  | .copy, t :: _, x :: y :: _ => s (copyX E st t x y)
  | .min, _, l => v (minMax false l)
  | .max, _, l => v (minMax true l)
  | .clear, t :: _, x :: _ => s ((clearX E st t x).map fun st => (.tup [], st))
  | .delete, t :: _, m :: k :: _ => s (match E.ti t, m with
    | some { u := .map kt _, .. }, .map g => match st.getG g, keyPlain E kt k with
      | some (.map es clk), true => match keyFind E kt k es 0 with
        | some (some (i, _, _)) => (st.setG g (.map (delAt es i) clk)).map fun st => (.tup [], st)
        | some none => some (.tup [], st)
        | none => none
      | _, _ => none
    | _, _ => none)
  | .unsafeSliceData, _, [.sl g m off _ c] => v (match c with | 0 => none | _ => some (.ptr g m off))
  | .unsafeSliceData, _, [.su g m off n _] => v (match n with | 0 => none | _ => some (.ptr g m off))
  | .unsafeString, _ :: _, [.nilp, .int _ 0] => v (some (.str []))
  | .unsafeString, t :: _, [.ptr g m off, .int _ (.ofNat n)] => match n with
    | 0 => v (some (.str []))
    | _ => match st.getG g, E.ti t with
      | some (.cells ty _ _), some { u := .ptr e, .. } => match E.byteAt ty && E.byteAt e, Nat.blt n 1000000, st.rd E g m off n with
        | true, true, some cs => match bytesOf cs with
          | some bs => match st.delG g with
            | none => .no "unsafeString"
            | some st => fin st dst (.str bs)
          | none => .no "unsafeString"
        | _, _, _ => .no "unsafeString"
      | _, _ => .no "unsafeString"
  | _, _, _ => .no "builtin what"

def makeSliceX (E : Env) (st : St) (t : Nat) (l c : AV) : Option (AV × St) :=
  match E.ti t, intOf l, intOf c with
  | some { u := .slice e, .. }, some l, some c => match E.ti e, Nat.ble l c, Nat.blt c 1000000 with
    | some ei, true, true => match Nat.blt 0 ei.size, Nat.blt ei.bytes 1000000 with
      | true, true => match st.newCells e (repL ei.zero c) with
        | some (g, st) => some (.sl g 0 0 l c, st)
        | none => none
      | _, _ => none
    | _, _, _ => none
  | _, _, _ => none

def buildX (E : Env) (t : Nat) (parts : List (Nat × AV)) : Option AV :=
  match E.ti t with
  | some { u := .struct fs, zero := z, .. } => (fillX (fun i => (nth fs i).map fun f => (f.1, f.2.2)) z parts).map .agg
  | some { u := .array _ e, zero := z, .. } => match E.ti e with
    | some ei => (fillX (fun i => some (i * ei.size, ei.size)) z parts).map .agg
    | none => none
  | _ => none

def buildSliceX (E : Env) (st : St) (t len : Nat) (parts : List (Nat × AV)) : Option (AV × St) :=
  match E.ti t with
  | some { u := .slice e, .. } => match E.ti e with
    | some ei => match Nat.blt 0 ei.size, Nat.blt (len * ei.size) 1000000 with
      | true, true => match fillX (fun i => some (i * ei.size, ei.size)) (repL ei.zero len) parts with
        | some cs => match st.newCells e cs with
          | some (g, st) => some (.sl g 0 0 len len, st)
          | none => none
        | none => none
      | _, _ => none
    | none => none
  | _ => none

abbrev Hd := Env → Self → Option Nat → St → Out Unit

def finO (st : St) (d : Option Nat) (x : Option AV) : Out Unit :=
  match x with
  | some v => fin st d v
  | none => .no "op"

def finS (d : Option Nat) (x : Option (AV × St)) : Out Unit :=
  match x with
  | some (v, st) => fin st d v
  | none => .no "op s"

def finU (d : Option Nat) (x : Option St) : Out Unit :=
  match x with
  | some st => fin st d (.tup [])
  | none => .no "op u"

def hMove (x : Operand) : Hd := fun _ _ d st => finO st d (ev x st)

def hPick (c a b : Operand) : Hd := fun _ _ d st => match ev c st with
  | some (.bool true) => finO st d (ev a st)
  | some (.bool false) => finO st d (ev b st)
  | _ => .no "op"

def hAlloc (t : Nat) : Hd := fun E _ d st => match E.ti t with
  | some ti => match st.newCells t ti.zero with
    | some (g, st) => fin st d (.ptr g 0 0)
    | none => .no "alloc"
  | none => .no "alloc"

def hBox (t : Nat) (x : Operand) : Hd := fun _ _ d st => match ev x st with
  | some x => match st.newCells t x.cells with
    | some (g, st) => fin st d (.ptr g 0 0)
    | none => .no "box"
  | none => .no "box"

def hBuild (t : Nat) (ps : Array (Nat × Operand)) : Hd := fun E _ d st => match evParts st ps.toList with
  | some ps => finO st d (buildX E t ps)
  | none => .no "build"

def hBuildSlice (t len : Nat) (ps : Array (Nat × Operand)) : Hd := fun E _ d st => match evParts st ps.toList with
  | some ps => finS d (buildSliceX E st t len ps)
  | none => .no "buildSlice"

def hLoad (t : Nat) (a : Operand) : Hd := fun E _ d st => match ev a st, E.ti t with
  | some (.ptr g m off), some ti => match st.rd E g m off ti.size with
    | some cs => finO st d (mk ti.isAgg cs)
    | none => .no "op"
  | _, _ => .no "op"

def hStore (t : Nat) (a x : Operand) : Hd := fun E _ d st => match ev a st, E.ti t, ev x st with
  | some (.ptr g m off), some ti, some x => match Nat.beq (lenL x.cells) ti.size with
    | true => finU d (st.wr E g m off x.cells)
    | false => .no "store size"
  | _, _, _ => .no "store"

def hNilCheck (x : Operand) : Hd := fun _ _ d st => match ev x st with
  | some (.ptr g m off) => fin st d (.ptr g m off)
  | some (.func (.func f) a b) => fin st d (.func (.func f) a b)
  | some (.func (.yield f) a b) => fin st d (.func (.yield f) a b)
  | _ => .no "nilCheck"

def isLit : Operand → Bool
  | .const _ => true
  | _ => false

def nilNil (op : BinOp) (t : Nat) (E : Env) : Option AV :=
  match E.ti t with
  | some { u := .iface, .. } => match op with
    | .eql => some (.bool true)
    | .neq => some (.bool false)
    | _ => none
  | _ => none

def hBin (op : BinOp) (t : Nat) (x y : Operand) : Hd := fun E _ d st => match ev x st, ev y st with
  | some .nili, some .nili => match isLit x || isLit y with
    | true => finO st d (nilNil op t E)
    | false => .no "op"
  | some x, some y => finO st d (binX E op t x y)
  | _, _ => .no "op"

def hUn (op : UnOp) (x : Operand) : Hd := fun _ _ d st => match ev x st with
  | some x => finO st d (unX op x)
  | none => .no "op"

def hConvert (a b : Nat) (x : Operand) : Hd := fun E _ d st => match ev x st with
  | some x => match convX E st a b x with
    | some r => fin st d r
    | none => finS d (bytesX E st a b x)
  | none => .no "convert"

def hIface (t : Nat) (x : Operand) : Hd := fun E _ d st => match ev x st, E.ti t with
  | some _, some { u := .iface, .. } => .no "makeInterface"
  | some x, some _ => fin st d (.iface t x)
  | _, _ => .no "makeInterface"

def hFunc (fn : Fn) (a b : Array Operand) : Hd := fun _ _ d st => match evs st a.toList, evs st b.toList with
  | some a, some b => fin st d (.func fn a b)
  | _, _ => .no "makeFunc"

def newMap (d : Option Nat) (st : St) : Out Unit := match st.newG (.map [] 0) with
  | some (g, st) => fin st d (.map g)
  | none => .no "makeMap"

def hMap (t : Nat) (r : Option Operand) : Hd := fun E _ d st => match r with
  | none => newMap d st
  | some x => match E.ti t, ev x st with
    | some { u := .map _ _, .. }, some (.int _ _) => newMap d st
    | _, _ => .no "makeMap"

def hMakeSlice (t : Nat) (l c : Operand) : Hd := fun E _ d st => match ev l st, ev c st with
  | some l, some c => finS d (makeSliceX E st t l c)
  | _, _ => .no "makeSlice"

def hSlice (t : Nat) (x : Operand) (lo hi mx : Option Operand) : Hd := fun E _ d st => match ev x st with
  | some x => finO st d (sliceX E st t x lo hi mx)
  | none => .no "slice"

def hFieldAddr (t : Nat) (x : Operand) (f : Nat) : Hd := fun E _ d st => match ev x st, fieldOf E t f with
  | some (.ptr g m off), some (fo, _, fs) => match Nat.beq fs 0 with
    | false => fin st d (.ptr g m (off + fo))
    | true => .no "op"
  | _, _ => .no "op"

def hField (t : Nat) (x : Operand) (f : Nat) : Hd := fun E _ d st => match ev x st, fieldOf E t f with
  | some (.agg cs), some (fo, ft, _) => match E.ti ft with
    | some fi => match takeL fi.size (dropL fo cs) with
      | some l => finO st d (mk fi.isAgg l)
      | none => .no "field"
    | none => .no "field"
  | _, _ => .no "field"

def hIndexAddr (t : Nat) (x i : Operand) : Hd := fun E _ d st => match ev x st, ev i st with
  | some x, some i => finO st d (indexAddrX E t x i)
  | _, _ => .no "op"

def hIndex (t : Nat) (x i : Operand) : Hd := fun E _ d st => match ev x st, ev i st with
  | some x, some i => finO st d (indexX E t x i)
  | _, _ => .no "op"

def hLookup (t : Nat) (m k : Operand) (ok : Bool) : Hd := fun E _ d st => match ev m st, ev k st with
  | some m, some k => finO st d (lookX E st t m k ok)
  | _, _ => .no "lookup"

def hMapPut (t : Nat) (m k x : Operand) : Hd := fun E _ d st => match ev m st, ev k st, ev x st with
  | some m, some k, some x => finU d (mapPut E st t m k x)
  | _, _, _ => .no "mapUpdate"

def hRange (t : Nat) (x : Operand) : Hd := fun E _ d st => match E.ti t, ev x st with
  | some { u := .map _ _, .. }, some .nilm => match st.newG (.iterM none 0 [] 0) with
    | some (g, st) => fin st d (.ptr g 0 0)
    | none => .no "range"
  | some { u := .map _ _, .. }, some (.map g) => match st.getG g with
    | some (.map _ clk) => match st.newG (.iterM (some g) clk [] clk) with
      | some (g, st) => fin st d (.ptr g 0 0)
      | none => .no "range"
    | _ => .no "range"
  | _, _ => .no "range"

def hNext (it : Operand) (isString : Bool) : Hd := fun _ _ d st => match isString, ev it st with
  | false, some it => nextX st d it
  | _, _ => .no "next"

def hEntry (it : Operand) : Hd := fun _ _ d st => match ev it st with
  | some it => finO st d (entryX st it)
  | none => .no "entry"

def hExtract (t : Operand) (i : Nat) : Hd := fun _ _ d st => match ev t st with
  | some (.tup l) => finO st d (nth l i)
  | _ => .no "extract"

def hCall (c : Call) : Hd := fun E self d st => match c.callee with
  | .value f => match ev f st, evs st c.args.toList with
    | some f, some args => (callV E self f args st).bind fun v st => fin st d v
    | _, _ => .no "call"
  | .builtin b => match evs st c.args.toList with
    | some args => builtinX E st b c.argTypes.toList d args
    | none => .no "builtin"
  | .invoke .. => .no "invoke"

def hNo : Hd := fun _ _ _ _ => .no "no such operation"

def opX : Op → Hd
  | .move x => hMove x
  | .assign x => hMove x
  | .pick c a b => hPick c a b
  | .alloc t => hAlloc t
  | .box t x => hBox t x
  | .build t ps => hBuild t ps
  | .buildSlice t len ps => hBuildSlice t len ps
  | .load t a => hLoad t a
  | .store t a x => hStore t a x
  | .nilCheck x => hNilCheck x
  | .binOp op t x y _ => hBin op t x y
  | .unOp op _ x => hUn op x
  | .convert a b x => hConvert a b x
  | .makeInterface t x => hIface t x
  | .makeFunc (.yield _) _ _ => hNo
  | .makeFunc fn a b => hFunc fn a b
  | .makeMap t r => hMap t r
  | .makeSlice t l c => hMakeSlice t l c
  | .slice t x lo hi mx => hSlice t x lo hi mx
  | .fieldAddr t x f => hFieldAddr t x f
  | .field t x f => hField t x f
  | .indexAddr t x i => hIndexAddr t x i
  | .index t x i => hIndex t x i
  | .lookup t m k ok => hLookup t m k ok
  | .mapUpdate t m k x => hMapPut t m k x
  | .insert t m k x => hMapPut t m k x
  | .range t x => hRange t x
  | .next it b => hNext it b
  | .entry it => hEntry it
  | .extract t i => hExtract t i
  | .call c => hCall c
  | _ => hNo

def wantedX (ops : Array Oper) (st : St) (o : Oper) : Option Bool :=
  match o.guard with
  | none => some true
  | some (j, want) => match ops[j]? with
    | some p => match p.dst with
      | some t => match evT t st with
        | some (.bool b) => some (b == want)
        | some (.tok _) => none
        | some _ => some false
        | none => none
      | none => some false
    | none => some false

def opsX (E : Env) (self : Self) (ops : Array Oper) : List Oper → St → Out Unit
  | [], st => .one () st
  | o :: l, st => match wantedX ops st o with
    | some true => (opX o.op E self o.dst st).bind fun _ st => opsX E self ops l st
    | some false => (fin st o.dst (.tup [])).bind fun _ st => opsX E self ops l st
    | none => .no "guard"

def bindsX (e : Edge) : Bool :=
  match e.ground with
  | .textOnly _ => false
  | .gcOnly _ => false
  | _ => true

def befX (masks : List Nat) : List Edge → Nat → Option Nat
  | [], acc => some acc
  | e :: es, acc => match bindsX e with
    | false => befX masks es acc
    | true => match nth masks e.on with
      | none => none
      | some mk => befX masks es (Nat.lor (Nat.lor acc mk) (Nat.shiftLeft 1 e.on))

def bitX (m i : Nat) : Bool := Nat.beq (Nat.land 1 (Nat.shiftRight m i)) 1

structure Rec where
  i : Nat
  dst : Option Nat
  b : Nat
  m : St
  o : St

def memN (x : Nat) : List Nat → Bool
  | [] => false
  | y :: l => match Nat.beq x y with | true => true | false => memN x l

def fromN (a : Nat) : Nat → List Nat
  | 0 => []
  | n + 1 => a :: fromN (a + 1) n

def Rec.turns (r : Rec) : List Nat :=
  match r.m, r.o with
  | ⟨_, _, _, nx, _, _⟩, ⟨_, _, _, nx', lg, _⟩ => natsApp lg (fromN nx (nx' - nx))

def St.hpOf : St → Tr GO | ⟨_, _, hp, _, _, _⟩ => hp
def St.tmOf : St → Tr AV | ⟨_, tm, _, _, _, _⟩ => tm

def layG (o : Tr GO) : List Nat → Tr GO → Tr GO
  | [], hp => hp
  | g :: l, hp => match Tr.put (Tr.get o g) (pathOf g) hp with
    | .lf => layG o l .lf
    | .nd a b c => layG o l (.nd a b c)

def dropG : List Nat → Tr GO → Tr GO
  | [], hp => hp
  | g :: l, hp => match Tr.put none (pathOf g) hp with
    | .lf => dropG l .lf
    | .nd a b c => dropG l (.nd a b c)

def freeOf (bef : Nat) : List Rec → List Rec
  | [] => []
  | r :: l => match bitX bef r.i with
    | true => freeOf bef l
    | false => match freeOf bef l with | [] => [r] | a :: b => r :: a :: b

def noneTurns : List Rec → Bool
  | [] => true
  | r :: l => match r.turns with
    | [] => noneTurns l
    | _ :: _ => false

def dropAllG : List Rec → Tr GO → Tr GO
  | [], hp => hp
  | r :: l, hp => dropAllG l (dropG r.turns hp)

def dstIn (t : Nat) : List Rec → Bool
  | [] => false
  | r :: l => match r.dst with
    | some d => match Nat.beq d t with
      | true => true
      | false => dstIn t l
    | none => dstIn t l

def tmpsOf : List Operand → List Nat
  | [] => []
  | .tmp t :: l => t :: tmpsOf l
  | _ :: l => tmpsOf l

def looksX (ops : Array Oper) (o : Oper) : List Nat :=
  match o.guard with
  | none => tmpsOf o.op.operands.toList
  | some (j, _) => match ops[j]? with
    | some p => match p.dst with
      | some t => t :: tmpsOf o.op.operands.toList
      | none => tmpsOf o.op.operands.toList
    | none => tmpsOf o.op.operands.toList

def miniT (free : List Rec) (tm : Tr AV) : List Nat → Tr AV → Tr AV
  | [], r => r
  | t :: l, r => match dstIn t free with
    | true => miniT free tm l r
    | false => match Tr.put (Tr.get tm t) (pathOf t) r with
      | .lf => miniT free tm l .lf
      | .nd a b c => miniT free tm l (.nd a b c)

inductive Foot where
  | none_ | one (x : Operand) | full

def footX : Op → Foot
  | .move _ => .none_ | .assign _ => .none_ | .pick .. => .none_ | .alloc _ => .none_ | .box .. => .none_ | .build .. => .none_
  | .buildSlice .. => .none_ | .nilCheck _ => .none_ | .binOp .. => .none_ | .unOp .. => .none_ | .makeInterface .. => .none_
  | .makeFunc .. => .none_ | .makeMap .. => .none_ | .makeSlice .. => .none_ | .fieldAddr .. => .none_ | .field .. => .none_
  | .indexAddr .. => .none_ | .index .. => .none_ | .extract .. => .none_
  | .load _ a => .one a
  | .store _ a _ => .one a
  | _ => .full

def oneG (C : St) (x : Operand) : Tr GO :=
  match ev x C with
  | some (.ptr g _ _) => match C.getG g with
    | some o => match Tr.put (some o) (pathOf g) .lf with
      | .lf => .lf
      | .nd a b c => .nd a b c
    | none => .lf
  | _ => .lf

def miniX (ops : Array Oper) (o : Oper) (free : List Rec) : St → St
  | ⟨ntm, tm, hp, nx, lg, df⟩ =>
    let tm' := miniT free tm (looksX ops o) .lf
    match footX o.op with
    | .none_ => ⟨ntm, tm', .lf, nx, [], df⟩
    | .one x => ⟨ntm, tm', dropAllG free (oneG ⟨ntm, tm, hp, nx, lg, df⟩ x), nx, [], df⟩
    | .full => match noneTurns free with
      | true => ⟨ntm, tm', hp, nx, [], df⟩
      | false => ⟨ntm, tm', dropAllG free hp, nx, [], df⟩

def noneIn (hp : Tr GO) : List Nat → Bool
  | [] => true
  | g :: l => match Tr.get hp g with
    | none => noneIn hp l
    | some _ => false

def noneOf (m : List Nat) : List Nat → Bool
  | [] => true
  | g :: l => match memN g m with
    | true => false
    | false => noneOf m l

def tmFree (tm : Tr AV) : Option Nat → Bool
  | none => true
  | some t => match Tr.get tm t with
    | none => true
    | some _ => false

def dstNe : Option Nat → Option Nat → Bool
  | some a, some b => !Nat.beq a b
  | _, _ => true

def apartX (r q : Rec) : Bool :=
  tmFree r.m.tmOf q.dst && (tmFree q.m.tmOf r.dst && (dstNe r.dst q.dst && (noneIn r.m.hpOf q.turns && (noneIn q.m.hpOf r.turns && noneOf r.turns q.turns))))

def allApart (r : Rec) : List Rec → Bool
  | [] => true
  | q :: l => match apartX r q with
    | true => allApart r l
    | false => false

def allBelow (n : Nat) : List Nat → Bool
  | [] => true
  | g :: l => match Nat.blt g n with
    | true => allBelow n l
    | false => false

def putT (tm : Tr AV) (o : Tr AV) : Option Nat → Tr AV
  | none => tm
  | some d => match Tr.put (Tr.get o d) (pathOf d) tm with
    | .lf => .lf
    | .nd a b c => .nd a b c

def layX (C : St) (whole : Bool) (r : Rec) : St :=
  match C, r.o with
  | ⟨ntm, tm, hp, _, lg, df⟩, ⟨_, tm', hp', nx', lg', _⟩ =>
    match whole with
    | true => ⟨ntm, putT tm tm' r.dst, hp', nx', natsApp lg' lg, df⟩
    | false => ⟨ntm, putT tm tm' r.dst, layG hp' r.turns hp, nx', natsApp lg' lg, df⟩

def isWhole (op : Op) (free : List Rec) : Bool :=
  match footX op with
  | .full => noneTurns free
  | _ => false

def run1X (E : Env) (self : Self) (ops : Array Oper) (o : Oper) (m : St) : Out Unit :=
  match wantedX ops m o with
  | some true => opX o.op E self o.dst m
  | some false => fin m o.dst (.tup [])
  | none => .no "draw guard"

def St.lgOf : St → List Nat | ⟨_, _, _, _, lg, _⟩ => lg
def St.nxOf : St → Nat | ⟨_, _, _, nx, _, _⟩ => nx

def drawX (E : Env) (self : Self) (ops : Array Oper) : List Oper → Nat → List Nat → List Rec → St → Out Unit
  | [], _, _, _, C => .one () C
  | o :: l, i, masks, recs, C => match befX masks o.after.toList 0 with
    | none => .no "draw edges"
    | some bef =>
      let free := freeOf bef recs
      let m := miniX ops o free C
      match run1X E self ops o m with
      | .one _ s =>
        let r : Rec := ⟨i, o.dst, bef, m, s⟩
        match allBelow s.nxOf s.lgOf && allApart r free with
        | false => .no "draw not apart"
        | true => drawX E self ops l (i + 1) (snocL masks bef) (r :: recs) (layX C (isWhole o.op free) r)
      | .two .. => .no "draw two"
      | .no w => .no w

def St.withDf : St → Nat → St
  | ⟨ntm, tm, hp, nx, lg, df⟩, d => ⟨ntm, tm, hp, nx, lg, d :: df⟩

def St.newLoop : St → List Nat → Code → Code → Nat → Option (Nat × St)
  | ⟨ntm, tm, hp, nx, lg, df⟩, ps, asg, body, d => St.newG ⟨ntm, tm, hp, nx, lg, df⟩ (.loop .ready none 0 ntm tm ps asg body d)

def around (ro : Option Nat) (st : St) : Option (Nat × St) :=
  match ro with
  | some l => match st.getG l with
    | some (.loop _ _ _ _ _ _ _ _ d) => some (d, st)
    | _ => none
  | none => match st.newG .defd with
    | some (d, st) => some (d, st.withDf d)
    | none => none

abbrev Cd := Env → Self → Option Nat → St → Out AE

def cSkip : Cd := fun _ _ _ st => .one .normal st
def cRegion (ops : Array Oper) : Cd := fun E self _ st => (opsX E self ops ops.toList st).bind fun _ st => .one .normal st
def cDraw (ops : Array Oper) : Cd := fun E self _ st => (drawX E self ops ops.toList 0 [] [] st).bind fun _ st => .one .normal st
def cSeq (a b : Code) : Cd := fun _ self ro st => (self a ro st).bind fun e st => match e with
  | .normal => self b ro st
  | e => .one e st
def cCond (c : Operand) (a b : Code) : Cd := fun _ self ro st => match ev c st with
  | some (.bool true) => self a ro st
  | some (.bool false) => self b ro st
  | _ => .no "cond"
def cBlock (id : Nat) (b : Code) : Cd := fun _ self ro st => (self b ro st).bind fun e st => match e with
  | .exit id' => match Nat.beq id' id with
    | true => .one .normal st
    | false => .one (.exit id') st
  | e => .one e st
def cLoop (b : Code) : Cd := fun _ self ro st => (self b ro st).bind fun e st => match e with
  | .normal => self (.loop b) ro st
  | e => .one e st
def cScope (b : Code) : Cd := fun _ self ro st => self b ro st
def cExit (id : Nat) : Cd := fun _ _ _ st => .one (.exit id) st
def cRet : Cd := fun _ _ _ st => .one .ret st
def cRange (f : Operand) (ps : Array Nat) (asg body : Code) : Cd := fun E self ro st =>
  match ev f st, around ro st with
  | some f, some (d, st) => match st.newLoop ps.toList asg body d with
    | none => .no "rangeFunc"
    | some (l, st) => (rangeV E self f l st).bind fun _ st =>
      match st.getG l with
      | some (.loop s pend _ _ _ _ _ _ _) => match s with
        | .busy => .no "rangeFunc busy"
        | _ => match st.delG l with
          | none => .no "rangeFunc"
          | some st => match pend with
            | none => .one .normal st
            | some code => self code ro st
      | _ => .no "rangeFunc loop lost"
  | _, _ => .no "rangeFunc"
def cNo : Cd := fun _ _ _ _ => .no "code"

def stepX : Code → Cd
  | .skip => cSkip
  | .label _ => cSkip
  | .region _ ops d => match d with
    | true => cDraw ops
    | false => cRegion ops
  | .seq a b => cSeq a b
  | .cond c a b => cCond c a b
  | .block id b => cBlock id b
  | .loop b => cLoop b
  | .scope b => cScope b
  | .exit id => cExit id
  | .ret => cRet
  | .rangeFunc f ps asg body => cRange f ps asg body
  | .goto _ => cNo
  | .refuse _ => cNo

def ex (E : Env) : Nat → Self
  | 0 => fun _ _ _ => .no "fuel"
  | n + 1 => fun c => stepX c E (ex E n)

end
end Go.Proofs.YtcedalofcekdkaaGreatDoor.Ex
