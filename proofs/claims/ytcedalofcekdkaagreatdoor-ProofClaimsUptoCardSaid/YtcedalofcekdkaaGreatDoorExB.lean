/- The executor by recursors. -/
import Derived.Test.YtcedalofcekdkaaGreatDoorExA
set_option linter.unusedSimpArgs false
set_option linter.unusedVariables false
namespace Go.Proofs.YtcedalofcekdkaaGreatDoor.Ex.F

noncomputable def at_ {α : Type} (p : Pos) : Tr α → Option α := @Pos.rec (fun _ => Tr α → Option α)
   (fun t => @Tr.rec α (fun _ => Option α) none (fun v _ _ _ _ => v) t)
   (fun _ ih t => @Tr.rec α (fun _ => (Tr α → Option α) → Option α) (fun _ => none) (fun _ l _ _ _ ih => ih l) t ih)
   (fun _ ih t => @Tr.rec α (fun _ => (Tr α → Option α) → Option α) (fun _ => none) (fun _ _ r _ _ ih => ih r) t ih) p
noncomputable def put {α : Type} (x : Option α) (p : Pos) : Tr α → Tr α := @Pos.rec (fun _ => Option α → Tr α → Tr α)
   (fun x t => @Tr.rec α (fun _ => Option α → Tr α) (fun x => .nd x .lf .lf) (fun _ l r _ _ x => .nd x l r) t x)
   (fun _ ih x t => @Tr.rec α (fun _ => (Option α → Tr α → Tr α) → Option α → Tr α) (fun ih x => .nd none (ih x .lf) .lf) (fun v l r _ _ ih x => .nd v (ih x l) r) t ih x)
   (fun _ ih x t => @Tr.rec α (fun _ => (Option α → Tr α → Tr α) → Option α → Tr α) (fun ih x => .nd none .lf (ih x .lf)) (fun v l r _ _ ih x => .nd v l (ih x r)) t ih x) p x
theorem at_eq {α : Type} : ∀ (p : Pos) (t : Tr α), at_ p t = Tr.at_ p t
  | .h, .lf => rfl
  | .h, .nd _ _ _ => rfl
  | .o _, .lf => rfl
  | .o p, .nd _ l _ => at_eq p l
  | .i _, .lf => rfl
  | .i p, .nd _ _ r => at_eq p r
theorem put_eq {α : Type} (x : Option α) : ∀ (p : Pos) (t : Tr α), put x p t = Tr.put x p t
  | .h, .lf => rfl
  | .h, .nd _ _ _ => rfl
  | .o p, .lf => congrArg (fun t => Tr.nd none t .lf) (put_eq x p .lf)
  | .o p, .nd v l r => congrArg (fun t => Tr.nd v t r) (put_eq x p l)
  | .i p, .lf => congrArg (fun t => Tr.nd none .lf t) (put_eq x p .lf)
  | .i p, .nd v l r => congrArg (fun t => Tr.nd v l t) (put_eq x p r)

noncomputable def trU (k : Option AV → Tr AV → Tr AV → Out Unit) (t : Tr AV) : Out Unit := @Tr.rec AV (fun _ => (Option AV → Tr AV → Tr AV → Out Unit) → Out Unit) (fun _ => .no "dst") (fun a b c _ _ k => k a b c) t k
noncomputable def ifU (b : Bool) (x y : Out Unit) : Out Unit := @Bool.rec (fun _ => Out Unit → Out Unit → Out Unit) (fun _ y => y) (fun x _ => x) b x y
noncomputable def tmOf (st : St) : Tr AV := @St.rec (fun _ => Tr AV) (fun _ tm _ _ _ _ => tm) st
noncomputable def hpOf (st : St) : Tr GO := @St.rec (fun _ => Tr GO) (fun _ _ hp _ _ _ => hp) st
noncomputable def withTm (st : St) (a : Option AV) (b c : Tr AV) : Out Unit := @St.rec (fun _ => Option AV → Tr AV → Tr AV → Out Unit) (fun ntm _ hp nx lg df a b c => .one () ⟨ntm, .nd a b c, hp, nx, lg, df⟩) st a b c
noncomputable def ltNtm (t : Nat) (st : St) : Bool := @St.rec (fun _ => Nat → Bool) (fun ntm _ _ _ _ _ t => Nat.blt t ntm) st t
noncomputable def finT (t : Nat) (v : AV) (st : St) : Out Unit := ifU (ltNtm t st) (trU (withTm st) (put (some v) (pathOf t) (tmOf st))) (.no "dst")
noncomputable def fin (st : St) (d : Option Nat) (v : AV) : Out Unit := @Option.rec Nat (fun _ => AV → St → Out Unit) (fun _ st => .one () st) finT d v st
theorem finT_eq (t : Nat) (v : AV) (st : St) : finT t v st = Ex.finT t v st := by
  obtain ⟨ntm, tm, hp, nx, lg, df⟩ := st
  show ifU (Nat.blt t ntm) (trU (withTm _) (put (some v) (pathOf t) tm)) (.no "dst") = _
  rw [put_eq]
  simp only [Ex.finT]
  cases Nat.blt t ntm with
  | true => cases Tr.put (some v) (pathOf t) tm <;> rfl
  | false => rfl
theorem fin_eq (st : St) (d : Option Nat) (v : AV) : fin st d v = Ex.fin st d v := by
  cases d with
  | none => rfl
  | some t => exact finT_eq t v st
noncomputable def evT (t : Nat) (st : St) : Option AV := at_ (pathOf t) (tmOf st)
theorem evT_eq (t : Nat) (st : St) : evT t st = Ex.evT t st := by cases st; exact at_eq _ _
noncomputable def ev (x : Operand) : St → Option AV := @Operand.rec (fun _ => St → Option AV) (fun t st => evT t st) (fun v _ => constAV v)
  (fun g _ => @Bool.rec (fun _ => Nat → Option AV) (fun _ => none) (fun g => some (.ptr g 0 0)) (Nat.blt g NG) g) (fun f _ => some (.func (.func f) [] [])) x
theorem ev_eq (x : Operand) (st : St) : ev x st = Ex.ev x st := by
  cases x with
  | tmp t => exact evT_eq t st
  | const v => rfl
  | global g => show @Bool.rec (fun _ => Nat → Option AV) _ _ (Nat.blt g NG) g = _; simp only [Ex.ev]; cases Nat.blt g NG <;> rfl
  | func f => rfl
noncomputable def finO (st : St) (d : Option Nat) (o : Option AV) : Out Unit := @Option.rec AV (fun _ => St → Option Nat → Out Unit) (fun _ _ => .no "op") (fun v st d => fin st d v) o st d
theorem finO_eq (st : St) (d : Option Nat) (o : Option AV) : finO st d o = Ex.finO st d o := by
  cases o with
  | none => rfl
  | some v => exact fin_eq st d v
noncomputable def bindU {β : Type} (o : Out Unit) (f : St → Out β) : Out β := @Out.rec Unit (fun _ => (St → Out β) → Out β) (fun w _ => .no w) (fun _ s f => f s) (fun _ _ ix iy f => .two (ix f) (iy f)) o f
theorem bindU_eq {β : Type} (o : Out Unit) (f : St → Out β) : bindU o f = o.bind fun _ s => f s := by
  induction o with
  | no w => rfl
  | one a s => rfl
  | two x y ix iy => show Out.two (bindU x f) (bindU y f) = _; rw [ix, iy]; rfl
noncomputable def optV (o : Option AV) (k : AV → Option AV) : Option AV := @Option.rec AV (fun _ => (AV → Option AV) → Option AV) (fun _ => none) (fun v k => k v) o k
noncomputable def hMove (x : Operand) : Hd := fun _ _ d st => finO st d (ev x st)
theorem hMove_eq (x : Operand) : hMove x = Ex.hMove x := by
  funext E me d st; unfold hMove Ex.hMove; rw [finO_eq, ev_eq]

noncomputable def pickV (c : AV) : Operand → Operand → St → Option AV :=
  @AV.rec (fun _ => Operand → Operand → St → Option AV) (fun _ => Unit)
    (fun a0 => fun a b st => @Bool.rec (fun _ => Operand → Operand → St → Option AV) (fun _ b st => ev b st) (fun a _ st => ev a st) a0 a b st)
    (fun _ _ => fun _ _ _ => none)
    (fun _ => fun _ _ _ => none)
    (fun _ _ _ => none)
    (fun _ _ _ => fun _ _ _ => none)
    (fun _ _ _ => none)
    (fun _ _ _ _ _ => fun _ _ _ => none)
    (fun _ _ _ _ _ => fun _ _ _ => none)
    (fun _ _ _ _ _ => fun _ _ _ => none)
    (fun _ _ _ => none)
    (fun _ => fun _ _ _ => none)
    (fun _ _ _ => none)
    (fun _ _ _ _ _ => fun _ _ _ => none)
    (fun _ _ _ => none)
    (fun _ _ _ => fun _ _ _ => none)
    (fun _ _ => fun _ _ _ => none)
    (fun _ _ => fun _ _ _ => none)
    (fun _ => fun _ _ _ => none)
    ()
    (fun _ _ _ _ => ())
    c
noncomputable def hPick (c a b : Operand) : Hd := fun _ _ d st => finO st d (optV (ev c st) fun v => pickV v a b st)
theorem hPick_eq (c a b : Operand) : hPick c a b = Ex.hPick c a b := by
  funext E me d st
  unfold hPick Ex.hPick
  rw [finO_eq, ev_eq]
  cases Ex.ev c st with
  | none => rfl
  | some v =>
    cases v <;> try rfl
    rename_i x
    cases x
    · show Ex.finO st d (ev b st) = _; rw [ev_eq]
    · show Ex.finO st d (ev a st) = _; rw [ev_eq]

noncomputable def takeL (n : Nat) : List AV → Option (List AV) := @Nat.rec (fun _ => List AV → Option (List AV)) (fun _ => some [])
  (fun _ ih l => @List.rec AV (fun _ => (List AV → Option (List AV)) → Option (List AV)) (fun _ => none) (fun x l _ ih => @Option.rec (List AV) (fun _ => AV → Option (List AV)) (fun _ => none) (fun r x => some (x :: r)) (ih l) x) l ih) n
theorem takeL_eq : ∀ (n : Nat) (l : List AV), takeL n l = Ex.takeL n l
  | 0, _ => rfl
  | _ + 1, [] => rfl
  | n + 1, x :: l => by
    show @Option.rec (List AV) (fun _ => AV → Option (List AV)) (fun _ => none) (fun r x => some (x :: r)) (takeL n l) x = _
    rw [takeL_eq n l]
    simp only [Ex.takeL]
    cases Ex.takeL n l <;> rfl
noncomputable def dropL (n : Nat) : List AV → List AV := @Nat.rec (fun _ => List AV → List AV) (fun l => l)
  (fun _ ih l => @List.rec AV (fun _ => (List AV → List AV) → List AV) (fun _ => []) (fun _ l _ ih => ih l) l ih) n
theorem dropL_eq : ∀ (n : Nat) (l : List AV), dropL n l = Ex.dropL n l
  | 0, _ => rfl
  | _ + 1, [] => rfl
  | n + 1, _ :: l => dropL_eq n l
noncomputable def memL (m : Nat) (ms : List Mem) : Option (List AV) := @List.rec Mem (fun _ => Nat → Option (List AV)) (fun _ => none)
  (fun x _ ih m => @Mem.rec (fun _ => (Nat → Option (List AV)) → Nat → Option (List AV)) (fun m' _ _ cs ih m => @Bool.rec (fun _ => (Nat → Option (List AV)) → Nat → List AV → Option (List AV)) (fun ih m _ => ih m) (fun _ _ cs => some cs) (Nat.beq m' m) ih m cs) x ih m) ms m
theorem memL_eq (m : Nat) : ∀ ms : List Mem, memL m ms = match findM m ms with | some x => some x.cs | none => none
  | [] => rfl
  | x :: ms => by
    obtain ⟨m', fx, rel, cs⟩ := x
    show @Bool.rec (fun _ => (Nat → Option (List AV)) → Nat → List AV → Option (List AV)) _ _ (Nat.beq m' m) (fun m => memL m ms) m cs = _
    simp only [findM]
    cases Nat.beq m' m with
    | true => rfl
    | false => exact memL_eq m ms
noncomputable def goCells (o : GO) (m : Nat) : Option (List AV) := @GO.rec (fun _ => Nat → Option (List AV)) (fun _ _ ms m => memL m ms) (fun _ _ _ => none) (fun _ _ _ _ _ => none) (fun _ _ _ _ _ _ _ _ _ _ => none) (fun _ => none) o m
noncomputable def optC (o : Option GO) (m : Nat) : Option (List AV) := @Option.rec GO (fun _ => Nat → Option (List AV)) (fun _ => none) goCells o m
noncomputable def globC (E : Env) (g m : Nat) : Option (List AV) := @Nat.rec (fun _ => Env → Nat → Option (List AV)) (fun E g => E.glob g) (fun _ _ _ _ => none) m E g
noncomputable def heapC (st : St) (g m : Nat) : Option (List AV) := optC (at_ (pathOf g) (hpOf st)) m
noncomputable def cellsAt (E : Env) (st : St) (g m : Nat) : Option (List AV) := @Bool.rec (fun _ => Env → St → Nat → Nat → Option (List AV)) (fun _ st g m => heapC st g m) (fun E _ g m => globC E g m) (Nat.blt g NG) E st g m
theorem cellsAt_eq (E : Env) (st : St) (g m : Nat) : cellsAt E st g m = st.cellsAt E g m := by
  unfold cellsAt St.cellsAt
  cases Nat.blt g NG with
  | true => cases m <;> rfl
  | false =>
    obtain ⟨ntm, tm, hp, nx, lg, df⟩ := st
    show optC (at_ (pathOf g) hp) m = _
    rw [at_eq]
    simp only [St.getG, Tr.get]
    cases Tr.at_ (pathOf g) hp with
    | none => rfl
    | some o => cases o <;> first | exact memL_eq m _ | rfl
noncomputable def rd1 (off n : Nat) (cs : List AV) : Option (List AV) := takeL n (dropL off cs)
noncomputable def rd (E : Env) (st : St) (g m off n : Nat) : Option (List AV) := @Option.rec (List AV) (fun _ => Nat → Nat → Option (List AV)) (fun _ _ => none) (fun cs off n => rd1 off n cs) (cellsAt E st g m) off n
theorem rd_eq (E : Env) (st : St) (g m off n : Nat) : rd E st g m off n = st.rd E g m off n := by
  unfold rd St.rd
  rw [cellsAt_eq]
  cases st.cellsAt E g m with
  | none => rfl
  | some cs => show takeL n (dropL off cs) = _; rw [takeL_eq, dropL_eq]
noncomputable def mk1 (l : List AV) : Option AV := @List.rec AV (fun _ => Option AV) none (fun v l _ => @List.rec AV (fun _ => AV → Option AV) (fun v => some v) (fun _ _ _ _ => none) l v) l
noncomputable def mk (isAgg : Bool) (l : List AV) : Option AV := @Bool.rec (fun _ => List AV → Option AV) mk1 (fun l => some (.agg l)) isAgg l
theorem mk_eq (b : Bool) (l : List AV) : mk b l = Ex.mk b l := by
  cases b
  · match l with
    | [] => rfl
    | [_] => rfl
    | _ :: _ :: _ => rfl
  · rfl
noncomputable def mkO (isAgg : Bool) (o : Option (List AV)) : Option AV := @Option.rec (List AV) (fun _ => Bool → Option AV) (fun _ => none) (fun l b => mk b l) o isAgg
noncomputable def loadTI (E : Env) (st : St) (g m off : Nat) (ti : TI) : Option AV := @TI.rec (fun _ => Env → St → Nat → Nat → Nat → Option AV) (fun _ size isAgg _ _ E st g m off => mkO isAgg (rd E st g m off size)) ti E st g m off
noncomputable def optTI (o : Option TI) (E : Env) (st : St) (g m off : Nat) : Option AV := @Option.rec TI (fun _ => Env → St → Nat → Nat → Nat → Option AV) (fun _ _ _ _ _ => none) (fun ti E st g m off => loadTI E st g m off ti) o E st g m off

noncomputable def loadP (v : AV) : Nat → Env → St → Option AV :=
  @AV.rec (fun _ => Nat → Env → St → Option AV) (fun _ => Unit)
    (fun _ => fun _ _ _ => none)
    (fun _ _ => fun _ _ _ => none)
    (fun _ => fun _ _ _ => none)
    (fun _ _ _ => none)
    (fun a0 a1 a2 => fun t E st => optTI (E.ti t) E st a0 a1 a2)
    (fun _ _ _ => none)
    (fun _ _ _ _ _ => fun _ _ _ => none)
    (fun _ _ _ _ _ => fun _ _ _ => none)
    (fun _ _ _ _ _ => fun _ _ _ => none)
    (fun _ _ _ => none)
    (fun _ => fun _ _ _ => none)
    (fun _ _ _ => none)
    (fun _ _ _ _ _ => fun _ _ _ => none)
    (fun _ _ _ => none)
    (fun _ _ _ => fun _ _ _ => none)
    (fun _ _ => fun _ _ _ => none)
    (fun _ _ => fun _ _ _ => none)
    (fun _ => fun _ _ _ => none)
    ()
    (fun _ _ _ _ => ())
    v
noncomputable def hLoad (t : Nat) (a : Operand) : Hd := fun E _ d st => finO st d (optV (ev a st) fun v => loadP v t E st)
theorem hLoad_eq (t : Nat) (a : Operand) : hLoad t a = Ex.hLoad t a := by
  funext E me d st
  unfold hLoad Ex.hLoad
  rw [finO_eq, ev_eq]
  cases Ex.ev a st with
  | none => rfl
  | some v =>
    cases v <;> try rfl
    rename_i g m off
    show Ex.finO st d (optTI (E.ti t) E st g m off) = _
    cases E.ti t with
    | none => rfl
    | some ti =>
      obtain ⟨u, size, ag, z, by_⟩ := ti
      show Ex.finO st d (mkO ag (rd E st g m off size)) = _
      rw [rd_eq]
      simp only
      cases St.rd E st g m off size with
      | none => rfl
      | some l => show Ex.finO st d (mk ag l) = _; rw [mk_eq]

noncomputable def forceN (n : Nat) (k : Nat → AV) : AV := @Nat.rec (fun _ => (Nat → AV) → AV) (fun k => k 0) (fun n _ k => k n) (Nat.add n 1) k
theorem forceN_eq (n : Nat) (k : Nat → AV) : forceN n k = k n := rfl
noncomputable def forceZ (k : IntKind) (z : Int) : AV := @Int.rec (fun _ => IntKind → AV) (fun n k => forceN n fun n => .int k (.ofNat n)) (fun n k => forceN n fun n => .int k (.negSucc n)) z k
theorem forceZ_eq (k : IntKind) (z : Int) : forceZ k z = .int k z := by cases z <;> rfl
noncomputable def hiOf (k : IntKind) : Nat := @IntKind.rec (fun _ => Nat) 128 32768 2147483648 9223372036854775808 256 65536 4294967296 18446744073709551616 k
noncomputable def loOf (k : IntKind) : Nat := @IntKind.rec (fun _ => Nat) 128 32768 2147483648 9223372036854775808 0 0 0 0 k
noncomputable def kindN (k : IntKind) : Nat := @IntKind.rec (fun _ => Nat) 0 1 2 3 4 5 6 7 k
noncomputable def wrapF (k : IntKind) (z : Int) : AV := @Int.rec (fun _ => IntKind → AV)
  (fun n k => @Bool.rec (fun _ => IntKind → Nat → AV) (fun k n => forceZ k (IntKind.wrap k (.ofNat n))) (fun k n => forceN n fun n => .int k (.ofNat n)) (Nat.blt n (hiOf k)) k n)
  (fun n k => @Bool.rec (fun _ => IntKind → Nat → AV) (fun k n => forceZ k (IntKind.wrap k (.negSucc n))) (fun k n => forceN n fun n => .int k (.negSucc n)) (Nat.blt n (loOf k)) k n) z k
theorem wrap_nat (k : IntKind) (n : Nat) (h : Nat.blt n (hiOf k) = true) : IntKind.wrap k (.ofNat n) = .ofNat n := by
  have hn : n < hiOf k := by simp [Nat.blt] at h; omega
  cases k <;> simp only [hiOf] at hn <;> simp only [IntKind.wrap, IntKind.bits, IntKind.signed, Int.ofNat_eq_natCast] <;> simp <;> omega
theorem wrap_neg (k : IntKind) (n : Nat) (h : Nat.blt n (loOf k) = true) : IntKind.wrap k (.negSucc n) = .negSucc n := by
  have hn : n < loOf k := by simp [Nat.blt] at h; omega
  cases k <;> simp only [loOf] at hn <;> simp only [IntKind.wrap, IntKind.bits, IntKind.signed, Int.negSucc_eq] <;> simp <;> omega
theorem wrapF_eq (k : IntKind) (z : Int) : wrapF k z = .int k (k.wrap z) := by
  cases z with
  | ofNat n =>
    show @Bool.rec (fun _ => IntKind → Nat → AV) _ _ (Nat.blt n (hiOf k)) k n = _
    cases h : Nat.blt n (hiOf k) with
    | true => show AV.int k (.ofNat n) = _; rw [wrap_nat k n h]
    | false => exact forceZ_eq _ _
  | negSucc n =>
    show @Bool.rec (fun _ => IntKind → Nat → AV) _ _ (Nat.blt n (loOf k)) k n = _
    cases h : Nat.blt n (loOf k) with
    | true => show AV.int k (.negSucc n) = _; rw [wrap_neg k n h]
    | false => exact forceZ_eq _ _
noncomputable def subNN (m n : Nat) : Int := @Bool.rec (fun _ => Nat → Nat → Int) (fun m n => .negSucc (Nat.pred (Nat.sub n m))) (fun m n => .ofNat (Nat.sub m n)) (Nat.ble n m) m n
theorem subNN_eq (m n : Nat) : subNN m n = (m : Int) - n := by
  unfold subNN
  cases h : Nat.ble n m with
  | true => have := Nat.le_of_ble_eq_true h; show Int.ofNat (m - n) = _; rw [Int.ofNat_eq_natCast]; omega
  | false =>
    have : m < n := by
      rcases Nat.lt_or_ge m n with c | c
      · exact c
      · rw [Nat.ble_eq_true_of_le c] at h; cases h
    show Int.negSucc (Nat.pred (n - m)) = _
    rw [Int.negSucc_eq, Nat.pred_eq_sub_one]; omega
noncomputable def addZ (a b : Int) : Int := @Int.rec (fun _ => Int → Int) (fun m b => @Int.rec (fun _ => Nat → Int) (fun n m => .ofNat (Nat.add m n)) (fun n m => subNN m (Nat.succ n)) b m)
  (fun m b => @Int.rec (fun _ => Nat → Int) (fun n m => subNN n (Nat.succ m)) (fun n m => .negSucc (Nat.succ (Nat.add m n))) b m) a b
theorem addZ_eq (a b : Int) : addZ a b = a + b := by
  cases a with
  | ofNat m => cases b with
    | ofNat n => rfl
    | negSucc n => show subNN m (n + 1) = _; rw [subNN_eq, Int.ofNat_eq_natCast, Int.negSucc_eq]; omega
  | negSucc m => cases b with
    | ofNat n => show subNN n (m + 1) = _; rw [subNN_eq, Int.ofNat_eq_natCast, Int.negSucc_eq]; omega
    | negSucc n => show Int.negSucc (m + n + 1) = _; rw [Int.negSucc_eq, Int.negSucc_eq, Int.negSucc_eq]; omega
noncomputable def negN (n : Nat) : Int := @Nat.rec (fun _ => Int) (.ofNat 0) (fun n _ => .negSucc n) n
noncomputable def negZ (a : Int) : Int := @Int.rec (fun _ => Int) negN (fun n => .ofNat (Nat.succ n)) a
theorem negZ_eq (a : Int) : negZ a = -a := by
  cases a with
  | ofNat n => cases n <;> rfl
  | negSucc n => rfl
noncomputable def ltZ (a b : Int) : Bool := @Int.rec (fun _ => Int → Bool) (fun m b => @Int.rec (fun _ => Nat → Bool) (fun n m => Nat.blt m n) (fun _ _ => false) b m)
  (fun m b => @Int.rec (fun _ => Nat → Bool) (fun _ _ => true) (fun n m => Nat.blt n m) b m) a b
theorem blt_eq (m n : Nat) : Nat.blt m n = decide (m < n) := by
  rw [Bool.eq_iff_iff]; simp [Nat.blt]; omega
theorem ltZ_eq (a b : Int) : ltZ a b = decide (a < b) := by
  cases a with
  | ofNat m => cases b with
    | ofNat n => show Nat.blt m n = _; rw [blt_eq, Bool.eq_iff_iff]; simp
    | negSucc n => show false = _; symm; rw [decide_eq_false_iff_not, Int.ofNat_eq_natCast, Int.negSucc_eq]; omega
  | negSucc m => cases b with
    | ofNat n => show true = _; symm; rw [decide_eq_true_iff, Int.ofNat_eq_natCast, Int.negSucc_eq]; omega
    | negSucc n => show Nat.blt n m = _; rw [blt_eq, Bool.eq_iff_iff, decide_eq_true_iff, decide_eq_true_iff, Int.negSucc_eq, Int.negSucc_eq]; omega
noncomputable def eqZ (a b : Int) : Bool := @Int.rec (fun _ => Int → Bool) (fun m b => @Int.rec (fun _ => Nat → Bool) (fun n m => Nat.beq m n) (fun _ _ => false) b m)
  (fun m b => @Int.rec (fun _ => Nat → Bool) (fun _ _ => false) (fun n m => Nat.beq n m) b m) a b
theorem eqZ_eq (a b : Int) : eqZ a b = decide (a = b) := by
  cases a with
  | ofNat m => cases b with
    | ofNat n => show Nat.beq m n = _; rw [Bool.eq_iff_iff, Nat.beq_eq, decide_eq_true_iff, Int.ofNat_eq_natCast, Int.ofNat_eq_natCast]; omega
    | negSucc n => show false = _; simp
  | negSucc m => cases b with
    | ofNat n => show false = _; simp
    | negSucc n => show Nat.beq n m = _; rw [Bool.eq_iff_iff, Nat.beq_eq]; simp; omega
noncomputable def notB (b : Bool) : Bool := @Bool.rec (fun _ => Bool) true false b
noncomputable def boolV (b : Bool) : Option AV := @Bool.rec (fun _ => Option AV) (some (.bool false)) (some (.bool true)) b
theorem boolV_eq (b : Bool) : boolV b = some (.bool b) := by cases b <;> rfl
noncomputable def slowI (op : BinOp) : Nat → IntKind → Int → IntKind → Int → Option AV := fun t k a j b => pureVal (binOp op t (.int k a) (.int j b))
noncomputable def sameK (f g : Nat → IntKind → Int → IntKind → Int → Option AV) : Nat → IntKind → Int → IntKind → Int → Option AV := fun t k a j b =>
  @Bool.rec (fun _ => Nat → IntKind → Int → IntKind → Int → Option AV) g f (Nat.beq (kindN k) (kindN j)) t k a j b
theorem kindN_inj {k j : IntKind} (h : Nat.beq (kindN k) (kindN j) = true) : k = j := by
  have := Nat.eq_of_beq_eq_true h
  cases k <;> cases j <;> first | rfl | (simp [kindN] at this)
noncomputable def binII (op : BinOp) : Nat → IntKind → Int → IntKind → Int → Option AV := @BinOp.rec (fun _ => Nat → IntKind → Int → IntKind → Int → Option AV)
  (sameK (fun _ k a _ b => some (wrapF k (addZ a b))) (slowI .add)) (sameK (fun _ k a _ b => some (wrapF k (addZ a (negZ b)))) (slowI .sub)) (slowI .mul) (slowI .quo) (slowI .rem) (slowI .and) (slowI .or) (slowI .xor) (slowI .shl) (slowI .shr) (slowI .andNot)
  (sameK (fun _ _ a _ b => boolV (eqZ a b)) (slowI .eql)) (sameK (fun _ _ a _ b => boolV (notB (eqZ a b))) (slowI .neq)) (sameK (fun _ _ a _ b => boolV (ltZ a b)) (slowI .lss)) (sameK (fun _ _ a _ b => boolV (notB (ltZ b a))) (slowI .leq)) (sameK (fun _ _ a _ b => boolV (ltZ b a)) (slowI .gtr)) (sameK (fun _ _ a _ b => boolV (notB (ltZ a b))) (slowI .geq)) op
theorem sameK_eq {f : Nat → IntKind → Int → IntKind → Int → Option AV} {op : BinOp} (h : ∀ t k a b, f t k a k b = slowI op t k a k b) (t : Nat) (k : IntKind) (a : Int) (j : IntKind) (b : Int) : sameK f (slowI op) t k a j b = slowI op t k a j b := by
  unfold sameK
  cases hk : Nat.beq (kindN k) (kindN j) with
  | true => have := kindN_inj hk; subst this; exact h t k a b
  | false => rfl
theorem cmp1 (a b : Int) : eqZ a b = (a == b) := by rw [eqZ_eq]; rfl
theorem cmp2 (a b : Int) : notB (eqZ a b) = (a != b) := by
  rw [eqZ_eq, Bool.eq_iff_iff, bne_iff_ne]
  by_cases h : a = b <;> simp [h, notB]
theorem cmp3 (a b : Int) : ltZ a b = decide (a < b) := ltZ_eq a b
theorem cmp4 (a b : Int) : notB (ltZ b a) = decide (a ≤ b) := by
  rw [ltZ_eq, Bool.eq_iff_iff, decide_eq_true_iff]
  by_cases h : b < a <;> simp [h, notB] <;> omega
theorem cmp5 (a b : Int) : ltZ b a = decide (a > b) := ltZ_eq b a
theorem cmp6 (a b : Int) : notB (ltZ a b) = decide (a ≥ b) := by
  rw [ltZ_eq, Bool.eq_iff_iff, decide_eq_true_iff]
  by_cases h : a < b <;> simp [h, notB] <;> omega
theorem binII_eq (op : BinOp) (t : Nat) (k : IntKind) (a : Int) (j : IntKind) (b : Int) : binII op t k a j b = pureVal (binOp op t (.int k a) (.int j b)) := by
  cases op <;> first
    | rfl
    | (refine sameK_eq (fun t k a b => ?_) t k a j b
       first
       | (rw [wrapF_eq, addZ_eq]; simp only [slowI, binOp, Op.intArith, ne_eq, not_true_eq_false, if_false]; rfl)
       | (rw [wrapF_eq, addZ_eq, negZ_eq, ← Int.sub_eq_add_neg]; simp only [slowI, binOp, Op.intArith, ne_eq, not_true_eq_false, if_false]; rfl)
       | (rw [boolV_eq]; simp only [slowI, binOp, Op.intCmp, ne_eq, not_true_eq_false, if_false]; refine congrArg (fun b => some (AV.bool b)) ?_; first | exact cmp1 a b | exact cmp2 a b | exact cmp3 a b | exact cmp4 a b | exact cmp5 a b | exact cmp6 a b))
noncomputable def binI (y : AV) : IntKind → Int → Env → BinOp → Nat → Option AV :=
  @AV.rec (fun _ => IntKind → Int → Env → BinOp → Nat → Option AV) (fun _ => Unit)
    (fun a0 => fun k a E op t => binX E op t (.int k a) (.bool a0))
    (fun a0 a1 => fun k a _ op t => binII op t k a a0 a1)
    (fun a0 => fun k a E op t => binX E op t (.int k a) (.str a0))
    (fun k a E op t => binX E op t (.int k a) (.nilp))
    (fun a0 a1 a2 => fun k a E op t => binX E op t (.int k a) (.ptr a0 a1 a2))
    (fun k a E op t => binX E op t (.int k a) (.nils))
    (fun a0 a1 a2 a3 a4 => fun k a E op t => binX E op t (.int k a) (.sl a0 a1 a2 a3 a4))
    (fun a0 a1 a2 a3 a4 => fun k a E op t => binX E op t (.int k a) (.su a0 a1 a2 a3 a4))
    (fun a0 a1 a2 a3 a4 => fun k a E op t => binX E op t (.int k a) (.sr a0 a1 a2 a3 a4))
    (fun k a E op t => binX E op t (.int k a) (.nilm))
    (fun a0 => fun k a E op t => binX E op t (.int k a) (.map a0))
    (fun k a E op t => binX E op t (.int k a) (.nilf))
    (fun a0 a1 a2 _ _ => fun k a E op t => binX E op t (.int k a) (.func a0 a1 a2))
    (fun k a E op t => binX E op t (.int k a) (.nili))
    (fun a0 a1 _ => fun k a E op t => binX E op t (.int k a) (.iface a0 a1))
    (fun a0 _ => fun k a E op t => binX E op t (.int k a) (.agg a0))
    (fun a0 _ => fun k a E op t => binX E op t (.int k a) (.tup a0))
    (fun a0 => fun k a E op t => binX E op t (.int k a) (.tok a0))
    ()
    (fun _ _ _ _ => ())
    y
noncomputable def binNil (y : AV) : Bool → Env → BinOp → Nat → Option AV :=
  @AV.rec (fun _ => Bool → Env → BinOp → Nat → Option AV) (fun _ => Unit)
    (fun a0 => fun _ E op t => binX E op t .nili (.bool a0))
    (fun a0 a1 => fun _ E op t => binX E op t .nili (.int a0 a1))
    (fun a0 => fun _ E op t => binX E op t .nili (.str a0))
    (fun _ E op t => binX E op t .nili (.nilp))
    (fun a0 a1 a2 => fun _ E op t => binX E op t .nili (.ptr a0 a1 a2))
    (fun _ E op t => binX E op t .nili (.nils))
    (fun a0 a1 a2 a3 a4 => fun _ E op t => binX E op t .nili (.sl a0 a1 a2 a3 a4))
    (fun a0 a1 a2 a3 a4 => fun _ E op t => binX E op t .nili (.su a0 a1 a2 a3 a4))
    (fun a0 a1 a2 a3 a4 => fun _ E op t => binX E op t .nili (.sr a0 a1 a2 a3 a4))
    (fun _ E op t => binX E op t .nili (.nilm))
    (fun a0 => fun _ E op t => binX E op t .nili (.map a0))
    (fun _ E op t => binX E op t .nili (.nilf))
    (fun a0 a1 a2 _ _ => fun _ E op t => binX E op t .nili (.func a0 a1 a2))
    (fun lit E op t => @Bool.rec (fun _ => Env → BinOp → Nat → Option AV) (fun _ _ _ => none) (fun E op t => nilNil op t E) lit E op t)
    (fun a0 a1 _ => fun _ E op t => binX E op t .nili (.iface a0 a1))
    (fun a0 _ => fun _ E op t => binX E op t .nili (.agg a0))
    (fun a0 _ => fun _ E op t => binX E op t .nili (.tup a0))
    (fun a0 => fun _ E op t => binX E op t .nili (.tok a0))
    ()
    (fun _ _ _ _ => ())
    y
noncomputable def binV (x : AV) : AV → Bool → Env → BinOp → Nat → Option AV :=
  @AV.rec (fun _ => AV → Bool → Env → BinOp → Nat → Option AV) (fun _ => Unit)
    (fun a0 => fun y _ E op t => binX E op t (.bool a0) y)
    (fun a0 a1 => fun y _ E op t => binI y a0 a1 E op t)
    (fun a0 => fun y _ E op t => binX E op t (.str a0) y)
    (fun y _ E op t => binX E op t (.nilp) y)
    (fun a0 a1 a2 => fun y _ E op t => binX E op t (.ptr a0 a1 a2) y)
    (fun y _ E op t => binX E op t (.nils) y)
    (fun a0 a1 a2 a3 a4 => fun y _ E op t => binX E op t (.sl a0 a1 a2 a3 a4) y)
    (fun a0 a1 a2 a3 a4 => fun y _ E op t => binX E op t (.su a0 a1 a2 a3 a4) y)
    (fun a0 a1 a2 a3 a4 => fun y _ E op t => binX E op t (.sr a0 a1 a2 a3 a4) y)
    (fun y _ E op t => binX E op t (.nilm) y)
    (fun a0 => fun y _ E op t => binX E op t (.map a0) y)
    (fun y _ E op t => binX E op t (.nilf) y)
    (fun a0 a1 a2 _ _ => fun y _ E op t => binX E op t (.func a0 a1 a2) y)
    (fun y lit E op t => binNil y lit E op t)
    (fun a0 a1 _ => fun y _ E op t => binX E op t (.iface a0 a1) y)
    (fun a0 _ => fun y _ E op t => binX E op t (.agg a0) y)
    (fun a0 _ => fun y _ E op t => binX E op t (.tup a0) y)
    (fun a0 => fun y _ E op t => binX E op t (.tok a0) y)
    ()
    (fun _ _ _ _ => ())
    x
noncomputable def lit2 (x y : Operand) : Bool := isLit x || isLit y
noncomputable def hBin (op : BinOp) (t : Nat) (x y : Operand) : Hd := fun E _ d st => finO st d (optV (ev x st) fun a => optV (ev y st) fun b => binV a b (lit2 x y) E op t)
theorem hBin_eq (op : BinOp) (t : Nat) (x y : Operand) : hBin op t x y = Ex.hBin op t x y := by
  funext E me d st
  unfold hBin Ex.hBin
  rw [finO_eq, ev_eq, ev_eq]
  cases Ex.ev x st with
  | none => rfl
  | some a =>
    cases Ex.ev y st with
    | none => cases a <;> rfl
    | some b =>
      show Ex.finO st d (binV a b (lit2 x y) E op t) = _
      unfold lit2
      cases a
      case int k n =>
        cases b <;> try rfl
        rename_i j m
        show Ex.finO st d (binII op t k n j m) = _
        rw [binII_eq]; rfl
      case nili =>
        cases b <;> try rfl
        cases (isLit x || isLit y) <;> rfl
      all_goals rfl
noncomputable def hUn (op : UnOp) (x : Operand) : Hd := fun _ _ d st => finO st d (optV (ev x st) (unX op))
theorem hUn_eq (op : UnOp) (x : Operand) : hUn op x = Ex.hUn op x := by
  funext E me d st
  unfold hUn Ex.hUn
  rw [finO_eq, ev_eq]
  cases Ex.ev x st <;> rfl

noncomputable def natOf (v : AV) : Option Nat :=
  @AV.rec (fun _ => Option Nat) (fun _ => Unit)
    (fun _ => none)
    (fun a0 a1 => @Int.rec (fun _ => Option Nat) (fun n => some n) (fun _ => none) a1)
    (fun _ => none)
    (none)
    (fun _ _ _ => none)
    (none)
    (fun _ _ _ _ _ => none)
    (fun _ _ _ _ _ => none)
    (fun _ _ _ _ _ => none)
    (none)
    (fun _ => none)
    (none)
    (fun _ _ _ _ _ => none)
    (none)
    (fun _ _ _ => none)
    (fun _ _ => none)
    (fun _ _ => none)
    (fun _ => none)
    ()
    (fun _ _ _ _ => ())
    v
theorem natOf_eq (v : AV) : natOf v = intOf v := by
  cases v <;> try rfl
  rename_i k n
  cases n <;> rfl
noncomputable def optN (o : Option Nat) (k : Nat → Option AV) : Option AV := @Option.rec Nat (fun _ => (Nat → Option AV) → Option AV) (fun _ => none) (fun v k => k v) o k
noncomputable def forceP (g m : Nat) (n : Nat) : Option AV := @Nat.rec (fun _ => Nat → Nat → Option AV) (fun g m => some (.ptr g m 0)) (fun n _ g m => some (.ptr g m n)) (Nat.add n 1) g m
theorem forceP_eq (g m n : Nat) : forceP g m n = some (.ptr g m n) := rfl
noncomputable def atI (e g m off len i : Nat) (E : Env) : Option AV := @Bool.rec (fun _ => Nat → Nat → Nat → Nat → Nat → Env → Option AV) (fun _ _ _ _ _ _ => none)
  (fun e g m off i E => @Option.rec TI (fun _ => Nat → Nat → Nat → Nat → Option AV) (fun _ _ _ _ => none) (fun ti g m off i => @TI.rec (fun _ => Nat → Nat → Nat → Nat → Option AV) (fun _ size _ _ _ g m off i => forceP g m (Nat.add off (Nat.mul i size))) ti g m off i) (E.ti e) g m off i) (Nat.blt i len) e g m off i E
theorem atI_eq (e g m off len i : Nat) (E : Env) : atI e g m off len i E = match Nat.blt i len, E.ti e with
      | true, some ei => some (.ptr g m (off + i * ei.size))
      | _, _ => none := by
  unfold atI
  cases Nat.blt i len with
  | false => rfl
  | true =>
    cases h : E.ti e with
    | none => simp only [h]
    | some ti => simp only [h]; rfl
noncomputable def iaS (x : AV) : Nat → Nat → Env → Option AV :=
  @AV.rec (fun _ => Nat → Nat → Env → Option AV) (fun _ => Unit)
    (fun _ => fun _ _ _ => none)
    (fun _ _ => fun _ _ _ => none)
    (fun _ => fun _ _ _ => none)
    (fun _ _ _ => none)
    (fun _ _ _ => fun _ _ _ => none)
    (fun _ _ _ => none)
    (fun a0 a1 a2 a3 a4 => fun e i E => atI e a0 a1 a2 a3 i E)
    (fun a0 a1 a2 a3 a4 => fun e i E => atI e a0 a1 a2 a3 i E)
    (fun _ _ _ _ _ => fun _ _ _ => none)
    (fun _ _ _ => none)
    (fun _ => fun _ _ _ => none)
    (fun _ _ _ => none)
    (fun _ _ _ _ _ => fun _ _ _ => none)
    (fun _ _ _ => none)
    (fun _ _ _ => fun _ _ _ => none)
    (fun _ _ => fun _ _ _ => none)
    (fun _ _ => fun _ _ _ => none)
    (fun _ => fun _ _ _ => none)
    ()
    (fun _ _ _ _ => ())
    x
noncomputable def iaA (x : AV) : Nat → Nat → Nat → Env → Option AV :=
  @AV.rec (fun _ => Nat → Nat → Nat → Env → Option AV) (fun _ => Unit)
    (fun _ => fun _ _ _ _ => none)
    (fun _ _ => fun _ _ _ _ => none)
    (fun _ => fun _ _ _ _ => none)
    (fun _ _ _ _ => none)
    (fun a0 a1 a2 => fun n e i E => atI e a0 a1 a2 n i E)
    (fun _ _ _ _ => none)
    (fun _ _ _ _ _ => fun _ _ _ _ => none)
    (fun _ _ _ _ _ => fun _ _ _ _ => none)
    (fun _ _ _ _ _ => fun _ _ _ _ => none)
    (fun _ _ _ _ => none)
    (fun _ => fun _ _ _ _ => none)
    (fun _ _ _ _ => none)
    (fun _ _ _ _ _ => fun _ _ _ _ => none)
    (fun _ _ _ _ => none)
    (fun _ _ _ => fun _ _ _ _ => none)
    (fun _ _ => fun _ _ _ _ => none)
    (fun _ _ => fun _ _ _ _ => none)
    (fun _ => fun _ _ _ _ => none)
    ()
    (fun _ _ _ _ => ())
    x
noncomputable def iaU (u : UK) : AV → Nat → Env → Option AV :=
  @UK.rec (fun _ => AV → Nat → Env → Option AV)
    (fun _ _ _ => none)
    (fun _ => fun _ _ _ => none)
    (fun _ _ _ => none)
    (fun _ => fun _ _ _ => none)
    (fun _ _ _ => none)
    (fun u0 => fun x i E => iaS x u0 i E)
    (fun u0 u1 => fun x i E => iaA x u0 u1 i E)
    (fun _ _ => fun _ _ _ => none)
    (fun _ => fun _ _ _ => none)
    (fun _ _ _ => none)
    (fun _ _ _ => none)
    (fun _ _ _ => none)
    u
noncomputable def iaT (o : Option TI) (x : AV) (i : Nat) (E : Env) : Option AV := @Option.rec TI (fun _ => AV → Nat → Env → Option AV) (fun _ _ _ => none) (fun ti x i E => @TI.rec (fun _ => AV → Nat → Env → Option AV) (fun u _ _ _ _ x i E => iaU u x i E) ti x i E) o x i E
noncomputable def hIndexAddr (t : Nat) (x i : Operand) : Hd := fun E _ d st => finO st d (optV (ev x st) fun a => optV (ev i st) fun b => optN (natOf b) fun n => iaT (E.ti t) a n E)
theorem hIndexAddr_eq (t : Nat) (x i : Operand) : hIndexAddr t x i = Ex.hIndexAddr t x i := by
  funext E me d st
  unfold hIndexAddr Ex.hIndexAddr
  rw [finO_eq, ev_eq, ev_eq]
  cases Ex.ev x st with
  | none => rfl
  | some a =>
    cases Ex.ev i st with
    | none => rfl
    | some b =>
      show Ex.finO st d (optN (natOf b) fun n => iaT (E.ti t) a n E) = Ex.finO st d (indexAddrX E t a b)
      rw [natOf_eq]
      unfold indexAddrX
      cases intOf b with
      | none => rfl
      | some n =>
        show Ex.finO st d (iaT (E.ti t) a n E) = _
        simp only
        cases E.ti t with
        | none => rfl
        | some ti =>
          obtain ⟨u, size, ag, z, by_⟩ := ti
          cases u <;> try rfl
          · rename_i e
            cases a <;> first | rfl | exact congrArg (Ex.finO st d) (atI_eq ..)
          · rename_i k e
            cases a <;> first | rfl | exact congrArg (Ex.finO st d) (atI_eq ..)
noncomputable def nthN (l : List Nat) (i : Nat) : Option Nat := @Nat.rec (fun _ => List Nat → Option Nat) (fun l => @List.rec Nat (fun _ => Option Nat) none (fun x _ _ => some x) l) (fun _ ih l => @List.rec Nat (fun _ => (List Nat → Option Nat) → Option Nat) (fun _ => none) (fun _ l _ ih => ih l) l ih) i l
theorem nthN_eq : ∀ (l : List Nat) (i : Nat), nthN l i = nth l i
  | [], 0 => rfl
  | [], _ + 1 => rfl
  | _ :: _, 0 => rfl
  | _ :: l, i + 1 => nthN_eq l i
noncomputable def ixS (x : AV) : Nat → Option AV :=
  @AV.rec (fun _ => Nat → Option AV) (fun _ => Unit)
    (fun _ => fun _ => none)
    (fun _ _ => fun _ => none)
    (fun a0 => fun i => optN (nthN a0 i) fun b => some (forceZ .u8 (.ofNat (Nat.mod b 256))))
    (fun _ => none)
    (fun _ _ _ => fun _ => none)
    (fun _ => none)
    (fun _ _ _ _ _ => fun _ => none)
    (fun _ _ _ _ _ => fun _ => none)
    (fun _ _ _ _ _ => fun _ => none)
    (fun _ => none)
    (fun _ => fun _ => none)
    (fun _ => none)
    (fun _ _ _ _ _ => fun _ => none)
    (fun _ => none)
    (fun _ _ _ => fun _ => none)
    (fun _ _ => fun _ => none)
    (fun _ _ => fun _ => none)
    (fun _ => fun _ => none)
    ()
    (fun _ _ _ _ => ())
    x
noncomputable def ixE (i : Nat) (cs : List AV) (o : Option TI) : Option AV := @Option.rec TI (fun _ => Nat → List AV → Option AV) (fun _ _ => none) (fun ti i cs => @TI.rec (fun _ => Nat → List AV → Option AV) (fun _ size isAgg _ _ i cs => mkO isAgg (rd1 (Nat.mul i size) size cs)) ti i cs) o i cs
noncomputable def ixA (x : AV) : Nat → Nat → Nat → Env → Option AV :=
  @AV.rec (fun _ => Nat → Nat → Nat → Env → Option AV) (fun _ => Unit)
    (fun _ => fun _ _ _ _ => none)
    (fun _ _ => fun _ _ _ _ => none)
    (fun _ => fun _ _ _ _ => none)
    (fun _ _ _ _ => none)
    (fun _ _ _ => fun _ _ _ _ => none)
    (fun _ _ _ _ => none)
    (fun _ _ _ _ _ => fun _ _ _ _ => none)
    (fun _ _ _ _ _ => fun _ _ _ _ => none)
    (fun _ _ _ _ _ => fun _ _ _ _ => none)
    (fun _ _ _ _ => none)
    (fun _ => fun _ _ _ _ => none)
    (fun _ _ _ _ => none)
    (fun _ _ _ _ _ => fun _ _ _ _ => none)
    (fun _ _ _ _ => none)
    (fun _ _ _ => fun _ _ _ _ => none)
    (fun a0 _ => fun n e i E => @Bool.rec (fun _ => Nat → Nat → List AV → Env → Option AV) (fun _ _ _ _ => none) (fun e i cs E => ixE i cs (E.ti e)) (Nat.blt i n) e i a0 E)
    (fun _ _ => fun _ _ _ _ => none)
    (fun _ => fun _ _ _ _ => none)
    ()
    (fun _ _ _ _ => ())
    x
noncomputable def ixU (u : UK) : AV → Nat → Env → Option AV :=
  @UK.rec (fun _ => AV → Nat → Env → Option AV)
    (fun _ _ _ => none)
    (fun _ => fun _ _ _ => none)
    (fun x i _ => ixS x i)
    (fun _ => fun _ _ _ => none)
    (fun _ _ _ => none)
    (fun _ => fun _ _ _ => none)
    (fun u0 u1 => fun x i E => ixA x u0 u1 i E)
    (fun _ _ => fun _ _ _ => none)
    (fun _ => fun _ _ _ => none)
    (fun _ _ _ => none)
    (fun _ _ _ => none)
    (fun _ _ _ => none)
    u
noncomputable def ixT (o : Option TI) (x : AV) (i : Nat) (E : Env) : Option AV := @Option.rec TI (fun _ => AV → Nat → Env → Option AV) (fun _ _ _ => none) (fun ti x i E => @TI.rec (fun _ => AV → Nat → Env → Option AV) (fun u _ _ _ _ x i E => ixU u x i E) ti x i E) o x i E
noncomputable def hIndex (t : Nat) (x i : Operand) : Hd := fun E _ d st => finO st d (optV (ev x st) fun a => optV (ev i st) fun b => optN (natOf b) fun n => ixT (E.ti t) a n E)
theorem hIndex_eq (t : Nat) (x i : Operand) : hIndex t x i = Ex.hIndex t x i := by
  funext E me d st
  unfold hIndex Ex.hIndex
  rw [finO_eq, ev_eq, ev_eq]
  cases Ex.ev x st with
  | none => rfl
  | some a =>
    cases Ex.ev i st with
    | none => rfl
    | some b =>
      show Ex.finO st d (optN (natOf b) fun n => ixT (E.ti t) a n E) = Ex.finO st d (indexX E t a b)
      rw [natOf_eq]
      unfold indexX
      cases intOf b with
      | none => rfl
      | some n =>
        show Ex.finO st d (ixT (E.ti t) a n E) = _
        simp only
        cases E.ti t with
        | none => rfl
        | some ti =>
          obtain ⟨u, size, ag, z, by_⟩ := ti
          cases u <;> try rfl
          · cases a <;> try rfl
            rename_i l
            show Ex.finO st d (optN (nthN l n) fun b => some (forceZ .u8 (.ofNat (Nat.mod b 256)))) = _
            rw [nthN_eq]
            simp only
            cases nth l n <;> rfl
          · rename_i k e
            cases a <;> try rfl
            rename_i cs
            show Ex.finO st d (@Bool.rec (fun _ => Nat → Nat → List AV → Env → Option AV) _ _ (Nat.blt n k) e n cs E) = _
            simp only
            cases Nat.blt n k with
            | false => rfl
            | true =>
              show Ex.finO st d (ixE n cs (E.ti e)) = _
              cases E.ti e with
              | none => rfl
              | some ei =>
                obtain ⟨u2, size2, ag2, z2, by2⟩ := ei
                show Ex.finO st d (mkO ag2 (takeL size2 (dropL (n * size2) cs))) = _
                rw [takeL_eq, dropL_eq]
                simp only
                cases Ex.takeL size2 (Ex.dropL (n * size2) cs) with
                | none => rfl
                | some l => show Ex.finO st d (mk ag2 l) = _; rw [mk_eq]
noncomputable def faP (x : AV) : Nat → Option AV :=
  @AV.rec (fun _ => Nat → Option AV) (fun _ => Unit)
    (fun _ => fun _ => none)
    (fun _ _ => fun _ => none)
    (fun _ => fun _ => none)
    (fun _ => none)
    (fun a0 a1 a2 => fun fo => forceP a0 a1 (Nat.add a2 fo))
    (fun _ => none)
    (fun _ _ _ _ _ => fun _ => none)
    (fun _ _ _ _ _ => fun _ => none)
    (fun _ _ _ _ _ => fun _ => none)
    (fun _ => none)
    (fun _ => fun _ => none)
    (fun _ => none)
    (fun _ _ _ _ _ => fun _ => none)
    (fun _ => none)
    (fun _ _ _ => fun _ => none)
    (fun _ _ => fun _ => none)
    (fun _ _ => fun _ => none)
    (fun _ => fun _ => none)
    ()
    (fun _ _ _ _ => ())
    x
noncomputable def faF (o : Option (Nat × Nat × Nat)) (x : AV) : Option AV := @Option.rec (Nat × Nat × Nat) (fun _ => AV → Option AV) (fun _ => none) (fun f x => @Prod.rec Nat (Nat × Nat) (fun _ => AV → Option AV) (fun fo r x => @Prod.rec Nat Nat (fun _ => Nat → AV → Option AV) (fun _ fs fo x => @Bool.rec (fun _ => Nat → AV → Option AV) (fun fo x => faP x fo) (fun _ _ => none) (Nat.beq fs 0) fo x) r fo x) f x) o x
noncomputable def hFieldAddr (t : Nat) (x : Operand) (f : Nat) : Hd := fun E _ d st => finO st d (optV (ev x st) fun a => faF (fieldOf E t f) a)
theorem hFieldAddr_eq (t : Nat) (x : Operand) (f : Nat) : hFieldAddr t x f = Ex.hFieldAddr t x f := by
  funext E me d st
  unfold hFieldAddr Ex.hFieldAddr
  rw [finO_eq, ev_eq]
  cases Ex.ev x st with
  | none => rfl
  | some a =>
    show Ex.finO st d (faF (fieldOf E t f) a) = _
    cases fieldOf E t f with
    | none => cases a <;> rfl
    | some q =>
      obtain ⟨fo, ft, fs⟩ := q
      show Ex.finO st d (@Bool.rec (fun _ => Nat → AV → Option AV) (fun fo x => faP x fo) (fun _ _ => none) (Nat.beq fs 0) fo a) = _
      cases h : Nat.beq fs 0 with
      | true => cases a <;> simp only [h] <;> rfl
      | false => cases a <;> simp only [h] <;> rfl

noncomputable def opX (o : Op) : Hd := @Op.rec (fun _ => Hd)
    (fun x => hMove x)
    (fun x => hMove x)
    (fun c a b => hPick c a b)
    (fun x0 => Ex.opX (.alloc x0))
    (fun x0 x1 => Ex.opX (.box x0 x1))
    (fun x0 x1 => Ex.opX (.build x0 x1))
    (fun x0 x1 x2 => Ex.opX (.buildSlice x0 x1 x2))
    (fun x0 x1 x2 x3 => Ex.opX (.insert x0 x1 x2 x3))
    (fun t a => hLoad t a)
    (fun x0 x1 x2 => Ex.opX (.store x0 x1 x2))
    (fun x0 => Ex.opX (.ready x0))
    (fun x0 => Ex.opX (.waits x0))
    (fun x0 => Ex.opX (.nilCheck x0))
    (fun op t x y _ => hBin op t x y)
    (fun op _ x => hUn op x)
    (fun x0 x1 x2 => Ex.opX (.convert x0 x1 x2))
    (fun x0 x1 => Ex.opX (.sliceToArrayPointer x0 x1))
    (fun x0 x1 => Ex.opX (.makeInterface x0 x1))
    (fun x0 x1 x2 => Ex.opX (.makeFunc x0 x1 x2))
    (fun x0 x1 => Ex.opX (.makeMap x0 x1))
    (fun x0 x1 => Ex.opX (.makeChan x0 x1))
    (fun x0 x1 x2 => Ex.opX (.makeSlice x0 x1 x2))
    (fun x0 x1 x2 x3 x4 => Ex.opX (.slice x0 x1 x2 x3 x4))
    (fun t x f => hFieldAddr t x f)
    (fun x0 x1 x2 => Ex.opX (.field x0 x1 x2))
    (fun t x i => hIndexAddr t x i)
    (fun t x i => hIndex t x i)
    (fun x0 x1 x2 x3 => Ex.opX (.lookup x0 x1 x2 x3))
    (fun x0 x1 x2 x3 => Ex.opX (.mapUpdate x0 x1 x2 x3))
    (fun x0 x1 x2 => Ex.opX (.mapEntry x0 x1 x2))
    (fun x0 x1 x2 x3 => Ex.opX (.entryStore x0 x1 x2 x3))
    (fun x0 x1 => Ex.opX (.range x0 x1))
    (fun x0 x1 => Ex.opX (.next x0 x1))
    (fun x0 => Ex.opX (.entry x0))
    (fun x0 x1 x2 x3 => Ex.opX (.typeAssert x0 x1 x2 x3))
    (fun x0 x1 => Ex.opX (.extract x0 x1))
    (fun x0 => Ex.opX (.call x0))
    (fun x0 => Ex.opX (.go x0))
    (fun x0 => Ex.opX (.defer x0))
    (fun x0 => Ex.opX (.panic x0))
    (fun x0 x1 => Ex.opX (.send x0 x1))
    (fun x0 x1 x2 => Ex.opX (.recv x0 x1 x2))
    (fun x0 x1 => Ex.opX (.select x0 x1))
    o
theorem opX_eq (o : Op) : opX o = Ex.opX o := by
  cases o <;> first
    | rfl
    | exact hMove_eq _
    | exact hPick_eq _ _ _
    | exact hLoad_eq _ _
    | exact hBin_eq _ _ _ _
    | exact hUn_eq _ _
    | exact hFieldAddr_eq _ _ _
    | exact hIndexAddr_eq _ _ _
    | exact hIndex_eq _ _ _
noncomputable def guardless (g : Option (Nat × Bool)) : Bool := @Option.rec (Nat × Bool) (fun _ => Bool) true (fun _ => false) g
noncomputable def oper1 (o : Oper) (E : Env) (self : Self) (st : St) : Out Unit := @Oper.rec (fun _ => Env → Self → St → Out Unit) (fun dst op _ _ _ _ E self st => opX op E self dst st) o E self st
noncomputable def operG (o : Oper) (ops : Array Oper) (E : Env) (self : Self) (st : St) : Out Unit := @Option.rec Bool (fun _ => Oper → Env → Self → St → Out Unit) (fun _ _ _ _ => .no "guard")
  (fun b o E self st => @Bool.rec (fun _ => Oper → Env → Self → St → Out Unit) (fun o _ _ st => fin st o.dst (.tup [])) oper1 b o E self st) (wantedX ops st o) o E self st
noncomputable def oper0 (o : Oper) (ops : Array Oper) (E : Env) (self : Self) (st : St) : Out Unit := @Bool.rec (fun _ => Oper → Array Oper → Env → Self → St → Out Unit) operG (fun o _ E self st => oper1 o E self st) (guardless o.guard) o ops E self st
noncomputable def opsX (l : List Oper) (ops : Array Oper) (E : Env) (self : Self) : St → Out Unit := @List.rec Oper (fun _ => Array Oper → Env → Self → St → Out Unit) (fun _ _ _ st => .one () st)
  (fun o _ ih ops E self st => bindU (oper0 o ops E self st) (ih ops E self)) l ops E self
theorem oper1_eq (o : Oper) (E : Env) (me : Self) (st : St) : oper1 o E me st = Ex.opX o.op E me o.dst st := by
  obtain ⟨dst, op, ty, pos, aft, g⟩ := o
  show opX op E me dst st = _
  rw [opX_eq]
theorem opsX_eq (ops : Array Oper) (E : Env) (me : Self) : ∀ (l : List Oper) (st : St), opsX l ops E me st = Ex.opsX E me ops l st
  | [], _ => rfl
  | o :: l, st => by
    show bindU (oper0 o ops E me st) (opsX l ops E me) = _
    have hf : opsX l ops E me = fun s => Ex.opsX E me ops l s := by funext s; exact opsX_eq ops E me l s
    rw [hf, bindU_eq]
    simp only [Ex.opsX]
    unfold oper0
    cases hg : o.guard with
    | none =>
      have hw : wantedX ops st o = some true := by simp [wantedX, hg]
      rw [hw]
      show (oper1 o E me st).bind _ = _
      rw [oper1_eq]
    | some q =>
      show (operG o ops E me st).bind _ = _
      unfold operG
      cases wantedX ops st o with
      | none => rfl
      | some b =>
        cases b with
        | true => show (oper1 o E me st).bind _ = _; rw [oper1_eq]
        | false => show (fin st o.dst (.tup [])).bind _ = _; rw [fin_eq]
noncomputable def bindE {β : Type} (o : Out AE) (f : AE → St → Out β) : Out β := @Out.rec AE (fun _ => (AE → St → Out β) → Out β) (fun w _ => .no w) (fun e s f => f e s) (fun _ _ ix iy f => .two (ix f) (iy f)) o f
theorem bindE_eq {β : Type} (o : Out AE) (f : AE → St → Out β) : bindE o f = o.bind f := by
  induction o with
  | no w => rfl
  | one a s => rfl
  | two x y ix iy => show Out.two (bindE x f) (bindE y f) = _; rw [ix, iy]; rfl
noncomputable def cRegion (ops : Array Oper) : Cd := fun E self _ st => bindU (opsX ops.toList ops E self st) fun st => .one .normal st
theorem cRegion_eq (ops : Array Oper) : cRegion ops = Ex.cRegion ops := by
  funext E me ro st; unfold cRegion Ex.cRegion; rw [bindU_eq, opsX_eq]
noncomputable def seqK (b : Code) (self : Self) (ro : Option Nat) (e : AE) (st : St) : Out AE := @AE.rec (fun _ => Code → Self → Option Nat → St → Out AE) (fun b self ro st => self b ro st) (fun id _ _ _ st => .one (.exit id) st) (fun _ _ _ st => .one .ret st) e b self ro st
noncomputable def cSeq (a b : Code) : Cd := fun _ self ro st => bindE (self a ro st) (seqK b self ro)
theorem cSeq_eq (a b : Code) : cSeq a b = Ex.cSeq a b := by
  funext E me ro st
  unfold cSeq Ex.cSeq
  rw [bindE_eq]
  congr 1
  funext e s
  cases e <;> rfl
noncomputable def condV (v : AV) : Code → Code → Self → Option Nat → St → Out AE :=
  @AV.rec (fun _ => Code → Code → Self → Option Nat → St → Out AE) (fun _ => Unit)
    (fun a0 => fun a b self ro st => @Bool.rec (fun _ => Code → Code → Self → Option Nat → St → Out AE) (fun _ b self ro st => self b ro st) (fun a _ self ro st => self a ro st) a0 a b self ro st)
    (fun _ _ => fun _ _ _ _ _ => .no "cond")
    (fun _ => fun _ _ _ _ _ => .no "cond")
    (fun _ _ _ _ _ => .no "cond")
    (fun _ _ _ => fun _ _ _ _ _ => .no "cond")
    (fun _ _ _ _ _ => .no "cond")
    (fun _ _ _ _ _ => fun _ _ _ _ _ => .no "cond")
    (fun _ _ _ _ _ => fun _ _ _ _ _ => .no "cond")
    (fun _ _ _ _ _ => fun _ _ _ _ _ => .no "cond")
    (fun _ _ _ _ _ => .no "cond")
    (fun _ => fun _ _ _ _ _ => .no "cond")
    (fun _ _ _ _ _ => .no "cond")
    (fun _ _ _ _ _ => fun _ _ _ _ _ => .no "cond")
    (fun _ _ _ _ _ => .no "cond")
    (fun _ _ _ => fun _ _ _ _ _ => .no "cond")
    (fun _ _ => fun _ _ _ _ _ => .no "cond")
    (fun _ _ => fun _ _ _ _ _ => .no "cond")
    (fun _ => fun _ _ _ _ _ => .no "cond")
    ()
    (fun _ _ _ _ => ())
    v
noncomputable def condO (o : Option AV) (a b : Code) (self : Self) (ro : Option Nat) (st : St) : Out AE := @Option.rec AV (fun _ => Code → Code → Self → Option Nat → St → Out AE) (fun _ _ _ _ _ => .no "cond") condV o a b self ro st
noncomputable def cCond (c : Operand) (a b : Code) : Cd := fun _ self ro st => condO (ev c st) a b self ro st
theorem cCond_eq (c : Operand) (a b : Code) : cCond c a b = Ex.cCond c a b := by
  funext E me ro st
  unfold cCond Ex.cCond
  rw [ev_eq]
  cases Ex.ev c st with
  | none => rfl
  | some v =>
    cases v <;> try rfl
    rename_i x
    cases x <;> rfl
noncomputable def blockK (id : Nat) (e : AE) (st : St) : Out AE := @AE.rec (fun _ => Nat → St → Out AE) (fun _ st => .one .normal st) (fun id' id st => @Bool.rec (fun _ => Nat → St → Out AE) (fun id' st => .one (.exit id') st) (fun _ st => .one .normal st) (Nat.beq id' id) id' st) (fun _ st => .one .ret st) e id st
noncomputable def cBlock (id : Nat) (b : Code) : Cd := fun _ self ro st => bindE (self b ro st) (blockK id)
theorem cBlock_eq (id : Nat) (b : Code) : cBlock id b = Ex.cBlock id b := by
  funext E me ro st
  unfold cBlock Ex.cBlock
  rw [bindE_eq]
  congr 1
  funext e s
  cases e with
  | normal => rfl
  | ret => rfl
  | exit id' =>
    show @Bool.rec (fun _ => Nat → St → Out AE) _ _ (Nat.beq id' id) id' s = _
    simp only
    cases Nat.beq id' id <;> rfl
noncomputable def loopK (b : Code) (self : Self) (ro : Option Nat) (e : AE) (st : St) : Out AE := @AE.rec (fun _ => Code → Self → Option Nat → St → Out AE) (fun b self ro st => self (.loop b) ro st) (fun id _ _ _ st => .one (.exit id) st) (fun _ _ _ st => .one .ret st) e b self ro st
noncomputable def cLoop (b : Code) : Cd := fun _ self ro st => bindE (self b ro st) (loopK b self ro)
theorem cLoop_eq (b : Code) : cLoop b = Ex.cLoop b := by
  funext E me ro st
  unfold cLoop Ex.cLoop
  rw [bindE_eq]
  congr 1
  funext e s
  cases e <;> rfl
noncomputable def cReg (d : Bool) (ops : Array Oper) : Cd := @Bool.rec (fun _ => Array Oper → Cd) (fun ops => cRegion ops) (fun ops => cDraw ops) d ops
noncomputable def stepX (c : Code) : Cd := @Code.rec (fun _ => Cd) cSkip (fun _ ops d => cReg d ops) (fun a b _ _ => cSeq a b) (fun c a b _ _ => cCond c a b) (fun id b _ => cBlock id b) (fun b _ => cLoop b) (fun f ps a b _ _ => cRange f ps a b) (fun id => cExit id) (fun b _ => cScope b) (fun _ => cSkip) (fun _ => cNo) cRet (fun _ => cNo) c
theorem stepX_eq (c : Code) : stepX c = Ex.stepX c := by
  cases c <;> try rfl
  · rename_i id ops d
    cases d with
    | true => rfl
    | false => exact cRegion_eq ops
  · exact cSeq_eq _ _
  · exact cCond_eq _ _ _
  · exact cBlock_eq _ _
  · exact cLoop_eq _
noncomputable def ex (E : Env) (n : Nat) : Self := @Nat.rec (fun _ => Self) (fun _ _ _ => .no "fuel") (fun _ ih c => stepX c E ih) n
theorem ex_eq (E : Env) : ∀ n, ex E n = Ex.ex E n
  | 0 => rfl
  | n + 1 => by
    funext c
    show stepX c E (ex E n) = Ex.stepX c E (Ex.ex E n)
    rw [ex_eq E n, stepX_eq]
end Go.Proofs.YtcedalofcekdkaaGreatDoor.Ex.F
