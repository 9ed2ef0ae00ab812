/- A deterministic reading of the model: a region that draws its order of evaluation; one step of code. Conditions: none; definitions and plain lemmas. -/
import Derived.Test.YtkbninmkgjhfmaaGreatDoorDetExec
import Derived.Orders
set_option maxHeartbeats 400000
namespace Go.Det
open Go

/-! ### Sameness -/
def sameB : List UInt8 → List UInt8 → Bool
  | [], [] => true
  | a :: r, b :: s => cond (Nat.beq a.toNat b.toNat) (sameB r s) false
  | _, _ => false

def sameI : Int → Int → Bool
  | .ofNat a, .ofNat b => Nat.beq a b
  | .negSucc a, .negSucc b => Nat.beq a b
  | _, _ => false

def sameP : Option (Nat × Nat) → Option (Nat × Nat) → Bool
  | none, none => true
  | some (a, b), some (c, d) => Nat.beq a c && Nat.beq b d
  | _, _ => false

def sameF : Fn → Fn → Bool
  | .func a, .func b => Nat.beq a b
  | .yield a, .yield b => Nat.beq a b
  | .method a, .method b => decide (a = b)
  | _, _ => false

def sameQ : Bool → Bool → Bool
  | true, true => true
  | false, false => true
  | _, _ => false

def sameO : Option Nat → Option Nat → Bool
  | none, none => true
  | some a, some b => Nat.beq a b
  | _, _ => false

mutual
def AV.same : AV → AV → Bool
  | .bool a, .bool b => sameQ a b
  | .int k n, .int k' n' => decide (k = k') && sameI n n'
  | .str s, .str t => sameB s t
  | .ptr a, .ptr b => sameP a b
  | .slice a l c q, .slice a' l' c' q' => sameP a a' && Nat.beq l l' && Nat.beq c c' && sameQ q q'
  | .map a, .map b => sameO a b
  | .func f a b, .func f' a' b' => sameF f f' && AV.sameL a a' && AV.sameL b b'
  | .nilFunc, .nilFunc => true
  | .iface t v, .iface t' v' => Nat.beq t t' && AV.same v v'
  | .nilIface, .nilIface => true
  | .agg a, .agg b => AV.sameL a b
  | .tuple a, .tuple b => AV.sameL a b
  | _, _ => false
def AV.sameL : List AV → List AV → Bool
  | [], [] => true
  | a :: r, b :: s => AV.same a b && AV.sameL r s
  | _, _ => false
end

theorem sameB_eq : ∀ {a b : List UInt8}, sameB a b = true → a = b
  | [], [], _ => rfl
  | a :: r, b :: s, h => by
    simp only [sameB] at h
    cases e : Nat.beq a.toNat b.toNat with
    | false => rw [e] at h; cases h
    | true => rw [e] at h; rw [UInt8.toNat_inj.1 (Nat.eq_of_beq_eq_true e), sameB_eq h]
  | [], _ :: _, h => by cases h
  | _ :: _, [], h => by cases h
theorem sameI_eq : ∀ {a b : Int}, sameI a b = true → a = b
  | .ofNat a, .ofNat b, h => by rw [Nat.eq_of_beq_eq_true h]
  | .negSucc a, .negSucc b, h => by rw [Nat.eq_of_beq_eq_true h]
  | .ofNat _, .negSucc _, h => by cases h
  | .negSucc _, .ofNat _, h => by cases h
theorem sameP_eq : ∀ {a b : Option (Nat × Nat)}, sameP a b = true → a = b
  | none, none, _ => rfl
  | some (a, b), some (c, d), h => by simp only [sameP, Bool.and_eq_true] at h; rw [Nat.eq_of_beq_eq_true h.1, Nat.eq_of_beq_eq_true h.2]
  | none, some _, h => by cases h
  | some _, none, h => by cases h
theorem sameF_eq {a b : Fn} (h : sameF a b = true) : a = b := by
  cases a <;> cases b <;> simp only [sameF, reduceCtorEq, decide_eq_true_eq] at h <;> first | rw [Nat.eq_of_beq_eq_true h] | rw [h] | cases h
theorem sameQ_eq : ∀ {a b : Bool}, sameQ a b = true → a = b
  | true, true, _ => rfl
  | false, false, _ => rfl
  | true, false, h => by cases h
  | false, true, h => by cases h
theorem sameO_eq : ∀ {a b : Option Nat}, sameO a b = true → a = b
  | none, none, _ => rfl
  | some a, some b, h => by rw [Nat.eq_of_beq_eq_true h]
  | none, some _, h => by cases h
  | some _, none, h => by cases h

mutual
theorem AV.same_eq : ∀ (a b : AV), AV.same a b = true → a = b
  | .bool a, b, h => by cases b <;> simp only [AV.same, reduceCtorEq] at h; rw [sameQ_eq h]
  | .int k n, b, h => by
    cases b <;> simp only [AV.same, reduceCtorEq, Bool.and_eq_true, decide_eq_true_eq] at h
    rw [h.1, sameI_eq h.2]
  | .str s, b, h => by cases b <;> simp only [AV.same, reduceCtorEq] at h; rw [sameB_eq h]
  | .ptr a, b, h => by cases b <;> simp only [AV.same, reduceCtorEq] at h; rw [sameP_eq h]
  | .slice a l c q, b, h => by
    cases b <;> simp only [AV.same, reduceCtorEq, Bool.and_eq_true] at h
    obtain ⟨⟨⟨h1, h2⟩, h3⟩, h4⟩ := h
    rw [sameP_eq h1, Nat.eq_of_beq_eq_true h2, Nat.eq_of_beq_eq_true h3, sameQ_eq h4]
  | .eslice .., b, h => by cases b <;> simp [AV.same] at h
  | .map a, b, h => by cases b <;> simp only [AV.same, reduceCtorEq] at h; rw [sameO_eq h]
  | .func f a b, c, h => by
    cases c <;> simp only [AV.same, reduceCtorEq, Bool.and_eq_true] at h
    obtain ⟨⟨h1, h2⟩, h3⟩ := h
    rw [sameF_eq h1, AV.sameL_eq _ _ h2, AV.sameL_eq _ _ h3]
  | .nilFunc, b, h => by cases b <;> simp only [AV.same, reduceCtorEq] at h; rfl
  | .iface t v, b, h => by
    cases b <;> simp only [AV.same, reduceCtorEq, Bool.and_eq_true] at h
    rw [Nat.eq_of_beq_eq_true h.1, AV.same_eq _ _ h.2]
  | .nilIface, b, h => by cases b <;> simp only [AV.same, reduceCtorEq] at h; rfl
  | .agg a, b, h => by cases b <;> simp only [AV.same, reduceCtorEq] at h; rw [AV.sameL_eq _ _ h]
  | .tuple a, b, h => by cases b <;> simp only [AV.same, reduceCtorEq] at h; rw [AV.sameL_eq _ _ h]
theorem AV.sameL_eq : ∀ (a b : List AV), AV.sameL a b = true → a = b
  | [], [], _ => rfl
  | a :: r, b :: s, h => by
    simp only [AV.sameL, Bool.and_eq_true] at h
    rw [AV.same_eq _ _ h.1, AV.sameL_eq _ _ h.2]
  | [], _ :: _, h => by cases h
  | _ :: _, [], h => by cases h
end

/-! ### Sets of operations -/
def bitN (m i : Nat) : Bool := Nat.testBit m i
def memN (i : Nat) : List Nat → Bool
  | [] => false
  | j :: r => cond (Nat.beq i j) true (memN i r)
theorem memN_iff {i : Nat} : ∀ {l : List Nat}, memN i l = true ↔ i ∈ l
  | [] => by simp [memN]
  | j :: r => by
    simp only [memN, List.mem_cons]
    cases e : Nat.beq i j with
    | true => simp [Nat.eq_of_beq_eq_true e]
    | false => simp only [cond, memN_iff]; exact ⟨.inr, fun h => h.elim (fun h => by subst h; simp at e) id⟩

/-- The operations that an operation directly waits for. -/
def directs (o : Oper) : List Nat := (o.after.toList.filter fun e => Region.binds .any e).map (·.on)

/-- Pure operations, and loads: they turn nothing. -/
def fltA : Op → Bool
  | .move _ | .assign _ | .pick .. | .load .. | .nilCheck _ | .binOp .. | .unOp .. | .makeInterface .. | .makeFunc .. | .slice .. | .fieldAddr .. | .field .. | .indexAddr .. | .index ..
  | .lookup .. | .extract .. | .typeAssert .. => true
  | .call { callee := .builtin .len, .. } => true
  | .call { callee := .builtin .cap, .. } => true
  | .call { callee := .builtin .min, .. } => true
  | .call { callee := .builtin .max, .. } => true
  | _ => false

/-- Operations that hang on no memory. -/
def pureA : Op → Bool
  | .move _ | .assign _ | .pick .. | .nilCheck _ | .binOp .. | .unOp .. | .makeInterface .. | .makeFunc .. | .fieldAddr .. | .field .. | .indexAddr .. | .index .. | .extract .. => true
  | .call { callee := .builtin .min, .. } => true
  | .call { callee := .builtin .max, .. } => true
  | _ => false

def newA (P : Program) (G : Nat) (T : Tm) : Op → Option (AObj × Option Nat)
  | .alloc e => (zeroT P e).map fun z => (.cells z.cells e true none, none)
  | .buildSlice t len ps =>
    (partsA T G ps.toList).bind fun l =>
    (match P.underlying t with
     | some (.slice e) => (szT P e).bind fun n => (zeroT P e).bind fun z => cond (Nat.ble (len * n) (2 ^ 24) && Nat.beq z.cells.length n)
        ((fillA (fun i => some (i * n, n)) (repN len z.cells) l).map fun cs => (.cells cs e true none, some len)) none
     | _ => none)
  | _ => none
def newV (i : Nat) : Option Nat → AV
  | none => .ptr (some (i, 0))
  | some len => .slice (some (i, 0)) len len false

def newish : Op → Bool
  | .alloc _ => true
  | .buildSlice .. => true
  | _ => false

inductive DK where
  | flt
  | eff
  | new (i : Nat) (cs : List AV) (e : TypeId)

structure DRec where
  i : Nat
  o : Oper
  bef : Nat
  reads : List Tmp
  T : Tm
  v : AV
  k : DK

structure DSt where
  recs : List DRec
  last : Option (Nat × Nat)
  σ : AS

def befOf1 (e : Nat) : List DRec → Option Nat
  | [] => none
  | r :: rs => cond (Nat.beq r.i e) (some (Nat.lor (2 ^ e) r.bef)) (befOf1 e rs)
def befOf (rs : List DRec) : List Nat → Option Nat
  | [] => some 0
  | e :: d => (befOf1 e rs).bind fun m => (befOf rs d).map fun m' => Nat.lor m m'

def hasI (i : Nat) : List DRec → Bool
  | [] => false
  | r :: rs => cond (Nat.beq r.i i) true (hasI i rs)

/-- The new operation's result, if an earlier one reads or writes it that need not come first, is in the way. -/
def freeOf (bef d : Nat) : List DRec → Bool
  | [] => true
  | r :: rs => cond (memN d r.reads) (cond (bitN bef r.i) (cond (sameO r.o.dst (some d)) false (freeOf bef d rs)) false) (cond (sameO r.o.dst (some d)) false (freeOf bef d rs))

def freeD (T0 : Tm) (bef : Nat) (o : Oper) (rs : List DRec) : Bool :=
  match o.dst with
  | some d => cond (Nat.blt d T0.sz) (freeOf bef d rs) false
  | none => true

def envA (T : Tm) (bef : Nat) (reads : List Tmp) : List DRec → Option Tm
  | [] => some T
  | r :: rs =>
    (match r.o.dst with
     | none => envA T bef reads rs
     | some d => cond (memN d reads) (cond (bitN bef r.i) ((envA T bef reads rs).bind fun T' => T'.set d r.v) none) (envA T bef reads rs))

def evalF (P : Program) (G : Nat) (ops : Array Oper) (T : Tm) (σ : AS) (o : Oper) : Option AV :=
  match wantedA T ops o with
  | some true => (opA P G T σ o.op).map (·.1)
  | some false => some AV.undef
  | none => none

def evalE (E : Env) (go : ExecT) (ops : Array Oper) (T : Tm) (σ : AS) (o : Oper) : Option (AV × AS) :=
  match wantedA T ops o with
  | some true => opStep E go T σ o
  | some false => some (AV.undef, σ)
  | none => none

/-- The place that a store writes. -/
def wroteA (P : Program) (G : Nat) (ops : Array Oper) (T : Tm) (o : Oper) : Option (Nat × Nat × Nat) :=
  match o.op with
  | .store t a _ =>
    (match wantedA T ops o, aeval T G a, szT P t with
     | some true, some (.ptr (some (i, off))), some n => some (i, off, n)
     | _, _, _ => none)
  | _ => none

/-- A load from elsewhere. -/
def apartA (P : Program) (G : Nat) (wr : Option (Nat × Nat × Nat)) (T : Tm) (op : Op) : Bool :=
  match wr, op with
  | some (bi, bo, bn), .load t a =>
    (match aeval T G a, szT P t with
     | some (.ptr (some (i, o))), some n => !(Nat.beq bi i) || (Nat.ble (o + n) bo && Nat.blt o bo) || Nat.ble (bo + bn) o
     | _, _ => false)
  | _, _ => false

def stillA (P : Program) (G : Nat) (ops : Array Oper) (σ : AS) (dead : Nat) (wr : Option (Nat × Nat × Nat)) (od : Nat) : List DRec → Bool
  | [] => true
  | r :: rs => cond (bitN dead r.i) (stillA P G ops σ dead wr od rs)
    (match r.k with
     | .eff => stillA P G ops σ dead wr od rs
     | .flt => cond (pureA r.o.op || (!(bitN od r.i) && apartA P G wr r.T r.o.op)) (stillA P G ops σ dead wr od rs) (match evalF P G ops r.T σ r.o with | some v => cond (AV.same v r.v) (stillA P G ops σ dead wr od rs) false | none => false)
     | .new i cs e => (match σ.get i with | some (.cells cs' e' true none) => cond (Nat.beq e e' && AV.sameL cs cs') (stillA P G ops σ dead wr od rs) false | _ => false))

def lastIn (bef : Nat) : Option (Nat × Nat) → Bool
  | none => true
  | some (e, _) => bitN bef e
def deadOf : Option (Nat × Nat) → Nat
  | none => 0
  | some (_, m) => m

def stepD (E : Env) (go : ExecT) (ops : Array Oper) (T0 : Tm) (s : DSt) (p : Nat × Bool) : Option DSt :=
  match ops[p.1]? with
  | none => none
  | some o =>
    cond (hasI p.1 s.recs) none
    ((befOf s.recs (directs o)).bind fun bef =>
     cond (lastIn bef s.last)
      (cond (freeD T0 bef o s.recs)
        (let reads := o.looksAt ops
         (envA T0 bef reads s.recs).bind fun T =>
         (match fltA o.op with
          | true => (evalF E.P E.G ops T s.σ o).map fun v => { s with recs := ⟨p.1, o, bef, reads, T, v, .flt⟩ :: s.recs }
          | false =>
            (match p.2 with
             | true =>
               (match o.guard, newA E.P E.G T o.op with
                | none, some (.cells cs e true none, len) => (s.σ.add (.cells cs e true none)).bind fun q =>
                   cond (stillA E.P E.G ops q.2 (deadOf s.last) none 0 s.recs) (some { s with recs := ⟨p.1, o, bef, reads, T, newV q.1 len, .new q.1 cs e⟩ :: s.recs, σ := q.2 }) none
                | _, _ => none)
             | false => (evalE E go ops T s.σ o).bind fun q =>
               cond (stillA E.P E.G ops q.2 bef (wroteA E.P E.G ops T o) (deadOf s.last) s.recs) (some { recs := ⟨p.1, o, bef, reads, T, q.1, .eff⟩ :: s.recs, last := some (p.1, bef), σ := q.2 }) none)))
        none) none)

def runD (E : Env) (go : ExecT) (ops : Array Oper) (T0 : Tm) : List (Nat × Bool) → DSt → Option DSt
  | [], s => some s
  | p :: r, s => (stepD E go ops T0 s p).bind fun s' => runD E go ops T0 r s'

/-! the order that is tried -/
def maskOf (o : Oper) : Nat := (directs o).foldl (fun m e => Nat.lor m (2 ^ e)) 0
def indexed : Nat → List Oper → List (Nat × Nat × Oper)
  | _, [] => []
  | i, o :: r => (i, maskOf o, o) :: indexed (i + 1) r
def floats (done : Nat) : List (Nat × Nat × Oper) → Nat × List (Nat × Bool) × List (Nat × Nat × Oper)
  | [] => (done, [], [])
  | (i, m, o) :: r => cond (fltA o.op && Nat.beq (Nat.land m done) m)
     (let q := floats (Nat.lor done (2 ^ i)) r; (q.1, (i, false) :: q.2.1, q.2.2))
     (let q := floats done r; (q.1, q.2.1, (i, m, o) :: q.2.2))
def readyL (done : Nat) : List (Nat × Nat × Oper) → List (Nat × Nat × Oper)
  | [] => []
  | (i, m, o) :: r => cond (Nat.beq (Nat.land m done) m) ((i, m, o) :: readyL done r) (readyL done r)
def dropI (i : Nat) : List (Nat × Nat × Oper) → List (Nat × Nat × Oper)
  | [] => []
  | x :: r => cond (Nat.beq x.1 i) r (x :: dropI i r)
def orderD : Nat → Nat → List (Nat × Nat × Oper) → List (Nat × Bool)
  | 0, _, _ => []
  | n + 1, done, l =>
    match floats done l with
    | (done', [], l') =>
      (match readyL done' l' with
       | [] => []
       | [x] => (x.1, false) :: orderD n (Nat.lor done' (2 ^ x.1)) (dropI x.1 l')
       | x :: r => (match (x :: r).find? (fun y => newish y.2.2.op) with
          | some y => (y.1, true) :: orderD n (Nat.lor done' (2 ^ y.1)) (dropI y.1 l')
          | none => (x.1, false) :: orderD n (Nat.lor done' (2 ^ x.1)) (dropI x.1 l')))
    | (done', es, l') => es ++ orderD n done' l'

def lastT (T : Tm) : List DRec → Option Tm
  | [] => some T
  | r :: rs => (lastT T rs).bind fun T' => putA T' r.o.dst r.v

def maskR : List DRec → Nat
  | [] => 0
  | r :: rs => Nat.lor (2 ^ r.i) (maskR rs)

def runDraw (E : Env) (go : ExecT) (ops : Array Oper) (T : Tm) (σ : AS) : Option (Tm × AS) :=
  (runD E go ops T (orderD (2 * ops.size + 2) 0 (indexed 0 ops.toList)) ⟨[], none, σ⟩).bind fun s =>
    cond (Nat.beq (maskR s.recs) (2 ^ ops.size - 1)) ((lastT T s.recs).map fun T' => (T', s.σ)) none

/-- A call that enters a function. -/
def callE (E : Env) (go : ExecT) (v : AV) (args : List AV) (σ : AS) : Option (AV × AS) :=
  match v with
  | .func (.func f) fi ca => (match E.hooks f with | none => callF E go f (fi ++ args ++ ca) σ | some _ => none)
  | _ => none

def jumpX : Option Code → Option AX
  | none => some .normal
  | some .ret => some .ret
  | some (.exit id) => some (.exit id)
  | _ => none

def execStep (E : Env) (go : ExecT) (rd : Option Nat) (c : Code) (T : Tm) (D : List Nat) (σ : AS) : Option (AX × Tm × List Nat × AS) :=
  match c with
  | .skip => some (.normal, T, D, σ)
  | .label _ => some (.normal, T, D, σ)
  | .exit id => some (.exit id, T, D, σ)
  | .ret => some (.ret, T, D, σ)
  | .seq a b =>
    (match go rd a T D σ with
     | some (.normal, T', D', σ') => go rd b T' D' σ'
     | r => r)
  | .cond x a b =>
    (match aeval T E.G x with
     | some (.bool q) => go rd (if q then a else b) T D σ
     | _ => none)
  | .block id b =>
    (match go rd b T D σ with
     | some (.exit id', T', D', σ') => some (if id' = id then .normal else .exit id', T', D', σ')
     | r => r)
  | .loop b =>
    (match go rd b T D σ with
     | some (.normal, T', D', σ') => go rd (.loop b) T' D' σ'
     | r => r)
  | .region _ ops draw => (match (match draw with | true => runDraw E go ops T σ | false => runOps E go ops ops.toList T σ) with | some (T', σ') => some (.normal, T', D, σ') | none => none)
  | .rangeFunc f ps as bd =>
    (aeval T E.G f).bind fun v =>
    (match loopBlock rd σ with
     | some (d, mk, σ1) =>
       (match σ1.add (.loop .ready none T ps as bd d) with
        | some (l, σ2) =>
          (match callE E go v [.func (.yield l) [] []] σ2 with
           | some (_, σ3) =>
             (match σ3.get l with
              | some (.loop .busy _ _ _ _ _ _) => none
              | some (.loop _ pd T' ps' as' bd' d') =>
                (jumpX pd).map fun x => (x, T, mk ++ D, σ3.put l (some (.loop .exhausted pd T' ps' as' bd' d')))
              | _ => none)
           | none => none)
        | none => none)
     | none => none)
  | _ => none

def exec (E : Env) : Nat → ExecT
  | 0 => fun _ _ _ _ _ => none
  | n + 1 => execStep E (exec E n)

end Go.Det
