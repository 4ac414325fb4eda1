/-
  The ideal machine, part 24: operations made ready, for evaluation by the kernel: small bodies, no great case distinctions on the way. Conditions: none (definitions and lemmas).
-/
import Derived.Test.YtbikhbgmgmaocaaGreatDoorIdB
namespace Go.Ideal

/-! ### Looks at a value, without a great case distinction -/
noncomputable def V.asInt (v : V) : Option (IntKind × Int) :=
  @V.rec (fun _ => Option (IntKind × Int)) (fun _ => Unit) (fun _ => none) (fun k n => some (k, n)) (fun _ => none) none (fun _ _ => none) none (fun _ _ _ _ _ _ => none) none (fun _ => none) none (fun _ => none) none (fun _ _ _ _ _ => none) (fun _ _ => none) (fun _ _ => none) () (fun _ _ _ _ => ()) v
noncomputable def V.asBool (v : V) : Option Bool :=
  @V.rec (fun _ => Option Bool) (fun _ => Unit) (fun b => some b) (fun _ _ => none) (fun _ => none) none (fun _ _ => none) none (fun _ _ _ _ _ _ => none) none (fun _ => none) none (fun _ => none) none (fun _ _ _ _ _ => none) (fun _ _ => none) (fun _ _ => none) () (fun _ _ _ _ => ()) v
noncomputable def V.asStr (v : V) : Option ByteArray :=
  @V.rec (fun _ => Option ByteArray) (fun _ => Unit) (fun _ => none) (fun _ _ => none) (fun s => some s) none (fun _ _ => none) none (fun _ _ _ _ _ _ => none) none (fun _ => none) none (fun _ => none) none (fun _ _ _ _ _ => none) (fun _ _ => none) (fun _ _ => none) () (fun _ _ _ _ => ()) v
noncomputable def V.asPtr (v : V) : Option (Nat × Nat) :=
  @V.rec (fun _ => Option (Nat × Nat)) (fun _ => Unit) (fun _ => none) (fun _ _ => none) (fun _ => none) none (fun b o => some (b, o)) none (fun _ _ _ _ _ _ => none) none (fun _ => none) none (fun _ => none) none (fun _ _ _ _ _ => none) (fun _ _ => none) (fun _ _ => none) () (fun _ _ _ _ => ()) v
noncomputable def V.asAgg (v : V) : Option (List V) :=
  @V.rec (fun _ => Option (List V)) (fun _ => Unit) (fun _ => none) (fun _ _ => none) (fun _ => none) none (fun _ _ => none) none (fun _ _ _ _ _ _ => none) none (fun _ => none) none (fun _ => none) none (fun _ _ _ _ _ => none) (fun cs _ => some cs) (fun _ _ => none) () (fun _ _ _ _ => ()) v
noncomputable def V.asTup (v : V) : Option (List V) :=
  @V.rec (fun _ => Option (List V)) (fun _ => Unit) (fun _ => none) (fun _ _ => none) (fun _ => none) none (fun _ _ => none) none (fun _ _ _ _ _ _ => none) none (fun _ => none) none (fun _ => none) none (fun _ _ _ _ _ => none) (fun _ _ => none) (fun cs _ => some cs) () (fun _ _ _ _ => ()) v
/-- The length of a slice. -/
noncomputable def V.asLen (v : V) : Option Nat :=
  @V.rec (fun _ => Option Nat) (fun _ => Unit) (fun _ => none) (fun _ _ => none) (fun _ => none) none (fun _ _ => none) (some 0) (fun _ _ _ n _ _ => some n) none (fun _ => none) none (fun _ => none) none (fun _ _ _ _ _ => none) (fun _ _ => none) (fun _ _ => none) () (fun _ _ _ _ => ()) v
/-- A slice: block, offset, an element's cells, length. -/
noncomputable def V.asSlice (v : V) : Option (Nat × Nat × Nat × Nat) :=
  @V.rec (fun _ => Option (Nat × Nat × Nat × Nat)) (fun _ => Unit) (fun _ => none) (fun _ _ => none) (fun _ => none) none (fun _ _ => none) none (fun b o sz n _ _ => some (b, o, sz, n)) none (fun _ => none) none (fun _ => none) none (fun _ _ _ _ _ => none) (fun _ _ => none) (fun _ _ => none) () (fun _ _ _ _ => ()) v
/-- Are its cells one, and itself? -/
noncomputable def V.plain (v : V) : Bool :=
  @V.rec (fun _ => Bool) (fun _ => Unit) (fun _ => true) (fun _ _ => true) (fun _ => true) true (fun _ _ => true) true (fun _ _ _ _ _ _ => true) true (fun _ => true) true (fun _ => true) true (fun _ _ _ _ _ => true) (fun _ _ => false) (fun _ _ => false) () (fun _ _ _ _ => ()) v

theorem V.asInt_eq {v : V} {p : IntKind × Int} (h : v.asInt = some p) : v = .int p.1 p.2 := by cases v <;> simp_all [V.asInt] <;> (subst h; simp)
theorem V.asBool_eq {v : V} {b : Bool} (h : v.asBool = some b) : v = .bool b := by cases v <;> simp_all [V.asBool]
theorem V.asStr_eq {v : V} {b : ByteArray} (h : v.asStr = some b) : v = .str b := by cases v <;> simp_all [V.asStr]
theorem V.asPtr_eq {v : V} {p : Nat × Nat} (h : v.asPtr = some p) : v = .ptr p.1 p.2 := by cases v <;> simp_all [V.asPtr] <;> (subst h; simp)
theorem V.asAgg_eq {v : V} {p : List V} (h : v.asAgg = some p) : v = .agg p := by cases v <;> simp_all [V.asAgg]
theorem V.asTup_eq {v : V} {p : List V} (h : v.asTup = some p) : v = .tup p := by cases v <;> simp_all [V.asTup]
theorem V.asLen_eq {v : V} {n : Nat} (h : v.asLen = some n) : (v = .nilSlice ∧ n = 0) ∨ ∃ b o sz c m, v = .slice b o sz n c m := by cases v <;> simp_all [V.asLen]
theorem V.asSlice_eq {v : V} {p : Nat × Nat × Nat × Nat} (h : v.asSlice = some p) : ∃ c m, v = .slice p.1 p.2.1 p.2.2.1 p.2.2.2 c m := by cases v <;> simp_all [V.asSlice] <;> (subst h; simp)
theorem V.plain_eq {v : V} (h : v.plain = true) : v.cells = [v] ∧ v.one = true := by cases v <;> simp_all [V.plain, V.cells, V.one]

/-! ### Places of a tree by paths -/
inductive Pt where
  | here
  | l (p : Pt)
  | r (p : Pt)
def pathF : Nat → Nat → Pt
  | 0, _ => .here
  | f + 1, n => cond (Nat.beq n 0) .here (cond (Nat.beq (n % 2) 1) (.l (pathF f (n / 2))) (.r (pathF f (n / 2 - 1))))
def path (n : Nat) : Pt := pathF n n
def Tr.root : Tr V → V
  | .leaf => .undef
  | .node v _ _ => v
def Tr.lf {α : Type} : Tr α → Tr α
  | .leaf => .leaf
  | .node _ l _ => l
def Tr.rt {α : Type} : Tr α → Tr α
  | .leaf => .leaf
  | .node _ _ r => r
noncomputable def Tr.at (p : Pt) : Tr V → V := @Pt.rec (fun _ => Tr V → V) (fun t => t.root) (fun _ ih t => ih t.lf) (fun _ ih t => ih t.rt) p
noncomputable def Tr.put (x : V) (p : Pt) : Tr V → Tr V := @Pt.rec (fun _ => Tr V → Tr V)
  (fun t => @Tr.rec V (fun _ => Tr V) .leaf (fun _ l r _ _ => .node x l r) t)
  (fun _ ih t => @Tr.rec V (fun _ => Tr V) .leaf (fun v l r _ _ => .node v (ih l) r) t)
  (fun _ ih t => @Tr.rec V (fun _ => Tr V) .leaf (fun v l r _ _ => .node v l (ih r)) t) p

theorem pathF_at : ∀ (f n : Nat), n ≤ f → ∀ t : Tr V, t.at (pathF f n) = (t.get n).getD .undef
  | 0, n, h, t => by
    have : n = 0 := by omega
    subst this
    cases t <;> simp [pathF, Tr.at, Tr.root, Tr.get]
  | f + 1, n, h, t => by
    unfold pathF
    cases h0 : Nat.beq n 0
    · have hn := Nat.ne_of_beq_eq_false h0
      cases h1 : Nat.beq (n % 2) 1
      · simp only [cond_false]
        show Tr.at (pathF f (n / 2 - 1)) t.rt = _
        rw [pathF_at f _ (by omega)]
        cases t <;> simp [Tr.rt, Tr.get, h0, h1]
      · simp only [cond_false, cond_true]
        show Tr.at (pathF f (n / 2)) t.lf = _
        rw [pathF_at f _ (by omega)]
        cases t <;> simp [Tr.lf, Tr.get, h0, h1]
    · simp only [cond_true]
      cases t <;> simp [Tr.at, Tr.root, Tr.get, h0]
theorem path_at (n : Nat) (t : Tr V) : t.at (path n) = (t.get n).getD .undef := pathF_at n n (Nat.le_refl _) t
theorem pathF_put (x : V) : ∀ (f n : Nat), n ≤ f → ∀ t : Tr V, t.put x (pathF f n) = t.set n x
  | 0, n, h, t => by
    have : n = 0 := by omega
    subst this
    cases t <;> simp [pathF, Tr.put, Tr.set]
  | f + 1, n, h, t => by
    unfold pathF
    cases h0 : Nat.beq n 0
    · have hn := Nat.ne_of_beq_eq_false h0
      cases h1 : Nat.beq (n % 2) 1
      · simp only [cond_false]
        cases t with
        | leaf => rfl
        | node v l r =>
          show Tr.node v l (Tr.put x (pathF f (n / 2 - 1)) r) = _
          rw [pathF_put x f _ (by omega)]
          simp [Tr.set, h0, h1]
      · simp only [cond_false, cond_true]
        cases t with
        | leaf => rfl
        | node v l r =>
          show Tr.node v (Tr.put x (pathF f (n / 2)) l) r = _
          rw [pathF_put x f _ (by omega)]
          simp [Tr.set, h0, h1]
    · simp only [cond_true]
      cases t <;> simp [Tr.put, Tr.set, h0]
theorem path_put (n : Nat) (x : V) (t : Tr V) : t.put x (path n) = t.set n x := pathF_put x n n (Nat.le_refl _) t

/-! ### Whole numbers -/
/-- Up to where it need not be wrapped. -/
def capU : IntKind → Nat
  | .i8 => 128 | .i16 => 32768 | .i32 => 2147483648 | .i64 => 9223372036854775808
  | .u8 => 256 | .u16 => 65536 | .u32 => 4294967296 | .u64 => 18446744073709551616
def capS : IntKind → Nat
  | .i8 => 128 | .i16 => 32768 | .i32 => 2147483648 | .i64 => 9223372036854775808
  | _ => 0
def wrapK (k : IntKind) (n : Int) : Int := match n with
  | .ofNat m => cond (Nat.blt m (capU k)) (.ofNat m) (k.wrap (.ofNat m))
  | .negSucc m => cond (Nat.blt m (capS k)) (.negSucc m) (k.wrap (.negSucc m))
theorem wrapK_eq (k : IntKind) (n : Int) : wrapK k n = k.wrap n := by
  unfold wrapK
  split
  · rename_i m
    cases h : Nat.blt m (capU k)
    · rfl
    · have h := Nat.lt_of_lt_of_le (by simpa using h : m < capU k) (Nat.le_refl _)
      have e : Int.ofNat m = (m : Int) := rfl
      simp only [cond_true, IntKind.wrap, e]
      cases k <;> simp only [capU, IntKind.bits, IntKind.signed, Int.reducePow, Nat.reduceSub, Bool.true_and, Bool.false_and, ge_iff_le, decide_eq_true_eq, Bool.false_eq_true, if_false] at h ⊢ <;> first | omega | (split <;> omega)
  · rename_i m
    cases h : Nat.blt m (capS k)
    · rfl
    · have h := Nat.lt_of_lt_of_le (by simpa using h : m < capS k) (Nat.le_refl _)
      have e : Int.negSucc m = -(m : Int) - 1 := by omega
      simp only [cond_true, IntKind.wrap, e]
      cases k <;> simp only [capS, IntKind.bits, IntKind.signed, Int.reducePow, Nat.reduceSub, Bool.true_and, Bool.false_and, ge_iff_le, decide_eq_true_eq, Bool.false_eq_true, if_false] at h ⊢ <;> first | omega | (split <;> omega)
def ltK : Int → Int → Bool
  | .ofNat a, .ofNat b => Nat.blt a b
  | .ofNat _, .negSucc _ => false
  | .negSucc _, .ofNat _ => true
  | .negSucc a, .negSucc b => Nat.blt b a
theorem ltK_eq (a b : Int) : ltK a b = decide (a < b) := by
  cases a <;> cases b <;> simp only [ltK] <;> (rw [Bool.eq_iff_iff]; simp; try omega)
def eqK : Int → Int → Bool
  | .ofNat a, .ofNat b => Nat.beq a b
  | .negSucc a, .negSucc b => Nat.beq a b
  | _, _ => false
theorem eqK_eq (a b : Int) : eqK a b = (a == b) := by
  cases a <;> cases b <;> simp only [eqK] <;> (rw [Bool.eq_iff_iff]; simp; try omega)

/-! ### Options, lists, blocks -/
noncomputable def ob {α β : Type} (o : Option α) (f : α → Option β) : Option β := @Option.rec α (fun _ => Option β) none f o
theorem ob_some {α β : Type} {o : Option α} {f : α → Option β} {r : β} (h : ob o f = some r) : ∃ a, o = some a ∧ f a = some r := by
  cases o
  · cases h
  · exact ⟨_, rfl, h⟩
noncomputable def nth {α : Type} (l : List α) : Nat → Option α := @List.rec α (fun _ => Nat → Option α) (fun _ => none) (fun a _ ih n => @Nat.rec (fun _ => Option α) (some a) (fun m _ => ih m) n) l
theorem nth_eq {α : Type} : ∀ (l : List α) (n : Nat), nth l n = l[n]?
  | [], n => by simp [nth]
  | a :: l, 0 => rfl
  | a :: l, n + 1 => by
    have := nth_eq l n
    simp only [nth] at this ⊢
    simpa using this
noncomputable def setNth {α : Type} (x : α) (l : List α) : Nat → Option (List α) := @List.rec α (fun _ => Nat → Option (List α)) (fun _ => none) (fun a l ih n => @Nat.rec (fun _ => Option (List α)) (some (x :: l)) (fun m _ => ob (ih m) fun l' => some (a :: l')) n) l
theorem setNth_eq {α : Type} (x : α) : ∀ (l : List α) (n : Nat) (l' : List α), setNth x l n = some l' → n < l.length ∧ l' = l.take n ++ [x] ++ l.drop (n + 1)
  | [], n, l', h => by simp [setNth] at h
  | a :: l, 0, l', h => by
    have h : some (x :: l) = some l' := h
    injection h with h; subst h; simp
  | a :: l, n + 1, l', h => by
    have h : ob (setNth x l n) (fun l' => some (a :: l')) = some l' := h
    obtain ⟨l2, h1, h2⟩ := ob_some h
    injection h2 with h2
    obtain ⟨q1, q2⟩ := setNth_eq x l n l2 h1
    subst h2; subst q2
    simp; omega
noncomputable def Tr.getK {α : Type} (t : Tr α) : Nat → Option α := @Tr.rec α (fun _ => Nat → Option α) (fun _ => none) (fun v _ _ ihl ihr n => cond (Nat.beq n 0) (some v) (cond (Nat.beq (Nat.mod n 2) 1) (ihl (Nat.div n 2)) (ihr (Nat.sub (Nat.div n 2) 1)))) t
theorem Tr.getK_eq {α : Type} : ∀ (t : Tr α) (n : Nat), t.getK n = t.get n
  | .leaf, n => rfl
  | .node v l r, n => by
    have h1 := Tr.getK_eq l
    have h2 := Tr.getK_eq r
    show cond (Nat.beq n 0) (some v) (cond (Nat.beq (n % 2) 1) (l.getK (n / 2)) (r.getK (n / 2 - 1))) = _
    rw [h1, h2]; rfl
noncomputable def Blk.asCells (b : Blk) : Option (List V) := @Blk.rec (fun _ => Option (List V)) (fun _ cs => some cs) none (fun _ _ => none) (fun _ _ _ _ => none) (fun _ _ => none) b
noncomputable def Blk.asOwn (b : Blk) : Option (List V) := @Blk.rec (fun _ => Option (List V)) (fun w cs => cond w (some cs) none) none (fun _ _ => none) (fun _ _ _ _ => none) (fun _ _ => none) b
theorem Blk.asCells_eq {b : Blk} {cs : List V} (h : b.asCells = some cs) : ∃ w, b = .cells w cs := by cases b <;> simp_all [Blk.asCells]
theorem Blk.asOwn_eq {b : Blk} {cs : List V} (h : b.asOwn = some cs) : b = .cells true cs := by
  cases b
  case cells w l => cases w <;> simp_all [Blk.asOwn]
  all_goals simp [Blk.asOwn] at h
noncomputable def asNat (v : V) : Option Nat := ob v.asInt fun p => @Int.rec (fun _ => Option Nat) (fun n => some n) (fun _ => none) p.2
theorem asNat_eq {v : V} {n : Nat} (h : asNat v = some n) : ∃ k, v = .int k (n : Int) := by
  obtain ⟨p, h1, h2⟩ := ob_some h
  obtain ⟨k, i⟩ := p
  have := V.asInt_eq h1
  cases i
  · have h2 : some _ = some n := h2
    injection h2 with h2; subst h2
    exact ⟨k, this⟩
  · cases h2

/-! ### Operations -/
abbrev KF := RcT → Nat → TE → TH → Option (V × TH)
inductive KO where
  | mk (f : KF)
noncomputable def KO.go (k : KO) : KF := @KO.rec (fun _ => KF) (fun f => f) k
noncomputable def evK (x : Opd) : TE → V := @Opd.rec (fun _ => TE → V) (fun i e => e.at (path i)) (fun v _ => v) x
theorem evK_eq (x : Opd) (e : TE) : evK x e = x.evT e := by
  cases x
  · exact path_at _ _
  · rfl
noncomputable def evKs (l : List Opd) (e : TE) : List V := @List.rec Opd (fun _ => List V) [] (fun x _ ih => evK x e :: ih) l
theorem evKs_eq (l : List Opd) (e : TE) : evKs l e = l.map (Opd.evT e) := by
  induction l with
  | nil => rfl
  | cons x l ih =>
    show evK x e :: evKs l e = _
    rw [ih, evK_eq]; rfl
noncomputable def blkAt (h : TH) (b : Nat) : Option Blk := ob (h.t.getK b) fun y => y
theorem blkAt_eq {h : TH} {b : Nat} {x : Blk} (e : blkAt h b = some x) : h.t.get b = some (some x) := by
  obtain ⟨y, h1, h2⟩ := ob_some e
  rw [Tr.getK_eq] at h1
  rw [h1, h2]

noncomputable def kMv (x : Opd) : KF := fun _ _ e h => some (evK x e, h)
noncomputable def kPick (c a b : Opd) : KF := fun _ _ e h => ob (evK c e).asBool fun q => some (cond q (evK a e) (evK b e), h)
noncomputable def kField (off n : Nat) (ag : Bool) (x : Opd) : KF := fun _ _ e h => ob (evK x e).asAgg fun cs => cond ag (cond (Nat.ble (Nat.add off n) cs.length) (some (.agg ((cs.drop off).take n), h)) none) (ob (nth cs off) fun v => some (v, h))
noncomputable def kExtract (i : Nat) (x : Opd) : KF := fun _ _ e h => ob (evK x e).asTup fun cs => ob (nth cs i) fun v => some (v, h)
noncomputable def kFieldAddr (off : Nat) (x : Opd) : KF := fun _ _ e h => ob (evK x e).asPtr fun p => some (.ptr p.1 (Nat.add p.2 off), h)
noncomputable def kIndexAddr (sz : Nat) (x i : Opd) : KF := fun _ _ e h => ob (evK x e).asSlice fun p => ob (asNat (evK i e)) fun j => cond (Nat.beq p.2.2.1 sz) (cond (Nat.blt j p.2.2.2) (some (.ptr p.1 (Nat.add p.2.1 (Nat.mul j sz)), h)) none) none
noncomputable def kIndexAddrA (len sz : Nat) (x i : Opd) : KF := fun _ _ e h => ob (evK x e).asPtr fun p => ob (asNat (evK i e)) fun j => cond (Nat.blt j len) (some (.ptr p.1 (Nat.add p.2 (Nat.mul j sz)), h)) none
noncomputable def kNilCheck (x : Opd) : KF := fun _ _ e h => ob (evK x e).asPtr fun p => some (.ptr p.1 p.2, h)
noncomputable def kLenSlice (x : Opd) : KF := fun _ _ e h => ob (evK x e).asLen fun n => some (.int .i64 (.ofNat n), h)
noncomputable def kLoad1 (x : Opd) : KF := fun _ _ e h => ob (evK x e).asPtr fun p => ob (blkAt h p.1) fun b => ob b.asCells fun cs => ob (nth cs p.2) fun v => some (v, h)
noncomputable def kLoadN (n : Nat) (x : Opd) : KF := fun _ _ e h => ob (evK x e).asPtr fun p => ob (blkAt h p.1) fun b => ob b.asCells fun cs => cond (Nat.ble (Nat.add p.2 n) cs.length) (some (.agg ((cs.drop p.2).take n), h)) none
noncomputable def kStore1 (x v : Opd) : KF := fun _ _ e h => ob (evK x e).asPtr fun p => cond (evK v e).plain (ob (blkAt h p.1) fun b => ob b.asOwn fun cs => ob (setNth (evK v e) cs p.2) fun cs' => some (.undef, h.set p.1 (.cells true cs'))) none
noncomputable def kCall (f : Nat) (l : List Opd) : KF := fun rc _ e h => rc f (evKs l e) h
/-- One way, and where it yields nothing, another. -/
noncomputable def kElse (a b : KF) : KF := fun rc tok e h => @Option.rec (V × TH) (fun _ => Option (V × TH)) (b rc tok e h) (fun p => some p) (a rc tok e h)
noncomputable def kMk (slot : Option Nat) (tok : Nat) (x : Blk) (h : TH) : Option (Nat × TH) := @Option.rec Nat (fun _ => Option (Nat × TH)) (some (h.n, h.push (some x)))
  (fun k => ob (h.t.getK (Nat.add tok k)) fun y => @Option.rec Blk (fun _ => Option (Nat × TH)) (some (Nat.add tok k, h.set (Nat.add tok k) x)) (fun _ => none) y) slot
noncomputable def kAlloc (slot : Option Nat) (z : List V) : KF := fun _ tok _ h => ob (kMk slot tok (.cells true z) h) fun p => some (.ptr p.1 0, p.2)
noncomputable def kBox (slot : Option Nat) (x : Opd) : KF := fun _ tok e h => cond (evK x e).plain (ob (kMk slot tok (.cells true [evK x e]) h) fun p => some (.ptr p.1 0, p.2)) none

/-- Two whole numbers. -/
noncomputable def kInts (f : IntKind → Int → Int → V) (x y : Opd) : KF := fun _ _ e h => ob (evK x e).asInt fun p => ob (evK y e).asInt fun q => cond (decide (p.1 = q.1)) (some (f p.1 p.2 q.2, h)) none
def iAdd (k : IntKind) (a b : Int) : V := .int k (wrapK k (Int.add a b))
def iSub (k : IntKind) (a b : Int) : V := .int k (wrapK k (Int.sub a b))
def iMul (k : IntKind) (a b : Int) : V := .int k (wrapK k (Int.mul a b))
def iLss (_ : IntKind) (a b : Int) : V := .bool (ltK a b)
def iLeq (_ : IntKind) (a b : Int) : V := .bool (!ltK b a)
def iGtr (_ : IntKind) (a b : Int) : V := .bool (ltK b a)
def iGeq (_ : IntKind) (a b : Int) : V := .bool (!ltK a b)
def iEql (_ : IntKind) (a b : Int) : V := .bool (eqK a b)
def iNeq (_ : IntKind) (a b : Int) : V := .bool (!eqK a b)
noncomputable def kConv (k : IntKind) (x : Opd) : KF := fun _ _ e h => ob (evK x e).asInt fun p => some (.int k (wrapK k p.2), h)
noncomputable def kIndexS (x i : Opd) : KF := fun _ _ e h => ob (evK x e).asStr fun s => ob (asNat (evK i e)) fun j => ob (nth s.data.toList j) fun b => some (.int .u8 (.ofNat b.toNat), h)
noncomputable def kLenS (x : Opd) : KF := fun _ _ e h => ob (evK x e).asStr fun s => some (.int .i64 (.ofNat s.data.toList.length), h)

noncomputable def kBinKO (op : BinOp) (a b : Opd) (g : KF) : KO := match op with
  | .add => .mk (kElse (kInts iAdd a b) g)
  | .sub => .mk (kElse (kInts iSub a b) g)
  | .mul => .mk (kElse (kInts iMul a b) g)
  | .lss => .mk (kElse (kInts iLss a b) g)
  | .leq => .mk (kElse (kInts iLeq a b) g)
  | .gtr => .mk (kElse (kInts iGtr a b) g)
  | .geq => .mk (kElse (kInts iGeq a b) g)
  | .eql => .mk (kElse (kInts iEql a b) g)
  | .neq => .mk (kElse (kInts iNeq a b) g)
  | _ => .mk g
noncomputable def kScal (P : Program) (o : Oper) (g : KF) : KO := match o.op with
  | .binOp op _ x y _ => match cOpd x, cOpd y with
    | some a, some b => kBinKO op a b g
    | _, _ => .mk g
  | .convert src dst x => match P.underlying src, P.underlying dst, cOpd x with
    | some _, some (.int k), some a => .mk (kElse (kConv k a) g)
    | _, _, _ => .mk g
  | .index t x i => match P.underlying t, cOpd x, cOpd i with
    | some .string, some a, some b => .mk (kElse (kIndexS a b) g)
    | _, _, _ => .mk g
  | .call c => match c.callee with
    | .builtin .len => match c.argTypes.toList, c.args.toList with
      | [t], [x] => match P.underlying t, cOpd x with
        | some .string, some a => .mk (kElse (kLenS a) g)
        | _, _ => .mk g
      | _, _ => .mk g
    | _ => .mk g
  | _ => .mk g
noncomputable def kGen (P : Program) (slot : Option Nat) (x : IOp) : KF := fun rc tok e h => iopT P rc tok slot e x h
/-- An operation, made ready. -/
noncomputable def kop (P : Program) (slot : Option Nat) (x : IOp) : KO := match x with
  | .mv x => .mk (kMv x)
  | .pick c a b => .mk (kPick c a b)
  | .scal o => kScal P o (kGen P slot (.scal o))
  | .field off n ag x => .mk (kField off n ag x)
  | .extract i x => .mk (kExtract i x)
  | .fieldAddr off x => .mk (kFieldAddr off x)
  | .indexAddr sz x i => .mk (kIndexAddr sz x i)
  | .indexAddrA len sz x i => .mk (kIndexAddrA len sz x i)
  | .nilCheck x => .mk (kNilCheck x)
  | .lenSlice x => .mk (kLenSlice x)
  | .load none x => .mk (kLoad1 x)
  | .load (some n) x => .mk (kLoadN n x)
  | .store 1 x v => .mk (kElse (kStore1 x v) (kGen P slot (.store 1 x v)))
  | .alloc z => .mk (kAlloc slot z)
  | .box x => .mk (kElse (kBox slot x) (kGen P slot (.box x)))
  | .call f l => .mk (kCall f l)
  | x => .mk (kGen P slot x)

/-! #### They are what they stand for -/
section
variable {P : Program}
def Sub {α : Type} (a b : TH → Option α) : Prop := ∀ h r, a h = some r → b h = some r
theorem Sub.refl {α : Type} (a : TH → Option α) : Sub a a := fun _ _ h => h

theorem kElse_sub {a b : KF} {c : TH → Option (V × TH)} {rc : RcT} {tok : Nat} {e : TE} (ha : Sub (a rc tok e) c) (hb : Sub (b rc tok e) c) : Sub (kElse a b rc tok e) c := by
  intro h r hr
  unfold kElse at hr
  cases hx : a rc tok e h with
  | none => rw [hx] at hr; exact hb h r hr
  | some p => rw [hx] at hr; exact ha h r (hx.trans hr)

/-- What an operand of the model holds. -/
def rhoT (e : TE) : Operand → Option Value
  | .tmp t => ((e.get t).getD .undef).toVal
  | .const v => some v
  | _ => none
theorem scalT_rho (e : TE) (o : Oper) : scalT P e o = (if o.op.operands.all fun x => (rhoT e x).isSome then
    match pureSem P (execOp (fun x => (rhoT e x).getD undef) o) with
    | some (.value v) => IM.lift (V.ofVal v)
    | _ => .fail
  else .fail) := by
  have : (fun (x : Operand) => match x with
      | .tmp t => ((e.get t).getD .undef).toVal
      | .const v => some v
      | _ => (none : Option Value)) = rhoT e := by
    funext x; cases x <;> rfl
  unfold scalT
  rw [← this]
  rfl
theorem rho_val {e : TE} {x : Operand} {a : Opd} (h : cOpd x = some a) {v : V} {u : Value} (hv : evK a e = v) (hu : v.toVal = some u) : rhoT e x = some u := by
  rw [evK_eq] at hv
  cases x with
  | tmp t =>
    simp only [cOpd, Option.some.injEq] at h
    subst h
    simp only [Opd.evT] at hv
    simp only [rhoT, hv, hu]
  | const c =>
    simp only [cOpd, Option.map_eq_some_iff] at h
    obtain ⟨w, h1, rfl⟩ := h
    simp only [Opd.evT] at hv
    subst hv
    have := VRel.val _ hu (VRel_ofVal (ρ := fun _ => none) h1)
    simp only [rhoT, this]
  | func f =>
    simp only [cOpd, Option.some.injEq] at h
    subst h
    simp only [Opd.evT] at hv
    subst hv
    simp [V.toVal] at hu
  | global g => simp [cOpd] at h

theorem scal_run {e : TE} {o : Oper} {v : V} {u : Value} (h1 : (o.op.operands.all fun x => (rhoT e x).isSome) = true) (h2 : pureSem P (execOp (fun x => (rhoT e x).getD undef) o) = some (.value u)) (h3 : V.ofVal u = some v) (h : TH) : (scalT P e o).runT h = some (v, h) := by
  rw [scalT_rho, if_pos h1, h2]
  simp only [h3, IM.lift, IM.runT]

theorem kInts_sub {f : IntKind → Int → Int → V} {op : BinOp} {t ty : TypeId} {x y : Operand} {a b : Opd} (ha : cOpd x = some a) (hb : cOpd y = some b) {o : Oper} (ho : o.op = .binOp op t x y ty)
    (hf : ∀ k m n, ∃ u, V.ofVal u = some (f k m n) ∧ ∀ (ρ : Operand → Value), ρ x = .int k m → ρ y = .int k n → pureSem P (execOp ρ o) = some (.value u)) (rc : RcT) (tok : Nat) (e : TE) : Sub (kInts f a b rc tok e) (scalT P e o).runT := by
  intro h r hr
  unfold kInts at hr
  obtain ⟨⟨k, m⟩, h1, hr⟩ := ob_some hr
  obtain ⟨⟨k', n⟩, h2, hr⟩ := ob_some hr
  simp only at hr
  cases hk : decide (k = k')
  · rw [hk] at hr; cases hr
  · rw [hk] at hr
    have hk := of_decide_eq_true hk
    subst hk
    simp only [cond_true, Option.some.injEq] at hr
    subst hr
    obtain ⟨u, q1, q2⟩ := hf k m n
    have r1 := rho_val ha (V.asInt_eq h1) (u := .int k m) rfl
    have r2 := rho_val hb (V.asInt_eq h2) (u := .int k n) rfl
    refine scal_run ?_ (q2 _ (by rw [r1]; rfl) (by rw [r2]; rfl)) q1 h
    simp [ho, Op.operands, r1, r2]

theorem exec_bin {op : BinOp} {t ty : TypeId} {x y : Operand} {o : Oper} (ho : o.op = .binOp op t x y ty) {ρ : Operand → Value} {k : IntKind} {m n : Int} (hx : ρ x = .int k m) (hy : ρ y = .int k n) :
    pureSem P (execOp ρ o) = pureSem P ((do eqGuard op t x y (.int k m) (.int k n); binOp op t (.int k m) (.int k n)) >>= fun v => (pure (.value v) : Sem Next)) := by
  unfold execOp
  rw [ho]
  simp only [hx, hy]
theorem kBin_sub {op : BinOp} {t ty : TypeId} {x y : Operand} {a b : Opd} (ha : cOpd x = some a) (hb : cOpd y = some b) {o : Oper} (ho : o.op = .binOp op t x y ty) {g : KF} {rc : RcT} {tok : Nat} {e : TE} (hg : Sub (g rc tok e) (scalT P e o).runT) :
    Sub ((kBinKO op a b g).go rc tok e) (scalT P e o).runT := by
  cases op <;> first
    | exact hg
    | (refine kElse_sub (kInts_sub ha hb ho (fun k m n => ?_) rc tok e) hg
       first
        | exact ⟨.int k (k.wrap (m + n)), by rw [← wrapK_eq]; rfl, fun ρ hx hy => by rw [exec_bin ho hx hy]; cases k <;> rfl⟩
        | exact ⟨.int k (k.wrap (m - n)), by rw [← wrapK_eq]; rfl, fun ρ hx hy => by rw [exec_bin ho hx hy]; cases k <;> rfl⟩
        | exact ⟨.int k (k.wrap (m * n)), by rw [← wrapK_eq]; rfl, fun ρ hx hy => by rw [exec_bin ho hx hy]; cases k <;> rfl⟩
        | exact ⟨.bool (decide (m < n)), by rw [← ltK_eq]; rfl, fun ρ hx hy => by rw [exec_bin ho hx hy]; cases k <;> rfl⟩
        | exact ⟨.bool (decide (m ≤ n)), by simp only [iLeq, ltK_eq, ← decide_not, Int.not_lt]; rfl, fun ρ hx hy => by rw [exec_bin ho hx hy]; cases k <;> rfl⟩
        | exact ⟨.bool (decide (m > n)), by simp only [iGtr, ltK_eq]; rfl, fun ρ hx hy => by rw [exec_bin ho hx hy]; cases k <;> rfl⟩
        | exact ⟨.bool (decide (m ≥ n)), by simp only [iGeq, ltK_eq, ← decide_not, Int.not_lt]; rfl, fun ρ hx hy => by rw [exec_bin ho hx hy]; cases k <;> rfl⟩
        | exact ⟨.bool (m == n), by simp only [iEql, eqK_eq]; rfl, fun ρ hx hy => by rw [exec_bin ho hx hy]; cases k <;> rfl⟩
        | exact ⟨.bool (m != n), by simp only [iNeq, eqK_eq]; rfl, fun ρ hx hy => by rw [exec_bin ho hx hy]; cases k <;> rfl⟩)

theorem pure_bind {α β : Type} (m : Sem α) (f : α → Sem β) : pureSem P (m >>= f) = (pureSem P m).bind fun a => pureSem P (f a) := by
  show pureSem P (m.bind f) = _
  induction m with
  | pure a => rfl
  | program k ih => exact ih P
  | _ => rfl
theorem pure_under (t : TypeId) : pureSem P (underlying t) = P.underlying t := by
  unfold underlying
  rw [pure_bind]
  show (some P).bind (fun a => pureSem P (match a.underlying t with | some d => pure d | none => stuck "no such type")) = _
  simp only [Option.bind_some]
  cases P.underlying t <;> rfl
theorem pure_val (s : Sem Value) : pureSem P (do pure (Next.value (← s)) : Sem Next) = (pureSem P s).map Next.value := by
  rw [pure_bind]
  cases pureSem P s <;> rfl

theorem kConv_sub {src dst : TypeId} {x : Operand} {a : Opd} (ha : cOpd x = some a) {k : IntKind} {d : TypeDesc} (h1 : P.underlying src = some d) (h2 : P.underlying dst = some (.int k)) {o : Oper} (ho : o.op = .convert src dst x) (rc : RcT) (tok : Nat) (e : TE) :
    Sub (kConv k a rc tok e) (scalT P e o).runT := by
  intro h r hr
  unfold kConv at hr
  obtain ⟨⟨j, m⟩, q1, hr⟩ := ob_some hr
  injection hr with hr
  subst hr
  have r1 := rho_val ha (V.asInt_eq q1) (u := .int j m) rfl
  refine scal_run (u := .int k (k.wrap m)) ?_ ?_ (by rw [← wrapK_eq]; rfl) h
  · simp [ho, Op.operands, r1]
  · unfold execOp
    rw [ho]
    simp only [r1, Option.getD_some]
    rw [pure_val]
    unfold convert
    rw [pure_bind, pure_under, h1, Option.bind_some, pure_bind, pure_under, h2, Option.bind_some]
    rfl

theorem kIndexS_sub {t : TypeId} {x i : Operand} {a b : Opd} (ha : cOpd x = some a) (hb : cOpd i = some b) (h1 : P.underlying t = some .string) {o : Oper} (ho : o.op = .index t x i) (rc : RcT) (tok : Nat) (e : TE) :
    Sub (kIndexS a b rc tok e) (scalT P e o).runT := by
  intro h r hr
  unfold kIndexS at hr
  obtain ⟨s, q1, hr⟩ := ob_some hr
  obtain ⟨j, q2, hr⟩ := ob_some hr
  obtain ⟨c, q3, hr⟩ := ob_some hr
  injection hr with hr
  subst hr
  obtain ⟨k, q4⟩ := asNat_eq q2
  have r1 := rho_val ha (V.asStr_eq q1) (u := .string s) rfl
  have r2 := rho_val hb q4 (u := .int k j) rfl
  rw [nth_eq] at q3
  have q5 : s[j]? = some c := by
    have hj : j < s.size := by
      have := (List.getElem?_eq_some_iff.1 q3).1
      simpa using this
    rw [getElem?_pos s j hj]
    congr 1
    have := (List.getElem?_eq_some_iff.1 q3).2
    rw [← this]; rfl
  refine scal_run (u := .int .u8 c.toNat) ?_ ?_ rfl h
  · simp [ho, Op.operands, r1, r2]
  · unfold execOp
    rw [ho]
    simp only [r1, r2, Option.getD_some]
    rw [pure_val]
    unfold Instr.index
    rw [pure_bind]
    show (Option.map Next.value ((some (k, (j : Int))).bind _)) = _
    rw [Option.bind_some, pure_bind, pure_under, h1, Option.bind_some]
    have : (0 : Int) ≤ (j : Int) := by omega
    simp only [this, if_true, Int.toNat_natCast, q5]
    rfl

theorem kLenS_sub {t : TypeId} {x : Operand} {a : Opd} (ha : cOpd x = some a) (h1 : P.underlying t = some .string) {o : Oper} {c : Call} (ho : o.op = .call c) (hc : c.callee = .builtin .len) (ht : c.argTypes.toList = [t]) (hx : c.args.toList = [x]) (rc : RcT) (tok : Nat) (e : TE) :
    Sub (kLenS a rc tok e) (scalT P e o).runT := by
  intro h r hr
  unfold kLenS at hr
  obtain ⟨s, q1, hr⟩ := ob_some hr
  injection hr with hr
  subst hr
  have r1 := rho_val ha (V.asStr_eq q1) (u := .string s) rfl
  have hx' : c.args = #[x] := by apply Array.ext'; simpa using hx
  have ht' : c.argTypes = #[t] := by apply Array.ext'; simpa using ht
  refine scal_run (u := .int .i64 s.size) ?_ ?_ rfl h
  · simp [ho, Op.operands, Call.operands, hc, hx', r1]
  · unfold execOp
    rw [ho]
    show pureSem P (resolve _ c o.type >>= fun d => invoke d.target d.args) = _
    have : resolve (fun x => (rhoT e x).getD undef) c o.type = (Sem.pure { target := .builtin .len #[t] o.type (c.args.map fun | .const _ => true | _ => false), args := #[.string s] } : Sem Deferred) := by
      unfold resolve
      simp only [hc, hx', ht', List.map_toArray, List.map_cons, List.map_nil, r1, Option.getD_some]
      rfl
    rw [this]
    show pureSem P (do pure (Next.value (← Builtin.len_ #[t] o.type #[.string s])) : Sem Next) = _
    rw [pure_val]
    unfold Builtin.len_
    show Option.map Next.value (pureSem P (underlying t >>= _)) = _
    rw [pure_bind, pure_under, h1, Option.bind_some]
    rfl

theorem kScal_sub (o : Oper) {g : KF} {rc : RcT} {tok : Nat} {e : TE} (hg : Sub (g rc tok e) (scalT P e o).runT) : Sub ((kScal P o g).go rc tok e) (scalT P e o).runT := by
  unfold kScal
  split
  · rename_i op t x y ty ho
    split
    · rename_i a b ha hb; exact kBin_sub ha hb ho hg
    · exact hg
  · rename_i src dst x ho
    split
    · rename_i d k a h1 h2 ha; exact kElse_sub (kConv_sub ha h1 h2 ho rc tok e) hg
    · exact hg
  · rename_i t x i ho
    split
    · rename_i a b h1 ha hb; exact kElse_sub (kIndexS_sub ha hb h1 ho rc tok e) hg
    · exact hg
  · rename_i c ho
    split
    · rename_i hc
      split
      · rename_i t x ht hx
        split
        · rename_i a h1 ha; exact kElse_sub (kLenS_sub ha h1 ho hc ht hx rc tok e) hg
        · exact hg
      · exact hg
    · exact hg
  · exact hg

theorem blk_own {b : Nat} {h : TH} {cs : List V} {blk : Blk} (h1 : blkAt h b = some blk) (h2 : blk.asOwn = some cs) : h.t.get b = some (some (.cells true cs)) := by
  rw [blkAt_eq h1, Blk.asOwn_eq h2]
theorem kMk_run {slot : Option Nat} {tok : Nat} {x : Blk} {h : TH} {p : Nat × TH} (hp : kMk slot tok x h = some p) : (mkBlk tok slot x).runT h = some p := by
  cases slot with
  | none => exact hp
  | some k =>
    have hp : ob (h.t.getK (tok + k)) (fun y => @Option.rec Blk (fun _ => Option (Nat × TH)) (some (tok + k, h.set (tok + k) x)) (fun _ => none) y) = some p := hp
    obtain ⟨y, h1, h2⟩ := ob_some hp
    rw [Tr.getK_eq] at h1
    cases y with
    | none => simp only [mkBlk, IM.runT, h1]; exact h2
    | some z => cases h2
theorem runT_bind {α β : Type} : ∀ (m : IM α) (f : α → IM β) (h : TH), (m.bind f).runT h = (m.runT h).bind fun p => (f p.1).runT p.2 := by
  intro m f
  induction m with
  | pure a => intro h; rfl
  | get b k ih => intro h; simp only [IM.bind, IM.runT]; split <;> simp_all
  | set b x k ih => intro h; simp only [IM.bind, IM.runT]; split <;> simp_all
  | alloc x k ih => intro h; simp only [IM.bind, IM.runT]; exact ih _ _
  | reserve n k ih => intro h; simp only [IM.bind, IM.runT]; exact ih _ _
  | fill b x k ih => intro h; simp only [IM.bind, IM.runT]; split <;> simp_all
  | fail => intro h; rfl

/-- **An operation made ready.** -/
theorem kop_sub {rcK rcT : RcT} (hrc : ∀ f a, Sub (rcK f a) (rcT f a)) (slot : Option Nat) (x : IOp) (tok : Nat) (e : TE) : Sub ((kop P slot x).go rcK tok e) (iopT P rcT tok slot e x) := by
  have gen : ∀ y : IOp, y.low = true → Sub (kGen P slot y rcK tok e) (iopT P rcT tok slot e y) := by
    intro y hy h r hr
    unfold kGen at hr
    cases y <;> first
      | (simp [IOp.low] at hy; done)
      | exact hr
  have ev : ∀ y : Opd, (y.in e).ev [] = evK y e := fun y => by rw [ev_nil, evK_eq]
  unfold kop
  split
  · intro h r hr
    have hr : some (evK _ e, h) = some r := hr
    rw [← hr, evK_eq]; rfl
  · rename_i c a b
    intro h r hr
    have hr : ob (evK c e).asBool (fun q => some (cond q (evK a e) (evK b e), h)) = some r := hr
    obtain ⟨q, h1, h2⟩ := ob_some hr
    show IM.runT (iop P _ tok slot [] (.pick (c.in e) (a.in e) (b.in e))) h = _
    simp only [iop, ev, V.asBool_eq h1]
    cases q <;> exact h2
  · rename_i o
    exact kScal_sub o (fun h r hr => hr)
  · rename_i off n ag x
    intro h r hr
    have hr : ob (evK x e).asAgg (fun cs => cond ag (cond (Nat.ble (off + n) cs.length) (some (V.agg ((cs.drop off).take n), h)) none) (ob (nth cs off) fun v => some (v, h))) = some r := hr
    obtain ⟨cs, h1, h2⟩ := ob_some hr
    show IM.runT (iop P _ tok slot [] (.field off n ag (x.in e))) h = _
    simp only [iop, ev, V.asAgg_eq h1]
    cases ag
    · simp only [cond_false] at h2
      obtain ⟨v, h3, h4⟩ := ob_some h2
      rw [nth_eq] at h3
      simp only [h3, IM.lift, Bool.false_eq_true, if_false]; exact h4
    · simp only [cond_true] at h2
      cases hb : Nat.ble (off + n) cs.length
      · rw [hb] at h2; cases h2
      · rw [hb] at h2
        have := Nat.le_of_ble_eq_true hb
        simp only [if_true, this]; exact h2
  · rename_i i x
    intro h r hr
    have hr : ob (evK x e).asTup (fun cs => ob (nth cs i) fun v => some (v, h)) = some r := hr
    obtain ⟨cs, h1, h2⟩ := ob_some hr
    obtain ⟨v, h3, h4⟩ := ob_some h2
    rw [nth_eq] at h3
    show IM.runT (iop P _ tok slot [] (.extract i (x.in e))) h = _
    simp only [iop, ev, V.asTup_eq h1, h3, IM.lift]; exact h4
  · rename_i off x
    intro h r hr
    have hr : ob (evK x e).asPtr (fun p => some (V.ptr p.1 (p.2 + off), h)) = some r := hr
    obtain ⟨p, h1, h2⟩ := ob_some hr
    show IM.runT (iop P _ tok slot [] (.fieldAddr off (x.in e))) h = _
    simp only [iop, ev, V.asPtr_eq h1]; exact h2
  · rename_i sz x i
    intro h r hr
    have hr : ob (evK x e).asSlice (fun p => ob (asNat (evK i e)) fun j => cond (Nat.beq p.2.2.1 sz) (cond (Nat.blt j p.2.2.2) (some (V.ptr p.1 (p.2.1 + j * sz), h)) none) none) = some r := hr
    obtain ⟨⟨b, o, sz', n⟩, h1, h2⟩ := ob_some hr
    obtain ⟨j, h3, h4⟩ := ob_some h2
    obtain ⟨k, h5⟩ := asNat_eq h3
    obtain ⟨c, m, h6⟩ := V.asSlice_eq h1
    show IM.runT (iop P _ tok slot [] (.indexAddr sz (x.in e) (i.in e))) h = _
    simp only at h4 h6
    cases hb : Nat.beq sz' sz
    · rw [hb] at h4; cases h4
    · rw [hb] at h4
      have hb := Nat.eq_of_beq_eq_true hb
      cases hl : Nat.blt j n
      · rw [hl] at h4; cases h4
      · rw [hl] at h4
        have hl : j < n := by simpa using hl
        have e1 : (0 : Int) ≤ (j : Int) ∧ (j : Int) < (n : Int) := by omega
        simp only [iop, ev, h5, h6, hb, e1, and_self, if_true, Int.toNat_natCast]; exact h4
  · rename_i len sz x i
    intro h r hr
    have hr : ob (evK x e).asPtr (fun p => ob (asNat (evK i e)) fun j => cond (Nat.blt j len) (some (V.ptr p.1 (p.2 + j * sz), h)) none) = some r := hr
    obtain ⟨p, h1, h2⟩ := ob_some hr
    obtain ⟨j, h3, h4⟩ := ob_some h2
    obtain ⟨k, h5⟩ := asNat_eq h3
    show IM.runT (iop P _ tok slot [] (.indexAddrA len sz (x.in e) (i.in e))) h = _
    cases hl : Nat.blt j len
    · rw [hl] at h4; cases h4
    · rw [hl] at h4
      have hl : j < len := by simpa using hl
      have e1 : (0 : Int) ≤ (j : Int) ∧ (j : Int) < (len : Int) := by omega
      simp only [iop, ev, h5, V.asPtr_eq h1, e1, and_self, if_true, Int.toNat_natCast]; exact h4
  · rename_i x
    intro h r hr
    have hr : ob (evK x e).asPtr (fun p => some (V.ptr p.1 p.2, h)) = some r := hr
    obtain ⟨p, h1, h2⟩ := ob_some hr
    show IM.runT (iop P _ tok slot [] (.nilCheck (x.in e))) h = _
    simp only [iop, ev, V.asPtr_eq h1]; exact h2
  · rename_i x
    intro h r hr
    have hr : ob (evK x e).asLen (fun n => some (V.int .i64 (.ofNat n), h)) = some r := hr
    obtain ⟨n, h1, h2⟩ := ob_some hr
    show IM.runT (iop P _ tok slot [] (.lenSlice (x.in e))) h = _
    rcases V.asLen_eq h1 with ⟨q, rfl⟩ | ⟨b, o, sz, c, m, q⟩
    · simp only [iop, ev, q]; exact h2
    · simp only [iop, ev, q]; exact h2
  · rename_i x
    intro h r hr
    have hr : ob (evK x e).asPtr (fun p => ob (blkAt h p.1) fun b => ob b.asCells fun cs => ob (nth cs p.2) fun v => some (v, h)) = some r := hr
    obtain ⟨p, h1, h2⟩ := ob_some hr
    obtain ⟨b, h3, h4⟩ := ob_some h2
    obtain ⟨cs, h5, h6⟩ := ob_some h4
    obtain ⟨v, h7, h8⟩ := ob_some h6
    obtain ⟨w, rfl⟩ := Blk.asCells_eq h5
    rw [nth_eq] at h7
    show IM.runT (iop P _ tok slot [] (.load none (x.in e))) h = _
    simp only [iop, ev, V.asPtr_eq h1, loadAt, getCells, IM.bind, IM.runT, blkAt_eq h3]
    have hl := (List.getElem?_eq_some_iff.1 h7).1
    rw [if_pos (by omega)]
    have : ((cs.drop p.2).take 1)[0]? = some v := by simp [h7]
    simp only [IM.bind, this, IM.lift, IM.runT]; exact h8
  · rename_i n x
    intro h r hr
    have hr : ob (evK x e).asPtr (fun p => ob (blkAt h p.1) fun b => ob b.asCells fun cs => cond (Nat.ble (p.2 + n) cs.length) (some (V.agg ((cs.drop p.2).take n), h)) none) = some r := hr
    obtain ⟨p, h1, h2⟩ := ob_some hr
    obtain ⟨b, h3, h4⟩ := ob_some h2
    obtain ⟨cs, h5, h6⟩ := ob_some h4
    obtain ⟨w, rfl⟩ := Blk.asCells_eq h5
    show IM.runT (iop P _ tok slot [] (.load (some n) (x.in e))) h = _
    simp only [iop, ev, V.asPtr_eq h1, loadAt, getCells, IM.bind, IM.runT, blkAt_eq h3]
    cases hb : Nat.ble (p.2 + n) cs.length
    · rw [hb] at h6; cases h6
    · rw [hb] at h6
      have := Nat.le_of_ble_eq_true hb
      rw [if_pos this]; exact h6
  · rename_i x v
    refine kElse_sub ?_ (gen _ rfl)
    intro h r hr
    have hr : ob (evK x e).asPtr (fun p => cond (evK v e).plain (ob (blkAt h p.1) fun b => ob b.asOwn fun cs => ob (setNth (evK v e) cs p.2) fun cs' => some (V.undef, h.set p.1 (.cells true cs'))) none) = some r := hr
    obtain ⟨p, h1, h2⟩ := ob_some hr
    cases hp : (evK v e).plain
    · rw [hp] at h2; cases h2
    · rw [hp] at h2
      obtain ⟨b, h3, h4⟩ := ob_some h2
      obtain ⟨cs, h5, h6⟩ := ob_some h4
      obtain ⟨cs', h7, h8⟩ := ob_some h6
      obtain ⟨q1, q2⟩ := setNth_eq _ _ _ _ h7
      obtain ⟨q3, q4⟩ := V.plain_eq hp
      show IM.runT (iop P _ tok slot [] (.store 1 (x.in e) (v.in e))) h = _
      have q5 : allOne [evK v e] = true := by simp [allOne, q4]
      simp only [iop, ev, V.asPtr_eq h1, q3, List.length_cons, List.length_nil, q5, and_self, if_true, putCells, IM.bind, IM.runT, blk_own h3 h5]
      rw [if_pos (by omega)]
      rw [q2] at h8
      simp only [IM.bind, IM.runT, blk_own h3 h5]
      exact h8
  · rename_i z
    intro h r hr
    have hr : ob (kMk slot tok (.cells true z) h) (fun p => some (V.ptr p.1 0, p.2)) = some r := hr
    obtain ⟨p, h1, h2⟩ := ob_some hr
    show IM.runT (iop P _ tok slot [] (.alloc z)) h = _
    simp only [iop, runT_bind, kMk_run h1]
    exact h2
  · rename_i x
    refine kElse_sub ?_ (gen _ rfl)
    intro h r hr
    have hr : cond (evK x e).plain (ob (kMk slot tok (.cells true [evK x e]) h) fun p => some (V.ptr p.1 0, p.2)) none = some r := hr
    cases hp : (evK x e).plain
    · rw [hp] at hr; cases hr
    · rw [hp] at hr
      obtain ⟨p, h1, h2⟩ := ob_some hr
      obtain ⟨q3, q4⟩ := V.plain_eq hp
      have q5 : allOne [evK x e] = true := by simp [allOne, q4]
      show IM.runT (iop P _ tok slot [] (.box (x.in e))) h = _
      simp only [iop, ev, q3, q5, if_true, runT_bind, kMk_run h1]
      exact h2
  · rename_i f l
    intro h r hr
    have hr : rcK f (evKs l e) h = some r := hr
    rw [evKs_eq] at hr
    exact hrc _ _ _ _ hr
  · rename_i h1 h2 h3 h4 h5 h6 h7 h8 h9 h10 h11 h12 h13 h14 h15 h16
    cases x <;> first
      | exact gen _ rfl
      | exact (h16 _ _ rfl).elim
      | exact (h3 _ rfl).elim
      | skip
    case callV f l =>
      intro h r hr
      have hr : iopT P rcK tok slot e (.callV f l) h = some r := hr
      simp only [iopT] at hr ⊢
      generalize f.evT e = q at hr ⊢
      split at hr
      · exact hrc _ _ _ _ hr
      · cases hr
end
end Go.Ideal
