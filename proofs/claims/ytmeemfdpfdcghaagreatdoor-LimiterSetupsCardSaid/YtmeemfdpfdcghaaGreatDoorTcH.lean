import Derived.Test.YtmeemfdpfdcghaaGreatDoorTcG

/- Regions whose order is drawn, in stages. -/
namespace Go.Tc

noncomputable def valOut (r : Option AV) (M : AMem) : Option AOut :=
  match r with
  | some v => some (.val v M)
  | none => none

/-- The n-th of a list. -/
noncomputable def nthL {α : Type} (c : List α) : Nat → Option α :=
  List.rec (motive := fun _ => Nat → Option α) (fun _ => none) (fun x _ ih o => Nat.rec (motive := fun _ => Option α) (some x) (fun o _ => ih o) o) c

theorem nthL_eq {α : Type} (c : List α) : ∀ o, nthL c o = c[o]? := by
  induction c with
  | nil => intro o; rfl
  | cons x r ih =>
    intro o
    cases o with
    | zero => rfl
    | succ o => exact (ih o).trans (by simp)

noncomputable def putP : Nat → Nat → Box (AV → Tr AV → Tr AV)
  | 0, _ => ⟨fun _ t => t⟩
  | _ + 1, 0 => ⟨fun v t => .node (some v) t.lft t.rgt⟩
  | f + 1, k + 1 => match putP f (k / 2) with
    | ⟨g⟩ => if k % 2 = 0 then ⟨fun v t => .node t.top (g v t.lft) t.rgt⟩ else ⟨fun v t => .node t.top t.lft (g v t.rgt)⟩

noncomputable def putK (dst : Option Tmp) : Box (AV → AAct → AAct) :=
  match dst with
  | none => ⟨fun _ a => a⟩
  | some d => match putP (d + 1) d with
    | ⟨f⟩ => ⟨fun v a => match a with | ⟨n, t, ds⟩ => ⟨n, f v t, ds⟩⟩

noncomputable def fitsK (dst : Option Tmp) : Box (AAct → Bool) :=
  match dst with
  | none => ⟨fun _ => true⟩
  | some d => ⟨fun a => match a with | ⟨n, _, _⟩ => Nat.ble (d + 1) n⟩

theorem putP_eq (v : AV) : ∀ (f : Nat) (t : Tr AV) (k : Nat), k < f → (putP f k).un v t = t.setF (some v) f k := by
  intro f
  induction f with
  | zero => intro t k h; omega
  | succ f ih =>
    intro t k h
    cases k with
    | zero => cases t <;> rfl
    | succ k =>
      simp only [putP]
      by_cases e : k % 2 = 0
      · simp only [e, if_true]
        show Tr.node t.top ((putP f (k / 2)).un v t.lft) t.rgt = _
        rw [ih _ _ (by omega)]
        cases t with
        | leaf => rw [Tr.setF_leafS, if_pos e]; rfl
        | node u l r => rw [Tr.setF_nodeS, if_pos e]; rfl
      · simp only [e, if_false]
        show Tr.node t.top t.lft ((putP f (k / 2)).un v t.rgt) = _
        rw [ih _ _ (by omega)]
        cases t with
        | leaf => rw [Tr.setF_leafS, if_neg e]; rfl
        | node u l r => rw [Tr.setF_nodeS, if_neg e]; rfl

theorem putK_eq (dst : Option Tmp) (v : AV) (a : AAct) : (putK dst).un v a = a.put dst v := by
  cases dst with
  | none => rfl
  | some d =>
    show AAct.mk a.n ((putP (d + 1) d).un v a.t) a.defers = _
    rw [putP_eq _ _ _ _ (Nat.lt_succ_self d)]
    rfl

theorem fitsK_eq (dst : Option Tmp) (a : AAct) : (fitsK dst).un a = a.fits dst := by
  cases dst with
  | none => rfl
  | some d =>
    show Nat.ble (d + 1) a.n = decide (d < a.n)
    rw [Bool.eq_iff_iff, decide_eq_true_iff]
    exact ⟨fun h => Nat.le_of_ble_eq_true h, fun h => Nat.ble_eq_true_of_le h⟩

/-- Is an operation wanted? -/
noncomputable def wantK (ops : Array Oper) (o : Oper) : Box (Tr AV → Option Bool) :=
  match o.guard with
  | none => ⟨fun _ => some true⟩
  | some (j, want) => match (ops[j]?).bind (·.dst) with
    | some d => match getP (d + 1) d with
      | ⟨g⟩ => ⟨fun t => match g t with
        | some (.bool b) => some (b == want)
        | some _ => some false
        | none => none⟩
    | none => ⟨fun _ => some false⟩

theorem wantK_eq (ops : Array Oper) (o : Oper) (a : AAct) : (wantK ops o).un a.t = awanted ops a o := by
  unfold wantK awanted
  cases o.guard with
  | none => rfl
  | some g =>
    obtain ⟨j, want⟩ := g
    simp only
    cases (ops[j]?).bind (·.dst) with
    | none => rfl
    | some d =>
      show (match (getP (d + 1) d).un a.t with
        | some (.bool b) => some (b == want)
        | some _ => some false
        | none => none) = _
      rw [getP_eq _ _ _ (Nat.lt_succ_self d)]
      cases h : a.t.get d with
      | none => simp [h]
      | some v => cases v <;> simp [h]

/-- The value of an operation that only computes or looks. -/
noncomputable def valK (P : Program) (T : Tab) (o : Oper) : Box (AAct → AMem → Option AV) :=
  match o.op with
  | .move x | .assign x => match aevalK x with | ⟨f⟩ => ⟨fun a _ => f a.t⟩
  | .pick c x y => ⟨fun a _ => vPick a c x y⟩
  | .extract x i => ⟨fun a _ => vExtract a x i⟩
  | .field t x f => ⟨fun a _ => vField T a t x f⟩
  | .build t parts => ⟨fun a _ => abuild T a t parts.toList⟩
  | .load t x => match loadK T t x with | ⟨f⟩ => ⟨fun a M => f a.t M⟩
  | .nilCheck x => ⟨fun a _ => vNilCheck a x⟩
  | .binOp op t x y _ => match binK P T op t x y with | ⟨f⟩ => ⟨fun a _ => f a.t⟩
  | .unOp op _ x => ⟨fun a _ => vUn P a op x⟩
  | .makeInterface t x => ⟨fun a _ => vMakeInterface T a t x⟩
  | .makeFunc (.func f) first captured => ⟨fun a _ => vMakeFunc a f first captured⟩
  | .fieldAddr t x f => ⟨fun a _ => vFieldAddr T a t x f⟩
  | .indexAddr t x i => ⟨fun a _ => vIndexAddr T a t x i⟩
  | .index t x i => match indexK T t x i with | ⟨f⟩ => ⟨fun a _ => f a⟩
  | .slice t x lo hi mx => ⟨fun a M => vSlice T a M t x lo hi mx⟩
  | .lookup t m k ok => ⟨fun a M => vLookup P T a M t m k ok⟩
  | .entry x => ⟨fun a M => vEntry a M x⟩
  | .typeAssert x _ at_ ok => ⟨fun a _ => vTypeAssert T a x at_ ok⟩
  | _ => ⟨fun a M => aval P T a M o.type o.op⟩

theorem valK_eq (P : Program) (T : Tab) (o : Oper) (a : AAct) (M : AMem) : (valK P T o).un a M = aval P T a M o.type o.op := by
  unfold valK
  split <;> rename_i ho <;> simp only [aval, ho]
  · exact aevalK_eq _ _
  · exact aevalK_eq _ _
  · exact loadK_eq _ _ _ _ _
  · exact binK_eq _ _ _ _ _ _ _
  · exact indexK_eq _ _ _ _ _

/-- Operations that do not look at memory. -/
noncomputable def memFree : Op → Bool
  | .move _ | .assign _ | .pick .. | .extract .. | .field .. | .build .. | .nilCheck _ | .binOp .. | .unOp .. | .makeInterface .. | .makeFunc (.func _) _ _
  | .fieldAddr .. | .indexAddr .. | .index .. | .typeAssert .. => true
  | _ => false

theorem memFree_eq {op : Op} (h : memFree op = true) (P : Program) (T : Tab) (a : AAct) (M N : AMem) (ty : TypeId) : aval P T a M ty op = aval P T a N ty op := by
  unfold memFree at h
  split at h <;> first | rfl | cases h

mutual
theorem beqAV_refl : ∀ v : AV, beqAV v v = true
  | .bool b => by simp [beqAV]
  | .int k n => by simp [beqAV]
  | .float k n => by simp [beqAV]
  | .string s => by simp [beqAV]
  | .nilPtr => by simp [beqAV]
  | .ptr a b => by simp [beqAV]
  | .nilSlice => by simp [beqAV]
  | .slice a b c d e => by simp [beqAV]
  | .nilMap => by simp [beqAV]
  | .map b => by simp [beqAV]
  | .func f a b => by simp [beqAV, beqL_refl a, beqL_refl b]
  | .nilFunc => by simp [beqAV]
  | .iface t v => by simp [beqAV, beqAV_refl v]
  | .nilIface => by simp [beqAV]
  | .agg a => by simp [beqAV, beqL_refl a]
  | .tuple a => by simp [beqAV, beqL_refl a]
theorem beqL_refl : ∀ l : List AV, beqL l l = true
  | [] => by simp [beqL]
  | v :: r => by simp [beqL, beqAV_refl v, beqL_refl r]
end

/-- What is to be looked at again, at other stages. -/
structure Chk where
  low : Nat
  high : Nat
  ok : AMem → Bool

/-- At each stage that counts: is it well? -/
noncomputable def chkOne (c : Chk) (Ms : List AMem) : Nat → Bool :=
  List.rec (motive := fun _ => Nat → Bool) (fun _ => true)
    (fun N _ ih s => Bool.rec (motive := fun _ => Bool) (Bool.rec (motive := fun _ => Bool) (Bool.rec (motive := fun _ => Bool) false (ih (Nat.succ s)) (c.ok N)) (ih (Nat.succ s)) (Nat.ble (Nat.succ c.high) s)) (ih (Nat.succ s)) (Nat.ble (Nat.succ s) c.low)) Ms

theorem chkOne_eq (c : Chk) (Ms : List AMem) : ∀ s, chkOne c Ms s = (Ms.zipIdx s).all fun (N, s) => decide (s < c.low) || decide (c.high < s) || c.ok N := by
  induction Ms with
  | nil => intro s; rfl
  | cons N r ih =>
    intro s
    rw [List.zipIdx_cons, List.all_cons, ← ih (s + 1)]
    show Bool.rec (motive := fun _ => Bool) (Bool.rec (motive := fun _ => Bool) (Bool.rec (motive := fun _ => Bool) false (chkOne c r (s + 1)) (c.ok N)) (chkOne c r (s + 1)) (Nat.ble (c.high + 1) s)) (chkOne c r (s + 1)) (Nat.ble (s + 1) c.low) = _
    have h1 : Nat.ble (s + 1) c.low = decide (s < c.low) := by
      rw [Bool.eq_iff_iff, decide_eq_true_iff]
      exact ⟨fun h => Nat.le_of_ble_eq_true h, fun h => Nat.ble_eq_true_of_le h⟩
    have h2 : Nat.ble (c.high + 1) s = decide (c.high < s) := by
      rw [Bool.eq_iff_iff, decide_eq_true_iff]
      exact ⟨fun h => Nat.le_of_ble_eq_true h, fun h => Nat.ble_eq_true_of_le h⟩
    rw [h1, h2]
    show _ = ((decide (s < c.low) || decide (c.high < s) || c.ok N) && chkOne c r (s + 1))
    generalize decide (s < c.low) = x
    generalize decide (c.high < s) = y
    generalize c.ok N = z
    generalize chkOne c r (s + 1) = u
    cases x <;> cases y <;> cases z <;> cases u <;> rfl

noncomputable def chkAll (cs : List Chk) (Ms : List AMem) : Bool :=
  List.rec (motive := fun _ => Bool) true (fun c _ ih => Bool.rec (motive := fun _ => Bool) false ih (chkOne c Ms 0)) cs

theorem chkAll_cons (c : Chk) (r : List Chk) (Ms : List AMem) : chkAll (c :: r) Ms = (chkOne c Ms 0 && chkAll r Ms) := by
  show Bool.rec (motive := fun _ => Bool) false (chkAll r Ms) (chkOne c Ms 0) = _
  cases chkOne c Ms 0 <;> rfl

abbrev RunR := Option (AExit × AAct × AMem × List Chk × List AMem)

noncomputable def wantThen {β : Type} (w : Option Bool) (no yes : Option β) : Option β :=
  match w with
  | some true => yes
  | some false => no
  | none => none

noncomputable def runK (P : Program) (T : Tab) (ops : Array Oper) (ol : List Oper) (B : Nat → Nat) (ch : List Nat) : List Nat → Box (CallF → AAct → AMem → List Chk → List AMem → RunR)
  | [] => ⟨fun _ a M cs Ms => some (.normal, a, M, cs, M :: Ms)⟩
  | i :: r => match nthL ol i with
    | none => ⟨fun _ _ _ _ _ => none⟩
    | some o => match fitsK o.dst, putK o.dst, wantK ops o, readsOf ops o with
      | ⟨fits⟩, ⟨put⟩, ⟨want⟩, rs =>
        if isVal T o then match valK P T o with
          | ⟨f⟩ => if memFree o.op then
              ⟨fun call a M cs Ms => Bool.rec (motive := fun _ => RunR) none
                (wantThen (want (pickT a.t rs)) ((runK P T ops ol B ch r).un call (put aundef a) M cs Ms)
                  (match f (pick a rs) M with
                  | some v => (runK P T ops ol B ch r).un call (put v a) M cs Ms
                  | none => none)) (fits a)⟩
            else match lowOf B ch i, highOf B ch i with
            | lo, hi => ⟨fun call a M cs Ms => Bool.rec (motive := fun _ => RunR) none
                (wantThen (want (pickT a.t rs)) ((runK P T ops ol B ch r).un call (put aundef a) M cs Ms)
                  (match f (pick a rs) M with
                  | some v => (runK P T ops ol B ch r).un call (put v a) M (⟨lo, hi, fun N => beqO (f (pick a rs) N) v⟩ :: cs) Ms
                  | none => none)) (fits a)⟩
        else if isAlloc T o then match lowOf B ch i, highOf B ch i with
          | lo, hi => ⟨fun call a M cs Ms => Bool.rec (motive := fun _ => RunR) none
              (wantThen (want (pickT a.t rs)) ((runK P T ops ol B ch r).un call (put aundef a) M cs Ms)
                (match aalloc T (pick a rs) o.op with
                | some (k, g) => (runK P T ops ol B ch r).un call (put (g M.next) a) (M.push k) (⟨lo, hi, fun N => match N.get M.next with | some k' => beqBlk k' k | none => false⟩ :: cs) Ms
                | none => none)) (fits a)⟩
        else ⟨fun call a M cs Ms => Bool.rec (motive := fun _ => RunR) none
            (wantThen (want (pickT a.t rs)) ((runK P T ops ol B ch r).un call (put aundef a) M cs (M :: Ms))
              (match aeff P T call (pick a rs) M o.op with
              | some (.val v M') => Bool.rec (motive := fun _ => RunR) none ((runK P T ops ol B ch r).un call (put v a) M' cs (M :: Ms)) (Nat.ble M.next M'.next)
              | some (.skip M') => Bool.rec (motive := fun _ => RunR) none ((runK P T ops ol B ch r).un call (put aundef a) M' cs (M :: Ms)) (Nat.ble M.next M'.next)
              | some (.panic c M') => some (.panic c, clearDsts ol a, M', cs, M :: Ms)
              | _ => none)) (fits a)⟩

noncomputable def drawK (P : Program) (T : Tab) (ops : Array Oper) : Box (CallF → AAct → AMem → Option (AExit × AAct × AMem)) :=
  match masks ops, chainList T ops with
  | B, ch => match orderList T ops B ch ch 0 with
    | L => match drawOk ops B ch && orderOk T ops B ch L 0 0 with
      | true => match runK P T ops ops.toList B ch L with
        | ⟨f⟩ => ⟨fun call a M => match f call a M [] [] with
          | some (e, a', M', cs, Ms) => Bool.rec (motive := fun _ => Option (AExit × AAct × AMem)) none (some (e, a', M')) (chkAll cs Ms.reverse)
          | none => none⟩
      | false => ⟨fun _ _ _ => none⟩

/-- What the checks stand for. -/
noncomputable def ChkRel (P : Program) (T : Tab) (ops : Array Oper) (B : Nat → Nat) (ch : List Nat) (ds : List Did) (cs : List Chk) : Prop :=
  ∀ Ms, stableAll P T ops B ch Ms ds = chkAll cs Ms

theorem stableAll_cons {P : Program} {T : Tab} {ops : Array Oper} {B : Nat → Nat} {ch : List Nat} {d : Did} {ds : List Did} {Ms : List AMem} {o : Oper} (ho : ops[d.i]? = some o) :
    stableAll P T ops B ch Ms (d :: ds) = ((isChain T o || (Ms.zipIdx.all fun (N, s) => decide (s < lowOf B ch d.i) || decide (highOf B ch d.i < s) || stable P T ops N d)) && stableAll P T ops B ch Ms ds) := by
  simp only [stableAll, List.all_cons, ho]

theorem ChkRel.skip {P : Program} {T : Tab} {ops : Array Oper} {B : Nat → Nat} {ch : List Nat} {ds : List Did} {cs : List Chk} (h : ChkRel P T ops B ch ds cs) {d : Did} {o : Oper} (ho : ops[d.i]? = some o)
    (hs : isChain T o = true ∨ ∀ N, stable P T ops N d = true) : ChkRel P T ops B ch (d :: ds) cs := by
  intro Ms
  rw [stableAll_cons ho, ← h Ms]
  rcases hs with hs | hs
  · simp [hs]
  · simp [hs]

theorem ChkRel.cons {P : Program} {T : Tab} {ops : Array Oper} {B : Nat → Nat} {ch : List Nat} {ds : List Did} {cs : List Chk} (h : ChkRel P T ops B ch ds cs) {d : Did} {o : Oper} (ho : ops[d.i]? = some o)
    (hc : isChain T o = false) {c : Chk} (h1 : c.low = lowOf B ch d.i) (h2 : c.high = highOf B ch d.i) (h3 : ∀ N, c.ok N = stable P T ops N d) : ChkRel P T ops B ch (d :: ds) (c :: cs) := by
  intro Ms
  rw [stableAll_cons ho, chkAll_cons, chkOne_eq, ← h Ms]
  simp only [hc, Bool.false_or, h1, h2, h3]

/-- The two runs come to the same. -/
noncomputable def RunRel (P : Program) (T : Tab) (ops : Array Oper) (B : Nat → Nat) (ch : List Nat) (x : Option (AExit × AAct × AMem × List Did × List AMem)) (y : RunR) : Prop :=
  (x = none ∧ y = none) ∨ ∃ e a M ds cs Ms, x = some (e, a, M, ds, Ms) ∧ y = some (e, a, M, cs, Ms) ∧ ChkRel P T ops B ch ds cs

theorem chain_of_valK {T : Tab} {o : Oper} (h : isVal T o = true) : isChain T o = false := by simp [isChain, h]
theorem chain_of_allocK {T : Tab} {o : Oper} (h : isAlloc T o = true) : isChain T o = false := by simp [isChain, h]

theorem RunRel.same {P : Program} {T : Tab} {ops : Array Oper} {B : Nat → Nat} {ch : List Nat} {x x' : Option (AExit × AAct × AMem × List Did × List AMem)} {y y' : RunR} (h : RunRel P T ops B ch x' y') (hx : x = x') (hy : y = y') : RunRel P T ops B ch x y := by
  subst hx; subst hy; exact h

theorem runK_rel {P : Program} {T : Tab} {ops : Array Oper} {B : Nat → Nat} {ch : List Nat} (call : CallF) : ∀ (L : List Nat) (a : AAct) (M : AMem) (ds : List Did) (cs : List Chk) (Ms : List AMem),
    ChkRel P T ops B ch ds cs → RunRel P T ops B ch (runL P T call ops L a M ds Ms) ((runK P T ops ops.toList B ch L).un call a M cs Ms) := by
  intro L
  induction L with
  | nil => intro a M ds cs Ms h; exact .inr ⟨_, _, _, _, _, _, rfl, rfl, h⟩
  | cons i L ih =>
    intro a M ds cs Ms h
    have hn : nthL ops.toList i = ops[i]? := by rw [nthL_eq, Array.getElem?_toList]
    cases ho : ops[i]? with
    | none =>
      refine .inl ⟨by simp only [runL, ho], ?_⟩
      simp only [runK, hn, ho]
    | some o =>
      have hput : ∀ v a, (putK o.dst).un v a = a.put o.dst v := fun v a => putK_eq _ _ _
      have hwant : (wantK ops o).un (pickT a.t (readsOf ops o)) = awanted ops (pick a (readsOf ops o)) o := wantK_eq ops o (pick a (readsOf ops o))
      have hf := fitsK_eq o.dst a
      cases hv : isVal T o with
      | true =>
        have hc := chain_of_valK hv
        cases hm : memFree o.op with
        | true =>
          have this : (runK P T ops ops.toList B ch (i :: L)).un call a M cs Ms = Bool.rec (motive := fun _ => RunR) none
              (wantThen ((wantK ops o).un (pickT a.t (readsOf ops o))) ((runK P T ops ops.toList B ch L).un call ((putK o.dst).un aundef a) M cs Ms)
                (match (valK P T o).un (pick a (readsOf ops o)) M with
                | some v => (runK P T ops ops.toList B ch L).un call ((putK o.dst).un v a) M cs Ms
                | none => none)) ((fitsK o.dst).un a) := by simp only [runK, hn, ho, hv, hm, if_true]
          rw [this, hf, hwant]
          cases hfit : a.fits o.dst with
          | false => exact .inl ⟨by simp only [runL, ho, hfit, Bool.false_eq_true, if_false], rfl⟩
          | true =>
            simp only [runL, ho, hfit, if_true, hv, hc, Bool.false_eq_true, if_false, hput, valK_eq]
            cases hw : awanted ops (pick a (readsOf ops o)) o with
            | none => exact .inl ⟨rfl, rfl⟩
            | some b =>
              cases b with
              | false => exact ih _ _ _ _ _ (h.skip (d := ⟨i, _, false, _, _⟩) ho (.inr fun N => rfl))
              | true =>
                simp only [wantThen]
                cases hav : aval P T (pick a (readsOf ops o)) M o.type o.op with
                | none => exact .inl ⟨rfl, rfl⟩
                | some v =>
                  refine ih _ _ _ _ _ (h.skip (d := ⟨i, _, true, _, _⟩) ho (.inr fun N => ?_))
                  simp only [stable, if_true, ho]
                  rw [memFree_eq hm P T _ N M, hav]
                  exact beqAV_refl v
        | false =>
          have this : (runK P T ops ops.toList B ch (i :: L)).un call a M cs Ms = Bool.rec (motive := fun _ => RunR) none
              (wantThen ((wantK ops o).un (pickT a.t (readsOf ops o))) ((runK P T ops ops.toList B ch L).un call ((putK o.dst).un aundef a) M cs Ms)
                (match (valK P T o).un (pick a (readsOf ops o)) M with
                | some v => (runK P T ops ops.toList B ch L).un call ((putK o.dst).un v a) M (⟨lowOf B ch i, highOf B ch i, fun N => beqO ((valK P T o).un (pick a (readsOf ops o)) N) v⟩ :: cs) Ms
                | none => none)) ((fitsK o.dst).un a) := by simp only [runK, hn, ho, hv, hm, if_true, Bool.false_eq_true, if_false]
          rw [this, hf, hwant]
          cases hfit : a.fits o.dst with
          | false => exact .inl ⟨by simp only [runL, ho, hfit, Bool.false_eq_true, if_false], rfl⟩
          | true =>
            simp only [runL, ho, hfit, if_true, hv, hc, Bool.false_eq_true, if_false, hput, valK_eq]
            cases hw : awanted ops (pick a (readsOf ops o)) o with
            | none => exact .inl ⟨rfl, rfl⟩
            | some b =>
              cases b with
              | false => exact ih _ _ _ _ _ (h.skip (d := ⟨i, _, false, _, _⟩) ho (.inr fun N => rfl))
              | true =>
                simp only [wantThen]
                cases hav : aval P T (pick a (readsOf ops o)) M o.type o.op with
                | none => exact .inl ⟨rfl, rfl⟩
                | some v =>
                  refine ih _ _ _ _ _ (h.cons (d := ⟨i, _, true, _, _⟩) ho hc rfl rfl (fun N => ?_))
                  simp only [stable, if_true, ho]
      | false =>
        cases hal : isAlloc T o with
        | true =>
          have hc := chain_of_allocK hal
          have this : (runK P T ops ops.toList B ch (i :: L)).un call a M cs Ms = Bool.rec (motive := fun _ => RunR) none
            (wantThen ((wantK ops o).un (pickT a.t (readsOf ops o))) ((runK P T ops ops.toList B ch L).un call ((putK o.dst).un aundef a) M cs Ms)
              (match aalloc T (pick a (readsOf ops o)) o.op with
              | some (k, g) => (runK P T ops ops.toList B ch L).un call ((putK o.dst).un (g M.next) a) (M.push k) (⟨lowOf B ch i, highOf B ch i, fun N => match N.get M.next with | some k' => beqBlk k' k | none => false⟩ :: cs) Ms
              | none => none)) ((fitsK o.dst).un a) := by simp only [runK, hn, ho, hv, hal, if_true, Bool.false_eq_true, if_false]
          rw [this, hf, hwant]
          cases hfit : a.fits o.dst with
          | false => exact .inl ⟨by simp only [runL, ho, hfit, Bool.false_eq_true, if_false], rfl⟩
          | true =>
            simp only [runL, ho, hfit, if_true, hv, hal, hc, Bool.false_eq_true, if_false, hput]
            cases hw : awanted ops (pick a (readsOf ops o)) o with
            | none => exact .inl ⟨rfl, rfl⟩
            | some b =>
              cases b with
              | false => exact ih _ _ _ _ _ (h.skip (d := ⟨i, _, false, _, _⟩) ho (.inr fun N => rfl))
              | true =>
                simp only [wantThen]
                cases hav : aalloc T (pick a (readsOf ops o)) o.op with
                | none => exact .inl ⟨rfl, rfl⟩
                | some kg =>
                  obtain ⟨k, g⟩ := kg
                  refine ih _ _ _ _ _ (h.cons (d := ⟨i, _, true, _, _⟩) ho hc rfl rfl (fun N => ?_))
                  simp only [stable, if_true]
                  cases N.get M.next <;> rfl
        | false =>
          have hc : isChain T o = true := by simp [isChain, hv, hal]
          have this : (runK P T ops ops.toList B ch (i :: L)).un call a M cs Ms = Bool.rec (motive := fun _ => RunR) none
            (wantThen ((wantK ops o).un (pickT a.t (readsOf ops o))) ((runK P T ops ops.toList B ch L).un call ((putK o.dst).un aundef a) M cs (M :: Ms))
            (match aeff P T call (pick a (readsOf ops o)) M o.op with
            | some (.val v M') => Bool.rec (motive := fun _ => RunR) none ((runK P T ops ops.toList B ch L).un call ((putK o.dst).un v a) M' cs (M :: Ms)) (Nat.ble M.next M'.next)
            | some (.skip M') => Bool.rec (motive := fun _ => RunR) none ((runK P T ops ops.toList B ch L).un call ((putK o.dst).un aundef a) M' cs (M :: Ms)) (Nat.ble M.next M'.next)
            | some (.panic c M') => some (.panic c, clearDsts ops.toList a, M', cs, M :: Ms)
            | _ => none)) ((fitsK o.dst).un a) := by simp only [runK, hn, ho, hv, hal, Bool.false_eq_true, if_false]
          rw [this, hf, hwant]
          cases hfit : a.fits o.dst with
          | false => exact .inl ⟨by simp only [runL, ho, hfit, Bool.false_eq_true, if_false], rfl⟩
          | true =>
            simp only [runL, ho, hfit, if_true, hv, hal, hc, Bool.false_eq_true, if_false, hput]
            cases hw : awanted ops (pick a (readsOf ops o)) o with
            | none => exact .inl ⟨rfl, rfl⟩
            | some b =>
              cases b with
              | false => exact ih _ _ _ _ _ (h.skip (d := ⟨i, _, false, _, _⟩) ho (.inl hc))
              | true =>
                simp only [wantThen]
                cases hav : aeff P T call (pick a (readsOf ops o)) M o.op with
                | none => exact .inl ⟨rfl, rfl⟩
                | some out =>
                  cases out with
                  | val v M' =>
                    simp only
                    by_cases hle : M.next ≤ M'.next
                    · rw [if_pos hle, Nat.ble_eq_true_of_le hle]
                      exact ih _ _ _ _ _ (h.skip (d := ⟨i, _, true, _, _⟩) ho (.inl hc))
                    · have : Nat.ble M.next M'.next = false := by
                        rw [Bool.eq_false_iff]
                        exact fun e => hle (Nat.le_of_ble_eq_true e)
                      rw [if_neg hle, this]
                      exact .inl ⟨rfl, rfl⟩
                  | skip M' =>
                    simp only
                    by_cases hle : M.next ≤ M'.next
                    · rw [if_pos hle, Nat.ble_eq_true_of_le hle]
                      exact ih _ _ _ _ _ (h.skip (d := ⟨i, _, true, _, _⟩) ho (.inl hc))
                    · have : Nat.ble M.next M'.next = false := by
                        rw [Bool.eq_false_iff]
                        exact fun e => hle (Nat.le_of_ble_eq_true e)
                      rw [if_neg hle, this]
                      exact .inl ⟨rfl, rfl⟩
                  | defer d => exact .inl ⟨rfl, rfl⟩
                  | panic c M' => exact .inr ⟨_, _, _, _, _, _, rfl, rfl, h⟩

theorem drawK_eq (P : Program) (T : Tab) (ops : Array Oper) (call : CallF) (a : AAct) (M : AMem) : (drawK P T ops).un call a M = adraw P T call ops a M := by
  unfold drawK adraw
  simp only
  generalize hB : masks ops = B
  generalize hch : chainList T ops = ch
  generalize hL : orderList T ops B ch ch 0 = L
  cases hok : drawOk ops B ch && orderOk T ops B ch L 0 0 with
  | false => simp
  | true =>
    simp only [if_true]
    show (match (runK P T ops ops.toList B ch L).un call a M [] [] with
      | some (e, a', M', cs, Ms) => Bool.rec (motive := fun _ => Option (AExit × AAct × AMem)) none (some (e, a', M')) (chkAll cs Ms.reverse)
      | none => none) = _
    have h0 : ChkRel P T ops B ch [] [] := fun Ms => rfl
    rcases runK_rel (P := P) (T := T) (ops := ops) (B := B) (ch := ch) call L a M [] [] [] h0 with ⟨h1, h2⟩ | ⟨e, a', M', ds, cs, Ms, h1, h2, h3⟩
    · rw [h1, h2]
    · rw [h1, h2]
      simp only [h3 Ms.reverse]
      cases chkAll cs Ms.reverse <;> rfl

end Go.Tc
