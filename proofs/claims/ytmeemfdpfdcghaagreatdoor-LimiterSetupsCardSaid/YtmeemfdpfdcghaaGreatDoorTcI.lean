import Derived.Test.YtmeemfdpfdcghaaGreatDoorTcH

/- The staged evaluator: operations, code, calls. -/
namespace Go.Tc

noncomputable def opK (P : Program) (T : Tab) (o : Oper) : Box (CallF → AAct → AMem → Option AOut) :=
  match o.op with
  | .move x | .assign x => match aevalK x with | ⟨f⟩ => ⟨fun _ a M => valOut (f a.t) M⟩
  | .pick c x y => ⟨fun _ a M => valOut (vPick a c x y) M⟩
  | .extract x i => ⟨fun _ a M => valOut (vExtract a x i) M⟩
  | .field t x f => ⟨fun _ a M => valOut (vField T a t x f) M⟩
  | .build t parts => ⟨fun _ a M => valOut (abuild T a t parts.toList) M⟩
  | .load t x => match loadK T t x with | ⟨f⟩ => ⟨fun _ a M => valOut (f a.t M) M⟩
  | .nilCheck x => ⟨fun _ a M => valOut (vNilCheck a x) M⟩
  | .binOp op t x y _ => match binK P T op t x y with | ⟨f⟩ => ⟨fun _ a M => valOut (f a.t) M⟩
  | .unOp op _ x => ⟨fun _ a M => valOut (vUn P a op x) M⟩
  | .makeInterface t x => ⟨fun _ a M => valOut (vMakeInterface T a t x) M⟩
  | .fieldAddr t x f => ⟨fun _ a M => valOut (vFieldAddr T a t x f) M⟩
  | .indexAddr t x i => ⟨fun _ a M => valOut (vIndexAddr T a t x i) M⟩
  | .index t x i => ⟨fun _ a M => valOut (vIndex T a t x i) M⟩
  | .slice t x lo hi mx => ⟨fun _ a M => valOut (vSlice T a M t x lo hi mx) M⟩
  | .lookup t m k ok => ⟨fun _ a M => valOut (vLookup P T a M t m k ok) M⟩
  | .entry x => ⟨fun _ a M => valOut (vEntry a M x) M⟩
  | .typeAssert x _ at_ ok => ⟨fun _ a M => valOut (vTypeAssert T a x at_ ok) M⟩
  | .store t x v => ⟨fun _ a M => eStore T a M t x v⟩
  | .mapUpdate t m k v | .insert t m k v => ⟨fun _ a M => eUpdate P T a M t m k v⟩
  | .next x isString => ⟨fun _ a M => eNext a M x isString⟩
  | .defer c => ⟨fun _ a _ => eDefer a c⟩
  | .call c => match c.callee with
    | .builtin .len | .builtin .cap | .builtin .min | .builtin .max => ⟨fun _ a M => valOut (vCall P T a M o.type c) M⟩
    | .builtin .append | .builtin .copy => ⟨fun call a M => eCall P T call a M c⟩
    | .value (.func g) => match T.ext.get g with
      | none => match aevalLK c.args.toList with
        | ⟨f⟩ => ⟨fun call a M => match f a.t with
          | some vs => ofEnd (call g ([] ++ vs ++ []) M)
          | none => none⟩
      | some .makeNoZero => ⟨fun call a M => aop P T call a M o⟩
      | some e => match aevalLK c.args.toList with
        | ⟨f⟩ => ⟨fun _ a M => match f a.t with
          | some vs => valOut (extK M e vs) M
          | none => none⟩
    | _ => ⟨fun call a M => aop P T call a M o⟩
  | _ => ⟨fun call a M => aop P T call a M o⟩

/-- What comes behind an operation. -/
noncomputable def outThen (r : Option AOut) (a : AAct) (M : AMem) (put : AV → AAct → AAct) (next : AAct → AMem → Option (AExit × AAct × AMem)) : Option (AExit × AAct × AMem) :=
  match r with
  | some (.val v M') => next (put v a) M'
  | some (.skip M') => next (put aundef a) M'
  | some (.defer d) => next (put aundef { a with defers := d :: a.defers }) M
  | some (.panic ch M') => some (.panic ch, a, M')
  | none => none

/-- Operations that only compute or look, and are nothing else. -/
noncomputable def valOnly : Op → Bool
  | .move _ | .assign _ | .pick .. | .extract .. | .field .. | .build .. | .load .. | .nilCheck _ | .binOp .. | .unOp .. | .makeInterface ..
  | .fieldAddr .. | .indexAddr .. | .index .. | .slice .. | .lookup .. | .entry _ | .typeAssert .. => true
  | _ => false

noncomputable def valThen {β : Type} (r : Option AV) (next : AV → Option β) : Option β :=
  match r with
  | some v => next v
  | none => none

noncomputable def opsK (P : Program) (T : Tab) (ops : Array Oper) : List Oper → Box (CallF → AAct → AMem → Option (AExit × AAct × AMem))
  | [] => ⟨fun _ a M => some (.normal, a, M)⟩
  | o :: r => match o.guard, valOnly o.op, o.dst with
    | none, true, some d => match valK P T o, putP (d + 1) d with
      | ⟨f⟩, ⟨put⟩ => ⟨fun call a M => match a with
        | ⟨n, t, ds⟩ => Bool.rec (motive := fun _ => Option (AExit × AAct × AMem)) none (valThen (f ⟨n, t, ds⟩ M) fun v => (opsK P T ops r).un call ⟨n, put v t, ds⟩ M) (Nat.ble (d + 1) n)⟩
    | none, _, _ => match opK P T o, putK o.dst, fitsK o.dst with
      | ⟨f⟩, ⟨put⟩, ⟨fits⟩ => ⟨fun call a M => Bool.rec (motive := fun _ => Option (AExit × AAct × AMem)) none (outThen (f call a M) a M put ((opsK P T ops r).un call)) (fits a)⟩
    | some _, _, _ => match opK P T o, putK o.dst, fitsK o.dst, wantK ops o with
      | ⟨f⟩, ⟨put⟩, ⟨fits⟩, ⟨want⟩ => ⟨fun call a M => Bool.rec (motive := fun _ => Option (AExit × AAct × AMem)) none
        (wantThen (want a.t) ((opsK P T ops r).un call (put aundef a) M) (outThen (f call a M) a M put ((opsK P T ops r).un call))) (fits a)⟩

noncomputable def codeK (P : Program) (T : Tab) : Code → Box (Ev → AAct → AMem → Option (AExit × AAct × AMem))
  | .skip | .label _ => ⟨fun _ a M => some (.normal, a, M)⟩
  | .region _ ops draw => if draw then match drawK P T ops with | ⟨f⟩ => ⟨fun ih a M => f ih.call a M⟩ else match opsK P T ops ops.toList with | ⟨f⟩ => ⟨fun ih a M => f ih.call a M⟩
  | .seq x y => match codeK P T x with
    | ⟨f⟩ => ⟨fun ih a M => match f ih a M with
      | some (.normal, a', M') => (codeK P T y).un ih a' M'
      | r => r⟩
  | .cond c x y => match aevalK c with
    | ⟨f⟩ => ⟨fun ih a M => match f a.t with
      | some (.bool b) => Bool.rec (motive := fun _ => Option (AExit × AAct × AMem)) ((codeK P T y).un ih a M) ((codeK P T x).un ih a M) b
      | _ => none⟩
  | .block id c => match codeK P T c with
    | ⟨f⟩ => ⟨fun ih a M => match f ih a M with
      | some (.exit j, a', M') => if j = id then some (.normal, a', M') else some (.exit j, a', M')
      | r => r⟩
  | .loop c => match codeK P T c with
    | ⟨f⟩ => ⟨fun ih a M => match f ih a M with
      | some (.normal, a', M') => ih.code (.loop c) a' M'
      | r => r⟩
  | .exit id => ⟨fun _ a M => some (.exit id, a, M)⟩
  | .ret => ⟨fun _ a M => some (.ret, a, M)⟩
  | .scope c => match codeK P T c with
    | ⟨f⟩ => ⟨fun ih a M => match f ih a M with
      | some (.goto _, _, _) => none
      | r => r⟩
  | _ => ⟨fun _ _ _ => none⟩

noncomputable def funK (P : Program) (T : Tab) (f : FuncId) : Box (Ev → List AV → AMem → Option (AEnd × AMem)) :=
  match T.funcs.get f with
  | some fn => match fn.body with
    | some c => match codeK P T c with
      | ⟨g⟩ => ⟨fun ih vs M => match g ih (enterAct fn vs) M with
        | some (.normal, a, M') | some (.ret, a, M') => leave P T ih fn a a.defers .returning M'
        | some (.panic ch, a, M') => leave P T ih fn a a.defers (.panicking ch) M'
        | _ => none⟩
    | none => ⟨fun _ _ _ => none⟩
  | none => ⟨fun _ _ _ => none⟩

noncomputable def evK (P : Program) (T : Tab) : Nat → Ev :=
  Nat.rec ⟨fun _ _ _ => none, fun _ _ _ => none⟩ fun _ ih => ⟨fun c => (codeK P T c).un ih, fun f => (funK P T f).un ih⟩

end Go.Tc
