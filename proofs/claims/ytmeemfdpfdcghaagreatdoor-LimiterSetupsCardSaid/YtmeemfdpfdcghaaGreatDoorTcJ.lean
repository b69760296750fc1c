import Derived.Test.YtmeemfdpfdcghaaGreatDoorTcI

/- The staged evaluator answers as the evaluator does. -/
namespace Go.Tc

variable {P : Program} {T : Tab}

theorem opK_eq (call : CallF) (a : AAct) (M : AMem) (o : Oper) : (opK P T o).un call a M = aop P T call a M o := by
  unfold opK
  split <;> rename_i ho <;> simp only [aop, aval, aalloc, aeff, ho]
  · show valOut ((aevalK _).un a.t) M = _
    rw [aevalK_eq]; cases aeval a _ <;> rfl
  · show valOut ((aevalK _).un a.t) M = _
    rw [aevalK_eq]; cases aeval a _ <;> rfl
  · cases vPick a _ _ _ <;> rfl
  · cases vExtract a _ _ <;> rfl
  · cases vField T a _ _ _ <;> rfl
  · cases abuild T a _ _ <;> rfl
  · show valOut ((loadK T _ _).un a.t M) M = _
    rw [loadK_eq]; cases vLoad T a M _ _ <;> rfl
  · cases vNilCheck a _ <;> rfl
  · show valOut ((binK P T _ _ _ _).un a.t) M = _
    rw [binK_eq]; cases vBin P T a _ _ _ _ <;> rfl
  · cases vUn P a _ _ <;> rfl
  · cases vMakeInterface T a _ _ <;> rfl
  · cases vFieldAddr T a _ _ _ <;> rfl
  · cases vIndexAddr T a _ _ _ <;> rfl
  · cases vIndex T a _ _ _ <;> rfl
  · cases vSlice T a M _ _ _ _ _ <;> rfl
  · cases vLookup P T a M _ _ _ _ <;> rfl
  · cases vEntry a M _ <;> rfl
  · cases vTypeAssert T a _ _ _ <;> rfl
  · rename_i c
    split
    · rename_i hc
      simp only [vCall, eCall, hc]
      cases aevalL a c.args.toList with
      | none => rfl
      | some vs => simp only [eBuiltin]; cases areadBuiltin P T M .len c.argTypes o.type vs <;> rfl
    · rename_i hc
      simp only [vCall, eCall, hc]
      cases aevalL a c.args.toList with
      | none => rfl
      | some vs => simp only [eBuiltin]; cases areadBuiltin P T M .cap c.argTypes o.type vs <;> rfl
    · rename_i hc
      simp only [vCall, eCall, hc]
      cases aevalL a c.args.toList with
      | none => rfl
      | some vs => simp only [eBuiltin]; cases areadBuiltin P T M .min c.argTypes o.type vs <;> rfl
    · rename_i hc
      simp only [vCall, eCall, hc]
      cases aevalL a c.args.toList with
      | none => rfl
      | some vs => simp only [eBuiltin]; cases areadBuiltin P T M .max c.argTypes o.type vs <;> rfl
    · rename_i hc
      simp only [vCall, hc]
      cases aevalL a c.args.toList <;> rfl
    · rename_i hc
      simp only [vCall, hc]
      cases aevalL a c.args.toList <;> rfl
    · rename_i g hc
      simp only [vCall, hc]
      cases hg : T.ext.get g with
      | none =>
        simp only [eCall, hc, aeval]
        show (match (aevalLK c.args.toList).un a.t with
          | some vs => ofEnd (call g ([] ++ vs ++ []) M)
          | none => none) = _
        rw [aevalLK_eq]
        cases aevalL a c.args.toList with
        | none => rfl
        | some vs => simp only [eFunc, hg]
      | some e =>
        have hgen : e ≠ .makeNoZero → (match (aevalLK c.args.toList).un a.t with
            | some vs => valOut (extK M e vs) M
            | none => none) = (match (match aevalL a c.args.toList with
              | some vs => areadExt M e vs
              | none => none) with
            | some v => some (AOut.val v M)
            | none => eCall P T call a M c) := by
          intro hne
          rw [aevalLK_eq]
          simp only [eCall, hc, aeval]
          cases aevalL a c.args.toList with
          | none => rfl
          | some vs =>
            simp only [extK_eq, eFunc, hg]
            cases areadExt M e vs with
            | some v => rfl
            | none => cases e <;> first | rfl | exact absurd rfl hne
        cases e with
        | makeNoZero => simp only [aop, aval, aalloc, aeff, ho, vCall, hc, hg]
        | _ => exact hgen (by simp)
    · simp only [aop, aval, aalloc, aeff, ho]

theorem aop_val {o : Oper} (h : valOnly o.op = true) (call : CallF) (a : AAct) (M : AMem) : aop P T call a M o = valOut (aval P T a M o.type o.op) M := by
  unfold valOnly at h
  split at h <;> rename_i ho <;> first
    | (simp only [aop, ho, aalloc, aeff]
       cases aval P T a M o.type _ <;> rfl)
    | (exact absurd h (by simp))

theorem opsK_eq (call : CallF) (ops : Array Oper) : ∀ (l : List Oper) (a : AAct) (M : AMem), (opsK P T ops l).un call a M = aops P T call ops l a M := by
  intro l
  induction l with
  | nil => intro a M; rfl
  | cons o r ih =>
    intro a M
    have hput : ∀ v a, (putK o.dst).un v a = a.put o.dst v := fun v a => putK_eq _ _ _
    have key : ∀ a M, outThen ((opK P T o).un call a M) a M (putK o.dst).un ((opsK P T ops r).un call) = (match aop P T call a M o with
        | some (.val v M') => aops P T call ops r (a.put o.dst v) M'
        | some (.skip M') => aops P T call ops r (a.put o.dst aundef) M'
        | some (.defer d) => aops P T call ops r ({ a with defers := d :: a.defers }.put o.dst aundef) M
        | some (.panic ch M') => some (.panic ch, a, M')
        | none => none) := by
      intro a M
      rw [opK_eq]
      cases aop P T call a M o with
      | none => rfl
      | some out => cases out <;> simp only [outThen, hput, ih]
    have plain : o.guard = none → Bool.rec (motive := fun _ => Option (AExit × AAct × AMem)) none (outThen ((opK P T o).un call a M) a M (putK o.dst).un ((opsK P T ops r).un call)) ((fitsK o.dst).un a) = aops P T call ops (o :: r) a M := by
      intro hg
      have hw : ∀ a, awanted ops a o = some true := fun a => by simp only [awanted, hg]
      rw [key, fitsK_eq]
      simp only [aops, hw]
      cases a.fits o.dst with
      | false => rfl
      | true =>
        simp only [if_true]
        cases aop P T call a M o with
        | none => rfl
        | some out => cases out <;> rfl
    cases hg : o.guard with
    | none =>
      cases hv : valOnly o.op with
      | false =>
        rw [← plain hg]
        simp only [opsK, hg, hv]
      | true =>
        cases hd : o.dst with
        | none =>
          rw [← plain hg]
          simp only [opsK, hg, hv, hd]
        | some d =>
          have hw : awanted ops a o = some true := by simp only [awanted, hg]
          have : (opsK P T ops (o :: r)).un call a M = Bool.rec (motive := fun _ => Option (AExit × AAct × AMem)) none
              (valThen ((valK P T o).un a M) fun v => (opsK P T ops r).un call ⟨a.n, (putP (d + 1) d).un v a.t, a.defers⟩ M) (Nat.ble (d + 1) a.n) := by
            simp only [opsK, hg, hv, hd]
          rw [this, valK_eq]
          have hf : Nat.ble (d + 1) a.n = a.fits o.dst := by rw [hd]; exact fitsK_eq (some d) a
          rw [hf]
          simp only [aops, hw, aop_val hv]
          cases a.fits o.dst with
          | false => rfl
          | true =>
            simp only [if_true]
            cases aval P T a M o.type o.op with
            | none => rfl
            | some v =>
              simp only [valThen, valOut]
              have hp : (⟨a.n, (putP (d + 1) d).un v a.t, a.defers⟩ : AAct) = a.put o.dst v := by rw [hd]; exact putK_eq (some d) v a
              rw [hp]
              exact ih _ _
    | some g =>
      have : (opsK P T ops (o :: r)).un call a M = Bool.rec (motive := fun _ => Option (AExit × AAct × AMem)) none
        (wantThen ((wantK ops o).un a.t) ((opsK P T ops r).un call ((putK o.dst).un aundef a) M) (outThen ((opK P T o).un call a M) a M (putK o.dst).un ((opsK P T ops r).un call))) ((fitsK o.dst).un a) := by
        simp only [opsK, hg]
      rw [this, fitsK_eq, wantK_eq]
      simp only [key, hput, ih]
      simp only [aops]
      cases a.fits o.dst with
      | false => rfl
      | true =>
        simp only [if_true]
        cases awanted ops a o with
        | none => rfl
        | some b =>
          cases b with
          | false => rfl
          | true =>
            simp only [wantThen]
            cases aop P T call a M o with
            | none => rfl
            | some out => cases out <;> rfl

theorem codeK_eq (ih : Ev) : ∀ (c : Code) (a : AAct) (M : AMem), (codeK P T c).un ih a M = codeF P T ih c a M := by
  intro c
  induction c with
  | region id ops draw =>
    intro a M
    cases draw with
    | true => exact drawK_eq P T ops ih.call a M
    | false =>
      show (opsK P T ops ops.toList).un ih.call a M = _
      rw [opsK_eq]; rfl
  | seq x y ihx ihy =>
    intro a M
    show (match (codeK P T x).un ih a M with
      | some (AExit.normal, a', M') => (codeK P T y).un ih a' M'
      | r => r) = _
    simp only [codeF, ihx, ihy]
    cases codeF P T ih x a M with
    | none => rfl
    | some r => obtain ⟨e, a', M'⟩ := r; cases e <;> rfl
  | cond c x y ihx ihy =>
    intro a M
    show (match (aevalK c).un a.t with
      | some (.bool b) => Bool.rec (motive := fun _ => Option (AExit × AAct × AMem)) ((codeK P T y).un ih a M) ((codeK P T x).un ih a M) b
      | _ => none) = _
    rw [aevalK_eq]
    simp only [codeF, ihx, ihy]
    cases aeval a c with
    | none => rfl
    | some v => cases v <;> first | rfl | (rename_i b; cases b <;> rfl)
  | block id c ihc =>
    intro a M
    show (match (codeK P T c).un ih a M with
      | some (AExit.exit j, a', M') => if j = id then some (AExit.normal, a', M') else some (AExit.exit j, a', M')
      | r => r) = _
    simp only [codeF, ihc]
    cases codeF P T ih c a M with
    | none => rfl
    | some r => obtain ⟨e, a', M'⟩ := r; cases e <;> rfl
  | loop c ihc =>
    intro a M
    show (match (codeK P T c).un ih a M with
      | some (AExit.normal, a', M') => ih.code (.loop c) a' M'
      | r => r) = _
    simp only [codeF, ihc]
    cases codeF P T ih c a M with
    | none => rfl
    | some r => obtain ⟨e, a', M'⟩ := r; cases e <;> rfl
  | scope c ihc =>
    intro a M
    show (match (codeK P T c).un ih a M with
      | some (AExit.goto _, _, _) => none
      | r => r) = _
    simp only [codeF, ihc]
    cases codeF P T ih c a M with
    | none => rfl
    | some r => obtain ⟨e, a', M'⟩ := r; cases e <;> rfl
  | _ => intro a M; rfl

theorem funK_eq (ih : Ev) (f : FuncId) (vs : List AV) (M : AMem) : (funK P T f).un ih vs M = callF P T ih f vs M := by
  unfold funK callF
  cases T.funcs.get f with
  | none => rfl
  | some fn =>
    simp only
    cases fn.body with
    | none => rfl
    | some c =>
      show (match (codeK P T c).un ih (enterAct fn vs) M with
        | some (AExit.normal, a, M') | some (AExit.ret, a, M') => leave P T ih fn a a.defers .returning M'
        | some (AExit.panic ch, a, M') => leave P T ih fn a a.defers (.panicking ch) M'
        | _ => none) = _
      rw [codeK_eq]
      cases h : codeF P T ih c (enterAct fn vs) M with
      | none => simp [h]
      | some r => obtain ⟨e, a', M'⟩ := r; cases e <;> simp [h]

theorem evK_eq (n : Nat) : evK P T n = ev P T n := by
  induction n with
  | zero => rfl
  | succ n ih =>
    show Ev.mk (fun c => (codeK P T c).un (evK P T n)) (fun f => (funK P T f).un (evK P T n)) = Ev.mk (codeF P T (ev P T n)) (callF P T (ev P T n))
    rw [ih]
    congr 1
    · funext c a M; exact codeK_eq _ c a M
    · funext f vs M; exact funK_eq _ f vs M

end Go.Tc
