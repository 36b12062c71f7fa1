/- The heap logic: 'vcOp' by class; a region in its own order, a region that draws its order, code, a body. -/
import Derived.Test.YtgheplpbffanoaaHl8
namespace Go.Hl

inductive Cls where
  | pv | ld | nw | ef
  deriving DecidableEq

def clsCall : Callee → Cls
  | .builtin .len | .builtin .min | .builtin .max => .pv
  | _ => .ef

def cls : Op → Cls
  | .move _ | .assign _ | .pick .. | .build .. | .binOp .. | .unOp .. | .convert .. | .nilCheck _ | .makeFunc .. | .slice .. | .fieldAddr .. | .field .. | .indexAddr .. | .index .. | .extract .. => .pv
  | .call c => clsCall c.callee
  | .load .. => .ld
  | .alloc _ | .box .. | .buildSlice .. => .nw
  | _ => .ef

section
variable {P : Program} {o : Oper} {KP k : Value → Pr} {h : Heap} {env : Env}

theorem call_pv {c : Call} (ho : o.op = .call c) (hc : cls (.call c) = .pv) (s : vcCall P KP c o.type (evE env) k h) : SemP P o (evE env) k h := by
  unfold vcCall at s
  obtain ⟨vs, hv, s⟩ := gvs_some s
  cases hcal : c.callee with
  | value f => simp [cls, clsCall, hcal] at hc
  | invoke r m => simp [cls, clsCall, hcal] at hc
  | builtin b =>
    simp only [hcal] at s
    cases b <;> first
      | (simp [cls, clsCall, hcal] at hc; done)
      | skip
    case len =>
      cases ht : c.argTypes.toList with
      | nil => simp only [ht] at s; exact s.elim
      | cons t ts =>
        cases vs with
        | nil => simp only [ht] at s; exact s.elim
        | cons v vs =>
          simp only [ht] at s
          exact sem_len ho hcal ht hv s
    case max => exact sem_minmax (mx := true) ho (by simpa using hcal) hv s
    case min => exact sem_minmax (mx := false) ho (by simpa using hcal) hv s

theorem vcOp_pv (hc : cls o.op = .pv) (s : vcOp P KP o (evE env) k h) : SemP P o (evE env) k h := by
  unfold vcOp at s
  cases ho : o.op <;> simp only [ho] at s hc <;> first
    | exact sem_move (.inl ho) s
    | exact sem_move (.inr ho) s
    | exact sem_pick ho s
    | exact sem_build ho s
    | (obtain ⟨v, hv, s⟩ := gv_some s
       first
         | exact sem_un ho hv s
         | exact sem_convert ho hv s
         | exact sem_nil ho hv s
         | exact sem_slice ho hv s
         | exact sem_fieldAddr ho hv s
         | exact sem_field ho hv s
         | exact sem_extract ho hv s
         | (obtain ⟨u, hu, s⟩ := gv_some s
            first
              | exact sem_bin ho hv hu s
              | exact sem_indexAddr ho hv hu s
              | exact sem_index ho hv hu s))
    | exact sem_makeFunc ho s
    | exact call_pv ho hc s
    | exact s.elim
    | (simp [cls] at hc; done)

theorem vcOp_ld {t : TypeId} {x : Operand} (ho : o.op = .load t x) (s : vcOp P KP o (evE env) k h) : ∃ va, (evE env x).get = some va ∧ SemL P o (evE env) (loadF P t va) k h := by
  unfold vcOp at s
  simp only [ho] at s
  obtain ⟨va, hv, s⟩ := gv_some s
  exact ⟨va, hv, sem_load ho hv s⟩

theorem vcOp_nw (hc : cls o.op = .nw) (s : vcOp P KP o (evE env) k h) : SemA P o (evE env) k h := by
  unfold vcOp at s
  cases ho : o.op <;> simp only [ho] at s hc <;> first
    | exact sem_box ho s
    | exact sem_buildSlice ho s
    | skip
  case alloc t =>
    cases hz : zeroOk P t with
    | false => simp only [hz] at s; exact s.elim
    | true => simp only [hz] at s; exact sem_alloc ho hz s
  case call c =>
    cases hcal : c.callee with
    | value f => simp [cls, clsCall, hcal] at hc
    | invoke r m => simp [cls, clsCall, hcal] at hc
    | builtin b => cases b <;> simp [cls, clsCall, hcal] at hc
  all_goals (simp [cls] at hc; done)

theorem vcOp_ef (s : vcOp P KP o (evE env) k h) : SemE P o (evE env) KP k h := by
  cases hc : cls o.op with
  | pv => exact (vcOp_pv hc s).toE
  | nw => exact (vcOp_nw hc s).toE
  | ld =>
    cases ho : o.op <;> simp [cls, ho] at hc <;> first
      | (obtain ⟨va, _, s⟩ := vcOp_ld ho s; exact s.toE)
      | skip
    case call c =>
      cases hcal : c.callee with
      | value f => simp [clsCall, hcal] at hc
      | invoke r m => simp [clsCall, hcal] at hc
      | builtin b => cases b <;> simp [clsCall, hcal] at hc
  | ef =>
    unfold vcOp at s
    cases ho : o.op <;> simp only [ho] at s hc <;> first
      | exact s.elim
      | (simp [cls] at hc; done)
      | skip
    case store t a x =>
      obtain ⟨va, hva, s⟩ := gv_some s
      obtain ⟨v, hv, s⟩ := gv_some s
      exact sem_store ho hva hv s
    case call c =>
      unfold vcCall at s
      obtain ⟨vs, hv, s⟩ := gvs_some s
      cases hcal : c.callee with
      | invoke r m => simp only [hcal] at s; exact s.elim
      | value f =>
        by_cases hf : ∃ g, f = .func g
        · obtain ⟨g, rfl⟩ := hf
          simp only [hcal] at s
          exact sem_call ho hcal rfl hv s
        · have s' : gv (evE env f) (fun v => pCallV P v vs KP (rshapeOf P o.type) fun x => k ((rshapeOf P o.type).inj x)) h := by
            cases f <;> simp only [hcal] at s <;> first | exact s | exact absurd ⟨_, rfl⟩ hf
          obtain ⟨v, hx, s'⟩ := gv_some s'
          exact sem_callV ho hcal hx hv s'
      | builtin b =>
        simp only [hcal] at s
        cases b <;> first
          | exact s.elim
          | (simp [cls, clsCall, hcal] at hc; done)
          | skip
        case append =>
          unfold vcAppend at s
          match hat : c.argTypes.toList, hvs : vs, s with
          | [t, u], [.slice a n cc, .slice b m d], s =>
            simp only at s
            cases hu : P.underlying t with
            | none => simp only [hu] at s; exact s.elim
            | some dt =>
              cases hu' : P.underlying u with
              | none => simp only [hu, hu'] at s; cases dt <;> exact s.elim
              | some du =>
                simp only [hu, hu'] at s
                cases dt <;> try exact s.elim
                cases du <;> try exact s.elim
                rename_i el el'
                simp only at s
                cases hz : (zeroOk P el && decide (sizeP P el ≠ 0) && decide (bytesP P el ≠ 0)) with
                | false => simp only [hz] at s; exact s.elim
                | true =>
                  simp only [hz] at s
                  simp only [Bool.and_eq_true, decide_eq_true_eq] at hz
                  exact sem_append (s := ⟨a, n, cc⟩) (x := ⟨b, m, d⟩) ho hcal hat (by rw [hv]; rfl) hu hu' hz.1.1 hz.1.2 hz.2 s

end

/- Regions. -/
def putE (env : Env) (dst : Option Tmp) (v : EV) : Env :=
  match dst with
  | some d => env.set d v
  | none => env

/-- The step of one operation: guarded or not. -/
def vcStep (ops : Array Oper) (o : Oper) (env : Env) (ex sk : Env → Pr) : Pr :=
  match o.guard with
  | none => ex env
  | some (j, want) =>
    match (ops[j]?).bind (·.dst) with
    | none => F
    | some d =>
      match env.at d with
      | .sk => sk env
      | .tt => if want then ex env else sk env
      | .ff => if want then sk env else ex env
      | .val (.bool b) => pIf b (if want then ex (env.set d .tt) else sk (env.set d .tt)) (if want then sk (env.set d .ff) else ex (env.set d .ff))
      | _ => F

/-- An operation, its result as an environment has it: a Bool that is decided stays decided. -/
def vcOpE (P : Program) (KP : Value → Pr) (o : Oper) (env : Env) (k : EV → Pr) : Pr :=
  match o.op with
  | .move x | .assign x => (match evE env x with | .un => F | v => k v)
  | .pick c a b => (match evE env c with
    | .tt => (match evE env a with | .un => F | v => k v)
    | .ff => (match evE env b with | .un => F | v => k v)
    | _ => vcOp P KP o (evE env) fun v => k (.val v))
  | _ => vcOp P KP o (evE env) fun v => k (.val v)

def vcIdx (P : Program) (KP : Value → Pr) (ops : Array Oper) : List Nat → Env → (Env → Pr) → Pr
  | [], env, k => k env
  | i :: r, env, k =>
    match ops[i]? with
    | none => F
    | some o => vcStep ops o env
        (fun env => vcOpE P KP o env fun v => vcIdx P KP ops r (putE env o.dst v) k)
        (fun env => vcIdx P KP ops r (putE env o.dst .sk) k)

/-- What each operation comes behind, direct or not: a mask of bits an operation. -/
def maskOf (acc : List Nat) (o : Oper) : Nat :=
  o.after.toList.foldl (fun s e => if Region.binds .any e then s ||| (2 ^ e.on) ||| acc.getD e.on 0 else s) 0
def masks : List Oper → List Nat → List Nat
  | [], acc => acc
  | o :: r, acc => masks r (acc ++ [maskOf acc o])

def keepF (ms : List Nat) (i : Nat) : List (Nat × Pr) → Pr → Pr
  | [], p => p
  | (j, f) :: r, p => match (ms.getD i 0).testBit j with
    | true => keepF ms i r p
    | false => fun h => f h ∧ keepF ms i r p h

def vcDraw (P : Program) (KP : Value → Pr) (ops : Array Oper) (ms : List Nat) : List Nat → List (Nat × Pr) → Env → (Env → Pr) → Pr
  | [], _, env, k => k env
  | i :: r, fs, env, k =>
    match ops[i]? with
    | none => F
    | some o => vcStep ops o env
        (fun env => match cls o.op with
          | .ld => match o.op with
            | .load t x => gv (evE env x) fun va => vcLoad P t va fun v => vcDraw P KP ops ms r ((i, loadF P t va v) :: fs) (putE env o.dst (.val v)) k
            | _ => F
          | .ef => vcOp P KP o (evE env) fun v => keepF ms i fs (vcDraw P KP ops ms r fs (putE env o.dst (.val v)) k)
          | _ => vcOpE P KP o env fun v => vcDraw P KP ops ms r fs (putE env o.dst v) k)
        (fun env => vcDraw P KP ops ms r fs (putE env o.dst .sk) k)

/-- May x, which comes first in our order, be passed by y? -/
def mayPass (P : Program) (ops : Array Oper) (x y : Oper) : Bool :=
  Oper.apart ops x y && match cls x.op, cls y.op with
    | .pv, _ => true
    | .ld, _ => true
    | .nw, .pv | .nw, .nw => true
    | .ef, .nw => (match y.op with | .alloc t => zeroOk P t | _ => false)
    | _, _ => false

def passAll (P : Program) (ops : Array Oper) (ms : List Nat) (x : Nat) (ys : List Nat) : Bool :=
  ys.all fun y => (ms.getD y 0).testBit x || match ops[x]?, ops[y]? with
    | some ox, some oy => mayPass P ops ox oy
    | _, _ => false

def isPred (ops : Array Oper) (i y : Nat) : Bool :=
  match ops[i]? with
  | some o => o.after.toList.any fun e => Region.binds .any e && e.on == y
  | none => false

def ordOk (P : Program) (ops : Array Oper) (ms : List Nat) : List Nat → Bool
  | [] => true
  | i :: r => passAll P ops ms i r && (i :: r).all (fun y => !isPred ops i y) && !r.contains i && ordOk P ops ms r

def predsIn (ops : Array Oper) (ord : List Nat) : Bool :=
  ord.all fun i => match ops[i]? with
    | some o => o.after.toList.all fun e => !Region.binds .any e || ord.contains e.on
    | none => false

def drawOk (P : Program) (ops : Array Oper) (ord : List Nat) : Bool :=
  Region.noSelect ops && (List.range ops.size).all (fun i => ord.contains i) && predsIn ops ord && ordOk P ops (masks ops.toList []) ord

/- Code. -/
inductive Ann where
  | none
  | ord (l : List Nat)
  | two (a b : Ann)
  | join (a b : Ann) (st : List (Nat × Shape))
  | sub (a : Ann)
  | loop (st : List (Nat × Shape)) (a : Ann)

def St : List (Nat × Shape) → Type
  | [] => Unit
  | x :: r => x.2.T × St r
def St.get : (l : List (Nat × Shape)) → Env → Option (St l)
  | [], _ => some ()
  | (t, s) :: r, env => match (env.at t).get with
    | some v => match s.proj v with
      | some x => match St.get r env with
        | some y => some (x, y)
        | none => none
      | none => none
    | none => none
def St.put : (l : List (Nat × Shape)) → St l → Env → Env
  | [], _, env => env
  | (t, s) :: r, x, env => St.put r x.2 (env.set t (.val (s.inj x.1)))
def kill : List Nat → Env → Env
  | [], env => env
  | t :: r, env => kill r (env.set t .un)

def opDsts : List Oper → List Nat
  | [] => []
  | o :: r => match o.dst with
    | some d => d :: opDsts r
    | none => opDsts r
def assigned : Code → List Nat
  | .region _ ops _ => opDsts ops.toList
  | .seq a b => assigned a ++ assigned b
  | .cond _ a b => assigned a ++ assigned b
  | .block _ c => assigned c
  | .loop c => assigned c
  | .scope c => assigned c
  | _ => []

def iter {σ : Type} (body : σ → (σ → Pr) → Pr) : Nat → σ → Pr
  | 0, _ => F
  | n + 1, s => body s (iter body n)
def pLoop {σ : Type} (body : σ → (σ → Pr) → Pr) (s : σ) : Pr := fun h => ∃ n, iter body n s h
def pJoin {σ : Type} (body : (σ → Pr) → Pr) (k : σ → Pr) : Pr := body k

def vcCode (P : Program) (KP : Value → Pr) : Code → Ann → Env → (Exit → Env → Pr) → Pr
  | .skip, _, env, K => K .normal env
  | .label _, _, env, K => K .normal env
  | .region _ ops false, _, env, K => vcIdx P KP ops (List.range ops.size) env (K .normal)
  | .region _ ops true, .ord l, env, K =>
    (match drawOk P ops l with
     | true => vcDraw P KP ops (masks ops.toList []) l [] env (K .normal)
     | false => F)
  | .seq a b, .two x y, env, K => vcCode P KP a x env fun e env => match e with
    | .normal => vcCode P KP b y env K
    | e => K e env
  | .seq a b, .join x y J, env, K => pJoin (σ := St J)
      (fun k => vcCode P KP a x env fun e env' => match e with
        | .normal => (match St.get J env' with
          | some s => k s
          | none => F)
        | e => K e env')
      (fun s => vcCode P KP b y (St.put J s (kill (assigned a) env)) K)
  | .cond c a b, .two x y, env, K =>
    (match evE env c with
     | .tt => vcCode P KP a x env K
     | .ff => vcCode P KP b y env K
     | .val (.bool t) => pIf t (vcCode P KP a x env K) (vcCode P KP b y env K)
     | _ => F)
  | .block id c, .sub x, env, K => vcCode P KP c x env fun e env => match e with
    | .exit i => if i = id then K .normal env else K (.exit i) env
    | e => K e env
  | .loop c, .loop J x, env, K =>
    (match St.get J env with
     | some s0 => pLoop (σ := St J) (fun s k => vcCode P KP c x (St.put J s (kill (assigned c) env)) fun e env' => match e with
        | .normal => (match St.get J env' with
          | some s => k s
          | none => F)
        | e => K e env') s0
     | none => F)
  | .exit id, _, env, K => K (.exit id) env
  | .ret, _, env, K => K .ret env
  | _, _, _, _ => F

def vcRes (P : Program) (env : Env) : List ResultVar → (List Value → Pr) → Pr
  | [], k => k []
  | .tmp t :: r, k => gv (env.at t) fun v => vcRes P env r fun vs => k (v :: vs)
  | .cell a t :: r, k => gv (env.at a) fun va => vcLoad P t va fun v => vcRes P env r fun vs => k (v :: vs)

def vcBody (P : Program) (fn : Func) (c : Code) (ann : Ann) (args : List Value) (KP K : Value → Pr) : Pr :=
  vcCode P KP c ann (args.map .val ++ List.replicate (fn.ntmps - args.length) .un) fun e env => match e with
    | .normal | .ret => vcRes P env fn.results.toList fun vs => match vs with
      | [v] => K v
      | vs => K (.tuple vs.toArray)
    | _ => F

end Go.Hl
