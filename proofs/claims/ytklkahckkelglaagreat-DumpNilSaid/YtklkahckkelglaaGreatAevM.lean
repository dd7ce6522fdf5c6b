/- THE LAW OF THE ABSTRACT EVALUATOR: what it comes to, the model's call comes to. -/
import Derived.Test.YtklkahckkelglaaGreatAevL
namespace Go.Aev
open Go

/-- A call in the model comes to what is said. -/
def CallOK (P : Program) (f : FuncId) (args : Array Value) (H : AHeap) (v : Value) (H' : AHeap) : Prop :=
  ∀ (ρ : Ren) (w : World) (args' : Array Value), Rel P ρ H.get w → Dom ρ H.next → VRs ρ args args' →
    Calls P f args' w fun e w' => ∃ v' ρ', e = .returned v' ∧ VR ρ' v v' ∧ Post P ρ H w ρ' H' w'

structure TableOK (P : Program) (T : Table) : Prop where
  fn : ∀ f af, T.fn f = some af → HasBody P f ∧ ∃ hs, compileFun P hs f = some af
  prim : ∀ f p, T.prim f = some p → HasBody P f ∧ ∀ args H v H', p args H = some (v, H') → CallOK P f args H v H'

def AExit.real : AExit → Exit
  | .normal => .normal
  | .ret => .ret
  | .exit id => .exit id

/-- What holds behind a piece of code. -/
def Behind (P : Program) (ρ : Ren) (H : AHeap) (w : World) (env' : Env) (H' : AHeap) (a' : Act) (w' : World) : Prop :=
  ∃ ρ', EnvR ρ' env' a'.tmps ∧ a'.defers = [] ∧ Post P ρ H w ρ' H' w'

section
variable {P : Program} {T : Table}

/-- The calls of a fuel's evaluator stand. -/
def CallsOK (P : Program) (call : CallT) : Prop := ∀ f args H v H', call (.fn f args) H = some (.val v, H') → HasBody P f ∧ CallOK P f args H v H'
def LoopsOK (P : Program) (k : Nat) (call : CallT) : Prop := ∀ (c : Code) hs ac hs' keep env H x env' H', compileCode P c hs = some (ac, hs') → call (.loop keep ac env) H = some (.exit x env', H') →
  ∀ ρ w a, EnvR ρ env a.tmps → a.defers = [] → Rel P ρ H.get w → Dom ρ H.next → ∀ Q : Exit → Act → World → Prop, (∀ a' w', Behind P ρ H w env' H' a' w' → Q x.real a' w') → Code.rounds P c Q k a w

theorem wants_sound {ops : Array Oper} {o : Oper} {ao : AOper} (hc : compileOper P ops o = some ao) {ρ : Ren} {env : Env} {a : Act} (hE : EnvR ρ env a.tmps) {b : Bool} (h : wants env ao.guard = some b) : Region.wanted o (yielded ops a.tmps) = b := by
  unfold compileOper at hc
  split at hc
  · cases hc
  · split at hc
    · rename_i hg
      simp only [Option.some.injEq] at hc; subst hc
      simp only [wants, Option.some.injEq] at h
      simp [Region.wanted, hg, h]
    · rename_i j want hg
      split at hc
      · rename_i d hd
        simp only [Option.some.injEq] at hc; subst hc
        simp only [wants] at h
        have hv := hE.2 d
        simp only [Region.wanted, hg, yielded, hd, Option.bind_some]
        have hund : env.getD d undef = env.getD d (.tuple #[]) := rfl
        rw [hund] at h
        cases hd' : a.tmps[d]? with
        | none =>
          have : a.tmps.getD d (.tuple #[]) = .tuple #[] := by simp [Array.getD_eq_getD_getElem?, hd']
          rw [this] at hv
          simp only
          split at h
          · rename_i c hc; rw [hc] at hv; cases hv
          · rename_i hc; simp only [Option.some.injEq] at h; subst h; rfl
          · cases h
        | some u =>
          have : a.tmps.getD d (.tuple #[]) = u := by simp [Array.getD_eq_getD_getElem?, hd']
          rw [this] at hv
          split at h
          · rename_i c hc
            rw [hc] at hv
            cases hv
            simp only [Option.some.injEq] at h
            subst h
            cases c <;> cases want <;> rfl
          · rename_i hc
            rw [hc] at hv
            cases hv
            simp only [Option.some.injEq] at h
            subst h
            rfl
          · cases h
      · cases hc

theorem compileOper_op {ops : Array Oper} {o : Oper} {ao : AOper} (hc : compileOper P ops o = some ao) : compileOp P o = some ao.op ∧ ao.dst = o.dst := by
  unfold compileOper at hc
  split at hc
  · cases hc
  · rename_i a ha
    split at hc
    · simp only [Option.some.injEq] at hc; subst hc; exact ⟨ha, rfl⟩
    · split at hc
      · simp only [Option.some.injEq] at hc; subst hc; exact ⟨ha, rfl⟩
      · cases hc

/-- One operation that is carried out. -/
theorem doOp_sound {call : CallT} (hcall : CallsOK P call) {o : Oper} {ao : AOper} (hc : compileOp P o = some ao.op) {env : Env} {H H' : AHeap} {v : Value} (h : doOp call ao env H = some (v, H'))
    {ρ : Ren} {a : Act} {w : World} (hE : EnvR ρ env a.tmps) (hR : Rel P ρ H.get w) (hD : Dom ρ H.next) {K : Act → World → Prop} {Q : Exit → Act → World → Prop}
    (hK : ∀ v' ρ' w', VR ρ' v v' → Post P ρ H w ρ' H' w' → K (a.put o.dst v') w') : o.wp P a w K Q := by
  unfold doOp at h
  split at h
  · rename_i v0 H0 hs
    simp only [Option.some.injEq, Prod.mk.injEq] at h
    obtain ⟨rfl, rfl⟩ := h
    have := step_sound hc hE hR hD hs (fun f args e => by cases e)
    cases this with
    | val hr hv hp =>
      unfold Oper.wp
      rw [hr]
      exact hK _ _ _ hv hp
  · rename_i H0 hs
    simp only [Option.some.injEq, Prod.mk.injEq] at h
    obtain ⟨rfl, rfl⟩ := h
    have := step_sound hc hE hR hD hs (fun f args e => by cases e)
    cases this with
    | unit hr hp =>
      unfold Oper.wp
      rw [hr]
      exact hK _ _ _ (.undef _) hp
  · rename_i f args hs
    split at h
    · rename_i v0 H0 hcl
      simp only [Option.some.injEq, Prod.mk.injEq] at h
      obtain ⟨rfl, rfl⟩ := h
      obtain ⟨hb, hok⟩ := hcall f args H _ _ hcl
      have := step_sound hc hE hR hD hs (fun f' args' e => by cases e; exact hb)
      cases this with
      | call hr hv =>
        unfold Oper.wp
        rw [hr]
        refine Calls.mono (hok ρ w _ hR hD hv) ?_
        rintro e w' ⟨v', ρ', rfl, hvr, hp⟩
        exact hK v' ρ' w' hvr hp
    · cases h
  · cases h

theorem evalOps_sound {call : CallT} (hcall : CallsOK P call) {ops : Array Oper} {Q : Exit → Act → World → Prop} : ∀ {l : List Oper} {as : List AOper} {env env' : Env} {H H' : AHeap}, l.mapM (compileOper P ops) = some as → evalOps call as env H = some (env', H') →
    ∀ {ρ : Ren} {a : Act} {w : World}, EnvR ρ env a.tmps → a.defers = [] → Rel P ρ H.get w → Dom ρ H.next → (∀ a' w', Behind P ρ H w env' H' a' w' → Q .normal a' w') → wpList P ops Q l a w
  | [], as, env, env', H, H', hm, h, ρ, a, w, hE, hd, hR, hD, hQ => by
    simp only [List.mapM_nil, Option.pure_def, Option.some.injEq] at hm
    subst hm
    simp only [evalOps, Option.some.injEq, Prod.mk.injEq] at h
    obtain ⟨rfl, rfl⟩ := h
    exact hQ a w ⟨ρ, hE, hd, Post.refl hR hD⟩
  | o :: r, as, env, env', H, H', hm, h, ρ, a, w, hE, hd, hR, hD, hQ => by
    simp only [List.mapM_cons, Option.bind_eq_bind, Option.bind_eq_some_iff, Option.pure_def, Option.some.injEq] at hm
    obtain ⟨ao, hao, as', has, rfl⟩ := hm
    obtain ⟨hop, hdst⟩ := compileOper_op hao
    simp only [evalOps] at h
    split at h
    · rename_i hw
      have hwant := wants_sound hao hE hw
      split at h
      · rename_i v H1 hdo
        simp only [wpList]
        rw [if_pos hwant]
        refine .inl (doOp_sound hcall hop hdo hE hR hD fun v' ρ' w' hv hp => ?_)
        have hE' : EnvR ρ' (put env ao.dst v) (a.put o.dst v').tmps := by
          rw [hdst]
          exact EnvR.put (hE.ext hp.ext) hv o.dst
        refine evalOps_sound hcall has h hE' (by cases o.dst <;> exact hd) hp.rel hp.dom fun a' w'' ⟨ρ'', h1, h2, h3⟩ => hQ a' w'' ⟨ρ'', h1, h2, hp.trans hD h3⟩
      · cases h
    · rename_i hw
      have hwant := wants_sound hao hE hw
      simp only [wpList]
      rw [if_neg (by rw [hwant]; simp)]
      have hE' : EnvR ρ (put env ao.dst left) (a.put o.dst undef).tmps := by
        rw [hdst]
        exact EnvR.put hE .left o.dst
      exact evalOps_sound hcall has h hE' (by cases o.dst <;> exact hd) hR hD hQ
    · cases h

theorem maskOf_R {ρ : Ren} {env : Env} {tmps : Array Value} (h : EnvR ρ env tmps) (keep : Option (List Tmp)) : EnvR ρ (maskOf keep env) tmps := by
  cases keep with
  | none => exact h
  | some l =>
    refine ⟨by simp only [maskOf, Array.size_mapIdx]; exact h.1, fun i => ?_⟩
    simp only [maskOf, Array.getD_eq_getD_getElem?, Array.getElem?_mapIdx]
    have hi := h.2 i
    simp only [Array.getD_eq_getD_getElem?] at hi
    cases he : env[i]? with
    | none => exact .undef _
    | some v =>
      rw [he] at hi
      simp only [Option.map_some, Option.getD_some] at hi ⊢
      split
      · exact hi
      · exact .undef _

/-- Code, over calls and loops that stand. (Regions that draw their order: see the next text.) -/
theorem evalCode_sound {k : Nat} {call : CallT} (hcall : CallsOK P call) (hloop : LoopsOK P k call)
    (hdraw : ∀ (id : Nat) (ops : Array Oper) as looks env env' H H', ops.toList.mapM (compileOper P ops) = some as → drawLooks ops as = some looks → evalDraw call as looks env H = some (env', H') →
      ∀ (ρ : Ren) (a : Act) (w : World), EnvR ρ env a.tmps → a.defers = [] → Rel P ρ H.get w → Dom ρ H.next → ∀ Q : Exit → Act → World → Prop, (∀ a' w', Behind P ρ H w env' H' a' w' → Q .normal a' w') → (Code.region id ops true).wp P Q a w) :
    ∀ (c : Code) {hs hs' : List (List Tmp)} {ac : ACode} {env env' : Env} {H H' : AHeap} {x : AExit}, compileCode P c hs = some (ac, hs') → evalCode call ac env H = some (x, env', H') →
      ∀ {ρ : Ren} {a : Act} {w : World}, EnvR ρ env a.tmps → a.defers = [] → Rel P ρ H.get w → Dom ρ H.next → ∀ {Q : Exit → Act → World → Prop}, (∀ a' w', Behind P ρ H w env' H' a' w' → Q x.real a' w') → c.wp P Q a w := by
  intro c
  induction c with
  | skip =>
    intro hs hs' ac env env' H H' x hc h ρ a w hE hd hR hD Q hQ
    simp only [compileCode, Option.some.injEq, Prod.mk.injEq] at hc
    obtain ⟨rfl, rfl⟩ := hc
    simp only [evalCode, Option.some.injEq, Prod.mk.injEq] at h
    obtain ⟨rfl, rfl, rfl⟩ := h
    exact wp_skip (hQ a w ⟨ρ, hE, hd, Post.refl hR hD⟩)
  | region id ops draw =>
    intro hs hs' ac env env' H H' x hc h ρ a w hE hd hR hD Q hQ
    simp only [compileCode] at hc
    split at hc
    · cases hc
    · rename_i as has
      split at hc
      · rename_i hdr
        subst hdr
        simp only [Option.map_eq_some_iff, Prod.mk.injEq] at hc
        obtain ⟨looks, hl, rfl, rfl⟩ := hc
        simp only [evalCode, Option.map_eq_some_iff, Prod.mk.injEq] at h
        obtain ⟨⟨e, h0⟩, hev, rfl, rfl, rfl⟩ := h
        exact hdraw id ops as looks env e H h0 has hl hev ρ a w hE hd hR hD Q hQ
      · rename_i hdr
        have hdr : draw = false := by simpa using hdr
        subst hdr
        simp only [Option.some.injEq, Prod.mk.injEq] at hc
        obtain ⟨rfl, rfl⟩ := hc
        simp only [evalCode, Option.map_eq_some_iff, Prod.mk.injEq] at h
        obtain ⟨⟨e, h0⟩, hev, rfl, rfl, rfl⟩ := h
        exact wp_region_list (evalOps_sound hcall has hev hE hd hR hD hQ)
  | seq x y ihx ihy =>
    intro hs hs' ac env env' H H' e hc h ρ a w hE hd hR hD Q hQ
    simp only [compileCode] at hc
    split at hc
    · cases hc
    · rename_i ax hs1 hx
      simp only [Option.map_eq_some_iff, Prod.mk.injEq] at hc
      obtain ⟨⟨ay, hs2⟩, hy, rfl, rfl⟩ := hc
      simp only [evalCode] at h
      split at h
      · rename_i env1 H1 h1
        refine wp_seq (ihx hx h1 hE hd hR hD fun a' w' hb => ?_)
        obtain ⟨ρ1, hE1, hd1, hp1⟩ := hb
        exact ihy hy h hE1 hd1 hp1.rel hp1.dom fun a'' w'' hb => hQ a'' w'' (let ⟨ρ2, hE2, hd2, hp2⟩ := hb; ⟨ρ2, hE2, hd2, hp1.trans hD hp2⟩)
      · rename_i hne
        refine wp_seq (ihx hx h hE hd hR hD fun a' w' hb => ?_)
        cases e with
        | normal => exact absurd h (hne _ _)
        | ret => exact hQ a' w' hb
        | exit i => exact hQ a' w' hb
  | cond c x y ihx ihy =>
    intro hs hs' ac env env' H H' e hc h ρ a w hE hd hR hD Q hQ
    simp only [compileCode] at hc
    split at hc
    · cases hc
    rename_i hok
    have hok : okOpd c = true := by simpa using hok
    split at hc
    · cases hc
    · rename_i ax hs1 hx
      simp only [Option.map_eq_some_iff, Prod.mk.injEq] at hc
      obtain ⟨⟨ay, hs2⟩, hy, rfl, rfl⟩ := hc
      have hv := hE.eval hok
      simp only [evalCode] at h
      split at h
      · rename_i hb
        rw [hb] at hv
        generalize hcc : a.eval c = cv at hv
        cases hv
        exact wp_cond_true hcc (ihx hx h hE hd hR hD hQ)
      · rename_i hb
        rw [hb] at hv
        generalize hcc : a.eval c = cv at hv
        cases hv
        exact wp_cond_false hcc (ihy hy h hE hd hR hD hQ)
      · cases h
  | block id c ih =>
    intro hs hs' ac env env' H H' e hc h ρ a w hE hd hR hD Q hQ
    simp only [compileCode, Option.map_eq_some_iff, Prod.mk.injEq] at hc
    obtain ⟨⟨ac', hs1⟩, hx, rfl, rfl⟩ := hc
    simp only [evalCode] at h
    split at h
    · rename_i i env1 H1 h1
      refine wp_block (ih hx h1 hE hd hR hD fun a' w' hb => ?_)
      simp only [AExit.real, Exit.inBlock]
      split at h
      · rename_i hi
        simp only [Option.some.injEq, Prod.mk.injEq] at h
        obtain ⟨rfl, rfl, rfl⟩ := h
        rw [if_pos hi]
        exact hQ a' w' hb
      · rename_i hi
        simp only [Option.some.injEq, Prod.mk.injEq] at h
        obtain ⟨rfl, rfl, rfl⟩ := h
        rw [if_neg hi]
        exact hQ a' w' hb
    · rename_i hne
      refine wp_block (ih hx h hE hd hR hD fun a' w' hb => ?_)
      cases e with
      | normal => exact hQ a' w' hb
      | ret => exact hQ a' w' hb
      | exit i => exact absurd h (hne _ _ _)
  | loop c ih =>
    intro hs hs' ac env env' H H' e hc h ρ a w hE hd hR hD Q hQ
    have key : ∀ hs0 ac' hs1 keep, compileCode P c hs0 = some (ac', hs1) → evalCode call (.loop keep ac') env H = some (e, env', H') → (Code.loop c).wp P Q a w := by
      intro hs0 ac' hs1 keep hx h
      simp only [evalCode] at h
      split at h
      · rename_i x1 env1 H1 h1
        simp only [Option.some.injEq, Prod.mk.injEq] at h
        obtain ⟨rfl, rfl, rfl⟩ := h
        exact wp_loop_rounds k (hloop c hs0 ac' hs1 keep env H _ _ _ hx h1 ρ w a hE hd hR hD Q hQ)
      · cases h
    simp only [compileCode] at hc
    split at hc
    · simp only [Option.map_eq_some_iff, Prod.mk.injEq] at hc
      obtain ⟨⟨ac', hs1⟩, hx, rfl, rfl⟩ := hc
      exact key _ _ _ _ hx h
    · simp only [Option.map_eq_some_iff, Prod.mk.injEq] at hc
      obtain ⟨⟨ac', hs1⟩, hx, rfl, rfl⟩ := hc
      exact key _ _ _ _ hx h
  | exit id =>
    intro hs hs' ac env env' H H' x hc h ρ a w hE hd hR hD Q hQ
    simp only [compileCode, Option.some.injEq, Prod.mk.injEq] at hc
    obtain ⟨rfl, rfl⟩ := hc
    simp only [evalCode, Option.some.injEq, Prod.mk.injEq] at h
    obtain ⟨rfl, rfl, rfl⟩ := h
    exact wp_exit (hQ a w ⟨ρ, hE, hd, Post.refl hR hD⟩)
  | ret =>
    intro hs hs' ac env env' H H' x hc h ρ a w hE hd hR hD Q hQ
    simp only [compileCode, Option.some.injEq, Prod.mk.injEq] at hc
    obtain ⟨rfl, rfl⟩ := hc
    simp only [evalCode, Option.some.injEq, Prod.mk.injEq] at h
    obtain ⟨rfl, rfl, rfl⟩ := h
    exact wp_ret (hQ a w ⟨ρ, hE, hd, Post.refl hR hD⟩)
  | rangeFunc f ps x y _ _ => intro hs hs' ac env env' H H' x hc; simp [compileCode] at hc
  | scope c _ => intro hs hs' ac env env' H H' x hc; simp [compileCode] at hc
  | label l => intro hs hs' ac env env' H H' x hc; simp [compileCode] at hc
  | goto l => intro hs hs' ac env env' H H' x hc; simp [compileCode] at hc
  | refuse s => intro hs hs' ac env env' H H' x hc; simp [compileCode] at hc

/-! results -/
def resRun (tmps : Array Value) : ResultVar → Sem Value
  | .tmp t => Pure.pure (tmps.getD t undef)
  | .cell a t => do loadVar t (← asAddr (tmps.getD a undef))

theorem res_sound {r : ResultVar} {ar : ARes} (hc : compileRes P r = some ar) {ρ : Ren} {env : Env} {H : AHeap} {tmps : Array Value} {w : World} (hE : EnvR ρ env tmps) (hR : Rel P ρ H.get w) {v : Value} (h : resOf env H ar = some v) :
    ∃ v', (resRun tmps r).run P w = .ok v' w ∧ VR ρ v v' := by
  cases r with
  | tmp t =>
    simp only [compileRes, Option.some.injEq] at hc
    subst hc
    simp only [resOf, Option.some.injEq] at h
    subst h
    exact ⟨_, rfl, hE.2 t⟩
  | cell ad t =>
    simp only [compileRes] at hc
    have hv := hE.2 ad
    split at hc
    · rename_i i hag hi
      simp only [Option.some.injEq] at hc
      subst hc
      simp only [resOf, Option.map_eq_some_iff] at h
      obtain ⟨xs, hx, rfl⟩ := h
      obtain ⟨r, off, ys, hp, hys, _, hvr, hcells⟩ := rdN_sound hR hv hx
      have hl := run_loadCells_list (P := P) w ⟨r, off, none⟩ ys.toList hcells
      simp only [Array.length_toList, hys, Array.toArray_toList] at hl
      refine ⟨.agg ys, ?_, .agg hvr.1 hvr.2⟩
      have hp' : tmps.getD ad undef = .pointer (some ⟨r, off, none⟩) := hp
      simp only [resRun, hp', asAddr, loadVar, Sem.run_bind, Sem.run_pure, Result.andThen_ok, run_isAgg_true hag, if_true, run_sizeOf hi, hl]
    · rename_i i hag hi
      simp only [Option.some.injEq] at hc
      subst hc
      simp only [resOf] at h
      obtain ⟨r, off, y, hp, hcell, hvr⟩ := rd_sound hR hv h
      refine ⟨y, ?_, hvr⟩
      have hp' : tmps.getD ad undef = .pointer (some ⟨r, off, none⟩) := hp
      simp only [resRun, hp', asAddr, loadVar, Sem.run_bind, Sem.run_pure, Result.andThen_ok, run_isAgg_false hag, Bool.false_eq_true, if_false, run_load, hcell]
    · cases hc

theorem ress_sound {ρ : Ren} {env : Env} {H : AHeap} {tmps : Array Value} {w : World} (hE : EnvR ρ env tmps) (hR : Rel P ρ H.get w) : ∀ {rs : List ResultVar} {ars : List ARes} {vs : List Value}, rs.mapM (compileRes P) = some ars → ars.mapM (resOf env H) = some vs →
    ∃ vs', (rs.mapM (resRun tmps)).run P w = .ok vs' w ∧ VRs ρ vs.toArray vs'.toArray
  | [], ars, vs, hc, h => by
    simp only [List.mapM_nil, Option.pure_def, Option.some.injEq] at hc
    subst hc
    simp only [List.mapM_nil, Option.pure_def, Option.some.injEq] at h
    subst h
    exact ⟨[], by simp, ⟨rfl, fun i => by simp; exact .undef _⟩⟩
  | r :: rs, ars, vs, hc, h => by
    simp only [List.mapM_cons, Option.bind_eq_bind, Option.bind_eq_some_iff, Option.pure_def, Option.some.injEq] at hc
    obtain ⟨ar, har, ars', hars, rfl⟩ := hc
    simp only [List.mapM_cons, Option.bind_eq_bind, Option.bind_eq_some_iff, Option.pure_def, Option.some.injEq] at h
    obtain ⟨v, hv, vs1, hvs, rfl⟩ := h
    obtain ⟨v', h1, h2⟩ := res_sound har hE hR hv
    obtain ⟨vs', h3, h4⟩ := ress_sound hE hR hars hvs
    refine ⟨v' :: vs', by simp [List.mapM_cons, h1, h3], ?_⟩
    have := VRs.append (VRs.one h2) h4
    simpa using this

theorem results_sound {fn : Func} {ars : List ARes} (hc : fn.results.toList.mapM (compileRes P) = some ars) {ρ : Ren} {env : Env} {H : AHeap} {tmps : Array Value} {w : World} (hE : EnvR ρ env tmps) (hR : Rel P ρ H.get w) {v : Value}
    (h : resultOf env H ars = some v) : ∃ v', (results fn tmps).run P w = .ok v' w ∧ VR ρ v v' := by
  have key : ∀ vs, ars.mapM (resOf env H) = some vs → ∃ vs', (fn.results.mapM (resRun tmps)).run P w = .ok vs' w ∧ VRs ρ vs.toArray vs' := fun vs hvs => by
    obtain ⟨vs', h1, h2⟩ := ress_sound hE hR hc hvs
    refine ⟨vs'.toArray, ?_, h2⟩
    rw [Array.mapM_eq_mapM_toList]
    simp [h1]
  have hres : (results fn tmps).run P w = ((fn.results.mapM (resRun tmps)).run P w).andThen fun vs w' => .ok (if h : vs.size = 1 then vs[0] else .tuple vs) w' := by
    have : results fn tmps = (do let vs ← fn.results.mapM (resRun tmps); Pure.pure (if h : vs.size = 1 then vs[0] else .tuple vs)) := by
      unfold results
      congr 1
    rw [this, Sem.run_bind]
    simp only [Sem.run_pure]
  unfold resultOf at h
  split at h
  · rename_i u hu
    simp only [Option.some.injEq] at h
    subst h
    obtain ⟨vs', h1, h2⟩ := key _ hu
    have hsz : vs'.size = 1 := by rw [← h2.1]; rfl
    refine ⟨vs'[0], ?_, ?_⟩
    · rw [hres, h1]
      simp only [Result.andThen_ok, hsz, dif_pos]
    · obtain ⟨y, hy, hr⟩ := h2.get (i := 0) (x := u) rfl
      rw [Array.getElem?_eq_getElem (by omega)] at hy
      obtain rfl : vs'[0] = y := by simpa using hy
      exact hr
  · rename_i vs hne hvs
    simp only [Option.some.injEq] at h
    subst h
    obtain ⟨vs', h1, h2⟩ := key _ hvs
    have hsz : ¬ vs'.size = 1 := by
      rw [← h2.1]
      intro e
      simp only [List.size_toArray] at e
      obtain ⟨u, rfl⟩ := List.length_eq_one_iff.1 e
      exact hne u rfl
    refine ⟨.tuple vs', ?_, .tuple h2.1 h2.2⟩
    rw [hres, h1]
    simp only [Result.andThen_ok, hsz, dif_neg, not_false_eq_true]
  · cases h

theorem VRs.replicate {ρ : Ren} (n : Nat) : VRs ρ (Array.replicate n undef) (Array.replicate n undef) := by
  refine .mk rfl fun i x y hx hy => ?_
  obtain ⟨_, rfl⟩ := Array.getElem?_eq_some_iff.1 hx
  simp only [Array.getElem_replicate]
  exact .undef _

/-- What regions that draw their order must come to. -/
def DrawsOK (P : Program) : Prop := ∀ (call : CallT), CallsOK P call → ∀ (id : Nat) (ops : Array Oper) as looks env env' H H', ops.toList.mapM (compileOper P ops) = some as → drawLooks ops as = some looks → evalDraw call as looks env H = some (env', H') →
      ∀ (ρ : Ren) (a : Act) (w : World), EnvR ρ env a.tmps → a.defers = [] → Rel P ρ H.get w → Dom ρ H.next → ∀ Q : Exit → Act → World → Prop, (∀ a' w', Behind P ρ H w env' H' a' w' → Q .normal a' w') → (Code.region id ops true).wp P Q a w

theorem evN_sound (hT : TableOK P T) (hdraw : DrawsOK P) : ∀ k, CallsOK P (evN T k) ∧ LoopsOK P k (evN T k)
  | 0 => ⟨fun f args H v H' h => by simp [evN] at h, fun c hs ac hs' keep env H x env' H' _ h => by simp [evN] at h⟩
  | k + 1 => by
    obtain ⟨hcall, hloop⟩ := evN_sound hT hdraw k
    have code := @evalCode_sound P k (evN T k) hcall hloop (fun id ops as looks env env' H H' => hdraw (evN T k) hcall id ops as looks env env' H H')
    refine ⟨?_, ?_⟩
    · intro f args H v H' h
      simp only [evN, evBody] at h
      split at h
      · rename_i p hp
        simp only [Option.map_eq_some_iff, Prod.mk.injEq] at h
        obtain ⟨⟨v0, H0⟩, h0, h1, rfl⟩ := h
        simp only [Out.val.injEq] at h1
        subst h1
        obtain ⟨hb, hok⟩ := hT.prim f p hp
        exact ⟨hb, hok args H _ _ h0⟩
      · split at h
        · rename_i af haf
          obtain ⟨hb, hs, hcf⟩ := hT.fn f af haf
          refine ⟨hb, ?_⟩
          unfold compileFun at hcf
          split at hcf
          · cases hcf
          rename_i fn hfn
          split at hcf
          · cases hcf
          rename_i c hbody
          split at hcf
          · rename_i ac hs1 rs hcc hrs
            simp only [Option.some.injEq] at hcf
            subst hcf
            have fin : ∀ x env1 H1, evalCode (evN T k) ac (args ++ Array.replicate (fn.ntmps - args.size) undef) H = some (x, env1, H1) → (x = .normal ∨ x = .ret) → resultOf env1 H1 rs = some v → H1 = H' → CallOK P f args H v H' := by
              rintro x env1 H1 hev hx hres rfl
              intro ρ w args' hR hD hv
              refine calls_of_wp hfn hbody (code c hcc hev ?_ rfl hR hD fun a' w' hb => ?_)
              · simp only [← hv.1]
                exact VRs.append hv (VRs.replicate _)
              · obtain ⟨ρ', hE', hd', hp⟩ := hb
                obtain ⟨v', hr1, hr2⟩ := results_sound hrs hE' hp.rel hres
                rcases hx with rfl | rfl
                · exact ⟨hd', v', hr1, v', ρ', rfl, hr2, hp⟩
                · exact ⟨hd', v', hr1, v', ρ', rfl, hr2, hp⟩
            simp only at h
            split at h
            · rename_i env1 H1 hev
              simp only [Option.map_eq_some_iff, Prod.mk.injEq, Out.val.injEq] at h
              obtain ⟨u, hu, rfl, rfl⟩ := h
              exact fin _ _ _ hev (.inl rfl) hu rfl
            · rename_i env1 H1 hev
              simp only [Option.map_eq_some_iff, Prod.mk.injEq, Out.val.injEq] at h
              obtain ⟨u, hu, rfl, rfl⟩ := h
              exact fin _ _ _ hev (.inr rfl) hu rfl
            · cases h
          · cases hcf
        · cases h
    · intro c hs ac hs' keep env H x env' H' hc h ρ w a hE hd hR hD Q hQ
      simp only [evN, evBody] at h
      rw [rounds_succ]
      split at h
      · rename_i env1 H1 hev
        refine code c hc hev (maskOf_R hE keep) hd hR hD fun a' w' hb => ?_
        obtain ⟨ρ1, hE1, hd1, hp1⟩ := hb
        exact hloop c hs ac hs' keep env1 H1 x env' H' hc h ρ1 w' a' hE1 hd1 hp1.rel hp1.dom Q fun a'' w'' hb => hQ a'' w'' (let ⟨ρ2, hE2, hd2, hp2⟩ := hb; ⟨ρ2, hE2, hd2, hp1.trans hD hp2⟩)
      · rename_i x1 env1 H1 hne hev
        simp only [Option.some.injEq, Prod.mk.injEq, Out.exit.injEq] at h
        obtain ⟨⟨rfl, rfl⟩, rfl⟩ := h
        refine code c hc hev (maskOf_R hE keep) hd hR hD fun a' w' hb => ?_
        cases x1 with
        | normal => exact absurd rfl hne
        | ret => exact hQ a' w' hb
        | exit i => exact hQ a' w' hb
      · cases h

end
end Go.Aev
