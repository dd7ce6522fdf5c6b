/- Whatever operation the abstract evaluator carries out, the model's operation does so. -/
import Derived.Test.YtklkahckkelglaaGreatAevK
namespace Go.Aev
open Go

section
variable {P : Program} {ρ : Ren} {H : AHeap} {w : World} {o : Oper} {a : Act} {env : Env} {res : Res}

def AtomIs (fn : Func) : Atom → Prop
  | .load k => Extern.find fn = some (Extern.Atomic.loadT (.int k))
  | .store => Extern.find fn = some Extern.Atomic.storeT
  | .cas k => Extern.find fn = some (Extern.Atomic.casT (.int k))
  | .add k => Extern.find fn = some (Extern.Atomic.update (Op.intArith .add) k true)
theorem atomic_inv {name : String} {k : Atom} (h : atomicOf name = some k) :
    (name = "sync/atomic.LoadUint64" ∨ name = "sync/atomic.StoreUint64" ∨ name = "sync/atomic.CompareAndSwapUint64" ∨ name = "sync/atomic.AddUint64" ∨ name = "sync/atomic.AddInt64" ∨ name = "sync/atomic.LoadInt64") ∧
    ∀ fn : Func, fn.name = name → AtomIs fn k := by
  unfold atomicOf at h
  split at h
  · rename_i hn; simp only [Option.some.injEq] at h; subst h; exact ⟨.inl hn, fun fn hf => find_loadU fn (hf.trans hn)⟩
  split at h
  · rename_i hn; simp only [Option.some.injEq] at h; subst h; exact ⟨.inr (.inl hn), fun fn hf => find_store fn (hf.trans hn)⟩
  split at h
  · rename_i hn; simp only [Option.some.injEq] at h; subst h; exact ⟨.inr (.inr (.inl hn)), fun fn hf => find_cas fn (hf.trans hn)⟩
  split at h
  · rename_i hn; simp only [Option.some.injEq] at h; subst h; exact ⟨.inr (.inr (.inr (.inl hn))), fun fn hf => find_addU fn (hf.trans hn)⟩
  split at h
  · rename_i hn; simp only [Option.some.injEq] at h; subst h; exact ⟨.inr (.inr (.inr (.inr (.inl hn)))), fun fn hf => find_addI fn (hf.trans hn)⟩
  split at h
  · rename_i hn; simp only [Option.some.injEq] at h; subst h; exact ⟨.inr (.inr (.inr (.inr (.inr hn)))), fun fn hf => find_loadI fn (hf.trans hn)⟩
  · cases h

theorem call_sound {c : Call} {ao : AOp} (ho : o.op = .call c) (hc : compileCall P c = some ao) (hE : EnvR ρ env a.tmps) (hR : Rel P ρ H.get w) (hD : Dom ρ H.next) (hs : aStep env H ao = some res)
    (hb : ∀ f args, res = .call f args → HasBody P f) : StepR P ρ H w o a res := by
  unfold compileCall at hc
  split at hc
  · cases hc
  rename_i hargs
  have hargs : ∀ x ∈ c.args.toList, okOpd x = true := fun x hx => by
    have : c.args.all okOpd = true := by simpa using hargs
    exact Array.all_eq_true_iff_forall_mem.1 this x (by simpa using hx)
  split at hc
  · rename_i f hcallee
    split at hc
    · cases hc
    rename_i fn hfn
    split at hc
    · cases hc
    rename_i hnum
    have hnum : (fn.name == "runtime.NumGoroutine") = false := by simpa using hnum
    split at hc
    · rename_i hbody
      simp only [Option.some.injEq] at hc
      subst hc
      exact s_call ho hcallee ⟨fn, hfn, hbody, hnum⟩ hargs hE hs
    rename_i hbody
    have hbody : fn.body.isNone = true := by cases h : fn.body <;> simp_all
    split at hc
    · cases hc
    rename_i horig
    have horig : fn.origin = "" := by simpa using horig
    have at_ : ∀ k, atomicOf fn.name = some k → IsAtomic P f fn := fun k hk => ⟨hfn, hnum, hbody, next_none fn (atomic_inv hk).1 horig⟩
    split at hc
    · rename_i k x hk ha
      simp only [Option.some.injEq] at hc
      subst hc
      exact s_aload ho hcallee (at_ _ hk) ((atomic_inv hk).2 fn rfl) ha (hargs x (by rw [ha]; simp)) hE hR hD hs
    · rename_i x v hk ha
      simp only [Option.some.injEq] at hc
      subst hc
      exact s_astore ho hcallee (at_ _ hk) ((atomic_inv hk).2 fn rfl) ha (hargs x (by rw [ha]; simp)) (hargs v (by rw [ha]; simp)) hE hR hD hs
    · rename_i k x y z hk ha
      simp only [Option.some.injEq] at hc
      subst hc
      exact s_acas ho hcallee (at_ _ hk) ((atomic_inv hk).2 fn rfl) ha (hargs x (by rw [ha]; simp)) (hargs y (by rw [ha]; simp)) (hargs z (by rw [ha]; simp)) hE hR hD hs
    · rename_i k x y hk ha
      simp only [Option.some.injEq] at hc
      subst hc
      exact s_aadd ho hcallee (at_ _ hk) ((atomic_inv hk).2 fn rfl) ha (hargs x (by rw [ha]; simp)) (hargs y (by rw [ha]; simp)) hE hR hD hs
    · cases hc
  · rename_i x hcallee
    split at hc
    · rename_i hx
      simp only [Option.some.injEq] at hc
      subst hc
      exact s_callV ho hcallee hx hargs hE hs hb
    · cases hc
  · rename_i b hcallee
    split at hc
    · -- append
      rename_i x y t t' ha ht
      split at hc
      · cases hc
      rename_i htt
      obtain rfl : t = t' := Classical.not_not.1 htt
      split at hc
      · rename_i e hu
        split at hc
        · rename_i s b z hz
          split at hc
          · cases hc
          rename_i hs0
          simp only [Option.some.injEq] at hc
          subst hc
          exact s_append ho hcallee ha ht hu hz hs0 (hargs x (by rw [ha]; simp)) (hargs y (by rw [ha]; simp)) hE hR hD hs
        · cases hc
      · cases hc
    · rename_i x t ha ht
      split at hc
      · rename_i hu
        simp only [Option.some.injEq] at hc
        subst hc
        exact s_lenStr ho hcallee ha ht hu (hargs x (by rw [ha]; simp)) hE hR hD hs
      · rename_i e hu
        simp only [Option.some.injEq] at hc
        subst hc
        exact s_lenSl ho hcallee ha ht hu (hargs x (by rw [ha]; simp)) hE hR hD hs
      · rename_i k e hu
        simp only [Option.some.injEq] at hc
        subst hc
        exact s_lenMap ho hcallee ha ht hu (hargs x (by rw [ha]; simp)) hE hR hD hs
      · rename_i n e hu
        simp only [Option.some.injEq] at hc
        subst hc
        exact s_lenArr ho hcallee ha ht hu hR hD hs
      · cases hc
    · rename_i m k t t2 ha ht
      split at hc
      · rename_i kt e hu
        simp only [Option.map_eq_some_iff] at hc
        obtain ⟨key, hk, rfl⟩ := hc
        exact s_delete ho hcallee ha ht hu hk (hargs m (by rw [ha]; simp)) (hargs k (by rw [ha]; simp)) hE hR hD hs
      · cases hc
    · rename_i m t ha ht
      split at hc
      · rename_i kt e hu
        simp only [Option.some.injEq] at hc
        subst hc
        exact s_clearMap ho hcallee ha ht hu (hargs m (by rw [ha]; simp)) hE hR hD hs
      · rename_i e hu
        split at hc
        · rename_i s b z hz
          split at hc
          · cases hc
          rename_i hs0
          simp only [Option.some.injEq] at hc
          subst hc
          exact s_clearSl ho hcallee ha ht hu hz hs0 (hargs m (by rw [ha]; simp)) hE hR hD hs
        · cases hc
      · cases hc
    · rename_i x y ha
      simp only [Option.some.injEq] at hc
      subst hc
      exact s_minI ho hcallee ha (hargs x (by rw [ha]; simp)) (hargs y (by rw [ha]; simp)) hE hR hD hs
    · rename_i x y ha
      simp only [Option.some.injEq] at hc
      subst hc
      exact s_maxI ho hcallee ha (hargs x (by rw [ha]; simp)) (hargs y (by rw [ha]; simp)) hE hR hD hs
    · cases hc
  · cases hc

theorem okO_of {x : Option Operand} {l : List Operand} (h : ∀ y ∈ l, okOpd y = true) (hm : ∀ y, x = some y → y ∈ l) : okO x := fun y hy => h y (hm y hy)

theorem built_struct {t : TypeId} {s b : Nat} {z : Array Value} {fs : Array Field} {ps : List (Nat × Nat)} (hz : sizes P t = some (s, b, z)) (hu : P.underlying t = some (.struct fs))
    (hp : fs.toList.mapM (fun f => (P.info? f.type).map fun i => (f.offset, i.size)) = some ps) (l : List (Nat × Value)) : P.built t l = Instr.fill (fun i => ps.toArray[i]?) z l := by
  obtain ⟨i, zv, hi, hzv, _, rfl, _, _, _⟩ := info_of_sizes hz
  simp only [Program.built, hi, hu, hzv, hp]
theorem built_array {t e : TypeId} {n s b : Nat} {z : Array Value} {ie : TypeInfo} (hz : sizes P t = some (s, b, z)) (hu : P.underlying t = some (.array n e)) (he : P.info? e = some ie) (l : List (Nat × Value)) :
    P.built t l = Instr.fill (fun i => some (i * ie.size, ie.size)) z l := by
  obtain ⟨i, zv, hi, hzv, _, rfl, _, _, _⟩ := info_of_sizes hz
  simp only [Program.built, hi, hu, hzv, he]

set_option maxHeartbeats 1000000 in
theorem step_sound {ao : AOp} (hc : compileOp P o = some ao) (hE : EnvR ρ env a.tmps) (hR : Rel P ρ H.get w) (hD : Dom ρ H.next) (hs : aStep env H ao = some res)
    (hb : ∀ f args, res = .call f args → HasBody P f) : StepR P ρ H w o a res := by
  unfold compileOp at hc
  split at hc
  · rename_i hnil
    simp only [Option.some.injEq] at hc; subst hc
    simp only [aStep, Option.some.injEq] at hs
    subst hs
    refine .pure hR hD (v' := .nilIface) ?_ (.undef _)
    unfold nilMove at hnil
    split at hnil
    · rename_i ho; simp [execOp, ho]; rfl
    · rename_i ho; simp [execOp, ho]; rfl
    · cases hnil
  split at hc
  · cases hc
  rename_i hall
  have hall : ∀ x ∈ o.op.operands, okOpd x = true := Array.all_eq_true_iff_forall_mem.1 (by simpa using hall)
  split at hc
  · rename_i x ho
    simp only [Option.some.injEq] at hc; subst hc
    rw [ho] at hall
    exact s_move (.inl ho) (hall x (by simp [Op.operands])) hE hR hD hs
  · rename_i x ho
    simp only [Option.some.injEq] at hc; subst hc
    rw [ho] at hall
    exact s_move (.inr ho) (hall x (by simp [Op.operands])) hE hR hD hs
  · rename_i c x y ho
    simp only [Option.some.injEq] at hc; subst hc
    rw [ho] at hall
    exact s_pick ho (hall c (by simp [Op.operands])) (hall x (by simp [Op.operands])) (hall y (by simp [Op.operands])) hE hR hD hs
  · rename_i e ho
    simp only [Option.map_eq_some_iff] at hc
    obtain ⟨⟨s, b, z⟩, hz, rfl⟩ := hc
    exact s_new ho hz hR hD hs
  · rename_i e x ho
    simp only [Option.some.injEq] at hc; subst hc
    rw [ho] at hall
    exact s_box ho (hall x (by simp [Op.operands])) hE hR hD hs
  · -- build
    rename_i t parts ho
    rw [ho] at hall
    have hx : ∀ p ∈ parts.toList, okOpd p.2 = true := fun p hp => hall p.2 (by simp only [Op.operands, List.mem_toArray, List.mem_map]; exact ⟨p, hp, rfl⟩)
    split at hc
    · rename_i s b z fs hz hu
      split at hc
      · rename_i ps hp
        simp only [Option.some.injEq] at hc; subst hc
        simp only [aStep] at hs
        split at hs
        · rename_i hcl
          split at hs
          · rename_i cs hf
            simp only [Option.some.injEq] at hs; subst hs
            obtain ⟨i, zv, hi, hzv, hpl, rfl, _, _, _⟩ := info_of_sizes hz
            exact s_buildOf ho (built_struct hz hu hp) (plain_VRs hpl) hx hE hR hD hcl hf
          · cases hs
        · cases hs
      · cases hc
    · rename_i s b z n e hz hu
      split at hc
      · rename_i ie he
        simp only [Option.some.injEq] at hc; subst hc
        simp only [aStep] at hs
        split at hs
        · rename_i hcl
          split at hs
          · rename_i cs hf
            simp only [Option.some.injEq] at hs; subst hs
            obtain ⟨i, zv, hi, hzv, hpl, rfl, _, _, _⟩ := info_of_sizes hz
            exact s_buildOf ho (built_array hz hu he) (plain_VRs hpl) hx hE hR hD hcl hf
          · cases hs
        · cases hs
      · cases hc
    · cases hc
  · -- buildSlice
    rename_i t len parts ho
    rw [ho] at hall
    have hx : ∀ p ∈ parts.toList, okOpd p.2 = true := fun p hp => hall p.2 (by simp only [Op.operands, List.mem_toArray, List.mem_map]; exact ⟨p, hp, rfl⟩)
    split at hc
    · rename_i e hu
      split at hc
      · rename_i s b z hz
        split at hc
        · cases hc
        rename_i hcond
        simp only [Option.some.injEq] at hc; subst hc
        exact s_buildSlice ho hu hz (fun h => hcond (.inl h)) (fun h => hcond (.inr h)) hx hE hR hD hs
      · cases hc
    · cases hc
  · -- load
    rename_i t x ho
    rw [ho] at hall
    split at hc
    · rename_i i hag hi
      simp only [Option.some.injEq] at hc; subst hc
      exact s_loadN ho (hall x (by simp [Op.operands])) hag hi hE hR hD hs
    · rename_i i hag hi
      simp only [Option.some.injEq] at hc; subst hc
      exact s_load ho (hall x (by simp [Op.operands])) hag hE hR hD hs
    · cases hc
  · -- store
    rename_i t x v ho
    rw [ho] at hall
    split at hc
    · rename_i i hi
      simp only [Option.some.injEq] at hc; subst hc
      exact s_store ho (hall x (by simp [Op.operands])) (hall v (by simp [Op.operands])) hi hE hR hD hs
    · cases hc
  · rename_i x ho
    simp only [Option.some.injEq] at hc; subst hc
    rw [ho] at hall
    exact s_nilCheck ho (hall x (by simp [Op.operands])) hE hR hD hs
  · -- binOp
    rename_i op t x y ty ho
    rw [ho] at hall
    have hx := hall x (by simp [Op.operands])
    have hy := hall y (by simp [Op.operands])
    split at hc
    · simp only [Option.some.injEq] at hc; subst hc
      exact s_bin ho hx hy hE hR hD hs
    · simp only [Option.some.injEq] at hc; subst hc
      exact s_bin ho hx hy hE hR hD hs
    · split at hc
      · simp only [Option.map_eq_some_iff] at hc
        obtain ⟨k, hk, rfl⟩ := hc
        exact s_eq ho (.inl ⟨rfl, rfl⟩) hk hx hy hE hR hD hs
      · simp only [Option.map_eq_some_iff] at hc
        obtain ⟨k, hk, rfl⟩ := hc
        exact s_eq ho (.inr ⟨rfl, rfl⟩) hk hx hy hE hR hD hs
      · cases hc
  · rename_i op t x ho
    simp only [Option.some.injEq] at hc; subst hc
    rw [ho] at hall
    exact s_un ho (hall x (by simp [Op.operands])) hE hR hD hs
  · -- convert
    rename_i s d x ho
    rw [ho] at hall
    have hx := hall x (by simp [Op.operands])
    split at hc
    · rename_i ks k hsrc hdst
      simp only [Option.some.injEq] at hc; subst hc
      exact s_toInt ho hx hsrc hdst hE hR hD hs
    · rename_i hsrc hdst
      simp only [Option.some.injEq] at hc; subst hc
      exact s_sameStr ho hx hsrc hdst hE hR hD hs
    · rename_i e hsrc hdst
      split at hc
      · rename_i he
        simp only [Option.some.injEq] at hc; subst hc
        exact s_bytesStr ho hsrc hdst he hx hE hR hD hs
      · cases hc
    · cases hc
  · rename_i f xs ys ho
    simp only [Option.some.injEq] at hc; subst hc
    rw [ho] at hall
    exact s_makeFunc ho (fun x hx => hall x (by simp only [Op.operands, Array.mem_append]; exact .inl (by simpa using hx))) (fun x hx => hall x (by simp only [Op.operands, Array.mem_append]; exact .inr (by simpa using hx))) hE hR hD hs
  · rename_i t ho
    simp only [Option.some.injEq] at hc; subst hc
    exact s_makeMap ho hR hD hs
  · -- makeSlice
    rename_i t l c ho
    rw [ho] at hall
    split at hc
    · rename_i e hu
      split at hc
      · rename_i s b z hz
        split at hc
        · cases hc
        rename_i hs0
        simp only [Option.some.injEq] at hc; subst hc
        exact s_makeSlice ho hu hz hs0 (hall l (by simp [Op.operands])) (hall c (by simp [Op.operands])) hE hR hD hs
      · cases hc
    · cases hc
  · -- slice
    rename_i t x lo hi mx ho
    rw [ho] at hall
    have hx := hall x (by simp [Op.operands])
    have hlo : okO lo := fun y hy => hall y (by subst hy; simp [Op.operands])
    have hhi : okO hi := fun y hy => hall y (by subst hy; simp [Op.operands])
    have hmx : okO mx := fun y hy => hall y (by subst hy; simp [Op.operands])
    split at hc
    · rename_i hu
      split at hc
      · cases hc
      rename_i hm
      have hm : mx = none := by cases mx <;> simp_all
      subst hm
      simp only [Option.some.injEq] at hc; subst hc
      exact s_sliceStr ho hu hx hlo hhi hE hR hD hs
    · rename_i e hu
      split at hc
      · cases hc
      rename_i hm
      simp only [Option.map_eq_some_iff] at hc
      obtain ⟨i, hi', rfl⟩ := hc
      refine s_sliceSl ho hu hi' hx hlo hhi hmx (fun h => ?_) hE hR hD hs
      cases hi with
      | some _ => rfl
      | none => exact absurd (by simp [h]) hm
    · rename_i n e hu
      split at hc
      · cases hc
      rename_i hm
      have hm : mx = none := by cases mx <;> simp_all
      subst hm
      simp only [Option.map_eq_some_iff] at hc
      obtain ⟨i, hi', rfl⟩ := hc
      exact s_sliceArr ho hu hi' hx hlo hhi hE hR hD hs
    · cases hc
  · -- fieldAddr
    rename_i t x i ho
    rw [ho] at hall
    have hx := hall x (by simp [Op.operands])
    split at hc
    · rename_i fs hfs
      split at hc
      · rename_i f hf
        split at hc
        · rename_i j hj
          split at hc
          · cases hc
          rename_i hj0
          simp only [Option.some.injEq] at hc; subst hc
          exact s_off ho hx hfs hf hj hj0 hE hR hD hs
        · cases hc
      · cases hc
    · cases hc
  · -- field
    rename_i t x i ho
    rw [ho] at hall
    have hx := hall x (by simp [Op.operands])
    split at hc
    · rename_i fs hfs
      split at hc
      · rename_i f hf
        split at hc
        · rename_i j hag hj
          simp only [Option.some.injEq] at hc; subst hc
          exact s_fieldN ho hx hfs hf hag hj hE hR hD hs
        · rename_i hag
          simp only [Option.some.injEq] at hc; subst hc
          exact s_field ho hx hfs hf hag hE hR hD hs
        · cases hc
      · cases hc
    · cases hc
  · -- indexAddr
    rename_i t x i ho
    rw [ho] at hall
    have hx := hall x (by simp [Op.operands])
    have hi := hall i (by simp [Op.operands])
    split at hc
    · rename_i n e hu
      simp only [Option.map_eq_some_iff] at hc
      obtain ⟨j, hj, rfl⟩ := hc
      exact s_ixArr ho hu hj hx hi hE hR hD hs
    · rename_i e hu
      simp only [Option.map_eq_some_iff] at hc
      obtain ⟨j, hj, rfl⟩ := hc
      exact s_ixSl ho hu hj hx hi hE hR hD hs
    · cases hc
  · -- index
    rename_i t x i ho
    rw [ho] at hall
    have hx := hall x (by simp [Op.operands])
    have hi := hall i (by simp [Op.operands])
    split at hc
    · rename_i hu
      simp only [Option.some.injEq] at hc; subst hc
      exact s_ixStr ho hu hx hi hE hR hD hs
    · rename_i n e hu
      split at hc
      · rename_i j hag hj
        split at hc
        · rename_i h1
          simp only [Option.some.injEq] at hc; subst hc
          exact s_ixAgg ho hu hj h1 hag hx hi hE hR hD hs
        · cases hc
      · cases hc
    · cases hc
  · -- lookup
    rename_i t x i ok ho
    rw [ho] at hall
    have hx := hall x (by simp [Op.operands])
    have hi := hall i (by simp [Op.operands])
    split at hc
    · rename_i k e hu
      split at hc
      · rename_i key sz j hk hsz hj
        simp only [Option.map_eq_some_iff] at hc
        obtain ⟨z, hz, rfl⟩ := hc
        obtain ⟨s, b, zc⟩ := sz
        obtain ⟨j', zv, hj', hzv, hp, _⟩ := info_of_sizes hsz
        rw [hj] at hj'
        obtain rfl : j = j' := by simpa using hj'
        rw [hz] at hzv
        obtain rfl : z = zv := by simpa using hzv
        exact s_lookup ho hu hk hj hz hp hx hi hE hR hD hs
      · cases hc
    · cases hc
  · rename_i t m k v ho
    rw [ho] at hall
    split at hc
    · rename_i kt e hu
      simp only [Option.map_eq_some_iff] at hc
      obtain ⟨key, hk, rfl⟩ := hc
      exact s_update (.inl ho) hu hk (hall m (by simp [Op.operands])) (hall k (by simp [Op.operands])) (hall v (by simp [Op.operands])) hE hR hD hs
    · cases hc
  · rename_i t m k v ho
    rw [ho] at hall
    split at hc
    · rename_i kt e hu
      simp only [Option.map_eq_some_iff] at hc
      obtain ⟨key, hk, rfl⟩ := hc
      exact s_update (.inr ho) hu hk (hall m (by simp [Op.operands])) (hall k (by simp [Op.operands])) (hall v (by simp [Op.operands])) hE hR hD hs
    · cases hc
  · rename_i x i ho
    simp only [Option.some.injEq] at hc; subst hc
    rw [ho] at hall
    exact s_extract ho (hall x (by simp [Op.operands])) hE hR hD hs
  · rename_i t x ho
    rw [ho] at hall
    split at hc
    · rename_i kt e hu
      simp only [Option.some.injEq] at hc; subst hc
      exact s_rangeMap ho hu (hall x (by simp [Op.operands])) hE hR hD hs
    · cases hc
  · rename_i x ho
    simp only [Option.some.injEq] at hc; subst hc
    rw [ho] at hall
    exact s_nextMap ho (hall x (by simp [Op.operands])) hE hR hD hs
  · rename_i x ho
    simp only [Option.some.injEq] at hc; subst hc
    rw [ho] at hall
    exact s_entryMap ho (hall x (by simp [Op.operands])) hE hR hD hs
  · rename_i c ho
    exact call_sound ho hc hE hR hD hs hb
  · cases hc

end
end Go.Aev
