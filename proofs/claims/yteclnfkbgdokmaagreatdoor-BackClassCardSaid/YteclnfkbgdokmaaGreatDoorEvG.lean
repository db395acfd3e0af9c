/- One of the texts that the proof of the law rests on: it has no condition of its own. -/
import Derived.Test.YteclnfkbgdokmaaGreatDoorEvE
import Derived.OrdersIn
import Derived.LoopNIn
import Derived.KernelRfl
import Derived.RangeFuncRecord
/- Code, walked in a frame of whatever make: a function's own, or a round's of a loop over a function. -/
namespace Go.Ev

/-- Nothing is fenced off; the frames are a function's own, or a round's of a loop. -/
def fen (ro : Option Nat) : Fence := { Fence.wide with round := ro }

/-- Which code a loop's rounds may be. -/
def Good (P : Program) (c : Code) (mc : MCode) (n : Nat) : Prop := codeOk P n c mc = true ∧ ClonesOk P (clonesOf mc)

/-- What a call of a loop's yield comes to. -/
def YieldOk (P : Program) (G : Code → MCode → Nat → Prop) (globs : Nat → Option (List PVal)) (call : CallF) : Prop :=
  ∀ (id : Nat) (ps : List PVal) (m : Mem) (r : PVal) (m' : Mem), call (.yield id) ps m = some (r, m') →
    ∀ (g : Gh) (w : World) (vs : List Value) (b : Nat), g.R = G → WI g w m → GlobOk globs g → (∀ b, clM g w m b ≤ 1) → Args g ps vs → (∀ b, clA ps vs b = 0) → g.φ[id]? = some b →
      ∃ fn tmps asg body, (Instr.yield b vs.toArray).run P w = .ok (.round b fn tmps asg body) w ∧
        ∀ ro n, RoundIn (fen ro) n P b fn tmps asg body w fun e w' => ∃ v g', e = .returned v ∧ Step (fun _ => 0) g w m r m' g' w' v

/-- No other value is called. -/
def OnlyFY (call : CallF) : Prop := ∀ fv ps m r, call fv ps m = some r → (∃ f caps, fv = .func f caps) ∨ ∃ id, fv = .yield id

structure CtxR (P : Program) (globs : Nat → Option (List PVal)) (call : CallF) (g0 : Gh) : Prop where
  glob : GlobOk globs g0
  calls : CallOk P g0.R globs call
  yields : YieldOk P g0.R globs call
  funs : OnlyFY call

/-- The calls of functions alone. -/
def onlyF (call : CallF) : CallF := fun fv ps m => match fv with
  | .func f caps => call (.func f caps) ps m
  | _ => none

section
variable {P : Program} {globs : Nat → Option (List PVal)} {call : CallF} {C0 : Nat → Nat} {g0 : Gh} {w0 : World} {n : Nat} {ops : Array Oper} {Q : Exit → Act → World → Prop}
  {K : Act → World → Prop} {f f' : FEnv} {m m' : Mem} {g : Gh} {w : World} {a : Act} {o : Oper} {mo : MOper} {args : List PVal} {i : Nat} {ro : Option Nat} {nn L : Nat}

theorem CtxR.toF (hc : CtxR P globs call g0) : Ctx P globs (onlyF call) g0 where
  glob := hc.glob
  calls := fun f caps ps m r m' h => hc.calls f caps ps m r m' h
  funs := fun fv ps g w m r _ h => by
    cases fv with
    | func f caps => exact ⟨f, caps, rfl⟩
    | _ => cases h

theorem callsIn_fen {fid : Nat} {args : Array Value} {R : Ending → World → Prop} (h : Calls P fid args w R) : CallsIn (fen ro) nn P fid args w R :=
  (callsIn_wide (n := nn)).2 h

theorem wpIn_of_wp_op (hnd : ∀ c, o.op ≠ .defer c) (h : o.wp P a w K fun _ _ _ => False) : o.wpIn (fen ro) nn P a w K Q := by
  refine ⟨fun _ _ => trivial, ?_⟩
  rw [Oper.semAt_eq _ _ _ hnd]
  unfold Oper.wp at h
  generalize (execOp a.eval o).run P w = r at *
  cases r with
  | ok x w' =>
    cases x <;> simp only [Oper.upon, Oper.uponIn] at h ⊢ <;> first
      | exact h
      | exact ⟨fun h => by simp [fen, Fence.wide] at h, (callsIn_fen (h.mono fun e w'' he => by cases e <;> first | exact he | exact absurd he (by simp [LetsOut])))⟩
      | skip
    · exact ⟨fun h => by simp [fen, Fence.wide] at h, fun c cs _ => let ⟨v, w'', hr, s⟩ := h c cs; ⟨v, w'', hr, stepsIn_wide.2 s⟩⟩
  | halt x w' => cases x <;> simp only [Oper.upon, Oper.uponIn] at h ⊢ <;> exact h.elim

theorem isCall_no_defer (hop : opOk P o.op mo.op = true) : ∀ c, o.op ≠ .defer c := by
  intro c hc
  rw [hc] at hop
  cases hm : mo.op <;> rw [hm] at hop <;> exact absurd hop Bool.false_ne_true

/-- A call of yield. -/
theorem oper_yield {c : Call} (hop : o.op = .call c) (hok : callOk P c .call = true) (hargs : opdsOk (argsOf o.op .call) mo.args = true) (hdo : o.dst = mo.dst) (hd : dstLt a.tmps.size mo.dst = true)
    (hI : Inv C0 g0 w0 f m g w a.tmps) (hc : CtxR P globs call g0) {ps : List PVal} {id : Nat} {f1 : FEnv} (h1 : fopds globs mo.args f = some (.yield id :: ps, f1)) {r : PVal} (h2 : core call .call (.yield id :: ps) m = some (r, m')) (hr : r.isFresh = false)
    (hK : Goes C0 g0 w0 (fput f1 mo.dst r) m' a K) : o.wpIn (fen ro) nn P a w K Q := by
  obtain ⟨callee, cargs, argTypes⟩ := c
  cases callee with
  | value fo =>
    have hao : argsOf o.op .call = fo :: cargs.toList := by rw [hop]; rfl
    rw [hao] at hargs
    obtain ⟨ha, hs, hcl⟩ := fopds_ok (hc.glob.mono hI.le) hI.env hargs h1
    have hIK : InvK C0 g0 w0 f1 m g w a.tmps (fun _ => 0) := hI.toK.sub hs fun b => by have := hcl b; omega
    cases ha with
    | cons hp hq =>
      simp only [core] at h2
      obtain ⟨hqa, hqz⟩ := Args.map_nz1 hq
      have htot : ∀ b, clM g w m b ≤ 1 := fun b => by
        have := hIK.pre.total hI.c1 b
        omega
      have hpv := hp.vr
      generalize hfv : a.eval fo = fv at hpv
      cases hpv with
      | @yield _ b hb =>
        obtain ⟨fn, tmps, asg, body, hrun, hround⟩ := hc.yields id _ m r m' h2 g w (cargs.toList.map a.eval) b hI.pre.R hIK.wi (hc.glob.mono hIK.le) htot hqa hqz hb
        have hm : cargs.map a.eval = (cargs.toList.map a.eval).toArray := by apply Array.ext'; rw [Array.toList_map]
        refine ⟨fun _ _ => trivial, ?_⟩
        rw [Oper.semAt_eq _ _ _ (fun c e => by rw [hop] at e; cases e)]
        have hex : (execOp a.eval o).run P w = .ok (.round b fn tmps asg body) w := by
          obtain ⟨dst, op, ty, pos, after, guard⟩ := o
          dsimp only at hop
          subst hop
          simp only [execOp, resolve, hfv, Deferred.ofValue, invoke, hm, Sem.run_bind, Sem.run_pure, Result.andThen_ok]
          rw [← hrun]; simp [go_sem]
        rw [hex]
        refine ⟨fun h => by simp [fen, Fence.wide] at h, (hround ro (nn - 1)).mono ?_⟩
        rintro e w' ⟨v, g', rfl, hst⟩
        show K (a.put o.dst v) w'
        rw [hdo]
        exact hK _ g' w' (put_size _ _ _) (put_defers _ _ _) ((hIK.step hst fun b _ => rfl).put hst.vr hst.ok hr mo.dst hd)
  | _ => exact absurd hok Bool.false_ne_true

theorem core_onlyF (op : MOp) (args : List PVal) (m : Mem) (h : op ≠ .call ∨ ∀ id ps, args ≠ .yield id :: ps) {r : PVal × Mem} (hf : OnlyFY call) (hc : core call op args m = some r) : core (onlyF call) op args m = some r := by
  cases op with
  | call =>
    cases args with
    | nil => exact hc
    | cons fv xs =>
      simp only [core] at hc ⊢
      rcases hf _ _ _ _ hc with ⟨fid, caps, rfl⟩ | ⟨id, rfl⟩
      · exact hc
      · rcases h with h | h
        · exact absurd rfl h
        · exact absurd rfl (h id xs)
  | _ => exact Eq.trans (by kernel_rfl) hc

theorem fOper_onlyF (hf : OnlyFY call) (hy : mo.op ≠ .call ∨ ∀ id ps f1, fopds globs mo.args f ≠ some (.yield id :: ps, f1)) (h : fOper globs call mo (f, m) = some (args, (f', m'))) : fOper globs (onlyF call) mo (f, m) = some (args, (f', m')) := by
  unfold fOper at h ⊢
  simp only [Option.bind_eq_some_iff] at h ⊢
  obtain ⟨b, hb, h⟩ := h
  refine ⟨b, hb, ?_⟩
  cases b with
  | false => exact h
  | true =>
    simp only [cond_true] at h ⊢
    split at h
    · rename_i k keep hmo
      unfold fInit at h ⊢
      split at h
      · rename_i s x hma
        split at h
        · rename_i z hz
          simp only [hma, hz]
          simp only [Option.bind_eq_some_iff, Option.map_eq_some_iff] at h ⊢
          obtain ⟨r1, h1, r2, h2, h3⟩ := h
          exact ⟨r1, h1, r2, core_onlyF _ _ _ (.inl (by simp)) hf h2, h3⟩
        · cases h
      · cases h
    · exact h
    · rename_i op hni hnf
      simp only [Option.bind_eq_some_iff] at h ⊢
      obtain ⟨r1, h1, r2, h2, h3⟩ := h
      refine ⟨r1, h1, r2, core_onlyF _ _ _ ?_ hf h2, h3⟩
      rcases hy with hy | hy
      · exact .inl hy
      · refine .inr fun id ps e => hy id ps r1.2 ?_
        rw [h1, ← e]

theorem wpOpIn_of (hi : ops[i]? = some o) (hnd : ∀ c, o.op ≠ .defer c) (h : wpOp P ops (fun _ _ _ => False) i K a w) : wpOpIn (fen ro) nn P ops Q i K a w := by
  unfold wpOp at h
  unfold wpOpIn
  simp only [hi] at h ⊢
  split
  · rename_i hw
    rw [if_pos hw] at h
    rcases h with h | ⟨_, a1, w1, h⟩
    · exact wpIn_of_wp_op hnd h
    · exact h.elim
  · rename_i hw
    rw [if_neg hw] at h
    exact ⟨fun _ _ => trivial, h⟩

theorem oper_okIn (hok : operOk P n ops o mo = true) (hn : a.tmps.size = n) (hI : Inv C0 g0 w0 f m g w a.tmps) (hc : CtxR P globs call g0) (hcl : ∀ k sz obj, mo.op = .clone k sz obj → CloneAt P k sz obj)
    (h : fOper globs call mo (f, m) = some (args, (f', m'))) (hi : ops[i]? = some o) (hK : Goes C0 g0 w0 f' m' a K) : wpOpIn (fen ro) nn P ops Q i K a w := by
  by_cases hy : mo.op ≠ .call ∨ ∀ id ps f1, fopds globs mo.args f ≠ some (.yield id :: ps, f1)
  · have hop : opOk P o.op mo.op = true := by
      simp only [operOk, Bool.and_eq_true] at hok
      exact hok.2
    exact wpOpIn_of hi (isCall_no_defer hop) (oper_ok hok hn hI hc.toF hcl (fOper_onlyF hc.funs hy h) hi hK)
  · rw [not_or] at hy
    have hmo : mo.op = .call := Classical.not_not.1 hy.1
    obtain ⟨id, ps, f1, h1⟩ : ∃ id ps f1, fopds globs mo.args f = some (.yield id :: ps, f1) := Classical.byContradiction fun hx => hy.2 fun id ps f1 e => hx ⟨id, ps, f1, e⟩
    simp only [operOk, Bool.and_eq_true] at hok
    obtain ⟨⟨⟨⟨hdst, hlt⟩, hgd⟩, hargs⟩, hop⟩ := hok
    subst hn
    unfold fOper at h
    simp only [Option.bind_eq_some_iff] at h
    obtain ⟨b, hb, h⟩ := h
    have hw := wanted_ok (ops := ops) hI.env hgd hb
    have hno : ∀ n k, mo.op ≠ .init n k := fun n k e => by rw [hmo] at e; cases e
    unfold wpOpIn
    simp only [hi]
    cases b with
    | false =>
      rw [if_neg (by rw [hw]; simp)]
      simp only [cond_false, Option.some.injEq, Prod.mk.injEq] at h
      obtain ⟨_, rfl, rfl⟩ := h
      exact ⟨fun _ _ => trivial, oper_skip hI hlt (dst_of hdst hno) hK⟩
    | true =>
      rw [if_pos hw]
      simp only [cond_true, hmo, h1, Option.bind_some, Option.bind_eq_some_iff] at h
      obtain ⟨⟨r, m1⟩, h2, h⟩ := h
      obtain ⟨hf, h⟩ := bif_none h
      simp only [Option.some.injEq, Prod.mk.injEq] at h
      obtain ⟨rfl, rfl, rfl⟩ := h
      have hoc : ∃ c, o.op = .call c ∧ callOk P c .call = true := by
        rw [hmo] at hop
        generalize o.op = oo at hop
        cases oo with
        | call c => exact ⟨c, rfl, hop⟩
        | _ => exact absurd hop Bool.false_ne_true
      obtain ⟨c, hoo, hcok⟩ := hoc
      rw [hmo] at hargs
      exact oper_yield hoo hcok hargs (dst_of hdst hno) hlt hI hc h1 h2 hf hK
end
end Go.Ev

/- Regions and code, in a frame of whatever make. -/
namespace Go.Ev

section
variable {P : Program} {globs : Nat → Option (List PVal)} {call : CallF} {C0 : Nat → Nat} {g0 : Gh} {w0 : World} {n : Nat} {ops : Array Oper} {Q : Exit → Act → World → Prop}
  {A : Nat → List PVal} {M : Nat → Mem × Mem}
variable {ro : Option Nat} {nn : Nat}

theorem any_okIn (hback : backOk 0 ops.toList = true) (hc : CtxR P globs call g0) {sF : FSt} : ∀ (fuel : Nat) (listed : Array Bool) (R : List (Nat × MOper)) (f : FEnv) (m : Mem) (g : Gh) (w : World) (a : Act),
    R.length ≤ fuel → R.Pairwise (fun x y => x.1 < y.1) → (∀ i mo, (i, mo) ∈ R → ∃ o, ops[i]? = some o ∧ operOk P n ops o mo = true ∧ ClonesAt P mo) →
    listed.size = ops.size → (∀ i, i < ops.size → (listed.getD i true = false ↔ ∃ mo, (i, mo) ∈ R)) →
    (∀ i, i < ops.size → (¬ ∃ mo, (i, mo) ∈ R) → ∀ k, ((preds [] ops.toList).getD i 0).testBit k = true → ¬ ∃ mo, (k, mo) ∈ R) →
    (∀ k x j y, (k, x) ∈ R → (j, y) ∈ R → k < j → ((preds [] ops.toList).getD j 0).testBit k = false → Free A M k x j y) →
    RunsTo globs call A M R (f, m) sF → Inv C0 g0 w0 f m g w a.tmps → a.tmps.size = n →
    Goes C0 g0 w0 sF.1 sF.2 a (Q .normal) → wpAnyIn (fen ro) nn P .any ops Q fuel listed a w := by
  intro fuel
  induction fuel with
  | zero =>
    intro listed R f m g w a hfu hso hop hls hli hdn hfr hrun hI hn hQ
    have hR : R = [] := List.eq_nil_of_length_eq_zero (by omega)
    subst hR
    have hnone : Region.ready .any ops listed = [] := by
      cases hr : Region.ready .any ops listed with
      | nil => rfl
      | cons i l =>
        have hm : i ∈ Region.ready .any ops listed := by rw [hr]; exact List.mem_cons_self
        obtain ⟨h0, o, ho, _⟩ := mem_ready.1 hm
        obtain ⟨mo, hmo⟩ := (hli i (Array.getElem?_eq_some_iff.1 ho).1).1 h0
        simp at hmo
    have hrun' : (f, m) = sF := hrun
    subst hrun'
    exact ⟨hnone, hQ a g w rfl rfl hI⟩
  | succ fuel ih =>
    intro listed R f m g w a hfu hso hop hls hli hdn hfr hrun hI hn hQ
    refine ⟨fun hnil => ?_, fun i hi => ?_⟩
    · have hR : R = [] := by
        cases R with
        | nil => rfl
        | cons x R =>
          exfalso
          obtain ⟨i, mo⟩ := x
          obtain ⟨o, ho, _, _⟩ := hop i mo List.mem_cons_self
          have hlt := (Array.getElem?_eq_some_iff.1 ho).1
          have hready : i ∈ Region.ready .any ops listed := by
            refine mem_ready.2 ⟨(hli i hlt).2 ⟨mo, List.mem_cons_self⟩, o, ho, fun e he hb => ?_⟩
            have hon := backOk_spec hback i o (by simpa using ho) e he hb
            have hnot : ¬ ∃ mo', (e.on, mo') ∈ (i, mo) :: R := fun ⟨mo', hmo'⟩ => by
              rcases List.mem_cons.1 hmo' with h | h
              · cases h; omega
              · have := (List.pairwise_cons.1 hso).1 _ h
                simp at this; omega
            have hlo : e.on < ops.size := by omega
            have := mt (hli e.on hlo).1 hnot
            have hl2 : e.on < listed.size := by omega
            simp [hl2] at this ⊢
            exact this
          rw [hnil] at hready; cases hready
      subst hR
      have hrun' : (f, m) = sF := hrun
      subst hrun'
      exact hQ a g w rfl rfl hI
    · obtain ⟨h0, o, ho, hall⟩ := mem_ready.1 hi
      have hlt := (Array.getElem?_eq_some_iff.1 ho).1
      obtain ⟨mo, hmo⟩ := (hli i hlt).1 h0
      obtain ⟨R1, R2, rfl⟩ := List.append_of_mem hmo
      obtain ⟨o', ho', hok, hcl⟩ := hop i mo hmo
      rw [ho] at ho'; cases ho'
      have hbk : ∀ e, e ∈ o.after → Region.binds .any e = true → e.on < i := fun e he hb => by
        have := backOk_spec hback i o (by simpa using ho) e he hb; omega
      have hdone : ∀ e, e ∈ o.after → Region.binds .any e = true → ¬ ∃ mo', (e.on, mo') ∈ R1 ++ (i, mo) :: R2 := fun e he hb hx => by
        have h1 := hall e he hb
        have hlo : e.on < ops.size := by have := hbk e he hb; omega
        have h2 := (hli e.on hlo).2 hx
        have hl2 : e.on < listed.size := by omega
        simp [hl2] at h1 h2
        rw [h1] at h2; cases h2
      have hpre : ∀ k, ((preds [] ops.toList).getD i 0).testBit k = true → ¬ ∃ mo', (k, mo') ∈ R1 ++ (i, mo) :: R2 := fun k hk => by
        obtain ⟨e, he, hb, hor⟩ := preds_bit (by simpa using ho) hbk hk
        rcases hor with rfl | hor
        · exact hdone e he hb
        · exact hdn e.on (by have := hbk e he hb; omega) (hdone e he hb) k hor
      have hlt1 : ∀ k x, (k, x) ∈ R1 → k < i := fun k x hx => by
        have := (List.pairwise_append.1 hso).2.2 (k, x) hx (i, mo) List.mem_cons_self
        exact this
      have hlt2 : ∀ k x, (k, x) ∈ R2 → i < k := fun k x hx => (List.pairwise_cons.1 (List.pairwise_append.1 hso).2.1).1 _ hx
      have hsub : (R1 ++ R2).Sublist (R1 ++ (i, mo) :: R2) := List.Sublist.append_left (List.sublist_cons_self _ _) _
      have hb := bubble hrun fun k x hx => hfr k x i mo (List.mem_append_left _ hx) hmo (hlt1 k x hx) (by
        cases hbit : ((preds [] ops.toList).getD i 0).testBit k with
        | false => rfl
        | true => exact absurd ⟨x, List.mem_append_left _ hx⟩ (hpre k hbit))
      obtain ⟨⟨f1, m1⟩, hs1, _, hrest⟩ := hb
      have hni : ∀ mo', (i, mo') ∉ R1 ++ R2 := fun mo' h => by
        rcases List.mem_append.1 h with h | h
        · have := hlt1 i mo' h; omega
        · have := hlt2 i mo' h; omega
      refine oper_okIn hok hn hI hc hcl hs1 ho fun a' g' w' hsz hde hI' => ?_
      refine ih (listed.setIfInBounds i true) (R1 ++ R2) f1 m1 g' w' a' ?_ (hso.sublist hsub) (fun k x hx => hop k x (hsub.subset hx)) (by simpa using hls) (fun k hk => ?_) (fun k hk hno b hb => ?_)
        (fun k x j y hx hy => hfr k x j y (hsub.subset hx) (hsub.subset hy)) hrest hI' (hsz.trans hn) (fun a2 g2 w2 h1 h2 h3 => hQ a2 g2 w2 (h1.trans hsz) (h2.trans hde) h3)
      · simp only [List.length_append, List.length_cons] at hfu ⊢; omega
      · by_cases hki : k = i
        · subst hki
          have hl2 : k < listed.size := by omega
          simp only [Array.getD_eq_getD_getElem?, Array.getElem?_setIfInBounds, if_true, hl2]
          simp only [Option.getD_some, Bool.true_eq_false, false_iff]
          exact fun ⟨mo', h⟩ => hni mo' h
        · rw [getD_set_ne true (Ne.symm hki), hli k hk]
          refine ⟨fun ⟨mo', h⟩ => ⟨mo', ?_⟩, fun ⟨mo', h⟩ => ⟨mo', hsub.subset h⟩⟩
          rcases List.mem_append.1 h with h | h
          · exact List.mem_append_left _ h
          · rcases List.mem_cons.1 h with h | h
            · cases h; exact absurd rfl hki
            · exact List.mem_append_right _ h
      · by_cases hki : k = i
        · subst hki
          exact fun ⟨mo', h⟩ => hpre b hb ⟨mo', hsub.subset h⟩
        · refine fun ⟨mo', h⟩ => hdn k hk (fun ⟨mo2, h2⟩ => ?_) b hb ⟨mo', hsub.subset h⟩
          refine hno ⟨mo2, ?_⟩
          rcases List.mem_append.1 h2 with h | h
          · exact List.mem_append_left _ h
          · rcases List.mem_cons.1 h with h | h
            · cases h; exact absurd rfl hki
            · exact List.mem_append_right _ h

end

section
variable {P : Program} {globs : Nat → Option (List PVal)} {call : CallF} {C0 : Nat → Nat} {g0 : Gh} {w0 : World} {n L : Nat} {ops : Array Oper} {Q : Exit → Act → World → Prop}
  {f : FEnv} {m : Mem} {g : Gh} {w : World} {a : Act}
variable {ro : Option Nat} {nn : Nat}

theorem region_drawIn {id : Nat} {mos : List MOper} {conf : List (Nat × Nat)} (hm : P.follows .mixedOrders = true) (hok : regionOk P n ops true mos conf = true) (hc : CtxR P globs call g0) (hcl : ∀ mo, mo ∈ mos → ClonesAt P mo)
    {s s' : MSt} {x : MExit} (he : evCode globs call L (.region mos conf) s = some (x, s')) (hn : s.env.ok) (hI : Inv C0 g0 w0 s.env.get s.mem g w a.tmps) (hsz : a.tmps.size = n) :
    x = .normal ∧ s'.env.ok ∧ (Goes C0 g0 w0 s'.env.get s'.mem a (Q .normal) → (Code.region id ops true).wpIn (fen ro) nn P Q a w) := by
  simp only [regionOk, cond_true, Bool.and_eq_true] at hok
  obtain ⟨h1, h2, h3⟩ := hok
  obtain ⟨hx, l, hl, hst⟩ : x = .normal ∧ ∃ l, evOpsN globs call mos s = some (l, s') ∧ ∀ c, c ∈ conf → stable l c = true := by
    simp only [evCode] at he
    split at he
    · simp only [Option.map_eq_some_iff, Prod.mk.injEq] at he
      obtain ⟨s2, h, rfl, rfl⟩ := he
      obtain ⟨l, hl⟩ := ops_opsN h
      exact ⟨rfl, l, hl, fun c hc => by simp at hc⟩
    · simp only [Option.bind_eq_some_iff] at he
      obtain ⟨⟨l, s2⟩, hl, he⟩ := he
      obtain ⟨hall, he⟩ := bif_some he
      simp only [Option.some.injEq, Prod.mk.injEq] at he
      obtain ⟨rfl, rfl⟩ := he
      exact ⟨rfl, l, hl, fun c hc => List.all_eq_true.1 hall c hc⟩
  let A : Nat → List PVal := fun j => match l[j]? with | some e => e.2.1 | none => []
  let M : Nat → Mem × Mem := fun j => match l[j]? with | some e => e.2.2 | none => (s.mem, s.mem)
  have hA : ∀ (j : Nat) e, l[j]? = some e → A j = e.2.1 ∧ M j = e.2.2 := fun j e h => by simp [A, M, h]
  obtain ⟨hrun, hn', hlo⟩ := opsN_runs (A := A) (M := M) (i := 0) hl hn fun j e h => by rw [Nat.zero_add]; exact hA j e h
  refine ⟨hx, hn', fun hQ => wpIn_region_any hm ?_⟩
  obtain ⟨hlen, hget⟩ := opers_get h1
  have hlen' : mos.length = ops.size := by rw [← hlen]; simp
  refine any_okIn (A := A) (M := M) (n := n) (sF := (s'.env.get, s'.mem)) h2 hc ops.size (Array.replicate ops.size false) (idxFrom 0 mos) s.env.get s.mem g w.drew a (by rw [idx_len]; omega) (idx_sorted mos 0) (fun i mo h => ?_) (by simp) (fun i hi => ?_) (fun i hi hno => ?_)
    (free_of h3 hlo hA hst) hrun hI.drew hsz hQ
  · have h4 := (mem_idx h).2
    simp only [Nat.sub_zero] at h4
    obtain ⟨o, ho, hk⟩ := hget i mo h4
    exact ⟨o, by simpa using ho, hk, hcl mo (List.mem_of_getElem? h4)⟩
  · have h4 : mos[i]? = some mos[i] := by simp
    have := idx_mem (i := 0) h4
    rw [Nat.zero_add] at this
    simp [hi]
    exact ⟨_, this⟩
  · exfalso
    have h4 : mos[i]? = some mos[i] := by simp
    have := idx_mem (i := 0) h4
    rw [Nat.zero_add] at this
    exact hno ⟨_, this⟩


theorem text_okIn (hc : CtxR P globs call g0) : ∀ {mos : List MOper} {i : Nat} {s s' : MSt} {w : World} {g : Gh} {a : Act}, evOps globs call mos s = some s' → (∀ (j : Nat) mo, mos[j]? = some mo → ∃ o, ops[i + j]? = some o ∧ operOk P n ops o mo = true ∧ ClonesAt P mo) →
    s.env.ok → Inv C0 g0 w0 s.env.get s.mem g w a.tmps → a.tmps.size = n → s'.env.ok ∧ (Goes C0 g0 w0 s'.env.get s'.mem a (Q .normal) → wpOpsIn (fen ro) nn P ops Q (List.range' i mos.length) a w)
  | [], i, s, s', w, g, a, h, _, hn, hI, _ => by
    simp only [evOps, Option.some.injEq] at h
    subst h
    exact ⟨hn, fun hQ => hQ a g w rfl rfl hI⟩
  | mo :: mos, i, s, s', w, g, a, h, hop, hn, hI, hsz => by
    simp only [evOps, Option.bind_eq_some_iff] at h
    obtain ⟨⟨ps, s1⟩, h1, h2⟩ := h
    obtain ⟨a1, n1⟩ := evOper_f hn h1
    obtain ⟨o, ho, hok, hcl⟩ := hop 0 mo rfl
    rw [Nat.add_zero] at ho
    have hop' : ∀ (j : Nat) mo, mos[j]? = some mo → ∃ o, ops[i + 1 + j]? = some o ∧ operOk P n ops o mo = true ∧ ClonesAt P mo := fun j x hx => by
      have := hop (j + 1) x (by simpa using hx)
      rwa [show i + (j + 1) = i + 1 + j by omega] at this
    have hfin : s'.env.ok := by
      obtain ⟨l, hl⟩ := ops_opsN h2
      exact (opsN_runs (A := fun j => match l[j - (i + 1)]? with | some e => e.2.1 | none => []) (M := fun j => match l[j - (i + 1)]? with | some e => e.2.2 | none => (s.mem, s.mem)) (i := i + 1) hl n1 fun j e he => by simp [he]).2.1
    refine ⟨hfin, fun hQ => ?_⟩
    simp only [List.length_cons, List.range'_succ]
    rw [wpOpsIn_cons]
    refine oper_okIn hok hsz hI hc hcl a1 ho fun a' g' w' hs hd hI' => ?_
    exact (text_okIn hc h2 hop' n1 hI' (hs.trans hsz)).2 fun a2 g2 w2 e1 e2 e3 => hQ a2 g2 w2 (e1.trans hs) (e2.trans hd) e3


theorem region_textIn {id : Nat} {mos : List MOper} {conf : List (Nat × Nat)} (hok : regionOk P n ops false mos conf = true) (hc : CtxR P globs call g0) (hcl : ∀ mo, mo ∈ mos → ClonesAt P mo)
    {s s' : MSt} {x : MExit} (he : evCode globs call L (.region mos conf) s = some (x, s')) (hn : s.env.ok) (hI : Inv C0 g0 w0 s.env.get s.mem g w a.tmps) (hsz : a.tmps.size = n) :
    x = .normal ∧ s'.env.ok ∧ (Goes C0 g0 w0 s'.env.get s'.mem a (Q .normal) → (Code.region id ops false).wpIn (fen ro) nn P Q a w) := by
  simp only [regionOk, cond_false, Bool.and_eq_true] at hok
  obtain ⟨h1, h2⟩ := hok
  have hconf : conf = [] := by simpa using h2
  subst hconf
  simp only [evCode, Option.map_eq_some_iff, Prod.mk.injEq] at he
  obtain ⟨s2, h, rfl, rfl⟩ := he
  obtain ⟨hlen, hget⟩ := opers_get h1
  have hlen' : mos.length = ops.size := by rw [← hlen]; simp
  obtain ⟨hn', hw⟩ := text_okIn (ops := ops) (Q := Q) (n := n) hc (i := 0) h (fun j mo hj => by
    obtain ⟨o, ho, hk⟩ := hget j mo hj
    exact ⟨o, by simpa using ho, hk, hcl mo (List.mem_of_getElem? hj)⟩) hn hI hsz
  refine ⟨rfl, hn', fun hQ => wpIn_region ?_⟩
  rw [List.range_eq_range', ← hlen']
  exact hw hQ

end

section
variable {P : Program} {globs : Nat → Option (List PVal)} {call : CallF} {C0 : Nat → Nat} {g0 : Gh} {w0 : World} {n L : Nat}
variable {ro : Option Nat} {nn : Nat}

theorem code_okIn (hm : P.follows .mixedOrders = true) (hc : CtxR P globs call g0) : ∀ (mc : MCode) (c : Code), codeOk P n c mc = true → ClonesOk P (clonesOf mc) →
    ∀ {s s' : MSt} {x : MExit} {Q : Exit → Act → World → Prop} {g : Gh} {w : World} {a : Act}, evCode globs call L mc s = some (x, s') → s.env.ok → Inv C0 g0 w0 s.env.get s.mem g w a.tmps → a.tmps.size = n →
      Goes C0 g0 w0 s'.env.get s'.mem a (Q (exitOf x)) → c.wpIn (fen ro) nn P Q a w := by
  intro mc
  induction mc with
  | skip =>
    intro c hok _ s s' x Q g w a h hn hI hsz hQ
    cases c <;> first | cases hok | skip
    cases h
    exact wpIn_skip (hQ a g w rfl rfl hI)
  | region ops conf =>
    intro c hok hcl s s' x Q g w a h hn hI hsz hQ
    cases c <;> first | cases hok | skip
    rename_i id os draw
    cases draw with
    | true =>
      obtain ⟨rfl, _, hw⟩ := region_drawIn (Q := Q) (id := id) hm hok hc (clones_ops hcl) h hn hI hsz
      exact hw hQ
    | false =>
      obtain ⟨rfl, _, hw⟩ := region_textIn (Q := Q) (id := id) hok hc (clones_ops hcl) h hn hI hsz
      exact hw hQ
  | seq p q ihp ihq =>
    intro c hok hcl s s' x Q g w a h hn hI hsz hQ
    have hr := codeOk_range _ _ hok
    cases c <;> first | cases hok | skip
    simp only [codeOk, Bool.and_eq_true] at hok
    simp only [noRange, Bool.and_eq_true] at hr
    simp only [evCode, Option.bind_eq_some_iff] at h
    obtain ⟨⟨y, s1⟩, h1, h2⟩ := h
    have hn1 := code_env p hr.1 _ _ _ h1 hn
    refine wpIn_seq (ihp _ hok.1 (fun e he => hcl e (List.mem_append_left _ he)) h1 hn hI hsz ?_)
    cases y with
    | normal =>
      intro a1 g1 w1 hs1 hd1 hI1
      exact ihq _ hok.2 (fun e he => hcl e (List.mem_append_right _ he)) h2 hn1 hI1 (hs1.trans hsz) fun a2 g2 w2 hs2 hd2 hI2 => hQ a2 g2 w2 (hs2.trans hs1) (hd2.trans hd1) hI2
    | exit i => cases h2; exact hQ
    | ret => cases h2; exact hQ
  | cond d p q ihp ihq =>
    intro c hok hcl s s' x Q g w a h hn hI hsz hQ
    cases c <;> first | cases hok | skip
    simp only [codeOk, Bool.and_eq_true] at hok
    simp only [evCode] at h
    split at h
    · rename_i t e he
      obtain ⟨hf, hn1⟩ := opd_f hn he
      obtain ⟨ha, hs, hcla⟩ := fopd_ok (hc.glob.mono hI.le) hI.env hok.1.1 hf
      obtain hval := ha.vr.inv_bool
      have hI1 : Inv C0 g0 w0 e.get s.mem g w a.tmps := (hI.toK.sub (cA' := fun _ => 0) hs fun b => by have := hcla b; omega).toInv
      refine wpIn_cond hval ?_
      cases t with
      | true => exact ihp _ hok.1.2 (fun e he => hcl e (List.mem_append_left _ he)) h hn1 hI1 hsz hQ
      | false => exact ihq _ hok.2 (fun e he => hcl e (List.mem_append_right _ he)) h hn1 hI1 hsz hQ
    · cases h
  | block id b ih =>
    intro c hok hcl s s' x Q g w a h hn hI hsz hQ
    cases c <;> first | cases hok | skip
    rename_i id' b'
    simp only [codeOk, Bool.and_eq_true] at hok
    obtain rfl := Nat.eq_of_beq_eq_true hok.1
    simp only [evCode, Option.map_eq_some_iff] at h
    obtain ⟨⟨y, s1⟩, h1, h2⟩ := h
    refine wpIn_block (ih _ hok.2 hcl h1 hn hI hsz ?_)
    cases y with
    | normal => cases h2; exact hQ
    | exit i =>
      simp only at h2
      cases hb : i.beq id' with
      | true =>
        rw [hb] at h2; cases h2
        obtain rfl := Nat.eq_of_beq_eq_true hb
        intro a1 g1 w1 hs1 hd1 hI1
        show (if i = i then _ else _)
        rw [if_pos rfl]
        exact hQ a1 g1 w1 hs1 hd1 hI1
      | false =>
        rw [hb] at h2; cases h2
        have hne : i ≠ id' := fun e => by subst e; simp at hb
        intro a1 g1 w1 hs1 hd1 hI1
        show (if i = id' then _ else _)
        rw [if_neg hne]
        exact hQ a1 g1 w1 hs1 hd1 hI1
    | ret => cases h2; exact hQ
  | loop trim b ih =>
    intro c hok hcl s s' x Q g w a h hn hI hsz hQ
    have hr := codeOk_range _ _ hok
    cases c <;> first | cases hok | skip
    rename_i b'
    have hnr : noRange b = true := hr
    refine wpIn_loop_rounds L ?_
    have key : ∀ (k : Nat) (s1 : MSt) (g1 : Gh) (a1 : Act) (w1 : World), s1.env.ok → Inv C0 g0 w0 s1.env.get s1.mem g1 w1 a1.tmps → a1.tmps.size = a.tmps.size → a1.defers = a.defers → evLoop trim (evCode globs call L b) k s1 = some (x, s') →
        Code.roundsIn (fen ro) nn P b' Q k a1 w1 := by
      intro k
      induction k with
      | zero => intro s1 g1 a1 w1 _ _ _ _ h1; cases h1
      | succ k ihk =>
        intro s1 g1 a1 w1 hn1 hI1 hs1 hd1 h1
        rw [roundsIn_succ]
        simp only [evLoop, Option.bind_eq_some_iff] at h1
        obtain ⟨⟨y, s2⟩, h2, h3⟩ := h1
        have hn2 := code_env b hnr _ _ _ h2 hn1
        refine ih b' hok hcl h2 hn1 hI1 (hs1.trans hsz) ?_
        cases y with
        | normal =>
          intro a2 g2 w2 hs2 hd2 hI2
          cases trim with
          | true =>
            obtain ⟨hn3, g3, hI3⟩ := trimSt_ok hn2 hI2 hI1.next_le
            exact ihk _ g3 a2 w2 hn3 hI3 (hs2.trans hs1) (hd2.trans hd1) h3
          | false => exact ihk _ g2 a2 w2 hn2 hI2 (hs2.trans hs1) (hd2.trans hd1) h3
        | exit i => cases h3; exact fun a2 g2 w2 hs2 hd2 hI2 => hQ a2 g2 w2 (hs2.trans hs1) (hd2.trans hd1) hI2
        | ret => cases h3; exact fun a2 g2 w2 hs2 hd2 hI2 => hQ a2 g2 w2 (hs2.trans hs1) (hd2.trans hd1) hI2
    exact key L s g a w hn hI rfl rfl h
  | rangeFunc f ps asg body iha ihb =>
    intro c hok
    cases c <;> cases hok
  | exit id =>
    intro c hok _ s s' x Q g w a h hn hI hsz hQ
    cases c <;> first | cases hok | skip
    obtain rfl := Nat.eq_of_beq_eq_true hok
    cases h
    exact wpIn_exit (hQ a g w rfl rfl hI)
  | ret =>
    intro c hok _ s s' x Q g w a h hn hI hsz hQ
    cases c <;> first | cases hok | skip
    cases h
    exact wpIn_ret (hQ a g w rfl rfl hI)
  | bad y => intro c hok _ s s' x Q g w a h; cases h

end
end Go.Ev

/- A loop over a function: its record in the model's memory, and in the evaluator's. -/
namespace Go.Ev

/-- Nothing that lay there has turned. -/
structure Lies (w w' : World) : Prop where
  size : w.heap.size ≤ w'.heap.size
  same : ∀ k, k < w.heap.size → w'.heap[k]? = w.heap[k]?
  fz : SameFz w w'
  os : w'.os = w.os ∧ w'.output = w.output ∧ w'.tape = w.tape

theorem Lies.refl (w : World) : Lies w w := ⟨Nat.le_refl _, fun _ _ => rfl, SameFz.refl w, rfl, rfl, rfl⟩
theorem Lies.trans {a b c : World} (h : Lies a b) (h' : Lies b c) : Lies a c :=
  ⟨Nat.le_trans h.size h'.size, fun k hk => (h'.same k (Nat.lt_of_lt_of_le hk h.size)).trans (h.same k hk), h.fz.trans h'.fz h.size, h'.os.1.trans h.os.1, h'.os.2.1.trans h.os.2.1, h'.os.2.2.trans h.os.2.2⟩
theorem Lies.alloc (w : World) (o : Obj) (ho : ∀ c e f, o = .cells c e f → f = (0, 0)) : Lies w (w.alloc o) where
  size := by rw [World.size_alloc]; omega
  same := fun k hk => alloc_old w o hk
  fz := fun b c e f hc => by
    by_cases hb : b < w.heap.size
    · rw [alloc_old w o hb] at hc; exact .inl ⟨c, hc⟩
    · by_cases hb' : b = w.heap.size
      · subst hb'
        rw [World.alloc_heap_new] at hc
        exact .inr ⟨Nat.le_refl _, ho c e f (Option.some.inj hc)⟩
      · rw [Array.getElem?_eq_none (by rw [World.size_alloc]; omega)] at hc; cases hc
  os := ⟨rfl, rfl, rfl⟩
theorem Lies.put {w W : World} (h : Lies w W) {k : Nat} (hk : w.heap.size ≤ k) (o : Obj) (ho : ∀ c e f, o ≠ .cells c e f) : Lies w (W.putObj k o) where
  size := by rw [World.putObj_size]; exact h.size
  same := fun j hj => (World.putObj_heap_other (by omega)).trans (h.same j hj)
  fz := fun b c e f hc => by
    by_cases hb : b = k
    · subst hb
      by_cases hlt : b < W.heap.size
      · rw [World.putObj_heap_same hlt] at hc
        exact absurd (Option.some.inj hc) (ho c e f)
      · rw [Array.getElem?_eq_none (by rw [World.putObj_size]; omega)] at hc; cases hc
    · rw [World.putObj_heap_other hb] at hc; exact h.fz b c e f hc
  os := h.os

theorem step_lies {g : Gh} {w w' : World} {m : Mem} {r : PVal} {v : Value} (hw : WI g w m) (h : Lies w w') (hr : VR g r v) (ho : OwnOk g r v) (hz : ∀ b, clV r v b = 0) : Step (fun _ => 0) g w m r m g w' v := by
  have hcl : ∀ b, clM g w' m b = clM g w m b := fun b => clMs_congr' (fun id o hi => by
    obtain ⟨k, hk, _, _⟩ := hw.obj id o hi
    have hlt := hw.phi id k hk
    have : g.φ.getD id 0 = k := by simp [List.getD, hk]
    unfold heapCells
    rw [this, h.same k hlt]) b
  exact {
    wi := {
      lg := fun b row e => by
        have hlt := hw.lg_lt e
        rw [h.same b hlt]; exact hw.lg b row e
      len := hw.len, sorted := hw.sorted, bound := hw.bound
      obj := fun id o hi => by
        obtain ⟨b, h1, h2, h3⟩ := hw.obj id o hi
        exact ⟨b, h1, h2, h3.mono (Gh.Le.refl g) (h.same b h3.lt) fun _ _ h _ => h⟩
      inj := hw.inj, scope := hw.scope
      phi := fun id b e => Nat.lt_of_lt_of_le (hw.phi id b e) h.size
      bsz := fun id b e c el fz hc => hw.bsz id b e c el fz (by rw [← h.same b (hw.phi id b e)]; exact hc) }
    vr := hr, ok := ho, size := h.size, φ := ⟨[], by simp, fun b h => by simp at h⟩
    lgle := fun b row e => ⟨row, e, List.prefix_refl _⟩, bs := fun _ _ _ => rfl
    claims := fun b _ => by rw [hz, hcl]; exact Nat.le_refl _
    claims' := fun b hb => by rw [hz, hcl, clM_lt hw hb]; omega
    keepLg := fun _ _ e _ => e, keepBlk := fun b hb _ _ => h.same b hb, fresh := h.fz, keepNone := fun _ _ e _ => e, os := h.os, R := rfl }

section
variable {g : Gh} {w : World} {m : Mem}

/-- A loop's record is laid. -/
theorem step_pushLoop {env : Env} {ps : List Nat} {asg body : MCode} {st : Nat} {pend : Option (Option Nat)} {rec : Loop} {r : PVal} {v : Value} (hw : WI g w m)
    (ho : ObjR g (w.alloc (.loop rec)) w.heap.size (.loop env ps asg body st pend)) (hu : (MObj.loop env ps asg body st pend).under (m.next + 1) = true)
    (hv : VR (g.app w.heap.size 0) r v) (h1 : ∀ g, OwnOk g r v) (h0 : ∀ b, clV r v b = 0) :
    Step (fun _ => 0) g w m r (m.push (.loop env ps asg body st pend)) (g.app w.heap.size 0) (w.alloc (.loop rec)) v where
  wi := hw.push (ob := .loop rec) ho hu
  vr := hv
  ok := h1 _
  size := by rw [World.size_alloc]; omega
  φ := ⟨[w.heap.size], rfl, fun b h => by simp at h; exact .inl (by omega)⟩
  lgle := fun b row h => ⟨row, h, List.prefix_refl _⟩
  bs := hw.app_le.bs
  claims := fun b _ => by rw [clM_push hw, h0 b]; simp [clObj]
  claims' := fun b hb => by rw [clM_push hw, h0 b, clM_lt hw hb]; simp [clObj]
  keepLg := fun b row h _ => h
  keepBlk := fun b hb _ _ => alloc_old w _ hb
  fresh := (Lies.alloc w (.loop rec) (by simp)).fz
  R := rfl
  keepNone := fun _ _ h _ => h
  os := ⟨rfl, rfl, rfl⟩

/-- A loop's record is turned. -/
theorem step_setLoop {env : Env} {ps : List Nat} {asg body : MCode} {st st' : Nat} {pend pend' : Option (Option Nat)} {rec' : Loop} {id b : Nat} {r : PVal} {v : Value} (hw : WI g w m)
    (hget : m.get id = some (.loop env ps asg body st pend)) (hb : g.φ[id]? = some b) (ho : ObjR g (w.putObj b (.loop rec')) b (.loop env ps asg body st' pend'))
    (hv : VR g r v) (h1 : OwnOk g r v) (h0 : ∀ b, clV r v b = 0) :
    Step (fun _ => 0) g w m r (m.set id (.loop env ps asg body st' pend')) g (w.putObj b (.loop rec')) v := by
  have hmem := find_mem hget
  obtain ⟨b', hb', hlg, hobj⟩ := hw.get hget
  obtain rfl : b = b' := by rw [hb] at hb'; exact Option.some.inj hb'
  have hlt := hobj.lt
  generalize hw' : w.putObj b (.loop rec') = w' at ho
  have hself : w'.heap[b]? = some (.loop rec') := by rw [← hw']; exact World.putObj_heap_same hlt
  have hoth : ∀ k, k ≠ b → w'.heap[k]? = w.heap[k]? := fun k hk => by rw [← hw']; exact World.putObj_heap_other hk
  have hsize : w'.heap.size = w.heap.size := by rw [← hw']; simp
  have hne : ∀ i o, (i, o) ∈ m.objs → i ≠ id → ∀ k, g.φ[i]? = some k → k ≠ b := fun i o hm hi k hk he => by
    subst he; exact hi (hw.inj i o id _ k hm hmem hk hb)
  have mem_old : ∀ i o, (i, o) ∈ (m.set id (.loop env ps asg body st' pend')).objs → ∃ o', (i, o') ∈ m.objs := fun i o h => by
    have : i ∈ (Mem.repl m.objs id (.loop env ps asg body st' pend')).map (·.1) := List.mem_map.2 ⟨_, h, rfl⟩
    rw [repl_keys] at this
    obtain ⟨y, hy, he⟩ := List.mem_map.1 this
    exact ⟨y.2, by rw [← he]; exact hy⟩
  have hclM : ∀ k, clM g w' (m.set id (.loop env ps asg body st' pend')) k = clM g w m k := fun k => by
    have := clMs_repl (φ := g.φ) (w := w) (w' := w') (o' := .loop env ps asg body st' pend') hw.sorted hmem (fun i o hm hi => by
      obtain ⟨k', hk', _, _⟩ := hw.obj i o hm
      rw [phi_getD hk']
      exact heapCells_congr (hoth k' (hne i o hm hi k' hk'))) k
    show clMs g.φ w' (Mem.repl m.objs id _) k = clMs g.φ w m.objs k
    simpa [clObj] using this
  exact {
    wi := {
      lg := fun k row hk => by
        obtain ⟨c', fz, hc', rest⟩ := hw.lg k row hk
        refine ⟨c', fz, ?_, rest⟩
        rw [hoth k (fun he => by subst he; rw [hlg] at hk; cases hk)]; exact hc'
      len := hw.len
      sorted := repl_sorted _ _ hw.sorted
      bound := fun x hx => by
        obtain ⟨o', ho'⟩ := mem_old x.1 x.2 hx
        exact hw.bound (x.1, o') ho'
      obj := fun i o hi => by
        by_cases hid : i = id
        · subst hid
          obtain rfl := repl_new hw.sorted hi
          exact ⟨b, hb, hlg, ho⟩
        · have hold := repl_old hi hid
          obtain ⟨k, hk, hn, hr⟩ := hw.obj i o hold
          exact ⟨k, hk, hn, hr.mono (Gh.Le.refl g) (hoth k (hne i o hold hid k hk)) fun p v h _ => h⟩
      inj := fun i o j o' k hi hj => by
        obtain ⟨o1, h1⟩ := mem_old i o hi
        obtain ⟨o2, h2⟩ := mem_old j o' hj
        exact hw.inj i o1 j o2 k h1 h2
      scope := fun i o hi => by
        by_cases hid : i = id
        · subst hid
          obtain rfl := repl_new hw.sorted hi
          exact (hw.scope i _ hmem).imp id fun h => h
        · exact hw.scope i o (repl_old hi hid)
      phi := fun i k hk => by rw [hsize]; exact hw.phi i k hk
      bsz := fun i k hk c e f hc => by
        by_cases hkb : k = b
        · subst hkb; rw [hself] at hc; cases hc
        · rw [hoth k hkb] at hc; exact hw.bsz i k hk c e f hc }
    vr := hv
    ok := h1
    size := by rw [hsize]; exact Nat.le_refl _
    φ := ⟨[], by simp, fun b h => by simp at h⟩
    lgle := fun k row h => ⟨row, h, List.prefix_refl _⟩
    bs := fun _ _ _ => rfl
    claims := fun k _ => by rw [hclM, h0]; omega
    claims' := fun k hk => by rw [hclM, clM_lt hw hk, h0]; omega
    keepLg := fun k row h _ => h
    keepBlk := fun k _ _ hno => hoth k (fun he => by subst he; exact hno id hb)
    fresh := fun k c e f hc => by
      by_cases hkb : k = b
      · subst hkb; rw [hself] at hc; cases hc
      · rw [hoth k hkb] at hc; exact .inl ⟨c, hc⟩
    R := rfl
    keepNone := fun _ _ h _ => h
    os := by rw [← hw']; exact ⟨rfl, rfl, rfl⟩ }

/-- At the end of a round, or of a body without results. -/
theorem end_ok {C0 : Nat → Nat} {g0 : Gh} {w0 : World} {m0 : Mem} {f : FEnv} {tmps : Array Value} {t : Bool} {n : Nat} (hC : C0 = clM g0 w0 m0) (hI : Inv C0 g0 w0 f m g w tmps) (hg : g0.φ.length ≤ n) :
    ∃ g', Step (fun _ => 0) g0 w0 m0 (.bool t) (cutFor n (.bool t) m) g' w (.bool t) := by
  subst hC
  obtain ⟨g3, hw3, ha3, hp3⟩ := cut_ok (n := n) (r := .bool t) (v := .bool t) hI.wi ⟨.bool t, trivial⟩ (hI.pre.weaken fun b => by have h0 : clV (.bool t) (.bool t) b = 0 := rfl; omega) hg
  exact ⟨g3, {
    wi := hw3, vr := ha3.vr, ok := ha3.ok, size := hp3.size, φ := hp3.φ, lgle := hp3.lgle, bs := hp3.bs
    claims := fun b hb => by have := hp3.claims b hb; omega
    claims' := hp3.claims'
    keepLg := fun b row e h0 => hp3.keepLg b row e (by omega)
    keepBlk := fun b hb h0 hno => hp3.keepBlk b hb (by omega) hno
    fresh := hp3.fz, R := hp3.R, keepNone := hp3.keepNone, os := hp3.os }⟩

end
end Go.Ev

/- A round of a loop over a function. -/
namespace Go.Ev

section
variable {P : Program} {globs : Nat → Option (List PVal)} {call : CallF} {g g' : Gh} {w w' : World} {m m' : Mem} {L : Nat}

/-- A frame's values, none of which may grow. -/
def PlainEnv (g : Gh) (f : FEnv) (tmps : Array Value) : Prop := ∀ t p, f t = some p → p.isFresh = false ∧ ∃ v, tmps[t]? = some v ∧ Arg g p v ∧ ∀ b, clV p v b = 0

theorem inv_plain {f : FEnv} {tmps : Array Value} (hw : WI g w m) (h1 : ∀ b, clM g w m b ≤ 1) (h : PlainEnv g f tmps) : Inv (clM g w m) g w f m g w tmps := by
  have hcl : ∀ b n, clF tmps f n b = 0 := fun b n => by
    induction n with
    | zero => rfl
    | succ n ih =>
      simp only [clF, ih, clS]
      cases he : f n with
      | none => rfl
      | some p =>
        obtain ⟨_, v, hv, _, hc⟩ := h n p he
        simp only [getD_of hv, hc]
  refine ⟨hw, ⟨fun t p e => ?_⟩, {
    size := Nat.le_refl _, φ := ⟨[], by simp, fun b h => by simp at h⟩, lgle := fun b row e => ⟨row, e, List.prefix_refl _⟩, bs := fun _ _ _ => rfl
    claims := fun b _ => by rw [hcl]; omega
    claims' := fun b hb => by rw [hcl, clM_lt hw hb]; omega
    keepLg := fun _ _ e _ => e, keepBlk := fun _ _ _ _ => rfl, fz := .refl _, R := rfl, keepNone := fun _ _ e _ => e, os := ⟨rfl, rfl, rfl⟩ }, h1, fun b row e => hw.lg_lt e, fun t z e => ?_, fun t _ z _ _ e => ?_⟩
  · obtain ⟨_, v, hv, harg, _⟩ := h t p e
    exact ⟨v, hv, harg.vr, harg.ok⟩
  · have := (h t _ e).1; simp [PVal.isFresh] at this
  · have := (h t _ e).1; simp [PVal.isFresh] at this

theorem loop_plain {env : Env} {rec : Loop} (h : ∀ t p, (t, p) ∈ env → p.isFresh = false ∧ p.nz = p ∧ ∃ v, rec.tmps[t]? = some v ∧ VR g p v) : PlainEnv g env.get rec.tmps := fun t p e => by
  obtain ⟨h1, h2, v, h3, h4⟩ := h t p (env_get_mem e)
  refine ⟨h1, v, h3, ⟨h4, ?_⟩, fun b => ?_⟩
  · rw [← h2]; exact OwnOk_nz _ _ _
  · rw [← h2]; exact clV_nz _ _ _

/-- The values that the iterator hands over. -/
theorem params_plain : ∀ {ts : List Nat} {ps : List PVal} {vs : List Value} {env : Env} {tmps : Array Value}, ts.length = ps.length → env.ok → PlainEnv g env.get tmps → Args g ps vs → (∀ b, clA ps vs b = 0) → (∀ p, p ∈ ps → p.isFresh = false) →
    (∀ t, t ∈ ts → t < tmps.size) →
    (setParams ts ps env).ok ∧ PlainEnv g (setParams ts ps env).get ((ts.zip vs).foldl (fun tmps x => tmps.setIfInBounds x.1 x.2) tmps) ∧ ((ts.zip vs).foldl (fun tmps x => tmps.setIfInBounds x.1 x.2) tmps).size = tmps.size
  | [], ps, vs, env, tmps, hl, hn, hp, ha, hz, hf, ht => by
    cases ps with
    | nil => exact ⟨hn, by simpa [setParams] using hp, by simp⟩
    | cons => simp at hl
  | t :: ts, [], vs, env, tmps, hl, _, _, _, _, _, _ => by simp at hl
  | t :: ts, p :: ps, _, env, tmps, hl, hn, hp, .cons (v := v) (vs := vs) h1 h2, hz, hf, ht => by
    have hz1 : ∀ b, clV p v b = 0 := fun b => by have := hz b; simp only [clA] at this; omega
    have hz2 : ∀ b, clA ps vs b = 0 := fun b => by have := hz b; simp only [clA] at this; omega
    have htl := ht t List.mem_cons_self
    have hp' : PlainEnv g (env.put t p).get (tmps.setIfInBounds t v) := fun s q e => by
      rw [env_get_put hn] at e
      by_cases hs : s = t
      · subst hs
        rw [upd_same] at e
        cases e
        exact ⟨hf p List.mem_cons_self, v, by simp [htl], h1, hz1⟩
      · have e' : env.get s = some q := by simpa [upd, hs] using e
        obtain ⟨a, u, b, c, d⟩ := hp s q e'
        refine ⟨a, u, ?_, c, d⟩
        rw [Array.getElem?_setIfInBounds_ne (Ne.symm hs)]; exact b
    have := params_plain (ts := ts) (ps := ps) (vs := vs) (env := env.put t p) (tmps := tmps.setIfInBounds t v) (by simpa using hl) (env_put_ok hn t p) hp' h2 hz2 (fun q hq => hf q (List.mem_cons_of_mem _ hq)) (fun s hs => by simpa using ht s (List.mem_cons_of_mem _ hs))
    simpa [setParams] using this

theorem foldl_zip (xs : Array Nat) (vs : List Value) (tmps : Array Value) : (xs.zip vs.toArray).foldl (fun tmps (x : Nat × Value) => tmps.setIfInBounds x.1 x.2) tmps = (xs.toList.zip vs).foldl (fun tmps x => tmps.setIfInBounds x.1 x.2) tmps := by
  rw [← Array.foldl_toList]
  simp

/-- A round. -/
theorem yield_ok (hm : P.follows .mixedOrders = true) (hcalls : CallOk P (Good P) globs call) (hy : YieldOk P (Good P) globs call) (hfy : OnlyFY call) {id : Nat} {ps : List PVal} {r : PVal}
    (h : evYield globs call L id ps m = some (r, m')) {vs : List Value} {b : Nat} (hR : g.R = Good P) (hw : WI g w m) (hg : GlobOk globs g) (h1 : ∀ b, clM g w m b ≤ 1) (ha : Args g ps vs) (hz : ∀ b, clA ps vs b = 0) (hb : g.φ[id]? = some b) :
    ∃ fn tmps asg body, (Instr.yield b vs.toArray).run P w = .ok (.round b fn tmps asg body) w ∧
      ∀ ro n, RoundIn (fen ro) n P b fn tmps asg body w fun e w' => ∃ v g', e = .returned v ∧ Step (fun _ => 0) g w m r m' g' w' v := by
  unfold evYield at h
  split at h
  · rename_i env qs asg body st pend hget
    obtain ⟨hc, h⟩ := bif_some h
    simp only [Bool.and_eq_true, List.all_eq_true] at hc
    obtain ⟨⟨hst, hlen⟩, hfr⟩ := hc
    have hlen := Nat.eq_of_beq_eq_true hlen
    obtain ⟨b', hb', hlg, rec, hheap, hps, hlt, hRa, hRb, hnd, henv, hls⟩ := hw.get hget
    obtain rfl : b = b' := by rw [hb] at hb'; exact Option.some.inj hb'
    rw [hR] at hRa hRb
    have hvl : vs.length = ps.length := ha.get.1.symm
    have hsz : vs.toArray.size = rec.params.size := by
      rw [List.size_toArray, hvl, hlen, ← hps, Array.length_toList]
    refine ⟨rec.fn, _, rec.assign, rec.body, run_yield hheap hsz, fun ro n => ?_⟩
    have hfold := foldl_zip rec.params vs rec.tmps
    obtain ⟨hn0, hpl, hts⟩ := params_plain (ts := qs) (env := env) (tmps := rec.tmps) hlen.symm hnd (loop_plain henv) ha hz (fun p hp => by simpa using hfr p hp) hlt
    rw [← hps, ← hfold] at hpl hts
    have hfe : (fun (tmps : Array Value) (x : Nat × Value) => tmps.setIfInBounds x.1 x.2) = (fun tmps x => match x with | (t, a) => tmps.setIfInBounds t a) := rfl
    rw [hfe] at hpl hts
    generalize (rec.params.zip vs.toArray).foldl _ rec.tmps = tm at hpl hts
    rw [hps] at hpl
    have hI := inv_plain hw h1 hpl
    have hctx : CtxR P globs call g := ⟨hg, by rw [hR]; exact hcalls, by rw [hR]; exact hy, hfy⟩
    simp only [Option.bind_eq_some_iff] at h
    obtain ⟨⟨x1, s1⟩, he1, h⟩ := h
    refine roundIn_of_wpIn (F := fen ro) trivial ?_
    have hn1 := code_env asg (codeOk_range _ _ hRa.1) _ _ _ he1 hn0
    refine code_okIn (ro := some b) (nn := n) (n := tm.size) (L := L) hm hctx asg rec.assign (by rw [hts]; exact hRa.1) hRa.2 he1 hn0 hI rfl ?_
    cases x1 with
    | exit i => cases h
    | ret => cases h
    | normal =>
      dsimp only at h
      split at h
      · rename_i env1 ps1 asg1 body1 st1 pend1 hget1
        obtain ⟨hst1, hh⟩ := bif_some h
        clear h
        simp only [Option.bind_eq_some_iff] at hh
        obtain ⟨⟨x3, s3⟩, he3, h⟩ := hh
        obtain rfl : st1 = 0 := Nat.eq_of_beq_eq_true hst1
        intro a1 g1 w1 hs1 hd1 hI1
        have hb1 : g1.φ[id]? = some b := by obtain ⟨ext, he, _⟩ := hI1.pre.φ; rw [he]; exact pre_get (List.prefix_append _ _) hb
        obtain ⟨b', hb', hlg1, rec1, hheap1, hps1, hlt1, hRa1, hRb1, hnd1, henv1, hls1⟩ := hI1.wi.get hget1
        obtain rfl : b = b' := by rw [hb1] at hb'; exact Option.some.inj hb'
        have hlt1' : b < w1.heap.size := (Array.getElem?_eq_some_iff.1 hheap1).1
        refine ⟨_, run_beginRound hheap1 (hls1.1 rfl).1, ?_⟩
        have hst2 := step_setLoop (rec' := { rec1 with state := .busy }) (st' := 1) (pend' := pend1) (r := .tuple []) (v := undef) hI1.wi hget1 hb1 ⟨_, World.putObj_heap_same hlt1', hps1, hlt1, hRa1, hRb1, hnd1, henv1, fun h => by simp at h, fun h => by simp at h⟩
          (.tuple rfl fun i c h => by simp at h) trivial (fun _ => rfl)
        have hI2 := (hI1.toK.step hst2 fun _ _ => rfl).toInv
        have hn3 := code_env body (codeOk_range _ _ hRb.1) _ _ _ he3 hn1
        refine code_okIn (ro := some b) (nn := n) (n := a1.tmps.size) (L := L) hm hctx body rec.body (by rw [hs1]; show codeOk P tm.size _ _ = true; rw [hts]; exact hRb.1) hRb.2 he3 hn1 hI2 rfl ?_
        dsimp only at h
        split at h
        · rename_i env2 ps2 asg2 body2 st2 pend2 hget2
          have fin : ∀ (t : Bool) (jump : Option Code) (st' : Nat) (pend' : Option (Option Nat)), t = jump.isNone → (∀ rec2 : Loop, LoopSt st' pend' { rec2 with state := if jump.isNone then .ready else .done, pending := jump }) →
              some (PVal.bool t, cutFor m.next (.bool t) (s3.mem.set id (.loop env2 ps2 asg2 body2 st' pend'))) = some (r, m') →
              ∀ (g3 : Gh) (w3 : World) (a3 : Act), Inv (clM g w m) g w s3.env.get s3.mem g3 w3 a3.tmps → ∃ v w4, (Instr.endRound b jump).run P w3 = .ok v w4 ∧ ∃ u g', Ending.returned v = .returned u ∧ Step (fun _ => 0) g w m r m' g' w4 u := by
            intro t jump st' pend' ht hL hr g3 w3 a3 hI3
            simp only [Option.some.injEq, Prod.mk.injEq] at hr
            obtain ⟨rfl, rfl⟩ := hr
            have hb3 : g3.φ[id]? = some b := by obtain ⟨ext, he, _⟩ := hI3.pre.φ; rw [he]; exact pre_get (List.prefix_append _ _) hb
            obtain ⟨b', hb', hlg3, rec3, hheap3, hps3, hlt3, hRa3, hRb3, hnd3, henv3, hls3⟩ := hI3.wi.get hget2
            obtain rfl : b = b' := by rw [hb3] at hb'; exact Option.some.inj hb'
            have hlt3' : b < w3.heap.size := (Array.getElem?_eq_some_iff.1 hheap3).1
            have hst4 := step_setLoop (rec' := { rec3 with state := if jump.isNone then .ready else .done, pending := jump }) (st' := st') (pend' := pend') (r := .tuple []) (v := undef) hI3.wi hget2 hb3 ⟨_, World.putObj_heap_same hlt3', hps3, hlt3, hRa3, hRb3, hnd3, henv3, hL rec3⟩
              (.tuple rfl fun i c h => by simp at h) trivial (fun _ => rfl)
            have hI4 := (hI3.toK.step hst4 fun _ _ => rfl).toInv
            obtain ⟨g', hfin⟩ := end_ok (t := t) (n := m.next) rfl hI4 (by rw [hw.len]; exact Nat.le_refl _)
            refine ⟨_, _, run_endRound jump hheap3, .bool t, g', by rw [ht], hfin⟩
          cases x3 with
          | normal =>
            intro a3 g3 w3 hs3 hd3 hI3
            exact fin true none 0 none rfl (fun rec2 => ⟨fun _ => ⟨rfl, rfl⟩, fun h => by simp at h⟩) h g3 w3 a3 hI3
          | exit i =>
            intro a3 g3 w3 hs3 hd3 hI3
            exact fin false (some (.exit i)) 2 (some (some i)) rfl (fun rec2 => ⟨fun h => by simp at h, fun _ => ⟨rfl, rfl⟩⟩) h g3 w3 a3 hI3
          | ret =>
            intro a3 g3 w3 hs3 hd3 hI3
            exact fin false (some .ret) 2 (some none) rfl (fun rec2 => ⟨fun h => by simp at h, fun _ => ⟨rfl, rfl⟩⟩) h g3 w3 a3 hI3
        · cases h
      · cases h
  · cases h

end
end Go.Ev

/- Code that ranges over functions, in a function's own frame. -/
namespace Go.Ev

section
variable {P : Program} {globs : Nat → Option (List PVal)} {call : CallF} {C0 C1 : Nat → Nat} {g0 g1 g g' : Gh} {w0 w1 w w' : World} {m m' : Mem} {f : FEnv} {tmps : Array Value} {L n nn : Nat}

theorem PVal.nz0_nz0 (p : PVal) : p.nz0.nz0 = p.nz0 := by
  cases p with
  | slice xs c => cases c <;> rfl
  | _ => rfl
theorem PVal.nz1_nz1 (p : PVal) : p.nz1.nz1 = p.nz1 := by
  cases p with
  | agg cs => simp only [PVal.nz1, List.map_map]; congr 1; apply List.map_congr_left; intro c _; exact PVal.nz0_nz0 c
  | slice xs c => cases c <;> rfl
  | _ => rfl
theorem PVal.nz_nz (p : PVal) : p.nz.nz = p.nz := by
  cases p with
  | tuple vs => simp only [PVal.nz, List.map_map]; congr 1; apply List.map_congr_left; intro c _; exact PVal.nz1_nz1 c
  | agg cs => exact PVal.nz1_nz1 (.agg cs)
  | slice xs c => cases c <;> rfl
  | _ => rfl
theorem nz_fresh (p : PVal) : p.nz.isFresh = p.isFresh := by cases p <;> rfl

theorem loopEnv_mem : ∀ {e : Env} {t : Nat} {q : PVal}, (t, q) ∈ loopEnv e → ∃ p, (t, p) ∈ e ∧ p.isFresh = false ∧ q = p.nz
  | [], t, q, h => by simp [loopEnv] at h
  | (s, p) :: e, t, q, h => by
    simp only [loopEnv] at h
    cases hf : p.isFresh with
    | true =>
      rw [hf] at h
      obtain ⟨p', h1, h2⟩ := loopEnv_mem (e := e) h
      exact ⟨p', List.mem_cons_of_mem _ h1, h2⟩
    | false =>
      rw [hf] at h
      rcases List.mem_cons.1 h with h | h
      · cases h
        exact ⟨p, List.mem_cons_self, hf, rfl⟩
      · obtain ⟨p', h1, h2⟩ := loopEnv_mem (e := e) h
        exact ⟨p', List.mem_cons_of_mem _ h1, h2⟩
theorem loopEnv_sub : ∀ (e : Env), ((loopEnv e).map (·.1)).Sublist (e.map (·.1))
  | [] => List.Sublist.refl _
  | (s, p) :: e => by
    simp only [loopEnv]
    cases p.isFresh with
    | true => exact (loopEnv_sub e).cons _
    | false => exact (loopEnv_sub e).cons_cons _
theorem mem_get {e : Env} (hn : e.ok) {t : Nat} {p : PVal} (h : (t, p) ∈ e) : e.get t = some p := by
  induction e with
  | nil => cases h
  | cons x e ih =>
    obtain ⟨s, q⟩ := x
    unfold Env.ok at hn
    simp only [List.map_cons, List.nodup_cons] at hn
    simp only [Env.get]
    rcases List.mem_cons.1 h with h | h
    · cases h; simp
    · have hne : s.beq t = false := by
        cases hb : s.beq t with
        | false => rfl
        | true =>
          obtain rfl := Nat.eq_of_beq_eq_true hb
          exact absurd (List.mem_map.2 ⟨_, h, rfl⟩) hn.1
      rw [hne]
      exact ih hn.2 h

theorem code_envA : ∀ (mc : MCode) (s : MSt) (x : MExit) (s' : MSt), evCode globs call L mc s = some (x, s') → s.env.ok → s'.env.ok := by
  intro mc
  induction mc with
  | rangeFunc fo ps asg body iha ihb =>
    intro s x s' h hn
    simp only [evCode, Option.bind_eq_some_iff] at h
    obtain ⟨r, hr, h⟩ := h
    obtain ⟨_, h⟩ := bif_none h
    simp only [Option.bind_eq_some_iff] at h
    obtain ⟨q, hq, h⟩ := h
    have hok := opd_env hr hn
    split at h
    · rename_i st pend _
      cases h1 : st.beq 0 with
      | true => rw [h1] at h; cases h; exact hok
      | false =>
        rw [h1] at h
        cases h2 : st.beq 2 with
        | false => rw [h2] at h; cases h
        | true =>
          rw [h2] at h
          simp only [cond_true, cond_false] at h
          split at h <;> cases h <;> exact hok
    · cases h
  | skip => intro s x s' h hn; cases h; exact hn
  | region ops conf => intro s x s' h hn; exact code_env _ rfl s x s' h hn
  | seq a b iha ihb =>
    intro s x s' h hn
    simp only [evCode, Option.bind_eq_some_iff] at h
    obtain ⟨⟨y, s1⟩, h1, h2⟩ := h
    have hn1 := iha _ _ _ h1 hn
    cases y with
    | normal => exact ihb _ _ _ h2 hn1
    | exit i => cases h2; exact hn1
    | ret => cases h2; exact hn1
  | cond c a b iha ihb =>
    intro s x s' h hn
    simp only [evCode] at h
    split at h
    · rename_i t e he
      have he2 : e.ok := opd_env he hn
      cases t with
      | true => exact iha _ _ _ h he2
      | false => exact ihb _ _ _ h he2
    · cases h
  | block id b ih =>
    intro s x s' h hn
    simp only [evCode, Option.map_eq_some_iff] at h
    obtain ⟨⟨y, s1⟩, h1, h2⟩ := h
    have hn1 := ih _ _ _ h1 hn
    have : s1 = s' := by
      cases y with
      | normal => cases h2; rfl
      | exit i =>
        simp only at h2
        cases hb : i.beq id <;> rw [hb] at h2 <;> cases h2 <;> rfl
      | ret => cases h2; rfl
    rw [← this]; exact hn1
  | loop trim b ih =>
    intro s x s' h hn
    exact loop_env (fun s x s' h hn => ih s x s' h hn) L s x s' h hn
  | exit id => intro s x s' h hn; cases h; exact hn
  | ret => intro s x s' h hn; cases h; exact hn
  | bad y => intro s x s' h; cases h

/-! Bases. -/
theorem Step.toPre {r : PVal} {v : Value} (h : Step (fun _ => 0) g w m r m' g' w' v) : Pre (clM g w m) g w (fun b => clV r v b + clM g' w' m' b) g' w' where
  size := h.size
  φ := h.φ
  lgle := h.lgle
  bs := h.bs
  claims := fun b hb => by have := h.claims b hb; omega
  claims' := h.claims'
  keepLg := fun b row e h0 => h.keepLg b row e (by omega)
  keepBlk := fun b hb h0 hno => h.keepBlk b hb (by omega) hno
  fz := h.fresh
  R := h.R
  keepNone := h.keepNone
  os := h.os

theorem Pre.trans {K : Nat → Nat} (h : Pre C0 g0 w0 C1 g1 w1) (h' : Pre C1 g1 w1 K g w) (h1 : ∀ b, C1 b ≤ 1) (hlg : ∀ b row, g0.lg b = some row → b < w0.heap.size) : Pre C0 g0 w0 K g w where
  size := Nat.le_trans h.size h'.size
  φ := by
    obtain ⟨e1, he1, hn1⟩ := h.φ
    obtain ⟨e2, he2, hn2⟩ := h'.φ
    refine ⟨e1 ++ e2, by rw [he2, he1, List.append_assoc], fun b hb => ?_⟩
    rcases List.mem_append.1 hb with hb | hb
    · exact hn1 b hb
    · rcases hn2 b hb with h2 | ⟨id, h2⟩
      · left; have := h.size; omega
      · rw [he1] at h2
        by_cases hid : id < g0.φ.length
        · rw [List.getElem?_append_left hid] at h2; exact .inr ⟨id, h2⟩
        · rw [List.getElem?_append_right (by omega)] at h2
          exact hn1 b (List.mem_of_getElem? h2)
  lgle := fun b row e => by
    obtain ⟨r1, e1, p1⟩ := h.lgle b row e
    obtain ⟨r2, e2, p2⟩ := h'.lgle b r1 e1
    exact ⟨r2, e2, p1.trans p2⟩
  bs := fun id b e => by
    obtain ⟨ext, he, _⟩ := h.φ
    exact (h'.bs id b (by rw [he]; exact pre_get (List.prefix_append _ _) e)).trans (h.bs id b e)
  claims := fun b hb => Nat.le_trans (h'.claims b (Nat.lt_of_lt_of_le hb h.size)) (h.claims b hb)
  claims' := fun b hb => by
    by_cases hb' : b < w1.heap.size
    · exact Nat.le_trans (h'.claims b hb') (h1 b)
    · exact h'.claims' b (by omega)
  keepLg := fun b row e h0 => h'.keepLg b row (h.keepLg b row e h0) (by have := h.claims b (hlg b row e); omega)
  keepBlk := fun b hb h0 hno => (h'.keepBlk b (Nat.lt_of_lt_of_le hb h.size) (by have := h.claims b hb; omega) fun id => h.phi_new hb hno).trans (h.keepBlk b hb h0 hno)
  fz := h.fz.trans h'.fz h.size
  R := h'.R.trans h.R
  keepNone := fun b hb hn hno => h'.keepNone b (Nat.lt_of_lt_of_le hb h.size) (h.keepNone b hb hn hno) fun id => h.phi_new hb hno
  os := ⟨h'.os.1.trans h.os.1, h'.os.2.1.trans h.os.2.1, h'.os.2.2.trans h.os.2.2⟩

/-- From here on. -/
theorem Inv.rebase (hI : Inv C0 g0 w0 f m g w tmps) (hf : ∀ t z, f t ≠ some (.fresh z)) : Inv (fun b => clF tmps f tmps.size b + clM g w m b) g w f m g w tmps := by
  refine ⟨hI.wi, hI.env, {
    size := Nat.le_refl _, φ := ⟨[], by simp, fun b h => by simp at h⟩, lgle := fun b row e => ⟨row, e, List.prefix_refl _⟩, bs := fun _ _ _ => rfl
    claims := fun b _ => Nat.le_refl _
    claims' := fun b _ => hI.pre.total hI.c1 b
    keepLg := fun _ _ e _ => e, keepBlk := fun _ _ _ _ => rfl, fz := .refl _, R := rfl, keepNone := fun _ _ e _ => e, os := ⟨rfl, rfl, rfl⟩ }, fun b => hI.pre.total hI.c1 b, fun b row e => hI.wi.lg_lt e, fun t z e => absurd e (hf t z), hI.apart⟩

theorem Inv.onto (hI : Inv C1 g1 w1 f m g w tmps) (h : Pre C0 g0 w0 C1 g1 w1) (h1 : ∀ b, C0 b ≤ 1) (hlg : ∀ b row, g0.lg b = some row → b < w0.heap.size) : Inv C0 g0 w0 f m g w tmps :=
  ⟨hI.wi, hI.env, h.trans hI.pre hI.c1 hlg, h1, hlg, fun t z e => let ⟨b, c, el, a1, a2, a3⟩ := hI.fresh t z e; ⟨b, c, el, a1, Nat.le_trans h.size a2, a3⟩, hI.apart⟩

/-- The marks of the loops that were entered. -/
def Marks (N : Nat) (C : Nat → Nat) (g : Gh) (w : World) (ds : List Deferred) : Prop :=
  ∃ Ds : List Nat, ds = Ds.map (fun D => { target := .collected D, args := #[] }) ∧ Ds.Nodup ∧ ∀ D, D ∈ Ds → N ≤ D ∧ D < w.heap.size ∧ w.heap[D]? = some (.deferred (some [])) ∧ C D = 0 ∧ ∀ id : Nat, g.φ[id]? ≠ some D

theorem Marks.later {N : Nat} {ds : List Deferred} {K : Nat → Nat} (h : Marks N C0 g0 w0 ds) (hp : Pre C0 g0 w0 K g w) : Marks N K g w ds := by
  obtain ⟨Ds, h1, h2, h3⟩ := h
  refine ⟨Ds, h1, h2, fun D hD => ?_⟩
  obtain ⟨n, a, b, c, d⟩ := h3 D hD
  exact ⟨n, Nat.lt_of_lt_of_le a hp.size, (hp.keepBlk D a c d).trans b, by have := hp.claims D a; omega, fun id => hp.phi_new a d⟩

/-- What is nobody's may turn. -/
theorem Inv.touch {D : Nat} {o o' : Obj} (hI : Inv C0 g0 w0 f m g w tmps) (hD : w0.heap.size ≤ D) (hh : w.heap[D]? = some o) (ho : ∀ c e fz, o ≠ .cells c e fz) (ho' : ∀ c e fz, o' ≠ .cells c e fz) (hno : ∀ id : Nat, g.φ[id]? ≠ some D) :
    Inv C0 g0 w0 f m g (w.putObj D o') tmps := by
  have hlt : D < w.heap.size := (Array.getElem?_eq_some_iff.1 hh).1
  have hoth : ∀ k, k ≠ D → (w.putObj D o').heap[k]? = w.heap[k]? := fun k hk => World.putObj_heap_other hk
  have hcells : ∀ (b : Nat) c e fz, w.heap[b]? = some (.cells c e fz) → b ≠ D := fun b c e fz h e' => by subst e'; rw [hh] at h; exact ho _ _ _ (Option.some.inj h)
  have hcl : ∀ b, clM g (w.putObj D o') m b = clM g w m b := fun b => clMs_congr' (fun id o hi => by
    obtain ⟨k, hk, _, _⟩ := hI.wi.obj id o hi
    have : g.φ.getD id 0 = k := by simp [List.getD, hk]
    unfold heapCells
    rw [this, hoth k fun e => by subst e; exact hno id hk]) b
  exact {
    wi := {
      lg := fun b row e => by
        obtain ⟨c, fz, hc, rest⟩ := hI.wi.lg b row e
        exact ⟨c, fz, (hoth b (hcells b _ _ _ hc)).trans hc, rest⟩
      len := hI.wi.len, sorted := hI.wi.sorted, bound := hI.wi.bound
      obj := fun id o hi => by
        obtain ⟨b, h1, h2, h3⟩ := hI.wi.obj id o hi
        exact ⟨b, h1, h2, h3.mono (Gh.Le.refl g) (hoth b fun e => by subst e; exact hno id h1) fun _ _ h _ => h⟩
      inj := hI.wi.inj, scope := hI.wi.scope
      phi := fun id b e => by rw [World.putObj_size]; exact hI.wi.phi id b e
      bsz := fun id b e c el fz hc => hI.wi.bsz id b e c el fz (by rw [← hoth b fun e' => by subst e'; exact hno id e]; exact hc) }
    env := hI.env
    pre := {
      size := by rw [World.putObj_size]; exact hI.pre.size
      φ := hI.pre.φ, lgle := hI.pre.lgle, bs := hI.pre.bs
      claims := fun b hb => by rw [hcl]; exact hI.pre.claims b hb
      claims' := fun b hb => by rw [hcl]; exact hI.pre.claims' b hb
      keepLg := hI.pre.keepLg
      keepBlk := fun b hb h0 hn => (hoth b (by omega)).trans (hI.pre.keepBlk b hb h0 hn)
      fz := fun b c e fz hc => by
        by_cases hb : b = D
        · subst hb
          rw [World.putObj_heap_same hlt] at hc
          exact absurd (Option.some.inj hc) (ho' _ _ _)
        · rw [hoth b hb] at hc; exact hI.pre.fz b c e fz hc
      R := hI.pre.R, keepNone := hI.pre.keepNone, os := hI.pre.os }
    c1 := hI.c1, lg0 := hI.lg0
    fresh := fun t z e => by
      obtain ⟨b, c, el, h1, h2, h3, h4⟩ := hI.fresh t z e
      exact ⟨b, c, el, h1, h2, (hoth b (hcells b _ _ _ h3)).trans h3, h4⟩
    apart := hI.apart }

end
end Go.Ev

/- Code that ranges over functions. -/
namespace Go.Ev

section
variable {P : Program} {globs : Nat → Option (List PVal)} {call : CallF} {C0 C1 : Nat → Nat} {g0 g1 g g' : Gh} {w0 w1 w w' : World} {m m' : Mem} {f : FEnv} {tmps : Array Value} {L n nn : Nat}

def codeOkM (P : Program) (n : Nat) : Code → MCode → Bool
  | .rangeFunc fo ps a b, .rangeFunc fd qs x y => opdOk fo fd && (ps.toList == qs) && qs.all (fun t => Nat.blt t n) && codeOk P n a x && codeOk P n b y
  | .seq a b, .seq x y => codeOkM P n a x && codeOkM P n b y
  | .cond c a b, .cond d x y => opdOk c d && codeOkM P n a x && codeOkM P n b y
  | .block i a, .block j x => i.beq j && codeOkM P n a x
  | c, mc => codeOk P n c mc

theorem rem_repl (l : List (Nat × MObj)) (id : Nat) (o : MObj) : Mem.rem (Mem.repl l id o) id = Mem.rem l id := by
  induction l with
  | nil => rfl
  | cons x l ih =>
    obtain ⟨s, v⟩ := x
    simp only [Mem.repl]
    cases hb : s.beq id with
    | true => simp only [cond_true, Mem.rem, hb]
    | false => simp only [cond_false, Mem.rem, hb]; rw [ih]
theorem del_set (m : Mem) (id : Nat) (o : MObj) : (m.set id o).del id = m.del id := by
  unfold Mem.set Mem.del
  simp only
  rw [rem_repl]

theorem unitVR {g : Gh} : VR g (.tuple []) undef := .tuple rfl fun i c h => by simp at h

/-- A loop is entered. -/
theorem enter_step {e : Env} {rec : Loop} {qs : List Nat} {asg body : MCode} (hn : e.ok) (hw : WI g w m) (he : EnvF g e.get tmps) (ht : rec.tmps = tmps) (hps : rec.params.toList = qs) (hlt : ∀ t, t ∈ qs → t < tmps.size)
    (hRa : g.R rec.assign asg tmps.size) (hRb : g.R rec.body body tmps.size) (hst : rec.state = .ready ∧ rec.pending = none) (hu : (MObj.loop (loopEnv e) qs asg body 0 none).under (m.next + 1) = true) :
    Step (fun _ => 0) g w m (.yield m.next) (m.push (.loop (loopEnv e) qs asg body 0 none)) (g.app (w.heap.size + 1) 0) ((w.alloc (.deferred (some []))).alloc (.loop rec)) (.func (.yield (w.heap.size + 1)) #[] #[]) := by
  have h1 := step_lies (r := .tuple []) (v := undef) hw (Lies.alloc w (.deferred (some [])) (by simp)) unitVR trivial (fun _ => rfl)
  have hs : (w.alloc (.deferred (some []))).heap.size = w.heap.size + 1 := World.size_alloc _ _
  have h2 := step_pushLoop (g := g) (w := w.alloc (.deferred (some []))) (m := m) (env := loopEnv e) (ps := qs) (asg := asg) (body := body) (st := 0) (pend := none) (rec := rec) (r := .yield m.next) (v := .func (.yield (w.heap.size + 1)) #[] #[]) h1.wi
    ⟨rec, World.alloc_heap_new _ _, hps, by rw [ht]; exact hlt, by rw [ht]; exact hRa, by rw [ht]; exact hRb, hn.sublist (loopEnv_sub e), fun t q hm => by
      obtain ⟨p, h1, h2, rfl⟩ := loopEnv_mem hm
      obtain ⟨v, hv, hvr, _⟩ := he.get t p (mem_get hn h1)
      exact ⟨by rw [nz_fresh]; exact h2, PVal.nz_nz p, v, by rw [ht]; exact hv, hvr.nz⟩, fun _ => hst, fun h => by simp at h⟩ hu
    (by
      refine .yield ?_
      show (g.φ ++ [(w.alloc (.deferred (some []))).heap.size])[m.next]? = _
      rw [← hw.len, List.getElem?_append_right (Nat.le_refl _), hs]; simp)
    (fun _ => trivial) (fun _ => rfl)
  have h3 := h1.trans hw h2 fun b => Nat.le_refl _
  rw [hs] at h3
  exact h3

/-- The code behind which the state is s', by the exit x, in a function's own frame. -/
theorem code_okM {N : Nat} (hm : P.follows .mixedOrders = true) (hcalls : CallOk P (Good P) globs call) (hy : YieldOk P (Good P) globs call) (hfy : OnlyFY call) : ∀ (mc : MCode) (c : Code), codeOkM P n c mc = true → ClonesOk P (clonesOf mc) →
    ∀ {s s' : MSt} {x : MExit} {Q : Exit → Act → World → Prop} {C0 : Nat → Nat} {g0 : Gh} {w0 : World} {g : Gh} {w : World} {a : Act}, evCode globs call L mc s = some (x, s') → s.env.ok → Inv C0 g0 w0 s.env.get s.mem g w a.tmps → a.tmps.size = n →
      g0.R = Good P → GlobOk globs g0 → N ≤ w0.heap.size → Marks N C0 g0 w0 a.defers →
      (∀ (C1 : Nat → Nat) (g1 : Gh) (w1 : World) (a' : Act) (g' : Gh) (w' : World), a'.tmps.size = a.tmps.size → Pre C0 g0 w0 C1 g1 w1 → GlobOk globs g1 → Inv C1 g1 w1 s'.env.get s'.mem g' w' a'.tmps → N ≤ w1.heap.size → Marks N C1 g1 w1 a'.defers → Q (exitOf x) a' w') →
      c.wpIn (fen none) nn P Q a w := by
  have preRefl : ∀ {C0 : Nat → Nat} {g0 : Gh} {w0 : World} {f : FEnv} {m : Mem} {g : Gh} {w : World} {t : Array Value}, Inv C0 g0 w0 f m g w t → (∀ b, w0.heap.size ≤ b → C0 b ≤ 1) → Pre C0 g0 w0 C0 g0 w0 := fun hI h1 => {
    size := Nat.le_refl _, φ := ⟨[], by simp, fun b h => by simp at h⟩, lgle := fun b row e => ⟨row, e, List.prefix_refl _⟩, bs := fun _ _ _ => rfl
    claims := fun b _ => Nat.le_refl _, claims' := h1
    keepLg := fun _ _ e _ => e, keepBlk := fun _ _ _ _ => rfl, fz := .refl _, R := rfl, keepNone := fun _ _ e _ => e, os := ⟨rfl, rfl, rfl⟩ }
  -- code that ranges over nothing
  have leaf : ∀ (mc : MCode) (c : Code), codeOk P n c mc = true → ClonesOk P (clonesOf mc) →
      ∀ {s s' : MSt} {x : MExit} {Q : Exit → Act → World → Prop} {C0 : Nat → Nat} {g0 : Gh} {w0 : World} {g : Gh} {w : World} {a : Act}, evCode globs call L mc s = some (x, s') → s.env.ok → Inv C0 g0 w0 s.env.get s.mem g w a.tmps → a.tmps.size = n →
        g0.R = Good P → GlobOk globs g0 → N ≤ w0.heap.size → Marks N C0 g0 w0 a.defers →
        (∀ (C1 : Nat → Nat) (g1 : Gh) (w1 : World) (a' : Act) (g' : Gh) (w' : World), a'.tmps.size = a.tmps.size → Pre C0 g0 w0 C1 g1 w1 → GlobOk globs g1 → Inv C1 g1 w1 s'.env.get s'.mem g' w' a'.tmps → N ≤ w1.heap.size → Marks N C1 g1 w1 a'.defers → Q (exitOf x) a' w') →
        c.wpIn (fen none) nn P Q a w := by
    intro mc c hok hcl s s' x Q C0 g0 w0 g w a h hn hI hsz hR hg hN hM hQ
    have hctx : CtxR P globs call g0 := ⟨hg, by rw [hR]; exact hcalls, by rw [hR]; exact hy, hfy⟩
    refine code_okIn (ro := none) (nn := nn) (n := n) (L := L) hm hctx mc c hok hcl h hn hI hsz fun a' g' w' hs hd hI' => ?_
    exact hQ C0 g0 w0 a' g' w' hs (preRefl hI fun b _ => hI.c1 b) hg hI' hN (by rw [hd]; exact hM)
  intro mc
  induction mc with
  | seq p q ihp ihq =>
    intro c hok hcl s s' x Q C0 g0 w0 g w a h hn hI hsz hR hg hN hM hQ
    cases c <;> first | exact leaf _ _ hok hcl h hn hI hsz hR hg hN hM hQ | skip
    simp only [codeOkM, Bool.and_eq_true] at hok
    simp only [evCode, Option.bind_eq_some_iff] at h
    obtain ⟨⟨y, s1⟩, h1, h2⟩ := h
    have hn1 := code_envA _ _ _ _ h1 hn
    refine wpIn_seq (ihp _ hok.1 (fun e he => hcl e (List.mem_append_left _ he)) h1 hn hI hsz hR hg hN hM ?_)
    cases y with
    | normal =>
      intro C1 g1 w1 a1 g2 w2 hs1 hp1 hg1 hI1 hN1 hM1
      exact ihq _ hok.2 (fun e he => hcl e (List.mem_append_right _ he)) h2 hn1 hI1 (hs1.trans hsz) (hp1.R.trans hR) hg1 hN1 hM1 fun C2 g3 w3 a2 g4 w4 hs2 hp2 hg2 hI2 hN2 hM2 =>
        hQ C2 g3 w3 a2 g4 w4 (hs2.trans hs1) (hp1.trans hp2 hI1.c1 hI.lg0) hg2 hI2 hN2 hM2
    | exit i => cases h2; exact hQ
    | ret => cases h2; exact hQ
  | cond d p q ihp ihq =>
    intro c hok hcl s s' x Q C0 g0 w0 g w a h hn hI hsz hR hg hN hM hQ
    cases c <;> first | exact leaf _ _ hok hcl h hn hI hsz hR hg hN hM hQ | skip
    simp only [codeOkM, Bool.and_eq_true] at hok
    simp only [evCode] at h
    split at h
    · rename_i t e he
      obtain ⟨hf, hn1⟩ := opd_f hn he
      obtain ⟨ha, hs, hcla⟩ := fopd_ok (hg.mono hI.le) hI.env hok.1.1 hf
      obtain hval := ha.vr.inv_bool
      have hI1 : Inv C0 g0 w0 e.get s.mem g w a.tmps := (hI.toK.sub (cA' := fun _ => 0) hs fun b => by have := hcla b; omega).toInv
      cases t with
      | true => exact wpIn_cond hval (ihp _ hok.1.2 (fun e he => hcl e (List.mem_append_left _ he)) h hn1 hI1 hsz hR hg hN hM hQ)
      | false => exact wpIn_cond hval (ihq _ hok.2 (fun e he => hcl e (List.mem_append_right _ he)) h hn1 hI1 hsz hR hg hN hM hQ)
    · cases h
  | block id b ih =>
    intro c hok hcl s s' x Q C0 g0 w0 g w a h hn hI hsz hR hg hN hM hQ
    cases c <;> first | exact leaf _ _ hok hcl h hn hI hsz hR hg hN hM hQ | skip
    rename_i id' b'
    simp only [codeOkM, Bool.and_eq_true] at hok
    obtain rfl := Nat.eq_of_beq_eq_true hok.1
    simp only [evCode, Option.map_eq_some_iff] at h
    obtain ⟨⟨y, s1⟩, h1, h2⟩ := h
    refine wpIn_block (ih _ hok.2 hcl h1 hn hI hsz hR hg hN hM ?_)
    cases y with
    | normal => cases h2; exact hQ
    | exit i =>
      simp only at h2
      cases hb : i.beq id' with
      | true =>
        rw [hb] at h2; cases h2
        obtain rfl := Nat.eq_of_beq_eq_true hb
        intro C1 g1 w1 a1 g2 w2 hs1 hp1 hg1 hI1 hN1 hM1
        show (if i = i then _ else _)
        rw [if_pos rfl]
        exact hQ C1 g1 w1 a1 g2 w2 hs1 hp1 hg1 hI1 hN1 hM1
      | false =>
        rw [hb] at h2; cases h2
        have hne : i ≠ id' := fun e => by subst e; simp at hb
        intro C1 g1 w1 a1 g2 w2 hs1 hp1 hg1 hI1 hN1 hM1
        show (if i = id' then _ else _)
        rw [if_neg hne]
        exact hQ C1 g1 w1 a1 g2 w2 hs1 hp1 hg1 hI1 hN1 hM1
    | ret => cases h2; exact hQ
  | rangeFunc fd qs asg body iha ihb =>
    intro c hok hcl s s' x Q C0 g0 w0 g w a h hn hI hsz hR hg hN hM hQ
    cases c <;> first | exact leaf _ _ hok hcl h hn hI hsz hR hg hN hM hQ | skip
    rename_i fo ps ca cb
    simp only [codeOkM, Bool.and_eq_true, beq_iff_eq, List.all_eq_true] at hok
    obtain ⟨⟨⟨⟨hok1, hps⟩, hlt⟩, hok2⟩, hok3⟩ := hok
    simp only [evCode, Option.bind_eq_some_iff] at h
    obtain ⟨⟨pf, e⟩, he, h⟩ := h
    obtain ⟨hchk, hh⟩ := bif_none h
    clear h
    simp only [Bool.or_eq_false_iff, Bool.not_eq_false'] at hchk
    obtain ⟨⟨hisf, hnf⟩, hu⟩ := hchk
    simp only [Option.bind_eq_some_iff] at hh
    obtain ⟨⟨r3, m3⟩, hcall, h⟩ := hh
    obtain ⟨hf, hn1⟩ := opd_f hn he
    obtain ⟨ha, hs, hcla⟩ := fopd_ok (hg.mono hI.le) hI.env hok1 hf
    have hI1 : Inv C0 g0 w0 e.get s.mem g w a.tmps := (hI.toK.sub (cA' := fun _ => 0) hs fun b => by have := hcla b; omega).toInv
    have hRg : g.R = Good P := hI1.pre.R.trans hR
    have hnofresh : ∀ t z, e.get t ≠ some (.fresh z) := fun t z hz => by
      have := env_get_mem hz
      have h2 := List.any_eq_false.1 hnf _ this
      simp [PVal.isFresh] at h2
    cases pf with
    | func fid caps =>
      obtain ⟨cvs, hfv⟩ := ha.vr.inv_func
      have hpv := ha.vr
      rw [hfv] at hpv
      obtain ⟨hen, hcon⟩ := hcalls fid caps _ _ _ _ hcall
      refine wpIn_rangeFunc fun fn _ => ?_
      generalize hrec : ({ state := .ready, pending := none, fn, tmps := a.tmps, params := ps, assign := ca, body := cb, defers := w.heap.size } : Loop) = rec
      have hrun : (Instr.enterLoop fn a.tmps ps ca cb none).run P w = .ok (w.heap.size + 1, [{ target := .collected w.heap.size, args := #[] }]) ((w.alloc (.deferred (some []))).alloc (.loop rec)) := by rw [← hrec]; exact run_enterLoop_outer _ _ _ _ _
      have hent := enter_step (e := e) (rec := rec) (qs := qs) (asg := asg) (body := body) hn1 hI1.wi hI1.env (by rw [← hrec]) (by rw [← hrec]; exact hps) (fun t ht => by
          have := hlt t ht
          rw [Nat.blt_eq] at this
          omega) (by rw [hRg, ← hrec]; exact ⟨by rw [hsz]; exact hok2, fun e he => hcl e (List.mem_append_left _ he)⟩) (by rw [hRg, ← hrec]; exact ⟨by rw [hsz]; exact hok3, fun e he => hcl e (List.mem_append_right _ he)⟩) (by rw [← hrec]; exact ⟨rfl, rfl⟩) hu
      clear hrec
      generalize hW2 : (w.alloc (.deferred (some []))).alloc (.loop rec) = w2 at hrun hent
      have hD2 : w2.heap[w.heap.size]? = some (.deferred (some [])) := by rw [← hW2, alloc_old _ _ (by rw [World.size_alloc]; omega)]; exact World.alloc_heap_new w _
      have hs2 : w2.heap.size = w.heap.size + 2 := by rw [← hW2]; simp
      clear hW2
      generalize hg2 : g.app (w.heap.size + 1) 0 = g2 at hent
      have hφ2 : g2.φ = g.φ ++ [w.heap.size + 1] := by rw [← hg2]; rfl
      have hlg2 : g2.lg = g.lg := by rw [← hg2]; rfl
      clear hg2
      have hb2 : g2.φ[s.mem.next]? = some (w.heap.size + 1) := by rw [hφ2, ← hI1.wi.len, List.getElem?_append_right (Nat.le_refl _)]; simp
      have htot2 : ∀ b, clM g2 w2 (s.mem.push (.loop (loopEnv e) qs asg body 0 none)) b ≤ 1 := fun b => by
        have htt : ∀ b, clM g w s.mem b ≤ 1 := fun b => by have := hI1.pre.total hI1.c1 b; omega
        by_cases hb : b < w.heap.size
        · have := hent.claims b hb; have := htt b; omega
        · have := hent.claims' b (by omega); omega
      have hcalls2 := hcon g2 w2 [.func (.yield (w.heap.size + 1)) #[] #[]] cvs (hent.R.trans hRg) hent.wi ((hg.mono hI1.le).mono hent.le) htot2 (.cons ⟨hent.vr, hent.ok⟩ .nil) (fun b => rfl) (hpv.mono hent.le)
      refine ⟨w.heap.size + 1, [{ target := .collected w.heap.size, args := #[] }], w2, { target := .fn (.func fid) cvs, args := #[.func (.yield (w.heap.size + 1)) #[] #[]] }, w2, fid, #[.func (.yield (w.heap.size + 1)) #[] #[]] ++ cvs, w2, hrun, ?_, fun _ _ => trivial, ?_, fun h => by simp [fen, Fence.wide] at h, ?_⟩
      · simp only [resolve, hfv]
        simp [go_sem]
      · simp [invoke, go_sem, run_callFunc hen]
      · refine (callsIn_fen (ro := none) (nn := nn - 1) hcalls2).mono ?_
        rintro e3 w3 ⟨v3, g3, rfl, hst3⟩
        have hb3 : g3.φ[s.mem.next]? = some (w.heap.size + 1) := hst3.le.φ _ _ hb2
        dsimp only at h
        split at h
        · rename_i env3 ps3 asg3 body3 st3 pend3 hget3
          obtain ⟨b', hb', hlg3, rec3, hheap3, hps3, hlt3, hRa3, hRb3, hnd3, henv3, hls3⟩ := hst3.wi.get hget3
          obtain rfl : w.heap.size + 1 = b' := by rw [hb3] at hb'; exact Option.some.inj hb'
          have hlt3' : w.heap.size + 1 < w3.heap.size := (Array.getElem?_eq_some_iff.1 hheap3).1
          have hjump : ∃ y : MExit, rec3.state ≠ .busy ∧ x = y ∧ s' = ⟨e, m3.del s.mem.next⟩ ∧ rec3.pending = (match y with | .normal => none | .exit i => some (.exit i) | .ret => some .ret) := by
            cases h1 : st3.beq 0 with
            | true =>
              rw [h1] at h
              cases h
              obtain ⟨h4, h5⟩ := hls3.1 (Nat.eq_of_beq_eq_true h1)
              exact ⟨.normal, by rw [h4]; simp, rfl, rfl, h5⟩
            | false =>
              rw [h1] at h
              cases h2 : st3.beq 2 with
              | false => rw [h2] at h; cases h
              | true =>
                rw [h2] at h
                simp only [cond_true, cond_false] at h
                obtain ⟨h4, h5⟩ := hls3.2 (Nat.eq_of_beq_eq_true h2)
                split at h
                · cases h; exact ⟨.ret, by rw [h4]; simp, rfl, rfl, h5⟩
                · rename_i i
                  cases h; exact ⟨.exit i, by rw [h4]; simp, rfl, rfl, h5⟩
                · cases h
          obtain ⟨y, hbusy, rfl, rfl, hpend⟩ := hjump
          refine ⟨rec3.pending, _, run_endLoop hheap3 hbusy, ?_⟩
          -- what lies there now
          have hst4 := step_setLoop (rec' := { rec3 with state := .exhausted }) (st' := 3) (pend' := none) (r := .tuple []) (v := undef) hst3.wi hget3 hb3 ⟨_, World.putObj_heap_same hlt3', hps3, hlt3, hRa3, hRb3, hnd3, henv3, fun h => by simp at h, fun h => by simp at h⟩
            unitVR trivial (fun _ => rfl)
          have hst5 := Step.of_del (Step.pure (ca := fun _ => 0) (r := .tuple []) (v := undef) (hst4.wi.del s.mem.next) unitVR trivial fun _ => Nat.le_refl _)
          rw [del_set] at hst5
          have hst6 := hst4.trans hst3.wi hst5 fun _ => Nat.le_refl _
          have hst7 : Step (fun _ => 0) g2 w2 (s.mem.push (.loop (loopEnv e) qs asg body 0 none)) (.tuple []) (m3.del s.mem.next) g3 (w3.putObj (w.heap.size + 1) (.loop { rec3 with state := .exhausted })) undef := hst3.trans hent.wi hst6 fun _ => Nat.zero_le _
          have hst8 := hent.trans hI1.wi hst7 fun _ => Nat.zero_le _
          generalize w3.putObj (w.heap.size + 1) (.loop { rec3 with state := .exhausted }) = w4 at hst7 hst8
          have hI4 := (hI1.toK.step hst8 fun _ _ => rfl).toInv
          have hI5 := hI4.rebase hnofresh
          have hD4 : w4.heap[w.heap.size]? = some (.deferred (some [])) ∧ clM g3 w4 (m3.del s.mem.next) w.heap.size + clF a.tmps e.get a.tmps.size w.heap.size = 0 ∧ ∀ id : Nat, g3.φ[id]? ≠ some w.heap.size := by
            have hno2 : ∀ id : Nat, g2.φ[id]? ≠ some w.heap.size := fun id hid => by
              rw [hφ2] at hid
              by_cases hl : id < g.φ.length
              · rw [List.getElem?_append_left hl] at hid
                have := hI1.wi.phi id _ hid; omega
              · rw [List.getElem?_append_right (by omega)] at hid
                have := List.mem_of_getElem? hid
                simp at this
            have hlgD : g2.lg w.heap.size = none := by
              cases hl : g2.lg w.heap.size with
              | none => rfl
              | some row => rw [hlg2] at hl; have := hI1.wi.lg_lt hl; omega
            have hc2 : clM g2 w2 (s.mem.push (.loop (loopEnv e) qs asg body 0 none)) w.heap.size = 0 := clM_none hent.wi hlgD
            have hp := hst7.toPre
            have hlgD4 : g3.lg w.heap.size = none := hp.keepNone _ (by omega) hlgD hno2
            refine ⟨(hp.keepBlk _ (by omega) hc2 hno2).trans hD2, ?_, fun id => hp.phi_new (by omega) hno2⟩
            have k1 := clM_none hst7.wi hlgD4
            have k2 : clF a.tmps e.get a.tmps.size w.heap.size = 0 := by
              have : ∀ k, clF a.tmps e.get k w.heap.size = 0 := fun k => by
                induction k with
                | zero => rfl
                | succ k ih =>
                  simp only [clF, ih, clS]
                  cases hek : e.get k with
                  | none => rfl
                  | some p =>
                    obtain ⟨v, hv, hvr, hok⟩ := hI1.env.get k p hek
                    simp only [getD_of hv]
                    have := clV_lt hI1.wi hok (Nat.le_refl w.heap.size)
                    omega
              exact this _
            omega
          have hs4 : w.heap.size < w4.heap.size := by have := hst7.size; omega
          have hM5 : Marks N (fun b => clF a.tmps e.get a.tmps.size b + clM g3 w4 (m3.del s.mem.next) b) g3 w4 ({ target := .collected w.heap.size, args := #[] } :: a.defers) := by
            obtain ⟨Ds, hd1, hd2, hd3⟩ := hM.later hI4.pre
            refine ⟨w.heap.size :: Ds, by rw [hd1]; rfl, List.nodup_cons.2 ⟨fun hmem => ?_, hd2⟩, fun D hD => ?_⟩
            · obtain ⟨Ds0, he0, _, h30⟩ := hM
              have hDs : Ds = Ds0 := by
                have : Ds.map (fun D => ({ target := .collected D, args := #[] } : Deferred)) = Ds0.map (fun D => { target := .collected D, args := #[] }) := hd1.symm.trans he0
                refine (List.map_inj_right (fun x y hxy => ?_)).1 this
                simpa using hxy
              rw [hDs] at hmem
              have := (h30 _ hmem).2.1
              have := hI1.pre.size
              omega
            · rcases List.mem_cons.1 hD with rfl | hD
              · exact ⟨by have := hI1.pre.size; omega, hs4, hD4.1, by have h9 := hD4.2.1; rw [Nat.add_comm] at h9; exact h9, hD4.2.2⟩
              · exact hd3 D hD
          have hp5 : Pre C0 g0 w0 (fun b => clF a.tmps e.get a.tmps.size b + clM g3 w4 (m3.del s.mem.next) b) g3 w4 := hI4.pre
          have hg3 : GlobOk globs g3 := (hg.mono hI1.le).mono hst8.le
          have hq := hQ _ g3 w4 { a with defers := { target := .collected w.heap.size, args := #[] } :: a.defers } g3 w4 rfl hp5 hg3 hI5 (Nat.le_trans hN hp5.size) hM5
          rw [hpend]
          cases x with
          | normal => exact hq
          | exit i => exact wpIn_exit hq
          | ret => exact wpIn_ret hq
        · cases h
    | _ => cases hisf
  | skip => intro c hok; exact leaf _ _ (by cases c <;> first | exact hok | cases hok)
  | region ops conf => intro c hok; exact leaf _ _ (by cases c <;> first | exact hok | cases hok)
  | loop trim b ih => intro c hok; exact leaf _ _ (by cases c <;> first | exact hok | cases hok)
  | exit id => intro c hok; exact leaf _ _ (by cases c <;> first | exact hok | cases hok)
  | ret => intro c hok; exact leaf _ _ (by cases c <;> first | exact hok | cases hok)
  | bad y => intro c hok; exact leaf _ _ (by cases c <;> first | exact hok | cases hok)

end
end Go.Ev

/- A call of the evaluator's stands for a call of the program's. -/
namespace Go.Ev

theorem startEnv_get : ∀ {ps : List PVal} {i t : Nat} {p : PVal}, (startEnv i ps).get t = some p → i ≤ t ∧ ps[t - i]? = some p ∧ p.isFresh = false
  | [], i, t, p, h => by simp [startEnv, Env.get] at h
  | q :: ps, i, t, p, h => by
    have rest : (startEnv (i + 1) ps).get t = some p → i ≤ t ∧ (q :: ps)[t - i]? = some p ∧ p.isFresh = false := fun h => by
      obtain ⟨h1, h2, h3⟩ := startEnv_get h
      refine ⟨by omega, ?_, h3⟩
      rw [show t - i = (t - (i + 1)) + 1 by omega, List.getElem?_cons_succ]; exact h2
    simp only [startEnv] at h
    cases hf : q.isFresh with
    | true => rw [hf] at h; exact rest h
    | false =>
      rw [hf] at h
      simp only [cond_false, Env.get] at h
      cases hb : i.beq t with
      | true =>
        obtain rfl := Nat.eq_of_beq_eq_true hb
        simp only [Nat.beq_refl, cond_true, Option.some.injEq] at h
        subst h
        exact ⟨Nat.le_refl _, by simp, hf⟩
      | false => rw [hb] at h; exact rest h

theorem startEnv_keys : ∀ {ps : List PVal} {i : Nat}, ∀ s, s ∈ (startEnv i ps).map (·.1) → i ≤ s
  | [], i, s, h => by simp [startEnv] at h
  | q :: ps, i, s, h => by
    simp only [startEnv] at h
    cases hf : q.isFresh with
    | true => rw [hf] at h; have := startEnv_keys s h; omega
    | false =>
      rw [hf] at h
      simp only [cond_false, List.map_cons, List.mem_cons] at h
      rcases h with rfl | h
      · exact Nat.le_refl _
      · have := startEnv_keys s h; omega

theorem startEnv_ok : ∀ {ps : List PVal} {i : Nat}, (startEnv i ps).ok
  | [], i => by simp [startEnv, Env.ok]
  | q :: ps, i => by
    simp only [startEnv]
    cases hf : q.isFresh with
    | true => exact startEnv_ok
    | false =>
      unfold Env.ok
      simp only [cond_false, List.map_cons, List.nodup_cons]
      exact ⟨fun h => by have := startEnv_keys _ h; omega, startEnv_ok⟩

section
variable {P : Program} {n n' : Nat}

theorem dstLt_mono {d : Option Nat} (h : dstLt n d = true) (hn : n ≤ n') : dstLt n' d = true := by
  cases d with
  | none => rfl
  | some t =>
    have : t < n := by simpa [dstLt] using h
    have : t < n' := by omega
    simpa [dstLt] using this

theorem opersOk_mono {ops : Array Oper} (hn : n ≤ n') : ∀ {os : List Oper} {mos : List MOper}, opersOk P n ops os mos = true → opersOk P n' ops os mos = true
  | [], [], _ => rfl
  | [], _ :: _, h => by simp [opersOk] at h
  | _ :: _, [], h => by simp [opersOk] at h
  | o :: os, mo :: mos, h => by
    simp only [opersOk, operOk, Bool.and_eq_true] at h ⊢
    exact ⟨⟨⟨⟨⟨h.1.1.1.1.1, dstLt_mono h.1.1.1.1.2 hn⟩, h.1.1.1.2⟩, h.1.1.2⟩, h.1.2⟩, opersOk_mono hn h.2⟩

theorem codeOk_mono (hn : n ≤ n') : ∀ (mc : MCode) (c : Code), codeOk P n c mc = true → codeOk P n' c mc = true := by
  intro mc
  induction mc with
  | region ops conf =>
    intro c h
    cases c <;> first | cases h | skip
    simp only [codeOk, regionOk, Bool.and_eq_true] at h ⊢
    exact ⟨opersOk_mono hn h.1, h.2⟩
  | seq a b iha ihb =>
    intro c h
    cases c <;> first | cases h | skip
    simp only [codeOk, Bool.and_eq_true] at h ⊢
    exact ⟨iha _ h.1, ihb _ h.2⟩
  | cond d a b iha ihb =>
    intro c h
    cases c <;> first | cases h | skip
    simp only [codeOk, Bool.and_eq_true] at h ⊢
    exact ⟨⟨h.1.1, iha _ h.1.2⟩, ihb _ h.2⟩
  | block id b ih =>
    intro c h
    cases c <;> first | cases h | skip
    simp only [codeOk, Bool.and_eq_true] at h ⊢
    exact ⟨h.1, ih _ h.2⟩
  | loop t b ih =>
    intro c h
    cases c <;> first | cases h | skip
    exact ih _ h
  | bad y => intro c h; cases c <;> rfl
  | _ => intro c h; cases c <;> first | exact h | cases h

theorem codeOkM_mono (hn : n ≤ n') : ∀ (mc : MCode) (c : Code), codeOkM P n c mc = true → codeOkM P n' c mc = true := by
  intro mc
  induction mc with
  | seq a b iha ihb =>
    intro c h
    cases c <;> first | exact codeOk_mono hn _ _ h | skip
    simp only [codeOkM, Bool.and_eq_true] at h ⊢
    exact ⟨iha _ h.1, ihb _ h.2⟩
  | cond d a b iha ihb =>
    intro c h
    cases c <;> first | exact codeOk_mono hn _ _ h | skip
    simp only [codeOkM, Bool.and_eq_true] at h ⊢
    exact ⟨⟨h.1.1, iha _ h.1.2⟩, ihb _ h.2⟩
  | block id b ih =>
    intro c h
    cases c <;> first | exact codeOk_mono hn _ _ h | skip
    simp only [codeOkM, Bool.and_eq_true] at h ⊢
    exact ⟨h.1, ih _ h.2⟩
  | rangeFunc f ps a b iha ihb =>
    intro c h
    cases c <;> first | exact codeOk_mono hn _ _ h | skip
    simp only [codeOkM, Bool.and_eq_true, List.all_eq_true] at h ⊢
    refine ⟨⟨⟨h.1.1.1, fun t ht => ?_⟩, codeOk_mono hn _ _ h.1.2⟩, codeOk_mono hn _ _ h.2⟩
    have := h.1.1.2 t ht
    rw [Nat.blt_eq] at this ⊢
    omega
  | _ => intro c h; cases c <;> exact codeOk_mono hn _ _ h

end

def fnOkM (P : Program) (f : Nat) (fn : MFunc) : Bool :=
  match P.funcs[f]? with
  | some x => (match x.body with | some c => Nat.ble (x.params.size + x.nfree) x.ntmps && codeOkM P x.ntmps c fn.body && resOk P x.results.toList fn.results | none => false)
  | none => false

/-- What one of the given externals must be. -/
def ExtOk (P : Program) (globs : Nat → Option (List PVal)) (f : Nat) (h : List PVal → Mem → Option (PVal × Mem)) : Prop :=
  Enters P f ∧ ∀ (ps : List PVal) (m : Mem) (r : PVal) (m' : Mem), h ps m = some (r, m') →
    ∀ (g : Gh) (w : World) (vs : List Value), g.R = Good P → WI g w m → GlobOk globs g → (∀ b, clM g w m b ≤ 1) → Args g ps vs → (∀ b, clA ps vs b = 0) →
      Calls P f vs.toArray w fun e w' => ∃ v g', e = .returned v ∧ Step (fun _ => 0) g w m r m' g' w' v

structure TabOk (P : Program) (globs : Nat → Option (List PVal)) (tab : Nat → Option MFunc) (ext : Nat → Option (List PVal → Mem → Option (PVal × Mem))) : Prop where
  mixed : P.follows .mixedOrders = true
  fns : ∀ f fn, tab f = some fn → fnOkM P f fn = true ∧ Enters P f ∧ ClonesOk P (clonesOf fn.body)
  exts : ∀ f h, ext f = some h → ExtOk P globs f h

theorem args_caps {g : Gh} {f : Nat} {caps : List PVal} {cvs : Array Value} (h : VR g (.func f caps) (.func (.func f) #[] cvs)) : Args g (caps.map PVal.nz0) cvs.toList ∧ ∀ b, clA (caps.map PVal.nz0) cvs.toList b = 0 := by
  cases h with
  | func hl hc hv =>
    have key : ∀ (caps : List PVal) (vs : List Value), caps.length = vs.length → (∀ (i : Nat) c, caps[i]? = some c → c.isCap = true ∧ VR g c (vs.getD i undef)) → Args g (caps.map PVal.nz0) vs ∧ ∀ b, clA (caps.map PVal.nz0) vs b = 0 := by
      intro caps
      induction caps with
      | nil =>
        intro vs hl _
        obtain rfl : vs = [] := List.eq_nil_of_length_eq_zero hl.symm
        exact ⟨.nil, fun _ => rfl⟩
      | cons c caps ih =>
        intro vs hl h
        cases vs with
        | nil => simp at hl
        | cons v vs =>
          obtain ⟨hcap, hvr⟩ := h 0 c rfl
          have hvr : VR g c v := by simpa using hvr
          obtain ⟨h1, h2⟩ := ih vs (by simpa using hl) fun i x e => by simpa using h (i + 1) x (by simpa using e)
          have e1 : c.nz0 = c.nz1 := by cases c <;> first | rfl | simp [PVal.isCap] at hcap
          refine ⟨.cons ⟨hvr.nz0, by rw [e1]; exact OwnOk_nz1 _ _ _⟩ h1, fun b => ?_⟩
          simp only [List.map_cons, clA]
          rw [e1, clV_nz1, h2]
    exact key caps cvs.toList (by simpa using hl) fun i c e => ⟨hc i c e, by simpa using hv i c e⟩

theorem Args.append {g : Gh} {ps qs : List PVal} {vs us : List Value} (h : Args g ps vs) (h' : Args g qs us) : Args g (ps ++ qs) (vs ++ us) ∧ ∀ b, clA (ps ++ qs) (vs ++ us) b = clA ps vs b + clA qs us b := by
  induction h with
  | nil => exact ⟨h', fun b => by simp [clA]⟩
  | cons h1 _ ih => exact ⟨.cons h1 ih.1, fun b => by simp only [List.cons_append, clA]; rw [ih.2]; omega⟩

theorem clA_get : ∀ {ps : List PVal} {vs : List Value} {i : Nat} {p : PVal} {v : Value} {b : Nat}, clA ps vs b = 0 → ps[i]? = some p → vs[i]? = some v → clV p v b = 0
  | [], _, i, p, v, b, _, h, _ => by simp at h
  | _ :: _, [], i, p, v, b, _, _, h => by simp at h
  | q :: ps, u :: vs, 0, p, v, b, h0, h, h' => by
    simp only [List.getElem?_cons_zero, Option.some.injEq] at h h'
    subst h h'
    simp only [clA] at h0; omega
  | q :: ps, u :: vs, i + 1, p, v, b, h0, h, h' => by
    simp only [clA] at h0
    exact clA_get (ps := ps) (vs := vs) (i := i) (by omega) (by simpa using h) (by simpa using h')

/-- Where a body begins. -/
theorem inv_start {g : Gh} {w : World} {m : Mem} {ps : List PVal} {vs : List Value} {k : Nat} (hw : WI g w m) (h1 : ∀ b, clM g w m b ≤ 1) (ha : Args g ps vs) (hz : ∀ b, clA ps vs b = 0) :
    Inv (clM g w m) g w (startEnv 0 ps).get m g w (vs.toArray ++ Array.replicate k undef) := by
  have hget : ∀ t p, (startEnv 0 ps).get t = some p → p.isFresh = false ∧ ∃ v, (vs.toArray ++ Array.replicate k undef)[t]? = some v ∧ Arg g p v ∧ ∀ b, clV p v b = 0 := fun t p e => by
    obtain ⟨_, h2, h3⟩ := startEnv_get e
    rw [Nat.sub_zero] at h2
    obtain ⟨v, hv, harg⟩ := ha.get.2 t p h2
    refine ⟨h3, v, ?_, harg, fun b => clA_get (hz b) h2 hv⟩
    have hlt := (List.getElem?_eq_some_iff.1 hv).1
    rw [Array.getElem?_append_left (by simpa using hlt)]
    simpa using hv
  have hcl : ∀ b n, clF (vs.toArray ++ Array.replicate k undef) (startEnv 0 ps).get n b = 0 := fun b n => by
    induction n with
    | zero => rfl
    | succ n ih =>
      simp only [clF, ih, clS]
      cases he : (startEnv 0 ps).get n with
      | none => rfl
      | some p =>
        obtain ⟨_, v, hv, _, hc⟩ := hget n p he
        simp only [getD_of hv, hc]
  refine ⟨hw, ⟨fun t p e => ?_⟩, {
    size := Nat.le_refl _, φ := ⟨[], by simp, fun b h => by simp at h⟩, lgle := fun b row e => ⟨row, e, List.prefix_refl _⟩, bs := fun _ _ _ => rfl
    claims := fun b _ => by rw [hcl]; omega
    claims' := fun b hb => by rw [hcl, clM_lt hw hb]; omega
    keepLg := fun _ _ e _ => e, keepBlk := fun _ _ _ _ => rfl, fz := .refl _, R := (by first | rfl | exact h.R | exact h'.R.trans h.R), keepNone := fun _ _ e _ => e, os := ⟨rfl, rfl, rfl⟩ }, h1, fun b row e => hw.lg_lt e, fun t z e => ?_, fun t _ z _ _ e => ?_⟩
  · obtain ⟨_, v, hv, harg, _⟩ := hget t p e
    exact ⟨v, hv, harg.vr, harg.ok⟩
  · have := (hget t _ e).1; simp [PVal.isFresh] at this
  · have := (hget t _ e).1; simp [PVal.isFresh] at this

section
variable {P : Program} {globs : Nat → Option (List PVal)} {tab : Nat → Option MFunc} {ext : Nat → Option (List PVal → Mem → Option (PVal × Mem))} {L : Nat}

theorem only_fy (k : Nat) : OnlyFY (evFn globs tab ext L k) := by
  intro fv ps m r h
  cases k with
  | zero => simp [evFn] at h
  | succ k =>
    cases fv with
    | func f caps => exact .inl ⟨f, caps, rfl⟩
    | yield l => exact .inr ⟨l, rfl⟩
    | _ => simp [evFn] at h

theorem fnOk_spec {f : Nat} {fn : MFunc} (h : fnOkM P f fn = true) : ∃ x c, P.funcs[f]? = some x ∧ x.body = some c ∧ codeOkM P x.ntmps c fn.body = true ∧ resOk P x.results.toList fn.results = true := by
  unfold fnOkM at h
  split at h
  · rename_i x hx
    split at h
    · rename_i c hc
      simp only [Bool.and_eq_true] at h
      exact ⟨x, c, hx, hc, h.1.2, h.2⟩
    · cases h
  · cases h

/-- The marks are come to, one by one. -/
theorem leaves_marks {fn : Func} {R : Ending → World → Prop} {nn : Nat} {C0 : Nat → Nat} {g0 g : Gh} {w0 : World} {f : FEnv} {m : Mem} {tmps : Array Value} : ∀ (Ds : List Nat) (w : World), Inv C0 g0 w0 f m g w tmps → Ds.Nodup → (∀ D, D ∈ Ds → w0.heap.size ≤ D ∧ w.heap[D]? = some (.deferred (some [])) ∧ ∀ id : Nat, g.φ[id]? ≠ some D) →
    (∀ w', Inv C0 g0 w0 f m g w' tmps → ∃ v, (results fn tmps).run P w' = .ok v w' ∧ R (.returned v) w') → LeavesInM (fen none) nn P fn tmps R (Ds.map fun D => { target := .collected D, args := #[] }) .returning w
  | [], w, hI, _, _, h => h w hI
  | D :: Ds, w, hI, hn, hD, h => by
    rw [List.nodup_cons] at hn
    obtain ⟨h1, h2, h3⟩ := hD D List.mem_cons_self
    refine ⟨by simp, .inl ⟨D, _, rfl, run_takeDeferred h2, ?_⟩⟩
    refine leaves_marks Ds _ (hI.touch h1 h2 (by simp) (by simp) h3) hn.2 (fun E hE => ?_) h
    obtain ⟨a, b, c⟩ := hD E (List.mem_cons_of_mem _ hE)
    exact ⟨a, by rw [World.putObj_heap_other (fun e => by subst e; exact hn.1 hE)]; exact b, c⟩

theorem evFn_ok (ht : TabOk P globs tab ext) : ∀ k, CallOk P (Good P) globs (evFn globs tab ext L k) ∧ YieldOk P (Good P) globs (evFn globs tab ext L k) := by
  intro k
  induction k with
  | zero => exact ⟨fun f caps ps m r m' h => by simp [evFn] at h, fun id ps m r m' h => by simp [evFn] at h⟩
  | succ k ih =>
    refine ⟨fun f caps ps m r m' h => ?_, fun id ps m r m' h g w vs b hR hw hg h1 ha hz hb => yield_ok (call := evFn globs tab ext L k) ht.mixed ih.1 ih.2 (only_fy k) h hR hw hg h1 ha hz hb⟩
    simp only [evFn] at h
    split at h
    · rename_i e he
      obtain ⟨hen, hx⟩ := ht.exts f e he
      refine ⟨hen, fun g w vs cvs hR hw hg h1 ha hz hf => ?_⟩
      obtain ⟨hca, hcz⟩ := args_caps hf
      obtain ⟨hap, hapz⟩ := ha.append hca
      have := hx _ _ _ _ h g w _ hR hw hg h1 hap fun b => by rw [hapz, hz, hcz]
      have e : (vs ++ cvs.toList).toArray = vs.toArray ++ cvs := by apply Array.ext'; simp
      rwa [e] at this
    · split at h
      · rename_i fn hfn
        obtain ⟨hok, hen, hcl⟩ := ht.fns f fn hfn
        refine ⟨hen, fun g w vs cvs hR hw hg h1 ha hz hf => ?_⟩
        obtain ⟨hca, hcz⟩ := args_caps hf
        obtain ⟨hap, hapz⟩ := ha.append hca
        obtain ⟨x, c, hx, hb, hco, hro⟩ := fnOk_spec hok
        simp only [Option.bind_eq_some_iff] at h
        obtain ⟨⟨ex, s'⟩, hev, hfin⟩ := h
        have e : vs.toArray ++ cvs = (vs ++ cvs.toList).toArray := by apply Array.ext'; simp
        rw [e]
        refine (callsIn_wide (n := 0)).1 (show CallsIn (fen none) 0 P f _ w _ from ?_)
        refine callsIn_of_wp_marks hx hb trivial ?_ rfl
        have hI := inv_start (k := x.ntmps - (vs ++ cvs.toList).toArray.size) hw h1 hap fun b => by rw [hapz, hz, hcz]
        have hsz : x.ntmps ≤ ((vs ++ cvs.toList).toArray ++ Array.replicate (x.ntmps - (vs ++ cvs.toList).toArray.size) undef).size := by
          rw [Array.size_append, Array.size_replicate]; omega
        have hco' := codeOkM_mono hsz _ _ hco
        have hn' := code_envA fn.body _ _ _ hev startEnv_ok
        refine code_okM (N := w.heap.size) (Q := bodyPostM (fen none) 0 P x _) ht.mixed ih.1 ih.2 (only_fy k) fn.body c hco' hcl hev startEnv_ok hI rfl hR hg (Nat.le_refl _) ⟨[], rfl, List.nodup_nil, fun D hD => by cases hD⟩ ?_
        intro C1 g1 w1 a' g' w' _ hp _ hI1 hN hM
        have hI' := hI1.onto hp hI.c1 hI.lg0
        obtain ⟨Ds, hd1, hd2, hd3⟩ := hM.later hI1.pre
        have key : finish fn m.next s' = some (r, m') → LeavesInM (fen none) 0 P x a'.tmps (fun e w' => ∃ v g', e = Ending.returned v ∧ Step (fun _ => 0) g w m r m' g' w' v) a'.defers .returning w' := fun hfin => by
          rw [hd1]
          refine leaves_marks (C0 := clM g w m) (g0 := g) (w0 := w) (f := s'.env.get) (m := s'.mem) (g := g') Ds w' hI' hd2 (fun D hD => ⟨(hd3 D hD).1, (hd3 D hD).2.2.1, (hd3 D hD).2.2.2.2⟩) fun w2 hI2 => ?_
          obtain ⟨v, g2, hres, hst⟩ := finish_ok hI2 hn' hro (by rw [← hw.len]; exact Nat.le_refl _) hfin
          exact ⟨v, hres, v, g2, rfl, hst⟩
        cases ex with
        | normal => exact key hfin
        | exit i => cases hfin
        | ret => exact key hfin
      · cases h

end
end Go.Ev

