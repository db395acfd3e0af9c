/- One of the texts that the proof of the law rests on: it has no condition of its own. -/
import Derived.Test.YtjfbcoheihcngaaGreatDoorAl
import Derived.Test.YtjfbcoheihcngaaGreatDoorEvF
import Derived.Test.YtjfbcoheihcngaaGreatDoorProg
import Derived.WalkKit
import Derived.ProofKit
import Derived.RangeFuncOwn
import Derived.RangeFuncCalls
import Derived.RangeFuncLeaves
import Derived.Laws.IdiomRangeMap
import Derived.LoopNIn
namespace Go.Ev.N4
open Go.Ev Go.RowKit Go.Proofs

set_option maxRecDepth 100000
set_option maxHeartbeats 2000000
theorem len_zero (w : World) : Calls Tryz.prog 187 #[.int .u64 0] w fun e w' => e = .returned (.int .i64 0) ∧ w' = w := by
  refine (callsIn_wide (n := 1)).1 (callsIn_of_wp Tryz.func187 rfl trivial ?_)
  simp only [Tryz.ntmps187, List.size_toArray, List.length_cons, List.length_nil, Nat.reduceAdd, Nat.reduceSub, Array.replicate_succ, Array.replicate_zero, List.push_toArray, List.append_toArray, List.nil_append, List.cons_append]
  gi_wp2
  go_ret
  exact ⟨by kernel_rfl, rfl⟩

theorem run_next_empty {P : Program} (w : World) (ty : TypeId) (bm : Nat) (hb : w.heap[bm]? = some (.map #[] 0)) :
    (Instr.next (.pointer (some ⟨w.heap.size, 0, none⟩)) false ty).run P (w.alloc (.mapIter (some bm) 0 #[] 0)) = .ok (.tuple #[.bool false]) (w.alloc (.mapIter (some bm) 0 #[] 0)) := by
  rcases run_next_map (P := P) w ty bm 0 0 #[] #[] 0 hb (by simp) (Nat.le_refl _) with h | ⟨e, he, _⟩
  · exact h.2
  · simp [leftOf] at he

theorem deck_nil (a : Option Addr) (cap : Nat) (w : World) : Calls Tryz.prog 42 #[.slice a 0 cap] w fun e w' => e = .returned .nilIface ∧ w' = (w.alloc (.map #[] 0)).alloc (.mapIter (some w.heap.size) 0 #[] 0) := by
  refine (callsIn_wide (n := 1)).1 (callsIn_of_wp Tryz.func42 rfl trivial ?_)
  simp only [Tryz.ntmps42, List.size_toArray, List.length_cons, List.length_nil, Nat.reduceAdd, Nat.reduceSub, Array.replicate_succ, Array.replicate_zero, List.push_toArray, List.append_toArray, List.nil_append, List.cons_append]
  have hmk : (Instr.makeMap 135 none).run Tryz.prog w = .ok (.map (some w.heap.size)) (w.alloc (.map #[] 0)) := run_makeMap 135 w
  have hb : (w.alloc (.map #[] 0)).heap[w.heap.size]? = some (.map #[] 0) := heap_alloc_new w _
  have hrg := run_range_map (P := Tryz.prog) (w.alloc (.map #[] 0)) 135 3 3 w.heap.size #[] 0 Tryz.underlying135 hb
  have hnx := fun ty => run_next_empty (P := Tryz.prog) (w.alloc (.map #[] 0)) ty w.heap.size hb
  simp only [World.size_alloc] at hnx
  gi_wp2
  refine wpIn_loop_rounds 1 ?_
  rw [roundsIn_succ]
  gi_wp2
  refine wpIn_loop_rounds 1 ?_
  rw [roundsIn_succ]
  gi_wp2
  go_ret
  exact ⟨rfl, rfl⟩

/-- Values of nothing never yields. -/
theorem values_nil (l B off : Nat) (a : Option Addr) (cap : Nat) (W : World) (hc : W.cell? ⟨B, off, none⟩ = some (.slice a 0 cap)) (n : Nat) :
    CallsIn Fence.wide n Tryz.prog 139 #[.func (.yield l) #[] #[], .pointer (some ⟨B, off, none⟩)] W fun e W' => (∃ v, e = .returned v) ∧ W' = W := by
  refine callsIn_of_wp Tryz.func139 rfl trivial ?_
  simp only [Tryz.ntmps139, List.size_toArray, List.length_cons, List.length_nil, Nat.reduceAdd, Nat.reduceSub, Array.replicate_succ, Array.replicate_zero, List.push_toArray, List.append_toArray, List.nil_append, List.cons_append]
  gi_wp2
  refine wpIn_loop_rounds 1 ?_
  rw [roundsIn_succ]
  gi_wp2
  go_end0
  exact ⟨⟨_, rfl⟩, rfl⟩

theorem e139 : ∀ args w, (callFunc 139 args).run Tryz.prog w = .ok (.enter 139 args) w := fun args w => run_callFunc (enters_of (by kernel_rfl))

/-- Nothing that lay there has turned. -/
structure Lies (w w' : World) : Prop where
  size : w.heap.size ≤ w'.heap.size
  same : ∀ k, k < w.heap.size → w'.heap[k]? = w.heap[k]?
  fz : SameFz w w'
  os : w'.os = w.os ∧ w'.output = w.output ∧ w'.tape = w.tape

theorem Lies.refl (w : World) : Lies w w := ⟨Nat.le_refl _, fun _ _ => rfl, SameFz.refl w, rfl, rfl, rfl⟩
theorem Lies.trans {a b c : World} (h : Lies a b) (h' : Lies b c) : Lies a c :=
  ⟨Nat.le_trans h.size h'.size, fun k hk => (h'.same k (Nat.lt_of_lt_of_le hk h.size)).trans (h.same k hk), h.fz.trans h'.fz h.size, h'.os.1.trans h.os.1, h'.os.2.1.trans h.os.2.1, h'.os.2.2.trans h.os.2.2⟩
theorem Lies.alloc (w : World) (o : Obj) (ho : ∀ c e f, o = .cells c e f → f = (0, 0)) : Lies w (w.alloc o) where
  size := by simp
  same := fun k hk => heap_alloc_old w o hk
  fz := fun b c e f hc => by
    by_cases hb : b < w.heap.size
    · rw [heap_alloc_old w o hb] at hc; exact .inl ⟨c, hc⟩
    · by_cases hb' : b = w.heap.size
      · subst hb'
        rw [heap_alloc_new] at hc
        exact .inr ⟨Nat.le_refl _, ho c e f (Option.some.inj hc)⟩
      · rw [Array.getElem?_eq_none (by simp; omega)] at hc; cases hc
  os := ⟨rfl, rfl, rfl⟩
theorem Lies.put {w W : World} (h : Lies w W) {k : Nat} (hk : w.heap.size ≤ k) (o : Obj) (ho : ∀ c e f, o ≠ .cells c e f) : Lies w (W.putObj k o) where
  size := by simp; exact h.size
  same := fun j hj => (World.putObj_heap_other (by omega)).trans (h.same j hj)
  fz := fun b c e f hc => by
    by_cases hb : b = k
    · subst hb
      by_cases hlt : b < W.heap.size
      · rw [World.putObj_heap_same hlt] at hc
        exact absurd (Option.some.inj hc) (ho c e f)
      · rw [Array.getElem?_eq_none (by simp; omega)] at hc; cases hc
    · rw [World.putObj_heap_other hb] at hc; exact h.fz b c e f hc
  os := h.os

theorem enter_any {P : Program} (fn : FuncId) (tmps : Array Value) (ps : Array Tmp) (sa bo : Code) (W : World) : ∃ r : Loop, r.state = .ready ∧ r.pending = none ∧
    (Instr.enterLoop fn tmps ps sa bo none).run P W = .ok (W.heap.size + 1, [{ target := .collected W.heap.size, args := #[] }]) ((W.alloc (.deferred (some []))).alloc (.loop r)) := ⟨_, rfl, rfl, run_enterLoop_outer _ _ _ _ _⟩

/-- A range over a function that never yields. -/
theorem range_none {P : Program} {m : Nat} {g : Operand} {ps : Array Tmp} {sa bo : Code} {Q : Exit → Act → World → Prop} {a : Act} {w : World} {gf : Nat} {lb : Array Value}
    (hg : a.eval g = .func (.func gf) #[] lb) (eg : ∀ args w, (callFunc gf args).run P w = .ok (.enter gf args) w)
    (hcall : ∀ l W, Lies w W → CallsIn Fence.wide m P gf (#[.func (.yield l) #[] #[]] ++ lb) W fun e W' => (∃ v, e = .returned v) ∧ W' = W)
    (hQ : ∀ D W, Lies w W → w.heap.size ≤ D → W.heap[D]? = some (.deferred (some [])) → Q .normal { a with defers := { target := .collected D, args := #[] } :: a.defers } W) :
    (Code.rangeFunc g ps sa bo).wpIn Fence.wide (m + 1) P Q a w := by
  refine wpIn_rangeFunc ?_
  intro fn hfn
  obtain ⟨r, hr1, hr2, hrun⟩ := enter_any (P := P) fn a.tmps ps sa bo w
  have hl1 : Lies w ((w.alloc (.deferred (some []))).alloc (.loop r)) := (Lies.alloc w _ (by simp)).trans (Lies.alloc _ _ (by simp))
  have hL : ((w.alloc (.deferred (some []))).alloc (.loop r)).heap[w.heap.size + 1]? = some (.loop r) := by
    have := World.alloc_heap_new (w.alloc (.deferred (some []))) (.loop r); rwa [World.size_alloc] at this
  have hD : ((w.alloc (.deferred (some []))).alloc (.loop r)).heap[w.heap.size]? = some (.deferred (some [])) := (Below.heap_alloc _ _ _ (by simp)).trans (World.alloc_heap_new w _)
  refine ⟨_, _, _, { target := .fn (.func gf) lb, args := #[.func (.yield (w.heap.size + 1)) #[] #[]] }, (w.alloc (.deferred (some []))).alloc (.loop r), gf, #[.func (.yield (w.heap.size + 1)) #[] #[]] ++ lb, (w.alloc (.deferred (some []))).alloc (.loop r), hrun, ?_, ?_, ?_, fun _ => by omega, ?_⟩
  · simp only [resolve, hg]
    simp [go_sem]
  · intro f' hf'; trivial
  · simp [invoke, go_sem, eg]
  · refine (hcall _ _ hl1).mono ?_
    rintro e W' ⟨⟨v, rfl⟩, rfl⟩
    refine ⟨r.pending, _, run_endLoop hL (by rw [hr1]; simp), ?_⟩
    rw [hr2]
    exact hQ _ _ (hl1.put (by omega) _ (by simp)) (Nat.le_refl _) ((World.putObj_heap_other (by omega)).trans hD)

/-- AppendSeq of nothing. -/
theorem append_nil (B off : Nat) (a a' : Option Addr) (cap cap' : Nat) (w : World) (hc : w.cell? ⟨B, off, none⟩ = some (.slice a 0 cap)) :
    Calls Tryz.prog 164 #[.slice a' 0 cap', .func (.func 139) #[] #[.pointer (some ⟨B, off, none⟩)]] w fun e w' => e = .returned (.slice a' 0 cap') ∧ Lies w w' := by
  refine (callsIn_wide (n := 2)).1 (callsIn_of_wp_marks Tryz.func164 rfl trivial ?_)
  simp only [Tryz.ntmps164, List.size_toArray, List.length_cons, List.length_nil, Nat.reduceAdd, Nat.reduceSub, Array.replicate_succ, Array.replicate_zero, List.push_toArray, List.append_toArray, List.nil_append, List.cons_append]
  have hb : B < w.heap.size := by
    unfold World.cell? at hc
    split at hc
    · rename_i h; exact (Array.getElem?_eq_some_iff.1 h).1
    · cases hc
  gi_wp2
  have hl0 : Lies w (w.alloc (.cells #[.slice a' 0 cap'] 41)) := Lies.alloc w _ (fun c e f h => by cases h; rfl)
  have hv0 : (w.alloc (.cells #[.slice a' 0 cap'] 41)).heap[w.heap.size]? = some (.cells #[.slice a' 0 cap'] 41 (0, 0)) := World.alloc_heap_new w _
  refine range_none (gf := 139) (lb := #[.pointer (some ⟨B, off, none⟩)]) rfl e139 (fun l W hW => values_nil l B off a cap W ?_ _) fun D W hW hD hdD => ?_
  · have : W.heap[B]? = w.heap[B]? := (hW.same B (by simp; omega)).trans (hl0.same B hb)
    unfold World.cell? at hc ⊢
    simp only at hc ⊢
    rw [this]; exact hc
  · have hvW : W.heap[w.heap.size]? = some (.cells #[.slice a' 0 cap'] 41 (0, 0)) := (hW.same _ (by simp)).trans hv0
    have hcW : W.cell? ⟨w.heap.size, 0, none⟩ = some (.slice a' 0 cap') := by simp [World.cell?, hvW]
    gi_wp2
    refine ⟨by simp, .inl ⟨_, _, rfl, run_takeDeferred hdD, ?_⟩⟩
    exact ⟨_, results_tmp rfl _ _ _, rfl, (hl0.trans hW).put (Nat.le_trans hl0.size hD) _ (by simp)⟩

theorem step_lies {g : Gh} {w w' : World} {m : Mem} {r : PVal} {v : Value} (hw : WI g w m) (h : Lies w w') (hr : VR g r v) (ho : OwnOk g r v) (hz : ∀ b, clV r v b = 0) : Step (fun _ => 0) g w m r m g w' v := by
  have hcl : ∀ b, clM g w' m b = clM g w m b := fun b => clMs_congr' (fun id o hi => by
    obtain ⟨k, hk, _, _⟩ := hw.obj id o hi
    have hlt := hw.phi id k hk
    have : g.φ.getD id 0 = k := by simp [List.getD, hk]
    unfold heapCells
    rw [this, h.same k hlt]) b
  exact {
    wi := {
      lg := fun b row e => by
        have hlt := hw.lg_lt e
        rw [h.same b hlt]; exact hw.lg b row e
      len := hw.len, sorted := hw.sorted, bound := hw.bound
      obj := fun id o hi => by
        obtain ⟨b, h1, h2, h3⟩ := hw.obj id o hi
        exact ⟨b, h1, h2, h3.mono (Gh.Le.refl g) (h.same b h3.lt) fun _ _ h _ => h⟩
      inj := hw.inj, scope := hw.scope
      phi := fun id b e => Nat.lt_of_lt_of_le (hw.phi id b e) h.size
      bsz := fun id b e c el fz hc => hw.bsz id b e c el fz (by rw [← h.same b (hw.phi id b e)]; exact hc) }
    vr := hr, ok := ho, size := h.size, φ := ⟨[], by simp, fun b h => by simp at h⟩
    lgle := fun b row e => ⟨row, e, List.prefix_refl _⟩, bs := fun _ _ _ => rfl
    claims := fun b _ => by rw [hz, hcl]; exact Nat.le_refl _
    claims' := fun b hb => by rw [hz, hcl, clM_lt hw hb]; omega
    keepLg := fun _ _ e _ => e, keepBlk := fun b hb _ _ => h.same b hb, fresh := h.fz, keepNone := fun _ _ e _ => e, os := h.os }

theorem slice0_inv {g : Gh} {c : Cap} {v : Value} (h : VR g (.slice [] c) v) : ∃ a cap, v = .slice a 0 cap := by
  cases h with
  | slice0 _ => exact ⟨_, _, rfl⟩
  | slice sz vs hne => exact absurd rfl hne

theorem ext42_ok : ExtOk Tryz.prog gl 42 ext42 := by
  refine ⟨enters_of (by kernel_rfl), fun ps m r m' h g w vs hw hg h1 ha hz => ?_⟩
  unfold ext42 at h
  split at h
  · cases h
    cases ha with
    | cons h1 h2 =>
      cases h2
      obtain ⟨a, cap, rfl⟩ := slice0_inv h1.vr
      refine Calls.mono (show Calls Tryz.prog 42 #[.slice a 0 cap] w _ from deck_nil a cap w) fun e w' ⟨he, hw'⟩ => ?_
      subst he hw'
      exact ⟨_, g, rfl, step_lies hw ((Lies.alloc w _ (by simp)).trans (Lies.alloc _ _ (by simp))) .niliface trivial fun b => rfl⟩
  · cases h

theorem ext187_ok : ExtOk Tryz.prog gl 187 ext187 := by
  refine ⟨enters_of (by kernel_rfl), fun ps m r m' h g w vs hw hg h1 ha hz => ?_⟩
  unfold ext187 at h
  split at h
  · rename_i n
    cases hn : n == 0 with
    | false => rw [hn] at h; cases h
    | true =>
      rw [hn] at h
      cases h
      have hn : n = 0 := by simpa using hn
      subst hn
      cases ha with
      | cons h1 h2 =>
        cases h2
        cases h1.vr
        refine Calls.mono (show Calls Tryz.prog 187 #[.int .u64 0] w _ from len_zero w) fun e w' ⟨he, hw'⟩ => ?_
        subst he hw'
        exact ⟨_, g, rfl, step_lies hw (Lies.refl _) (.int _ _) trivial fun b => rfl⟩
  · cases h

theorem one_of {α : Type} {us : Array α} (h : us.size = 1) : ∃ u, us = #[u] := by
  obtain ⟨l⟩ := us
  match l, h with
  | [u], _ => exact ⟨u, rfl⟩

theorem ext164_ok : ExtOk Tryz.prog gl 164 ext164 := by
  refine ⟨enters_of (by kernel_rfl), fun ps m r m' h g w vs hw hg h1 ha hz => ?_⟩
  unfold ext164 at h
  split at h
  · rename_i cp id off
    split at h
    · rename_i cs hget
      split at h
      · rename_i cq hcs
        cases h
        cases ha with
        | cons h1 h2 =>
          cases h2 with
          | cons h2 h3 =>
            cases h3
            obtain ⟨a', cap', rfl⟩ := slice0_inv h1.vr
            obtain ⟨b, hb, hl, c, el, hc, hlen, hcell⟩ := hw.get hget
            obtain ⟨_, v, hv, hvr, _⟩ := hcell off _ hcs
            obtain ⟨a, cap, rfl⟩ := slice0_inv hvr
            have hf := h2.vr
            cases hf with
            | @func _ _ us hl2 hcap hvs =>
              have hs : us.size = 1 := by simpa using hl2.symm
              have h0 := hvs 0 _ rfl
              obtain ⟨u, rfl⟩ : ∃ u, us = #[u] := one_of hs
              simp at h0
              cases h0 with
              | ptr hb' =>
                rw [hb] at hb'
                cases hb'
                refine Calls.mono (show Calls Tryz.prog 164 #[.slice a' 0 cap', .func (.func 139) #[] #[.pointer (some ⟨b, off, none⟩)]] w _ from append_nil b off a a' cap cap' w (by rw [cell_of_heap hc]; exact hv)) fun e w' ⟨he, hw'⟩ => ?_
                subst he
                exact ⟨_, g, rfl, step_lies hw hw' (.slice0 (by simp)) trivial fun b => rfl⟩
      · cases h
    · cases h
  · cases h

theorem exts_ok : ∀ f h, ext f = some h → ExtOk Tryz.prog gl f h := by
  intro f h e
  unfold ext at e
  cases h1 : f.beq 42 with
  | true =>
    rw [h1] at e; cases e
    obtain rfl := Nat.eq_of_beq_eq_true h1
    exact ext42_ok
  | false =>
    rw [h1] at e
    cases h2 : f.beq 164 with
    | true =>
      rw [h2] at e; cases e
      obtain rfl := Nat.eq_of_beq_eq_true h2
      exact ext164_ok
    | false =>
      rw [h2] at e
      cases h3 : f.beq 187 with
      | true =>
        rw [h3] at e; cases e
        obtain rfl := Nat.eq_of_beq_eq_true h3
        exact ext187_ok
      | false => rw [h3] at e; cases e

end Go.Ev.N4

