/- A library of this claim: rules that lead a call of a Go function to a formula over the heap alone, and laws on lists, maps and slices in the heap. No conditions. -/
import Derived.Test.YtobbagjpngkpkaaVcRows
namespace Go.VC

def predsOf (o : Oper) : List Nat := (o.after.toList.filter (Region.binds .any)).map (·.on)

/-- what an operation looks at: its operands' slots, and its guard's -/
def looks (ops : List Oper) (o : Oper) : List Nat :=
  o.op.operands.toList.filterMap (fun | .tmp t => some t | _ => none) ++ (match o.guard with
    | some (j, _) => match (ops[j]?).bind (·.dst) with
      | some t => [t]
      | none => []
    | none => [])

def dstAt (ops : List Oper) (t : Nat) : Option Nat := ops.findIdx? fun o => o.dst == some t

structure Cert where
  pre : List (List Nat)
  loud : List Bool

def Cert.p (c : Cert) (i : Nat) : List Nat := c.pre.getD i []
def Cert.l (c : Cert) (i : Nat) : Bool := c.loud.getD i false

def certOk (ops : List Oper) (c : Cert) : Bool :=
  ops.zipIdx.all fun (o, i) =>
    (predsOf o).all (fun e => Nat.blt e i) &&
    ((c.p i).all fun x => (predsOf o).contains x || (predsOf o).any fun e => (c.p e).contains x) &&
    ((looks ops o).all fun t => match dstAt ops t with
      | some j => (c.p i).contains j
      | none => true) &&
    (match o.dst with
      | some t => dstAt ops t == some i
      | none => true) &&
    (match o.op with | .select .. => false | _ => true)

def fvs : List Oper → List Value → Fr → Fr
  | o :: os, v :: vs, f => fvs os vs (fputO f o.dst v)
  | _, _, f => f

def openQ (c : Cert) (n : Nat) (S : List Nat) : List Nat :=
  (List.range n).filter fun i => !c.l i && ((c.p i).all fun x => !c.l x || S.contains x) && S.all fun l => !(c.p l).contains i
def readyL (c : Cert) (n : Nat) (S : List Nat) : List Nat :=
  (List.range n).filter fun i => c.l i && !S.contains i && (c.p i).all fun x => !c.l x || S.contains x
def detQ (c : Cert) (S : List Nat) (j : Nat) : Bool := ((c.p j).all fun x => !c.l x || S.contains x) && (!c.l j || S.contains j)

section
variable (P : Program) (ops : List Oper) (c : Cert) (f : Fr) (K : Fr → Heap → Prop)

def stepAt (i : Nat) (F : Fr) (h : Heap) (next : Value → Heap → Prop) : Prop :=
  match ops[i]? with
  | none => False
  | some o => ∃ b, guardOk ops F o.guard = some b ∧ (b = true → opH P o.op o.type F next h) ∧ (b = false → next undef h)

def quietOb (S : List Nat) (vals : List Value) (h : Heap) : Prop :=
  ∀ i ∈ openQ c ops.length S, stepAt P ops i (fvs ops vals f) h fun v h' => v = vals.getD i undef ∧ h' = h

def Plan : Nat → List Nat → List Value → Heap → Prop
  | 0, S, vals, h => vals.length = ops.length ∧ quietOb P ops c f S vals h ∧ readyL c ops.length S = [] ∧ K (fvs ops vals f) h
  | m + 1, S, vals, h => vals.length = ops.length ∧ quietOb P ops c f S vals h ∧ (readyL c ops.length S = [] → K (fvs ops vals f) h) ∧
    ∀ l ∈ readyL c ops.length S, stepAt P ops l (fvs ops vals f) h fun v h' => ∃ vals', vals'.getD l undef = v ∧
      (∀ j < ops.length, detQ c S j = true → vals'.getD j undef = vals.getD j undef) ∧ Plan m (l :: S) vals' h'
end

section
variable {P : Program} {n : Nat} {ops : List Oper} {c : Cert} {f : Fr} {K : Fr → Heap → Prop} {Q : Post} {h : Heap}

theorem certOk_at (hc : certOk ops c = true) {i : Nat} {o : Oper} (ho : ops[i]? = some o) :
    (∀ e ∈ predsOf o, e < i) ∧ (∀ x ∈ c.p i, x ∈ predsOf o ∨ ∃ e ∈ predsOf o, x ∈ c.p e) ∧
    (∀ t ∈ looks ops o, ∀ j, dstAt ops t = some j → j ∈ c.p i) ∧ (∀ t, o.dst = some t → dstAt ops t = some i) ∧ (∀ cs b, o.op ≠ .select cs b) := by
  unfold certOk at hc
  have hmem : (o, i) ∈ ops.zipIdx := by
    rw [List.mk_mem_zipIdx_iff_getElem?]; exact ho
  have := List.all_eq_true.1 hc (o, i) hmem
  simp only [Bool.and_eq_true] at this
  obtain ⟨⟨⟨⟨h1, h2⟩, h3⟩, h4⟩, h5⟩ := this
  refine ⟨?_, ?_, ?_, ?_, ?_⟩
  · intro e he; have := List.all_eq_true.1 h1 e he; simpa using this
  · intro x hx
    have := List.all_eq_true.1 h2 x hx
    simpa using this
  · intro t ht j hj
    have := List.all_eq_true.1 h3 t ht
    rw [hj] at this
    simpa using this
  · intro t ht
    rw [ht] at h4
    simpa using h4
  · intro cs b hsel
    rw [hsel] at h5
    simp at h5

theorem fvs_get : ∀ (os : List Oper) (vs : List Value) (f : Fr) (t : Nat), vs.length = os.length → (∀ i o t, os[i]? = some o → o.dst = some t → dstAt os t = some i) →
    fvs os vs f t = match dstAt os t with | some j => vs.getD j undef | none => f t := by
  intro os
  induction os with
  | nil => intro vs f t _ _; cases vs <;> rfl
  | cons o os ih =>
    intro vs f t hl hd
    cases vs with
    | nil => simp at hl
    | cons v vs =>
      have hl' : vs.length = os.length := by simpa using hl
      have hd' : ∀ i o' t, os[i]? = some o' → o'.dst = some t → dstAt os t = some i := by
        intro i o' t ho' ht
        have := hd (i + 1) o' t (by simpa using ho') ht
        unfold dstAt at this ⊢
        rw [List.findIdx?_cons] at this
        split at this
        · simp at this
        · simpa using this
      simp only [fvs]
      rw [ih vs _ t hl' hd']
      have hh := hd 0 o
      unfold dstAt at hh ⊢
      rw [List.findIdx?_cons]
      by_cases hot : o.dst = some t
      · simp only [hot, beq_self_eq_true, if_true]
        have h0 : os.findIdx? (fun o => o.dst == some t) = none := by
          cases hq : os.findIdx? (fun o => o.dst == some t) with
          | none => rfl
          | some j =>
            exfalso
            obtain ⟨hj, hjt, -⟩ := List.findIdx?_eq_some_iff_getElem.1 hq
            have hjt' : os[j].dst = some t := by simpa using hjt
            have := hd (j + 1) os[j] t (by simp [hj]) hjt'
            unfold dstAt at this
            rw [List.findIdx?_cons] at this
            simp [hot] at this
        rw [h0]
        simp [fputO, fput]
      · have hbf : (o.dst == some t) = false := by simpa using hot
        simp only [hbf, Bool.false_eq_true, if_false]
        cases hq : os.findIdx? (fun o => o.dst == some t) with
        | none =>
          simp only [Option.map_none]
          cases hod : o.dst with
          | none => rfl
          | some d =>
            have hne : ¬ t = d := fun e => hot (by rw [hod, e])
            simp [fputO, fput, beq_false_of hne]
        | some j => simp

structure Inv (P : Program) (n : Nat) (ops : List Oper) (c : Cert) (f : Fr) (K : Fr → Heap → Prop) (listed : Array Bool) (S : List Nat) (m : Nat) (vals : List Value) (f' : Fr) (h : Heap) : Prop where
  size : listed.size = ops.length
  closed : ∀ i o, ops[i]? = some o → listed.getD i false = true → ∀ e ∈ predsOf o, listed.getD e false = true
  loud : ∀ l, l < ops.length → c.l l = true → (l ∈ S ↔ listed.getD l false = true)
  small : ∀ l ∈ S, l < ops.length ∧ c.l l = true
  frame : ∀ t, f' t = match dstAt ops t with | some j => if listed.getD j false = true then vals.getD j undef else f t | none => f t
  plan : Plan P ops c f K m S vals h

theorem cert_closed (hc : certOk ops c = true) {listed : Array Bool} (hsz : listed.size = ops.length) (hcl : ∀ i o, ops[i]? = some o → listed.getD i false = true → ∀ e ∈ predsOf o, listed.getD e false = true) :
    ∀ i, listed.getD i false = true → ∀ x ∈ c.p i, listed.getD x false = true := by
  intro i
  induction i using Nat.strongRecOn with
  | _ i ih =>
    intro hi x hx
    have hlt : i < ops.length := by
      rcases Nat.lt_or_ge i ops.length with h | h
      · exact h
      · rw [Array.getD_eq_getD_getElem?, Array.getElem?_eq_none (by omega)] at hi; simp at hi
    have ho : ops[i]? = some ops[i] := List.getElem?_eq_getElem hlt
    obtain ⟨h1, h2, -⟩ := certOk_at hc ho
    rcases h2 x hx with h | ⟨e, he, hxe⟩
    · exact hcl i _ ho hi x h
    · exact ih e (h1 e he) (hcl i _ ho hi e he) x hxe

theorem opH_congr {op : Op} {ty : TypeId} {F F' : Fr} {N : Value → Heap → Prop} (hs : ∀ cs b, op ≠ .select cs b) (he : ∀ x ∈ op.operands, ev F x = ev F' x) (H : opH P op ty F' N h) : opH P op ty F N h := by
  intro w hw
  rw [execOp_congr (bareOp op ty) hs he]
  exact H w hw

theorem guardOk_congr {F F' : Fr} {g : Option (Nat × Bool)} (he : ∀ j b, g = some (j, b) → ∀ t, (ops[j]?).bind (·.dst) = some t → F t = F' t) : guardOk ops F g = guardOk ops F' g := by
  cases g with
  | none => rfl
  | some jb =>
    obtain ⟨j, b⟩ := jb
    simp only [guardOk]
    cases ht : (ops[j]?).bind (·.dst) with
    | none => rfl
    | some t => simp only [he j b rfl t ht]

theorem game (hc : certOk ops c = true) (hd : ∀ x ∈ ops, dstOk n x.dst = true) {Q' : Exit → Act → World → Prop} {w0 : World} (hQ : ∀ a w f', Same w0 w → Rel n a f' → K f' w.heap → Q' .normal a w) :
    ∀ (fuel : Nat) (listed : Array Bool) (S : List Nat) (m : Nat) (vals : List Value) (f' : Fr) (a : Act) (w : World), Same w0 w → Rel n a f' → Inv P n ops c f K listed S m vals f' w.heap →
      fuel ≥ ((List.range ops.length).filter fun i => !listed.getD i false).length → wpAny P .any ops.toArray Q' fuel listed a w := by
  have hdist : ∀ i o t, ops[i]? = some o → o.dst = some t → dstAt ops t = some i := fun i o t ho ht => (certOk_at hc ho).2.2.2.1 t ht
  -- at the end
  have hend : ∀ (listed : Array Bool) (S : List Nat) (m : Nat) (vals : List Value) (f' : Fr) (a : Act) (w : World), Same w0 w → Rel n a f' → Inv P n ops c f K listed S m vals f' w.heap →
      Region.ready .any ops.toArray listed = [] → Q' .normal a w := by
    intro listed S m vals f' a w hs r I hr
    have hall : ∀ i, i < ops.length → listed.getD i false = true := by
      intro i
      induction i using Nat.strongRecOn with
      | _ i ih =>
        intro hi
        cases hl : listed.getD i false with
        | true => rfl
        | false =>
          exfalso
          have ho : ops[i]? = some ops[i] := List.getElem?_eq_getElem hi
          have hmem : i ∈ Region.ready .any ops.toArray listed := by
            rw [mem_ready]
            have hlt : i < listed.size := by rw [I.size]; exact hi
            refine ⟨?_, ops[i], by simp, fun e he hb => ?_⟩
            · rw [Array.getD_eq_getD_getElem?, Array.getElem?_eq_getElem hlt] at hl ⊢; simpa using hl
            · have hp : e.on ∈ predsOf ops[i] := List.mem_map.2 ⟨e, List.mem_filter.2 ⟨by simpa using he, hb⟩, rfl⟩
              have hei := (certOk_at hc ho).1 _ hp
              exact ih _ hei (by omega)
          rw [hr] at hmem; cases hmem
    have hrl : readyL c ops.length S = [] := by
      unfold readyL
      rw [List.filter_eq_nil_iff]
      intro i hi
      rw [List.mem_range] at hi
      simp only [Bool.and_eq_true, Bool.not_eq_true', not_and]
      intro ⟨h1, h2⟩
      have := (I.loud i hi h1).2 (hall i hi)
      simp [this] at h2
    have hlen : vals.length = ops.length := by have := I.plan; cases m <;> exact this.1
    have hf : f' = fvs ops vals f := by
      funext t
      rw [I.frame t, fvs_get ops vals f t hlen hdist]
      cases hj : dstAt ops t with
      | none => rfl
      | some j =>
        have hjlt : j < ops.length := by
          unfold dstAt at hj; exact (List.findIdx?_eq_some_iff_getElem.1 hj).1
        simp [hall j hjlt]
    have hK : K f' w.heap := by
      rw [hf]
      have hp := I.plan
      cases m with
      | zero => exact hp.2.2.2
      | succ m => exact hp.2.2.1 hrl
    exact hQ a w f' hs r hK
  intro fuel
  induction fuel with
  | zero =>
    intro listed S m vals f' a w hs r I hfu
    have hz : (List.range ops.length).filter (fun i => !listed.getD i false) = [] := List.length_eq_zero_iff.1 (by omega)
    have hr : Region.ready .any ops.toArray listed = [] := by
      apply List.eq_nil_iff_forall_not_mem.2
      intro i hi
      obtain ⟨h1, o, ho, -⟩ := mem_ready.1 hi
      have hlt : i < ops.length := by
        have := (Array.getElem?_eq_some_iff.1 ho).1; simpa using this
      have := List.filter_eq_nil_iff.1 hz i (List.mem_range.2 hlt)
      have hls : i < listed.size := by rw [I.size]; exact hlt
      rw [Array.getD_eq_getD_getElem?, Array.getElem?_eq_getElem hls] at h1 this
      simp at h1 this
      rw [h1] at this; cases this
    exact ⟨hr, hend listed S m vals f' a w hs r I hr⟩
  | succ fuel ih =>
    intro listed S m vals f' a w hs r I hfu
    refine ⟨fun hr => hend listed S m vals f' a w hs r I hr, fun i hi => ?_⟩
    obtain ⟨h1, o, ho, hpre⟩ := mem_ready.1 hi
    have ho' : ops[i]? = some o := by simpa using ho
    have hlt : i < ops.length := (List.getElem?_eq_some_iff.1 ho').1
    have hmemo : o ∈ ops := List.mem_of_getElem? ho'
    have hls : i < listed.size := by rw [I.size]; exact hlt
    have hif : listed.getD i false = false := by
      rw [Array.getD_eq_getD_getElem?, Array.getElem?_eq_getElem hls] at h1 ⊢; simpa using h1
    have hpd : ∀ e ∈ predsOf o, listed.getD e false = true := by
      intro e he
      obtain ⟨ed, hed, rfl⟩ := List.mem_map.1 he
      obtain ⟨h2, h3⟩ := List.mem_filter.1 hed
      exact hpre ed (by simpa using h2) h3
    obtain ⟨c1, c2, c3, c4, c5⟩ := certOk_at hc ho'
    have hcl := cert_closed hc I.size I.closed
    have hcp : ∀ x ∈ c.p i, listed.getD x false = true := by
      intro x hx
      rcases c2 x hx with h | ⟨e, he, hxe⟩
      · exact hpd x h
      · exact hcl e (hpd e he) x hxe
    have hlen : vals.length = ops.length := by have := I.plan; cases m <;> exact this.1
    -- the frames agree on what the operation looks at
    have hagree : ∀ t ∈ looks ops o, f' t = fvs ops vals f t := by
      intro t ht
      rw [I.frame t, fvs_get ops vals f t hlen hdist]
      cases hj : dstAt ops t with
      | none => rfl
      | some j => simp [hcp j (c3 t ht j hj)]
    have hguard : guardOk ops f' o.guard = guardOk ops (fvs ops vals f) o.guard := by
      refine guardOk_congr (fun j b hg t ht => hagree t ?_)
      unfold looks
      rw [hg]
      simp [ht]
    have hops : ∀ x ∈ o.op.operands, ev f' x = ev (fvs ops vals f) x := by
      intro x hx
      cases x with
      | tmp t =>
        refine hagree t ?_
        unfold looks
        refine List.mem_append_left _ (List.mem_filterMap.2 ⟨.tmp t, by simpa using hx, rfl⟩)
      | _ => rfl
    -- the state behind it
    have hsz' : (listed.setIfInBounds i true).size = ops.length := by rw [Array.size_setIfInBounds]; exact I.size
    have hget : ∀ j, (listed.setIfInBounds i true).getD j false = if j = i then true else listed.getD j false := by
      intro j
      by_cases hji : j = i
      · subst hji
        rw [Array.getD_eq_getD_getElem?, Array.getElem?_setIfInBounds_self_of_lt hls]; simp
      · rw [getD_set_ne false (fun e => hji e.symm)]; simp [hji]
    have hclosed' : ∀ j o', ops[j]? = some o' → (listed.setIfInBounds i true).getD j false = true → ∀ e ∈ predsOf o', (listed.setIfInBounds i true).getD e false = true := by
      intro j o' hj hjl e he
      rw [hget] at hjl ⊢
      by_cases hei : e = i
      · simp [hei]
      · simp only [hei, if_false]
        by_cases hji : j = i
        · subst hji
          rw [ho'] at hj; cases hj
          exact hpd e he
        · simp only [hji, if_false] at hjl
          exact I.closed j o' hj hjl e he
    have hfuel' : fuel ≥ ((List.range ops.length).filter fun j => !(listed.setIfInBounds i true).getD j false).length := by
      have hsub : ((List.range ops.length).filter fun j => !(listed.setIfInBounds i true).getD j false).length < ((List.range ops.length).filter fun j => !listed.getD j false).length := by
        have e1 : ((List.range ops.length).filter fun j => !(listed.setIfInBounds i true).getD j false) = (((List.range ops.length).filter fun j => !listed.getD j false).filter fun j => !(j == i)) := by
          rw [List.filter_filter]
          apply List.filter_congr
          intro j _
          rw [hget]
          by_cases hji : j = i <;> simp [hji]
        rw [e1]
        have hmem : i ∈ (List.range ops.length).filter fun j => !listed.getD j false := List.mem_filter.2 ⟨List.mem_range.2 hlt, by simp [hif]⟩
        have := List.length_filter_lt_length_iff_exists (l := (List.range ops.length).filter fun j => !listed.getD j false) (p := fun j => !(j == i))
        exact this.2 ⟨i, hmem, by simp⟩
      omega
    have hframe' : ∀ (vals' : List Value) (v : Value), vals'.getD i undef = v → (∀ j, listed.getD j false = true → vals'.getD j undef = vals.getD j undef) →
        ∀ t, fputO f' o.dst v t = match dstAt ops t with | some j => if (listed.setIfInBounds i true).getD j false = true then vals'.getD j undef else f t | none => f t := by
      intro vals' v hv hag t
      have hfr := I.frame t
      cases hod : o.dst with
      | none =>
        simp only [fputO]
        rw [hfr]
        cases hj : dstAt ops t with
        | none => rfl
        | some j =>
          simp only [hget]
          have hji : j ≠ i := by
            intro e; subst e
            unfold dstAt at hj
            obtain ⟨hjl, hjt, -⟩ := List.findIdx?_eq_some_iff_getElem.1 hj
            rw [(List.getElem?_eq_some_iff.1 ho').2, hod] at hjt
            simp at hjt
          simp only [hji, if_false]
          split
          · rename_i hl; rw [hag j hl]
          · rfl
      | some d =>
        have hdi := c4 d hod
        simp only [fputO, fput]
        by_cases htd : t = d
        · subst htd
          rw [hdi]
          simp only [hget, if_true]
          rw [hv]
          simp
        · rw [beq_false_of htd, cond_false, hfr]
          cases hj : dstAt ops t with
          | none => rfl
          | some j =>
            simp only [hget]
            have hji : j ≠ i := by
              intro e; subst e
              unfold dstAt at hj
              obtain ⟨hjl, hjt, -⟩ := List.findIdx?_eq_some_iff_getElem.1 hj
              rw [(List.getElem?_eq_some_iff.1 ho').2, hod] at hjt
              simp at hjt
              exact htd hjt.symm
            simp only [hji, if_false]
            split
            · rename_i hl; rw [hag j hl]
            · rfl
    -- what is asked of the operation
    have hstep : ∃ next : Value → Heap → Prop, stepAt P ops i (fvs ops vals f) w.heap next ∧
        ∀ v w', Same w0 w' → next v w'.heap → wpAny P .any ops.toArray Q' fuel (listed.setIfInBounds i true) (a.put o.dst v) w' := by
      cases hli : c.l i with
      | false =>
        have hop : i ∈ openQ c ops.length S := by
          unfold openQ
          refine List.mem_filter.2 ⟨List.mem_range.2 hlt, ?_⟩
          simp only [hli, Bool.not_false, Bool.true_and, Bool.and_eq_true]
          constructor
          · rw [List.all_eq_true]
            intro x hx
            cases hlx : c.l x with
            | false => rfl
            | true =>
              have hxlt : x < ops.length := by
                rcases Nat.lt_or_ge x ops.length with h | h
                · exact h
                · have := hcp x hx; rw [Array.getD_eq_getD_getElem?, Array.getElem?_eq_none (by rw [I.size]; exact h)] at this; simp at this
              have := (I.loud x hxlt hlx).2 (hcp x hx)
              simp [this]
          · rw [List.all_eq_true]
            intro l hl
            obtain ⟨hll, hcl'⟩ := I.small l hl
            have := (I.loud l hll hcl').1 hl
            cases hcon : (c.p l).contains i with
            | false => rfl
            | true =>
              have := hcl l this i (by simpa using hcon)
              rw [hif] at this; cases this
        refine ⟨fun v h' => v = vals.getD i undef ∧ h' = w.heap, ?_, ?_⟩
        · have hq : quietOb P ops c f S vals w.heap := by have := I.plan; cases m <;> exact this.2.1
          exact hq i hop
        · rintro v w' hs' ⟨hv, hh⟩
          refine ih _ S m vals (fputO f' o.dst v) _ w' hs' (r.put (hd o hmemo) v) ⟨hsz', hclosed', ?_, I.small, hframe' vals v hv.symm (fun _ _ => rfl), by rw [hh]; exact I.plan⟩ hfuel'
          intro l hl hll
          rw [hget]
          have hne : l ≠ i := fun e => by rw [e, hli] at hll; cases hll
          simp only [hne, if_false]
          exact I.loud l hl hll
      | true =>
        have hnS : i ∉ S := fun hS => by
          have := (I.loud i hlt hli).1 hS; rw [hif] at this; cases this
        have hrd : i ∈ readyL c ops.length S := by
          unfold readyL
          refine List.mem_filter.2 ⟨List.mem_range.2 hlt, ?_⟩
          simp only [hli, Bool.true_and, Bool.and_eq_true]
          refine ⟨by simpa using hnS, ?_⟩
          rw [List.all_eq_true]
          intro x hx
          cases hlx : c.l x with
          | false => rfl
          | true =>
            have hxlt : x < ops.length := by
              rcases Nat.lt_or_ge x ops.length with h | h
              · exact h
              · have := hcp x hx; rw [Array.getD_eq_getD_getElem?, Array.getElem?_eq_none (by rw [I.size]; exact h)] at this; simp at this
            have := (I.loud x hxlt hlx).2 (hcp x hx)
            simp [this]
        cases m with
        | zero =>
          have := I.plan.2.2.1
          rw [this] at hrd; cases hrd
        | succ m =>
          refine ⟨fun v h' => ∃ vals', vals'.getD i undef = v ∧ (∀ j < ops.length, detQ c S j = true → vals'.getD j undef = vals.getD j undef) ∧ Plan P ops c f K m (i :: S) vals' h', I.plan.2.2.2 i hrd, ?_⟩
          rintro v w' hs' ⟨vals', hv, hag, hplan⟩
          have hag' : ∀ j, listed.getD j false = true → vals'.getD j undef = vals.getD j undef := by
            intro j hj
            have hjlt : j < ops.length := by
              rcases Nat.lt_or_ge j ops.length with h | h
              · exact h
              · rw [Array.getD_eq_getD_getElem?, Array.getElem?_eq_none (by rw [I.size]; exact h)] at hj; simp at hj
            refine hag j hjlt ?_
            unfold detQ
            rw [Bool.and_eq_true]
            constructor
            · rw [List.all_eq_true]
              intro x hx
              cases hlx : c.l x with
              | false => rfl
              | true =>
                have hxl := hcl j hj x hx
                have hxlt : x < ops.length := by
                  rcases Nat.lt_or_ge x ops.length with h | h
                  · exact h
                  · rw [Array.getD_eq_getD_getElem?, Array.getElem?_eq_none (by rw [I.size]; exact h)] at hxl; simp at hxl
                have := (I.loud x hxlt hlx).2 hxl
                simp [this]
            · cases hlj : c.l j with
              | false => rfl
              | true =>
                have := (I.loud j hjlt hlj).2 hj
                simp [this]
          refine ih _ (i :: S) m vals' (fputO f' o.dst v) _ w' hs' (r.put (hd o hmemo) v) ⟨hsz', hclosed', ?_, ?_, hframe' vals' v hv hag', hplan⟩ hfuel'
          · intro l hl hll
            rw [hget]
            by_cases hne : l = i
            · simp [hne]
            · simp only [hne, if_false, List.mem_cons, false_or]
              exact I.loud l hl hll
          · intro l hl
            rcases List.mem_cons.1 hl with rfl | h
            · exact ⟨hlt, hli⟩
            · exact I.small l h
    obtain ⟨next, hst, hnext⟩ := hstep
    unfold stepAt at hst
    rw [ho'] at hst
    obtain ⟨b, hb, ht, hf⟩ := hst
    unfold wpOp
    simp only [List.getElem?_toArray, ho']
    have hw := guardOk_spec r (hguard.trans hb) hd
    cases b with
    | true =>
      rw [hw, if_pos rfl]
      exact .inl ((opH_congr c5 hops (ht rfl)).wp r rfl hs fun v w' hs' hK => hnext v w' hs' hK)
    | false =>
      rw [hw]
      exact hnext undef w hs (hf rfl)

theorem wpf_draw {id : Nat} (c : Cert) (m : Nat) (vals : List Value) (hc : certOk ops c = true) (hd : dstsOk n ops = true) (hm : P.follows .mixedOrders = true)
    (H : Plan P ops c f (Q .normal) m [] vals h) : wpf P n (.region id ops.toArray true) Q f h := by
  intro a w r hw
  refine wp_region_any hm ?_
  have hz : ∀ i, (Array.replicate ops.toArray.size false).getD i false = false := by
    intro i
    rw [Array.getD_eq_getD_getElem?]
    cases hq : (Array.replicate ops.toArray.size false)[i]? with
    | none => rfl
    | some b =>
      have := Array.mem_of_getElem? hq
      rw [Array.mem_replicate] at this
      simp [this.2]
  refine game (P := P) (n := n) (c := c) (f := f) (K := Q .normal) (w0 := w) hc (dstsOk_spec hd) (Q' := fun e a' w' => Same w w' ∧ ∃ f', Rel n a' f' ∧ Q e f' w'.heap) (fun a' w' f' hs r' hK => ⟨hs, f', r', hK⟩)
    ops.toArray.size (Array.replicate ops.toArray.size false) [] m vals f a _ ⟨rfl, rfl, rfl⟩ r ⟨by simp, ?_, ?_, (fun l hl => by cases hl), ?_, by show Plan P ops c f (Q .normal) m [] vals w.heap; rw [hw]; exact H⟩ ?_
  · intro i o _ hi; rw [hz] at hi; cases hi
  · intro l _ _; rw [hz]; simp
  · intro t
    cases dstAt ops t with
    | none => rfl
    | some j => simp only [hz]; rfl
  · have := List.length_filter_le (fun i => !(Array.replicate ops.toArray.size false).getD i false) (List.range ops.length)
    simpa using this

end
end Go.VC
