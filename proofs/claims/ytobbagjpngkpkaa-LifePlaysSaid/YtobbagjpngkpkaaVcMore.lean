/- A library of this claim: rules that lead a call of a Go function to a formula over the heap alone, and laws on lists, maps and slices in the heap. No conditions. -/
import Derived.Test.YtobbagjpngkpkaaVcFn
namespace Go.VC

theorem of_not_true {b : Bool} (h : (!b) = true) : b = false := by cases b <;> simp_all
theorem of_not_false {b : Bool} (h : (!b) = false) : b = true := by cases b <;> simp_all
theorem not_of_false {b : Bool} (h : b = false) : (!b) = true := by rw [h]; rfl

theorem wrap_i64 {n : Int} (h : -9223372036854775808 ≤ n ∧ n < 9223372036854775808) : IntKind.i64.wrap n = n := by
  obtain ⟨h1, h2⟩ := h
  simp only [IntKind.wrap, IntKind.bits, IntKind.signed]
  simp
  omega
theorem wrap_u64 {n : Int} (h1 : 0 ≤ n) (h2 : n < 18446744073709551616) : IntKind.u64.wrap n = n := by
  simp only [IntKind.wrap, IntKind.bits, IntKind.signed]
  simp
  omega

def dInt : Value → Int | .int _ n => n | _ => 0
def dBool : Value → Bool | .bool b => b | _ => false
def dStr : Value → ByteArray | .string s => s | _ => ByteArray.empty
def dPtr : Value → Option Addr | .pointer a => a | _ => none
def dMap : Value → Option Nat | .map a => a | _ => none
def dSlA : Value → Option Addr | .slice a _ _ => a | _ => none
def dSlN : Value → Nat | .slice _ n _ => n | _ => 0
def dSlC : Value → Nat | .slice _ _ c => c | _ => 0
def dArr : Value → List Value | .agg a => a.toList | _ => []
def dAt (v : Value) (i : Nat) : Value := match v with | .agg a => a.toList.getD i undef | _ => undef

/-- append, as it is told: there is room, or a new row is made. -/
def appH (e sz by_ : Nat) (z : Value) (a : Option Addr) (n c m : Nat) (news : List Value) (h : Heap) (K : Option Addr → Nat → Nat → Heap → Prop) : Prop :=
  (n + m ≤ 1099511627776 ∧ (n + m) * by_ ≤ 1099511627776 ∧ by_ ≤ 1048576) ∧
  (n + m ≤ c → (∃ b o h', a = some ⟨b, o, none⟩ ∧ stCells b h (o + n * sz) news = some h' ∧ K a (n + m) c h') ∨ (a = none ∧ K none (n + m) c h)) ∧
  (c < n + m → ∃ olds, firstH h sz n (.slice a n c) = some olds ∧ ∀ cap, n + m ≤ cap → K (some ⟨h.size, 0, none⟩) (n + m) cap (h.push (.cells ((olds ++ news).toArray ++ Builtin.zeroCells z.cells (cap - (n + m))) e (0, 0))))

theorem appH.mono {e sz by_ : Nat} {z : Value} {a : Option Addr} {n c m : Nat} {news : List Value} {h : Heap} {K K' : Option Addr → Nat → Nat → Heap → Prop} (H : appH e sz by_ z a n c m news h K) (hk : ∀ a n c h, K a n c h → K' a n c h) :
    appH e sz by_ z a n c m news h K' := by
  obtain ⟨h1, h2, h3⟩ := H
  refine ⟨h1, fun hr => ?_, fun hg => ?_⟩
  · rcases h2 hr with ⟨b, o, h', e1, e2, e3⟩ | ⟨e1, e2⟩
    · exact .inl ⟨b, o, h', e1, e2, hk _ _ _ _ e3⟩
    · exact .inr ⟨e1, hk _ _ _ _ e2⟩
  · obtain ⟨olds, e1, e2⟩ := h3 hg
    exact ⟨olds, e1, fun cap hc => hk _ _ _ _ (e2 cap hc)⟩

theorem first_fresh {h h1 : Heap} {sz m b : Nat} {cs : Array Value} {t : TypeId} {n c : Nat} {l : List Value} (hh : h1 = h.push (.cells cs t (0, 0))) (hb : b = h.size) (hl : cs.toList = l) (hm : l.length = m * sz) : firstH h1 sz m (.slice (some ⟨b, 0, none⟩) n c) = some l := by
  subst hh hb hl
  simp only [firstH]
  have key : ∀ (k o : Nat), o + k = cs.toList.length → ldCells (h.push (.cells cs t (0, 0))) h.size o k = some (cs.toList.drop o) := by
    intro k
    induction k with
    | zero => intro o ho; simp only [ldCells]; rw [List.drop_eq_nil_of_le (by omega)]
    | succ k ih =>
      intro o ho
      have hlt : o < cs.toList.length := by omega
      have hc : cellH (h.push (.cells cs t (0, 0))) h.size o = some cs.toList[o] := by
        have : o < cs.size := by simpa using hlt
        simp [cellH, this]
      simp only [ldCells, hc, ih (o + 1) (by omega)]
      rw [List.drop_eq_getElem_cons hlt]; rfl
  have := key (m * sz) 0 (by omega)
  simpa using this

/-- an iterator over a map of these entries, of which those have been seen -/
def iterAt {κ : Type} (ek : κ → Value) (h : Heap) (it : Nat) (l : List (ME κ)) (c : Nat) (seen : Array Nat) : Prop :=
  (l = [] ∧ seen = #[] ∧ h[it]? = some (.mapIter none 0 #[] 0)) ∨ ∃ r, h[it]? = some (.mapIter (some r) c seen c) ∧ h[r]? = some (mobj ek l c)

section
variable {P : Program} {f : Fr} {h : Heap} {K : Value → Heap → Prop} {ty : TypeId}

theorem op_makeMap' {t : TypeId} {h1 : Heap} (hh : h1 = h.push (.map #[] 0)) (H : K (.map (some h.size)) h1) : opH P (.makeMap t none) ty f K h := by
  subst hh; exact op_makeMap H
theorem op_makeFunc' {g : FuncId} {ca : List Operand} {cs : List Value} (ha : ca.map (ev f) = cs) (H : K (.func (.func g) #[] cs.toArray) h) : opH P (.makeFunc (.func g) #[] ca.toArray) ty f K h := by
  refine op_makeFunc ?_
  have e1 : ca.toArray.map (ev f) = cs.toArray := by rw [List.map_toArray, ha]
  rw [e1]; simpa using H
theorem op_makeInterface' {t : TypeId} {x : Operand} {v : Value} (ht : P.concrete t = true) (hx : ev f x = v) (H : K (.iface t v) h) : opH P (.makeInterface t x) ty f K h := by
  subst hx; exact op_makeInterface ht H
theorem op_append' {t t' e : TypeId} {x y : Operand} {sz by_ n c m : Nat} {z src : Value} {base : Option Addr} {news : List Value} (hr : rowInfo P t = some (e, sz, by_, z))
    (ht' : (∃ e', P.underlying t' = some (.slice e')) ∨ P.underlying t' = some .string)
    (hx : ev f x = .slice base n c) (hy : ev f y = src) (hm : lenH src = some m) (hn : firstH h sz m src = some news)
    (A : appH e sz by_ z base n c m news h (fun a n c h' => K (.slice a n c) h')) : opH P (.call ⟨.builtin .append, #[x, y], #[t, t']⟩) ty f K h :=
  op_append hr ht' hx hy hm hn A.1.2.1 A.1.1 A.1.2.2 A.2.1 A.2.2
end

section
variable {κ : Type} [DecidableEq κ] {P : Program} {f : Fr} {h : Heap} {K : Value → Heap → Prop} {ty : TypeId} {d : TypeDesc} {ek : κ → Value}
theorem op_lookup' {t kt et : TypeId} {x y : Operand} {m : Option Nat} {l : List (ME κ)} {c : Nat} {n : κ} {z v : Value} (he : KeyEnc d ek) (ht : P.underlying t = some (.map kt et) ∧ P.underlying kt = some d) (hz : zeroOf P et = some z)
    (hx : ev f x = .map m) (hy : ev f y = ek n) (hm : mapAt ek h m l c) (hv : (mlook l n).getD z = v) (H : K v h) : opH P (.lookup t x y false) ty f K h :=
  op_lookup he ht hz hx hy hm (by rw [hv]; exact H)
theorem op_lookup_ok' {t kt et : TypeId} {x y : Operand} {m : Option Nat} {l : List (ME κ)} {c : Nat} {n : κ} {z v : Value} (he : KeyEnc d ek) (ht : P.underlying t = some (.map kt et) ∧ P.underlying kt = some d) (hz : zeroOf P et = some z)
    (hx : ev f x = .map m) (hy : ev f y = ek n) (hm : mapAt ek h m l c) (hv : (mlook l n).getD z = v) (H : K (.tuple #[v, .bool (mlook l n).isSome]) h) : opH P (.lookup t x y true) ty f K h :=
  op_lookup_ok he ht hz hx hy hm (by rw [hv]; exact H)
theorem op_mapUpdate' {t kt et : TypeId} {x y z : Operand} {r : Nat} {l : List (ME κ)} {c : Nat} {n : κ} {v : Value} {h1 : Heap} (he : KeyEnc d ek) (ht : P.underlying t = some (.map kt et) ∧ P.underlying kt = some d)
    (hx : ev f x = .map (some r)) (hy : ev f y = ek n) (hv : ev f z = v) (hm : h[r]? = some (mobj ek l c)) (hh : h1 = h.setIfInBounds r (mobj ek (mput l n v c) (mclk l n c)))
    (H : K undef h1) : opH P (.mapUpdate t x y z) ty f K h := by subst hh; exact op_mapUpdate he ht hx hy hv hm H
theorem op_insert' {t kt et : TypeId} {x y z : Operand} {r : Nat} {l : List (ME κ)} {c : Nat} {n : κ} {v : Value} {h1 : Heap} (he : KeyEnc d ek) (ht : P.underlying t = some (.map kt et) ∧ P.underlying kt = some d)
    (hx : ev f x = .map (some r)) (hy : ev f y = ek n) (hv : ev f z = v) (hm : h[r]? = some (mobj ek l c)) (hh : h1 = h.setIfInBounds r (mobj ek (mput l n v c) (mclk l n c)))
    (H : K undef h1) : opH P (.insert t x y z) ty f K h := by subst hh; exact op_insert he ht hx hy hv hm H
theorem op_delete' {t kt et : TypeId} {x y : Operand} {ts : Array TypeId} {r : Nat} {l : List (ME κ)} {c : Nat} {n : κ} {h1 : Heap} (he : KeyEnc d ek) (hts : ts[0]? = some t) (ht : P.underlying t = some (.map kt et) ∧ P.underlying kt = some d)
    (hx : ev f x = .map (some r)) (hy : ev f y = ek n) (hm : h[r]? = some (mobj ek l c)) (hh : h1 = h.setIfInBounds r (mobj ek (mdel l n) c))
    (H : K (.tuple #[]) h1) : opH P (.call ⟨.builtin .delete, #[x, y], ts⟩) ty f K h := by subst hh; exact op_delete he hts ht hx hy hm H
end

section
variable {κ : Type} {P : Program} {f : Fr} {h : Heap} {K : Value → Heap → Prop} {ty : TypeId} {ek : κ → Value}
theorem op_range_any {t kt et : TypeId} {x : Operand} {m : Option Nat} {l : List (ME κ)} {c : Nat} (hu : P.underlying t = some (.map kt et)) (hx : ev f x = .map m) (hm : mapAt ek h m l c)
    (H : ∀ h1 : Heap, ((∀ x, x < h.size → h1[x]? = h[x]?) ∧ h1.size = h.size + 1 ∧ iterAt ek h1 h.size l c #[]) → K (.pointer (some ⟨h.size, 0, none⟩)) h1) : opH P (.range t x) ty f K h := by
  cases m with
  | none =>
    simp only [mapAt] at hm; subst hm
    refine op_range_nilMap hu hx (H _ ⟨fun x hx => by rw [Array.getElem?_push_lt hx]; exact (Array.getElem?_eq_getElem hx).symm, by simp, .inl ⟨rfl, rfl, by simp⟩⟩)
  | some r =>
    simp only [mapAt] at hm
    have hr : r < h.size := (Array.getElem?_eq_some_iff.1 hm).1
    refine op_range_map hu hx hm (H _ ⟨fun x hx => by rw [Array.getElem?_push_lt hx]; exact (Array.getElem?_eq_getElem hx).symm, by simp, .inr ⟨r, by simp, ?_⟩⟩)
    rw [Array.getElem?_push_lt hr]
    rw [← hm]; exact (Array.getElem?_eq_getElem hr).symm

theorem op_next_any {x : Operand} {it c : Nat} {seen : Array Nat} {l : List (ME κ)} (hx : ev f x = .pointer (some ⟨it, 0, none⟩)) (hi : iterAt ek h it l c seen) (hb : ∀ e ∈ l, e.born < c)
    (H0 : (∀ e ∈ l, e.born ∈ seen) → K (.tuple #[.bool false]) h)
    (H1 : ∀ e ∈ l, e.born ∉ seen → ∀ h1 : Heap, ((∀ x, x ≠ it → h1[x]? = h[x]?) ∧ h1.size = h.size ∧ iterAt ek h1 it l c (seen.push e.born)) → K (.tuple #[.bool true, ek e.key, e.val]) h1) : opH P (.next x false) ty f K h := by
  rcases hi with ⟨rfl, rfl, hi⟩ | ⟨r, hi, hm⟩
  · exact op_next_nilMap hx hi (H0 (fun e he => by cases he))
  · refine op_next_map hx hi hm hb H0 (fun e he hne => H1 e he hne _ ⟨fun x hx => ?_, by simp, .inr ⟨r, ?_, ?_⟩⟩)
    · rw [Array.getElem?_setIfInBounds_ne (fun q => hx q.symm)]
    · rw [Array.getElem?_setIfInBounds_self_of_lt (Array.getElem?_eq_some_iff.1 hi).1]
    · have : it ≠ r := fun q => by subst q; rw [hi] at hm; simp [mobj] at hm
      rw [Array.getElem?_setIfInBounds_ne this]; exact hm
theorem op_entry_any {x : Operand} {it c : Nat} {seen : Array Nat} {l : List (ME κ)} {e : ME κ} (hx : ev f x = .pointer (some ⟨it, 0, none⟩)) (hi : iterAt ek h it l c (seen.push e.born)) (he : e ∈ l) (hn : (l.map (·.born)).Nodup) {v : Value} (hv : e.val = v)
    (H : K (.tuple #[ek e.key, v]) h) : opH P (.entry x) ty f K h := by
  subst hv
  rcases hi with ⟨rfl, -, -⟩ | ⟨r, hi, hm⟩
  · cases he
  · exact op_entry_map hx hi hm he hn H
end

section
variable {P : Program} {ops : List Oper} {c : Cert} {F : Fr} {K : Fr → Heap → Prop} {h : Heap}
theorem stepAt_of {i : Nat} {o : Oper} {next : Value → Heap → Prop} (ho : ops[i]? = some o) (hg : o.guard = none) (H : opH P o.op o.type F next h) : stepAt P ops i F h next := by
  unfold stepAt; rw [ho]; exact ⟨true, by rw [hg]; rfl, fun _ => H, fun e => by cases e⟩
theorem stepAt_if {i : Nat} {o : Oper} {g : Nat × Bool} {b : Bool} {next : Value → Heap → Prop} (ho : ops[i]? = some o) (hg : o.guard = some g) (hb : guardOk ops F (some g) = some b) (ht : b = true → opH P o.op o.type F next h) (hf : b = false → next undef h) : stepAt P ops i F h next := by
  unfold stepAt; rw [ho]; exact ⟨b, by rw [hg]; exact hb, ht, hf⟩
theorem stepAt_gl {i : Nat} {o : Oper} {g : Nat × Bool} {b : Bool} {next : Value → Heap → Prop} (ho : ops[i]? = some o) (hg : o.guard = some g) (hb : guardOk ops F (some g) = some b) (J : Value → Heap → Prop) (hout : ∀ v h', J v h' → next v h') (ht : b = true → opH P o.op o.type F J h) (hf : b = false → J undef h) : stepAt P ops i F h next :=
  stepAt_if ho hg hb (fun e => (ht e).mono hout) (fun e => hout _ _ (hf e))
/-- the value of a quiet operation under a guard -/
theorem bif_true {α : Type} {b : Bool} {v u : α} (hb : b = true) : v = (bif b then v else u) := by rw [hb]; rfl
theorem bif_false {α : Type} {b : Bool} {v u : α} (hb : b = false) : u = (bif b then v else u) := by rw [hb]; rfl

def allAt (p : Nat → Prop) : List Nat → Prop
  | [] => True
  | i :: is => p i ∧ allAt p is
theorem allAt_mem {p : Nat → Prop} : ∀ {l : List Nat}, allAt p l → ∀ i ∈ l, p i
  | _ :: _, h, _, .head _ => h.1
  | _ :: _, h, _, .tail _ hm => allAt_mem h.2 _ hm
theorem quiet_of {f : Fr} {S vals} (l : List Nat) (hl : openQ c ops.length S = l) (H : allAt (fun i => stepAt P ops i (fvs ops vals f) h fun v h' => v = vals.getD i undef ∧ h' = h) l) : quietOb P ops c f S vals h := by
  intro i hi; rw [hl] at hi; exact allAt_mem H i hi
theorem plan_done {f : Fr} {S vals} (hlen : vals.length = ops.length) (hq : quietOb P ops c f S vals h) (hr : readyL c ops.length S = []) (H : K (fvs ops vals f) h) : Plan P ops c f K 0 S vals h := ⟨hlen, hq, hr, H⟩
theorem plan_step {f : Fr} {S vals m} (l : List Nat) (hne : l ≠ []) (hlen : vals.length = ops.length) (hq : quietOb P ops c f S vals h) (hr : readyL c ops.length S = l)
    (H : allAt (fun i => stepAt P ops i (fvs ops vals f) h fun v h' => ∃ vals', vals'.getD i undef = v ∧ (∀ j < ops.length, detQ c S j = true → vals'.getD j undef = vals.getD j undef) ∧ Plan P ops c f K m (i :: S) vals' h') l) :
    Plan P ops c f K (m + 1) S vals h :=
  ⟨hlen, hq, fun e => absurd (hr.symm.trans e) hne, fun i hi => by rw [hr] at hi; exact allAt_mem H i hi⟩
theorem agree_of {n : Nat} {S : List Nat} {vals vals' : List Value} (l : List Nat) (hl : (List.range n).filter (detQ c S) = l) (H : allAt (fun j => vals'.getD j undef = vals.getD j undef) l) :
    ∀ j < n, detQ c S j = true → vals'.getD j undef = vals.getD j undef := fun j hj hd => allAt_mem H j (by rw [← hl]; exact List.mem_filter.2 ⟨List.mem_range.2 hj, hd⟩)
end

theorem and_l {a b : Bool} (h : (a && b) = true) : a = true := by cases a <;> simp_all
theorem and_r {a b : Bool} (h : (a && b) = true) : b = true := by cases a <;> simp_all
theorem and_i {a b : Bool} (h : a = true) (h' : b = true) : (a && b) = true := by rw [h, h']; rfl
def onlyN (J : Fr → Heap → Prop) : Post
  | .normal, f, h => J f h
  | _, _, _ => False
theorem wpf_cut {P : Program} {n : Nat} {c : Code} {Q : Post} {f : Fr} {h : Heap} (J : Fr → Heap → Prop) (H : wpf P n c (onlyN J) f h) (H' : ∀ f h, J f h → Q .normal f h) : wpf P n c Q f h :=
  wpf_mono H fun e f h q => by cases e <;> first | exact H' f h q | exact q.elim
def zrep : Nat → List Value → List Value
  | 0, _ => []
  | n + 1, l => l ++ zrep n l
theorem zrep_length (n : Nat) (l : List Value) : (zrep n l).length = n * l.length := by
  induction n with
  | zero => simp [zrep]
  | succ n ih => simp [zrep, ih, Nat.succ_mul, Nat.add_comm]
theorem zrep_get (l : List Value) : ∀ (n i : Nat), i < n * l.length → (zrep n l)[i]? = l[i % l.length]? := by
  intro n
  induction n with
  | zero => intro i hi; simp at hi
  | succ n ih =>
    intro i hi
    simp only [zrep]
    by_cases h : i < l.length
    · rw [List.getElem?_append_left h, Nat.mod_eq_of_lt h]
    · have h' : l.length ≤ i := by omega
      rw [List.getElem?_append_right h', ih (i - l.length) (by rw [Nat.succ_mul] at hi; omega)]
      congr 1
      rw [Nat.mod_eq_sub_mod h']
theorem madeZeros_eq (z : Value) (n : Nat) (l : List Value) (hz : z.cells = l.toArray) : madeZeros z (n * l.length) = (zrep n l).toArray := by
  unfold madeZeros
  by_cases h0 : n * l.length = 0
  · simp only [h0, if_true]
    have : zrep n l = [] := List.length_eq_zero_iff.1 (by rw [zrep_length]; exact h0)
    rw [this]; simp
  · simp only [h0, if_false, hz]
    apply Array.ext_getElem?
    intro i
    by_cases hi : i < n * l.length
    · have hg := zrep_get l n i hi
      have hl : 0 < l.length := by
        rcases Nat.eq_zero_or_pos l.length with h | h
        · rw [h, Nat.mul_zero] at hi; omega
        · exact h
      have hm : i % l.length < l.length := Nat.mod_lt _ hl
      simp only [List.getElem?_toArray, hg, Array.getElem?_map, Array.getElem?_range, hi, if_true, Option.map_some, List.size_toArray]
      rw [List.getElem?_eq_getElem hm]
      congr 1
      rw [getElem!_pos _ _ (by simpa using hm)]
      simp
    · rw [Array.getElem?_eq_none (by simp; omega), Array.getElem?_eq_none (by simp [zrep_length]; omega)]
theorem op_buildSlice' {P : Program} {f : Fr} {h : Heap} {K : Value → Heap → Prop} {ty : TypeId} {t e : TypeId} {len sz by_ : Nat} {parts : List (Nat × Operand)} {vs : List (Nat × Value)} {z : Value} {zl : List Value} {cs : Array Value} {h1 : Heap} (hr : rowInfo P t = some (e, sz, by_, z)) (hsz : len * sz ≤ 16777216)
    (hz : z.cells = zl.toArray) (hl : zl.length = sz)
    (hps : parts.map (fun p => (p.1, ev f p.2)) = vs) (hf : Instr.fill (fun i => some (i * sz, sz)) (zrep len zl).toArray vs = some cs)
    (hh : h1 = h.push (.cells cs e (0, 0))) (H : K (.slice (some ⟨h.size, 0, none⟩) len len) h1) : opH P (.buildSlice t len parts.toArray) ty f K h := by
  subst hl
  exact op_buildSlice hr hsz hps (by rw [madeZeros_eq z len zl hz]; exact hf) hh H
def plOf (P : Program) : List Field → Option (List (Nat × Nat))
  | [] => some []
  | fd :: fs => match sizeT P fd.type, plOf P fs with
    | some n, some l => some ((fd.offset, n) :: l)
    | _, _ => none
def structPl (P : Program) (t : TypeId) : Option (List (Nat × Nat)) :=
  match P.underlying t with
  | some (.struct fs) => plOf P fs.toList
  | _ => none
theorem plOf_map {P : Program} : ∀ {l : List Field} {pl : List (Nat × Nat)}, plOf P l = some pl → l.map (fun fd => (sizeT P fd.type).map fun n => (fd.offset, n)) = pl.map some
  | [], pl, h => by simp [plOf] at h; subst h; rfl
  | fd :: fs, pl, h => by
    simp only [plOf] at h
    split at h
    · rename_i n l hn hl
      simp at h; subst h
      simp [hn, plOf_map hl]
    · simp at h
theorem op_build' {P : Program} {f : Fr} {h : Heap} {K : Value → Heap → Prop} {ty : TypeId} {t : TypeId} {parts : List (Nat × Operand)} {vs : List (Nat × Value)} {z cs : Array Value} {pl : List (Nat × Nat)} (hz : zeroOf P t = some (.agg z)) (hp : structPl P t = some pl)
    (hps : parts.map (fun p => (p.1, ev f p.2)) = vs) (hf : Instr.fill (pl[·]?) z vs = some cs) (H : K (.agg cs) h) : opH P (.build t parts.toArray) ty f K h := by
  unfold structPl at hp
  split at hp
  · rename_i fs hu
    exact op_build hz hu (plOf_map hp) hps hf H
  · simp at hp
theorem enters_ok {P : Program} {g : FuncId} {fn : Func} {c : Code} (hf : P.funcs[g]? = some fn) (hname : (fn.name == "runtime.NumGoroutine") = false) (hb : fn.body = some c) : ∀ args w, (callFunc g args).run P w = .ok (.enter g args) w := by
  intro args w
  have h1 : fn.name ≠ "runtime.NumGoroutine" := by simpa using hname
  simp [callFunc, hf, h1, hb]
/-- a call of a function value -/
def CallsV (P : Program) (fv : Value) (args : List Value) (h : Heap) (R : Value → Heap → Prop) : Prop :=
  ∃ (g : FuncId) (fi ca : List Value), fv = .func (.func g) fi.toArray ca.toArray ∧ (∀ args w, (callFunc g args).run P w = .ok (.enter g args) w) ∧ CallsH P g (fi ++ args ++ ca).toArray h R
theorem CallsV.mono {P : Program} {fv : Value} {args : List Value} {h : Heap} {R R' : Value → Heap → Prop} (H : CallsV P fv args h R) (hr : ∀ v h', R v h' → R' v h') : CallsV P fv args h R' := by
  obtain ⟨g, fi, ca, e, he, H⟩ := H
  exact ⟨g, fi, ca, e, he, H.mono hr⟩
theorem op_callV {P : Program} {f : Fr} {h : Heap} {K : Value → Heap → Prop} {ty : TypeId} {x : Operand} {args : List Operand} {ts : Array TypeId} {fv : Value} {vs : List Value} (hx : ev f x = fv) (ha : args.map (ev f) = vs) (H : CallsV P fv vs h K) :
    opH P (.call ⟨.value x, args.toArray, ts⟩) ty f K h := by
  obtain ⟨g, fi, ca, rfl, he, H⟩ := H
  exact op_callv hx he ha H
def IsFn (v : Value) : Prop := ∃ (g : FuncId) (fi ca : Array Value), v = .func (.func g) fi ca
theorem op_nilCheckF {P : Program} {f : Fr} {h : Heap} {K : Value → Heap → Prop} {ty : TypeId} {x : Operand} {v : Value} (hx : ev f x = v) (hv : IsFn v) (H : K v h) : opH P (.nilCheck x) ty f K h := by
  obtain ⟨g, fi, ca, rfl⟩ := hv
  exact op_nilCheck_fn hx H
theorem op_makeFunc2 {P : Program} {f : Fr} {h : Heap} {K : Value → Heap → Prop} {ty : TypeId} {g : FuncId} {fi ca : List Operand} {fs cs : List Value} (hf : fi.map (ev f) = fs) (ha : ca.map (ev f) = cs) (H : K (.func (.func g) fs.toArray cs.toArray) h) : opH P (.makeFunc (.func g) fi.toArray ca.toArray) ty f K h := by
  refine op_makeFunc ?_
  have e1 : ca.toArray.map (ev f) = cs.toArray := by rw [List.map_toArray, ha]
  have e2 : fi.toArray.map (ev f) = fs.toArray := by rw [List.map_toArray, hf]
  rw [e1, e2]; exact H
theorem wpf_scope {P : Program} {n : Nat} {c : Code} {Q : Post} {f : Fr} {h : Heap} (H : wpf P n c (fun e f h => match e with | .goto _ => False | e => Q e f h) f h) : wpf P n (.scope c) Q f h := by
  intro a w r hw
  refine wp_scope_straight (wp_mono (H a w r hw) ?_)
  rintro e a' w' ⟨hs, f', r', q⟩
  cases e <;> first | exact q.elim | exact ⟨hs, f', r', q⟩
/-- structs are compared -/
theorem op_eqs {P : Program} {f : Fr} {h : Heap} {K : Value → Heap → Prop} {ty : TypeId} {t u : TypeId} {x y : Operand} {a b : List Value} {r : Bool} (hx : ev f x = .agg a.toArray) (hy : ev f y = .agg b.toArray) (hg : P.eqGuardType P.depth t = false)
    (he : ∀ w, (Op.equal t (.agg a.toArray) (.agg b.toArray)).run P w = .ok r w) (H : K (.bool r) h) : opH P (.binOp .eql t x y u) ty f K h := by
  refine opH_of_run (fun w _ => ?_) H
  have hgd : (eqGuard .eql t x y (.agg a.toArray) (.agg b.toArray)).run P w = .ok () w := by simp [eqGuard, hg]
  simp only [execOp, bareOp, hx, hy, binOp, Sem.run_bind, hgd, Result.andThen_ok, he, Sem.run_pure]
theorem op_nes {P : Program} {f : Fr} {h : Heap} {K : Value → Heap → Prop} {ty : TypeId} {t u : TypeId} {x y : Operand} {a b : List Value} {r : Bool} (hx : ev f x = .agg a.toArray) (hy : ev f y = .agg b.toArray) (hg : P.eqGuardType P.depth t = false)
    (he : ∀ w, (Op.equal t (.agg a.toArray) (.agg b.toArray)).run P w = .ok r w) (H : K (.bool (!r)) h) : opH P (.binOp .neq t x y u) ty f K h := by
  refine opH_of_run (fun w _ => ?_) H
  have hgd : (eqGuard .neq t x y (.agg a.toArray) (.agg b.toArray)).run P w = .ok () w := by simp [eqGuard, hg]
  simp only [execOp, bareOp, hx, hy, binOp, Sem.run_bind, hgd, Result.andThen_ok, he, Sem.run_pure]
theorem run_equalIn_int {P : Program} (w : World) (d : Nat) {t : TypeId} {k : IntKind} {a b : Int} (ht : P.underlying t = some (.int k)) : (Op.equalIn (d + 1) t (.int k a) (.int k b)).run P w = .ok (decide (a = b)) w := by
  simp [Op.equalIn, run_underlying ht]; rfl
/-- the fields of a struct that are compared, one by one: their types, and where they lie -/
def eqPlan (P : Program) (t : TypeId) : Option (List (TypeId × Nat)) :=
  match P.underlying t with
  | some (.struct fs) => if P.stoodInHeld t || fs.toList.any (fun f => f.name == "_") then none else some (fs.toList.map fun f => (f.type, f.offset))
  | _ => none
def eqRun (d : Nat) (xs ys : Array Value) : List (TypeId × Nat) → Sem Bool
  | [] => pure true
  | (t, o) :: fs => do
      let a ← part t xs o
      let b ← part t ys o
      let r ← Op.equalIn d t a b
      if (!r) = true then pure false else eqRun d xs ys fs
theorem run_equalIn_plan {P : Program} (w : World) (d : Nat) {t : TypeId} {xs ys : Array Value} {pl : List (TypeId × Nat)} (hp : eqPlan P t = some pl) :
    (Op.equalIn (d + 1) t (.agg xs) (.agg ys)).run P w = (eqRun d xs ys pl).run P w := by
  unfold eqPlan at hp
  split at hp
  · rename_i fs hu
    split at hp
    · simp at hp
    · rename_i hs
      simp only [Bool.or_eq_true, not_or, Bool.not_eq_true] at hs
      have hfs : P.fieldsOf t = fs := by simp [Program.fieldsOf, hu]
      rw [run_equalIn_struct w d t xs ys (by rw [hfs]; exact hu) hs.1, hfs]
      simp only [Option.some.injEq] at hp
      subst hp
      have hn := hs.2
      generalize fs.toList = l at hn ⊢
      induction l generalizing w with
      | nil => rfl
      | cons f l ih =>
        simp only [List.any_cons, Bool.or_eq_false_iff] at hn
        have hne : f.name ≠ "_" := by simpa using hn.1
        have ih' := fun w => ih w hn.2
        simp only [Op.eqFields, List.map_cons, eqRun, hne, not_false_eq_true, ne_eq, if_true, Sem.run_bind, Sem.run_ite, ih']
  · simp at hp
theorem eqRun_int {P : Program} (w : World) {d : Nat} {xs ys : List Value} {t : TypeId} {o : Nat} {k : IntKind} {a b : Int} {pl : List (TypeId × Nat)} {r : Bool} (ht : P.underlying t = some (.int k)) (ha : aggSize P t = some none) (hx : xs[o]? = some (.int k a)) (hy : ys[o]? = some (.int k b))
    (H : (eqRun (d + 1) xs.toArray ys.toArray pl).run P w = .ok r w) : (eqRun (d + 1) xs.toArray ys.toArray ((t, o) :: pl)).run P w = .ok (decide (a = b) && r) w := by
  simp only [eqRun, Sem.run_bind, run_part1 (P := P) (cs := xs.toArray) w ha (by simpa using hx), run_part1 (P := P) (cs := ys.toArray) w ha (by simpa using hy), Result.andThen_ok, run_equalIn_int w d ht]
  by_cases h : a = b <;> simp [h, H]
theorem eqRun_bool {P : Program} (w : World) {d : Nat} {xs ys : List Value} {t : TypeId} {o : Nat} {a b : Bool} {pl : List (TypeId × Nat)} {r : Bool} (ht : P.underlying t = some .bool) (ha : aggSize P t = some none) (hx : xs[o]? = some (.bool a)) (hy : ys[o]? = some (.bool b))
    (H : (eqRun (d + 1) xs.toArray ys.toArray pl).run P w = .ok r w) : (eqRun (d + 1) xs.toArray ys.toArray ((t, o) :: pl)).run P w = .ok (decide (a = b) && r) w := by
  simp only [eqRun, Sem.run_bind, run_part1 (P := P) (cs := xs.toArray) w ha (by simpa using hx), run_part1 (P := P) (cs := ys.toArray) w ha (by simpa using hy), Result.andThen_ok, run_equalIn_bool w d ht]
  cases a <;> cases b <;> simp [H]
theorem eqRun_struct {P : Program} (w : World) {d n : Nat} {xs ys us vs : List Value} {t : TypeId} {o : Nat} {pl pl' : List (TypeId × Nat)} {r q : Bool} (ha : aggSize P t = some (some n)) (hx : (xs.drop o).take n = us) (hy : (ys.drop o).take n = vs) (hp : eqPlan P t = some pl')
    (Hq : (eqRun d us.toArray vs.toArray pl').run P w = .ok q w) (H : (eqRun (d + 1) xs.toArray ys.toArray pl).run P w = .ok r w) : (eqRun (d + 1) xs.toArray ys.toArray ((t, o) :: pl)).run P w = .ok (q && r) w := by
  have e1 : xs.toArray.extract o (o + n) = us.toArray := by rw [List.extract_toArray, List.extract_eq_take_drop]; simp [hx]
  have e2 : ys.toArray.extract o (o + n) = vs.toArray := by rw [List.extract_toArray, List.extract_eq_take_drop]; simp [hy]
  simp only [eqRun, Sem.run_bind, run_partN (P := P) w ha, Result.andThen_ok, e1, e2, run_equalIn_plan w d hp, Hq]
  cases q <;> simp [H]
theorem eq_of_plan {P : Program} {t : TypeId} {xs ys : List Value} {pl : List (TypeId × Nat)} {r : Bool} (hp : eqPlan P t = some pl) (H : ∀ w, (eqRun 9999 xs.toArray ys.toArray pl).run P w = .ok r w) : ∀ w, (Op.equal t (.agg xs.toArray) (.agg ys.toArray)).run P w = .ok r w := by
  intro w
  have := run_equalIn_plan (P := P) w 9999 (xs := xs.toArray) (ys := ys.toArray) hp
  rw [H] at this
  exact this
theorem eqRun_nil {P : Program} (w : World) {d : Nat} {xs ys : List Value} : (eqRun d xs.toArray ys.toArray []).run P w = .ok true w := rfl
/-- the entries of a map stand as they must: stamps below the clock, no stamp and no key twice -/
def mapOk {κ : Type} (l : List (ME κ)) (c : Nat) : Prop := (∀ e ∈ l, e.born < c) ∧ (l.map (·.born)).Nodup ∧ (l.map (·.key)).Nodup

section
variable {κ : Type} [DecidableEq κ]
def mstamp (l : List (ME κ)) (n : κ) (c : Nat) : Nat := match mfind l n with | some e => e.born | none => c

theorem midx_none {l : List (ME κ)} {n : κ} (h : mfind l n = none) : midx l n = none := by
  cases hm : midx l n with
  | none => rfl
  | some j =>
    have := midx_mfind l n
    rw [hm, h] at this
    have hlt := (List.findIdx?_eq_some_iff_getElem.1 hm).1
    simp [List.getElem?_eq_getElem hlt] at this
theorem midx_some {l : List (ME κ)} {n : κ} {e : ME κ} (h : mfind l n = some e) : ∃ j, midx l n = some j ∧ l[j]? = some e := by
  have := midx_mfind l n
  rw [h] at this
  cases hm : midx l n with
  | none => rw [hm] at this; simp at this
  | some j => rw [hm] at this; exact ⟨j, rfl, this⟩

theorem op_mapEntry2 {P : Program} {f : Fr} {h : Heap} {K : Value → Heap → Prop} {ty : TypeId} {d : TypeDesc} {ek : κ → Value} {t kt et : TypeId} {x y : Operand} {r : Nat} {l : List (ME κ)} {c : Nat} {n : κ} {z v0 : Value} {h1 : Heap} (he : KeyEnc d ek) (ht : P.underlying t = some (.map kt et) ∧ P.underlying kt = some d) (hz : zeroOf P et = some z)
    (hx : ev f x = .map (some r)) (hy : ev f y = ek n) (hm : h[r]? = some (mobj ek l c)) (hv : (mlook l n).getD z = v0) (hh : h1 = h.setIfInBounds r (mobj ek (mput l n v0 c) (mclk l n c)))
    (H : K (.tuple #[v0, .int .i64 (mstamp l n c : Nat)]) h1) : opH P (.mapEntry t x y) ty f K h := by
  subst hv
  refine op_mapEntry he ht hz hx hy hm (fun hn => ?_) (fun e hf => ?_)
  · have e1 : (mlook l n).getD z = z := by simp [mlook, hn]
    simp only [e1, mput, mclk, mstamp, midx_none hn, hn, Option.isSome_none, Bool.false_eq_true, if_false] at H hh
    rw [hh] at H; exact H
  · obtain ⟨j, hj, hje⟩ := midx_some hf
    have e1 : (mlook l n).getD z = e.val := by simp [mlook, hf]
    have e2 : (l.modify j fun e' => { e' with val := e.val }) = l := by
      apply List.ext_getElem?
      intro q
      simp only [List.getElem?_modify]
      by_cases hq : j = q
      · subst hq; simp [hje]
      · simp [hq]
    simp only [e1, mput, mclk, mstamp, hj, hf, Option.isSome_some, if_true, e2] at H hh
    have e3 : h.setIfInBounds r (mobj ek l c) = h := by
      apply Array.ext_getElem?
      intro q
      by_cases hq : r = q
      · subst hq; rw [hm, Array.getElem?_setIfInBounds_self_of_lt (Array.getElem?_eq_some_iff.1 hm).1]
      · rw [Array.getElem?_setIfInBounds_ne hq]
    rw [hh, e3] at H; exact H

theorem mput_born_nodup {l : List (ME κ)} {n : κ} {v : Value} {c : Nat} (ho : mapOk l c) : ((mput l n v c).map (·.born)).Nodup := by
  unfold mput
  cases hm : midx l n with
  | none =>
    simp only [List.map_append, List.map_cons, List.map_nil]
    rw [List.nodup_append]
    refine ⟨ho.2.1, by simp, ?_⟩
    intro a ha b hb
    simp at hb; subst hb
    obtain ⟨e, he, rfl⟩ := List.mem_map.1 ha
    exact Nat.ne_of_lt (ho.1 e he)
  | some j =>
    have : ((l.modify j fun e => { e with val := v }).map (·.born)) = l.map (·.born) := by
      apply List.ext_getElem?
      intro q
      simp only [List.getElem?_map, List.getElem?_modify]
      by_cases hq : j = q
      · subst hq; cases l[j]? <;> simp
      · simp [hq]
    rw [this]; exact ho.2.1

theorem op_entryStore2 {P : Program} {f : Fr} {h : Heap} {K : Value → Heap → Prop} {ty : TypeId} {ek : κ → Value} {t : TypeId} {x y z : Operand} {r : Nat} {l : List (ME κ)} {c : Nat} {n : κ} {v v0 : Value} {h1 : Heap} (hx : ev f x = .map (some r)) (hy : ev f y = .int .i64 (mstamp l n c : Nat)) (hv : ev f z = v)
    (hm : h[r]? = some (mobj ek (mput l n v0 c) (mclk l n c)) ∧ mapOk l c) (hh : h1 = h.setIfInBounds r (mobj ek (mput l n v c) (mclk l n c))) (H : K undef h1) : opH P (.entryStore t x y z) ty f K h := by
  obtain ⟨hm, ho⟩ := hm
  have hnd := mput_born_nodup (n := n) (v := v0) ho
  subst hh
  cases hf : mfind l n with
  | none =>
    have hi := midx_none hf
    have e1 : mput l n v0 c = l ++ [⟨n, v0, c⟩] := by simp [mput, hi]
    have e2 : (mput l n v0 c).modify l.length (fun e => { e with val := v }) = mput l n v c := by
      rw [e1]; simp only [mput, hi]
      apply List.ext_getElem?
      intro q
      simp only [List.getElem?_modify]
      rcases Nat.lt_trichotomy q l.length with hq | hq | hq
      · have hne : ¬ l.length = q := by omega
        simp [List.getElem?_append_left hq, hne]
      · subst hq; simp
      · have hne : ¬ l.length = q := by omega
        simp only [hne, if_false]
        rw [List.getElem?_append_right (by omega), List.getElem?_append_right (by omega)]
        rw [List.getElem?_eq_none (by simp; omega), List.getElem?_eq_none (by simp; omega)]; rfl
    have := op_entryStore (P := P) (f := f) (K := K) (ty := ty) (t := t) (j := l.length) (e := ⟨n, v0, c⟩) (bn := mstamp l n c) hx hy hv hm (by rw [e1]; simp) (by simp [mstamp, hf]) hnd (by rw [e2]; exact H)
    exact this
  | some e =>
    obtain ⟨j, hj, hje⟩ := midx_some hf
    have e1 : mput l n v0 c = l.modify j (fun e => { e with val := v0 }) := by simp [mput, hj]
    have e2 : (mput l n v0 c).modify j (fun e => { e with val := v }) = mput l n v c := by
      rw [e1]; simp only [mput, hj]
      apply List.ext_getElem?
      intro q
      simp only [List.getElem?_modify]
      by_cases hq : j = q
      · subst hq; simp [hje]
      · simp [hq]
    exact op_entryStore (P := P) (f := f) (K := K) (ty := ty) (t := t) (j := j) (e := { e with val := v0 }) (bn := mstamp l n c) hx hy hv hm (by rw [e1]; simp [hje]) (by simp [mstamp, hf]) hnd (by rw [e2]; exact H)
end
theorem lt_of {a b c d : Nat} (h1 : a = c) (h2 : b = d) (h : c < d) : a < b := by rw [h1, h2]; exact h
theorem thenQ_n {next : Fr → Heap → Prop} {Q : Post} {f : Fr} {h : Heap} (H : next f h) : thenQ next Q .normal f h := H
theorem ret_leaf {P : Program} {rs : List ResultVar} {R : Value → Heap → Prop} {f : Fr} {h : Heap} {vs : List Value} (hv : resV P f h rs = some vs) (H : R (tupV vs) h) : retQ P rs R .ret f h := ⟨vs, hv, H⟩
theorem end_leaf {P : Program} {rs : List ResultVar} {R : Value → Heap → Prop} {f : Fr} {h : Heap} {vs : List Value} (hv : resV P f h rs = some vs) (H : R (tupV vs) h) : retQ P rs R .normal f h := ⟨vs, hv, H⟩

end Go.VC
