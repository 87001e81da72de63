/- A library of this claim: rules that lead a call of a Go function to a formula over the heap alone, and laws on lists, maps and slices in the heap. No conditions. -/
import Derived.Test.YtobbagjpngkpkaaVcOps
import Derived.MapKept
import Derived.Maps.RangeRun
namespace Go.VC
open Go.MapKept Go.Maps

/-- How keys lie in memory. -/
structure KeyEnc {κ : Type} [DecidableEq κ] (d : TypeDesc) (ek : κ → Value) : Prop where
  isKey : ∀ a, IsKey d (ek a)
  inj : ∀ a b, ek a = ek b → a = b

structure ME (κ : Type) where
  key : κ
  val : Value
  born : Nat

def ME.ent {κ : Type} (ek : κ → Value) (e : ME κ) : MapEntry := ⟨ek e.key, e.val, e.born⟩
def mobj {κ : Type} (ek : κ → Value) (l : List (ME κ)) (c : Nat) : Obj := .map (l.map (ME.ent ek)).toArray c

theorem int_enc (k : IntKind) : KeyEnc (.int k) (fun n : Int => Value.int k n) := ⟨fun a => by simp [IsKey], fun a b h => by simpa using h⟩
theorem str_enc : KeyEnc .string (fun s : ByteArray => Value.string s) := ⟨fun a => by simp [IsKey], fun a b h => by simpa using h⟩
theorem bool_enc : KeyEnc .bool (fun s : Bool => Value.bool s) := ⟨fun a => by simp [IsKey], fun a b h => by simpa using h⟩

section
variable {κ : Type} [DecidableEq κ]

def mfind (l : List (ME κ)) (n : κ) : Option (ME κ) := l.find? fun e => decide (e.key = n)
def mlook (l : List (ME κ)) (n : κ) : Option Value := (mfind l n).map (·.val)
def midx (l : List (ME κ)) (n : κ) : Option Nat := l.findIdx? fun e => decide (e.key = n)
def mput (l : List (ME κ)) (n : κ) (v : Value) (c : Nat) : List (ME κ) :=
  match midx l n with
  | some i => l.modify i fun e => { e with val := v }
  | none => l ++ [⟨n, v, c⟩]
def mclk (l : List (ME κ)) (n : κ) (c : Nat) : Nat := if (midx l n).isSome then c else c + 1
def mdel (l : List (ME κ)) (n : κ) : List (ME κ) :=
  match midx l n with
  | some i => l.eraseIdx i
  | none => l

theorem findNow_enc {d : TypeDesc} {ek : κ → Value} (he : KeyEnc d ek) (n : κ) : ∀ (l : List (ME κ)) (i : Nat),
    Instr.findNow d (ek n) (l.map (ME.ent ek)) i = some (match midx l n with | some j => (mlook l n).map fun v => (i + j, v) | none => none) := by
  intro l
  induction l with
  | nil => intro i; rfl
  | cons e l ih =>
    intro i
    obtain ⟨r, hr, hiff⟩ := sameNow_of_keys (he.isKey n) (he.isKey e.key)
    simp only [List.map_cons, Instr.findNow, ME.ent, hr]
    by_cases h : e.key = n
    · have hrt : r = true := hiff.2 (by rw [h])
      subst hrt
      simp [midx, mlook, mfind, List.findIdx?_cons, h]
    · have hrf : r = false := by
        cases r with
        | false => rfl
        | true => exact absurd (he.inj _ _ (hiff.1 rfl)).symm h
      subst hrf
      have ih' := ih (i + 1)
      simp only [ih']
      have hn : (e :: l).find? (fun e => decide (e.key = n)) = l.find? (fun e => decide (e.key = n)) := by simp [h]
      simp only [midx, mlook, mfind, List.findIdx?_cons, h, decide_false, Bool.false_eq_true, if_false, hn]
      cases l.findIdx? (fun e => decide (e.key = n)) with
      | none => simp
      | some j => simp [Nat.add_assoc, Nat.add_comm 1 j]

theorem midx_mfind (l : List (ME κ)) (n : κ) : (midx l n).bind (l[·]?) = mfind l n := by
  induction l with
  | nil => rfl
  | cons e l ih =>
    simp only [midx, mfind, List.findIdx?_cons]
    by_cases h : e.key = n
    · simp [h]
    · have hn : (e :: l).find? (fun e => decide (e.key = n)) = mfind l n := by simp [mfind, h]
      rw [hn, ← ih, midx]
      simp only [h, decide_false, Bool.false_eq_true, if_false]
      cases l.findIdx? (fun e => decide (e.key = n)) <;> simp

theorem mfind_key {l : List (ME κ)} {n : κ} {e : ME κ} (h : mfind l n = some e) : e.key = n := by
  have := List.find?_some h; simpa using this

variable {P : Program} {f : Fr} {h : Heap} {K : Value → Heap → Prop} {ty : TypeId} {d : TypeDesc} {ek : κ → Value}

/-- A map value (nil, or one) that holds these entries. -/
def mapAt (ek : κ → Value) (h : Heap) (m : Option Nat) (l : List (ME κ)) (c : Nat) : Prop :=
  match m with
  | none => l = []
  | some r => h[r]? = some (mobj ek l c)

def IsMapT (P : Program) (t kt et : TypeId) (d : TypeDesc) : Prop := P.underlying t = some (.map kt et) ∧ P.underlying kt = some d

theorem op_lookup {t kt et : TypeId} {x y : Operand} {m : Option Nat} {l : List (ME κ)} {c : Nat} {n : κ} {z : Value} (he : KeyEnc d ek) (ht : P.underlying t = some (.map kt et) ∧ P.underlying kt = some d) (hz : zeroOf P et = some z)
    (hx : ev f x = .map m) (hy : ev f y = ek n) (hm : mapAt ek h m l c)
    (H : K ((mlook l n).getD z) h) : opH P (.lookup t x y false) ty f K h := by
  obtain ⟨hu, hk⟩ := ht
  obtain ⟨i, hi, hiz⟩ := Option.bind_eq_some_iff.1 hz
  refine opH_of_run (fun w hw => ?_) H
  subst hw
  have hzv : (zeroValue et).run P w = .ok z w := by simp [zeroValue, typeInfo, hi, hiz]
  cases m with
  | none =>
    simp only [mapAt] at hm; subst hm
    have hf := run_findKey (P := P) (w := w) (kt := kt) (k := ek n) (l := []) hk (a := none) rfl
    have hc := run_checkKey (P := P) (w := w) hk (he.isKey n) true 9999
    simp [execOp, bareOp, hx, hy, Instr.lookup, run_underlying hu, hf, hc, hzv, mlook, mfind]
  | some r =>
    simp only [mapAt, mobj] at hm
    have hf := run_findKey (P := P) (w := w) (kt := kt) hk (findNow_enc he n l 0)
    have hc := run_checkKey (P := P) (w := w) hk (he.isKey n) (l.map (ME.ent ek)).toArray.isEmpty 9999
    have hg : (getObj r).run P w = .ok (.map (l.map (ME.ent ek)).toArray c) w := by simp [getObj, Sem.run, hm]
    simp only [execOp, bareOp, hx, hy, Instr.lookup, Sem.run_bind, run_underlying hu, Result.andThen_ok, hg, hc, Sem.run_pure, hf]
    cases hmi : midx l n with
    | none =>
      have := midx_mfind l n; rw [hmi] at this; simp at this
      simp [hzv, mlook, ← this]
    | some j =>
      have := midx_mfind l n; rw [hmi] at this; simp at this
      cases hmf : mfind l n with
      | none =>
        rw [hmf] at this
        have hlt := (List.findIdx?_eq_some_iff_getElem.1 hmi).1
        rw [List.getElem?_eq_getElem hlt] at this; simp at this
      | some e => simp [mlook, hmf]

theorem op_lookup_ok {t kt et : TypeId} {x y : Operand} {m : Option Nat} {l : List (ME κ)} {c : Nat} {n : κ} {z : Value} (he : KeyEnc d ek) (ht : P.underlying t = some (.map kt et) ∧ P.underlying kt = some d) (hz : zeroOf P et = some z)
    (hx : ev f x = .map m) (hy : ev f y = ek n) (hm : mapAt ek h m l c)
    (H : K (.tuple #[(mlook l n).getD z, .bool (mlook l n).isSome]) h) : opH P (.lookup t x y true) ty f K h := by
  obtain ⟨hu, hk⟩ := ht
  obtain ⟨i, hi, hiz⟩ := Option.bind_eq_some_iff.1 hz
  refine opH_of_run (fun w hw => ?_) H
  subst hw
  have hzv : (zeroValue et).run P w = .ok z w := by simp [zeroValue, typeInfo, hi, hiz]
  cases m with
  | none =>
    simp only [mapAt] at hm; subst hm
    have hf := run_findKey (P := P) (w := w) (kt := kt) (k := ek n) (l := []) hk (a := none) rfl
    have hc := run_checkKey (P := P) (w := w) hk (he.isKey n) true 9999
    simp [execOp, bareOp, hx, hy, Instr.lookup, run_underlying hu, hf, hc, hzv, mlook, mfind]
  | some r =>
    simp only [mapAt, mobj] at hm
    have hf := run_findKey (P := P) (w := w) (kt := kt) hk (findNow_enc he n l 0)
    have hc := run_checkKey (P := P) (w := w) hk (he.isKey n) (l.map (ME.ent ek)).toArray.isEmpty 9999
    have hg : (getObj r).run P w = .ok (.map (l.map (ME.ent ek)).toArray c) w := by simp [getObj, Sem.run, hm]
    simp only [execOp, bareOp, hx, hy, Instr.lookup, Sem.run_bind, run_underlying hu, Result.andThen_ok, hg, hc, Sem.run_pure, hf]
    cases hmi : midx l n with
    | none =>
      have := midx_mfind l n; rw [hmi] at this; simp at this
      simp [hzv, mlook, ← this]
    | some j =>
      have := midx_mfind l n; rw [hmi] at this; simp at this
      cases hmf : mfind l n with
      | none =>
        rw [hmf] at this
        have hlt := (List.findIdx?_eq_some_iff_getElem.1 hmi).1
        rw [List.getElem?_eq_getElem hlt] at this; simp at this
      | some e => simp [mlook, hmf]

/-- one object is written -/
theorem opH_of_set {op : Op} {v : Value} {r : Nat} {ob : Obj} {nx : Next} (hnx : nx = .value v ∨ (nx = .skip ∧ v = undef))
    (hr : ∀ w : World, w.heap = h → (execOp (ev f) (bareOp op ty)).run P w = .ok nx { w with heap := w.heap.setIfInBounds r ob }) (H : K v (h.setIfInBounds r ob)) : opH P op ty f K h := by
  intro w hw
  rw [hr w hw]
  subst hw
  rcases hnx with rfl | ⟨rfl, rfl⟩
  · exact ⟨Same.refl w, H⟩
  · exact ⟨Same.refl w, H⟩

theorem run_mapUpdate_enc {t kt et : TypeId} {r : Nat} {l : List (ME κ)} {c : Nat} {n : κ} {v : Value} (he : KeyEnc d ek) (ht : P.underlying t = some (.map kt et) ∧ P.underlying kt = some d) (w : World)
    (hm : w.heap[r]? = some (mobj ek l c)) :
    (Instr.mapUpdate t (.map (some r)) (ek n) v).run P w = .ok () { w with heap := w.heap.setIfInBounds r (mobj ek (mput l n v c) (mclk l n c)) } := by
  obtain ⟨hu, hk⟩ := ht
  have hf := run_findKey (P := P) (w := w) (kt := kt) hk (findNow_enc he n l 0)
  have hc := run_checkKey (P := P) (w := w) hk (he.isKey n) false 9999
  have hm' := hm
  simp only [mobj] at hm
  have hg : (getObj r).run P w = .ok (.map (l.map (ME.ent ek)).toArray c) w := by simp [getObj, Sem.run, hm]
  simp only [Instr.mapUpdate, Sem.run_bind, run_underlying hu, Result.andThen_ok, hg, hc, hf]
  have hset : ∀ ob, (setObj r ob).run P w = .ok () { w with heap := w.heap.setIfInBounds r ob } := by
    intro ob; simp [setObj, Sem.run, hm]
  cases hmi : midx l n with
  | none =>
    simp only [hset]
    simp [mput, mclk, hmi, mobj, ME.ent]
  | some j =>
    have hjl := midx_mfind l n; rw [hmi] at hjl; simp only [Option.bind_some] at hjl
    cases hmf : mfind l n with
    | none =>
      rw [hmf] at hjl
      have hlt := (List.findIdx?_eq_some_iff_getElem.1 hmi).1
      rw [List.getElem?_eq_getElem hlt] at hjl; simp at hjl
    | some e =>
      have hek := mfind_key hmf
      rw [hmf] at hjl
      have hkk : (((((l.map (ME.ent ek)).toArray[j]?).map (·.key)).getD (ek n))) = ek n := by
        simp [hjl, ME.ent, hek]
      simp only [mlook, hmf, Option.map_some, Nat.zero_add]
      rw [hkk]
      simp only [run_keyThatStays (he.isKey n), Sem.run_bind, Result.andThen_ok, hset]
      simp only [mput, mclk, hmi, mobj, Option.isSome_some, if_true]
      have harr : ((l.map (ME.ent ek)).toArray.modify j fun e => { e with key := ek n, val := v }) = ((l.modify j fun e => { e with val := v }).map (ME.ent ek)).toArray := by
        apply Array.ext'
        simp only [Array.toList_modify]
        apply List.ext_getElem?
        intro q
        simp only [List.getElem?_modify, List.getElem?_map]
        by_cases hq : j = q
        · subst hq; simp [hjl, ME.ent, hek]
        · simp [hq]
      rw [harr]

theorem op_mapUpdate {t kt et : TypeId} {x y z : Operand} {r : Nat} {l : List (ME κ)} {c : Nat} {n : κ} {v : Value} (he : KeyEnc d ek) (ht : P.underlying t = some (.map kt et) ∧ P.underlying kt = some d)
    (hx : ev f x = .map (some r)) (hy : ev f y = ek n) (hv : ev f z = v) (hm : h[r]? = some (mobj ek l c))
    (H : K undef (h.setIfInBounds r (mobj ek (mput l n v c) (mclk l n c)))) : opH P (.mapUpdate t x y z) ty f K h := by
  refine opH_of_set (nx := .skip) (.inr ⟨rfl, rfl⟩) (fun w hw => ?_) H
  subst hw
  simp [execOp, bareOp, hx, hy, hv, run_mapUpdate_enc he ht w hm]
theorem op_insert {t kt et : TypeId} {x y z : Operand} {r : Nat} {l : List (ME κ)} {c : Nat} {n : κ} {v : Value} (he : KeyEnc d ek) (ht : P.underlying t = some (.map kt et) ∧ P.underlying kt = some d)
    (hx : ev f x = .map (some r)) (hy : ev f y = ek n) (hv : ev f z = v) (hm : h[r]? = some (mobj ek l c))
    (H : K undef (h.setIfInBounds r (mobj ek (mput l n v c) (mclk l n c)))) : opH P (.insert t x y z) ty f K h := by
  refine opH_of_set (nx := .skip) (.inr ⟨rfl, rfl⟩) (fun w hw => ?_) H
  subst hw
  simp [execOp, bareOp, hx, hy, hv, run_mapUpdate_enc he ht w hm]

theorem op_delete {t kt et : TypeId} {x y : Operand} {ts : Array TypeId} {r : Nat} {l : List (ME κ)} {c : Nat} {n : κ} (he : KeyEnc d ek) (hts : ts[0]? = some t) (ht : P.underlying t = some (.map kt et) ∧ P.underlying kt = some d)
    (hx : ev f x = .map (some r)) (hy : ev f y = ek n) (hm : h[r]? = some (mobj ek l c))
    (H : K (.tuple #[]) (h.setIfInBounds r (mobj ek (mdel l n) c))) : opH P (.call ⟨.builtin .delete, #[x, y], ts⟩) ty f K h := by
  obtain ⟨hu, hk⟩ := ht
  refine opH_of_set (nx := .value (.tuple #[])) (.inl rfl) (fun w hw => ?_) H
  subst hw
  have hf := run_findKey (P := P) (w := w) (kt := kt) hk (findNow_enc he n l 0)
  have hc := run_checkKey (P := P) (w := w) hk (he.isKey n) (l.map (ME.ent ek)).toArray.isEmpty 9999
  simp only [mobj] at hm
  have hg : (getObj r).run P w = .ok (.map (l.map (ME.ent ek)).toArray c) w := by simp [getObj, Sem.run, hm]
  have hset : ∀ ob, (setObj r ob).run P w = .ok () { w with heap := w.heap.setIfInBounds r ob } := by
    intro ob; simp [setObj, Sem.run, hm]
  simp only [execOp, bareOp, resolve, invoke, builtin, pure_bind, List.map_toArray, List.map_cons, List.map_nil, hx, hy, Builtin.delete_, hts, List.getElem?_toArray, List.getElem?_cons_zero, List.getElem?_cons_succ, Sem.run_bind, run_underlying hu, Result.andThen_ok, hg, hc, hf]
  cases hmi : midx l n with
  | none => simp [hset, mdel, hmi, mobj]
  | some j =>
    have hjl := midx_mfind l n; rw [hmi] at hjl; simp only [Option.bind_some] at hjl
    have hlt := (List.findIdx?_eq_some_iff_getElem.1 hmi).1
    cases hmf : mfind l n with
    | none => rw [hmf, List.getElem?_eq_getElem hlt] at hjl; simp at hjl
    | some e =>
      simp [hset, mlook, hmf, mdel, hmi, mobj, Array.eraseIdxIfInBounds, hlt, Go.ChangeMaps.map_eraseIdx]

end

section
variable {κ : Type} {P : Program} {f : Fr} {h : Heap} {K : Value → Heap → Prop} {ty : TypeId} {ek : κ → Value}

theorem op_len_map {t kt et : TypeId} {x : Operand} {m : Option Nat} {l : List (ME κ)} {c : Nat} (hu : P.underlying t = some (.map kt et)) (hx : ev f x = .map m) (hm : mapAt ek h m l c) (H : K (.int .i64 l.length) h) :
    opH P (.call ⟨.builtin .len, #[x], #[t]⟩) ty f K h := by
  refine opH_of_run (fun w hw => ?_) H
  subst hw
  cases m with
  | none => simp only [mapAt] at hm; subst hm; simp [execOp, bareOp, resolve, invoke, builtin, hx, Builtin.len_, run_underlying hu, goInt]
  | some r =>
    simp only [mapAt, mobj] at hm
    have hg : (getObj r).run P w = .ok (.map (l.map (ME.ent ek)).toArray c) w := by simp [getObj, Sem.run, hm]
    simp [execOp, bareOp, resolve, invoke, builtin, hx, Builtin.len_, run_underlying hu, goInt, hg]

/-! ranging over a map -/
theorem op_range_map {t kt et : TypeId} {x : Operand} {r : Nat} {l : List (ME κ)} {c : Nat} (hu : P.underlying t = some (.map kt et)) (hx : ev f x = .map (some r)) (hm : h[r]? = some (mobj ek l c))
    (H : K (.pointer (some ⟨h.size, 0, none⟩)) (h.push (.mapIter (some r) c #[] c))) : opH P (.range t x) ty f K h := by
  refine opH_of_new (fun w hw => ?_) H
  subst hw
  simp only [mobj] at hm
  have hg : (getObj r).run P w = .ok (.map (l.map (ME.ent ek)).toArray c) w := by simp [getObj, Sem.run, hm]
  simp [execOp, bareOp, hx, Instr.range, run_underlying hu, hg]
theorem op_range_nilMap {t kt et : TypeId} {x : Operand} (hu : P.underlying t = some (.map kt et)) (hx : ev f x = .map none)
    (H : K (.pointer (some ⟨h.size, 0, none⟩)) (h.push (.mapIter none 0 #[] 0))) : opH P (.range t x) ty f K h := by
  refine opH_of_new (fun w hw => ?_) H
  subst hw
  simp [execOp, bareOp, hx, Instr.range, run_underlying hu]

theorem op_next_nilMap {x : Operand} {it : Nat} (hx : ev f x = .pointer (some ⟨it, 0, none⟩)) (hi : h[it]? = some (.mapIter none 0 #[] 0)) (H : K (.tuple #[.bool false]) h) : opH P (.next x false) ty f K h := by
  refine opH_of_run (fun w hw => ?_) H
  subst hw
  have hg : (getObj it).run P w = .ok (.mapIter none 0 #[] 0) w := by simp [getObj, Sem.run, hi]
  simp [execOp, bareOp, hx, Instr.next, hg]

theorem op_next_map {x : Operand} {it r c : Nat} {seen : Array Nat} {l : List (ME κ)} (hx : ev f x = .pointer (some ⟨it, 0, none⟩)) (hi : h[it]? = some (.mapIter (some r) c seen c)) (hm : h[r]? = some (mobj ek l c))
    (hb : ∀ e ∈ l, e.born < c) (H0 : (∀ e ∈ l, e.born ∈ seen) → K (.tuple #[.bool false]) h)
    (H1 : ∀ e ∈ l, e.born ∉ seen → K (.tuple #[.bool true, ek e.key, e.val]) (h.setIfInBounds it (.mapIter (some r) c (seen.push e.born) c))) : opH P (.next x false) ty f K h := by
  intro w hw
  subst hw
  have hold : ∀ x ∈ (l.map (ME.ent ek)).toArray.toList, x.born < c := by
    intro x hx; simp at hx; obtain ⟨e, he, rfl⟩ := hx; exact hb e he
  rcases run_next_at (P := P) w ty it r c c seen (l.map (ME.ent ek)).toArray c hi hm hold (Nat.le_refl _) with ⟨h0, hr⟩ | ⟨e, he, w1, hw1, hr⟩
  · simp only [execOp, bareOp, hx, Sem.run_bind, hr, Result.andThen_ok, Sem.run_pure, opUpon]
    refine ⟨Same.refl w, H0 fun e he => ?_⟩
    have hz := Array.eq_empty_of_size_eq_zero h0
    unfold leftOf at hz
    rw [Array.filter_eq_empty_iff] at hz
    have := hz (ME.ent ek e) (by simp; exact ⟨e, he, rfl⟩)
    simpa [ME.ent] using this
  · simp only [execOp, bareOp, hx, Sem.run_bind, hr, Result.andThen_ok, Sem.run_pure, opUpon]
    unfold leftOf at he
    simp at he
    obtain ⟨⟨e', he', rfl⟩, hns⟩ := he
    have hk := H1 e' he' (by simpa [ME.ent] using hns)
    rcases hw1 with rfl | rfl
    · exact ⟨⟨rfl, rfl, rfl⟩, hk⟩
    · exact ⟨⟨rfl, rfl, rfl⟩, hk⟩

theorem op_entry_map {x : Operand} {it r c : Nat} {seen : Array Nat} {l : List (ME κ)} {e : ME κ} (hx : ev f x = .pointer (some ⟨it, 0, none⟩)) (hi : h[it]? = some (.mapIter (some r) c (seen.push e.born) c)) (hm : h[r]? = some (mobj ek l c))
    (he : e ∈ l) (hn : (l.map (·.born)).Nodup) (H : K (.tuple #[ek e.key, e.val]) h) : opH P (.entry x) ty f K h := by
  refine opH_of_run (fun w hw => ?_) H
  subst hw
  simp only [mobj] at hm
  have hg : (getObj r).run P w = .ok (.map (l.map (ME.ent ek)).toArray c) w := by simp [getObj, Sem.run, hm]
  have hgi : (getObj it).run P w = .ok (.mapIter (some r) c (seen.push e.born) c) w := by simp [getObj, Sem.run, hi]
  have hfd : (l.map (ME.ent ek)).toArray.find? (fun x => x.born == e.born) = some (ME.ent ek e) := by
    rw [List.find?_toArray, List.find?_map]
    have : l.find? ((fun x : MapEntry => x.born == e.born) ∘ ME.ent ek) = some e := by
      clear hg hm H
      induction l with
      | nil => cases he
      | cons a l ih =>
        simp only [List.map_cons, List.nodup_cons] at hn
        by_cases hab : a.born = e.born
        · rcases List.mem_cons.1 he with rfl | he'
          · simp [ME.ent]
          · exact absurd (List.mem_map.2 ⟨e, he', hab.symm⟩) hn.1
        · have hne : e ≠ a := fun q => hab (by rw [q])
          have he' : e ∈ l := (List.mem_cons.1 he).resolve_left hne
          simp [ME.ent, hab]
          simpa [ME.ent] using ih he' hn.2
    rw [this]; rfl
  simp [execOp, bareOp, hx, Instr.entry, hgi, hg, hfd]
  simp [ME.ent]

end

section
variable {κ : Type} [DecidableEq κ] {P : Program} {f : Fr} {h : Heap} {K : Value → Heap → Prop} {ty : TypeId} {d : TypeDesc} {ek : κ → Value}

theorem op_mapEntry {t kt et : TypeId} {x y : Operand} {r : Nat} {l : List (ME κ)} {c : Nat} {n : κ} {z : Value} (he : KeyEnc d ek) (ht : P.underlying t = some (.map kt et) ∧ P.underlying kt = some d) (hz : zeroOf P et = some z)
    (hx : ev f x = .map (some r)) (hy : ev f y = ek n) (hm : h[r]? = some (mobj ek l c))
    (H0 : mfind l n = none → K (.tuple #[z, .int .i64 c]) (h.setIfInBounds r (mobj ek (l ++ [⟨n, z, c⟩]) (c + 1))))
    (H1 : ∀ e, mfind l n = some e → K (.tuple #[e.val, .int .i64 e.born]) h) : opH P (.mapEntry t x y) ty f K h := by
  obtain ⟨hu, hk⟩ := ht
  obtain ⟨i, hi, hiz⟩ := Option.bind_eq_some_iff.1 hz
  intro w hw
  subst hw
  have hzv : ∀ w, (zeroValue et).run P w = .ok z w := fun w => by simp [zeroValue, typeInfo, hi, hiz]
  have hf := run_findKey (P := P) (w := w) (kt := kt) hk (findNow_enc he n l 0)
  have hc := run_checkKey (P := P) (w := w) hk (he.isKey n) false 9999
  have hm0 := hm
  simp only [mobj] at hm
  have hg : (getObj r).run P w = .ok (.map (l.map (ME.ent ek)).toArray c) w := by simp [getObj, Sem.run, hm]
  have hset : ∀ ob, (setObj r ob).run P w = .ok () { w with heap := w.heap.setIfInBounds r ob } := by
    intro ob; simp [setObj, Sem.run, hm]
  simp only [execOp, bareOp, hx, hy, Instr.mapEntry, Sem.run_bind, run_underlying hu, Result.andThen_ok, hg, hc, hf]
  cases hmi : midx l n with
  | none =>
    have := midx_mfind l n; rw [hmi] at this; simp at this
    simp only [hzv, Sem.run_bind, Result.andThen_ok, hset, Sem.run_pure, opUpon]
    refine ⟨⟨rfl, rfl, rfl⟩, ?_⟩
    have := H0 this.symm
    simpa [mobj, ME.ent, goInt] using this
  | some j =>
    have hjl := midx_mfind l n; rw [hmi] at hjl; simp only [Option.bind_some] at hjl
    have hlt := (List.findIdx?_eq_some_iff_getElem.1 hmi).1
    cases hmf : mfind l n with
    | none => rw [hmf, List.getElem?_eq_getElem hlt] at hjl; simp at hjl
    | some e =>
      have hek := mfind_key hmf
      rw [hmf] at hjl
      have hkk : (((((l.map (ME.ent ek)).toArray[j]?).map (·.key)).getD (ek n))) = ek n := by
        simp [hjl, ME.ent, hek]
      have hsame : ((l.map (ME.ent ek)).toArray.modify j fun e => { e with key := ek n }) = (l.map (ME.ent ek)).toArray := by
        apply Array.ext'
        simp only [Array.toList_modify]
        apply List.ext_getElem?
        intro q
        simp only [List.getElem?_modify, List.getElem?_map]
        by_cases hq : j = q
        · subst hq; simp [hjl, ME.ent, hek]
        · simp [hq]
      have hback : w.heap.setIfInBounds r (.map (l.map (ME.ent ek)).toArray c) = w.heap := by
        apply Array.ext_getElem?
        intro q
        by_cases hq : r = q
        · subst hq
          rw [hm, Array.getElem?_setIfInBounds_self_of_lt (Array.getElem?_eq_some_iff.1 hm).1]
        · simp [Array.getElem?_setIfInBounds_ne hq]
      simp only [mlook, hmf, Option.map_some, Nat.zero_add]
      rw [hkk]
      simp only [run_keyThatStays (he.isKey n), Sem.run_bind, Result.andThen_ok, hsame, hset, Sem.run_pure, opUpon]
      rw [hback]
      have := H1 e hmf
      refine ⟨⟨rfl, rfl, rfl⟩, ?_⟩
      simpa [hjl, ME.ent, goInt] using this

end

section
variable {κ : Type} {P : Program} {f : Fr} {h : Heap} {K : Value → Heap → Prop} {ty : TypeId} {ek : κ → Value}

theorem op_entryStore {t : TypeId} {x y z : Operand} {r : Nat} {l : List (ME κ)} {c j bn : Nat} {v : Value} {e : ME κ} (hx : ev f x = .map (some r)) (hy : ev f y = .int .i64 bn) (hv : ev f z = v) (hm : h[r]? = some (mobj ek l c))
    (hj : l[j]? = some e) (hbn : e.born = bn) (hn : (l.map (·.born)).Nodup) (H : K undef (h.setIfInBounds r (mobj ek (l.modify j fun e => { e with val := v }) c))) : opH P (.entryStore t x y z) ty f K h := by
  refine opH_of_set (nx := .skip) (.inr ⟨rfl, rfl⟩) (fun w hw => ?_) H
  subst hw
  simp only [mobj] at hm
  have hg : (getObj r).run P w = .ok (.map (l.map (ME.ent ek)).toArray c) w := by simp [getObj, Sem.run, hm]
  have hset : ∀ ob, (setObj r ob).run P w = .ok () { w with heap := w.heap.setIfInBounds r ob } := by
    intro ob; simp [setObj, Sem.run, hm]
  have hfi : (l.map (ME.ent ek)).toArray.findIdx? (fun e => (e.born : Int) == (bn : Int)) = some j := by
    rw [List.findIdx?_toArray, List.findIdx?_map]
    rw [List.findIdx?_eq_some_iff_getElem]
    have hlt : j < l.length := (List.getElem?_eq_some_iff.1 hj).1
    have hge : l[j] = e := (List.getElem?_eq_some_iff.1 hj).2
    refine ⟨hlt, by simp [ME.ent, hge, hbn], fun q hq => ?_⟩
    simp only [Function.comp, ME.ent, beq_iff_eq, Int.natCast_inj]
    have hqlt : q < l.length := by omega
    intro hqe
    have h1 : (l.map (·.born))[q]'(by simpa using hqlt) = (l.map (·.born))[j]'(by simpa using hlt) := by
      simp [hge, hbn]; simpa using hqe
    exact List.pairwise_iff_getElem.1 hn q j (by simpa using hqlt) (by simpa using hlt) hq h1
  have harr : ((l.map (ME.ent ek)).toArray.modify j fun e => { e with val := v }) = ((l.modify j fun e => { e with val := v }).map (ME.ent ek)).toArray := by
    apply Array.ext'
    simp only [Array.toList_modify]
    apply List.ext_getElem?
    intro q
    simp only [List.getElem?_modify, List.getElem?_map]
    by_cases hq : j = q
    · subst hq; simp [hj, ME.ent]
    · simp [hq]
  simp [execOp, bareOp, hx, hy, hv, Instr.entryStore, hg, asInt, asIntOf, hfi, hset, mobj, harr]

end
end Go.VC
