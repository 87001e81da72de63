/- Contracts of package life, and laws that follow from them. Conditions: as stated at each. -/
import Derived.Test.YtobbagjpngkpkaaLH
import Derived.Test.YtobbagjpngkpkaaFRef
namespace Go.VC
theorem Sl.take {h : Heap} {e sz : Nat} {a : Option Addr} {n c : Nat} {vs : List Value} (s : Sl h e sz a n c vs) {i : Nat} (hi : i ≤ n) : Sl h e sz (cutA a 0 c sz) i c (vs.take (i * sz)) := by
  have hl := s.1
  have h1 : i * sz ≤ n * sz := Nat.mul_le_mul_right _ hi
  have ea : cutA a 0 c sz = a := by
    unfold cutA; split
    · rfl
    · cases a with
      | none => rfl
      | some x => simp [Addr.add]
  rw [ea]
  refine ⟨by rw [List.length_take]; omega, ?_⟩
  rcases s.2 with ⟨rfl, rfl, rfl⟩ | ⟨b, o, cur, rfl, hb, hn, hc, hq⟩
  · exact .inl ⟨rfl, by omega, rfl⟩
  · exact .inr ⟨b, o, cur, rfl, hb, by omega, hc, by rw [← hq, List.take_take, Nat.min_eq_left h1]⟩
theorem Sl.drop {h : Heap} {e sz : Nat} {a : Option Addr} {n c : Nat} {vs : List Value} (s : Sl h e sz a n c vs) {i : Nat} (hi : i ≤ n) : Sl h e sz (cutA a i c sz) (n - i) (c - i) (vs.drop (i * sz)) := by
  have hl := s.1
  have h1 : i * sz ≤ n * sz := Nat.mul_le_mul_right _ hi
  refine ⟨by rw [List.length_drop, hl, Nat.sub_mul], ?_⟩
  rcases s.2 with ⟨rfl, rfl, rfl⟩ | ⟨b, o, cur, rfl, hb, hn, hc, hq⟩
  · refine .inl ⟨?_, by omega, by omega⟩
    unfold cutA; split <;> rfl
  · right
    by_cases hci : c = i
    · refine ⟨b, o, cur, by unfold cutA; rw [if_pos hci], hb, by omega, ?_, ?_⟩
      · have : c - i = 0 := by omega
        rw [this]; omega
      · have hni : n = i := by omega
        subst hni
        rw [Nat.sub_self, Nat.zero_mul, List.take_zero, List.drop_eq_nil_of_le (by omega)]
    · have hm : (c - i) * sz = c * sz - i * sz := Nat.sub_mul _ _ _
      have h2 : i * sz ≤ c * sz := Nat.mul_le_mul_right _ (by omega)
      refine ⟨b, o + i * sz, cur, ?_, hb, by omega, by omega, ?_⟩
      · unfold cutA; rw [if_neg hci]
        simp only [Option.map_some, Addr.add]
        split
        · rename_i hz; rw [hz]; rfl
        · rfl
      · rw [← hq, List.drop_take, List.drop_drop, Nat.sub_mul]
/-- an append to a slice that is new itself -/
theorem Sl.app_fresh {h0 h : Heap} {e sz by_ : Nat} {z : Value} {a : Option Addr} {n c m : Nat} {vs news : List Value} {K : Option Addr → Nat → Nat → Heap → Prop} (s : Sl h e sz a n c vs) (x : Ext h0 h) (hf : ∀ y, blkOf a y → h0.size ≤ y)
    (hm : news.length = m * sz) (h1 : ∀ v ∈ news, v.oneCell' = true) (hz : z.cells.size = sz) (hb : n + m ≤ 1099511627776 ∧ (n + m) * by_ ≤ 1099511627776 ∧ by_ ≤ 1048576)
    (H : ∀ a' c' h', Sl h' e sz a' (n + m) c' (vs ++ news) → Ext h0 h' → (∀ y, blkOf a' y → h0.size ≤ y) → K a' (n + m) c' h') : appH e sz by_ z a n c m news h K := by
  refine s.append hm h1 hz hb fun a' c' h' s' ch hf' => H a' c' h' s' ⟨Nat.le_trans x.1 ch.1, fun y hy => ?_⟩ fun y hy => ?_
  · rw [ch.2 y (Nat.lt_of_lt_of_le hy x.1) (fun q => by have := hf y q; omega), x.2 y hy]
  · rcases hf' y hy with q | q
    · exact hf y q
    · have := x.1; omega
end Go.VC
namespace Go.Proofs.Vf
open Go Go.Proofs Go.VC

def oneV (o : One) : List Value := [.int .i64 o.id, .int .u64 o.dead]
def flatO (L : List One) : List Value := L.flatMap oneV
theorem flatO_length (L : List One) : (flatO L).length = L.length * 2 := by
  induction L with
  | nil => rfl
  | cons a L ih => simp only [flatO, List.flatMap_cons, List.length_append, List.length_cons] at *; rw [ih]; simp [oneV]; omega
theorem flatO_append (L M : List One) : flatO (L ++ M) = flatO L ++ flatO M := by simp [flatO]
theorem flatO_drop : ∀ (L : List One) (i : Nat), (flatO L).drop (i * 2) = flatO (L.drop i)
  | L, 0 => by simp
  | [], i + 1 => by simp [flatO]
  | a :: L, i + 1 => by
    have e : (i + 1) * 2 = 2 + i * 2 := by omega
    rw [e, ← List.drop_drop]
    have : (flatO (a :: L)).drop 2 = flatO L := by simp [flatO, oneV]
    rw [this, flatO_drop L i]; rfl
theorem flatO_take : ∀ (L : List One) (i : Nat), (flatO L).take (i * 2) = flatO (L.take i)
  | L, 0 => by simp [flatO]
  | [], i + 1 => by simp [flatO]
  | a :: L, i + 1 => by
    have e : (i + 1) * 2 = i * 2 + 1 + 1 := by omega
    rw [e]
    have := flatO_take L i
    simp only [flatO, List.flatMap_cons, oneV, List.cons_append, List.nil_append, List.take_succ_cons] at this ⊢
    rw [this]
theorem flatO_get {L : List One} {i : Nat} {o : One} (h : L[i]? = some o) : (flatO L)[i * 2]? = some (.int .i64 o.id) ∧ (flatO L)[i * 2 + 1]? = some (.int .u64 o.dead) := by
  have hlt := (List.getElem?_eq_some_iff.1 h).1
  have hd : (flatO L).drop (i * 2) = .int .i64 o.id :: .int .u64 o.dead :: flatO (L.drop (i + 1)) := by
    rw [flatO_drop, List.drop_eq_getElem_cons hlt]
    rw [List.getElem?_eq_getElem hlt] at h
    rw [Option.some.inj h]; rfl
  constructor
  · have := congrArg (·[0]?) hd
    simpa [List.getElem?_drop] using this
  · have := congrArg (·[1]?) hd
    simpa [List.getElem?_drop] using this
theorem oneCell_flatO (L : List One) : ∀ v ∈ flatO L, v.oneCell' = true := by
  intro v hv
  unfold flatO at hv
  obtain ⟨f, _, hv⟩ := List.mem_flatMap.1 hv
  simp [oneV] at hv
  rcases hv with rfl | rfl <;> rfl

/-- the document's book -/
structure RefP (Own : Nat → Prop) (h : Heap) (rb : Nat) (st : St) (la : Option Addr) (lc : Nat) (fa : Option Addr) (fc : Nat) : Prop where
  blk : h[rb]? = some (.cells (List.toArray [.int .u64 st.cost, .int .u64 st.now, .slice la st.L.length lc, .slice fa st.F.length fc]) ty_linchpinref19_Book (0, 0))
  L : Sl h ty_linchpinref19_One 2 la st.L.length lc (flatO st.L)
  F : Sl h ty_api_Fate 3 fa st.F.length fc (flat st.F)
  own : Own rb ∧ (∀ y, blkOf la y → Own y) ∧ ∀ y, blkOf fa y → Own y
  bnd : ∀ y, Own y → y < h.size
def RefS (Own : Nat → Prop) (h : Heap) (rb : Nat) (st : St) : Prop := ∃ la lc fa fc, RefP Own h rb st la lc fa fc

def fidx (L : List One) (id : Int) : Int := match L.findIdx? (fun o => decide (o.id = id)) with | some i => i | none => -1

section
variable {Own : Nat → Prop} {h : Heap} {rb : Nat} {st : St} {la : Option Addr} {lc : Nat} {fa : Option Addr} {fc : Nat}
theorem RefP.keep {h' : Heap} (R : RefP Own h rb st la lc fa fc) (hz : h.size ≤ h'.size) (hk : ∀ y, y < h.size → Own y → h'[y]? = h[y]?) : RefP Own h' rb st la lc fa fc :=
  ⟨by rw [hk _ (lt_of_get R.blk) R.own.1]; exact R.blk, R.L.keep fun y hy hb => hk y hy (R.own.2.1 y hb), R.F.keep fun y hy hb => hk y hy (R.own.2.2 y hb), R.own, fun y hy => Nat.lt_of_lt_of_le (R.bnd y hy) hz⟩
theorem RefP.lb (R : RefP Own h rb st la lc fa fc) {y : Nat} (hy : blkOf la y) : y ≠ rb := by
  obtain ⟨cur, hc⟩ := blkOf_lt R.L hy
  intro e; subst e
  rw [R.blk] at hc
  simp only [Option.some.injEq, Obj.cells.injEq] at hc
  exact absurd hc.2.1 (by decide)
theorem RefP.fb (R : RefP Own h rb st la lc fa fc) {y : Nat} (hy : blkOf fa y) : y ≠ rb := by
  obtain ⟨cur, hc⟩ := blkOf_lt R.F hy
  intro e; subst e
  rw [R.blk] at hc
  simp only [Option.some.injEq, Obj.cells.injEq] at hc
  exact absurd hc.2.1 (by decide)
theorem RefP.lf (R : RefP Own h rb st la lc fa fc) {y : Nat} (hy : blkOf la y) : ¬ blkOf fa y := by
  obtain ⟨cur, hc⟩ := blkOf_lt R.L hy
  intro hf
  obtain ⟨cur', hc'⟩ := blkOf_lt R.F hf
  rw [hc] at hc'
  simp only [Option.some.injEq, Obj.cells.injEq] at hc'
  exact absurd hc'.2.1 (by decide)

theorem find_spec (R : RefP Own h rb st la lc fa fc) (hl : st.L.length ≤ 64) (id : Int) :
    CallsH PR fn_linchpinref19_Book_find #[.pointer (some ⟨rb, 0, none⟩), .int .i64 id] h (fun v h' => v = .int .i64 (fidx st.L id) ∧ h' = h) := by
  apply F_linchpinref19_Book_find_ok
  unfold F_linchpinref19_Book_find
  refine ⟨fun i hh => hh = h ∧ 0 ≤ i ∧ i ≤ st.L.length ∧ ∀ j : Nat, (j : Int) < i → ∀ o, st.L[j]? = some o → o.id ≠ id, fun i _ => (st.L.length - i).toNat, ⟨rfl, by omega, by omega, fun j hj => by omega⟩, ?_⟩
  rintro i hh ⟨rfl, i0, i1, hi⟩
  refine ⟨_, _, rfl, _, _, _, cell_lst R.blk rfl, fun hlt => ?_, fun hge => ?_⟩
  · have hk : i.toNat < st.L.length := by omega
    obtain ⟨o, ho⟩ : ∃ o, st.L[i.toNat]? = some o := ⟨_, List.getElem?_eq_getElem hk⟩
    obtain ⟨b, off, rfl, hc⟩ := R.L.get (flatO_get ho).1
    refine ⟨_, _, _, cell_lst R.blk rfl, b, off, rfl, ⟨i0, hlt⟩, o.id, hc, fun he => ⟨?_, rfl⟩, fun hne => ⟨⟨by omega, by omega⟩, ⟨rfl, by omega, by omega, fun j hj p hp => ?_⟩, by dsimp only; omega⟩⟩
    · have : st.L.findIdx? (fun o => decide (o.id = id)) = some i.toNat := by
        rw [List.findIdx?_eq_some_iff_getElem]
        refine ⟨hk, ?_, fun j hj => ?_⟩
        · rw [List.getElem?_eq_getElem hk] at ho
          rw [Option.some.inj ho]; simpa using he
        · have := hi j (by omega) _ (List.getElem?_eq_getElem (by omega))
          simpa using this
      unfold fidx; rw [this]
      congr 1; show i = (i.toNat : Int); omega
    · by_cases hji : (j : Int) < i
      · exact hi j hji p hp
      · have : j = i.toNat := by omega
        subst this
        rw [ho] at hp; cases hp; exact hne
  · refine ⟨?_, rfl⟩
    have : st.L.findIdx? (fun o => decide (o.id = id)) = none := by
      rw [List.findIdx?_eq_none_iff]
      intro o ho
      obtain ⟨j, hj, rfl⟩ := List.getElem_of_mem ho
      have := hi j (by omega) _ (List.getElem?_eq_getElem hj)
      simpa using this
    unfold fidx; rw [this]
end
end Go.Proofs.Vf
