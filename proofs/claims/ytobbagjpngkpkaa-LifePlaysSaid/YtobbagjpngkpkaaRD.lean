/- Contracts of package life, and laws that follow from them. Conditions: as stated at each. -/
import Derived.Test.YtobbagjpngkpkaaRC
namespace Go.Proofs.Vf
open Go Go.Proofs Go.VC

theorem ins_at {o : One} : ∀ {L : List One} {i : Nat}, (∀ x ∈ L.take i, less x o = true) → (∀ x, L[i]? = some x → less x o = false) → ins o L = L.take i ++ o :: L.drop i
  | [], i, _, _ => by simp [ins]
  | a :: L, 0, _, h => by
    have := h a rfl
    simp [ins, this]
  | a :: L, i + 1, h1, h2 => by
    have ha := h1 a (by simp)
    have ih := ins_at (L := L) (i := i) (fun x hx => h1 x (by simp [hx])) (fun x hx => h2 x (by simpa using hx))
    unfold ins at ih ⊢
    simp only [List.takeWhile_cons, List.dropWhile_cons, ha, if_true, List.cons_append, ih, List.take_succ_cons, List.drop_succ_cons]

section
variable {Own : Nat → Prop} {h : Heap} {rb : Nat} {st : St}
theorem ropen_spec (R : RefS Own h rb st) (hok : StOk D0 st) (id dead : Int) (hd0 : 0 ≤ dead) :
    CallsH PR fn_linchpinref19_Book_Open #[.pointer (some ⟨rb, 0, none⟩), .int .i64 id, .int .u64 dead] h
      (fun v h' => v = .int .i64 (stOpen st id dead).1 ∧ Ch Own h h' ∧ RefS (Grow Own h h') h' rb (stOpen st id dead).2) := by
  have RS := R
  obtain ⟨la, lc, fa, fc, R⟩ := R
  have hbnd := R.bnd
  have hl := hok.len
  have hcost := hok.cost
  have hnow := hok.now
  apply F_linchpinref19_Book_Open_ok
  unfold F_linchpinref19_Book_Open stOpen
  have same : Ch Own h h ∧ RefS (Grow Own h h) h rb st := ⟨Ch.refl _ _, RS.grow (Nat.le_refl _) hbnd⟩
  refine ⟨fun hb => ?_, fun hb => ⟨fun hm => ?_, fun hm => ?_⟩⟩
  · have hc : id < 0 ∨ id > 65535 := by simpa using hb
    rw [if_pos hc]; exact ⟨rfl, same⟩
  · have hc : ¬ (id < 0 ∨ id > 65535) := by simp at hb; omega
    rw [if_neg hc, if_pos (by omega)]; exact ⟨rfl, same⟩
  have hc : ¬ (id < 0 ∨ id > 65535) := by simp at hb; omega
  rw [if_neg hc, if_neg (by omega)]
  refine (find_spec R hl id).mono ?_
  rintro _ h4 ⟨rfl, rfl⟩
  refine ⟨_, rfl, fun hq => ?_, fun hq => ?_⟩
  · cases hs : (look st.L id).isSome with
    | true => rw [if_pos rfl]; exact ⟨rfl, same⟩
    | false => rw [fidx_none hs] at hq; omega
  have hs : (look st.L id).isSome = false := by
    cases hs : (look st.L id).isSome with
    | false => rfl
    | true => obtain ⟨i, hi, _⟩ := fidx_some hok.nd hs; omega
  rw [if_neg (by rw [hs]; decide)]
  have cL : ∀ {hh : Heap}, RefP Own hh rb st la lc fa fc → cellH hh rb (0 + 2) = some (.slice la st.L.length lc) := fun R' => cell_lst R'.blk rfl
  have ws : IntKind.u64.wrap (st.now + st.cost) = st.now + st.cost := wrap_u64 (by omega) (by omega)
  refine ⟨_, _, rfl, _, _, _, cL R, fun h64 => ?_, fun h64 => ⟨_, cell_lst R.blk rfl, _, cell_lst R.blk rfl, fun hden => ?_, fun hden => ?_⟩⟩
  · rw [if_pos (by omega)]; exact ⟨rfl, same⟩
  · rw [ws] at hden
    rw [if_neg (by omega), if_pos hden]; exact ⟨rfl, same⟩
  rw [ws] at hden
  rw [if_neg (by omega), if_neg hden]
  refine ⟨fun i hh => hh = h4 ∧ 0 ≤ i ∧ i ≤ st.L.length ∧ ∀ x ∈ st.L.take i.toNat, less x ⟨id, dead⟩ = true, fun i _ => (st.L.length - i).toNat, ⟨rfl, by omega, by omega, fun x hx => by simp at hx⟩, ?_⟩
  rintro i hh ⟨rfl, i0, i1, hall⟩
  -- where it goes
  have fin : (∀ x, st.L[i.toNat]? = some x → less x ⟨id, dead⟩ = false) → ∀ {hx : Heap} {a : Option Addr} {c : Nat}, Ext hh hx → Sl hx ty_linchpinref19_One 2 a (0 + i.toNat + 1 + (st.L.length - i.toNat)) c ([] ++ flatO (st.L.take i.toNat) ++ oneV ⟨id, dead⟩ ++ flatO (st.L.drop i.toNat)) → (∀ y, blkOf a y → hh.size ≤ y) →
      ∃ h103, stCells rb hx (0 + 2) [.slice a (0 + i.toNat + 1 + (st.L.length - i.toNat)) c] = some h103 ∧ Value.int .i64 0 = .int .i64 0 ∧ Ch Own hh h103 ∧ RefS (Grow Own hh h103) h103 rb { st with L := ins ⟨id, dead⟩ st.L } := by
    intro hno hx a c xx s hf
    have Rx : RefP Own hx rb st la lc fa fc := R.keep xx.1 fun y hy _ => xx.2 y hy
    have hz := xx.1
    have hrb := lt_of_get R.blk
    obtain ⟨h103, v1, v2, v3, v4⟩ := st_ex (o := 0 + 2) [.slice a (0 + i.toNat + 1 + (st.L.length - i.toNat)) c] Rx.blk (by simp) (by simp [Value.oneCell'])
    have ei := ins_at hall hno
    have el : (ins ⟨id, dead⟩ st.L).length = 0 + i.toNat + 1 + (st.L.length - i.toNat) := by rw [ins_length]; omega
    have ef : flatO (ins ⟨id, dead⟩ st.L) = [] ++ flatO (st.L.take i.toNat) ++ oneV ⟨id, dead⟩ ++ flatO (st.L.drop i.toNat) := by
      rw [ei, flatO_append]; simp [flatO]
    have hlt : ∀ y, blkOf a y → y < hx.size := fun y hy => s.blk_lt hy
    refine ⟨h103, v1, rfl, ⟨by omega, fun y hy hn => by rw [v3 y (fun q => hn (q ▸ R.own.1)), xx.2 y hy]⟩, a, c, fa, fc, ?_, ?_, Rx.F.keep fun y _ hb => v3 y (R.fb hb), ⟨.inl R.own.1, fun y hy => .inr ⟨hf y hy, by have := hlt y hy; omega⟩, fun y hy => .inl (R.own.2.2 y hy)⟩, fun y => Grow.bnd (by omega) hbnd⟩
    · rw [v2]; simp only [spl, el]; rfl
    · show Sl h103 ty_linchpinref19_One 2 a (ins ⟨id, dead⟩ st.L).length c (flatO (ins ⟨id, dead⟩ st.L))
      rw [el, ef]
      exact s.keep fun y _ hb => v3 y (by have := hf y hb; omega)
  have keepR : ∀ {h' : Heap}, Ext hh h' → RefP Own h' rb st la lc fa fc := fun x => R.keep x.1 fun y hy _ => x.2 y hy
  have hLl := R.L.le
  obtain ⟨b, off, D, I, hk1⟩ : ∃ b off D I, i < (st.L.length : Int) → (la = some ⟨b, off, none⟩ ∧ cellH hh b (off + i.toNat * 2 + 1) = some (.int .u64 D) ∧ cellH hh b (off + i.toNat * 2) = some (.int .i64 I) ∧ st.L[i.toNat]? = some ⟨I, D⟩) := by
    by_cases hlt : i < (st.L.length : Int)
    · have hk : i.toNat < st.L.length := by omega
      obtain ⟨o, ho⟩ : ∃ o, st.L[i.toNat]? = some o := ⟨_, List.getElem?_eq_getElem hk⟩
      obtain ⟨g1, g2⟩ := flatO_get ho
      obtain ⟨b, off, ea, c1⟩ := R.L.get g1
      obtain ⟨b', off', ea', c2⟩ := R.L.get g2
      rw [ea] at ea'; cases ea'
      exact ⟨b, off, o.dead, o.id, fun _ => ⟨ea, by rw [Nat.add_assoc]; exact c2, c1, ho⟩⟩
    · exact ⟨0, 0, 0, 0, fun q => absurd q hlt⟩
  have lt2 : ∀ {x : Bool}, ((decide (i < (st.L.length : Int))) && x) = true → i < (st.L.length : Int) := fun q => by simp at q; exact q.1
  have lt3 : ∀ {x y : Bool}, (((decide (i < (st.L.length : Int))) && x) && y) = true → i < (st.L.length : Int) := fun q => by simp at q; exact q.1.1
  refine ⟨_, _, _, cL R, _, _, _, fun _ => cL R, b, off, fun q => (hk1 q).1, fun q => ⟨i0, q⟩, D, fun q => (hk1 q).2.1, _, _, _, fun _ => cL R, b, off, fun q => (hk1 (lt2 q)).1, fun q => ⟨i0, lt2 q⟩, D, fun q => (hk1 (lt2 q)).2.1, _, _, _, fun _ => cL R, b, off, fun q => (hk1 (lt3 q)).1, fun q => ⟨i0, lt3 q⟩, I, fun q => (hk1 (lt3 q)).2.2.1, fun hy => ?_, fun hy => ?_⟩
  · have hlt := lt2 hy
    refine ⟨⟨by omega, by omega⟩, ⟨rfl, by omega, by omega, fun x hx => ?_⟩, by dsimp only; omega⟩
    have e : (i + 1).toNat = i.toNat + 1 := by omega
    rw [e, List.take_add_one, (hk1 hlt).2.2.2] at hx
    rcases List.mem_append.1 hx with q | q
    · exact hall x q
    · simp at q; subst q
      simp only [Bool.and_eq_true] at hy
      exact hy.2
  have hno : ∀ x, st.L[i.toNat]? = some x → less x ⟨id, dead⟩ = false := fun x hx => by
    have hk := (List.getElem?_eq_some_iff.1 hx).1
    have hlt : i < (st.L.length : Int) := by omega
    rw [(hk1 hlt).2.2.2] at hx; cases hx
    simp only [hlt, decide_true, Bool.true_and] at hy
    exact hy
  have fin := @fin hno
  have litS : ∀ {h' h'' : Heap} {t : TypeId}, h'' = h'.push (.cells #[] t (0, 0)) → Sl h'' t 2 (some ⟨h'.size, 0, none⟩) 0 0 [] := fun e => ⟨rfl, .inr ⟨_, _, [], rfl, (push_get e).1, by omega, by simp, rfl⟩⟩
  have oneS : ∀ {h' h'' : Heap} {t : TypeId}, h'' = h'.push (.cells #[.int .i64 id, .int .u64 dead] t (0, 0)) → Sl h'' t 2 (some ⟨h'.size, 0, none⟩) 1 1 (oneV ⟨id, dead⟩) := fun e => ⟨rfl, .inr ⟨_, _, _, rfl, (push_get e).1, by omega, by simp, rfl⟩⟩
  have hi : i.toNat ≤ st.L.length := by omega
  have lenT : (flatO (st.L.take i.toNat)).length = i.toNat * 2 := by rw [flatO_length, List.length_take]; omega
  have lenD : (flatO (st.L.drop i.toNat)).length = (st.L.length - i.toNat) * 2 := by rw [flatO_length, List.length_drop]
  have one1 : ∀ v ∈ oneV ⟨id, dead⟩, v.oneCell' = true := by simp [oneV, Value.oneCell']
  refine ⟨fun h58 => Value.int .i64 0 = .int .i64 0 ∧ Ch Own hh h58 ∧ RefS (Grow Own hh h58) h58 rb { st with L := ins ⟨id, dead⟩ st.L }, fun h58 q => q, _, _, _, cL R, i.toNat, by omega, ⟨by omega, by omega, by omega⟩, _, _, _, cL R, i.toNat, by omega, ⟨by omega, by omega, by omega⟩, fun h69 e69 => ?_, fun h136 e136 => ?_⟩
  · obtain ⟨_, x69, z69⟩ := push_get e69
    have R69 := keepR x69
    refine ⟨cL R69, cL R69, ⟨_, _, (R69.L.take hi).firstB, ?_⟩, fun h104 e104 => ?_⟩
    · rw [flatO_take]
      refine (litS e69).app_fresh x69 (fun y hy => by rw [blkOf_some] at hy; omega) lenT (oneCell_flatO _) rfl ⟨by omega, by omega, by omega⟩ ?_
      intro a1 c1 h80 s80 x80 f80
      refine ⟨cL (keepR x80), fun h82 e82 => ?_⟩
      obtain ⟨_, x82', _⟩ := push_get e82
      have x82 := x80.trans x82'
      refine ⟨cL (keepR x82), ?_⟩
      refine (s80.ext x82').app_fresh x82 f80 (m := 1) rfl one1 rfl ⟨by omega, by omega, by omega⟩ ?_
      intro a2 c2 h92 s92 x92 f92
      refine ⟨cL (keepR x92), _, _, ((keepR x92).L.drop hi).firstB, ?_⟩
      rw [flatO_drop]
      exact s92.app_fresh x92 f92 lenD (oneCell_flatO _) rfl ⟨by omega, by omega, by omega⟩ fun a3 c3 h101 s101 x101 f101 => fin x101 s101 f101
    · obtain ⟨_, x104', _⟩ := push_get e104
      have x104 := x69.trans x104'
      have zz := x69.1
      refine ⟨cL (keepR x104), cL (keepR x104), _, _, ((keepR x104).L.take hi).firstB, ?_⟩
      rw [flatO_take]
      refine ((litS e69).ext x104').append lenT (oneCell_flatO _) rfl ⟨by omega, by omega, by omega⟩ ?_
      intro a1 c1 h115 s115 ch115 f115
      have zl := x104.1; have zc := ch115.1
      have f1 : ∀ y, blkOf a1 y → hh.size ≤ y := fun y hy => by
        rcases f115 y hy with q | q
        · rw [blkOf_some] at q; omega
        · omega
      have x115 : Ext hh h115 := ⟨by omega, fun y hy => by rw [ch115.2 y (by omega) (fun q => by rw [blkOf_some] at q; omega), x104.2 y hy]⟩
      have o115 := (oneS e104).ch ch115 fun y hy q => by rw [blkOf_some] at hy q; omega
      refine ⟨cL (keepR x115), _, _, o115.firstB, ?_⟩
      refine s115.app_fresh x115 f1 (m := 1) rfl one1 rfl ⟨by omega, by omega, by omega⟩ ?_
      intro a2 c2 h124 s124 x124 f124
      refine ⟨cL (keepR x124), _, _, ((keepR x124).L.drop hi).firstB, ?_⟩
      rw [flatO_drop]
      exact s124.app_fresh x124 f124 lenD (oneCell_flatO _) rfl ⟨by omega, by omega, by omega⟩ fun a3 c3 h133 s133 x133 f133 => fin x133 s133 f133
  · obtain ⟨_, x136, z136⟩ := push_get e136
    refine ⟨cL (keepR x136), cL (keepR x136), fun h140 e140 => ?_⟩
    obtain ⟨_, x140', z140⟩ := push_get e140
    have x140 := x136.trans x140'
    refine ⟨cL (keepR x140), cL (keepR x140), _, _, ((keepR x140).L.take hi).firstB, ?_⟩
    rw [flatO_take]
    refine (litS e140).append lenT (oneCell_flatO _) rfl ⟨by omega, by omega, by omega⟩ ?_
    intro a1 c1 h151 s151 ch151 f151
    have zl := x140.1; have zc := ch151.1
    have f1 : ∀ y, blkOf a1 y → hh.size ≤ y := fun y hy => by
      rcases f151 y hy with q | q
      · rw [blkOf_some] at q; omega
      · omega
    have x151 : Ext hh h151 := ⟨by omega, fun y hy => by rw [ch151.2 y (by omega) (fun q => by rw [blkOf_some] at q; omega), x140.2 y hy]⟩
    have o151 := ((oneS e136).ext x140').ch ch151 fun y hy q => by rw [blkOf_some] at hy q; omega
    refine ⟨cL (keepR x151), _, _, o151.firstB, ?_⟩
    refine s151.app_fresh x151 f1 (m := 1) rfl one1 rfl ⟨by omega, by omega, by omega⟩ ?_
    intro a2 c2 h160 s160 x160 f160
    refine ⟨cL (keepR x160), _, _, ((keepR x160).L.drop hi).firstB, ?_⟩
    rw [flatO_drop]
    exact s160.app_fresh x160 f160 lenD (oneCell_flatO _) rfl ⟨by omega, by omega, by omega⟩ fun a3 c3 h169 s169 x169 f169 => fin x169 s169 f169
end
end Go.Proofs.Vf
