/- Contracts of functions of the program over the heap, and laws that follow from them. Conditions: as stated at each. -/
import Derived.Test.YtcldahgjomfbpaaGreatW
import Derived.Test.YtcldahgjomfbpaaGreatFLife
namespace Go.Proofs.Vf
open Go Go.Proofs Go.VC
structure One where
 id:Int
 dead:Int
instance:DecidableEq One:=fun a b=>decidable_of_iff (a.id=b.id∧a.dead=b.dead) ⟨fun h=>by cases a; cases b; simp_all,fun h=>by rw [h]; exact⟨rfl,rfl⟩⟩
structure Fate where
 id:Int
 kind:Int
 why:Int
instance:DecidableEq Fate:=fun a b=>decidable_of_iff (a.id=b.id∧a.kind=b.kind∧a.why=b.why) ⟨fun h=>by cases a; cases b; simp_all,fun h=>by rw [h]; exact⟨rfl,rfl,rfl⟩⟩
structure St where
 cost:Int
 now:Int
 L:List One
 F:List Fate
def less (a b:One):Bool:=decide (a.dead<b.dead) || (decide (a.dead=b.dead) && decide (a.id<b.id))
theorem less_iff {a b:One} : less a b=true↔a.dead<b.dead∨(a.dead=b.dead∧a.id<b.id):=by simp [less]
theorem less_trans {a b c:One} (h1:less a b=true) (h2:less b c=true):less a c=true:=by
 rw [less_iff] at *; omega
theorem less_tri {a b:One} (h:a.id≠b.id):less a b=true∨less b a=true:=by
 rw [less_iff,less_iff]; omega
theorem less_asymm {a b:One} (h1:less a b=true):less b a=false:=by
 rw [Bool.eq_false_iff]; intro h2; rw [less_iff] at *; omega
def srt (L:List One):Prop:=L.Pairwise fun a b=>less a b=true
def look (L:List One) (id:Int):Option Int:=(L.find? fun x=>decide (x.id=id)).map (·.dead)
def ins (x:One) (L:List One):List One:=(L.takeWhile (less · x)) ++ x :: (L.dropWhile (less · x))
def del (id:Int) (L:List One):List One:=L.filter fun x=>decide (x.id≠id)
abbrev D0:Int→Prop:=fun _=>False
structure StOk (D:Int→Prop) (s:St):Prop where
 cost:1≤s.cost∧s.cost≤1000
 now:0≤s.now∧s.now<4611686018427387904
 srt:srt s.L
 nd:(s.L.map (·.id)).Nodup
 rng : ∀ x∈s.L,0≤x.id∧x.id≤65535∧(¬ D x.id→s.now+s.cost<x.dead)∧x.dead<4611686018427387904
 len:s.L.length≤64
theorem look_some {L:List One} {id d:Int} (hn:(L.map (·.id)).Nodup):look L id=some d↔⟨id,d⟩∈L:=by
 unfold look
 induction L with
 | nil=>simp
 | cons a L ih=>
  simp only [List.map_cons,List.nodup_cons] at hn
  simp only [List.find?_cons]
  by_cases h:a.id=id
  ·simp only [h,decide_true,Option.map_some,Option.some.injEq,List.mem_cons]
   constructor
   ·rintro rfl; left; rw [← h]
   ·rintro (q | q)
    ·rw [← q]
    ·exfalso; apply hn.1; rw [h]; exact List.mem_map.2 ⟨_,q,rfl⟩
  ·simp only [h,decide_false,List.mem_cons]
   rw [ih hn.2]
   constructor
   ·exact .inr
   ·rintro (q | q)
    ·exact absurd (by rw [← q]) h
    ·exact q
theorem look_none {L:List One} {id:Int} : look L id=none↔∀ x∈L,x.id≠id:=by
 unfold look
 rw [Option.map_eq_none_iff,List.find?_eq_none]
 simp
theorem look_del {L:List One} (id k:Int):look (del id L) k=if k=id then none else look L k:=by
 split
 ·rename_i h
  rw [look_none]
  intro x hx
  have:=(List.mem_filter.1 hx).2
  simp at this; rw [h]; exact this
 ·rename_i h
  unfold look del
  congr 1
  induction L with
  | nil=>rfl
  | cons a L ih=>
   simp only [List.filter_cons]
   by_cases ha:a.id=id
   ·have hk : ¬ a.id=k:=fun q=>h (by rw [← q,ha])
    rw [if_neg (by simp [ha]),List.find?_cons,decide_eq_false hk]
    exact ih
   ·rw [if_pos (by simp [ha]),List.find?_cons,List.find?_cons,ih]
theorem mem_ins {x y:One} {L:List One} : y∈ins x L↔y=x∨y∈L:=by
 unfold ins
 rw [List.mem_append,List.mem_cons]
 have:y∈L↔y∈L.takeWhile (less · x)∨y∈L.dropWhile (less · x):=by
  rw [← List.mem_append,List.takeWhile_append_dropWhile]
 rw [this]
 constructor
 ·rintro (h | h | h) <;> simp [h]
 ·rintro (h | h | h) <;> simp [h]
theorem ins_perm (x:One) (L:List One):(ins x L).Perm (x :: L):=by
 unfold ins
 refine List.perm_middle.trans ?_
 rw [List.takeWhile_append_dropWhile]
theorem ins_length (x:One) (L:List One):(ins x L).length=L.length+1:=(ins_perm x L).length_eq
theorem ins_nodup {x:One} {L:List One} (hn:(L.map (·.id)).Nodup) (hx : ∀ y∈L,y.id≠x.id):((ins x L).map (·.id)).Nodup:=by
 rw [((ins_perm x L).map (·.id)).nodup_iff,List.map_cons,List.nodup_cons]
 refine⟨?_,hn⟩
 intro h
 obtain⟨y,hy,he⟩:=List.mem_map.1 h
 exact hx y hy he
theorem all_dropWhile {x:One} : ∀ {L:List One},srt L→(∀ y∈L,y.id≠x.id)→∀ y∈L.dropWhile (less · x),less x y=true
 | [],_,_,y,h=>by cases h
 | a :: L,hs,hx,y,h=>by
  rw [List.dropWhile_cons] at h
  split at h
  ·exact all_dropWhile (List.pairwise_cons.1 hs).2 (fun z hz=>hx z (by simp [hz])) y h
  ·rename_i hn
   have hxa:less x a=true:=by
    rcases less_tri (hx a (by simp)) with q | q
    ·exact absurd q hn
    ·exact q
   rcases List.mem_cons.1 h with rfl | hy
   ·exact hxa
   ·exact less_trans hxa ((List.pairwise_cons.1 hs).1 y hy)
theorem ins_srt {x:One} {L:List One} (hs:srt L) (hx : ∀ y∈L,y.id≠x.id):srt (ins x L):=by
 unfold ins srt
 rw [List.pairwise_append,List.pairwise_cons]
 have ht : ∀ y∈L.takeWhile (less · x),less y x=true:=fun y hy=>by
  have:=List.all_takeWhile (p:=(less · x)) (l:=L)
  rw [List.all_eq_true] at this
  exact this y hy
 have hd:=all_dropWhile hs hx
 refine⟨List.Pairwise.sublist (List.takeWhile_sublist _) hs,⟨hd,List.Pairwise.sublist (List.dropWhile_sublist _) hs⟩,?_⟩
 intro a ha b hb
 rcases List.mem_cons.1 hb with rfl | hb
 ·exact ht a ha
 ·exact less_trans (ht a ha) (hd b hb)
theorem del_srt {id:Int} {L:List One} (hs:srt L):srt (del id L):=List.Pairwise.sublist List.filter_sublist hs
theorem del_nodup {id:Int} {L:List One} (hn:(L.map (·.id)).Nodup):((del id L).map (·.id)).Nodup:=List.Nodup.sublist (List.filter_sublist.map _) hn
theorem mem_del {id:Int} {L:List One} {x:One} : x∈del id L↔x∈L∧x.id≠id:=by simp [del]
theorem look_ins {x:One} {L:List One} (hn:(L.map (·.id)).Nodup) (hx : ∀ y∈L,y.id≠x.id) (k:Int):look (ins x L) k=if k=x.id then some x.dead else look L k:=by
 have hi:=ins_nodup hn hx
 split
 ·rename_i h
  rw [look_some hi,mem_ins,h]; left; rfl
 ·rename_i h
  cases hl:look L k with
  | none=>
   rw [look_none] at hl ⊢
   intro y hy
   rcases mem_ins.1 hy with rfl | hy
   ·exact fun q=>h q.symm
   ·exact hl y hy
  | some d=>
   rw [look_some hi,mem_ins]
   exact .inr ((look_some hn).1 hl)
def stOpen (s:St) (id dead:Int):Int × St:=
 if id<0∨id > 65535 then (1,s)
 else if ¬ dead<4611686018427387904 then (2,s)
 else if (look s.L id).isSome then (7,s)
 else if 64≤s.L.length then (4,s)
 else if dead≤s.now+s.cost then (11,s)
 else (0,{ s with L:=ins ⟨id,dead⟩ s.L })
def stOut (s:St) (id kind why:Int):Int × St:=
 if (look s.L id).isSome then (0,{ s with L:=del id s.L,F:=s.F ++ [⟨id,kind,why⟩] }) else (6,s)
def stAnswer (s:St) (id status:Int) (bad:Bool):Int × St:=
 if status<0∨status > 255 then (1,s) else if bad then stOut s id 2 2 else stOut s id 1 status
def stCancel (s:St) (id:Int):Int × St:=stOut s id 2 3
def dueBy (c now:Int) (x:One):Bool:=decide (x.dead - c≤now)
def byTime (x:One):Fate:=⟨x.id,2,1⟩
def stGo (s:St) (now:Int):Int × List Fate × St:=
 if ¬ now<4611686018427387904 then (2,[],s)
 else if now<s.now then (1,[],s)
 else (0,s.F ++ (s.L.filter (dueBy s.cost now)).map byTime,{ s with now:=now,L:=s.L.filter (fun x=>!dueBy s.cost now x),F:=[] })
theorem stOpen_ok {s:St} (h:StOk D0 s) (id dead:Int):StOk D0 (stOpen s id dead).2:=by
 unfold stOpen
 split <;> try exact h
 split <;> try exact h
 split <;> try exact h
 split <;> try exact h
 split <;> try exact h
 rename_i h1 h2 h3 h4 h5
 have hn:look s.L id=none:=by simpa using h3
 rw [look_none] at hn
 refine⟨h.cost,h.now,ins_srt h.srt hn,ins_nodup h.nd hn,?_,by rw [ins_length]; omega⟩
 intro x hx
 rcases mem_ins.1 hx with rfl | hx
 ·dsimp only; exact⟨by omega,by omega,fun _=>by omega,by omega⟩
 ·exact h.rng x hx
theorem stOut_ok {D:Int→Prop} {s:St} (h:StOk D s) (id kind why:Int):StOk D (stOut s id kind why).2:=by
 unfold stOut
 split
 ·refine⟨h.cost,h.now,del_srt h.srt,del_nodup h.nd,fun x hx=>h.rng x (mem_del.1 hx).1,?_⟩
  exact Nat.le_trans (List.length_filter_le _ _) h.len
 ·exact h
theorem stGo_ok {s:St} (h:StOk D0 s) {now:Int} (h0:0≤now):StOk D0 (stGo s now).2.2:=by
 unfold stGo
 split
 ·exact h
 split
 ·exact h
 refine⟨h.cost,⟨h0,by dsimp only; omega⟩,List.Pairwise.sublist List.filter_sublist h.srt,List.Nodup.sublist (List.filter_sublist.map _) h.nd,?_,Nat.le_trans (List.length_filter_le _ _) h.len⟩
 intro x hx
 obtain⟨hx,hd⟩:=List.mem_filter.1 hx
 have:=h.rng x hx
 simp [dueBy] at hd
 refine⟨this.1,this.2.1,fun _=>?_,this.2.2.2⟩
 show now+s.cost<x.dead
 omega
end Go.Proofs.Vf
namespace Go.Proofs.Vf
open Go Go.Proofs Go.VC
def fateV (f:Fate):List Value:=[.int .i64 f.id,.int .i64 f.kind,.int .i64 f.why]
def flat (F:List Fate):List Value:=F.flatMap fateV
theorem flat_append (F G:List Fate):flat (F ++ G)=flat F ++ flat G:=by simp [flat]
def entV (t d:Int):Value:=.agg #[.int .i64 t,.int .u64 d]
structure BX where
 wb:Nat
 mo:Nat
 l:List (ME Int)
 c:Nat
 tm:Int→Int
 ids:List Int
 used:List Bool
 S:Int→Option Spot
 WF:Nat→Prop
 fa:Option Addr
 fn:Nat
 fc:Nat
def bookCells (cost:Int) (x:BX):List Value:=
 [.int .u64 cost,.pointer (some ⟨x.wb,0,none⟩),.map (some x.mo)] ++ (x.ids.map (Value.int .i64) ++ (x.used.map Value.bool ++ [.slice x.fa x.fn x.fc]))
structure BookP (Own:Nat→Prop) (h:Heap) (bb:Nat) (st:St) (D:Int→Prop) (x:BX):Prop where
 blk:h[bb]? = some (.cells (bookCells st.cost x).toArray ty_life_Book (0,0))
 il:x.ids.length=64
 ul:x.used.length=64
 wheel:WheelS x.WF h x.wb x.S st.now
 good:Good x.S st.now
 all:h[x.mo]? = some (mobj ikey x.l x.c)
 ok:mapOk x.l x.c
 ent : ∀ id,mlook x.l id=(look st.L id).map fun d=>entV (x.tm id) d
 tmr : ∀ id d,look st.L id=some d→(0≤x.tm id∧x.tm id<64)∧x.used[(x.tm id).toNat]? = some true∧x.ids[(x.tm id).toNat]? = some id∧(¬ D id→∃ s,x.S (x.tm id)=some s∧s.t=d - st.cost)∧(D id→x.S (x.tm id)=none)
 free : ∀ i:Nat,x.used[i]? = some true→∃ id d,look st.L id=some d∧x.tm id=i
 spot : ∀ t s,x.S t=some s→∃ id d,look st.L id=some d∧x.tm id=t
 fates:Sl h ty_api_Fate 3 x.fa x.fn x.fc (flat st.F)
 fl:x.fn=st.F.length
 own:Own bb∧Own x.mo∧(∀ y,x.WF y→Own y)∧∀ y,blkOf x.fa y→Own y
 dis : ¬ x.WF bb∧¬ x.WF x.mo∧∀ y,blkOf x.fa y→¬ x.WF y
 bnd : ∀ y,Own y→y<h.size
 st:StOk D st
def BookS (Own:Nat→Prop) (h:Heap) (bb:Nat) (st:St):Prop:=∃ x,BookP Own h bb st D0 x
theorem blkOf_lt {h:Heap} {a:Option Addr} {e sz n c:Nat} {vs:List Value} (s:Sl h e sz a n c vs) {x:Nat} (hx:blkOf a x) : ∃ cur,h[x]? = some (.cells (List.toArray cur) e (0,0)):=by
 obtain⟨b,o,rfl,rfl⟩:=hx
 rcases s.2 with⟨q,_⟩ | ⟨b',o',cur,q,hb,_⟩
 ·cases q
 ·cases q; exact⟨cur,hb⟩
section
variable {Own:Nat→Prop} {h:Heap} {bb:Nat} {st:St} {x:BX} {D:Int→Prop}
theorem BookP.bm (B:BookP Own h bb st D x):bb≠x.mo:=ne_map_cells B.blk B.all
theorem BookP.fb (B:BookP Own h bb st D x) {y:Nat} (hy:blkOf x.fa y):y≠bb:=by
 obtain⟨cur,hc⟩:=blkOf_lt B.fates hy
 intro e; subst e
 rw [B.blk] at hc
 simp only [Option.some.injEq,Obj.cells.injEq] at hc
 exact absurd hc.2.1 (by decide)
theorem BookP.fm (B:BookP Own h bb st D x) {y:Nat} (hy:blkOf x.fa y):y≠x.mo:=by
 obtain⟨cur,hc⟩:=blkOf_lt B.fates hy
 exact ne_map_cells hc B.all
theorem bc_cost (c:Int):(bookCells c x)[0]? = some (.int .u64 c):=rfl
theorem bc_wheel (c:Int):(bookCells c x)[0+1]? = some (.pointer (some ⟨x.wb,0,none⟩)):=rfl
theorem bc_map (c:Int):(bookCells c x)[0+2]? = some (.map (some x.mo)):=rfl
theorem bc_id (c:Int) {i:Nat} {v:Int} (hv:x.ids[i]? = some v):(bookCells c x)[0+3+i * 1]? = some (.int .i64 v):=by
 have hlt:i<x.ids.length:=(List.getElem?_eq_some_iff.1 hv).1
 unfold bookCells
 rw [List.getElem?_append_right (by simp <;> omega),List.getElem?_append_left (by simp <;> omega),List.getElem?_map]
 have:0+3+i * 1 - [Value.int IntKind.u64 c,Value.pointer (some ⟨x.wb,0,none⟩),Value.map (some x.mo)].length=i:=by simp <;> omega
 rw [this,hv]; rfl
theorem bc_used (c:Int) (hi:x.ids.length=64) (hu:x.used.length=64) {i:Nat} {v:Bool} (hv:x.used[i]? = some v):(bookCells c x)[0+67+i * 1]? = some (.bool v):=by
 have hlt:i<x.used.length:=(List.getElem?_eq_some_iff.1 hv).1
 unfold bookCells
 rw [List.getElem?_append_right (by simp <;> omega),List.getElem?_append_right (by simp <;> omega),List.getElem?_append_left (by simp <;> omega),List.getElem?_map]
 have:0+67+i * 1 - [Value.int IntKind.u64 c,Value.pointer (some ⟨x.wb,0,none⟩),Value.map (some x.mo)].length - (x.ids.map (Value.int .i64)).length=i:=by simp <;> omega
 rw [this,hv]; rfl
theorem bc_fates (c:Int) (hi:x.ids.length=64) (hu:x.used.length=64):(bookCells c x)[0+131]? = some (.slice x.fa x.fn x.fc):=by
 unfold bookCells
 rw [List.getElem?_append_right (by simp),List.getElem?_append_right (by simp <;> omega),List.getElem?_append_right (by simp <;> omega)]
 have:0+131 - [Value.int IntKind.u64 c,Value.pointer (some ⟨x.wb,0,none⟩),Value.map (some x.mo)].length - (x.ids.map (Value.int .i64)).length - (x.used.map Value.bool).length=0:=by simp [hi,hu]
 rw [this]; rfl
theorem bc_len (c:Int) (hi:x.ids.length=64) (hu:x.used.length=64):(bookCells c x).length=132:=by simp [bookCells,hi,hu]
theorem bc_set_used (c:Int) (hi:x.ids.length=64) (hu:x.used.length=64) {i:Nat} (hlt:i<64) (b:Bool):(bookCells c x).set (0+67+i * 1) (.bool b)=bookCells c { x with used:=x.used.set i b }:=by
 unfold bookCells
 rw [List.set_append_right _ _ (by simp <;> omega),List.set_append_right _ _ (by simp <;> omega),List.set_append_left _ _ (by simp <;> omega),List.map_set]
 have:0+67+i * 1 - [Value.int IntKind.u64 c,Value.pointer (some ⟨x.wb,0,none⟩),Value.map (some x.mo)].length - (x.ids.map (Value.int .i64)).length=i:=by simp <;> omega
 rw [this]
theorem bc_set_id (c:Int) (hi:x.ids.length=64) {i:Nat} (hlt:i<64) (b:Int):(bookCells c x).set (0+3+i * 1) (.int .i64 b)=bookCells c { x with ids:=x.ids.set i b }:=by
 unfold bookCells
 rw [List.set_append_right _ _ (by simp <;> omega),List.set_append_left _ _ (by simp <;> omega),List.map_set]
 have:0+3+i * 1 - [Value.int IntKind.u64 c,Value.pointer (some ⟨x.wb,0,none⟩),Value.map (some x.mo)].length=i:=by simp <;> omega
 rw [this]
theorem bc_set_fates (c:Int) (hi:x.ids.length=64) (hu:x.used.length=64) (a:Option Addr) (n k:Nat):(bookCells c x).set (0+131) (.slice a n k)=bookCells c { x with fa:=a,fn:=n,fc:=k }:=by
 unfold bookCells
 rw [List.set_append_right _ _ (by simp),List.set_append_right _ _ (by simp <;> omega),List.set_append_right _ _ (by simp <;> omega)]
 have:0+131 - [Value.int IntKind.u64 c,Value.pointer (some ⟨x.wb,0,none⟩),Value.map (some x.mo)].length - (x.ids.map (Value.int .i64)).length - (x.used.map Value.bool).length=0:=by simp [hi,hu]
 rw [this]; rfl
theorem BookP.len (B:BookP Own h bb st D x):x.l.length=st.L.length:=by
 have hp:(x.l.map (·.key)).Perm (st.L.map (·.id)):=by
  rw [List.perm_ext_iff_of_nodup B.ok.2.2 B.st.nd]
  intro k
  rw [mem_keys_iff,B.ent,Option.isSome_map]
  constructor
  ·intro hs
   obtain⟨d,hd⟩:=Option.isSome_iff_exists.1 hs
   exact List.mem_map.2 ⟨_,(look_some B.st.nd).1 hd,rfl⟩
  ·intro hk
   obtain⟨y,hy,rfl⟩:=List.mem_map.1 hk
   rw [(look_some B.st.nd).2 hy]; rfl
 simpa using hp.length_eq
theorem BookP.tm_inj (B:BookP Own h bb st D x) {a b d e:Int} (ha:look st.L a=some d) (hb:look st.L b=some e) (he:x.tm a=x.tm b):a=b:=by
 have h1:=(B.tmr a d ha).2.2.1
 have h2:=(B.tmr b e hb).2.2.1
 rw [he,h2] at h1
 exact (Option.some.inj h1).symm
theorem BookP.keep {h':Heap} (B:BookP Own h bb st D x) (hz:h.size≤h'.size) (hk : ∀ y,y<h.size→Own y→h'[y]? = h[y]?):BookP Own h' bb st D x:=
 {B with
  blk:=by rw [hk _ (lt_of_get B.blk) B.own.1]; exact B.blk
  wheel:=B.wheel.keep hz fun y hy ho=>hk y hy (B.own.2.2.1 y ho)
  all:=by rw [hk _ (lt_of_get B.all) B.own.2.1]; exact B.all
  fates:=B.fates.keep fun y hy hb=>hk y hy (B.own.2.2.2 y hb)
  bnd:=fun y hy=>Nat.lt_of_lt_of_le (B.bnd y hy) hz }
theorem BookS.keep {h':Heap} (B:BookS Own h bb st) (hz:h.size≤h'.size) (hk : ∀ y,y<h.size→Own y→h'[y]? = h[y]?):BookS Own h' bb st:=by
 obtain⟨x,B⟩:=B; exact⟨x,B.keep hz hk⟩
theorem BookS.ext {h':Heap} (B:BookS Own h bb st) (e:Ext h h'):BookS Own h' bb st:=B.keep e.1 fun y hy _=>e.2 y hy
theorem BookS.ch {F:Nat→Prop} {h':Heap} (B:BookS Own h bb st) (e:Ch F h h') (hf : ∀ y,Own y→¬ F y):BookS Own h' bb st:=B.keep e.1 fun y hy ho=>e.2 y hy (hf y ho)
theorem BookS.mono {Own':Nat→Prop} (B:BookS Own h bb st) (ho : ∀ y,Own y→Own' y) (hb : ∀ y,Own' y→y<h.size):BookS Own' h bb st:=by
 obtain⟨x,B⟩:=B
 exact⟨x,{ B with own:=⟨ho _ B.own.1,ho _ B.own.2.1,fun y hy=>ho _ (B.own.2.2.1 y hy),fun y hy=>ho _ (B.own.2.2.2 y hy)⟩,bnd:=hb }⟩
theorem BookS.bnd (B:BookS Own h bb st) : ∀ y,Own y→y<h.size:=by obtain⟨x,B⟩:=B; exact B.bnd
theorem BookS.sok (B:BookS Own h bb st):StOk D0 st:=by obtain⟨x,B⟩:=B; exact B.st
theorem BookS.grow {h':Heap} (B:BookS Own h' bb st) (hz:h.size≤h'.size) (hb : ∀ y,Own y→y<h.size):BookS (Grow Own h h') h' bb st:=B.mono (fun _=>.inl) (fun _=>Grow.bnd hz hb)
theorem cancel_any {wb:Nat} {S:Int→Option Spot} {now:Int} (W:WheelS Own h wb S now) (id:Int) :
  CallsH PR Gnu #[.pointer (some ⟨wb,0,none⟩),.int .i64 id] h
   (fun v h'=>(∃ e,v = .int .i64 e)∧Ch Own h h'∧WheelS Own h' wb (upd S id none) now):=by
 cases hs:S id with
 | some s=>
  refine (cancel_spec W hs).mono ?_
  rintro _ h1 ⟨rfl,c1,W1⟩
  exact⟨⟨_,rfl⟩,c1,W1⟩
 | none=>
  have hW:=W
  obtain⟨rows,ma,l,c,W⟩:=W
  apply Gez
  unfold Gey
  refine⟨_,_,rfl,_,W.cell_all,l,c,W.all,0,0,0,by rw [W.spots,hs]; rfl,?_⟩
  intro h11 e11
  obtain⟨h14,q1,q2,q3,q4⟩:=st_tmp (zs:=[_,_,_]) e11 [.int .u64 0,.int .i64 0,.int .i64 0] rfl (by simp [Value.oneCell'])
  refine⟨h14,q1,fun _=>⟨⟨_,rfl⟩,q3.ch,(hW.ext q3).congr fun k=>?_⟩,fun hn=>?_⟩
  ·unfold upd; split
   ·rename_i e; rw [e,hs]
   ·rfl
  ·rw [W.spots,hs] at hn; cases hn
theorem BookP.ext {h':Heap} (B:BookP Own h bb st D x) (e:Ext h h'):BookP Own h' bb st D x:=B.keep e.1 fun y hy _=>e.2 y hy
theorem BookP.mono {Own':Nat→Prop} (B:BookP Own h bb st D x) (ho : ∀ y,Own y→Own' y) (hb : ∀ y,Own' y→y<h.size):BookP Own' h bb st D x:=
 {B with own:=⟨ho _ B.own.1,ho _ B.own.2.1,fun y hy=>ho _ (B.own.2.2.1 y hy),fun y hy=>ho _ (B.own.2.2.2 y hy)⟩,bnd:=hb }
theorem BookP.grow {h':Heap} (B:BookP Own h' bb st D x):BookP (fun y=>Own y∨(h.size≤y∧y<h'.size)) h' bb st D x:=
 B.mono (fun _=>.inl) (fun y hy=>by rcases hy with q | q; exact B.bnd y q; exact q.2)
theorem outD_spec (B:BookP Own h bb st D x) (hF:st.F.length<1000000) (id kind why:Int) :
  CallsH PR Gir #[.pointer (some ⟨bb,0,none⟩),.int .i64 id,.int .i64 kind,.int .i64 why] h
   (fun v h'=>v = .int .i64 (stOut st id kind why).1∧Ch Own h h'∧∃ x',BookP (Grow Own h h') h' bb (stOut st id kind why).2 D x'):=by
 have hbnd:=B.bnd
 apply Gbh
 unfold Gbg
 cases hl:look st.L id with
 | none=>
  have ho:stOut st id kind why=(6,st):=by simp [stOut,hl]
  rw [ho]
  refine⟨_,_,rfl,_,cell_lst B.blk (bc_map _),x.l,x.c,B.all,0,0,by rw [B.ent,hl]; rfl,?_⟩
  intro h11 e11
  obtain⟨h14,q1,q2,q3,q4⟩:=st_tmp (zs:=[_,_]) e11 [.int .i64 0,.int .u64 0] rfl (by simp [Value.oneCell'])
  refine⟨h14,q1,fun _=>⟨rfl,q3.ch,x,(B.ext q3).grow⟩,fun hs=>?_⟩
  rw [B.ent,hl] at hs; cases hs
 | some d=>
  have ho:stOut st id kind why=(0,{ st with L:=del id st.L,F:=st.F ++ [⟨id,kind,why⟩] }):=by simp [stOut,hl]
  have hst:=stOut_ok B.st id kind why
  rw [ho] at hst ⊢
  obtain⟨⟨t0,t1⟩,hu,hi,-⟩:=B.tmr id d hl
  refine⟨_,_,rfl,_,cell_lst B.blk (bc_map _),x.l,x.c,B.all,x.tm id,d,by rw [B.ent,hl]; rfl,?_⟩
  intro h11 e11
  obtain⟨h14,q1,q2,q3,q4⟩:=st_tmp (zs:=[_,_]) e11 [.int .i64 (x.tm id),.int .u64 d] rfl (by simp [Value.oneCell'])
  refine⟨h14,q1,fun hn=>?_,fun _=>?_⟩
  ·rw [B.ent,hl] at hn; cases hn
  refine⟨_,cell_lst (q3.get B.blk) (bc_wheel _),x.tm id,cell_lst q2 rfl,?_⟩
  refine (cancel_any (B.wheel.ext q3) (x.tm id)).mono ?_
  rintro _ h19 ⟨⟨e19,rfl⟩,c19,W19⟩
  have hsz:=q3.1
  have hz19:=c19.1
  have k19 : ∀ y,y<h.size→¬ x.WF y→h19[y]? = h[y]?:=fun y hy hw=>by rw [c19.2 y (by omega) hw,q3.2 y hy]
  have b19:h19[bb]? = some (.cells (bookCells st.cost x).toArray ty_life_Book (0,0)):=by rw [k19 _ (lt_of_get B.blk) B.dis.1]; exact B.blk
  have m19:h19[x.mo]? = some (mobj ikey x.l x.c):=by rw [k19 _ (lt_of_get B.all) B.dis.2.1]; exact B.all
  have f19:Sl h19 ty_api_Fate 3 x.fa x.fn x.fc (flat st.F):=B.fates.keep fun y hy hb=>k19 y hy (B.dis.2.2 y hb)
  refine⟨_,rfl,x.tm id,?_,⟨t0,t1⟩,?_⟩
  ·have hw : ¬ x.WF h.size:=fun q=>by have:=hbnd _ (B.own.2.2.1 _ q); omega
   rw [cell_congr (c19.2 _ (by omega) hw)]
   exact cell_lst q2 rfl
  have htl:(x.tm id).toNat<64:=by omega
  obtain⟨h26,u1,u2,u3,u4⟩:=st_ex (o:=0+67+(x.tm id).toNat * 1) [.bool false] b19 (by rw [bc_len _ B.il B.ul]; simp; omega) (by simp [Value.oneCell'])
  rw [spl_one (by rw [bc_len _ B.il B.ul]; omega),bc_set_used _ B.il B.ul htl] at u2
  refine⟨h26,u1,_,cell_lst u2 (bc_map _),x.mo,rfl,x.l,x.c,by rw [u3 _ B.bm.symm]; exact m19,?_⟩
  intro h34 e34
  obtain⟨w1,w2,w3⟩:=set_get e34 (by rw [u3 _ B.bm.symm]; exact m19)
  have b34:h34[bb]? = _:=(w2 bb B.bm).trans u2
  have k34 : ∀ y,y<h19.size→y≠bb→y≠x.mo→h34[y]? = h19[y]?:=fun y hy a b=>by rw [w2 y b,u3 y a]
  have f34:Sl h34 ty_api_Fate 3 x.fa x.fn x.fc (flat st.F):=f19.keep fun y hy hb=>k34 y hy (B.fb hb) (B.fm hb)
  have hl2:(x.used.set (x.tm id).toNat false).length=64:=by rw [List.length_set]; exact B.ul
  refine⟨_,_,_,cell_lst b34 (bc_fates _ B.il hl2),?_⟩
  intro h38 e38
  obtain⟨p1,p2,p3⟩:=push_get e38
  have hfl:=B.fl
  refine (f34.ext p2).append (m:=1) rfl (by simp [Value.oneCell']) rfl ⟨by omega,by omega,by omega⟩ ?_
  intro a' c' h47 s47 c47 hf47
  have hz47:=c47.1
  have hfb : ∀ y,blkOf x.fa y→y<h.size:=fun y hy=>hbnd y (B.own.2.2.2 y hy)
  have k47 : ∀ y,y<h34.size→¬ blkOf x.fa y→h47[y]? = h34[y]?:=fun y hy hb=>by rw [c47.2 y (by omega) hb,p2.2 y hy]
  have hbl:=lt_of_get B.blk
  have hml:=lt_of_get B.all
  have b47:=(k47 bb (by omega) (fun q=>B.fb q rfl)).trans b34
  obtain⟨h49,v1,v2,v3,v4⟩:=st_ex (o:=0+131) [.slice a' (x.fn+1) c'] b47 (by rw [bc_len (x:={ x with used:=x.used.set (x.tm id).toNat false }) _ B.il hl2]; simp) (by simp [Value.oneCell'])
  rw [spl_one (by rw [bc_len (x:={ x with used:=x.used.set (x.tm id).toNat false }) _ B.il hl2]; omega),bc_set_fates (x:={ x with used:=x.used.set (x.tm id).toNat false }) _ B.il hl2] at v2
  refine⟨h49,v1,rfl,?_,?_⟩
  ·refine⟨by omega,fun y hy hy'=>?_⟩
   have n1:y≠bb:=fun e=>hy' (e ▸ B.own.1)
   have n2:y≠x.mo:=fun e=>hy' (e ▸ B.own.2.1)
   rw [v3 y n1,k47 y (by omega) (fun q=>hy' (B.own.2.2.2 y q)),k34 y (by omega) n1 n2,k19 y hy (fun q=>hy' (B.own.2.2.1 y q))]
  ·have hnew : ∀ y,blkOf a' y→blkOf x.fa y∨(h38.size≤y∧y<h47.size):=hf47
   have hab : ∀ y,blkOf a' y→y≠bb:=fun y hy=>by
    rcases hnew y hy with q | q
    ·exact B.fb q
    ·omega
   refine⟨{ x with l:=mdel x.l id,used:=x.used.set (x.tm id).toNat false,S:=upd x.S (x.tm id) none,fa:=a',fn:=x.fn+1,fc:=c' },?_⟩
   exact
   {blk:=v2
    il:=B.il
    ul:=hl2
    wheel:=W19.keep (by omega) fun y hy hw=>by
     have hy':=hbnd _ (B.own.2.2.1 _ hw)
     have n1:y≠bb:=fun e=>B.dis.1 (e ▸ hw)
     have n2:y≠x.mo:=fun e=>B.dis.2.1 (e ▸ hw)
     rw [v3 y n1,k47 y (by omega) (fun q=>B.dis.2.2 y q hw),k34 y hy n1 n2]
    good:=fun t s hs=>by
     dsimp only at hs
     unfold upd at hs
     split at hs
     ·cases hs
     ·exact B.good t s hs
    all:=by
     show h49[x.mo]? = _
     rw [v3 _ B.bm.symm,k47 _ (by omega) (fun q=>B.fm q rfl)]; exact w1
    ok:=mdel_ok B.ok
    ent:=fun k=>by
     show mlook (mdel x.l id) k=(look (del id st.L) k).map _
     rw [mlook_mdel B.ok,look_del]
     split
     ·rfl
     ·exact B.ent k
    tmr:=fun k e hk=>by
     change look (del id st.L) k=some e at hk
     rw [look_del] at hk
     split at hk
     ·cases hk
     ·rename_i hne
      obtain⟨r1,r2,r3,r4⟩:=B.tmr k e hk
      have hne':x.tm k≠x.tm id:=fun q=>hne (B.tm_inj hk hl q)
      have hne2 : ¬ (x.tm id).toNat=(x.tm k).toNat:=by omega
      refine⟨r1,?_,r3,?_⟩
      ·show (x.used.set (x.tm id).toNat false)[(x.tm k).toNat]? = _
       rw [List.getElem?_set_ne hne2]; exact r2
      ·dsimp only
       rw [upd_other _ _ hne']; exact r4
    free:=fun i hi=>by
     change (x.used.set (x.tm id).toNat false)[i]? = some true at hi
     rw [List.getElem?_set] at hi
     split at hi
     ·split at hi <;> cases hi
     ·rename_i hne
      obtain⟨k,e,h1,h2⟩:=B.free i hi
      refine⟨k,e,?_,h2⟩
      show look (del id st.L) k=_
      rw [look_del,if_neg]
      ·exact h1
      ·intro q; subst q; omega
    spot:=fun t s hs=>by
     dsimp only at hs
     unfold upd at hs
     split at hs
     ·cases hs
     ·rename_i hne
      obtain⟨k,e,h1,h2⟩:=B.spot t s hs
      refine⟨k,e,?_,h2⟩
      show look (del id st.L) k=_
      rw [look_del,if_neg]
      ·exact h1
      ·intro q; subst q; exact hne h2.symm
    fates:=by
     have:flat (st.F ++ [⟨id,kind,why⟩])=flat st.F ++ [.int .i64 id,.int .i64 kind,.int .i64 why]:=by rw [flat_append]; rfl
     show Sl h49 ty_api_Fate 3 a' (x.fn+1) c' (flat (st.F ++ [⟨id,kind,why⟩]))
     rw [this]
     exact s47.keep fun y hy hb=>v3 y (hab y hb)
    fl:=by simp [B.fl]
    own:=⟨.inl B.own.1,.inl B.own.2.1,fun y hy=>.inl (B.own.2.2.1 y hy),fun y hy=>by
     rcases hnew y hy with q | q
     ·exact .inl (B.own.2.2.2 y q)
     ·exact .inr (by omega)⟩
    dis:=⟨B.dis.1,B.dis.2.1,fun y hy hw=>by
     rcases hnew y hy with q | q
     ·exact B.dis.2.2 y q hw
     ·have:=hbnd _ (B.own.2.2.1 _ hw); omega⟩
    bnd:=fun y=>Grow.bnd (by omega) hbnd
    st:=hst }
theorem out_spec (B:BookS Own h bb st) (hF:st.F.length<1000000) (id kind why:Int) :
  CallsH PR Gir #[.pointer (some ⟨bb,0,none⟩),.int .i64 id,.int .i64 kind,.int .i64 why] h
   (fun v h'=>v = .int .i64 (stOut st id kind why).1∧Ch Own h h'∧BookS (Grow Own h h') h' bb (stOut st id kind why).2):=by
 obtain⟨x,B⟩:=B
 exact outD_spec B hF id kind why
end
end Go.Proofs.Vf
namespace Go.Proofs.Vf
open Go Go.Proofs Go.VC
section
variable {Own:Nat→Prop} {h:Heap} {bb:Nat} {st:St} {x:BX} {D:Int→Prop}
theorem answer_spec (B:BookS Own h bb st) (hF:st.F.length<1000000) (id status:Int) (bad:Bool) :
  CallsH PR Gik #[.pointer (some ⟨bb,0,none⟩),.int .i64 id,.int .i64 status,.bool bad] h
   (fun v h'=>v = .int .i64 (stAnswer st id status bad).1∧Ch Own h h'∧BookS (Grow Own h h') h' bb (stAnswer st id status bad).2):=by
 apply Gb5
 unfold Gb4 stAnswer
 refine⟨fun hb=>?_,fun hb=>?_⟩
 ·have hc:status<0∨status > 255:=by simpa using hb
  rw [if_pos hc]
  exact⟨rfl,Ch.refl _ _,B.grow (Nat.le_refl _) B.bnd⟩
 ·have hc : ¬ (status<0∨status > 255):=by simp at hb; omega
  rw [if_neg hc]
  refine⟨fun hbad=>?_,fun hbad=>?_⟩
  ·subst hbad
   refine (out_spec B hF id 2 2).mono ?_
   rintro _ h3 ⟨rfl,c3,B3⟩
   exact⟨_,rfl,rfl,c3,B3⟩
  ·subst hbad
   refine (out_spec B hF id 1 status).mono ?_
   rintro _ h3 ⟨rfl,c3,B3⟩
   exact⟨_,rfl,rfl,c3,B3⟩
theorem bcancel_spec (B:BookS Own h bb st) (hF:st.F.length<1000000) (id:Int) :
  CallsH PR Gil #[.pointer (some ⟨bb,0,none⟩),.int .i64 id] h
   (fun v h'=>v = .int .i64 (stCancel st id).1∧Ch Own h h'∧BookS (Grow Own h h') h' bb (stCancel st id).2):=by
 apply Gb7
 unfold Gb6 stCancel
 refine (out_spec B hF id 2 3).mono ?_
 rintro _ h3 ⟨rfl,c3,B3⟩
 exact⟨_,rfl,rfl,c3,B3⟩
theorem has_spec (B:BookS Own h bb st) (id:Int) :
  CallsH PR Gio #[.pointer (some ⟨bb,0,none⟩),.int .i64 id] h
   (fun v h'=>v = .tuple #[.int .u64 ((look st.L id).getD 0),.bool (look st.L id).isSome]∧Ext h h'):=by
 obtain⟨x,B⟩:=B
 apply Gbb
 unfold Gba
 refine⟨_,_,rfl,_,cell_lst B.blk (bc_map _),x.l,x.c,B.all,(if (look st.L id).isSome then x.tm id else 0),(look st.L id).getD 0,?_,?_⟩
 ·rw [B.ent]; cases look st.L id <;> rfl
 intro h11 e11
 obtain⟨h14,q1,q2,q3,q4⟩:=st_tmp (zs:=[_,_]) e11 [.int .i64 (if (look st.L id).isSome then x.tm id else 0),.int .u64 ((look st.L id).getD 0)] rfl (by simp [Value.oneCell'])
 refine⟨h14,q1,_,cell_lst q2 rfl,?_,q3⟩
 rw [B.ent,Option.isSome_map]
theorem BookP.some_free (B:BookP Own h bb st D x) (hl:st.L.length<64) : ¬ ∀ i:Nat,i<64→x.used[i]? = some true:=by
 intro hall
 have hid : ∀ (i:Nat) (hi:i<64),∃ d,look st.L (x.ids[i]'(by rw [B.il]; exact hi))=some d∧x.tm (x.ids[i]'(by rw [B.il]; exact hi))=i:=by
  intro i hi
  obtain⟨id,d,h1,h2⟩:=B.free i (hall i hi)
  have h3:=(B.tmr id d h1).2.2.1
  rw [h2,Int.toNat_natCast,List.getElem?_eq_getElem (by rw [B.il]; exact hi)] at h3
  have h3:=Option.some.inj h3
  rw [h3]; exact⟨d,h1,h2⟩
 have hnd:x.ids.Nodup:=by
  rw [List.nodup_iff_pairwise_ne,List.pairwise_iff_getElem]
  intro i j hi hj hij e
  rw [B.il] at hi hj
  obtain⟨_,_,h1⟩:=hid i hi
  obtain⟨_,_,h2⟩:=hid j hj
  rw [e,h2] at h1; omega
 have hsub:x.ids ⊆ st.L.map (·.id):=by
  intro v hv
  obtain⟨i,hi,rfl⟩:=List.getElem_of_mem hv
  obtain⟨d,h1,_⟩:=hid i (by rw [B.il] at hi; exact hi)
  exact List.mem_map.2 ⟨_,(look_some B.st.nd).1 h1,rfl⟩
 have:=List.Nodup.length_le_of_subset hnd hsub
 rw [B.il,List.length_map] at this
 omega
theorem bc_used_ld (c:Int) (hi:x.ids.length=64) (hu:x.used.length=64):((bookCells c x).drop (0+67)).take 64=x.used.map Value.bool:=by
 apply List.ext_getElem?
 intro i
 rw [List.getElem?_take]
 by_cases h:i<64
 ·rw [if_pos h,List.getElem?_drop]
  have:x.used[i]? = some (x.used[i]'(by omega)):=List.getElem?_eq_getElem _
  have h2:=bc_used (x:=x) c hi hu this
  rw [Nat.mul_one] at h2
  rw [h2,List.getElem?_map,this]; rfl
 ·rw [if_neg h,List.getElem?_eq_none (by simp; omega)]
theorem timer_spec (B:BookP Own h bb st D x) (hl:st.L.length<64) :
  CallsH PR Git #[.pointer (some ⟨bb,0,none⟩)] h (fun v h'=>h'=h∧∃ t:Nat,v = .int .i64 (t:Nat)∧t<64∧x.used[t]? = some false):=by
 apply Gbl
 unfold Gbk
 refine⟨_,_,rfl,x.used.map Value.bool,?_,fun i hh=>hh=h∧0≤i∧i≤64∧∀ j:Nat,(j:Int)<i→x.used[j]? = some true,fun i _=>(64 - i).toNat,⟨rfl,by omega,by omega,fun j hj=>by omega⟩,?_⟩
 ·rw [ld_lst B.blk _ _ (by rw [bc_len _ B.il B.ul]; omega),bc_used_ld _ B.il B.ul]
 rintro i hh ⟨rfl,i0,i1,hi⟩
 refine⟨fun hlt=>?_,fun hge=>?_⟩
 ·have hn:i.toNat<x.used.length:=by rw [B.ul]; omega
  refine⟨x.used[i.toNat],⟨⟨by omega,by omega⟩,by rw [Nat.mul_one,List.getElem?_map,List.getElem?_eq_getElem hn]; rfl⟩,fun hf=>⟨rfl,i.toNat,by congr 1; omega,by omega,by rw [List.getElem?_eq_getElem hn,hf]⟩,fun ht=>⟨⟨by omega,by omega⟩,⟨rfl,by omega,by omega,fun j hj=>?_⟩,by dsimp only; omega⟩⟩
  by_cases hji:(j:Int)<i
  ·exact hi j hji
  ·have:j=i.toNat:=by omega
   subst this
   rw [List.getElem?_eq_getElem hn,ht]
 ·exact absurd (fun j hj=>hi j (by omega)) (B.some_free hl)
theorem wrap_sub {a b:Int} (h1:b≤a) (h0:0≤b) (h2:a<18446744073709551616):IntKind.u64.wrap (a - b)=a - b:=wrap_u64 (by omega) (by omega)
theorem open_spec (B:BookS Own h bb st) (id dead:Int) (hd0:0≤dead) :
  CallsH PR Gip #[.pointer (some ⟨bb,0,none⟩),.int .i64 id,.int .u64 dead] h
   (fun v h'=>v = .int .i64 (stOpen st id dead).1∧Ch Own h h'∧BookS (Grow Own h h') h' bb (stOpen st id dead).2):=by
 have BS:=B
 have hbnd:=B.bnd
 have hok:=stOpen_ok B.sok id dead
 obtain⟨x,B⟩:=B
 have hcost:=B.st.cost
 have hnow:=B.st.now
 apply Gbd
 unfold Gbc
 unfold stOpen at hok ⊢
 refine⟨_,_,rfl,_,cell_lst B.blk (bc_map _),x.l,x.c,B.all,(if (look st.L id).isSome then x.tm id else 0),(look st.L id).getD 0,?_,?_⟩
 ·rw [B.ent]; cases look st.L id <;> rfl
 intro h11 e11
 obtain⟨h14,q1,q2,q3,q4⟩:=st_tmp (zs:=[_,_]) e11 [.int .i64 (if (look st.L id).isSome then x.tm id else 0),.int .u64 ((look st.L id).getD 0)] rfl (by simp [Value.oneCell'])
 have same:Ch Own h h14∧BookS (Grow Own h h14) h14 bb st:=⟨q3.ch,(BS.ext q3).grow q3.1 hbnd⟩
 refine⟨h14,q1,fun hb=>?_,fun hb=>?_⟩
 ·have hc:id<0∨id > 65535:=by simpa using hb
  rw [if_pos hc]; exact⟨rfl,same⟩
 have hc : ¬ (id<0∨id > 65535):=by simp at hb; omega
 rw [if_neg hc] at hok ⊢
 refine (may_spec dead h14).mono ?_
 rintro _ h17 ⟨rfl,rfl⟩
 refine⟨_,rfl,fun hm=>?_,fun hm=>?_⟩
 ·have hm : ¬ dead<4611686018427387904:=by simpa using hm
  rw [if_pos hm]; exact⟨rfl,same⟩
 have hm:dead<4611686018427387904:=by simpa using hm
 rw [if_neg (fun q=>q hm)] at hok ⊢
 have hsm:(mlook x.l id).isSome=(look st.L id).isSome:=by rw [B.ent,Option.isSome_map]
 rw [hsm]
 refine⟨fun hs=>?_,fun hs=>?_⟩
 ·rw [if_pos hs]; exact⟨rfl,same⟩
 rw [if_neg (by rw [hs]; decide)] at hok ⊢
 refine⟨_,cell_lst (q3.get B.blk) (bc_map _),x.l,x.c,q3.get B.all,?_⟩
 rw [B.len]
 refine⟨fun hl=>?_,fun hl=>?_⟩
 ·rw [if_pos (by omega)]; exact⟨rfl,same⟩
 rw [if_neg (by omega)] at hok ⊢
 refine⟨st.cost,cell_lst (q3.get B.blk) (bc_cost _),st.cost,fun _=>cell_lst (q3.get B.blk) (bc_cost _),_,fun _=>cell_lst (q3.get B.blk) (bc_wheel _),fun x36 h34=>h34=h17∧(¬ dead<st.cost→x36=st.now),?_,?_,?_⟩
 ·rintro x36 h34 ⟨rfl,hx⟩
  have B34:BookP Own h34 bb st D0 x:=B.keep q3.1 fun y hy _=>q3.2 y hy
  refine⟨fun _=>cell_lst B34.blk (bc_cost _),fun hb=>?_,fun hb=>?_⟩
  ·have hden:dead≤st.now+st.cost:=by
    by_cases hlt:dead<st.cost
    ·omega
    ·rw [hx hlt] at hb
     simp only [Bool.or_eq_true,decide_eq_true_eq] at hb
     rw [wrap_sub (by omega) (by omega) (by omega)] at hb
     omega
   rw [if_pos hden]; exact⟨rfl,same⟩
  ·have hlt : ¬ dead<st.cost:=by
    intro q; simp [q] at hb
   rw [hx hlt,wrap_sub (by omega) (by omega) (by omega)] at hb
   have hden : ¬ dead≤st.now+st.cost:=by simp at hb; omega
   rw [if_neg hden] at hok ⊢
   have hln:look st.L id=none:=by simpa using hs
   have hnot : ∀ y∈st.L,y.id≠id:=look_none.1 hln
   refine (timer_spec B34 (by omega)).mono ?_
   rintro _ h40 ⟨rfl,t,rfl,ht,hut⟩
   refine⟨_,rfl,_,cell_lst B34.blk (bc_wheel _),_,cell_lst B34.blk (bc_cost _),?_⟩
   rw [wrap_sub (by omega) (by omega) (by omega)]
   have hSn:x.S (t:Int)=none:=by
    cases hs:x.S (t:Int) with
    | none=>rfl
    | some s=>
     obtain⟨k,d,h1,h2⟩:=B.spot _ _ hs
     have:=(B.tmr k d h1).2.1
     rw [h2,Int.toNat_natCast,hut] at this; cases this
   refine (set_spec B34.wheel ⟨by omega,by omega⟩ hSn (by omega) (by omega)).mono ?_
   rintro _ h48 ⟨rfl,c48,W48⟩
   have hz48:=c48.1
   have k48 : ∀ y,y<h40.size→¬ x.WF y→h48[y]? = h40[y]?:=fun y hy hw=>c48.2 y hy hw
   have b48:h48[bb]? = some (.cells (bookCells st.cost x).toArray ty_life_Book (0,0)):=by rw [k48 _ (lt_of_get B34.blk) B.dis.1]; exact B34.blk
   have m48:h48[x.mo]? = some (mobj ikey x.l x.c):=by rw [k48 _ (lt_of_get B34.all) B.dis.2.1]; exact B34.all
   refine⟨_,rfl,_,cell_lst b48 (bc_map _),⟨by omega,by omega⟩,?_⟩
   rw [Int.toNat_natCast]
   obtain⟨h55,u1,u2,u3,u4⟩:=st_ex (o:=0+67+t * 1) [.bool true] b48 (by rw [bc_len _ B.il B.ul]; simp; omega) (by simp [Value.oneCell'])
   rw [spl_one (by rw [bc_len _ B.il B.ul]; omega),bc_set_used _ B.il B.ul ht] at u2
   have hl2:(x.used.set t true).length=64:=by rw [List.length_set]; exact B.ul
   refine⟨h55,u1,⟨by omega,by omega⟩,?_⟩
   obtain⟨h58,v1,v2,v3,v4⟩:=st_ex (o:=0+3+t * 1) [.int .i64 id] u2 (by rw [bc_len (x:={ x with used:=x.used.set t true }) _ B.il hl2]; simp; omega) (by simp [Value.oneCell'])
   rw [spl_one (by rw [bc_len (x:={ x with used:=x.used.set t true }) _ B.il hl2]; omega),bc_set_id (x:={ x with used:=x.used.set t true }) _ B.il ht] at v2
   have m58:h58[x.mo]? = some (mobj ikey x.l x.c):=by rw [v3 _ B.bm.symm,u3 _ B.bm.symm]; exact m48
   refine⟨h58,v1,x.mo,rfl,x.l,x.c,m58,?_⟩
   intro h64 e64
   obtain⟨w1,w2,w3⟩:=set_get e64 m58
   refine⟨⟨w1,B.ok⟩,?_⟩
   intro h66 e66
   obtain⟨z1,z2,z3⟩:=set_get e66 w1
   have hz:=q3.1
   have k66 : ∀ y,y<h40.size→y≠bb→y≠x.mo→¬ x.WF y→h66[y]? = h40[y]?:=fun y hy a b c=>by rw [z2 y b,w2 y b,v3 y a,u3 y a,k48 y hy c]
   refine⟨rfl,⟨by omega,fun y hy hy'=>?_⟩,?_⟩
   ·rw [k66 y (by omega) (fun e=>hy' (e ▸ B.own.1)) (fun e=>hy' (e ▸ B.own.2.1)) (fun q=>hy' (B.own.2.2.1 y q)),q3.2 y hy]
   ·have hlook : ∀ k,look (ins ⟨id,dead⟩ st.L) k=if k=id then some dead else look st.L k:=fun k=>look_ins B.st.nd hnot k
    refine⟨{ x with l:=mput x.l id (entV t dead) x.c,c:=mclk x.l id x.c,tm:=fun k=>if k=id then (t:Int) else x.tm k,ids:=x.ids.set t id,used:=x.used.set t true,S:=upd x.S (t:Int) (some (spotOf (dead - st.cost) st.now)),WF:=Grow x.WF h40 h48 },?_⟩
    have hWb : ∀ y,x.WF y→y<h40.size:=B34.wheel.bnd
    exact
    {blk:=by
      rw [z2 _ B.bm,w2 _ B.bm]; exact v2
     il:=by show (x.ids.set t id).length=64; rw [List.length_set]; exact B.il
     ul:=hl2
     wheel:=W48.keep (by omega) fun y hy hw=>by
      have n1:y≠bb:=fun e=>by
       rcases hw with q | q
       ·exact B.dis.1 (e ▸ q)
       ·have:=lt_of_get B34.blk; omega
      have n2:y≠x.mo:=fun e=>by
       rcases hw with q | q
       ·exact B.dis.2.1 (e ▸ q)
       ·have:=lt_of_get B34.all; omega
      rw [z2 y n2,w2 y n2,v3 y n1,u3 y n1]
     good:=fun k s hs=>by
      dsimp only at hs
      unfold upd at hs
      split at hs
      ·cases hs
       exact⟨by show st.now<dead - st.cost; omega,rfl⟩
      ·exact B.good k s hs
     all:=z1
     ok:=mput_ok B.ok
     ent:=fun k=>by
      show mlook (mput x.l id (entV t dead) x.c) k=(look (ins ⟨id,dead⟩ st.L) k).map fun d=>entV (if k=id then (t:Int) else x.tm k) d
      rw [mlook_mput,hlook]
      by_cases hk:k=id
      ·simp [hk]
      ·simp only [hk,if_false]; exact B.ent k
     tmr:=fun k e hk=>by
      change look (ins ⟨id,dead⟩ st.L) k=some e at hk
      rw [hlook] at hk
      dsimp only
      by_cases hki:k=id
      ·subst hki
       simp only [if_true,Option.some.injEq] at hk ⊢
       subst hk
       refine⟨⟨by omega,by omega⟩,?_,?_,fun _=>⟨spotOf (dead - st.cost) st.now,upd_same _ _ _,rfl⟩,fun q=>q.elim⟩
       ·rw [Int.toNat_natCast,List.getElem?_set_self (by rw [B.ul]; exact ht)]
       ·rw [Int.toNat_natCast,List.getElem?_set_self (by rw [B.il]; exact ht)]
      ·simp only [hki,if_false] at hk ⊢
       obtain⟨r1,r2,r3,r4⟩:=B.tmr k e hk
       have hne:x.tm k≠(t:Int):=fun q=>by rw [q,Int.toNat_natCast,hut] at r2; cases r2
       have hne2 : ¬ t=(x.tm k).toNat:=by omega
       refine⟨r1,?_,?_,?_⟩
       ·rw [List.getElem?_set_ne hne2]; exact r2
       ·rw [List.getElem?_set_ne hne2]; exact r3
       ·rw [upd_other _ _ hne]; exact r4
     free:=fun i hi=>by
      change (x.used.set t true)[i]? = some true at hi
      show ∃ k d,look (ins ⟨id,dead⟩ st.L) k=some d∧(if k=id then (t:Int) else x.tm k)=i
      rw [List.getElem?_set] at hi
      split at hi
      ·rename_i e; subst e
       exact⟨id,dead,by rw [hlook,if_pos rfl],by rw [if_pos rfl]⟩
      ·obtain⟨k,d,h1,h2⟩:=B.free i hi
       have hki:k≠id:=fun q=>by rw [q,hln] at h1; cases h1
       exact⟨k,d,by rw [hlook,if_neg hki]; exact h1,by rw [if_neg hki]; exact h2⟩
     spot:=fun k s hs=>by
      dsimp only at hs
      show ∃ i d,look (ins ⟨id,dead⟩ st.L) i=some d∧(if i=id then (t:Int) else x.tm i)=k
      unfold upd at hs
      split at hs
      ·rename_i e; subst e
       exact⟨id,dead,by rw [hlook,if_pos rfl],by rw [if_pos rfl]⟩
      ·obtain⟨i,d,h1,h2⟩:=B.spot k s hs
       have hki:i≠id:=fun q=>by rw [q,hln] at h1; cases h1
       exact⟨i,d,by rw [hlook,if_neg hki]; exact h1,by rw [if_neg hki]; exact h2⟩
     fates:=B34.fates.keep fun y hy hb=>k66 y hy (B.fb hb) (B.fm hb) (B.dis.2.2 y hb)
     fl:=B.fl
     own:=⟨.inl B.own.1,.inl B.own.2.1,fun y hy=>by
      rcases hy with q | q
      ·exact .inl (B.own.2.2.1 y q)
      ·exact .inr (by omega),fun y hy=>.inl (B.own.2.2.2 y hy)⟩
     dis:=⟨fun q=>by
      rcases q with q | q
      ·exact B.dis.1 q
      ·have:=lt_of_get B34.blk; omega,fun q=>by
      rcases q with q | q
      ·exact B.dis.2.1 q
      ·have:=lt_of_get B34.all; exact absurd (show h40.size≤x.mo from q.1) (by omega),fun y hy q=>by
      rcases q with q | q
      ·exact B.dis.2.2 y hy q
      ·have:=B34.fates.blk_lt hy; omega⟩
     bnd:=fun y=>Grow.bnd (by omega) hbnd
     st:=hok }
 ·intro _
  refine (now_spec (B.wheel.ext q3)).mono ?_
  rintro _ h34 ⟨rfl,rfl⟩
  exact⟨_,rfl,rfl,fun _=>rfl⟩
 ·intro hlt
  exact⟨0,rfl,fun hn=>absurd hlt hn⟩
end
end Go.Proofs.Vf
namespace Go.VC
theorem Sl.set1 {h:Heap} {e b o n c i:Nat} {vs:List Value} {v:Value} (s:Sl h e 1 (some ⟨b,o,none⟩) n c vs) (hi:i<n) (hv:v.oneCell'=true) :
  ∃ h',stCells b h (o+i * 1) [v]=some h'∧Sl h' e 1 (some ⟨b,o,none⟩) n c (vs.set i v)∧Ch (blkOf (some ⟨b,o,none⟩)) h h':=by
 rcases s.2 with⟨q,_⟩ | ⟨b',o',cur,q,hb,hn,hc,hq⟩
 ·cases q
 cases q
 have hl:=s.1
 simp only [Nat.mul_one] at hq hc hl ⊢
 obtain⟨h',q1,q2,q3,q4⟩:=st_ex (o:=o+i) [v] hb (by simp; omega) (by simpa using hv)
 rw [spl_one (by omega)] at q2
 refine⟨h',q1,⟨by rw [List.length_set]; omega,.inr ⟨b,o,_,rfl,q2,hn,by rw [List.length_set]; omega,?_⟩⟩,⟨by omega,fun x _ hx=>q3 x fun e=>hx (blkOf_some.2 e)⟩⟩
 rw [Nat.mul_one,← hq]
 apply List.ext_getElem?
 intro j
 simp only [List.getElem?_set,List.getElem?_take,List.getElem?_drop,List.length_take,List.length_drop]
 by_cases hj:i=j
 ·subst hj
  rw [if_pos hi,if_pos rfl,if_pos (by omega),if_pos rfl,if_pos (by omega)]
 ·rw [if_neg hj]
  by_cases hjn:j<n
  ·rw [if_pos hjn,if_pos hjn,if_neg (by omega)]
  ·rw [if_neg hjn,if_neg hjn]
end Go.VC
namespace Go.Proofs.Vf
open Go Go.Proofs Go.VC
section
variable {Own:Nat→Prop} {h:Heap} {bb:Nat} {st:St} {x:BX} {D:Int→Prop}
theorem before_spec (B:BookP Own h bb st D x) {a b:One} (ha:a∈st.L) (hb:b∈st.L) :
  CallsH PR Giq #[.pointer (some ⟨bb,0,none⟩),.int .i64 a.id,.int .i64 b.id] h (fun v h'=>v = .bool (less a b)∧h'=h):=by
 have la:look st.L a.id=some a.dead:=(look_some B.st.nd).2 ha
 have lb:look st.L b.id=some b.dead:=(look_some B.st.nd).2 hb
 apply Gbf
 unfold Gbe
 refine⟨_,_,rfl,_,cell_lst B.blk (bc_map _),x.l,x.c,B.all,x.tm a.id,a.dead,by rw [B.ent,la]; rfl,_,cell_lst B.blk (bc_map _),x.l,x.c,B.all,x.tm b.id,b.dead,by rw [B.ent,lb]; rfl,?_,rfl⟩
 rfl
theorem mid_get {α : Type} (A:List α) (y : α) (C:List α):(A ++ y :: C)[A.length]? = some y:=by simp
def idsOf (os:List One):List Value:=os.map fun o=>Value.int .i64 o.id
theorem idsOf_get (A:List One) (y:One) (C:List One):(idsOf (A ++ y :: C))[A.length]? = some (.int .i64 y.id):=by
 unfold idsOf; rw [List.getElem?_map,mid_get]; rfl
theorem idsOf_swap (A:List One) (z y:One) (C:List One):((idsOf (A ++ z :: y :: C)).set (A.length+1) (.int .i64 z.id)).set A.length (.int .i64 y.id)=idsOf (A ++ y :: z :: C):=by
 unfold idsOf
 simp only [List.map_append,List.map_cons]
 rw [List.set_append_right _ _ (by simp),List.set_append_right _ _ (by simp)]
 simp
theorem sorted_spec (B:BookP Own h bb st D x) {ts:List Int} {du:List One} {a:Option Addr} {c:Nat} (s:Sl h ty_int 1 a ts.length c (ts.map (Value.int .i64)))
  (hts:ts=du.map fun o=>x.tm o.id) (hdu : ∀ o∈du,o∈st.L) (hnd:(du.map (·.id)).Nodup) :
  CallsH PR Gis #[.pointer (some ⟨bb,0,none⟩),.slice a ts.length c] h
   (fun v h'=>∃ a' c' os,v = .slice a' (List.length os) c'∧List.Perm os du∧srt os∧Ext h h'∧Sl h' ty_int 1 a' os.length c' (idsOf os)∧∀ y,blkOf a' y→h.size≤y):=by
 have hlen:ts.length=du.length:=by rw [hts,List.length_map]
 have hdl:du.length≤64:=by
  have h1:=B.st.len
  have h2:(du.map (·.id)).length≤(st.L.map (·.id)).length:=List.Nodup.length_le_of_subset hnd (by
   intro v hv
   obtain⟨o,ho,rfl⟩:=List.mem_map.1 hv
   exact List.mem_map.2 ⟨o,hdu o ho,rfl⟩)
  simp only [List.length_map] at h2; omega
 apply Gbj
 unfold Gbi
 refine⟨ts.length,rfl,⟨by omega,by omega,by omega⟩,?_⟩
 intro h1 e1
 obtain⟨p1,p2,p3⟩:=push_get e1
 refine⟨fun a1 n1 c1 i hh=>0≤i∧i≤ts.length∧(n1:Int)=i∧Ext h hh∧Sl hh ty_int 1 a1 n1 c1 (idsOf (du.take i.toNat))∧∀ y,blkOf a1 y→h.size≤y,fun _ _ _ i _=>(ts.length - i).toNat,
  ⟨by omega,by omega,rfl,p2,⟨by simp [idsOf],.inr ⟨_,_,(madeCells ((Value.int .i64 0)).cells (ts.length * 1)).toList,rfl,p1,by omega,?_,by simp [idsOf]⟩⟩,fun y hy=>by rw [blkOf_some] at hy; omega⟩,?_⟩
 ·simp [madeCells,Value.cells]
 rintro a1 n1 c1 i hh ⟨i0,i1,hn,xx,sl,hf⟩
 refine⟨fun hlt=>?_,fun hge=>?_⟩
 ·have hi:i.toNat<du.length:=by omega
  obtain⟨o,ho⟩ : ∃ o,du[i.toNat]=o:=⟨_,rfl⟩
  have hmem:o∈st.L:=ho ▸ hdu _ (List.getElem_mem hi)
  have hlk:look st.L o.id=some o.dead:=(look_some B.st.nd).2 hmem
  obtain⟨⟨t0,t1⟩,_,hid,_⟩:=B.tmr _ _ hlk
  obtain⟨b,off,rfl,hc⟩:=(s.ext xx).get (i:=i.toNat) (v:=.int .i64 (x.tm o.id)) (by rw [hts,List.map_map,List.getElem?_map,List.getElem?_eq_getElem hi,ho]; rfl)
  refine⟨b,off,rfl,⟨i0,hlt⟩,x.tm o.id,by rw [Nat.mul_one]; exact hc,_,_,rfl,⟨t0,t1⟩,o.id,cell_lst (xx.get B.blk) (bc_id _ hid),?_⟩
  intro h25 e25
  obtain⟨q1,q2,q3⟩:=push_get e25
  refine (sl.ext q2).append (m:=1) rfl (by simp [Value.oneCell']) rfl ⟨by omega,by omega,by omega⟩ ?_
  intro a' c' h' s' c'' hf'
  have hz:=xx.1; have hz':=q2.1; have hz'':=c''.1
  refine⟨⟨by omega,by omega⟩,⟨by omega,by omega,by omega,⟨by omega,fun y hy=>?_⟩,?_,fun y hy=>?_⟩,by dsimp only; omega⟩
  ·rw [c''.2 y (by omega) (fun q=>by have:=hf y q; omega),q2.2 y (by omega),xx.2 y hy]
  ·have e:(i+1).toNat=i.toNat+1:=by omega
   rw [e,List.take_add_one,List.getElem?_eq_getElem hi,ho]
   unfold idsOf at s' ⊢
   rw [List.map_append]; exact s'
  ·rcases hf' y hy with q | q
   ·exact hf y q
   ·omega
 ·have hi:i.toNat=du.length:=by omega
  rw [hi,List.take_length] at sl
  have hn1:n1=du.length:=by omega
  subst hn1
  refine⟨fun k hh=>0≤k∧k≤du.length∧Ext h hh∧∃ os:List One,os.Perm du∧srt (os.take k.toNat)∧Sl hh ty_int 1 a1 du.length c1 (idsOf os),fun k _=>(du.length - k).toNat,⟨by omega,by omega,xx,du,.refl _,by simp [srt],sl⟩,?_⟩
  rintro k hh ⟨k0,k1,xk,os,hp,hs,slk⟩
  have hol:=hp.length_eq
  refine⟨fun hklt=>?_,fun hkge=>?_⟩
  ·have hkn:k.toNat<os.length:=by omega
   refine⟨fun m hh=>∃ A y Bs C,0≤m∧Ext h hh∧(A ++ y :: (Bs ++ C)).Perm du∧(A.length:Int)=m∧(A.length+Bs.length:Int)=k∧srt (A ++ Bs)∧(∀ z∈Bs,less y z=true)∧Sl hh ty_int 1 a1 du.length c1 (idsOf (A ++ y :: (Bs ++ C))),fun m _=>m.toNat,
    ⟨os.take k.toNat,os[k.toNat],[],os.drop (k.toNat+1),k0,xk,?_,by rw [List.length_take]; omega,by rw [List.length_take]; simp; omega,by rw [List.append_nil]; exact hs,fun z hz=>(by cases hz),?_⟩,?_⟩
   ·rw [List.nil_append,← List.drop_eq_getElem_cons hkn,List.take_append_drop]; exact hp
   ·rw [List.nil_append,← List.drop_eq_getElem_cons hkn,List.take_append_drop]; exact slk
   rintro m h46 ⟨A,y,Bs,C,m0,x46,hpm,hA,hAB,hsr,hall,slm⟩
   have hmem : ∀ o,o∈A ++ y :: (Bs ++ C)→o∈st.L:=fun o ho=>hdu o (hpm.mem_iff.1 ho)
   have hndm:((A ++ y :: (Bs ++ C)).map (·.id)).Nodup:=(hpm.map (·.id)).nodup_iff.2 hnd
   have hlm:=hpm.length_eq
   simp only [List.length_append,List.length_cons] at hlm
   have fin:srt (A ++ y :: Bs)→(-9223372036854775808≤k+1∧k+1<9223372036854775808)∧((0≤k+1∧k+1≤du.length∧Ext h h46∧∃ os:List One,os.Perm du∧srt (os.take (k+1).toNat)∧Sl h46 ty_int 1 a1 du.length c1 (idsOf os))∧((du.length:Int) - (k+1)).toNat<((du.length:Int) - k).toNat):=by
    intro hsr2
    refine⟨⟨by omega,by omega⟩,⟨by omega,by omega,x46,_,hpm,?_,slm⟩,by omega⟩
    have e:(k+1).toNat=(A ++ y :: Bs).length:=by simp; omega
    have e2:A ++ y :: (Bs ++ C)=(A ++ y :: Bs) ++ C:=by simp
    rw [e,e2,List.take_left]; exact hsr2
   rcases List.eq_nil_or_concat A with rfl | ⟨A',z,rfl⟩
   ·have hm:m=0:=by simpa using hA.symm
    subst hm
    refine⟨0,0,fun q=>absurd q (by omega),fun q=>absurd q (by omega),0,fun q=>absurd q (by omega),0,0,fun q=>absurd q (by omega),fun q=>absurd q (by omega),0,fun q=>absurd q (by omega),fun _ h61=>h61=h46,?_,fun q=>absurd q (by omega),fun _=>⟨false,rfl⟩⟩
    rintro b h61 rfl
    refine⟨fun q=>by simp at q,fun _=>?_⟩
    apply fin
    rw [List.nil_append] at hsr ⊢
    exact List.pairwise_cons.2 ⟨hall,hsr⟩
   ·simp only [List.concat_eq_append] at *
    have hAl:(A'.length:Int)=m - 1:=by simp at hA; omega
    have hm1:0<m:=by omega
    have hml:m.toNat=(A' ++ [z]).length:=by simp; omega
    have hml1:(m - 1).toNat=A'.length:=by omega
    have ew:IntKind.i64.wrap (m - 1)=m - 1:=wrap_i64 ⟨by omega,by omega⟩
    have el:A' ++ [z] ++ y :: (Bs ++ C)=A' ++ z :: y :: (Bs ++ C):=by simp
    have gy:(idsOf (A' ++ [z] ++ y :: (Bs ++ C)))[m.toNat]? = some (.int .i64 y.id):=by rw [hml]; exact idsOf_get _ _ _
    have gz:(idsOf (A' ++ [z] ++ y :: (Bs ++ C)))[(m - 1).toNat]? = some (.int .i64 z.id):=by rw [hml1,el]; exact idsOf_get _ _ _
    obtain⟨b,off,rfl,cy⟩:=slm.get gy
    obtain⟨b',off',eq',cz⟩:=slm.get gz
    cases eq'
    have hzy:z.id≠y.id:=by
     intro e
     rw [el,List.map_append,List.map_cons,List.map_cons,List.nodup_append] at hndm
     have:=(List.nodup_cons.1 hndm.2.1).1
     exact this (by rw [e]; simp)
    have B46:BookP Own h46 bb st D x:=B.ext x46
    refine⟨b,off,fun _=>rfl,fun _=>⟨by omega,by omega⟩,y.id,fun _=>by rw [Nat.mul_one]; exact cy,b,off,fun _=>rfl,fun _=>by rw [ew]; exact⟨by omega,by omega⟩,z.id,fun _=>by rw [ew,Nat.mul_one]; exact cz,fun bo h61=>h61=h46∧bo=less y z,?_,fun _=>?_,fun q=>absurd hm1 q⟩
    ·rintro bo h61 ⟨rfl,rfl⟩
     refine⟨fun hb=>?_,fun hb=>?_⟩
     ·have hyz:less y z=true:=by simp at hb; exact hb.2
      refine⟨⟨by omega,by omega⟩,⟨by omega,by omega⟩,b,off,rfl,⟨by omega,by omega⟩,z.id,by rw [Nat.mul_one]; exact cz,⟨by omega,by omega⟩,y.id,by rw [Nat.mul_one]; exact cy,⟨by omega,by omega⟩,?_⟩
      obtain⟨h78,u1,u2,u3⟩:=slm.set1 (i:=m.toNat) (v:=.int .i64 z.id) (by omega) rfl
      obtain⟨h81,v1,v2,v3⟩:=u2.set1 (i:=(m - 1).toNat) (v:=.int .i64 y.id) (by omega) rfl
      have em:m.toNat=A'.length+1:=by omega
      rw [em,hml1,el,idsOf_swap] at v2
      refine⟨h78,u1,⟨by omega,by omega⟩,h81,v1,⟨by omega,by omega⟩,⟨A',y,z :: Bs,C,by omega,?_,?_,hAl,?_,?_,?_,v2⟩,by omega⟩
      ·have hz:=x46.1
       refine⟨by have:=u3.1; have:=v3.1; omega,fun w hw=>?_⟩
       have hnb : ¬ blkOf (some ⟨b,off,none⟩) w:=fun q=>by have:=hf w q; omega
       rw [v3.2 w (by have:=u3.1; omega) hnb,u3.2 w (by omega) hnb,x46.2 w hw]
      ·refine List.Perm.trans ?_ hpm
       rw [el]
       exact (List.Perm.swap z y _).append_left A'
      ·simp at hAB ⊢; omega
      ·have:A' ++ z :: Bs=A' ++ [z] ++ Bs:=by simp
       rw [this]; exact hsr
      ·intro w hw
       rcases List.mem_cons.1 hw with rfl | hw
       ·exact hyz
       ·exact hall w hw
     ·have hyz:less y z=false:=by simp [hm1] at hb; exact hb
      apply fin
      have hzy2:less z y=true:=by
       rcases less_tri hzy with q | q
       ·exact q
       ·rw [hyz] at q; cases q
      unfold srt at hsr ⊢
      rw [List.pairwise_append] at hsr ⊢
      obtain⟨s1,s2,s3⟩:=hsr
      refine⟨s1,List.pairwise_cons.2 ⟨hall,s2⟩,fun p hp q hq=>?_⟩
      rcases List.mem_cons.1 hq with rfl | hq
      ·rcases List.mem_append.1 hp with hp | hp
       ·have:=(List.pairwise_append.1 s1).2.2 p hp z (by simp)
        exact less_trans this hzy2
       ·simp only [List.mem_singleton] at hp; subst hp; exact hzy2
      ·exact s3 p hp q hq
    ·refine (before_spec B46 (hmem y (by simp)) (hmem z (by simp))).mono ?_
     rintro _ _ ⟨rfl,rfl⟩
     exact⟨_,rfl,rfl,rfl⟩
  ·have hk:k.toNat=os.length:=by omega
   rw [hk,List.take_length] at hs
   refine⟨a1,c1,os,by rw [hol],hp,hs,xk,by rw [hol]; exact slk,hf⟩
end
end Go.Proofs.Vf
namespace Go.Proofs.Vf
open Go Go.Proofs Go.VC
theorem exists_map {α β : Type} {f : β→α} {P : β→Prop} : ∀ {l:List α},(∀ v∈l,∃ o,P o∧f o=v)→∃ du:List β,l=du.map f∧∀ o∈du,P o
 | [],_=>⟨[],rfl,fun _ h=>by cases h⟩
 | v :: l,h=>by
  obtain⟨o,h1,h2⟩:=h v (by simp)
  obtain⟨du,h3,h4⟩:=exists_map (l:=l) fun w hw=>h w (by simp [hw])
  refine⟨o :: du,by rw [List.map_cons,h2,← h3],fun p hp=>?_⟩
  rcases List.mem_cons.1 hp with rfl | hp
  ·exact h1
  ·exact h4 p hp
theorem nodup_of_map {α β : Type} {f : α→β} {l:List α} (h:(l.map f).Nodup):l.Nodup:=by
 rw [List.nodup_iff_pairwise_ne,List.pairwise_map] at h
 exact List.nodup_iff_pairwise_ne.2 (h.imp fun hab e=>hab (by rw [e]))
theorem srt_nodup {L:List One} (h:srt L):L.Nodup:=by
 refine List.nodup_iff_pairwise_ne.2 (List.Pairwise.imp (fun {a b} hab e=>?_) h)
 subst e
 have:=less_asymm hab
 rw [hab] at this; cases this
theorem srt_unique {L M:List One} (hp:L.Perm M) (h1:srt L) (h2:srt M):L=M:=by
 refine List.Perm.eq_of_pairwise (le:=fun a b=>less a b=true) ?_ h1 h2 hp
 intro a b _ _ hab hba
 have:=less_asymm hab
 rw [hba] at this; cases this
theorem nd_inj {L:List One} (hn:(L.map (·.id)).Nodup) {a b:One} (ha:a∈L) (hb:b∈L) (e:a.id=b.id):a=b:=by
 have h1:=(look_some hn (id:=a.id) (d:=a.dead)).2 ha
 have h2:=(look_some hn (id:=b.id) (d:=b.dead)).2 hb
 rw [e,h2] at h1
 cases a; cases b
 simp at e h1 ⊢
 exact⟨e,h1.symm⟩
section
variable {Own:Nat→Prop} {h:Heap} {bb:Nat} {st:St} {x:BX} {D:Int→Prop}
theorem bgo_spec (B:BookS Own h bb st) (hF:st.F.length<900000) {t:Int} (h0:0≤t) :
  CallsH PR Gin #[.pointer (some ⟨bb,0,none⟩),.int .u64 t] h
   (fun v h'=>∃ a c Own',v = .tuple #[.slice a (stGo st t).2.1.length c,.int .i64 (stGo st t).1]∧BookS Own' h' bb (stGo st t).2.2∧Ch Own h h'∧(∀ y,Own' y→Own y∨h.size≤y) ∧
    Sl h' ty_api_Fate 3 a (stGo st t).2.1.length c (flat (stGo st t).2.1)∧∀ y,blkOf a y→¬ Own' y∧(Own y∨h.size≤y)):=by
 have BS:=B
 have hbnd:=B.bnd
 have hok:=stGo_ok B.sok h0
 obtain⟨x,B⟩:=B
 have hcost:=B.st.cost
 apply Gb9
 unfold Gb8
 refine⟨_,_,rfl,_,cell_lst B.blk (bc_wheel _),?_⟩
 refine (go_spec B.wheel B.good h0).mono ?_
 rintro _ h6 (⟨hv,rfl,rfl⟩ | ⟨hv,hlt,rfl,rfl⟩ | ⟨hv,hge,a,n,c,F,ids,rfl,I⟩)
 ·have e:stGo st t=(2,[],st):=by unfold stGo; rw [if_pos (by omega)]
  refine⟨_,_,_,_,rfl,fun _=>?_,fun q=>absurd q (by decide)⟩
  rw [e]
  exact⟨none,0,Own,rfl,BS,Ch.refl _ _,fun y=>.inl,Sl.nil _ _ _,fun y hy=>absurd hy not_blkOf_none⟩
 ·have e:stGo st t=(1,[],st):=by unfold stGo; rw [if_neg (by omega),if_pos hlt]
  refine⟨_,_,_,_,rfl,fun _=>?_,fun q=>absurd q (by decide)⟩
  rw [e]
  exact⟨none,0,Own,rfl,BS,Ch.refl _ _,fun y=>.inl,Sl.nil _ _ _,fun y hy=>absurd hy not_blkOf_none⟩
 have e:stGo st t=(0,st.F ++ (st.L.filter (dueBy st.cost t)).map byTime,{ st with now:=t,L:=st.L.filter (fun x=>!dueBy st.cost t x),F:=[] }):=by
  unfold stGo; rw [if_neg (by omega),if_neg (by omega)]
 rw [e] at hok ⊢
 refine⟨_,_,_,_,rfl,fun q=>absurd rfl q,fun _=>?_⟩
 have hz6:=I.ch.1
 obtain rfl:ids.length=n:=I.len
 obtain⟨D,hD⟩ : ∃ D:Int→Prop,D=fun id=>∃ d,look st.L id=some d∧d - st.cost≤t:=⟨_,rfl⟩
 have hFout : ∀ y,y<h.size→¬ x.WF y→¬ F y:=fun y hy hw hf=>by
  rcases I.foot y hf with q | q
  ·exact hw q
  ·omega
 have hfa : ∀ y,blkOf x.fa y→y<h.size:=fun y hy=>hbnd y (B.own.2.2.2 y hy)
 have B6:BookP (fun y=>Own y∨F y) h6 bb { st with now:=t } D { x with S:=left x.S t,WF:=F }:=
  {B with
   blk:=by rw [I.ch.2 _ (lt_of_get B.blk) B.dis.1]; exact B.blk
   wheel:=I.wheel
   good:=left_good _ _
   all:=by
    show h6[x.mo]? = _
    rw [I.ch.2 _ (lt_of_get B.all) B.dis.2.1]; exact B.all
   tmr:=fun id d hd=>by
    obtain⟨r1,r2,r3,r4,_⟩:=B.tmr id d hd
    obtain⟨s,hs,hst⟩:=r4 (fun q=>q)
    refine⟨r1,r2,r3,fun hn=>?_,fun hy=>?_⟩
    ·have:t<s.t:=by
      rw [hst]
      by_cases hq:d - st.cost≤t
      ·exact absurd (by rw [hD]; exact⟨d,hd,hq⟩) hn
      ·omega
     exact⟨_,left_of hs this,hst⟩
    ·rw [hD] at hy
     obtain⟨d',h1,h2⟩:=hy
     change look st.L id=some d at hd
     rw [hd] at h1; cases h1
     exact left_none hs (by omega)
   spot:=fun k s hs=>by
    obtain⟨s0,h1,_,_⟩:=left_some hs
    exact B.spot k s0 h1
   fates:=B.fates.keep fun y hy hb=>I.ch.2 y hy (B.dis.2.2 y hb)
   own:=⟨.inl B.own.1,.inl B.own.2.1,fun y hy=>.inr hy,fun y hy=>.inl (B.own.2.2.2 y hy)⟩
   dis:=⟨hFout _ (lt_of_get B.blk) B.dis.1,hFout _ (lt_of_get B.all) B.dis.2.1,fun y hy=>hFout y (hfa y hy) (B.dis.2.2 y hy)⟩
   bnd:=fun y hy=>by
    rcases hy with q | q
    ·have:=hbnd y q; omega
    ·exact I.wheel.bnd y q
   st:=by
    refine⟨B.st.cost,⟨h0,hv⟩,B.st.srt,B.st.nd,fun o ho=>?_,B.st.len⟩
    have r:=B.st.rng o ho
    refine⟨r.1,r.2.1,fun hn=>?_,r.2.2.2⟩
    have hl:=(look_some B.st.nd (id:=o.id) (d:=o.dead)).2 ho
    rw [hD] at hn
    by_cases hq:o.dead - st.cost≤t
    ·exact absurd ⟨o.dead,hl,hq⟩ hn
    ·show t+st.cost<o.dead
     omega }
 obtain⟨du,hdu,hdP⟩ : ∃ du:List One,ids=du.map (fun o=>x.tm o.id)∧∀ o∈du,o∈st.L∧o.dead - st.cost≤t:=by
  refine exists_map fun v hv=>?_
  obtain⟨s,hs,hle⟩:=(I.mem v).1 hv
  obtain⟨id,d,h1,h2⟩:=B.spot v s hs
  obtain⟨_,_,_,r4,_⟩:=B.tmr id d h1
  obtain⟨s',hs',hst⟩:=r4 (fun q=>q)
  rw [h2,hs] at hs'; cases hs'
  exact⟨⟨id,d⟩,⟨(look_some B.st.nd).1 h1,by show d - st.cost≤t; omega⟩,h2⟩
 have hdn:du.Nodup:=nodup_of_map (hdu ▸ I.nodup)
 have hdn2:(du.map (·.id)).Nodup:=by
  have h1:(du.map fun o=>x.tm o.id).Nodup:=hdu ▸ I.nodup
  have h2:(du.map fun o=>x.tm o.id)=(du.map (·.id)).map x.tm:=by rw [List.map_map]; rfl
  rw [h2] at h1
  exact nodup_of_map h1
 have hdm : ∀ o,o∈du↔o∈st.L.filter (dueBy st.cost t):=by
  intro o
  rw [List.mem_filter,dueBy,decide_eq_true_eq]
  constructor
  ·exact hdP o
  ·rintro⟨h1,h2⟩
   have hl:=(look_some B.st.nd (id:=o.id) (d:=o.dead)).2 h1
   obtain⟨_,_,_,r4,_⟩:=B.tmr _ _ hl
   obtain⟨s,hs,hst⟩:=r4 (fun q=>q)
   have:x.tm o.id∈ids:=(I.mem _).2 ⟨s,hs,by omega⟩
   rw [hdu] at this
   obtain⟨o',h3,h4⟩:=List.mem_map.1 this
   have h5:=(hdP o' h3).1
   have h6:=B.tm_inj ((look_some B.st.nd (id:=o'.id) (d:=o'.dead)).2 h5) hl h4
   rw [← nd_inj B.st.nd h5 h1 h6]; exact h3
 refine (sorted_spec B6 I.out hdu (fun o ho=>(hdP o ho).1) hdn2).mono ?_
 rintro _ h11 ⟨a',c',os,rfl,hperm,hsrt,x11,s11,hfr⟩
 have hos:os=st.L.filter (dueBy st.cost t):=by
  refine srt_unique (hperm.trans ?_) hsrt (List.Pairwise.sublist List.filter_sublist B.st.srt)
  rw [List.perm_ext_iff_of_nodup hdn ((srt_nodup B.st.srt).sublist List.filter_sublist)]
  exact hdm
 have hosm : ∀ o∈os,o∈st.L:=fun o ho=>by rw [hos] at ho; exact (List.mem_filter.1 ho).1
 have hosn:os.Nodup:=hperm.nodup_iff.2 hdn
 have hosl:os.length≤64:=by
  have h1:=B.st.len
  have h2:os.length≤st.L.length:=by rw [hos]; exact List.length_filter_le _ _
  omega
 refine⟨_,_,_,rfl,fun i hh=>0≤i∧i≤os.length∧Ch (fun y=>Own y∨F y) h11 hh∧∃ xi,BookP (Grow (fun y=>Own y∨F y) h11 hh) hh bb { st with now:=t,L:=st.L.filter (fun o=>decide (o ∉ os.take i.toNat)),F:=st.F ++ (os.take i.toNat).map byTime } D xi,
  fun i _=>(os.length - i).toNat,⟨by omega,by omega,Ch.refl _ _,{ x with S:=left x.S t,WF:=F },?_⟩,?_⟩
 ·have e1:st.L.filter (fun o=>decide (o ∉ os.take (0:Int).toNat))=st.L:=by
   rw [List.filter_eq_self]; intro o _; simp
  have e2:st.F ++ (os.take (0:Int).toNat).map byTime=st.F:=by simp
  rw [e1,e2]
  exact (B6.ext x11).mono (fun _=>.inl) (fun y=>Grow.bnd (Nat.le_refl _) (B6.ext x11).bnd)
 rintro i hh ⟨i0,i1,ch,xi,Bi⟩
 have hOb : ∀ y,Own y∨F y→y<h6.size:=B6.bnd
 have sli:Sl hh ty_int 1 a' os.length c' (idsOf os):=s11.ch ch fun y hy hq=>by
  have:=hfr y hy; have:=hOb y hq; omega
 have hz11:=x11.1
 refine⟨fun hlt=>?_,fun hge2=>?_⟩
 ·have hi:i.toNat<os.length:=by omega
  obtain⟨o,ho⟩ : ∃ o,os[i.toNat]=o:=⟨_,rfl⟩
  have hmem:o∈os:=ho ▸ List.getElem_mem hi
  obtain⟨b,off,rfl,hc⟩:=sli.get (i:=i.toNat) (v:=.int .i64 o.id) (by unfold idsOf; rw [List.getElem?_map,List.getElem?_eq_getElem hi,ho]; rfl)
  have hnt:o ∉ os.take i.toNat:=by
   intro hin
   rw [List.mem_take_iff_getElem] at hin
   obtain⟨q,hq,he⟩:=hin
   have:=List.pairwise_iff_getElem.1 hosn q i.toNat (by omega) hi (by omega)
   exact this (he.trans ho.symm)
  refine⟨b,off,rfl,⟨i0,hlt⟩,o.id,by rw [Nat.mul_one]; exact hc,?_⟩
  refine (outD_spec Bi (by simp; omega) o.id 2 1).mono ?_
  rintro _ h26 ⟨rfl,c26,x26,B26⟩
  refine⟨_,rfl,⟨by omega,by omega⟩,⟨by omega,by omega,ch.grow_trans c26,x26,?_⟩,by dsimp only; omega⟩
  have hin:o∈st.L.filter (fun o=>decide (o ∉ os.take i.toNat)):=List.mem_filter.2 ⟨hosm o hmem,by simpa using hnt⟩
  have hlk:=(look_some Bi.st.nd (id:=o.id) (d:=o.dead)).2 hin
  have est:(stOut { st with now:=t,L:=st.L.filter (fun o=>decide (o ∉ os.take i.toNat)),F:=st.F ++ (os.take i.toNat).map byTime } o.id 2 1).2 =
    {st with now:=t,L:=st.L.filter (fun o=>decide (o ∉ os.take (i+1).toNat)),F:=st.F ++ (os.take (i+1).toNat).map byTime }:=by
   unfold stOut
   rw [if_pos (by rw [hlk]; rfl)]
   have e:(i+1).toNat=i.toNat+1:=by omega
   have e3:os.take (i+1).toNat=os.take i.toNat ++ [o]:=by rw [e,List.take_add_one,List.getElem?_eq_getElem hi,ho]; rfl
   have hL:del o.id (st.L.filter (fun o=>decide (o ∉ os.take i.toNat)))=st.L.filter (fun y=>decide (y ∉ os.take i.toNat ++ [o])):=by
    unfold del
    rw [List.filter_filter]
    apply List.filter_congr
    intro y hy
    by_cases hyo:y=o
    ·subst hyo; simp
    ·have:y.id≠o.id:=fun q=>hyo (nd_inj B.st.nd hy (hosm o hmem) q)
     simp [this,hyo]
   rw [e3,← hL,List.map_append,← List.append_assoc]
   rfl
  rw [← est]
  have g26:=ch.1; have g26':=c26.1
  exact B26.mono (fun y hy=>Grow.trans g26 g26' hy) (fun y=>Grow.bnd (by omega) (B6.ext x11).bnd)
 ·have hi:i.toNat=os.length:=by omega
  have eL:st.L.filter (fun o=>decide (o ∉ os.take i.toNat))=st.L.filter (fun x=>!dueBy st.cost t x):=by
   apply List.filter_congr
   intro y hy
   rw [hi,List.take_length,hos]
   simp [hy]
  have eF:st.F ++ (os.take i.toNat).map byTime=st.F ++ (st.L.filter (dueBy st.cost t)).map byTime:=by rw [hi,List.take_length,hos]
  rw [eL,eF] at Bi
  have hz:=ch.1
  refine⟨_,_,_,cell_lst Bi.blk (bc_fates _ Bi.il Bi.ul),?_⟩
  obtain⟨h33,v1,v2,v3,v4⟩:=st_ex (o:=0+131) [.slice none 0 0] Bi.blk (by rw [bc_len _ Bi.il Bi.ul]; simp) (by simp [Value.oneCell'])
  rw [spl_one (by rw [bc_len _ Bi.il Bi.ul]; omega),bc_set_fates _ Bi.il Bi.ul] at v2
  have hfl:=Bi.fl
  have hgrow : ∀ y,Grow (fun y=>Own y∨F y) h11 hh y→Own y∨h.size≤y:=fun y hy=>by
   rcases hy with (q | q) | q
   ·exact .inl q
   ·rcases I.foot y q with r | r
    ·exact .inl (B.own.2.2.1 y r)
    ·exact .inr r
   ·exact .inr (by omega)
  refine⟨h33,v1,xi.fa,xi.fc,fun y=>Grow (fun y=>Own y∨F y) h11 hh y∧¬ blkOf xi.fa y,?_,⟨{ xi with fa:=none,fn:=0,fc:=0 },?_⟩,?_,fun y hy=>hgrow y hy.1,?_,fun y hy=>⟨fun q=>q.2 hy,hgrow y (Bi.own.2.2.2 y hy)⟩⟩
  ·rw [hfl]
  ·have hkeep : ∀ y,y≠bb→h33[y]? = hh[y]?:=v3
   exact
   {blk:=v2
    il:=Bi.il
    ul:=Bi.ul
    wheel:=Bi.wheel.keep (by omega) fun y _ hw=>hkeep y fun e=>Bi.dis.1 (e ▸ hw)
    good:=Bi.good
    all:=by
     show h33[xi.mo]? = _
     rw [hkeep _ Bi.bm.symm]; exact Bi.all
    ok:=Bi.ok
    ent:=Bi.ent
    tmr:=fun id d hd=>by
     obtain⟨r1,r2,r3,r4,_⟩:=Bi.tmr id d hd
     refine⟨r1,r2,r3,fun _=>r4 ?_,fun q=>q.elim⟩
     rw [hD]
     rintro⟨d',h1,h2⟩
     have h3:=(look_some Bi.st.nd).1 hd
     obtain⟨h4,h5⟩:=List.mem_filter.1 h3
     have h6:=(look_some B.st.nd).2 h4
     rw [h1] at h6; cases h6
     simp [dueBy] at h5; omega
    free:=Bi.free
    spot:=Bi.spot
    fates:=Sl.nil _ _ _
    fl:=rfl
    own:=⟨⟨Bi.own.1,fun q=>Bi.fb q rfl⟩,⟨Bi.own.2.1,fun q=>Bi.fm q rfl⟩,fun y hy=>⟨Bi.own.2.2.1 y hy,fun q=>Bi.dis.2.2 y q hy⟩,fun y hy=>absurd hy not_blkOf_none⟩
    dis:=⟨Bi.dis.1,Bi.dis.2.1,fun y hy=>absurd hy not_blkOf_none⟩
    bnd:=fun y hy=>by have:=Bi.bnd y hy.1; omega
    st:=hok }
  ·have hbb:=B.own.1
   refine⟨by omega,fun y hy hn=>?_⟩
   have n1:y≠bb:=fun q=>hn (q ▸ hbb)
   have nF : ¬ F y:=fun q=>by
    rcases I.foot y q with r | r
    ·exact hn (B.own.2.2.1 y r)
    ·omega
   rw [v3 y n1,ch.2 y (by omega) (fun q=>q.elim hn nF),x11.2 y (by omega),I.ch.2 y hy (fun q=>hn (B.own.2.2.1 y q))]
  ·have:=Bi.fates
   rw [hfl] at this
   exact this.keep fun y _ hb=>v3 y (Bi.fb hb)
end
set_option maxRecDepth 8000 in
theorem bnew_spec (h:Heap) {cost:Int} (hc:1≤cost∧cost≤1000) :
  CallsH PR Giu #[.int .u64 cost] h (fun v h'=>∃ bb,v = .tuple #[.pointer (some ⟨bb,0,none⟩),.int .i64 0]∧Ext h h'∧BookS (fun y=>h.size≤y∧y<h'.size) h' bb ⟨cost,0,[],[]⟩):=by
 apply Gbn
 unfold Gbm
 refine⟨fun hb=>by simp at hb; omega,fun _=>?_⟩
 refine (new_spec h).mono ?_
 rintro _ h3 ⟨wb,rfl,hwb,x3,W3⟩
 refine⟨_,rfl,?_⟩
 intro h6 e6 h8 e8
 obtain⟨p1,p2,p3⟩:=push_get e6
 obtain⟨q1,q2,q3⟩:=push_get e8
 have hz:=x3.1
 refine⟨h6.size,rfl,x3.trans (p2.trans q2),⟨wb,h3.size,[],0,fun _=>0,List.replicate 64 0,List.replicate 64 false,fun _=>none,fun y=>h.size≤y∧y<h3.size,none,0,0⟩,?_⟩
 exact
 {blk:=q1
  il:=by simp
  ul:=by simp
  wheel:=W3.ext (p2.trans q2)
  good:=fun _ _ h=>by cases h
  all:=q2.get p1
  ok:=mapOk_nil _ _
  ent:=fun _=>rfl
  tmr:=fun _ _ h=>by cases h
  free:=fun i hi=>by
   dsimp only at hi
   rw [List.getElem?_replicate] at hi
   split at hi <;> cases hi
  spot:=fun _ _ h=>by cases h
  fates:=Sl.nil _ _ _
  fl:=rfl
  own:=⟨⟨by omega,by omega⟩,⟨by dsimp only; omega,by dsimp only; omega⟩,fun y hy=>⟨hy.1,by have:=hy.2; omega⟩,fun y hy=>absurd hy not_blkOf_none⟩
  dis:=⟨fun q=>by have:=q.2; omega,fun q=>by have:=q.2; dsimp only at this; omega,fun y hy=>absurd hy not_blkOf_none⟩
  bnd:=fun y hy=>hy.2
  st:=⟨hc,⟨by dsimp only; omega,by dsimp only; omega⟩,List.Pairwise.nil,List.nodup_nil,fun _ h=>(by cases h),by simp⟩ }
end Go.Proofs.Vf
