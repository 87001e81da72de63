/- Contracts of functions of the program over the heap, and laws that follow from them. Conditions: as stated at each. -/
import Derived.Test.YtcldahgjomfbpaaGreatRows
import Derived.WalkKit
import Derived.ProofKit
import Derived.OpenShut
import Derived.Test.YtcldahgjomfbpaaGreatQ
import Derived.Deep.Slices
namespace Go.Proofs.Vf
open Go Go.RowKit Go.VC Go.ChangeShapes Go.WideShapes Go.ChangeAt
def Quiet (w w':World):Prop:=Ext w.heap w'.heap∧Same w w'
theorem Quiet.frame {w w':World} (q:Quiet w w') (may:MemPlace→Prop):w.keptBut w' may:=by
 obtain⟨x,s⟩:=q
 refine⟨s.2.1,s.2.2,fun i hi=>?_⟩
 rw [x.2 i hi]
 cases w.heap[i]? with
 | none=>rfl
 | some o=>cases o with
  | cells c t fr=>exact⟨rfl,rfl,rfl,fun _ _=>rfl⟩
  | map es clock=>exact .inr ⟨rfl,rfl⟩
  | _=>rfl
theorem quiet_of {P:Program} {g:FuncId} {args:Array Value} {w:World} (H:CallsH P g args w.heap (fun v h'=>v = .bool true∧Ext w.heap h')):Calls P g args w fun e w'=>e = .returned (.bool true)∧Quiet w w':=
 (H w rfl).mono fun _ _ ⟨_,he,⟨hv,hx⟩,hs⟩=>⟨by rw [he,hv],hx,hs⟩
end Go.Proofs.Vf
namespace Go.Proofs.Vf
open Go Go.RowKit Go.VC Go.ChangeShapes Go.WideShapes Go.ChangeAt
theorem Quiet.below {w w':World} (q:Quiet w w'):Below w.heap.size w w':=⟨q.2.2.1,q.2.1,q.2.2.2,q.1.1,q.1.2⟩
def IsRow (k:IntKind) (w:World) (a:Option Addr) (len cap:Nat) (zs:List Int):Prop:=
 (a=none∧len=0∧cap=0∧zs = []) ∨
 ∃ x,a=some x∧len≤cap∧cap≤maxLen∧zs.length=cap∧(∀ i,i<zs.length→w.cell? (x.add i)=some (.int k (zs.getD i 0)))∧∀ n∈zs,(Lit.int k n).wf=true
theorem spot_none {w:World} {x:Addr} {v:Value} (h:w.cell? x=some v):x.spot=none:=by
 simp only [World.cell?] at h
 split at h
 ·cases hs:x.spot with
  | none=>rfl
  | some q=>simp [hs] at h
 ·cases h
theorem cell_plain {w:World} {b o:Nat} {v:Value} (h:w.cell? ⟨b,o,none⟩=some v):cellH w.heap b o=some v:=by
 simp only [World.cell?] at h
 unfold cellH
 split at h
 ·rename_i c t fr hb
  rw [hb]; simpa using h
 ·cases h
theorem cell_at {w:World} {x:Addr} {v0 v:Value} {i:Nat} (h0:w.cell? (x.add 0)=some v0) (h:w.cell? (x.add i)=some v) : ∃ b o,x=⟨b,o,none⟩∧cellH w.heap b (o+i)=some v:=by
 have h0:w.cell? x=some v0:=by simpa [Addr.add] using h0
 have hs:=spot_none h0
 obtain⟨b,o,s⟩:=x
 simp only at hs
 subst hs
 refine⟨b,o,rfl,cell_plain ?_⟩
 unfold Addr.add at h
 split at h
 ·rename_i e; subst e; exact h
 ·exact h
theorem IsRow.arg {k:IntKind} {w:World} {a:Option Addr} {len cap:Nat} {zs:List Int} (r:IsRow k w a len cap zs) :
  len=(zs.take len).length∧ArgI w.heap k a (zs.take len)∧∀ n∈zs.take len,(Lit.int k n).wf=true:=by
 rcases r with⟨rfl,rfl,rfl,rfl⟩ | ⟨x,rfl,h1,h2,h3,h4,h5⟩
 ·exact⟨rfl,fun i v hv=>by simp at hv,fun n hn=>by simp at hn⟩
 ·refine⟨by rw [List.length_take]; omega,fun i v hv=>?_,fun n hn=>h5 n (List.mem_of_mem_take hn)⟩
  rw [List.getElem?_take] at hv
  split at hv
  ·have hi:i<zs.length:=(List.getElem?_eq_some_iff.1 hv).1
   have:=h4 i hi
   rw [List.getD_eq_getElem?_getD,hv] at this
   obtain⟨b,o,rfl,hc⟩:=cell_at (h4 0 (by omega)) this
   exact⟨b,o,rfl,hc⟩
  ·cases hv
end Go.Proofs.Vf
namespace Go.Proofs.Vf
open Go Go.RowKit Go.VC Go.ChangeShapes Go.WideShapes Go.ChangeAt Go.Deep
theorem list12 {α : Type} {l:List α} (h:l.length=12) : ∃ a b c d e f g i j k m n,l = [a,b,c,d,e,f,g,i,j,k,m,n]:=by
 match l,h with
 | [a,b,c,d,e,f,g,i,j,k,m,n],_=>exact⟨a,b,c,d,e,f,g,i,j,k,m,n,rfl⟩
section
variable {H:Type} {enc:TypeId × Value→H} {W:World} {fuel:Nat} {x:DataW H × List MemPlace}
theorem one_int {v:Value} {o:Option (DataW H × List MemPlace)} {t:TypeId} {k:IntKind} (ht:Tryz.prog.underlying t=some (.int k)) (h:DataW.trod enc Tryz.prog W 0 (fun _=>true) true fuel t [v]=o) (ho:o.isSome=true) : ∃ n,v = .int k n∧(Lit.int k n).wf=true:=by
 obtain⟨y,hy⟩:=Option.isSome_iff_exists.1 ho
 rw [hy] at h
 obtain⟨n,e,_,w⟩:=DataW.trod_int ht h
 simp at e
 exact⟨n,e,w⟩
theorem some_at {α : Type} {l:List α} {i:Nat} (h:i<l.length):(l[i]?).isSome=true:=by rw [List.getElem?_eq_getElem h]; rfl
set_option maxRecDepth 100000 in
theorem do_one {cs:List Value} (h:DataW.trod enc Tryz.prog W 0 (fun _=>true) true fuel 93 cs=some x) (hl:cs.length=12) :
  ∃ (d:DoV) (bs:List Int),cs=doV d∧(0≤d.r.dead∧d.r.dead<18446744073709551616)∧(-9223372036854775808≤d.at_∧d.at_<9223372036854775808)∧ArgI W.heap .u8 d.ba bs∧d.bn=bs.length:=by
 obtain⟨v0,v1,v2,v3,v4,v5,v6,v7,v8,v9,v10,v11,rfl⟩:=list12 hl
 have c3:Tryz.prog.cellsOf 3=1:=by kernel_rfl
 have c37:Tryz.prog.cellsOf 37=1:=by kernel_rfl
 have c43:Tryz.prog.cellsOf 43=8:=by kernel_rfl
 have c41:Tryz.prog.cellsOf 41=4:=by kernel_rfl
 have c39:Tryz.prog.cellsOf 39=2:=by kernel_rfl
 have c23:Tryz.prog.cellsOf 23=1:=by kernel_rfl
 obtain⟨xs,m,_,_,_,hxl,hf⟩:=DataW.trod_struct Tryz.underlying93 h
 have n5:xs.length=5:=hxl
 have g0:=hf 0 _ rfl
 have g1:=hf 1 _ rfl
 have g2:=hf 2 _ rfl
 have g3:=hf 3 _ rfl
 have g4:=hf 4 _ rfl
 simp [c3,c43,c23] at g0 g1 g2 g3 g4
 obtain⟨k0,rfl,_⟩:=one_int Tryz.underlying3 g0 (some_at (by omega))
 obtain⟨k9,rfl,_⟩:=one_int Tryz.underlying3 g2 (some_at (by omega))
 obtain⟨k10,rfl,w10⟩:=one_int Tryz.underlying3 g3 (some_at (by omega))
 obtain⟨y1,hy1⟩:=Option.isSome_iff_exists.1 (some_at (l:=xs) (i:=1) (by omega))
 rw [hy1] at g1
 obtain⟨ys,m2,_,_,_,hyl,hg⟩:=DataW.trod_struct Tryz.underlying43 g1
 have n5':ys.length=5:=hyl
 have q0:=hg 0 _ rfl
 have q1:=hg 1 _ rfl
 have q2:=hg 2 _ rfl
 have q3:=hg 3 _ rfl
 have q4:=hg 4 _ rfl
 simp [c3,c37,c41] at q0 q1 q2 q3 q4
 obtain⟨k1,rfl,_⟩:=one_int Tryz.underlying3 q0 (some_at (by omega))
 obtain⟨k2,rfl,_⟩:=one_int Tryz.underlying3 q1 (some_at (by omega))
 obtain⟨k3,rfl,w3⟩:=one_int Tryz.underlying37 q2 (some_at (by omega))
 obtain⟨k4,rfl,_⟩:=one_int Tryz.underlying3 q3 (some_at (by omega))
 obtain⟨y4,hy4⟩:=Option.isSome_iff_exists.1 (some_at (l:=ys) (i:=4) (by omega))
 rw [hy4] at q4
 obtain⟨zs,m3,_,_,_,hzl,hz⟩:=DataW.trod_struct Tryz.underlying41 q4
 have n3:zs.length=3:=hzl
 have p0:=hz 0 _ rfl
 have p1:=hz 1 _ rfl
 have p2:=hz 2 _ rfl
 simp [c3,c39] at p0 p1 p2
 obtain⟨k7,rfl,_⟩:=one_int Tryz.underlying3 p1 (some_at (by omega))
 obtain⟨k8,rfl,_⟩:=one_int Tryz.underlying3 p2 (some_at (by omega))
 obtain⟨y0,hy0⟩:=Option.isSome_iff_exists.1 (some_at (l:=zs) (i:=0) (by omega))
 rw [hy0] at p0
 obtain⟨us,m4,_,_,_,hul,hu⟩:=DataW.trod_struct Tryz.underlying39 p0
 have n2:us.length=2:=hul
 have r0:=hu 0 _ rfl
 have r1:=hu 1 _ rfl
 simp [c3,c37] at r0 r1
 obtain⟨k5,rfl,_⟩:=one_int Tryz.underlying3 r0 (some_at (by omega))
 obtain⟨k6,rfl,_⟩:=one_int Tryz.underlying37 r1 (some_at (by omega))
 obtain⟨yb,hyb⟩:=Option.isSome_iff_exists.1 (some_at (l:=xs) (i:=4) (by omega))
 rw [hyb] at g4
 obtain⟨ba,bn,bc,zb,rfl,wb⟩ : ∃ ba bn bc zb,v11 = .slice ba bn bc∧IsRow .u8 W ba bn bc zb:=by
  rcases open_ints Tryz.underlying23 Tryz.underlying5 (by kernel_rfl) g4 with⟨hcs,_⟩ | ⟨x,l,c,zs,hcs,_,hl,hm,hz,_,hcell,hwz⟩
  ·simp at hcs
   exact⟨none,0,0,[],hcs,.inl ⟨rfl,rfl,rfl,rfl⟩⟩
  ·simp at hcs
   exact⟨some x,l,c,zs,hcs,.inr ⟨_,rfl,hl,hm,by simpa using hz,hcell,hwz⟩⟩
 obtain⟨e1,A1,_⟩:=wb.arg
 simp [Lit.wf,IntKind.bits,IntKind.signed,IntKind.min,IntKind.max] at w10 w3
 exact⟨⟨k0,⟨k1,k2,k3,k4,⟨k5,k6,k7,k8⟩⟩,k9,k10,ba,bn,bc⟩,zb.take bn,rfl,⟨by dsimp only; omega,by dsimp only; omega⟩,⟨by dsimp only; omega,by dsimp only; omega⟩,A1,e1⟩
theorem doArg_of {a:Option Addr} {len cap:Nat} (hf:DataW.trod enc Tryz.prog W 0 (fun _=>true) true fuel 83 [.slice a len cap]=some x):DoArg W.heap a len∧len≤9223372036854775807:=by
 rcases open_slice Tryz.underlying83 hf with⟨hcs,_⟩ | ⟨A,l,c,m,n,D,Pl,hcs,hb,hl,hm,hmm,_,hx⟩
 ·simp at hcs
  exact⟨fun i hi=>by omega,by omega⟩
 simp only [List.cons.injEq,Value.slice.injEq,and_true] at hcs
 obtain⟨rfl,rfl,rfl⟩:=hcs
 have ce:Tryz.prog.cellsOf 93=12:=by kernel_rfl
 have mx:maxLen≤9223372036854775807:=by decide
 refine⟨fun i hi=>?_,by omega⟩
 have each : ∀ i,i<len→∃ (d:DoV) (bs:List Int),(∀ j,j<12→W.cell? (A.add (i * 12+j))=(doV d)[j]?)∧(0≤d.r.dead∧d.r.dead<18446744073709551616)∧(-9223372036854775808≤d.at_∧d.at_<9223372036854775808)∧ArgI W.heap .u8 d.ba bs∧d.bn=bs.length:=by
  intro i hi
  obtain⟨cs',h1,h2⟩:=hx i (by simp at hmm; omega)
  rw [ce] at h1
  obtain⟨_,hlen,hcell⟩:=World.cells?_some h1
  obtain⟨d,bs,rfl,r⟩:=do_one h2 hlen
  exact⟨d,bs,fun j hj=>by rw [← hcell j hj,add_add],r⟩
 obtain⟨d0,_,z0,_⟩:=each 0 (by omega)
 have z00:=z0 0 (by omega)
 obtain⟨d,bs,hc,r1,r2,r3,r4⟩:=each i hi
 have z000:W.cell? (A.add 0)=some (.int .i64 d0.k):=by rw [Nat.zero_mul] at z00; exact z00
 obtain⟨b,o,e,_⟩:=cell_at z000 z000
 subst e
 refine⟨b,o,d,bs,rfl,?_,r1,r2,r3,r4⟩
 refine ldc_of (vs:=doV d) fun j v hv=>?_
 have hj:j<12:=(List.getElem?_eq_some_iff.1 hv).1
 have:=hc j hj
 rw [hv] at this
 obtain⟨b',o',e',q⟩:=cell_at z000 this
 cases e'
 rw [Nat.add_assoc]
 exact q
end
end Go.Proofs.Vf
